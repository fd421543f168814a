/- Of the law: texts of its proof, joined (part 36). -/
import Derived.Test.YtkedcelpadiakaaGreatQcc32
set_option linter.all false
namespace Go.Proofs.YtkedcelpadiakaaGreat
open Go Go.Abs
def ccC_0 : List Line := ([64] : List Nat).map (conL 1)
theorem ccC_0_all : ∀ x ∈ ccC_0, LineOK Tryz.prog 56 x.1 x.2 := ok_of (noSpec_good _) (show Seen noSpec 56 ccC_0 from by unfold Seen; kernel_rfl)
def ccC_1 : List Line := ([520, 4168, 4609, 4161] : List Nat).map (conL 2)
theorem ccC_1_all : ∀ x ∈ ccC_1, LineOK Tryz.prog 56 x.1 x.2 := ok_of (noSpec_good _) (show Seen noSpec 56 ccC_1 from by unfold Seen; kernel_rfl)
def ccC_2 : List Line := ([69768, 41096, 66184, 270984, 296072, 5256, 69712, 41040, 328272, 270928, 296016, 267344, 69761, 303233, 66177, 270977, 296065, 267393, 331793, 303121, 328209, 270865, 295953, 267281, 331842, 303170, 328258, 270914, 296002, 267330, 69642, 303114, 328202, 270858, 295946, 5130] : List Nat).map (conL 3)
theorem ccC_2_all : ∀ x ∈ ccC_2, LineOK Tryz.prog 56 x.1 x.2 := ok_of (noSpec_good _) (show Seen noSpec 56 ccC_2 from by unfold Seen; kernel_rfl)
def ccC_3 : List Line := ([6850184, 5015176, 6620808, 2950792, 4556424, 2721416, 6821512, 4986504, 6362760, 17634952, 21075592, 628360, 6563464, 19670664, 6334088, 829064, 2205320, 17147528, 21247624, 2635400, 4241032, 571016, 18953864, 341640, 6849736, 5014728, 6620360, 2950344, 4555976, 2720968, 6821064, 4986056, 23139528, 17634504, 21075144, 17405128, 23340232, 19670216, 6333640, 828616] : List Nat).map (conL 4)
theorem ccC_3_all : ∀ x ∈ ccC_3, LineOK Tryz.prog 56 x.1 x.2 := ok_of (noSpec_good _) (show Seen noSpec 56 ccC_3 from by unfold Seen; kernel_rfl)
def ccC_4 : List Line := ([18982088, 17147080, 21247176, 19412168, 4240584, 570568, 18953416, 17118408, 6850128, 5015120, 6620752, 2950736, 4556368, 2721360, 6821456, 21763664, 6362704, 17634896, 21075536, 17405520, 6563408, 19670608, 6334032, 17606224, 18982480, 17147472, 21247568, 19412560, 21018192, 570960, 18953808, 341584, 6849232, 5014224, 6619856, 2949840, 4555472, 2720464, 23597776, 21762768] : List Nat).map (conL 4)
theorem ccC_4_all : ∀ x ∈ ccC_4, LineOK Tryz.prog 56 x.1 x.2 := ok_of (noSpec_good _) (show Seen noSpec 56 ccC_4 from by unfold Seen; kernel_rfl)
end Go.Proofs.YtkedcelpadiakaaGreat
