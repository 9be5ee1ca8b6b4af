/-
  Made by a program of mine: the table of types, and the plans for the regions whose order is drawn.
-/
import Derived.Test.YtbpggglkmdgpoaaGreatSxO
import Derived.Test.YtbpggglkmdgpoaaGreatProg
set_option linter.all false
set_option linter.unusedSimpArgs false
set_option linter.unusedVariables false
namespace Go.Sx
open Go
def y1 : Ty := ⟨.func #[] #[] false, 1, 8, [.v .nilFunc]⟩
@[simp] theorem y1_s : y1.size = 1 := rfl
@[simp] theorem y1_b : y1.bytes = 8 := rfl
@[simp] theorem y1_z : y1.zero = [.v .nilFunc] := rfl
@[simp] theorem y1_z0 : y1.z0 = .v .nilFunc := rfl
def y2 : Ty := ⟨.int .i64, 1, 8, [.int 0]⟩
@[simp] theorem y2_s : y2.size = 1 := rfl
@[simp] theorem y2_b : y2.bytes = 8 := rfl
@[simp] theorem y2_z : y2.zero = [.int 0] := rfl
@[simp] theorem y2_z0 : y2.z0 = .int 0 := rfl
def y3 : Ty := ⟨.int .i64, 1, 8, [.int 0]⟩
@[simp] theorem y3_s : y3.size = 1 := rfl
@[simp] theorem y3_b : y3.bytes = 8 := rfl
@[simp] theorem y3_z : y3.zero = [.int 0] := rfl
@[simp] theorem y3_z0 : y3.z0 = .int 0 := rfl
def y4 : Ty := ⟨.bool, 1, 1, [.bol false]⟩
@[simp] theorem y4_s : y4.size = 1 := rfl
@[simp] theorem y4_b : y4.bytes = 1 := rfl
@[simp] theorem y4_z : y4.zero = [.bol false] := rfl
@[simp] theorem y4_z0 : y4.z0 = .bol false := rfl
def y5 : Ty := ⟨.int .u8, 1, 1, [.w8 0]⟩
@[simp] theorem y5_s : y5.size = 1 := rfl
@[simp] theorem y5_b : y5.bytes = 1 := rfl
@[simp] theorem y5_z : y5.zero = [.w8 0] := rfl
@[simp] theorem y5_z0 : y5.z0 = .w8 0 := rfl
def y6 : Ty := ⟨.int .u8, 1, 1, [.w8 0]⟩
@[simp] theorem y6_s : y6.size = 1 := rfl
@[simp] theorem y6_b : y6.bytes = 1 := rfl
@[simp] theorem y6_z : y6.zero = [.w8 0] := rfl
@[simp] theorem y6_z0 : y6.z0 = .w8 0 := rfl
def y7 : Ty := ⟨.struct #[⟨"", 2, 0, false, "", "", 0⟩, ⟨"", 3, 1, false, "", "", 0⟩, ⟨"", 4, 2, false, "", "", 0⟩, ⟨"", 6, 3, false, "", "", 0⟩], 4, 24, [.int 0, .int 0] ++ ([.bol false] ++ ([.w8 0]))⟩
@[simp] theorem y7_s : y7.size = 4 := rfl
@[simp] theorem y7_b : y7.bytes = 24 := rfl
@[simp] theorem y7_z : y7.zero = [.int 0, .int 0] ++ ([.bol false] ++ ([.w8 0])) := rfl
@[simp] theorem y7_z0 : y7.z0 = .int 0 := rfl
def y8 : Ty := ⟨.struct #[⟨"", 2, 0, false, "", "", 0⟩, ⟨"", 3, 1, false, "", "", 0⟩, ⟨"", 4, 2, false, "", "", 0⟩, ⟨"", 6, 3, false, "", "", 0⟩], 4, 24, [.int 0, .int 0] ++ ([.bol false] ++ ([.w8 0]))⟩
@[simp] theorem y8_s : y8.size = 4 := rfl
@[simp] theorem y8_b : y8.bytes = 24 := rfl
@[simp] theorem y8_z : y8.zero = [.int 0, .int 0] ++ ([.bol false] ++ ([.w8 0])) := rfl
@[simp] theorem y8_z0 : y8.z0 = .int 0 := rfl
def y9 : Ty := ⟨.string, 1, 16, [.v (.string default)]⟩
@[simp] theorem y9_s : y9.size = 1 := rfl
@[simp] theorem y9_b : y9.bytes = 16 := rfl
@[simp] theorem y9_z : y9.zero = [.v (.string default)] := rfl
@[simp] theorem y9_z0 : y9.z0 = .v (.string default) := rfl
def y10 : Ty := ⟨.string, 1, 16, [.v (.string default)]⟩
@[simp] theorem y10_s : y10.size = 1 := rfl
@[simp] theorem y10_b : y10.bytes = 16 := rfl
@[simp] theorem y10_z : y10.zero = [.v (.string default)] := rfl
@[simp] theorem y10_z0 : y10.z0 = .v (.string default) := rfl
def y11 : Ty := ⟨.string, 1, 16, [.v (.string default)]⟩
@[simp] theorem y11_s : y11.size = 1 := rfl
@[simp] theorem y11_b : y11.bytes = 16 := rfl
@[simp] theorem y11_z : y11.zero = [.v (.string default)] := rfl
@[simp] theorem y11_z0 : y11.z0 = .v (.string default) := rfl
def y12 : Ty := ⟨.int .u64, 1, 8, [.w64 0]⟩
@[simp] theorem y12_s : y12.size = 1 := rfl
@[simp] theorem y12_b : y12.bytes = 8 := rfl
@[simp] theorem y12_z : y12.zero = [.w64 0] := rfl
@[simp] theorem y12_z0 : y12.z0 = .w64 0 := rfl
def y13 : Ty := ⟨.struct #[⟨"", 9, 0, false, "", "", 0⟩, ⟨"", 12, 1, false, "", "", 0⟩], 2, 24, [.v (.string default)] ++ ([.w64 0])⟩
@[simp] theorem y13_s : y13.size = 2 := rfl
@[simp] theorem y13_b : y13.bytes = 24 := rfl
@[simp] theorem y13_z : y13.zero = [.v (.string default)] ++ ([.w64 0]) := rfl
@[simp] theorem y13_z0 : y13.z0 = .v (.string default) := rfl
def y14 : Ty := ⟨.struct #[⟨"", 9, 0, false, "", "", 0⟩, ⟨"", 12, 1, false, "", "", 0⟩], 2, 24, [.v (.string default)] ++ ([.w64 0])⟩
@[simp] theorem y14_s : y14.size = 2 := rfl
@[simp] theorem y14_b : y14.bytes = 24 := rfl
@[simp] theorem y14_z : y14.zero = [.v (.string default)] ++ ([.w64 0]) := rfl
@[simp] theorem y14_z0 : y14.z0 = .v (.string default) := rfl
def y15 : Ty := ⟨.pointer 313, 1, 8, [.v (.pointer none)]⟩
@[simp] theorem y15_s : y15.size = 1 := rfl
@[simp] theorem y15_b : y15.bytes = 8 := rfl
@[simp] theorem y15_z : y15.zero = [.v (.pointer none)] := rfl
@[simp] theorem y15_z0 : y15.z0 = .v (.pointer none) := rfl
def y16 : Ty := ⟨.pointer 316, 1, 8, [.v (.pointer none)]⟩
@[simp] theorem y16_s : y16.size = 1 := rfl
@[simp] theorem y16_b : y16.bytes = 8 := rfl
@[simp] theorem y16_z : y16.zero = [.v (.pointer none)] := rfl
@[simp] theorem y16_z0 : y16.z0 = .v (.pointer none) := rfl
def y17 : Ty := ⟨.pointer 324, 1, 8, [.v (.pointer none)]⟩
@[simp] theorem y17_s : y17.size = 1 := rfl
@[simp] theorem y17_b : y17.bytes = 8 := rfl
@[simp] theorem y17_z : y17.zero = [.v (.pointer none)] := rfl
@[simp] theorem y17_z0 : y17.z0 = .v (.pointer none) := rfl
def y18 : Ty := ⟨.struct #[⟨"", 17, 0, false, "", "", 0⟩], 1, 8, [.v (.pointer none)]⟩
@[simp] theorem y18_s : y18.size = 1 := rfl
@[simp] theorem y18_b : y18.bytes = 8 := rfl
@[simp] theorem y18_z : y18.zero = [.v (.pointer none)] := rfl
@[simp] theorem y18_z0 : y18.z0 = .v (.pointer none) := rfl
def y19 : Ty := ⟨.struct #[⟨"", 17, 0, false, "", "", 0⟩], 1, 8, [.v (.pointer none)]⟩
@[simp] theorem y19_s : y19.size = 1 := rfl
@[simp] theorem y19_b : y19.bytes = 8 := rfl
@[simp] theorem y19_z : y19.zero = [.v (.pointer none)] := rfl
@[simp] theorem y19_z0 : y19.z0 = .v (.pointer none) := rfl
def y20 : Ty := ⟨.interface #[], 1, 16, [.v .nilIface]⟩
@[simp] theorem y20_s : y20.size = 1 := rfl
@[simp] theorem y20_b : y20.bytes = 16 := rfl
@[simp] theorem y20_z : y20.zero = [.v .nilIface] := rfl
@[simp] theorem y20_z0 : y20.z0 = .v .nilIface := rfl
def y21 : Ty := ⟨.int .i32, 1, 4, [.v (.int .i32 0)]⟩
@[simp] theorem y21_s : y21.size = 1 := rfl
@[simp] theorem y21_b : y21.bytes = 4 := rfl
@[simp] theorem y21_z : y21.zero = [.v (.int .i32 0)] := rfl
@[simp] theorem y21_z0 : y21.z0 = .v (.int .i32 0) := rfl
def y22 : Ty := ⟨.slice 5, 1, 24, [.v (.slice none 0 0)]⟩
@[simp] theorem y22_s : y22.size = 1 := rfl
@[simp] theorem y22_b : y22.bytes = 24 := rfl
@[simp] theorem y22_z : y22.zero = [.v (.slice none 0 0)] := rfl
@[simp] theorem y22_z0 : y22.z0 = .v (.slice none 0 0) := rfl
def y23 : Ty := ⟨.slice 22, 1, 24, [.v (.slice none 0 0)]⟩
@[simp] theorem y23_s : y23.size = 1 := rfl
@[simp] theorem y23_b : y23.bytes = 24 := rfl
@[simp] theorem y23_z : y23.zero = [.v (.slice none 0 0)] := rfl
@[simp] theorem y23_z0 : y23.z0 = .v (.slice none 0 0) := rfl
def y24 : Ty := ⟨.slice 127, 1, 24, [.v (.slice none 0 0)]⟩
@[simp] theorem y24_s : y24.size = 1 := rfl
@[simp] theorem y24_b : y24.bytes = 24 := rfl
@[simp] theorem y24_z : y24.zero = [.v (.slice none 0 0)] := rfl
@[simp] theorem y24_z0 : y24.z0 = .v (.slice none 0 0) := rfl
def y25 : Ty := ⟨.slice 129, 1, 24, [.v (.slice none 0 0)]⟩
@[simp] theorem y25_s : y25.size = 1 := rfl
@[simp] theorem y25_b : y25.bytes = 24 := rfl
@[simp] theorem y25_z : y25.zero = [.v (.slice none 0 0)] := rfl
@[simp] theorem y25_z0 : y25.z0 = .v (.slice none 0 0) := rfl
def y26 : Ty := ⟨.int .u32, 1, 4, [.w32 0]⟩
@[simp] theorem y26_s : y26.size = 1 := rfl
@[simp] theorem y26_b : y26.bytes = 4 := rfl
@[simp] theorem y26_z : y26.zero = [.w32 0] := rfl
@[simp] theorem y26_z0 : y26.z0 = .w32 0 := rfl
def y27 : Ty := ⟨.struct #[⟨"", 21, 0, false, "", "", 0⟩, ⟨"", 24, 1, false, "", "", 0⟩, ⟨"", 25, 2, false, "", "", 0⟩, ⟨"", 26, 3, false, "", "", 0⟩], 4, 64, [.v (.int .i32 0)] ++ ([.v (.slice none 0 0), .v (.slice none 0 0)] ++ ([.w32 0]))⟩
@[simp] theorem y27_s : y27.size = 4 := rfl
@[simp] theorem y27_b : y27.bytes = 64 := rfl
@[simp] theorem y27_z : y27.zero = [.v (.int .i32 0)] ++ ([.v (.slice none 0 0), .v (.slice none 0 0)] ++ ([.w32 0])) := rfl
@[simp] theorem y27_z0 : y27.z0 = .v (.int .i32 0) := rfl
def y28 : Ty := ⟨.struct #[⟨"", 21, 0, false, "", "", 0⟩, ⟨"", 24, 1, false, "", "", 0⟩, ⟨"", 25, 2, false, "", "", 0⟩, ⟨"", 26, 3, false, "", "", 0⟩], 4, 64, [.v (.int .i32 0)] ++ ([.v (.slice none 0 0), .v (.slice none 0 0)] ++ ([.w32 0]))⟩
@[simp] theorem y28_s : y28.size = 4 := rfl
@[simp] theorem y28_b : y28.bytes = 64 := rfl
@[simp] theorem y28_z : y28.zero = [.v (.int .i32 0)] ++ ([.v (.slice none 0 0), .v (.slice none 0 0)] ++ ([.w32 0])) := rfl
@[simp] theorem y28_z0 : y28.z0 = .v (.int .i32 0) := rfl
def y29 : Ty := ⟨.struct #[⟨"", 28, 0, false, "", "", 0⟩, ⟨"", 3, 4, false, "", "", 0⟩, ⟨"", 2, 5, false, "", "", 0⟩, ⟨"", 4, 6, false, "", "", 0⟩], 7, 88, [.v (.int .i32 0)] ++ ([.v (.slice none 0 0), .v (.slice none 0 0)] ++ ([.w32 0] ++ ([.int 0, .int 0] ++ ([.bol false]))))⟩
@[simp] theorem y29_s : y29.size = 7 := rfl
@[simp] theorem y29_b : y29.bytes = 88 := rfl
@[simp] theorem y29_z : y29.zero = [.v (.int .i32 0)] ++ ([.v (.slice none 0 0), .v (.slice none 0 0)] ++ ([.w32 0] ++ ([.int 0, .int 0] ++ ([.bol false])))) := rfl
@[simp] theorem y29_z0 : y29.z0 = .v (.int .i32 0) := rfl
def y30 : Ty := ⟨.struct #[⟨"", 28, 0, false, "", "", 0⟩, ⟨"", 3, 4, false, "", "", 0⟩, ⟨"", 2, 5, false, "", "", 0⟩, ⟨"", 4, 6, false, "", "", 0⟩], 7, 88, [.v (.int .i32 0)] ++ ([.v (.slice none 0 0), .v (.slice none 0 0)] ++ ([.w32 0] ++ ([.int 0, .int 0] ++ ([.bol false]))))⟩
@[simp] theorem y30_s : y30.size = 7 := rfl
@[simp] theorem y30_b : y30.bytes = 88 := rfl
@[simp] theorem y30_z : y30.zero = [.v (.int .i32 0)] ++ ([.v (.slice none 0 0), .v (.slice none 0 0)] ++ ([.w32 0] ++ ([.int 0, .int 0] ++ ([.bol false])))) := rfl
@[simp] theorem y30_z0 : y30.z0 = .v (.int .i32 0) := rfl
def y31 : Ty := ⟨.func #[] #[] false, 1, 8, [.v .nilFunc]⟩
@[simp] theorem y31_s : y31.size = 1 := rfl
@[simp] theorem y31_b : y31.bytes = 8 := rfl
@[simp] theorem y31_z : y31.zero = [.v .nilFunc] := rfl
@[simp] theorem y31_z0 : y31.z0 = .v .nilFunc := rfl
def y32 : Ty := ⟨.func #[] #[] false, 1, 8, [.v .nilFunc]⟩
@[simp] theorem y32_s : y32.size = 1 := rfl
@[simp] theorem y32_b : y32.bytes = 8 := rfl
@[simp] theorem y32_z : y32.zero = [.v .nilFunc] := rfl
@[simp] theorem y32_z0 : y32.z0 = .v .nilFunc := rfl
def y33 : Ty := ⟨.func #[] #[] false, 1, 8, [.v .nilFunc]⟩
@[simp] theorem y33_s : y33.size = 1 := rfl
@[simp] theorem y33_b : y33.bytes = 8 := rfl
@[simp] theorem y33_z : y33.zero = [.v .nilFunc] := rfl
@[simp] theorem y33_z0 : y33.z0 = .v .nilFunc := rfl
def y35 : Ty := ⟨.func #[] #[] false, 1, 8, [.v .nilFunc]⟩
@[simp] theorem y35_s : y35.size = 1 := rfl
@[simp] theorem y35_b : y35.bytes = 8 := rfl
@[simp] theorem y35_z : y35.zero = [.v .nilFunc] := rfl
@[simp] theorem y35_z0 : y35.z0 = .v .nilFunc := rfl
def y36 : Ty := ⟨.int .i64, 1, 8, [.int 0]⟩
@[simp] theorem y36_s : y36.size = 1 := rfl
@[simp] theorem y36_b : y36.bytes = 8 := rfl
@[simp] theorem y36_z : y36.zero = [.int 0] := rfl
@[simp] theorem y36_z0 : y36.z0 = .int 0 := rfl
def y38 : Ty := ⟨.func #[] #[] false, 1, 8, [.v .nilFunc]⟩
@[simp] theorem y38_s : y38.size = 1 := rfl
@[simp] theorem y38_b : y38.bytes = 8 := rfl
@[simp] theorem y38_z : y38.zero = [.v .nilFunc] := rfl
@[simp] theorem y38_z0 : y38.z0 = .v .nilFunc := rfl
def y39 : Ty := ⟨.struct #[⟨"", 28, 0, false, "", "", 0⟩, ⟨"", 3, 4, false, "", "", 0⟩, ⟨"", 2, 5, false, "", "", 0⟩, ⟨"", 4, 6, false, "", "", 0⟩], 7, 88, [.v (.int .i32 0)] ++ ([.v (.slice none 0 0), .v (.slice none 0 0)] ++ ([.w32 0] ++ ([.int 0, .int 0] ++ ([.bol false]))))⟩
@[simp] theorem y39_s : y39.size = 7 := rfl
@[simp] theorem y39_b : y39.bytes = 88 := rfl
@[simp] theorem y39_z : y39.zero = [.v (.int .i32 0)] ++ ([.v (.slice none 0 0), .v (.slice none 0 0)] ++ ([.w32 0] ++ ([.int 0, .int 0] ++ ([.bol false])))) := rfl
@[simp] theorem y39_z0 : y39.z0 = .v (.int .i32 0) := rfl
def y40 : Ty := ⟨.func #[] #[] false, 1, 8, [.v .nilFunc]⟩
@[simp] theorem y40_s : y40.size = 1 := rfl
@[simp] theorem y40_b : y40.bytes = 8 := rfl
@[simp] theorem y40_z : y40.zero = [.v .nilFunc] := rfl
@[simp] theorem y40_z0 : y40.z0 = .v .nilFunc := rfl
def y42 : Ty := ⟨.func #[] #[] false, 1, 8, [.v .nilFunc]⟩
@[simp] theorem y42_s : y42.size = 1 := rfl
@[simp] theorem y42_b : y42.bytes = 8 := rfl
@[simp] theorem y42_z : y42.zero = [.v .nilFunc] := rfl
@[simp] theorem y42_z0 : y42.z0 = .v .nilFunc := rfl
def y43 : Ty := ⟨.func #[] #[] false, 1, 8, [.v .nilFunc]⟩
@[simp] theorem y43_s : y43.size = 1 := rfl
@[simp] theorem y43_b : y43.bytes = 8 := rfl
@[simp] theorem y43_z : y43.zero = [.v .nilFunc] := rfl
@[simp] theorem y43_z0 : y43.z0 = .v .nilFunc := rfl
def y44 : Ty := ⟨.func #[] #[] false, 1, 8, [.v .nilFunc]⟩
@[simp] theorem y44_s : y44.size = 1 := rfl
@[simp] theorem y44_b : y44.bytes = 8 := rfl
@[simp] theorem y44_z : y44.zero = [.v .nilFunc] := rfl
@[simp] theorem y44_z0 : y44.z0 = .v .nilFunc := rfl
def y45 : Ty := ⟨.func #[] #[] false, 1, 8, [.v .nilFunc]⟩
@[simp] theorem y45_s : y45.size = 1 := rfl
@[simp] theorem y45_b : y45.bytes = 8 := rfl
@[simp] theorem y45_z : y45.zero = [.v .nilFunc] := rfl
@[simp] theorem y45_z0 : y45.z0 = .v .nilFunc := rfl
def y46 : Ty := ⟨.func #[] #[] false, 1, 8, [.v .nilFunc]⟩
@[simp] theorem y46_s : y46.size = 1 := rfl
@[simp] theorem y46_b : y46.bytes = 8 := rfl
@[simp] theorem y46_z : y46.zero = [.v .nilFunc] := rfl
@[simp] theorem y46_z0 : y46.z0 = .v .nilFunc := rfl
def y47 : Ty := ⟨.slice 51, 1, 24, [.v (.slice none 0 0)]⟩
@[simp] theorem y47_s : y47.size = 1 := rfl
@[simp] theorem y47_b : y47.bytes = 24 := rfl
@[simp] theorem y47_z : y47.zero = [.v (.slice none 0 0)] := rfl
@[simp] theorem y47_z0 : y47.z0 = .v (.slice none 0 0) := rfl
def y49 : Ty := ⟨.func #[] #[] false, 1, 8, [.v .nilFunc]⟩
@[simp] theorem y49_s : y49.size = 1 := rfl
@[simp] theorem y49_b : y49.bytes = 8 := rfl
@[simp] theorem y49_z : y49.zero = [.v .nilFunc] := rfl
@[simp] theorem y49_z0 : y49.z0 = .v .nilFunc := rfl
def y50 : Ty := ⟨.struct #[⟨"", 5, 0, false, "", "", 0⟩, ⟨"", 22, 1, false, "", "", 0⟩], 2, 32, [.w8 0] ++ ([.v (.slice none 0 0)])⟩
@[simp] theorem y50_s : y50.size = 2 := rfl
@[simp] theorem y50_b : y50.bytes = 32 := rfl
@[simp] theorem y50_z : y50.zero = [.w8 0] ++ ([.v (.slice none 0 0)]) := rfl
@[simp] theorem y50_z0 : y50.z0 = .w8 0 := rfl
def y51 : Ty := ⟨.struct #[⟨"", 5, 0, false, "", "", 0⟩, ⟨"", 22, 1, false, "", "", 0⟩], 2, 32, [.w8 0] ++ ([.v (.slice none 0 0)])⟩
@[simp] theorem y51_s : y51.size = 2 := rfl
@[simp] theorem y51_b : y51.bytes = 32 := rfl
@[simp] theorem y51_z : y51.zero = [.w8 0] ++ ([.v (.slice none 0 0)]) := rfl
@[simp] theorem y51_z0 : y51.z0 = .w8 0 := rfl
def y52 : Ty := ⟨.func #[] #[] false, 1, 8, [.v .nilFunc]⟩
@[simp] theorem y52_s : y52.size = 1 := rfl
@[simp] theorem y52_b : y52.bytes = 8 := rfl
@[simp] theorem y52_z : y52.zero = [.v .nilFunc] := rfl
@[simp] theorem y52_z0 : y52.z0 = .v .nilFunc := rfl
def y53 : Ty := ⟨.func #[] #[] false, 1, 8, [.v .nilFunc]⟩
@[simp] theorem y53_s : y53.size = 1 := rfl
@[simp] theorem y53_b : y53.bytes = 8 := rfl
@[simp] theorem y53_z : y53.zero = [.v .nilFunc] := rfl
@[simp] theorem y53_z0 : y53.z0 = .v .nilFunc := rfl
def y54 : Ty := ⟨.func #[] #[] false, 1, 8, [.v .nilFunc]⟩
@[simp] theorem y54_s : y54.size = 1 := rfl
@[simp] theorem y54_b : y54.bytes = 8 := rfl
@[simp] theorem y54_z : y54.zero = [.v .nilFunc] := rfl
@[simp] theorem y54_z0 : y54.z0 = .v .nilFunc := rfl
def y55 : Ty := ⟨.slice 56, 1, 24, [.v (.slice none 0 0)]⟩
@[simp] theorem y55_s : y55.size = 1 := rfl
@[simp] theorem y55_b : y55.bytes = 24 := rfl
@[simp] theorem y55_z : y55.zero = [.v (.slice none 0 0)] := rfl
@[simp] theorem y55_z0 : y55.z0 = .v (.slice none 0 0) := rfl
def y56 : Ty := ⟨.array 32 5, 32, 32, List.replicate 32 (.w8 0)⟩
@[simp] theorem y56_s : y56.size = 32 := rfl
@[simp] theorem y56_b : y56.bytes = 32 := rfl
@[simp] theorem y56_z : y56.zero = List.replicate 32 (.w8 0) := rfl
@[simp] theorem y56_z0 : y56.z0 = .w8 0 := rfl
def y57 : Ty := ⟨.array 33 5, 33, 33, List.replicate 33 (.w8 0)⟩
@[simp] theorem y57_s : y57.size = 33 := rfl
@[simp] theorem y57_b : y57.bytes = 33 := rfl
@[simp] theorem y57_z : y57.zero = List.replicate 33 (.w8 0) := rfl
@[simp] theorem y57_z0 : y57.z0 = .w8 0 := rfl
def y59 : Ty := ⟨.func #[] #[] false, 1, 8, [.v .nilFunc]⟩
@[simp] theorem y59_s : y59.size = 1 := rfl
@[simp] theorem y59_b : y59.bytes = 8 := rfl
@[simp] theorem y59_z : y59.zero = [.v .nilFunc] := rfl
@[simp] theorem y59_z0 : y59.z0 = .v .nilFunc := rfl
def y61 : Ty := ⟨.func #[] #[] false, 1, 8, [.v .nilFunc]⟩
@[simp] theorem y61_s : y61.size = 1 := rfl
@[simp] theorem y61_b : y61.bytes = 8 := rfl
@[simp] theorem y61_z : y61.zero = [.v .nilFunc] := rfl
@[simp] theorem y61_z0 : y61.z0 = .v .nilFunc := rfl
def y63 : Ty := ⟨.func #[] #[] false, 1, 8, [.v .nilFunc]⟩
@[simp] theorem y63_s : y63.size = 1 := rfl
@[simp] theorem y63_b : y63.bytes = 8 := rfl
@[simp] theorem y63_z : y63.zero = [.v .nilFunc] := rfl
@[simp] theorem y63_z0 : y63.z0 = .v .nilFunc := rfl
def y64 : Ty := ⟨.func #[] #[] false, 1, 8, [.v .nilFunc]⟩
@[simp] theorem y64_s : y64.size = 1 := rfl
@[simp] theorem y64_b : y64.bytes = 8 := rfl
@[simp] theorem y64_z : y64.zero = [.v .nilFunc] := rfl
@[simp] theorem y64_z0 : y64.z0 = .v .nilFunc := rfl
def y65 : Ty := ⟨.func #[] #[] false, 1, 8, [.v .nilFunc]⟩
@[simp] theorem y65_s : y65.size = 1 := rfl
@[simp] theorem y65_b : y65.bytes = 8 := rfl
@[simp] theorem y65_z : y65.zero = [.v .nilFunc] := rfl
@[simp] theorem y65_z0 : y65.z0 = .v .nilFunc := rfl
def y66 : Ty := ⟨.func #[] #[] false, 1, 8, [.v .nilFunc]⟩
@[simp] theorem y66_s : y66.size = 1 := rfl
@[simp] theorem y66_b : y66.bytes = 8 := rfl
@[simp] theorem y66_z : y66.zero = [.v .nilFunc] := rfl
@[simp] theorem y66_z0 : y66.z0 = .v .nilFunc := rfl
def y67 : Ty := ⟨.func #[] #[] false, 1, 8, [.v .nilFunc]⟩
@[simp] theorem y67_s : y67.size = 1 := rfl
@[simp] theorem y67_b : y67.bytes = 8 := rfl
@[simp] theorem y67_z : y67.zero = [.v .nilFunc] := rfl
@[simp] theorem y67_z0 : y67.z0 = .v .nilFunc := rfl
def y68 : Ty := ⟨.func #[] #[] false, 1, 8, [.v .nilFunc]⟩
@[simp] theorem y68_s : y68.size = 1 := rfl
@[simp] theorem y68_b : y68.bytes = 8 := rfl
@[simp] theorem y68_z : y68.zero = [.v .nilFunc] := rfl
@[simp] theorem y68_z0 : y68.z0 = .v .nilFunc := rfl
def y69 : Ty := ⟨.struct #[], 0, 0, []⟩
@[simp] theorem y69_s : y69.size = 0 := rfl
@[simp] theorem y69_b : y69.bytes = 0 := rfl
@[simp] theorem y69_z : y69.zero = [] := rfl
@[simp] theorem y69_z0 : y69.z0 = .v undef := rfl
def y70 : Ty := ⟨.struct #[], 0, 0, []⟩
@[simp] theorem y70_s : y70.size = 0 := rfl
@[simp] theorem y70_b : y70.bytes = 0 := rfl
@[simp] theorem y70_z : y70.zero = [] := rfl
@[simp] theorem y70_z0 : y70.z0 = .v undef := rfl
def y71 : Ty := ⟨.pointer 74, 1, 8, [.v (.pointer none)]⟩
@[simp] theorem y71_s : y71.size = 1 := rfl
@[simp] theorem y71_b : y71.bytes = 8 := rfl
@[simp] theorem y71_z : y71.zero = [.v (.pointer none)] := rfl
@[simp] theorem y71_z0 : y71.z0 = .v (.pointer none) := rfl
def y72 : Ty := ⟨.slice 4, 1, 24, [.v (.slice none 0 0)]⟩
@[simp] theorem y72_s : y72.size = 1 := rfl
@[simp] theorem y72_b : y72.bytes = 24 := rfl
@[simp] theorem y72_z : y72.zero = [.v (.slice none 0 0)] := rfl
@[simp] theorem y72_z0 : y72.z0 = .v (.slice none 0 0) := rfl
def y73 : Ty := ⟨.struct #[⟨"", 39, 0, false, "", "", 0⟩, ⟨"", 22, 7, false, "", "", 0⟩, ⟨"", 23, 8, false, "", "", 0⟩, ⟨"", 23, 9, false, "", "", 0⟩, ⟨"", 72, 10, false, "", "", 0⟩, ⟨"", 3, 11, false, "", "", 0⟩, ⟨"", 3, 12, false, "", "", 0⟩], 13, 200, [.v (.int .i32 0)] ++ ([.v (.slice none 0 0), .v (.slice none 0 0)] ++ ([.w32 0] ++ ([.int 0, .int 0] ++ ([.bol false] ++ (List.replicate 4 (.v (.slice none 0 0)) ++ ([.int 0, .int 0]))))))⟩
@[simp] theorem y73_s : y73.size = 13 := rfl
@[simp] theorem y73_b : y73.bytes = 200 := rfl
@[simp] theorem y73_z : y73.zero = [.v (.int .i32 0)] ++ ([.v (.slice none 0 0), .v (.slice none 0 0)] ++ ([.w32 0] ++ ([.int 0, .int 0] ++ ([.bol false] ++ (List.replicate 4 (.v (.slice none 0 0)) ++ ([.int 0, .int 0])))))) := rfl
@[simp] theorem y73_z0 : y73.z0 = .v (.int .i32 0) := rfl
def y74 : Ty := ⟨.struct #[⟨"", 39, 0, false, "", "", 0⟩, ⟨"", 22, 7, false, "", "", 0⟩, ⟨"", 23, 8, false, "", "", 0⟩, ⟨"", 23, 9, false, "", "", 0⟩, ⟨"", 72, 10, false, "", "", 0⟩, ⟨"", 3, 11, false, "", "", 0⟩, ⟨"", 3, 12, false, "", "", 0⟩], 13, 200, [.v (.int .i32 0)] ++ ([.v (.slice none 0 0), .v (.slice none 0 0)] ++ ([.w32 0] ++ ([.int 0, .int 0] ++ ([.bol false] ++ (List.replicate 4 (.v (.slice none 0 0)) ++ ([.int 0, .int 0]))))))⟩
@[simp] theorem y74_s : y74.size = 13 := rfl
@[simp] theorem y74_b : y74.bytes = 200 := rfl
@[simp] theorem y74_z : y74.zero = [.v (.int .i32 0)] ++ ([.v (.slice none 0 0), .v (.slice none 0 0)] ++ ([.w32 0] ++ ([.int 0, .int 0] ++ ([.bol false] ++ (List.replicate 4 (.v (.slice none 0 0)) ++ ([.int 0, .int 0])))))) := rfl
@[simp] theorem y74_z0 : y74.z0 = .v (.int .i32 0) := rfl
def y75 : Ty := ⟨.func #[] #[] false, 1, 8, [.v .nilFunc]⟩
@[simp] theorem y75_s : y75.size = 1 := rfl
@[simp] theorem y75_b : y75.bytes = 8 := rfl
@[simp] theorem y75_z : y75.zero = [.v .nilFunc] := rfl
@[simp] theorem y75_z0 : y75.z0 = .v .nilFunc := rfl
def y76 : Ty := ⟨.func #[] #[] false, 1, 8, [.v .nilFunc]⟩
@[simp] theorem y76_s : y76.size = 1 := rfl
@[simp] theorem y76_b : y76.bytes = 8 := rfl
@[simp] theorem y76_z : y76.zero = [.v .nilFunc] := rfl
@[simp] theorem y76_z0 : y76.z0 = .v .nilFunc := rfl
def y77 : Ty := ⟨.func #[] #[] false, 1, 8, [.v .nilFunc]⟩
@[simp] theorem y77_s : y77.size = 1 := rfl
@[simp] theorem y77_b : y77.bytes = 8 := rfl
@[simp] theorem y77_z : y77.zero = [.v .nilFunc] := rfl
@[simp] theorem y77_z0 : y77.z0 = .v .nilFunc := rfl
def y78 : Ty := ⟨.func #[] #[] false, 1, 8, [.v .nilFunc]⟩
@[simp] theorem y78_s : y78.size = 1 := rfl
@[simp] theorem y78_b : y78.bytes = 8 := rfl
@[simp] theorem y78_z : y78.zero = [.v .nilFunc] := rfl
@[simp] theorem y78_z0 : y78.z0 = .v .nilFunc := rfl
def y79 : Ty := ⟨.array 256 78, 256, 2048, List.replicate 256 (.v .nilFunc)⟩
@[simp] theorem y79_s : y79.size = 256 := rfl
@[simp] theorem y79_b : y79.bytes = 2048 := rfl
@[simp] theorem y79_z : y79.zero = List.replicate 256 (.v .nilFunc) := rfl
@[simp] theorem y79_z0 : y79.z0 = .v .nilFunc := rfl
def y80 : Ty := ⟨.func #[] #[] false, 1, 8, [.v .nilFunc]⟩
@[simp] theorem y80_s : y80.size = 1 := rfl
@[simp] theorem y80_b : y80.bytes = 8 := rfl
@[simp] theorem y80_z : y80.zero = [.v .nilFunc] := rfl
@[simp] theorem y80_z0 : y80.z0 = .v .nilFunc := rfl
def y81 : Ty := ⟨.func #[] #[] false, 1, 8, [.v .nilFunc]⟩
@[simp] theorem y81_s : y81.size = 1 := rfl
@[simp] theorem y81_b : y81.bytes = 8 := rfl
@[simp] theorem y81_z : y81.zero = [.v .nilFunc] := rfl
@[simp] theorem y81_z0 : y81.z0 = .v .nilFunc := rfl
def y82 : Ty := ⟨.pointer 79, 1, 8, [.v (.pointer none)]⟩
@[simp] theorem y82_s : y82.size = 1 := rfl
@[simp] theorem y82_b : y82.bytes = 8 := rfl
@[simp] theorem y82_z : y82.zero = [.v (.pointer none)] := rfl
@[simp] theorem y82_z0 : y82.z0 = .v (.pointer none) := rfl
def y83 : Ty := ⟨.struct #[⟨"", 30, 0, false, "", "", 0⟩, ⟨"", 22, 7, false, "", "", 0⟩, ⟨"", 23, 8, false, "", "", 0⟩, ⟨"", 23, 9, false, "", "", 0⟩, ⟨"", 72, 10, false, "", "", 0⟩, ⟨"", 3, 11, false, "", "", 0⟩, ⟨"", 3, 12, false, "", "", 0⟩, ⟨"", 4, 13, false, "", "", 0⟩], 14, 208, [.v (.int .i32 0)] ++ ([.v (.slice none 0 0), .v (.slice none 0 0)] ++ ([.w32 0] ++ ([.int 0, .int 0] ++ ([.bol false] ++ (List.replicate 4 (.v (.slice none 0 0)) ++ ([.int 0, .int 0] ++ ([.bol false])))))))⟩
@[simp] theorem y83_s : y83.size = 14 := rfl
@[simp] theorem y83_b : y83.bytes = 208 := rfl
@[simp] theorem y83_z : y83.zero = [.v (.int .i32 0)] ++ ([.v (.slice none 0 0), .v (.slice none 0 0)] ++ ([.w32 0] ++ ([.int 0, .int 0] ++ ([.bol false] ++ (List.replicate 4 (.v (.slice none 0 0)) ++ ([.int 0, .int 0] ++ ([.bol false]))))))) := rfl
@[simp] theorem y83_z0 : y83.z0 = .v (.int .i32 0) := rfl
def y84 : Ty := ⟨.struct #[⟨"", 30, 0, false, "", "", 0⟩, ⟨"", 22, 7, false, "", "", 0⟩, ⟨"", 23, 8, false, "", "", 0⟩, ⟨"", 23, 9, false, "", "", 0⟩, ⟨"", 72, 10, false, "", "", 0⟩, ⟨"", 3, 11, false, "", "", 0⟩, ⟨"", 3, 12, false, "", "", 0⟩, ⟨"", 4, 13, false, "", "", 0⟩], 14, 208, [.v (.int .i32 0)] ++ ([.v (.slice none 0 0), .v (.slice none 0 0)] ++ ([.w32 0] ++ ([.int 0, .int 0] ++ ([.bol false] ++ (List.replicate 4 (.v (.slice none 0 0)) ++ ([.int 0, .int 0] ++ ([.bol false])))))))⟩
@[simp] theorem y84_s : y84.size = 14 := rfl
@[simp] theorem y84_b : y84.bytes = 208 := rfl
@[simp] theorem y84_z : y84.zero = [.v (.int .i32 0)] ++ ([.v (.slice none 0 0), .v (.slice none 0 0)] ++ ([.w32 0] ++ ([.int 0, .int 0] ++ ([.bol false] ++ (List.replicate 4 (.v (.slice none 0 0)) ++ ([.int 0, .int 0] ++ ([.bol false]))))))) := rfl
@[simp] theorem y84_z0 : y84.z0 = .v (.int .i32 0) := rfl
def y85 : Ty := ⟨.func #[] #[] false, 1, 8, [.v .nilFunc]⟩
@[simp] theorem y85_s : y85.size = 1 := rfl
@[simp] theorem y85_b : y85.bytes = 8 := rfl
@[simp] theorem y85_z : y85.zero = [.v .nilFunc] := rfl
@[simp] theorem y85_z0 : y85.z0 = .v .nilFunc := rfl
def y86 : Ty := ⟨.slice 90, 1, 24, [.v (.slice none 0 0)]⟩
@[simp] theorem y86_s : y86.size = 1 := rfl
@[simp] theorem y86_b : y86.bytes = 24 := rfl
@[simp] theorem y86_z : y86.zero = [.v (.slice none 0 0)] := rfl
@[simp] theorem y86_z0 : y86.z0 = .v (.slice none 0 0) := rfl
def y88 : Ty := ⟨.func #[] #[] false, 1, 8, [.v .nilFunc]⟩
@[simp] theorem y88_s : y88.size = 1 := rfl
@[simp] theorem y88_b : y88.bytes = 8 := rfl
@[simp] theorem y88_z : y88.zero = [.v .nilFunc] := rfl
@[simp] theorem y88_z0 : y88.z0 = .v .nilFunc := rfl
def y89 : Ty := ⟨.func #[] #[] false, 1, 8, [.v .nilFunc]⟩
@[simp] theorem y89_s : y89.size = 1 := rfl
@[simp] theorem y89_b : y89.bytes = 8 := rfl
@[simp] theorem y89_z : y89.zero = [.v .nilFunc] := rfl
@[simp] theorem y89_z0 : y89.z0 = .v .nilFunc := rfl
def y90 : Ty := ⟨.struct #[⟨"", 5, 0, false, "", "", 0⟩, ⟨"", 22, 1, false, "", "", 0⟩], 2, 32, [.w8 0] ++ ([.v (.slice none 0 0)])⟩
@[simp] theorem y90_s : y90.size = 2 := rfl
@[simp] theorem y90_b : y90.bytes = 32 := rfl
@[simp] theorem y90_z : y90.zero = [.w8 0] ++ ([.v (.slice none 0 0)]) := rfl
@[simp] theorem y90_z0 : y90.z0 = .w8 0 := rfl
def y91 : Ty := ⟨.pointer 145, 1, 8, [.v (.pointer none)]⟩
@[simp] theorem y91_s : y91.size = 1 := rfl
@[simp] theorem y91_b : y91.bytes = 8 := rfl
@[simp] theorem y91_z : y91.zero = [.v (.pointer none)] := rfl
@[simp] theorem y91_z0 : y91.z0 = .v (.pointer none) := rfl
def y92 : Ty := ⟨.func #[] #[] false, 1, 8, [.v .nilFunc]⟩
@[simp] theorem y92_s : y92.size = 1 := rfl
@[simp] theorem y92_b : y92.bytes = 8 := rfl
@[simp] theorem y92_z : y92.zero = [.v .nilFunc] := rfl
@[simp] theorem y92_z0 : y92.z0 = .v .nilFunc := rfl
def y93 : Ty := ⟨.func #[] #[] false, 1, 8, [.v .nilFunc]⟩
@[simp] theorem y93_s : y93.size = 1 := rfl
@[simp] theorem y93_b : y93.bytes = 8 := rfl
@[simp] theorem y93_z : y93.zero = [.v .nilFunc] := rfl
@[simp] theorem y93_z0 : y93.z0 = .v .nilFunc := rfl
def y94 : Ty := ⟨.func #[] #[] false, 1, 8, [.v .nilFunc]⟩
@[simp] theorem y94_s : y94.size = 1 := rfl
@[simp] theorem y94_b : y94.bytes = 8 := rfl
@[simp] theorem y94_z : y94.zero = [.v .nilFunc] := rfl
@[simp] theorem y94_z0 : y94.z0 = .v .nilFunc := rfl
def y95 : Ty := ⟨.func #[] #[] false, 1, 8, [.v .nilFunc]⟩
@[simp] theorem y95_s : y95.size = 1 := rfl
@[simp] theorem y95_b : y95.bytes = 8 := rfl
@[simp] theorem y95_z : y95.zero = [.v .nilFunc] := rfl
@[simp] theorem y95_z0 : y95.z0 = .v .nilFunc := rfl
def y96 : Ty := ⟨.struct #[⟨"", 22, 0, false, "", "", 0⟩], 1, 24, [.v (.slice none 0 0)]⟩
@[simp] theorem y96_s : y96.size = 1 := rfl
@[simp] theorem y96_b : y96.bytes = 24 := rfl
@[simp] theorem y96_z : y96.zero = [.v (.slice none 0 0)] := rfl
@[simp] theorem y96_z0 : y96.z0 = .v (.slice none 0 0) := rfl
def y97 : Ty := ⟨.struct #[⟨"", 22, 0, false, "", "", 0⟩], 1, 24, [.v (.slice none 0 0)]⟩
@[simp] theorem y97_s : y97.size = 1 := rfl
@[simp] theorem y97_b : y97.bytes = 24 := rfl
@[simp] theorem y97_z : y97.zero = [.v (.slice none 0 0)] := rfl
@[simp] theorem y97_z0 : y97.z0 = .v (.slice none 0 0) := rfl
def y98 : Ty := ⟨.func #[] #[] false, 1, 8, [.v .nilFunc]⟩
@[simp] theorem y98_s : y98.size = 1 := rfl
@[simp] theorem y98_b : y98.bytes = 8 := rfl
@[simp] theorem y98_z : y98.zero = [.v .nilFunc] := rfl
@[simp] theorem y98_z0 : y98.z0 = .v .nilFunc := rfl
def y99 : Ty := ⟨.func #[] #[] false, 1, 8, [.v .nilFunc]⟩
@[simp] theorem y99_s : y99.size = 1 := rfl
@[simp] theorem y99_b : y99.bytes = 8 := rfl
@[simp] theorem y99_z : y99.zero = [.v .nilFunc] := rfl
@[simp] theorem y99_z0 : y99.z0 = .v .nilFunc := rfl
def y100 : Ty := ⟨.func #[] #[] false, 1, 8, [.v .nilFunc]⟩
@[simp] theorem y100_s : y100.size = 1 := rfl
@[simp] theorem y100_b : y100.bytes = 8 := rfl
@[simp] theorem y100_z : y100.zero = [.v .nilFunc] := rfl
@[simp] theorem y100_z0 : y100.z0 = .v .nilFunc := rfl
def y101 : Ty := ⟨.int .u16, 1, 2, [.w16 0]⟩
@[simp] theorem y101_s : y101.size = 1 := rfl
@[simp] theorem y101_b : y101.bytes = 2 := rfl
@[simp] theorem y101_z : y101.zero = [.w16 0] := rfl
@[simp] theorem y101_z0 : y101.z0 = .w16 0 := rfl
def y102 : Ty := ⟨.func #[] #[] false, 1, 8, [.v .nilFunc]⟩
@[simp] theorem y102_s : y102.size = 1 := rfl
@[simp] theorem y102_b : y102.bytes = 8 := rfl
@[simp] theorem y102_z : y102.zero = [.v .nilFunc] := rfl
@[simp] theorem y102_z0 : y102.z0 = .v .nilFunc := rfl
def y103 : Ty := ⟨.func #[] #[] false, 1, 8, [.v .nilFunc]⟩
@[simp] theorem y103_s : y103.size = 1 := rfl
@[simp] theorem y103_b : y103.bytes = 8 := rfl
@[simp] theorem y103_z : y103.zero = [.v .nilFunc] := rfl
@[simp] theorem y103_z0 : y103.z0 = .v .nilFunc := rfl
def y104 : Ty := ⟨.pointer 157, 1, 8, [.v (.pointer none)]⟩
@[simp] theorem y104_s : y104.size = 1 := rfl
@[simp] theorem y104_b : y104.bytes = 8 := rfl
@[simp] theorem y104_z : y104.zero = [.v (.pointer none)] := rfl
@[simp] theorem y104_z0 : y104.z0 = .v (.pointer none) := rfl
def y105 : Ty := ⟨.func #[] #[] false, 1, 8, [.v .nilFunc]⟩
@[simp] theorem y105_s : y105.size = 1 := rfl
@[simp] theorem y105_b : y105.bytes = 8 := rfl
@[simp] theorem y105_z : y105.zero = [.v .nilFunc] := rfl
@[simp] theorem y105_z0 : y105.z0 = .v .nilFunc := rfl
def y106 : Ty := ⟨.int .u64, 1, 8, [.w64 0]⟩
@[simp] theorem y106_s : y106.size = 1 := rfl
@[simp] theorem y106_b : y106.bytes = 8 := rfl
@[simp] theorem y106_z : y106.zero = [.w64 0] := rfl
@[simp] theorem y106_z0 : y106.z0 = .w64 0 := rfl
def y107 : Ty := ⟨.array 4 106, 4, 32, List.replicate 4 (.w64 0)⟩
@[simp] theorem y107_s : y107.size = 4 := rfl
@[simp] theorem y107_b : y107.bytes = 32 := rfl
@[simp] theorem y107_z : y107.zero = List.replicate 4 (.w64 0) := rfl
@[simp] theorem y107_z0 : y107.z0 = .w64 0 := rfl
def y108 : Ty := ⟨.array 4 106, 4, 32, List.replicate 4 (.w64 0)⟩
@[simp] theorem y108_s : y108.size = 4 := rfl
@[simp] theorem y108_b : y108.bytes = 32 := rfl
@[simp] theorem y108_z : y108.zero = List.replicate 4 (.w64 0) := rfl
@[simp] theorem y108_z0 : y108.z0 = .w64 0 := rfl
def y110 : Ty := ⟨.func #[] #[] false, 1, 8, [.v .nilFunc]⟩
@[simp] theorem y110_s : y110.size = 1 := rfl
@[simp] theorem y110_b : y110.bytes = 8 := rfl
@[simp] theorem y110_z : y110.zero = [.v .nilFunc] := rfl
@[simp] theorem y110_z0 : y110.z0 = .v .nilFunc := rfl
def y111 : Ty := ⟨.func #[] #[] false, 1, 8, [.v .nilFunc]⟩
@[simp] theorem y111_s : y111.size = 1 := rfl
@[simp] theorem y111_b : y111.bytes = 8 := rfl
@[simp] theorem y111_z : y111.zero = [.v .nilFunc] := rfl
@[simp] theorem y111_z0 : y111.z0 = .v .nilFunc := rfl
def y112 : Ty := ⟨.struct #[⟨"", 108, 0, false, "", "", 0⟩, ⟨"", 108, 4, false, "", "", 0⟩, ⟨"", 108, 8, false, "", "", 0⟩], 12, 96, List.replicate 12 (.w64 0)⟩
@[simp] theorem y112_s : y112.size = 12 := rfl
@[simp] theorem y112_b : y112.bytes = 96 := rfl
@[simp] theorem y112_z : y112.zero = List.replicate 12 (.w64 0) := rfl
@[simp] theorem y112_z0 : y112.z0 = .w64 0 := rfl
def y113 : Ty := ⟨.struct #[⟨"", 108, 0, false, "", "", 0⟩, ⟨"", 108, 4, false, "", "", 0⟩, ⟨"", 108, 8, false, "", "", 0⟩], 12, 96, List.replicate 12 (.w64 0)⟩
@[simp] theorem y113_s : y113.size = 12 := rfl
@[simp] theorem y113_b : y113.bytes = 96 := rfl
@[simp] theorem y113_z : y113.zero = List.replicate 12 (.w64 0) := rfl
@[simp] theorem y113_z0 : y113.z0 = .w64 0 := rfl
def y114 : Ty := ⟨.func #[] #[] false, 1, 8, [.v .nilFunc]⟩
@[simp] theorem y114_s : y114.size = 1 := rfl
@[simp] theorem y114_b : y114.bytes = 8 := rfl
@[simp] theorem y114_z : y114.zero = [.v .nilFunc] := rfl
@[simp] theorem y114_z0 : y114.z0 = .v .nilFunc := rfl
def y115 : Ty := ⟨.func #[] #[] false, 1, 8, [.v .nilFunc]⟩
@[simp] theorem y115_s : y115.size = 1 := rfl
@[simp] theorem y115_b : y115.bytes = 8 := rfl
@[simp] theorem y115_z : y115.zero = [.v .nilFunc] := rfl
@[simp] theorem y115_z0 : y115.z0 = .v .nilFunc := rfl
def y116 : Ty := ⟨.func #[] #[] false, 1, 8, [.v .nilFunc]⟩
@[simp] theorem y116_s : y116.size = 1 := rfl
@[simp] theorem y116_b : y116.bytes = 8 := rfl
@[simp] theorem y116_z : y116.zero = [.v .nilFunc] := rfl
@[simp] theorem y116_z0 : y116.z0 = .v .nilFunc := rfl
def y117 : Ty := ⟨.array 32 5, 32, 32, List.replicate 32 (.w8 0)⟩
@[simp] theorem y117_s : y117.size = 32 := rfl
@[simp] theorem y117_b : y117.bytes = 32 := rfl
@[simp] theorem y117_z : y117.zero = List.replicate 32 (.w8 0) := rfl
@[simp] theorem y117_z0 : y117.z0 = .w8 0 := rfl
def y118 : Ty := ⟨.func #[] #[] false, 1, 8, [.v .nilFunc]⟩
@[simp] theorem y118_s : y118.size = 1 := rfl
@[simp] theorem y118_b : y118.bytes = 8 := rfl
@[simp] theorem y118_z : y118.zero = [.v .nilFunc] := rfl
@[simp] theorem y118_z0 : y118.z0 = .v .nilFunc := rfl
def y119 : Ty := ⟨.func #[] #[] false, 1, 8, [.v .nilFunc]⟩
@[simp] theorem y119_s : y119.size = 1 := rfl
@[simp] theorem y119_b : y119.bytes = 8 := rfl
@[simp] theorem y119_z : y119.zero = [.v .nilFunc] := rfl
@[simp] theorem y119_z0 : y119.z0 = .v .nilFunc := rfl
def y120 : Ty := ⟨.array 64 5, 64, 64, List.replicate 64 (.w8 0)⟩
@[simp] theorem y120_s : y120.size = 64 := rfl
@[simp] theorem y120_b : y120.bytes = 64 := rfl
@[simp] theorem y120_z : y120.zero = List.replicate 64 (.w8 0) := rfl
@[simp] theorem y120_z0 : y120.z0 = .w8 0 := rfl
def y122 : Ty := ⟨.func #[] #[] false, 1, 8, [.v .nilFunc]⟩
@[simp] theorem y122_s : y122.size = 1 := rfl
@[simp] theorem y122_b : y122.bytes = 8 := rfl
@[simp] theorem y122_z : y122.zero = [.v .nilFunc] := rfl
@[simp] theorem y122_z0 : y122.z0 = .v .nilFunc := rfl
def y123 : Ty := ⟨.func #[] #[] false, 1, 8, [.v .nilFunc]⟩
@[simp] theorem y123_s : y123.size = 1 := rfl
@[simp] theorem y123_b : y123.bytes = 8 := rfl
@[simp] theorem y123_z : y123.zero = [.v .nilFunc] := rfl
@[simp] theorem y123_z0 : y123.z0 = .v .nilFunc := rfl
def y124 : Ty := ⟨.struct #[⟨"", 117, 0, false, "", "", 0⟩, ⟨"", 26, 32, false, "", "", 0⟩], 33, 36, List.replicate 32 (.w8 0) ++ ([.w32 0])⟩
@[simp] theorem y124_s : y124.size = 33 := rfl
@[simp] theorem y124_b : y124.bytes = 36 := rfl
@[simp] theorem y124_z : y124.zero = List.replicate 32 (.w8 0) ++ ([.w32 0]) := rfl
@[simp] theorem y124_z0 : y124.z0 = .w8 0 := rfl
def y125 : Ty := ⟨.struct #[⟨"", 117, 0, false, "", "", 0⟩, ⟨"", 26, 32, false, "", "", 0⟩], 33, 36, List.replicate 32 (.w8 0) ++ ([.w32 0])⟩
@[simp] theorem y125_s : y125.size = 33 := rfl
@[simp] theorem y125_b : y125.bytes = 36 := rfl
@[simp] theorem y125_z : y125.zero = List.replicate 32 (.w8 0) ++ ([.w32 0]) := rfl
@[simp] theorem y125_z0 : y125.z0 = .w8 0 := rfl
def y126 : Ty := ⟨.struct #[⟨"", 125, 0, false, "", "", 0⟩, ⟨"", 22, 33, false, "", "", 0⟩, ⟨"", 26, 34, false, "", "", 0⟩, ⟨"", 23, 35, false, "", "", 0⟩], 36, 96, List.replicate 32 (.w8 0) ++ ([.w32 0] ++ ([.v (.slice none 0 0)] ++ ([.w32 0] ++ ([.v (.slice none 0 0)]))))⟩
@[simp] theorem y126_s : y126.size = 36 := rfl
@[simp] theorem y126_b : y126.bytes = 96 := rfl
@[simp] theorem y126_z : y126.zero = List.replicate 32 (.w8 0) ++ ([.w32 0] ++ ([.v (.slice none 0 0)] ++ ([.w32 0] ++ ([.v (.slice none 0 0)])))) := rfl
@[simp] theorem y126_z0 : y126.z0 = .w8 0 := rfl
def y127 : Ty := ⟨.struct #[⟨"", 125, 0, false, "", "", 0⟩, ⟨"", 22, 33, false, "", "", 0⟩, ⟨"", 26, 34, false, "", "", 0⟩, ⟨"", 23, 35, false, "", "", 0⟩], 36, 96, List.replicate 32 (.w8 0) ++ ([.w32 0] ++ ([.v (.slice none 0 0)] ++ ([.w32 0] ++ ([.v (.slice none 0 0)]))))⟩
@[simp] theorem y127_s : y127.size = 36 := rfl
@[simp] theorem y127_b : y127.bytes = 96 := rfl
@[simp] theorem y127_z : y127.zero = List.replicate 32 (.w8 0) ++ ([.w32 0] ++ ([.v (.slice none 0 0)] ++ ([.w32 0] ++ ([.v (.slice none 0 0)])))) := rfl
@[simp] theorem y127_z0 : y127.z0 = .w8 0 := rfl
def y128 : Ty := ⟨.struct #[⟨"", 2, 0, false, "", "", 0⟩, ⟨"", 22, 1, false, "", "", 0⟩], 2, 32, [.int 0] ++ ([.v (.slice none 0 0)])⟩
@[simp] theorem y128_s : y128.size = 2 := rfl
@[simp] theorem y128_b : y128.bytes = 32 := rfl
@[simp] theorem y128_z : y128.zero = [.int 0] ++ ([.v (.slice none 0 0)]) := rfl
@[simp] theorem y128_z0 : y128.z0 = .int 0 := rfl
def y129 : Ty := ⟨.struct #[⟨"", 2, 0, false, "", "", 0⟩, ⟨"", 22, 1, false, "", "", 0⟩], 2, 32, [.int 0] ++ ([.v (.slice none 0 0)])⟩
@[simp] theorem y129_s : y129.size = 2 := rfl
@[simp] theorem y129_b : y129.bytes = 32 := rfl
@[simp] theorem y129_z : y129.zero = [.int 0] ++ ([.v (.slice none 0 0)]) := rfl
@[simp] theorem y129_z0 : y129.z0 = .int 0 := rfl
def y130 : Ty := ⟨.func #[] #[] false, 1, 8, [.v .nilFunc]⟩
@[simp] theorem y130_s : y130.size = 1 := rfl
@[simp] theorem y130_b : y130.bytes = 8 := rfl
@[simp] theorem y130_z : y130.zero = [.v .nilFunc] := rfl
@[simp] theorem y130_z0 : y130.z0 = .v .nilFunc := rfl
def y131 : Ty := ⟨.func #[] #[] false, 1, 8, [.v .nilFunc]⟩
@[simp] theorem y131_s : y131.size = 1 := rfl
@[simp] theorem y131_b : y131.bytes = 8 := rfl
@[simp] theorem y131_z : y131.zero = [.v .nilFunc] := rfl
@[simp] theorem y131_z0 : y131.z0 = .v .nilFunc := rfl
def y132 : Ty := ⟨.func #[] #[] false, 1, 8, [.v .nilFunc]⟩
@[simp] theorem y132_s : y132.size = 1 := rfl
@[simp] theorem y132_b : y132.bytes = 8 := rfl
@[simp] theorem y132_z : y132.zero = [.v .nilFunc] := rfl
@[simp] theorem y132_z0 : y132.z0 = .v .nilFunc := rfl
def y133 : Ty := ⟨.func #[] #[] false, 1, 8, [.v .nilFunc]⟩
@[simp] theorem y133_s : y133.size = 1 := rfl
@[simp] theorem y133_b : y133.bytes = 8 := rfl
@[simp] theorem y133_z : y133.zero = [.v .nilFunc] := rfl
@[simp] theorem y133_z0 : y133.z0 = .v .nilFunc := rfl
def y134 : Ty := ⟨.func #[] #[] false, 1, 8, [.v .nilFunc]⟩
@[simp] theorem y134_s : y134.size = 1 := rfl
@[simp] theorem y134_b : y134.bytes = 8 := rfl
@[simp] theorem y134_z : y134.zero = [.v .nilFunc] := rfl
@[simp] theorem y134_z0 : y134.z0 = .v .nilFunc := rfl
def y135 : Ty := ⟨.func #[] #[] false, 1, 8, [.v .nilFunc]⟩
@[simp] theorem y135_s : y135.size = 1 := rfl
@[simp] theorem y135_b : y135.bytes = 8 := rfl
@[simp] theorem y135_z : y135.zero = [.v .nilFunc] := rfl
@[simp] theorem y135_z0 : y135.z0 = .v .nilFunc := rfl
def y136 : Ty := ⟨.func #[] #[] false, 1, 8, [.v .nilFunc]⟩
@[simp] theorem y136_s : y136.size = 1 := rfl
@[simp] theorem y136_b : y136.bytes = 8 := rfl
@[simp] theorem y136_z : y136.zero = [.v .nilFunc] := rfl
@[simp] theorem y136_z0 : y136.z0 = .v .nilFunc := rfl
def y137 : Ty := ⟨.func #[] #[] false, 1, 8, [.v .nilFunc]⟩
@[simp] theorem y137_s : y137.size = 1 := rfl
@[simp] theorem y137_b : y137.bytes = 8 := rfl
@[simp] theorem y137_z : y137.zero = [.v .nilFunc] := rfl
@[simp] theorem y137_z0 : y137.z0 = .v .nilFunc := rfl
def y138 : Ty := ⟨.func #[] #[] false, 1, 8, [.v .nilFunc]⟩
@[simp] theorem y138_s : y138.size = 1 := rfl
@[simp] theorem y138_b : y138.bytes = 8 := rfl
@[simp] theorem y138_z : y138.zero = [.v .nilFunc] := rfl
@[simp] theorem y138_z0 : y138.z0 = .v .nilFunc := rfl
def y139 : Ty := ⟨.func #[] #[] false, 1, 8, [.v .nilFunc]⟩
@[simp] theorem y139_s : y139.size = 1 := rfl
@[simp] theorem y139_b : y139.bytes = 8 := rfl
@[simp] theorem y139_z : y139.zero = [.v .nilFunc] := rfl
@[simp] theorem y139_z0 : y139.z0 = .v .nilFunc := rfl
def y140 : Ty := ⟨.func #[] #[] false, 1, 8, [.v .nilFunc]⟩
@[simp] theorem y140_s : y140.size = 1 := rfl
@[simp] theorem y140_b : y140.bytes = 8 := rfl
@[simp] theorem y140_z : y140.zero = [.v .nilFunc] := rfl
@[simp] theorem y140_z0 : y140.z0 = .v .nilFunc := rfl
def y141 : Ty := ⟨.func #[] #[] false, 1, 8, [.v .nilFunc]⟩
@[simp] theorem y141_s : y141.size = 1 := rfl
@[simp] theorem y141_b : y141.bytes = 8 := rfl
@[simp] theorem y141_z : y141.zero = [.v .nilFunc] := rfl
@[simp] theorem y141_z0 : y141.z0 = .v .nilFunc := rfl
def y142 : Ty := ⟨.func #[] #[] false, 1, 8, [.v .nilFunc]⟩
@[simp] theorem y142_s : y142.size = 1 := rfl
@[simp] theorem y142_b : y142.bytes = 8 := rfl
@[simp] theorem y142_z : y142.zero = [.v .nilFunc] := rfl
@[simp] theorem y142_z0 : y142.z0 = .v .nilFunc := rfl
def y143 : Ty := ⟨.func #[] #[] false, 1, 8, [.v .nilFunc]⟩
@[simp] theorem y143_s : y143.size = 1 := rfl
@[simp] theorem y143_b : y143.bytes = 8 := rfl
@[simp] theorem y143_z : y143.zero = [.v .nilFunc] := rfl
@[simp] theorem y143_z0 : y143.z0 = .v .nilFunc := rfl
def y144 : Ty := ⟨.struct #[⟨"", 22, 0, false, "", "", 0⟩, ⟨"", 36, 1, false, "", "", 0⟩], 2, 32, [.v (.slice none 0 0)] ++ ([.int 0])⟩
@[simp] theorem y144_s : y144.size = 2 := rfl
@[simp] theorem y144_b : y144.bytes = 32 := rfl
@[simp] theorem y144_z : y144.zero = [.v (.slice none 0 0)] ++ ([.int 0]) := rfl
@[simp] theorem y144_z0 : y144.z0 = .v (.slice none 0 0) := rfl
def y145 : Ty := ⟨.struct #[⟨"", 22, 0, false, "", "", 0⟩, ⟨"", 36, 1, false, "", "", 0⟩], 2, 32, [.v (.slice none 0 0)] ++ ([.int 0])⟩
@[simp] theorem y145_s : y145.size = 2 := rfl
@[simp] theorem y145_b : y145.bytes = 32 := rfl
@[simp] theorem y145_z : y145.zero = [.v (.slice none 0 0)] ++ ([.int 0]) := rfl
@[simp] theorem y145_z0 : y145.z0 = .v (.slice none 0 0) := rfl
def y146 : Ty := ⟨.func #[] #[] false, 1, 8, [.v .nilFunc]⟩
@[simp] theorem y146_s : y146.size = 1 := rfl
@[simp] theorem y146_b : y146.bytes = 8 := rfl
@[simp] theorem y146_z : y146.zero = [.v .nilFunc] := rfl
@[simp] theorem y146_z0 : y146.z0 = .v .nilFunc := rfl
def y147 : Ty := ⟨.func #[] #[] false, 1, 8, [.v .nilFunc]⟩
@[simp] theorem y147_s : y147.size = 1 := rfl
@[simp] theorem y147_b : y147.bytes = 8 := rfl
@[simp] theorem y147_z : y147.zero = [.v .nilFunc] := rfl
@[simp] theorem y147_z0 : y147.z0 = .v .nilFunc := rfl
def y148 : Ty := ⟨.func #[] #[] false, 1, 8, [.v .nilFunc]⟩
@[simp] theorem y148_s : y148.size = 1 := rfl
@[simp] theorem y148_b : y148.bytes = 8 := rfl
@[simp] theorem y148_z : y148.zero = [.v .nilFunc] := rfl
@[simp] theorem y148_z0 : y148.z0 = .v .nilFunc := rfl
def y149 : Ty := ⟨.func #[] #[] false, 1, 8, [.v .nilFunc]⟩
@[simp] theorem y149_s : y149.size = 1 := rfl
@[simp] theorem y149_b : y149.bytes = 8 := rfl
@[simp] theorem y149_z : y149.zero = [.v .nilFunc] := rfl
@[simp] theorem y149_z0 : y149.z0 = .v .nilFunc := rfl
def y150 : Ty := ⟨.pointer 97, 1, 8, [.v (.pointer none)]⟩
@[simp] theorem y150_s : y150.size = 1 := rfl
@[simp] theorem y150_b : y150.bytes = 8 := rfl
@[simp] theorem y150_z : y150.zero = [.v (.pointer none)] := rfl
@[simp] theorem y150_z0 : y150.z0 = .v (.pointer none) := rfl
def y151 : Ty := ⟨.func #[] #[] false, 1, 8, [.v .nilFunc]⟩
@[simp] theorem y151_s : y151.size = 1 := rfl
@[simp] theorem y151_b : y151.bytes = 8 := rfl
@[simp] theorem y151_z : y151.zero = [.v .nilFunc] := rfl
@[simp] theorem y151_z0 : y151.z0 = .v .nilFunc := rfl
def y152 : Ty := ⟨.array 3 106, 3, 24, [.w64 0, .w64 0, .w64 0]⟩
@[simp] theorem y152_s : y152.size = 3 := rfl
@[simp] theorem y152_b : y152.bytes = 24 := rfl
@[simp] theorem y152_z : y152.zero = [.w64 0, .w64 0, .w64 0] := rfl
@[simp] theorem y152_z0 : y152.z0 = .w64 0 := rfl
def y153 : Ty := ⟨.struct #[⟨"", 108, 0, false, "", "", 0⟩, ⟨"", 152, 4, false, "", "", 0⟩], 7, 56, List.replicate 7 (.w64 0)⟩
@[simp] theorem y153_s : y153.size = 7 := rfl
@[simp] theorem y153_b : y153.bytes = 56 := rfl
@[simp] theorem y153_z : y153.zero = List.replicate 7 (.w64 0) := rfl
@[simp] theorem y153_z0 : y153.z0 = .w64 0 := rfl
def y154 : Ty := ⟨.struct #[⟨"", 108, 0, false, "", "", 0⟩, ⟨"", 152, 4, false, "", "", 0⟩], 7, 56, List.replicate 7 (.w64 0)⟩
@[simp] theorem y154_s : y154.size = 7 := rfl
@[simp] theorem y154_b : y154.bytes = 56 := rfl
@[simp] theorem y154_z : y154.zero = List.replicate 7 (.w64 0) := rfl
@[simp] theorem y154_z0 : y154.z0 = .w64 0 := rfl
def y155 : Ty := ⟨.func #[] #[] false, 1, 8, [.v .nilFunc]⟩
@[simp] theorem y155_s : y155.size = 1 := rfl
@[simp] theorem y155_b : y155.bytes = 8 := rfl
@[simp] theorem y155_z : y155.zero = [.v .nilFunc] := rfl
@[simp] theorem y155_z0 : y155.z0 = .v .nilFunc := rfl
def y156 : Ty := ⟨.struct #[⟨"", 154, 0, false, "", "", 0⟩, ⟨"", 154, 7, false, "", "", 0⟩], 14, 112, List.replicate 14 (.w64 0)⟩
@[simp] theorem y156_s : y156.size = 14 := rfl
@[simp] theorem y156_b : y156.bytes = 112 := rfl
@[simp] theorem y156_z : y156.zero = List.replicate 14 (.w64 0) := rfl
@[simp] theorem y156_z0 : y156.z0 = .w64 0 := rfl
def y157 : Ty := ⟨.struct #[⟨"", 154, 0, false, "", "", 0⟩, ⟨"", 154, 7, false, "", "", 0⟩], 14, 112, List.replicate 14 (.w64 0)⟩
@[simp] theorem y157_s : y157.size = 14 := rfl
@[simp] theorem y157_b : y157.bytes = 112 := rfl
@[simp] theorem y157_z : y157.zero = List.replicate 14 (.w64 0) := rfl
@[simp] theorem y157_z0 : y157.z0 = .w64 0 := rfl
def y158 : Ty := ⟨.func #[] #[] false, 1, 8, [.v .nilFunc]⟩
@[simp] theorem y158_s : y158.size = 1 := rfl
@[simp] theorem y158_b : y158.bytes = 8 := rfl
@[simp] theorem y158_z : y158.zero = [.v .nilFunc] := rfl
@[simp] theorem y158_z0 : y158.z0 = .v .nilFunc := rfl
def y159 : Ty := ⟨.func #[] #[] false, 1, 8, [.v .nilFunc]⟩
@[simp] theorem y159_s : y159.size = 1 := rfl
@[simp] theorem y159_b : y159.bytes = 8 := rfl
@[simp] theorem y159_z : y159.zero = [.v .nilFunc] := rfl
@[simp] theorem y159_z0 : y159.z0 = .v .nilFunc := rfl
def y161 : Ty := ⟨.func #[] #[] false, 1, 8, [.v .nilFunc]⟩
@[simp] theorem y161_s : y161.size = 1 := rfl
@[simp] theorem y161_b : y161.bytes = 8 := rfl
@[simp] theorem y161_z : y161.zero = [.v .nilFunc] := rfl
@[simp] theorem y161_z0 : y161.z0 = .v .nilFunc := rfl
def y162 : Ty := ⟨.func #[] #[] false, 1, 8, [.v .nilFunc]⟩
@[simp] theorem y162_s : y162.size = 1 := rfl
@[simp] theorem y162_b : y162.bytes = 8 := rfl
@[simp] theorem y162_z : y162.zero = [.v .nilFunc] := rfl
@[simp] theorem y162_z0 : y162.z0 = .v .nilFunc := rfl
def y163 : Ty := ⟨.func #[] #[] false, 1, 8, [.v .nilFunc]⟩
@[simp] theorem y163_s : y163.size = 1 := rfl
@[simp] theorem y163_b : y163.bytes = 8 := rfl
@[simp] theorem y163_z : y163.zero = [.v .nilFunc] := rfl
@[simp] theorem y163_z0 : y163.z0 = .v .nilFunc := rfl
def y164 : Ty := ⟨.func #[] #[] false, 1, 8, [.v .nilFunc]⟩
@[simp] theorem y164_s : y164.size = 1 := rfl
@[simp] theorem y164_b : y164.bytes = 8 := rfl
@[simp] theorem y164_z : y164.zero = [.v .nilFunc] := rfl
@[simp] theorem y164_z0 : y164.z0 = .v .nilFunc := rfl
def y166 : Ty := ⟨.func #[] #[] false, 1, 8, [.v .nilFunc]⟩
@[simp] theorem y166_s : y166.size = 1 := rfl
@[simp] theorem y166_b : y166.bytes = 8 := rfl
@[simp] theorem y166_z : y166.zero = [.v .nilFunc] := rfl
@[simp] theorem y166_z0 : y166.z0 = .v .nilFunc := rfl
def y168 : Ty := ⟨.func #[] #[] false, 1, 8, [.v .nilFunc]⟩
@[simp] theorem y168_s : y168.size = 1 := rfl
@[simp] theorem y168_b : y168.bytes = 8 := rfl
@[simp] theorem y168_z : y168.zero = [.v .nilFunc] := rfl
@[simp] theorem y168_z0 : y168.z0 = .v .nilFunc := rfl
def y169 : Ty := ⟨.func #[] #[] false, 1, 8, [.v .nilFunc]⟩
@[simp] theorem y169_s : y169.size = 1 := rfl
@[simp] theorem y169_b : y169.bytes = 8 := rfl
@[simp] theorem y169_z : y169.zero = [.v .nilFunc] := rfl
@[simp] theorem y169_z0 : y169.z0 = .v .nilFunc := rfl
def y170 : Ty := ⟨.pointer 127, 1, 8, [.v (.pointer none)]⟩
@[simp] theorem y170_s : y170.size = 1 := rfl
@[simp] theorem y170_b : y170.bytes = 8 := rfl
@[simp] theorem y170_z : y170.zero = [.v (.pointer none)] := rfl
@[simp] theorem y170_z0 : y170.z0 = .v (.pointer none) := rfl
def y171 : Ty := ⟨.func #[] #[] false, 1, 8, [.v .nilFunc]⟩
@[simp] theorem y171_s : y171.size = 1 := rfl
@[simp] theorem y171_b : y171.bytes = 8 := rfl
@[simp] theorem y171_z : y171.zero = [.v .nilFunc] := rfl
@[simp] theorem y171_z0 : y171.z0 = .v .nilFunc := rfl
def y172 : Ty := ⟨.func #[] #[] false, 1, 8, [.v .nilFunc]⟩
@[simp] theorem y172_s : y172.size = 1 := rfl
@[simp] theorem y172_b : y172.bytes = 8 := rfl
@[simp] theorem y172_z : y172.zero = [.v .nilFunc] := rfl
@[simp] theorem y172_z0 : y172.z0 = .v .nilFunc := rfl
def y173 : Ty := ⟨.func #[] #[] false, 1, 8, [.v .nilFunc]⟩
@[simp] theorem y173_s : y173.size = 1 := rfl
@[simp] theorem y173_b : y173.bytes = 8 := rfl
@[simp] theorem y173_z : y173.zero = [.v .nilFunc] := rfl
@[simp] theorem y173_z0 : y173.z0 = .v .nilFunc := rfl
def y174 : Ty := ⟨.func #[] #[] false, 1, 8, [.v .nilFunc]⟩
@[simp] theorem y174_s : y174.size = 1 := rfl
@[simp] theorem y174_b : y174.bytes = 8 := rfl
@[simp] theorem y174_z : y174.zero = [.v .nilFunc] := rfl
@[simp] theorem y174_z0 : y174.z0 = .v .nilFunc := rfl
def y175 : Ty := ⟨.func #[] #[] false, 1, 8, [.v .nilFunc]⟩
@[simp] theorem y175_s : y175.size = 1 := rfl
@[simp] theorem y175_b : y175.bytes = 8 := rfl
@[simp] theorem y175_z : y175.zero = [.v .nilFunc] := rfl
@[simp] theorem y175_z0 : y175.z0 = .v .nilFunc := rfl
def y176 : Ty := ⟨.func #[] #[] false, 1, 8, [.v .nilFunc]⟩
@[simp] theorem y176_s : y176.size = 1 := rfl
@[simp] theorem y176_b : y176.bytes = 8 := rfl
@[simp] theorem y176_z : y176.zero = [.v .nilFunc] := rfl
@[simp] theorem y176_z0 : y176.z0 = .v .nilFunc := rfl
def y177 : Ty := ⟨.func #[] #[] false, 1, 8, [.v .nilFunc]⟩
@[simp] theorem y177_s : y177.size = 1 := rfl
@[simp] theorem y177_b : y177.bytes = 8 := rfl
@[simp] theorem y177_z : y177.zero = [.v .nilFunc] := rfl
@[simp] theorem y177_z0 : y177.z0 = .v .nilFunc := rfl
def y178 : Ty := ⟨.func #[] #[] false, 1, 8, [.v .nilFunc]⟩
@[simp] theorem y178_s : y178.size = 1 := rfl
@[simp] theorem y178_b : y178.bytes = 8 := rfl
@[simp] theorem y178_z : y178.zero = [.v .nilFunc] := rfl
@[simp] theorem y178_z0 : y178.z0 = .v .nilFunc := rfl
def y179 : Ty := ⟨.func #[] #[] false, 1, 8, [.v .nilFunc]⟩
@[simp] theorem y179_s : y179.size = 1 := rfl
@[simp] theorem y179_b : y179.bytes = 8 := rfl
@[simp] theorem y179_z : y179.zero = [.v .nilFunc] := rfl
@[simp] theorem y179_z0 : y179.z0 = .v .nilFunc := rfl
def y180 : Ty := ⟨.func #[] #[] false, 1, 8, [.v .nilFunc]⟩
@[simp] theorem y180_s : y180.size = 1 := rfl
@[simp] theorem y180_b : y180.bytes = 8 := rfl
@[simp] theorem y180_z : y180.zero = [.v .nilFunc] := rfl
@[simp] theorem y180_z0 : y180.z0 = .v .nilFunc := rfl
def y182 : Ty := ⟨.func #[] #[] false, 1, 8, [.v .nilFunc]⟩
@[simp] theorem y182_s : y182.size = 1 := rfl
@[simp] theorem y182_b : y182.bytes = 8 := rfl
@[simp] theorem y182_z : y182.zero = [.v .nilFunc] := rfl
@[simp] theorem y182_z0 : y182.z0 = .v .nilFunc := rfl
def y183 : Ty := ⟨.func #[] #[] false, 1, 8, [.v .nilFunc]⟩
@[simp] theorem y183_s : y183.size = 1 := rfl
@[simp] theorem y183_b : y183.bytes = 8 := rfl
@[simp] theorem y183_z : y183.zero = [.v .nilFunc] := rfl
@[simp] theorem y183_z0 : y183.z0 = .v .nilFunc := rfl
def y184 : Ty := ⟨.func #[] #[] false, 1, 8, [.v .nilFunc]⟩
@[simp] theorem y184_s : y184.size = 1 := rfl
@[simp] theorem y184_b : y184.bytes = 8 := rfl
@[simp] theorem y184_z : y184.zero = [.v .nilFunc] := rfl
@[simp] theorem y184_z0 : y184.z0 = .v .nilFunc := rfl
def y185 : Ty := ⟨.func #[] #[] false, 1, 8, [.v .nilFunc]⟩
@[simp] theorem y185_s : y185.size = 1 := rfl
@[simp] theorem y185_b : y185.bytes = 8 := rfl
@[simp] theorem y185_z : y185.zero = [.v .nilFunc] := rfl
@[simp] theorem y185_z0 : y185.z0 = .v .nilFunc := rfl
def y186 : Ty := ⟨.array 20 5, 20, 20, List.replicate 20 (.w8 0)⟩
@[simp] theorem y186_s : y186.size = 20 := rfl
@[simp] theorem y186_b : y186.bytes = 20 := rfl
@[simp] theorem y186_z : y186.zero = List.replicate 20 (.w8 0) := rfl
@[simp] theorem y186_z0 : y186.z0 = .w8 0 := rfl
def y187 : Ty := ⟨.func #[] #[] false, 1, 8, [.v .nilFunc]⟩
@[simp] theorem y187_s : y187.size = 1 := rfl
@[simp] theorem y187_b : y187.bytes = 8 := rfl
@[simp] theorem y187_z : y187.zero = [.v .nilFunc] := rfl
@[simp] theorem y187_z0 : y187.z0 = .v .nilFunc := rfl
def y188 : Ty := ⟨.func #[] #[] false, 1, 8, [.v .nilFunc]⟩
@[simp] theorem y188_s : y188.size = 1 := rfl
@[simp] theorem y188_b : y188.bytes = 8 := rfl
@[simp] theorem y188_z : y188.zero = [.v .nilFunc] := rfl
@[simp] theorem y188_z0 : y188.z0 = .v .nilFunc := rfl
def y190 : Ty := ⟨.func #[] #[] false, 1, 8, [.v .nilFunc]⟩
@[simp] theorem y190_s : y190.size = 1 := rfl
@[simp] theorem y190_b : y190.bytes = 8 := rfl
@[simp] theorem y190_z : y190.zero = [.v .nilFunc] := rfl
@[simp] theorem y190_z0 : y190.z0 = .v .nilFunc := rfl
def y191 : Ty := ⟨.func #[] #[] false, 1, 8, [.v .nilFunc]⟩
@[simp] theorem y191_s : y191.size = 1 := rfl
@[simp] theorem y191_b : y191.bytes = 8 := rfl
@[simp] theorem y191_z : y191.zero = [.v .nilFunc] := rfl
@[simp] theorem y191_z0 : y191.z0 = .v .nilFunc := rfl
def y192 : Ty := ⟨.func #[] #[] false, 1, 8, [.v .nilFunc]⟩
@[simp] theorem y192_s : y192.size = 1 := rfl
@[simp] theorem y192_b : y192.bytes = 8 := rfl
@[simp] theorem y192_z : y192.zero = [.v .nilFunc] := rfl
@[simp] theorem y192_z0 : y192.z0 = .v .nilFunc := rfl
def y193 : Ty := ⟨.func #[] #[] false, 1, 8, [.v .nilFunc]⟩
@[simp] theorem y193_s : y193.size = 1 := rfl
@[simp] theorem y193_b : y193.bytes = 8 := rfl
@[simp] theorem y193_z : y193.zero = [.v .nilFunc] := rfl
@[simp] theorem y193_z0 : y193.z0 = .v .nilFunc := rfl
def y194 : Ty := ⟨.func #[] #[] false, 1, 8, [.v .nilFunc]⟩
@[simp] theorem y194_s : y194.size = 1 := rfl
@[simp] theorem y194_b : y194.bytes = 8 := rfl
@[simp] theorem y194_z : y194.zero = [.v .nilFunc] := rfl
@[simp] theorem y194_z0 : y194.z0 = .v .nilFunc := rfl
def y195 : Ty := ⟨.func #[] #[] false, 1, 8, [.v .nilFunc]⟩
@[simp] theorem y195_s : y195.size = 1 := rfl
@[simp] theorem y195_b : y195.bytes = 8 := rfl
@[simp] theorem y195_z : y195.zero = [.v .nilFunc] := rfl
@[simp] theorem y195_z0 : y195.z0 = .v .nilFunc := rfl
def y196 : Ty := ⟨.func #[] #[] false, 1, 8, [.v .nilFunc]⟩
@[simp] theorem y196_s : y196.size = 1 := rfl
@[simp] theorem y196_b : y196.bytes = 8 := rfl
@[simp] theorem y196_z : y196.zero = [.v .nilFunc] := rfl
@[simp] theorem y196_z0 : y196.z0 = .v .nilFunc := rfl
def y197 : Ty := ⟨.func #[] #[] false, 1, 8, [.v .nilFunc]⟩
@[simp] theorem y197_s : y197.size = 1 := rfl
@[simp] theorem y197_b : y197.bytes = 8 := rfl
@[simp] theorem y197_z : y197.zero = [.v .nilFunc] := rfl
@[simp] theorem y197_z0 : y197.z0 = .v .nilFunc := rfl
def y198 : Ty := ⟨.func #[] #[] false, 1, 8, [.v .nilFunc]⟩
@[simp] theorem y198_s : y198.size = 1 := rfl
@[simp] theorem y198_b : y198.bytes = 8 := rfl
@[simp] theorem y198_z : y198.zero = [.v .nilFunc] := rfl
@[simp] theorem y198_z0 : y198.z0 = .v .nilFunc := rfl
def y200 : Ty := ⟨.func #[] #[] false, 1, 8, [.v .nilFunc]⟩
@[simp] theorem y200_s : y200.size = 1 := rfl
@[simp] theorem y200_b : y200.bytes = 8 := rfl
@[simp] theorem y200_z : y200.zero = [.v .nilFunc] := rfl
@[simp] theorem y200_z0 : y200.z0 = .v .nilFunc := rfl
def y201 : Ty := ⟨.func #[] #[] false, 1, 8, [.v .nilFunc]⟩
@[simp] theorem y201_s : y201.size = 1 := rfl
@[simp] theorem y201_b : y201.bytes = 8 := rfl
@[simp] theorem y201_z : y201.zero = [.v .nilFunc] := rfl
@[simp] theorem y201_z0 : y201.z0 = .v .nilFunc := rfl
def y202 : Ty := ⟨.func #[] #[] false, 1, 8, [.v .nilFunc]⟩
@[simp] theorem y202_s : y202.size = 1 := rfl
@[simp] theorem y202_b : y202.bytes = 8 := rfl
@[simp] theorem y202_z : y202.zero = [.v .nilFunc] := rfl
@[simp] theorem y202_z0 : y202.z0 = .v .nilFunc := rfl
def y203 : Ty := ⟨.func #[] #[] false, 1, 8, [.v .nilFunc]⟩
@[simp] theorem y203_s : y203.size = 1 := rfl
@[simp] theorem y203_b : y203.bytes = 8 := rfl
@[simp] theorem y203_z : y203.zero = [.v .nilFunc] := rfl
@[simp] theorem y203_z0 : y203.z0 = .v .nilFunc := rfl
def y204 : Ty := ⟨.func #[] #[] false, 1, 8, [.v .nilFunc]⟩
@[simp] theorem y204_s : y204.size = 1 := rfl
@[simp] theorem y204_b : y204.bytes = 8 := rfl
@[simp] theorem y204_z : y204.zero = [.v .nilFunc] := rfl
@[simp] theorem y204_z0 : y204.z0 = .v .nilFunc := rfl
def y205 : Ty := ⟨.func #[] #[] false, 1, 8, [.v .nilFunc]⟩
@[simp] theorem y205_s : y205.size = 1 := rfl
@[simp] theorem y205_b : y205.bytes = 8 := rfl
@[simp] theorem y205_z : y205.zero = [.v .nilFunc] := rfl
@[simp] theorem y205_z0 : y205.z0 = .v .nilFunc := rfl
def y206 : Ty := ⟨.func #[] #[] false, 1, 8, [.v .nilFunc]⟩
@[simp] theorem y206_s : y206.size = 1 := rfl
@[simp] theorem y206_b : y206.bytes = 8 := rfl
@[simp] theorem y206_z : y206.zero = [.v .nilFunc] := rfl
@[simp] theorem y206_z0 : y206.z0 = .v .nilFunc := rfl
def y207 : Ty := ⟨.func #[] #[] false, 1, 8, [.v .nilFunc]⟩
@[simp] theorem y207_s : y207.size = 1 := rfl
@[simp] theorem y207_b : y207.bytes = 8 := rfl
@[simp] theorem y207_z : y207.zero = [.v .nilFunc] := rfl
@[simp] theorem y207_z0 : y207.z0 = .v .nilFunc := rfl
def y208 : Ty := ⟨.func #[] #[] false, 1, 8, [.v .nilFunc]⟩
@[simp] theorem y208_s : y208.size = 1 := rfl
@[simp] theorem y208_b : y208.bytes = 8 := rfl
@[simp] theorem y208_z : y208.zero = [.v .nilFunc] := rfl
@[simp] theorem y208_z0 : y208.z0 = .v .nilFunc := rfl
def y209 : Ty := ⟨.func #[] #[] false, 1, 8, [.v .nilFunc]⟩
@[simp] theorem y209_s : y209.size = 1 := rfl
@[simp] theorem y209_b : y209.bytes = 8 := rfl
@[simp] theorem y209_z : y209.zero = [.v .nilFunc] := rfl
@[simp] theorem y209_z0 : y209.z0 = .v .nilFunc := rfl
def y210 : Ty := ⟨.func #[] #[] false, 1, 8, [.v .nilFunc]⟩
@[simp] theorem y210_s : y210.size = 1 := rfl
@[simp] theorem y210_b : y210.bytes = 8 := rfl
@[simp] theorem y210_z : y210.zero = [.v .nilFunc] := rfl
@[simp] theorem y210_z0 : y210.z0 = .v .nilFunc := rfl
def y211 : Ty := ⟨.func #[] #[] false, 1, 8, [.v .nilFunc]⟩
@[simp] theorem y211_s : y211.size = 1 := rfl
@[simp] theorem y211_b : y211.bytes = 8 := rfl
@[simp] theorem y211_z : y211.zero = [.v .nilFunc] := rfl
@[simp] theorem y211_z0 : y211.z0 = .v .nilFunc := rfl
def y212 : Ty := ⟨.int .u64, 1, 8, [.w64 0]⟩
@[simp] theorem y212_s : y212.size = 1 := rfl
@[simp] theorem y212_b : y212.bytes = 8 := rfl
@[simp] theorem y212_z : y212.zero = [.w64 0] := rfl
@[simp] theorem y212_z0 : y212.z0 = .w64 0 := rfl
def y213 : Ty := ⟨.pointer 154, 1, 8, [.v (.pointer none)]⟩
@[simp] theorem y213_s : y213.size = 1 := rfl
@[simp] theorem y213_b : y213.bytes = 8 := rfl
@[simp] theorem y213_z : y213.zero = [.v (.pointer none)] := rfl
@[simp] theorem y213_z0 : y213.z0 = .v (.pointer none) := rfl
def y214 : Ty := ⟨.func #[] #[] false, 1, 8, [.v .nilFunc]⟩
@[simp] theorem y214_s : y214.size = 1 := rfl
@[simp] theorem y214_b : y214.bytes = 8 := rfl
@[simp] theorem y214_z : y214.zero = [.v .nilFunc] := rfl
@[simp] theorem y214_z0 : y214.z0 = .v .nilFunc := rfl
def y216 : Ty := ⟨.func #[] #[] false, 1, 8, [.v .nilFunc]⟩
@[simp] theorem y216_s : y216.size = 1 := rfl
@[simp] theorem y216_b : y216.bytes = 8 := rfl
@[simp] theorem y216_z : y216.zero = [.v .nilFunc] := rfl
@[simp] theorem y216_z0 : y216.z0 = .v .nilFunc := rfl
def y217 : Ty := ⟨.func #[] #[] false, 1, 8, [.v .nilFunc]⟩
@[simp] theorem y217_s : y217.size = 1 := rfl
@[simp] theorem y217_b : y217.bytes = 8 := rfl
@[simp] theorem y217_z : y217.zero = [.v .nilFunc] := rfl
@[simp] theorem y217_z0 : y217.z0 = .v .nilFunc := rfl
def y218 : Ty := ⟨.func #[] #[] false, 1, 8, [.v .nilFunc]⟩
@[simp] theorem y218_s : y218.size = 1 := rfl
@[simp] theorem y218_b : y218.bytes = 8 := rfl
@[simp] theorem y218_z : y218.zero = [.v .nilFunc] := rfl
@[simp] theorem y218_z0 : y218.z0 = .v .nilFunc := rfl
def y219 : Ty := ⟨.func #[] #[] false, 1, 8, [.v .nilFunc]⟩
@[simp] theorem y219_s : y219.size = 1 := rfl
@[simp] theorem y219_b : y219.bytes = 8 := rfl
@[simp] theorem y219_z : y219.zero = [.v .nilFunc] := rfl
@[simp] theorem y219_z0 : y219.z0 = .v .nilFunc := rfl
def y220 : Ty := ⟨.func #[] #[] false, 1, 8, [.v .nilFunc]⟩
@[simp] theorem y220_s : y220.size = 1 := rfl
@[simp] theorem y220_b : y220.bytes = 8 := rfl
@[simp] theorem y220_z : y220.zero = [.v .nilFunc] := rfl
@[simp] theorem y220_z0 : y220.z0 = .v .nilFunc := rfl
def y221 : Ty := ⟨.array 8 26, 8, 32, List.replicate 8 (.w32 0)⟩
@[simp] theorem y221_s : y221.size = 8 := rfl
@[simp] theorem y221_b : y221.bytes = 32 := rfl
@[simp] theorem y221_z : y221.zero = List.replicate 8 (.w32 0) := rfl
@[simp] theorem y221_z0 : y221.z0 = .w32 0 := rfl
def y222 : Ty := ⟨.array 8 26, 8, 32, List.replicate 8 (.w32 0)⟩
@[simp] theorem y222_s : y222.size = 8 := rfl
@[simp] theorem y222_b : y222.bytes = 32 := rfl
@[simp] theorem y222_z : y222.zero = List.replicate 8 (.w32 0) := rfl
@[simp] theorem y222_z0 : y222.z0 = .w32 0 := rfl
def y223 : Ty := ⟨.struct #[⟨"", 222, 0, false, "", "", 0⟩, ⟨"", 22, 8, false, "", "", 0⟩, ⟨"", 106, 9, false, "", "", 0⟩, ⟨"", 4, 10, false, "", "", 0⟩], 11, 72, List.replicate 8 (.w32 0) ++ ([.v (.slice none 0 0)] ++ ([.w64 0] ++ ([.bol false])))⟩
@[simp] theorem y223_s : y223.size = 11 := rfl
@[simp] theorem y223_b : y223.bytes = 72 := rfl
@[simp] theorem y223_z : y223.zero = List.replicate 8 (.w32 0) ++ ([.v (.slice none 0 0)] ++ ([.w64 0] ++ ([.bol false]))) := rfl
@[simp] theorem y223_z0 : y223.z0 = .w32 0 := rfl
def y224 : Ty := ⟨.struct #[⟨"", 222, 0, false, "", "", 0⟩, ⟨"", 22, 8, false, "", "", 0⟩, ⟨"", 106, 9, false, "", "", 0⟩, ⟨"", 4, 10, false, "", "", 0⟩], 11, 72, List.replicate 8 (.w32 0) ++ ([.v (.slice none 0 0)] ++ ([.w64 0] ++ ([.bol false])))⟩
@[simp] theorem y224_s : y224.size = 11 := rfl
@[simp] theorem y224_b : y224.bytes = 72 := rfl
@[simp] theorem y224_z : y224.zero = List.replicate 8 (.w32 0) ++ ([.v (.slice none 0 0)] ++ ([.w64 0] ++ ([.bol false]))) := rfl
@[simp] theorem y224_z0 : y224.z0 = .w32 0 := rfl
def y225 : Ty := ⟨.func #[] #[] false, 1, 8, [.v .nilFunc]⟩
@[simp] theorem y225_s : y225.size = 1 := rfl
@[simp] theorem y225_b : y225.bytes = 8 := rfl
@[simp] theorem y225_z : y225.zero = [.v .nilFunc] := rfl
@[simp] theorem y225_z0 : y225.z0 = .v .nilFunc := rfl
def y226 : Ty := ⟨.func #[] #[] false, 1, 8, [.v .nilFunc]⟩
@[simp] theorem y226_s : y226.size = 1 := rfl
@[simp] theorem y226_b : y226.bytes = 8 := rfl
@[simp] theorem y226_z : y226.zero = [.v .nilFunc] := rfl
@[simp] theorem y226_z0 : y226.z0 = .v .nilFunc := rfl
def y227 : Ty := ⟨.func #[] #[] false, 1, 8, [.v .nilFunc]⟩
@[simp] theorem y227_s : y227.size = 1 := rfl
@[simp] theorem y227_b : y227.bytes = 8 := rfl
@[simp] theorem y227_z : y227.zero = [.v .nilFunc] := rfl
@[simp] theorem y227_z0 : y227.z0 = .v .nilFunc := rfl
def y228 : Ty := ⟨.func #[] #[] false, 1, 8, [.v .nilFunc]⟩
@[simp] theorem y228_s : y228.size = 1 := rfl
@[simp] theorem y228_b : y228.bytes = 8 := rfl
@[simp] theorem y228_z : y228.zero = [.v .nilFunc] := rfl
@[simp] theorem y228_z0 : y228.z0 = .v .nilFunc := rfl
def y230 : Ty := ⟨.func #[] #[] false, 1, 8, [.v .nilFunc]⟩
@[simp] theorem y230_s : y230.size = 1 := rfl
@[simp] theorem y230_b : y230.bytes = 8 := rfl
@[simp] theorem y230_z : y230.zero = [.v .nilFunc] := rfl
@[simp] theorem y230_z0 : y230.z0 = .v .nilFunc := rfl
def y231 : Ty := ⟨.array 5 26, 5, 20, List.replicate 5 (.w32 0)⟩
@[simp] theorem y231_s : y231.size = 5 := rfl
@[simp] theorem y231_b : y231.bytes = 20 := rfl
@[simp] theorem y231_z : y231.zero = List.replicate 5 (.w32 0) := rfl
@[simp] theorem y231_z0 : y231.z0 = .w32 0 := rfl
def y232 : Ty := ⟨.func #[] #[] false, 1, 8, [.v .nilFunc]⟩
@[simp] theorem y232_s : y232.size = 1 := rfl
@[simp] theorem y232_b : y232.bytes = 8 := rfl
@[simp] theorem y232_z : y232.zero = [.v .nilFunc] := rfl
@[simp] theorem y232_z0 : y232.z0 = .v .nilFunc := rfl
def y233 : Ty := ⟨.array 80 3, 80, 640, List.replicate 80 (.int 0)⟩
@[simp] theorem y233_s : y233.size = 80 := rfl
@[simp] theorem y233_b : y233.bytes = 640 := rfl
@[simp] theorem y233_z : y233.zero = List.replicate 80 (.int 0) := rfl
@[simp] theorem y233_z0 : y233.z0 = .int 0 := rfl
def y234 : Ty := ⟨.struct #[⟨"", 233, 0, false, "", "", 0⟩, ⟨"", 233, 80, false, "", "", 0⟩, ⟨"", 231, 160, false, "", "", 0⟩], 165, 1304, List.replicate 160 (.int 0) ++ (List.replicate 5 (.w32 0))⟩
@[simp] theorem y234_s : y234.size = 165 := rfl
@[simp] theorem y234_b : y234.bytes = 1304 := rfl
@[simp] theorem y234_z : y234.zero = List.replicate 160 (.int 0) ++ (List.replicate 5 (.w32 0)) := rfl
@[simp] theorem y234_z0 : y234.z0 = .int 0 := rfl
def y235 : Ty := ⟨.struct #[⟨"", 233, 0, false, "", "", 0⟩, ⟨"", 233, 80, false, "", "", 0⟩, ⟨"", 231, 160, false, "", "", 0⟩], 165, 1304, List.replicate 160 (.int 0) ++ (List.replicate 5 (.w32 0))⟩
@[simp] theorem y235_s : y235.size = 165 := rfl
@[simp] theorem y235_b : y235.bytes = 1304 := rfl
@[simp] theorem y235_z : y235.zero = List.replicate 160 (.int 0) ++ (List.replicate 5 (.w32 0)) := rfl
@[simp] theorem y235_z0 : y235.z0 = .int 0 := rfl
def y236 : Ty := ⟨.func #[] #[] false, 1, 8, [.v .nilFunc]⟩
@[simp] theorem y236_s : y236.size = 1 := rfl
@[simp] theorem y236_b : y236.bytes = 8 := rfl
@[simp] theorem y236_z : y236.zero = [.v .nilFunc] := rfl
@[simp] theorem y236_z0 : y236.z0 = .v .nilFunc := rfl
def y237 : Ty := ⟨.func #[] #[] false, 1, 8, [.v .nilFunc]⟩
@[simp] theorem y237_s : y237.size = 1 := rfl
@[simp] theorem y237_b : y237.bytes = 8 := rfl
@[simp] theorem y237_z : y237.zero = [.v .nilFunc] := rfl
@[simp] theorem y237_z0 : y237.z0 = .v .nilFunc := rfl
def y238 : Ty := ⟨.func #[] #[] false, 1, 8, [.v .nilFunc]⟩
@[simp] theorem y238_s : y238.size = 1 := rfl
@[simp] theorem y238_b : y238.bytes = 8 := rfl
@[simp] theorem y238_z : y238.zero = [.v .nilFunc] := rfl
@[simp] theorem y238_z0 : y238.z0 = .v .nilFunc := rfl
def y239 : Ty := ⟨.func #[] #[] false, 1, 8, [.v .nilFunc]⟩
@[simp] theorem y239_s : y239.size = 1 := rfl
@[simp] theorem y239_b : y239.bytes = 8 := rfl
@[simp] theorem y239_z : y239.zero = [.v .nilFunc] := rfl
@[simp] theorem y239_z0 : y239.z0 = .v .nilFunc := rfl
def y240 : Ty := ⟨.array 16 26, 16, 64, List.replicate 16 (.w32 0)⟩
@[simp] theorem y240_s : y240.size = 16 := rfl
@[simp] theorem y240_b : y240.bytes = 64 := rfl
@[simp] theorem y240_z : y240.zero = List.replicate 16 (.w32 0) := rfl
@[simp] theorem y240_z0 : y240.z0 = .w32 0 := rfl
def y241 : Ty := ⟨.func #[] #[] false, 1, 8, [.v .nilFunc]⟩
@[simp] theorem y241_s : y241.size = 1 := rfl
@[simp] theorem y241_b : y241.bytes = 8 := rfl
@[simp] theorem y241_z : y241.zero = [.v .nilFunc] := rfl
@[simp] theorem y241_z0 : y241.z0 = .v .nilFunc := rfl
def y242 : Ty := ⟨.func #[] #[] false, 1, 8, [.v .nilFunc]⟩
@[simp] theorem y242_s : y242.size = 1 := rfl
@[simp] theorem y242_b : y242.bytes = 8 := rfl
@[simp] theorem y242_z : y242.zero = [.v .nilFunc] := rfl
@[simp] theorem y242_z0 : y242.z0 = .v .nilFunc := rfl
def y243 : Ty := ⟨.func #[] #[] false, 1, 8, [.v .nilFunc]⟩
@[simp] theorem y243_s : y243.size = 1 := rfl
@[simp] theorem y243_b : y243.bytes = 8 := rfl
@[simp] theorem y243_z : y243.zero = [.v .nilFunc] := rfl
@[simp] theorem y243_z0 : y243.z0 = .v .nilFunc := rfl
def y244 : Ty := ⟨.func #[] #[] false, 1, 8, [.v .nilFunc]⟩
@[simp] theorem y244_s : y244.size = 1 := rfl
@[simp] theorem y244_b : y244.bytes = 8 := rfl
@[simp] theorem y244_z : y244.zero = [.v .nilFunc] := rfl
@[simp] theorem y244_z0 : y244.z0 = .v .nilFunc := rfl
def y245 : Ty := ⟨.func #[] #[] false, 1, 8, [.v .nilFunc]⟩
@[simp] theorem y245_s : y245.size = 1 := rfl
@[simp] theorem y245_b : y245.bytes = 8 := rfl
@[simp] theorem y245_z : y245.zero = [.v .nilFunc] := rfl
@[simp] theorem y245_z0 : y245.z0 = .v .nilFunc := rfl
def y247 : Ty := ⟨.func #[] #[] false, 1, 8, [.v .nilFunc]⟩
@[simp] theorem y247_s : y247.size = 1 := rfl
@[simp] theorem y247_b : y247.bytes = 8 := rfl
@[simp] theorem y247_z : y247.zero = [.v .nilFunc] := rfl
@[simp] theorem y247_z0 : y247.z0 = .v .nilFunc := rfl
def y248 : Ty := ⟨.func #[] #[] false, 1, 8, [.v .nilFunc]⟩
@[simp] theorem y248_s : y248.size = 1 := rfl
@[simp] theorem y248_b : y248.bytes = 8 := rfl
@[simp] theorem y248_z : y248.zero = [.v .nilFunc] := rfl
@[simp] theorem y248_z0 : y248.z0 = .v .nilFunc := rfl
def y249 : Ty := ⟨.func #[] #[] false, 1, 8, [.v .nilFunc]⟩
@[simp] theorem y249_s : y249.size = 1 := rfl
@[simp] theorem y249_b : y249.bytes = 8 := rfl
@[simp] theorem y249_z : y249.zero = [.v .nilFunc] := rfl
@[simp] theorem y249_z0 : y249.z0 = .v .nilFunc := rfl
def y251 : Ty := ⟨.func #[] #[] false, 1, 8, [.v .nilFunc]⟩
@[simp] theorem y251_s : y251.size = 1 := rfl
@[simp] theorem y251_b : y251.bytes = 8 := rfl
@[simp] theorem y251_z : y251.zero = [.v .nilFunc] := rfl
@[simp] theorem y251_z0 : y251.z0 = .v .nilFunc := rfl
def y253 : Ty := ⟨.func #[] #[] false, 1, 8, [.v .nilFunc]⟩
@[simp] theorem y253_s : y253.size = 1 := rfl
@[simp] theorem y253_b : y253.bytes = 8 := rfl
@[simp] theorem y253_z : y253.zero = [.v .nilFunc] := rfl
@[simp] theorem y253_z0 : y253.z0 = .v .nilFunc := rfl
def y255 : Ty := ⟨.func #[] #[] false, 1, 8, [.v .nilFunc]⟩
@[simp] theorem y255_s : y255.size = 1 := rfl
@[simp] theorem y255_b : y255.bytes = 8 := rfl
@[simp] theorem y255_z : y255.zero = [.v .nilFunc] := rfl
@[simp] theorem y255_z0 : y255.z0 = .v .nilFunc := rfl
def y256 : Ty := ⟨.int .i64, 1, 8, [.int 0]⟩
@[simp] theorem y256_s : y256.size = 1 := rfl
@[simp] theorem y256_b : y256.bytes = 8 := rfl
@[simp] theorem y256_z : y256.zero = [.int 0] := rfl
@[simp] theorem y256_z0 : y256.z0 = .int 0 := rfl
def y259 : Ty := ⟨.func #[] #[] false, 1, 8, [.v .nilFunc]⟩
@[simp] theorem y259_s : y259.size = 1 := rfl
@[simp] theorem y259_b : y259.bytes = 8 := rfl
@[simp] theorem y259_z : y259.zero = [.v .nilFunc] := rfl
@[simp] theorem y259_z0 : y259.z0 = .v .nilFunc := rfl
def y260 : Ty := ⟨.array 8 106, 8, 64, List.replicate 8 (.w64 0)⟩
@[simp] theorem y260_s : y260.size = 8 := rfl
@[simp] theorem y260_b : y260.bytes = 64 := rfl
@[simp] theorem y260_z : y260.zero = List.replicate 8 (.w64 0) := rfl
@[simp] theorem y260_z0 : y260.z0 = .w64 0 := rfl
def y261 : Ty := ⟨.func #[] #[] false, 1, 8, [.v .nilFunc]⟩
@[simp] theorem y261_s : y261.size = 1 := rfl
@[simp] theorem y261_b : y261.bytes = 8 := rfl
@[simp] theorem y261_z : y261.zero = [.v .nilFunc] := rfl
@[simp] theorem y261_z0 : y261.z0 = .v .nilFunc := rfl
def y262 : Ty := ⟨.func #[] #[] false, 1, 8, [.v .nilFunc]⟩
@[simp] theorem y262_s : y262.size = 1 := rfl
@[simp] theorem y262_b : y262.bytes = 8 := rfl
@[simp] theorem y262_z : y262.zero = [.v .nilFunc] := rfl
@[simp] theorem y262_z0 : y262.z0 = .v .nilFunc := rfl
def y263 : Ty := ⟨.pointer 113, 1, 8, [.v (.pointer none)]⟩
@[simp] theorem y263_s : y263.size = 1 := rfl
@[simp] theorem y263_b : y263.bytes = 8 := rfl
@[simp] theorem y263_z : y263.zero = [.v (.pointer none)] := rfl
@[simp] theorem y263_z0 : y263.z0 = .v (.pointer none) := rfl
def y264 : Ty := ⟨.func #[] #[] false, 1, 8, [.v .nilFunc]⟩
@[simp] theorem y264_s : y264.size = 1 := rfl
@[simp] theorem y264_b : y264.bytes = 8 := rfl
@[simp] theorem y264_z : y264.zero = [.v .nilFunc] := rfl
@[simp] theorem y264_z0 : y264.z0 = .v .nilFunc := rfl
def y265 : Ty := ⟨.func #[] #[] false, 1, 8, [.v .nilFunc]⟩
@[simp] theorem y265_s : y265.size = 1 := rfl
@[simp] theorem y265_b : y265.bytes = 8 := rfl
@[simp] theorem y265_z : y265.zero = [.v .nilFunc] := rfl
@[simp] theorem y265_z0 : y265.z0 = .v .nilFunc := rfl
def y266 : Ty := ⟨.func #[] #[] false, 1, 8, [.v .nilFunc]⟩
@[simp] theorem y266_s : y266.size = 1 := rfl
@[simp] theorem y266_b : y266.bytes = 8 := rfl
@[simp] theorem y266_z : y266.zero = [.v .nilFunc] := rfl
@[simp] theorem y266_z0 : y266.z0 = .v .nilFunc := rfl
def y267 : Ty := ⟨.map 3 5, 1, 8, [.v (.map none)]⟩
@[simp] theorem y267_s : y267.size = 1 := rfl
@[simp] theorem y267_b : y267.bytes = 8 := rfl
@[simp] theorem y267_z : y267.zero = [.v (.map none)] := rfl
@[simp] theorem y267_z0 : y267.z0 = .v (.map none) := rfl
def y268 : Ty := ⟨.pointer 224, 1, 8, [.v (.pointer none)]⟩
@[simp] theorem y268_s : y268.size = 1 := rfl
@[simp] theorem y268_b : y268.bytes = 8 := rfl
@[simp] theorem y268_z : y268.zero = [.v (.pointer none)] := rfl
@[simp] theorem y268_z0 : y268.z0 = .v (.pointer none) := rfl
def y269 : Ty := ⟨.func #[] #[] false, 1, 8, [.v .nilFunc]⟩
@[simp] theorem y269_s : y269.size = 1 := rfl
@[simp] theorem y269_b : y269.bytes = 8 := rfl
@[simp] theorem y269_z : y269.zero = [.v .nilFunc] := rfl
@[simp] theorem y269_z0 : y269.z0 = .v .nilFunc := rfl
def y270 : Ty := ⟨.array 64 26, 64, 256, List.replicate 64 (.w32 0)⟩
@[simp] theorem y270_s : y270.size = 64 := rfl
@[simp] theorem y270_b : y270.bytes = 256 := rfl
@[simp] theorem y270_z : y270.zero = List.replicate 64 (.w32 0) := rfl
@[simp] theorem y270_z0 : y270.z0 = .w32 0 := rfl
def y271 : Ty := ⟨.func #[] #[] false, 1, 8, [.v .nilFunc]⟩
@[simp] theorem y271_s : y271.size = 1 := rfl
@[simp] theorem y271_b : y271.bytes = 8 := rfl
@[simp] theorem y271_z : y271.zero = [.v .nilFunc] := rfl
@[simp] theorem y271_z0 : y271.z0 = .v .nilFunc := rfl
def y272 : Ty := ⟨.func #[] #[] false, 1, 8, [.v .nilFunc]⟩
@[simp] theorem y272_s : y272.size = 1 := rfl
@[simp] theorem y272_b : y272.bytes = 8 := rfl
@[simp] theorem y272_z : y272.zero = [.v .nilFunc] := rfl
@[simp] theorem y272_z0 : y272.z0 = .v .nilFunc := rfl
def y273 : Ty := ⟨.pointer 270, 1, 8, [.v (.pointer none)]⟩
@[simp] theorem y273_s : y273.size = 1 := rfl
@[simp] theorem y273_b : y273.bytes = 8 := rfl
@[simp] theorem y273_z : y273.zero = [.v (.pointer none)] := rfl
@[simp] theorem y273_z0 : y273.z0 = .v (.pointer none) := rfl
def y274 : Ty := ⟨.func #[] #[] false, 1, 8, [.v .nilFunc]⟩
@[simp] theorem y274_s : y274.size = 1 := rfl
@[simp] theorem y274_b : y274.bytes = 8 := rfl
@[simp] theorem y274_z : y274.zero = [.v .nilFunc] := rfl
@[simp] theorem y274_z0 : y274.z0 = .v .nilFunc := rfl
def y275 : Ty := ⟨.func #[] #[] false, 1, 8, [.v .nilFunc]⟩
@[simp] theorem y275_s : y275.size = 1 := rfl
@[simp] theorem y275_b : y275.bytes = 8 := rfl
@[simp] theorem y275_z : y275.zero = [.v .nilFunc] := rfl
@[simp] theorem y275_z0 : y275.z0 = .v .nilFunc := rfl
def y276 : Ty := ⟨.func #[] #[] false, 1, 8, [.v .nilFunc]⟩
@[simp] theorem y276_s : y276.size = 1 := rfl
@[simp] theorem y276_b : y276.bytes = 8 := rfl
@[simp] theorem y276_z : y276.zero = [.v .nilFunc] := rfl
@[simp] theorem y276_z0 : y276.z0 = .v .nilFunc := rfl
def y277 : Ty := ⟨.func #[] #[] false, 1, 8, [.v .nilFunc]⟩
@[simp] theorem y277_s : y277.size = 1 := rfl
@[simp] theorem y277_b : y277.bytes = 8 := rfl
@[simp] theorem y277_z : y277.zero = [.v .nilFunc] := rfl
@[simp] theorem y277_z0 : y277.z0 = .v .nilFunc := rfl
def y278 : Ty := ⟨.func #[] #[] false, 1, 8, [.v .nilFunc]⟩
@[simp] theorem y278_s : y278.size = 1 := rfl
@[simp] theorem y278_b : y278.bytes = 8 := rfl
@[simp] theorem y278_z : y278.zero = [.v .nilFunc] := rfl
@[simp] theorem y278_z0 : y278.z0 = .v .nilFunc := rfl
def y279 : Ty := ⟨.func #[] #[] false, 1, 8, [.v .nilFunc]⟩
@[simp] theorem y279_s : y279.size = 1 := rfl
@[simp] theorem y279_b : y279.bytes = 8 := rfl
@[simp] theorem y279_z : y279.zero = [.v .nilFunc] := rfl
@[simp] theorem y279_z0 : y279.z0 = .v .nilFunc := rfl
def y280 : Ty := ⟨.func #[] #[] false, 1, 8, [.v .nilFunc]⟩
@[simp] theorem y280_s : y280.size = 1 := rfl
@[simp] theorem y280_b : y280.bytes = 8 := rfl
@[simp] theorem y280_z : y280.zero = [.v .nilFunc] := rfl
@[simp] theorem y280_z0 : y280.z0 = .v .nilFunc := rfl
def y281 : Ty := ⟨.func #[] #[] false, 1, 8, [.v .nilFunc]⟩
@[simp] theorem y281_s : y281.size = 1 := rfl
@[simp] theorem y281_b : y281.bytes = 8 := rfl
@[simp] theorem y281_z : y281.zero = [.v .nilFunc] := rfl
@[simp] theorem y281_z0 : y281.z0 = .v .nilFunc := rfl
def y282 : Ty := ⟨.pointer 222, 1, 8, [.v (.pointer none)]⟩
@[simp] theorem y282_s : y282.size = 1 := rfl
@[simp] theorem y282_b : y282.bytes = 8 := rfl
@[simp] theorem y282_z : y282.zero = [.v (.pointer none)] := rfl
@[simp] theorem y282_z0 : y282.z0 = .v (.pointer none) := rfl
def y283 : Ty := ⟨.slice 26, 1, 24, [.v (.slice none 0 0)]⟩
@[simp] theorem y283_s : y283.size = 1 := rfl
@[simp] theorem y283_b : y283.bytes = 24 := rfl
@[simp] theorem y283_z : y283.zero = [.v (.slice none 0 0)] := rfl
@[simp] theorem y283_z0 : y283.z0 = .v (.slice none 0 0) := rfl
def y284 : Ty := ⟨.func #[] #[] false, 1, 8, [.v .nilFunc]⟩
@[simp] theorem y284_s : y284.size = 1 := rfl
@[simp] theorem y284_b : y284.bytes = 8 := rfl
@[simp] theorem y284_z : y284.zero = [.v .nilFunc] := rfl
@[simp] theorem y284_z0 : y284.z0 = .v .nilFunc := rfl
def y285 : Ty := ⟨.func #[] #[] false, 1, 8, [.v .nilFunc]⟩
@[simp] theorem y285_s : y285.size = 1 := rfl
@[simp] theorem y285_b : y285.bytes = 8 := rfl
@[simp] theorem y285_z : y285.zero = [.v .nilFunc] := rfl
@[simp] theorem y285_z0 : y285.z0 = .v .nilFunc := rfl
def y286 : Ty := ⟨.func #[] #[] false, 1, 8, [.v .nilFunc]⟩
@[simp] theorem y286_s : y286.size = 1 := rfl
@[simp] theorem y286_b : y286.bytes = 8 := rfl
@[simp] theorem y286_z : y286.zero = [.v .nilFunc] := rfl
@[simp] theorem y286_z0 : y286.z0 = .v .nilFunc := rfl
def y287 : Ty := ⟨.func #[] #[] false, 1, 8, [.v .nilFunc]⟩
@[simp] theorem y287_s : y287.size = 1 := rfl
@[simp] theorem y287_b : y287.bytes = 8 := rfl
@[simp] theorem y287_z : y287.zero = [.v .nilFunc] := rfl
@[simp] theorem y287_z0 : y287.z0 = .v .nilFunc := rfl
def y288 : Ty := ⟨.array 8 26, 8, 32, List.replicate 8 (.w32 0)⟩
@[simp] theorem y288_s : y288.size = 8 := rfl
@[simp] theorem y288_b : y288.bytes = 32 := rfl
@[simp] theorem y288_z : y288.zero = List.replicate 8 (.w32 0) := rfl
@[simp] theorem y288_z0 : y288.z0 = .w32 0 := rfl
def y289 : Ty := ⟨.struct #[⟨"", 288, 0, false, "", "", 0⟩, ⟨"", 288, 8, false, "", "", 0⟩, ⟨"", 288, 16, false, "", "", 0⟩], 24, 96, List.replicate 24 (.w32 0)⟩
@[simp] theorem y289_s : y289.size = 24 := rfl
@[simp] theorem y289_b : y289.bytes = 96 := rfl
@[simp] theorem y289_z : y289.zero = List.replicate 24 (.w32 0) := rfl
@[simp] theorem y289_z0 : y289.z0 = .w32 0 := rfl
def y290 : Ty := ⟨.struct #[⟨"", 288, 0, false, "", "", 0⟩, ⟨"", 288, 8, false, "", "", 0⟩, ⟨"", 288, 16, false, "", "", 0⟩], 24, 96, List.replicate 24 (.w32 0)⟩
@[simp] theorem y290_s : y290.size = 24 := rfl
@[simp] theorem y290_b : y290.bytes = 96 := rfl
@[simp] theorem y290_z : y290.zero = List.replicate 24 (.w32 0) := rfl
@[simp] theorem y290_z0 : y290.z0 = .w32 0 := rfl
def y292 : Ty := ⟨.func #[] #[] false, 1, 8, [.v .nilFunc]⟩
@[simp] theorem y292_s : y292.size = 1 := rfl
@[simp] theorem y292_b : y292.bytes = 8 := rfl
@[simp] theorem y292_z : y292.zero = [.v .nilFunc] := rfl
@[simp] theorem y292_z0 : y292.z0 = .v .nilFunc := rfl
def y293 : Ty := ⟨.func #[] #[] false, 1, 8, [.v .nilFunc]⟩
@[simp] theorem y293_s : y293.size = 1 := rfl
@[simp] theorem y293_b : y293.bytes = 8 := rfl
@[simp] theorem y293_z : y293.zero = [.v .nilFunc] := rfl
@[simp] theorem y293_z0 : y293.z0 = .v .nilFunc := rfl
def y294 : Ty := ⟨.func #[] #[] false, 1, 8, [.v .nilFunc]⟩
@[simp] theorem y294_s : y294.size = 1 := rfl
@[simp] theorem y294_b : y294.bytes = 8 := rfl
@[simp] theorem y294_z : y294.zero = [.v .nilFunc] := rfl
@[simp] theorem y294_z0 : y294.z0 = .v .nilFunc := rfl
def y295 : Ty := ⟨.func #[] #[] false, 1, 8, [.v .nilFunc]⟩
@[simp] theorem y295_s : y295.size = 1 := rfl
@[simp] theorem y295_b : y295.bytes = 8 := rfl
@[simp] theorem y295_z : y295.zero = [.v .nilFunc] := rfl
@[simp] theorem y295_z0 : y295.z0 = .v .nilFunc := rfl
def y296 : Ty := ⟨.func #[] #[] false, 1, 8, [.v .nilFunc]⟩
@[simp] theorem y296_s : y296.size = 1 := rfl
@[simp] theorem y296_b : y296.bytes = 8 := rfl
@[simp] theorem y296_z : y296.zero = [.v .nilFunc] := rfl
@[simp] theorem y296_z0 : y296.z0 = .v .nilFunc := rfl
def y297 : Ty := ⟨.func #[] #[] false, 1, 8, [.v .nilFunc]⟩
@[simp] theorem y297_s : y297.size = 1 := rfl
@[simp] theorem y297_b : y297.bytes = 8 := rfl
@[simp] theorem y297_z : y297.zero = [.v .nilFunc] := rfl
@[simp] theorem y297_z0 : y297.z0 = .v .nilFunc := rfl
def y298 : Ty := ⟨.func #[] #[] false, 1, 8, [.v .nilFunc]⟩
@[simp] theorem y298_s : y298.size = 1 := rfl
@[simp] theorem y298_b : y298.bytes = 8 := rfl
@[simp] theorem y298_z : y298.zero = [.v .nilFunc] := rfl
@[simp] theorem y298_z0 : y298.z0 = .v .nilFunc := rfl
def y299 : Ty := ⟨.func #[] #[] false, 1, 8, [.v .nilFunc]⟩
@[simp] theorem y299_s : y299.size = 1 := rfl
@[simp] theorem y299_b : y299.bytes = 8 := rfl
@[simp] theorem y299_z : y299.zero = [.v .nilFunc] := rfl
@[simp] theorem y299_z0 : y299.z0 = .v .nilFunc := rfl
def y300 : Ty := ⟨.func #[] #[] false, 1, 8, [.v .nilFunc]⟩
@[simp] theorem y300_s : y300.size = 1 := rfl
@[simp] theorem y300_b : y300.bytes = 8 := rfl
@[simp] theorem y300_z : y300.zero = [.v .nilFunc] := rfl
@[simp] theorem y300_z0 : y300.z0 = .v .nilFunc := rfl
def y302 : Ty := ⟨.func #[] #[] false, 1, 8, [.v .nilFunc]⟩
@[simp] theorem y302_s : y302.size = 1 := rfl
@[simp] theorem y302_b : y302.bytes = 8 := rfl
@[simp] theorem y302_z : y302.zero = [.v .nilFunc] := rfl
@[simp] theorem y302_z0 : y302.z0 = .v .nilFunc := rfl
def y303 : Ty := ⟨.func #[] #[] false, 1, 8, [.v .nilFunc]⟩
@[simp] theorem y303_s : y303.size = 1 := rfl
@[simp] theorem y303_b : y303.bytes = 8 := rfl
@[simp] theorem y303_z : y303.zero = [.v .nilFunc] := rfl
@[simp] theorem y303_z0 : y303.z0 = .v .nilFunc := rfl
def y304 : Ty := ⟨.func #[] #[] false, 1, 8, [.v .nilFunc]⟩
@[simp] theorem y304_s : y304.size = 1 := rfl
@[simp] theorem y304_b : y304.bytes = 8 := rfl
@[simp] theorem y304_z : y304.zero = [.v .nilFunc] := rfl
@[simp] theorem y304_z0 : y304.z0 = .v .nilFunc := rfl
def y305 : Ty := ⟨.func #[] #[] false, 1, 8, [.v .nilFunc]⟩
@[simp] theorem y305_s : y305.size = 1 := rfl
@[simp] theorem y305_b : y305.bytes = 8 := rfl
@[simp] theorem y305_z : y305.zero = [.v .nilFunc] := rfl
@[simp] theorem y305_z0 : y305.z0 = .v .nilFunc := rfl
def y306 : Ty := ⟨.func #[] #[] false, 1, 8, [.v .nilFunc]⟩
@[simp] theorem y306_s : y306.size = 1 := rfl
@[simp] theorem y306_b : y306.bytes = 8 := rfl
@[simp] theorem y306_z : y306.zero = [.v .nilFunc] := rfl
@[simp] theorem y306_z0 : y306.z0 = .v .nilFunc := rfl
def y307 : Ty := ⟨.func #[] #[] false, 1, 8, [.v .nilFunc]⟩
@[simp] theorem y307_s : y307.size = 1 := rfl
@[simp] theorem y307_b : y307.bytes = 8 := rfl
@[simp] theorem y307_z : y307.zero = [.v .nilFunc] := rfl
@[simp] theorem y307_z0 : y307.z0 = .v .nilFunc := rfl
def y308 : Ty := ⟨.array 17 26, 17, 68, List.replicate 17 (.w32 0)⟩
@[simp] theorem y308_s : y308.size = 17 := rfl
@[simp] theorem y308_b : y308.bytes = 68 := rfl
@[simp] theorem y308_z : y308.zero = List.replicate 17 (.w32 0) := rfl
@[simp] theorem y308_z0 : y308.z0 = .w32 0 := rfl
def y309 : Ty := ⟨.array 17 26, 17, 68, List.replicate 17 (.w32 0)⟩
@[simp] theorem y309_s : y309.size = 17 := rfl
@[simp] theorem y309_b : y309.bytes = 68 := rfl
@[simp] theorem y309_z : y309.zero = List.replicate 17 (.w32 0) := rfl
@[simp] theorem y309_z0 : y309.z0 = .w32 0 := rfl
def y310 : Ty := ⟨.func #[] #[] false, 1, 8, [.v .nilFunc]⟩
@[simp] theorem y310_s : y310.size = 1 := rfl
@[simp] theorem y310_b : y310.bytes = 8 := rfl
@[simp] theorem y310_z : y310.zero = [.v .nilFunc] := rfl
@[simp] theorem y310_z0 : y310.z0 = .v .nilFunc := rfl
def y311 : Ty := ⟨.func #[] #[] false, 1, 8, [.v .nilFunc]⟩
@[simp] theorem y311_s : y311.size = 1 := rfl
@[simp] theorem y311_b : y311.bytes = 8 := rfl
@[simp] theorem y311_z : y311.zero = [.v .nilFunc] := rfl
@[simp] theorem y311_z0 : y311.z0 = .v .nilFunc := rfl
def y312 : Ty := ⟨.struct #[⟨"", 17, 0, false, "", "", 0⟩, ⟨"", 17, 1, false, "", "", 0⟩, ⟨"", 17, 2, false, "", "", 0⟩, ⟨"", 9, 3, false, "", "", 0⟩], 4, 40, [.v (.pointer none), .v (.pointer none), .v (.pointer none)] ++ ([.v (.string default)])⟩
@[simp] theorem y312_s : y312.size = 4 := rfl
@[simp] theorem y312_b : y312.bytes = 40 := rfl
@[simp] theorem y312_z : y312.zero = [.v (.pointer none), .v (.pointer none), .v (.pointer none)] ++ ([.v (.string default)]) := rfl
@[simp] theorem y312_z0 : y312.z0 = .v (.pointer none) := rfl
def y313 : Ty := ⟨.struct #[⟨"", 17, 0, false, "", "", 0⟩, ⟨"", 17, 1, false, "", "", 0⟩, ⟨"", 17, 2, false, "", "", 0⟩, ⟨"", 9, 3, false, "", "", 0⟩], 4, 40, [.v (.pointer none), .v (.pointer none), .v (.pointer none)] ++ ([.v (.string default)])⟩
@[simp] theorem y313_s : y313.size = 4 := rfl
@[simp] theorem y313_b : y313.bytes = 40 := rfl
@[simp] theorem y313_z : y313.zero = [.v (.pointer none), .v (.pointer none), .v (.pointer none)] ++ ([.v (.string default)]) := rfl
@[simp] theorem y313_z0 : y313.z0 = .v (.pointer none) := rfl
def y314 : Ty := ⟨.array 0 16, 0, 0, []⟩
@[simp] theorem y314_s : y314.size = 0 := rfl
@[simp] theorem y314_b : y314.bytes = 0 := rfl
@[simp] theorem y314_z : y314.zero = [] := rfl
@[simp] theorem y314_z0 : y314.z0 = .v undef := rfl
def y315 : Ty := ⟨.struct #[⟨"", 314, 0, false, "", "", 0⟩], 0, 0, []⟩
@[simp] theorem y315_s : y315.size = 0 := rfl
@[simp] theorem y315_b : y315.bytes = 0 := rfl
@[simp] theorem y315_z : y315.zero = [] := rfl
@[simp] theorem y315_z0 : y315.z0 = .v undef := rfl
def y316 : Ty := ⟨.struct #[⟨"", 314, 0, false, "", "", 0⟩], 0, 0, []⟩
@[simp] theorem y316_s : y316.size = 0 := rfl
@[simp] theorem y316_b : y316.bytes = 0 := rfl
@[simp] theorem y316_z : y316.zero = [] := rfl
@[simp] theorem y316_z0 : y316.z0 = .v undef := rfl
def y317 : Ty := ⟨.int .u8, 1, 1, [.w8 0]⟩
@[simp] theorem y317_s : y317.size = 1 := rfl
@[simp] theorem y317_b : y317.bytes = 1 := rfl
@[simp] theorem y317_z : y317.zero = [.w8 0] := rfl
@[simp] theorem y317_z0 : y317.z0 = .w8 0 := rfl
def y318 : Ty := ⟨.int .u8, 1, 1, [.w8 0]⟩
@[simp] theorem y318_s : y318.size = 1 := rfl
@[simp] theorem y318_b : y318.bytes = 1 := rfl
@[simp] theorem y318_z : y318.zero = [.w8 0] := rfl
@[simp] theorem y318_z0 : y318.z0 = .w8 0 := rfl
def y319 : Ty := ⟨.func #[] #[] false, 1, 8, [.v .nilFunc]⟩
@[simp] theorem y319_s : y319.size = 1 := rfl
@[simp] theorem y319_b : y319.bytes = 8 := rfl
@[simp] theorem y319_z : y319.zero = [.v .nilFunc] := rfl
@[simp] theorem y319_z0 : y319.z0 = .v .nilFunc := rfl
def y320 : Ty := ⟨.pointer 5, 1, 8, [.v (.pointer none)]⟩
@[simp] theorem y320_s : y320.size = 1 := rfl
@[simp] theorem y320_b : y320.bytes = 8 := rfl
@[simp] theorem y320_z : y320.zero = [.v (.pointer none)] := rfl
@[simp] theorem y320_z0 : y320.z0 = .v (.pointer none) := rfl
def y321 : Ty := ⟨.int .i32, 1, 4, [.v (.int .i32 0)]⟩
@[simp] theorem y321_s : y321.size = 1 := rfl
@[simp] theorem y321_b : y321.bytes = 4 := rfl
@[simp] theorem y321_z : y321.zero = [.v (.int .i32 0)] := rfl
@[simp] theorem y321_z0 : y321.z0 = .v (.int .i32 0) := rfl
def y322 : Ty := ⟨.int .i32, 1, 4, [.v (.int .i32 0)]⟩
@[simp] theorem y322_s : y322.size = 1 := rfl
@[simp] theorem y322_b : y322.bytes = 4 := rfl
@[simp] theorem y322_z : y322.zero = [.v (.int .i32 0)] := rfl
@[simp] theorem y322_z0 : y322.z0 = .v (.int .i32 0) := rfl
def y323 : Ty := ⟨.struct #[⟨"", 12, 0, false, "", "", 0⟩, ⟨"", 12, 1, false, "", "", 0⟩, ⟨"", 26, 2, false, "", "", 0⟩, ⟨"", 317, 3, false, "", "", 0⟩, ⟨"", 5, 4, false, "", "", 0⟩, ⟨"", 5, 5, false, "", "", 0⟩, ⟨"", 318, 6, false, "", "", 0⟩, ⟨"", 319, 7, false, "", "", 0⟩, ⟨"", 320, 8, false, "", "", 0⟩, ⟨"", 321, 9, false, "", "", 0⟩, ⟨"", 322, 10, false, "", "", 0⟩], 11, 48, [.w64 0, .w64 0] ++ ([.w32 0] ++ (List.replicate 4 (.w8 0) ++ ([.v .nilFunc] ++ ([.v (.pointer none)] ++ ([.v (.int .i32 0), .v (.int .i32 0)])))))⟩
@[simp] theorem y323_s : y323.size = 11 := rfl
@[simp] theorem y323_b : y323.bytes = 48 := rfl
@[simp] theorem y323_z : y323.zero = [.w64 0, .w64 0] ++ ([.w32 0] ++ (List.replicate 4 (.w8 0) ++ ([.v .nilFunc] ++ ([.v (.pointer none)] ++ ([.v (.int .i32 0), .v (.int .i32 0)]))))) := rfl
@[simp] theorem y323_z0 : y323.z0 = .w64 0 := rfl
def y324 : Ty := ⟨.struct #[⟨"", 12, 0, false, "", "", 0⟩, ⟨"", 12, 1, false, "", "", 0⟩, ⟨"", 26, 2, false, "", "", 0⟩, ⟨"", 317, 3, false, "", "", 0⟩, ⟨"", 5, 4, false, "", "", 0⟩, ⟨"", 5, 5, false, "", "", 0⟩, ⟨"", 318, 6, false, "", "", 0⟩, ⟨"", 319, 7, false, "", "", 0⟩, ⟨"", 320, 8, false, "", "", 0⟩, ⟨"", 321, 9, false, "", "", 0⟩, ⟨"", 322, 10, false, "", "", 0⟩], 11, 48, [.w64 0, .w64 0] ++ ([.w32 0] ++ (List.replicate 4 (.w8 0) ++ ([.v .nilFunc] ++ ([.v (.pointer none)] ++ ([.v (.int .i32 0), .v (.int .i32 0)])))))⟩
@[simp] theorem y324_s : y324.size = 11 := rfl
@[simp] theorem y324_b : y324.bytes = 48 := rfl
@[simp] theorem y324_z : y324.zero = [.w64 0, .w64 0] ++ ([.w32 0] ++ (List.replicate 4 (.w8 0) ++ ([.v .nilFunc] ++ ([.v (.pointer none)] ++ ([.v (.int .i32 0), .v (.int .i32 0)]))))) := rfl
@[simp] theorem y324_z0 : y324.z0 = .w64 0 := rfl
def tbl : List (Nat × Ty) := [
  (1, y1),
  (2, y2),
  (3, y3),
  (4, y4),
  (5, y5),
  (6, y6),
  (7, y7),
  (8, y8),
  (9, y9),
  (10, y10),
  (11, y11),
  (12, y12),
  (13, y13),
  (14, y14),
  (15, y15),
  (16, y16),
  (17, y17),
  (18, y18),
  (19, y19),
  (20, y20),
  (21, y21),
  (22, y22),
  (23, y23),
  (24, y24),
  (25, y25),
  (26, y26),
  (27, y27),
  (28, y28),
  (29, y29),
  (30, y30),
  (31, y31),
  (32, y32),
  (33, y33),
  (35, y35),
  (36, y36),
  (38, y38),
  (39, y39),
  (40, y40),
  (42, y42),
  (43, y43),
  (44, y44),
  (45, y45),
  (46, y46),
  (47, y47),
  (49, y49),
  (50, y50),
  (51, y51),
  (52, y52),
  (53, y53),
  (54, y54),
  (55, y55),
  (56, y56),
  (57, y57),
  (59, y59),
  (61, y61),
  (63, y63),
  (64, y64),
  (65, y65),
  (66, y66),
  (67, y67),
  (68, y68),
  (69, y69),
  (70, y70),
  (71, y71),
  (72, y72),
  (73, y73),
  (74, y74),
  (75, y75),
  (76, y76),
  (77, y77),
  (78, y78),
  (79, y79),
  (80, y80),
  (81, y81),
  (82, y82),
  (83, y83),
  (84, y84),
  (85, y85),
  (86, y86),
  (88, y88),
  (89, y89),
  (90, y90),
  (91, y91),
  (92, y92),
  (93, y93),
  (94, y94),
  (95, y95),
  (96, y96),
  (97, y97),
  (98, y98),
  (99, y99),
  (100, y100),
  (101, y101),
  (102, y102),
  (103, y103),
  (104, y104),
  (105, y105),
  (106, y106),
  (107, y107),
  (108, y108),
  (110, y110),
  (111, y111),
  (112, y112),
  (113, y113),
  (114, y114),
  (115, y115),
  (116, y116),
  (117, y117),
  (118, y118),
  (119, y119),
  (120, y120),
  (122, y122),
  (123, y123),
  (124, y124),
  (125, y125),
  (126, y126),
  (127, y127),
  (128, y128),
  (129, y129),
  (130, y130),
  (131, y131),
  (132, y132),
  (133, y133),
  (134, y134),
  (135, y135),
  (136, y136),
  (137, y137),
  (138, y138),
  (139, y139),
  (140, y140),
  (141, y141),
  (142, y142),
  (143, y143),
  (144, y144),
  (145, y145),
  (146, y146),
  (147, y147),
  (148, y148),
  (149, y149),
  (150, y150),
  (151, y151),
  (152, y152),
  (153, y153),
  (154, y154),
  (155, y155),
  (156, y156),
  (157, y157),
  (158, y158),
  (159, y159),
  (161, y161),
  (162, y162),
  (163, y163),
  (164, y164),
  (166, y166),
  (168, y168),
  (169, y169),
  (170, y170),
  (171, y171),
  (172, y172),
  (173, y173),
  (174, y174),
  (175, y175),
  (176, y176),
  (177, y177),
  (178, y178),
  (179, y179),
  (180, y180),
  (182, y182),
  (183, y183),
  (184, y184),
  (185, y185),
  (186, y186),
  (187, y187),
  (188, y188),
  (190, y190),
  (191, y191),
  (192, y192),
  (193, y193),
  (194, y194),
  (195, y195),
  (196, y196),
  (197, y197),
  (198, y198),
  (200, y200),
  (201, y201),
  (202, y202),
  (203, y203),
  (204, y204),
  (205, y205),
  (206, y206),
  (207, y207),
  (208, y208),
  (209, y209),
  (210, y210),
  (211, y211),
  (212, y212),
  (213, y213),
  (214, y214),
  (216, y216),
  (217, y217),
  (218, y218),
  (219, y219),
  (220, y220),
  (221, y221),
  (222, y222),
  (223, y223),
  (224, y224),
  (225, y225),
  (226, y226),
  (227, y227),
  (228, y228),
  (230, y230),
  (231, y231),
  (232, y232),
  (233, y233),
  (234, y234),
  (235, y235),
  (236, y236),
  (237, y237),
  (238, y238),
  (239, y239),
  (240, y240),
  (241, y241),
  (242, y242),
  (243, y243),
  (244, y244),
  (245, y245),
  (247, y247),
  (248, y248),
  (249, y249),
  (251, y251),
  (253, y253),
  (255, y255),
  (256, y256),
  (259, y259),
  (260, y260),
  (261, y261),
  (262, y262),
  (263, y263),
  (264, y264),
  (265, y265),
  (266, y266),
  (267, y267),
  (268, y268),
  (269, y269),
  (270, y270),
  (271, y271),
  (272, y272),
  (273, y273),
  (274, y274),
  (275, y275),
  (276, y276),
  (277, y277),
  (278, y278),
  (279, y279),
  (280, y280),
  (281, y281),
  (282, y282),
  (283, y283),
  (284, y284),
  (285, y285),
  (286, y286),
  (287, y287),
  (288, y288),
  (289, y289),
  (290, y290),
  (292, y292),
  (293, y293),
  (294, y294),
  (295, y295),
  (296, y296),
  (297, y297),
  (298, y298),
  (299, y299),
  (300, y300),
  (302, y302),
  (303, y303),
  (304, y304),
  (305, y305),
  (306, y306),
  (307, y307),
  (308, y308),
  (309, y309),
  (310, y310),
  (311, y311),
  (312, y312),
  (313, y313),
  (314, y314),
  (315, y315),
  (316, y316),
  (317, y317),
  (318, y318),
  (319, y319),
  (320, y320),
  (321, y321),
  (322, y322),
  (323, y323),
  (324, y324)]
theorem tyOK : TyOK Go.Proofs.Tryz.prog (lookT tbl) := TyOK.of_tbl (by kernel_rfl)
theorem ty0 : lookT tbl 0 = none := by kernel_rfl
theorem mixed : Go.Proofs.Tryz.prog.follows .mixedOrders = true := by kernel_rfl
def lib0 : Lib Go.Proofs.Tryz.prog := ⟨tbl, tyOK, ty0, mixed, [], [], []⟩
def pl3 : Nat → Tr := fun _ => .done
def pl4 : Nat → Tr := fun _ => .done
def pl5 : Nat → Tr := fun _ => .done
/-- strongbox/strongboxlaw13.VmMany region 30: 3 ways region 33: 4 ways region 34: 2 ways -/
def pl6 : Nat → Tr
  | 30 => .take true 0 (.take true 2 (.take true 3 (.take true 4 (.take true 5 (.take true 6 (.take false 7 (.br (.cons 1 (.br (.cons 8 (.take false 9 (.br (.cons 10 (.br (.cons 11 (.take true 12 (.take true 13 (.take true 14 (.take true 15 (.take true 16 (.done)))))) (.nil))) (.nil)))) (.cons 9 (.br (.cons 8 (.br (.cons 10 (.br (.cons 11 (.take true 12 (.take true 13 (.take true 14 (.take true 15 (.take true 16 (.done)))))) (.nil))) (.nil))) (.nil))) (.nil)))) (.cons 9 (.br (.cons 1 (.br (.cons 8 (.br (.cons 10 (.br (.cons 11 (.take true 12 (.take true 13 (.take true 14 (.take true 15 (.take true 16 (.done)))))) (.nil))) (.nil))) (.nil))) (.nil))) (.nil))))))))))
  | 33 => .take true 0 (.take true 3 (.take true 4 (.take false 5 (.br (.cons 1 (.br (.cons 2 (.br (.cons 6 (.take false 7 (.br (.cons 8 (.br (.cons 9 (.take true 10 (.take true 11 (.take true 12 (.take true 13 (.done))))) (.nil))) (.nil)))) (.cons 7 (.br (.cons 6 (.br (.cons 8 (.br (.cons 9 (.take true 10 (.take true 11 (.take true 12 (.take true 13 (.done))))) (.nil))) (.nil))) (.nil))) (.nil)))) (.cons 7 (.br (.cons 2 (.br (.cons 6 (.br (.cons 8 (.br (.cons 9 (.take true 10 (.take true 11 (.take true 12 (.take true 13 (.done))))) (.nil))) (.nil))) (.nil))) (.nil))) (.nil)))) (.cons 7 (.br (.cons 1 (.br (.cons 2 (.br (.cons 6 (.br (.cons 8 (.br (.cons 9 (.take true 10 (.take true 11 (.take true 12 (.take true 13 (.done))))) (.nil))) (.nil))) (.nil))) (.nil))) (.nil))) (.nil)))))))
  | 34 => .take true 0 (.take true 1 (.take true 2 (.take false 4 (.br (.cons 3 (.br (.cons 5 (.br (.cons 6 (.take true 7 (.take true 8 (.take true 9 (.take true 10 (.take true 11 (.done)))))) (.nil))) (.nil))) (.cons 5 (.take false 3 (.br (.cons 6 (.take true 7 (.take true 8 (.take true 9 (.take true 10 (.take true 11 (.done)))))) (.nil)))) (.nil)))))))
  | _ => .done
/-- strongbox/strongboxlaw13.VmSigns region 17: 3 ways -/
def pl7 : Nat → Tr
  | 17 => .take true 0 (.take true 1 (.take false 4 (.br (.cons 2 (.br (.cons 3 (.br (.cons 5 (.br (.cons 6 (.take true 7 (.take true 8 (.take true 9 (.take true 10 (.take true 11 (.done)))))) (.nil))) (.nil))) (.cons 5 (.br (.cons 3 (.br (.cons 6 (.take true 7 (.take true 8 (.take true 9 (.take true 10 (.take true 11 (.done)))))) (.nil))) (.nil))) (.nil)))) (.cons 5 (.take false 2 (.br (.cons 3 (.br (.cons 6 (.take true 7 (.take true 8 (.take true 9 (.take true 10 (.take true 11 (.done)))))) (.nil))) (.nil)))) (.nil))))))
  | _ => .done
def pl8 : Nat → Tr := fun _ => .done
def pl9 : Nat → Tr := fun _ => .done
def pl10 : Nat → Tr := fun _ => .done
def pl11 : Nat → Tr := fun _ => .done
def pl12 : Nat → Tr := fun _ => .done
def pl13 : Nat → Tr := fun _ => .done
/-- strongbox/strongboxref13.Run -/
def pl14 : Nat → Tr
  | 16 => .take true 1 (.take true 2 (.take true 3 (.take false 0 (.take false 4 (.br (.cons 5 (.br (.cons 6 (.done) (.nil))) (.nil)))))))
  | _ => .done
/-- strongbox/strongboxref01.Same -/
def pl15 : Nat → Tr
  | 6 => .take true 0 (.take true 1 (.take true 2 (.take true 4 (.take true 5 (.take true 6 (.take false 3 (.take false 7 (.br (.cons 8 (.take true 9 (.done)) (.nil))))))))))
  | _ => .done
/-- strongbox/strongboxref01.Kept -/
def pl16 : Nat → Tr
  | 6 => .take true 0 (.take true 1 (.take false 2 (.take true 3 (.take true 4 (.take true 5 (.take true 6 (.take true 7 (.take true 9 (.take true 10 (.take true 11 (.take false 8 (.take false 12 (.take true 13 (.take true 14 (.take true 15 (.take true 16 (.take true 17 (.take false 18 (.take true 19 (.take true 20 (.take true 21 (.take true 22 (.take true 23 (.take true 25 (.take true 26 (.take false 24 (.take false 27 (.take true 28 (.take true 29 (.take true 30 (.done)))))))))))))))))))))))))))))))
  | _ => .done
def pl17 : Nat → Tr := fun _ => .done
def pl18 : Nat → Tr := fun _ => .done
def pl19 : Nat → Tr := fun _ => .done
/-- strongbox/curve.Public -/
def pl20 : Nat → Tr
  | 5 => .take true 0 (.take true 1 (.take true 3 (.take false 2 (.br (.cons 4 (.br (.cons 5 (.br (.cons 6 (.br (.cons 7 (.take true 8 (.done)) (.nil))) (.nil))) (.nil))) (.nil))))))
  | _ => .done
def pl21 : Nat → Tr := fun _ => .done
def pl22 : Nat → Tr := fun _ => .done
def pl23 : Nat → Tr := fun _ => .done
def pl24 : Nat → Tr := fun _ => .done
/-- strongbox/strongboxref09.Few -/
def pl25 : Nat → Tr
  | 10 => .take true 0 (.take true 2 (.take true 3 (.take true 5 (.take true 9 (.take false 1 (.take false 4 (.take true 6 (.take true 7 (.take false 8 (.take false 10 (.take true 11 (.take true 12 (.br (.cons 13 (.done) (.nil)))))))))))))))
  | 12 => .take true 0 (.take true 2 (.take true 3 (.take true 5 (.take true 9 (.take false 1 (.take false 4 (.take true 6 (.take true 7 (.take false 8 (.take false 10 (.take true 11 (.take true 12 (.br (.cons 13 (.done) (.nil)))))))))))))))
  | 17 => .take true 0 (.take true 2 (.take true 6 (.take true 7 (.take true 9 (.take true 13 (.take true 16 (.take false 1 (.take true 3 (.take true 4 (.take false 5 (.take false 8 (.take true 10 (.take true 11 (.take false 12 (.take true 14 (.take false 15 (.take false 17 (.take true 18 (.br (.cons 19 (.done) (.nil)))))))))))))))))))))
  | 22 => .take true 0 (.take true 2 (.take true 3 (.take true 5 (.take true 9 (.take false 1 (.take false 4 (.take true 6 (.take true 7 (.take false 8 (.take false 10 (.take true 11 (.take true 12 (.br (.cons 13 (.done) (.nil)))))))))))))))
  | _ => .done
def pl26 : Nat → Tr := fun _ => .done
def pl27 : Nat → Tr := fun _ => .done
def pl28 : Nat → Tr := fun _ => .done
def pl29 : Nat → Tr := fun _ => .done
def pl30 : Nat → Tr := fun _ => .done
def pl31 : Nat → Tr := fun _ => .done
/-- (*strongbox/vm.machine).step -/
def pl32 : Nat → Tr
  | 8 => .take true 0 (.take true 1 (.take true 3 (.take false 2 (.take true 4 (.take false 5 (.take true 6 (.br (.cons 7 (.done) (.nil)))))))))
  | 9 => .take true 0 (.take true 1 (.take true 3 (.take true 6 (.take false 2 (.take true 4 (.take false 5 (.br (.cons 7 (.done) (.nil)))))))))
  | 10 => .take true 0 (.take true 1 (.take true 2 (.take true 5 (.take true 6 (.take true 7 (.take false 3 (.take false 4 (.take false 8 (.take false 9 (.take true 10 (.take true 11 (.br (.cons 12 (.done) (.nil))))))))))))))
  | _ => .done
def pl33 : Nat → Tr := fun _ => .done
def pl34 : Nat → Tr := fun _ => .done
def pl35 : Nat → Tr := fun _ => .done
def pl36 : Nat → Tr := fun _ => .done
def pl37 : Nat → Tr := fun _ => .done
def pl38 : Nat → Tr := fun _ => .done
def pl39 : Nat → Tr := fun _ => .done
def pl40 : Nat → Tr := fun _ => .done
def pl41 : Nat → Tr := fun _ => .done
def pl42 : Nat → Tr := fun _ => .done
def pl43 : Nat → Tr := fun _ => .done
def pl44 : Nat → Tr := fun _ => .done
def pl45 : Nat → Tr := fun _ => .done
def pl46 : Nat → Tr := fun _ => .done
/-- (*strongbox/curve.group).key -/
def pl47 : Nat → Tr
  | 2 => .take false 0 (.take false 1 (.br (.cons 2 (.take true 3 (.take true 4 (.take true 5 (.take true 6 (.take true 7 (.take false 8 (.br (.cons 9 (.take true 10 (.br (.cons 11 (.take true 12 (.done)) (.nil)))) (.nil))))))))) (.nil))))
  | _ => .done
/-- (*strongbox/curve.group).pack -/
def pl48 : Nat → Tr
  | 5 => .take false 0 (.take false 1 (.br (.cons 2 (.done) (.nil))))
  | _ => .done
def pl49 : Nat → Tr := fun _ => .done
def pl50 : Nat → Tr := fun _ => .done
def pl51 : Nat → Tr := fun _ => .done
def pl52 : Nat → Tr := fun _ => .done
def pl53 : Nat → Tr := fun _ => .done
/-- strongbox/curve.Sign region 5: 3 ways region 6: 2 ways -/
def pl54 : Nat → Tr
  | 5 => .take true 0 (.take true 1 (.take true 2 (.take false 3 (.br (.cons 4 (.br (.cons 5 (.br (.cons 6 (.br (.cons 7 (.done) (.nil))) (.nil))) (.cons 6 (.br (.cons 5 (.br (.cons 7 (.done) (.nil))) (.nil))) (.nil)))) (.cons 6 (.br (.cons 4 (.br (.cons 5 (.br (.cons 7 (.done) (.nil))) (.nil))) (.nil))) (.nil)))))))
  | 6 => .take true 0 (.take true 1 (.take true 2 (.take false 3 (.take false 4 (.br (.cons 5 (.br (.cons 6 (.br (.cons 7 (.done) (.nil))) (.nil))) (.cons 6 (.br (.cons 5 (.br (.cons 7 (.done) (.nil))) (.nil))) (.nil))))))))
  | 10 => .take true 0 (.take true 1 (.take true 2 (.take true 4 (.take false 3 (.br (.cons 5 (.br (.cons 6 (.done) (.nil))) (.nil)))))))
  | _ => .done
/-- strongbox/strongboxref09.Copy -/
def pl55 : Nat → Tr
  | 6 => .take true 0 (.take true 2 (.take true 4 (.take true 7 (.take true 9 (.take false 1 (.take false 3 (.take false 5 (.take false 8 (.take false 10 (.br (.cons 6 (.br (.cons 11 (.take true 12 (.br (.cons 13 (.br (.cons 14 (.take true 15 (.br (.cons 16 (.done) (.nil)))) (.nil))) (.nil)))) (.nil))) (.nil))))))))))))
  | 10 => .take true 0 (.take true 2 (.take true 4 (.take true 8 (.take true 10 (.take false 1 (.take false 3 (.take true 5 (.take true 6 (.take false 7 (.take false 9 (.take true 11 (.take true 12 (.take false 13 (.br (.cons 14 (.take true 15 (.br (.cons 16 (.br (.cons 17 (.take true 18 (.br (.cons 19 (.done) (.nil)))) (.nil))) (.nil)))) (.nil))))))))))))))))
  | _ => .done
def pl56 : Nat → Tr := fun _ => .done
def pl57 : Nat → Tr := fun _ => .done
def pl58 : Nat → Tr := fun _ => .done
/-- (*strongbox/vm.machine).turn -/
def pl59 : Nat → Tr
  | 1 => .take true 0 (.take true 1 (.take true 2 (.take true 4 (.take true 5 (.take true 6 (.take true 10 (.take true 11 (.take true 12 (.take true 14 (.take true 15 (.take true 16 (.take false 3 (.take false 7 (.take false 8 (.take true 9 (.take false 13 (.take false 17 (.take false 18 (.take true 19 (.take true 20 (.take false 21 (.take true 22 (.take true 23 (.br (.cons 24 (.done) (.nil))))))))))))))))))))))))))
  | _ => .done
/-- (*strongbox/vm.machine).end -/
def pl60 : Nat → Tr
  | 1 => .take true 0 (.take true 1 (.take true 2 (.take true 3 (.take true 5 (.take true 6 (.take true 7 (.take false 4 (.take false 8 (.take false 9 (.take true 10 (.take false 11 (.take true 12 (.take true 13 (.br (.cons 14 (.done) (.nil))))))))))))))))
  | _ => .done
def pl61 : Nat → Tr := fun _ => .done
/-- (*strongbox/vm.machine).away region 0: 2 ways -/
def pl62 : Nat → Tr
  | 0 => .take true 0 (.take true 1 (.take true 2 (.take true 3 (.take true 5 (.br (.cons 4 (.br (.cons 6 (.br (.cons 7 (.br (.cons 8 (.take true 9 (.take true 10 (.br (.cons 11 (.done) (.nil))))) (.nil))) (.nil))) (.nil))) (.cons 6 (.take false 4 (.br (.cons 7 (.br (.cons 8 (.take true 9 (.take true 10 (.br (.cons 11 (.done) (.nil))))) (.nil))) (.nil)))) (.nil))))))))
  | _ => .done
def pl63 : Nat → Tr := fun _ => .done
def pl64 : Nat → Tr := fun _ => .done
def pl65 : Nat → Tr := fun _ => .done
def pl66 : Nat → Tr := fun _ => .done
def pl67 : Nat → Tr := fun _ => .done
def pl68 : Nat → Tr := fun _ => .done
def pl69 : Nat → Tr := fun _ => .done
def pl70 : Nat → Tr := fun _ => .done
def pl71 : Nat → Tr := fun _ => .done
/-- (*strongbox/vm.machine).tuck region 1: 9 ways -/
def pl72 : Nat → Tr
  | 1 => .take true 0 (.take true 1 (.take true 2 (.take true 3 (.take true 5 (.take true 6 (.take true 7 (.take true 11 (.br (.cons 4 (.br (.cons 8 (.br (.cons 9 (.take true 10 (.br (.cons 12 (.br (.cons 13 (.br (.cons 14 (.br (.cons 15 (.take true 16 (.take true 17 (.br (.cons 18 (.done) (.nil))))) (.nil))) (.nil))) (.nil))) (.nil)))) (.cons 12 (.take false 9 (.take true 10 (.br (.cons 13 (.br (.cons 14 (.br (.cons 15 (.take true 16 (.take true 17 (.br (.cons 18 (.done) (.nil))))) (.nil))) (.nil))) (.nil))))) (.nil)))) (.cons 12 (.take false 8 (.take false 9 (.take true 10 (.br (.cons 13 (.br (.cons 14 (.br (.cons 15 (.take true 16 (.take true 17 (.br (.cons 18 (.done) (.nil))))) (.nil))) (.nil))) (.nil)))))) (.nil)))) (.cons 8 (.br (.cons 4 (.br (.cons 9 (.take true 10 (.br (.cons 12 (.br (.cons 13 (.br (.cons 14 (.br (.cons 15 (.take true 16 (.take true 17 (.br (.cons 18 (.done) (.nil))))) (.nil))) (.nil))) (.nil))) (.nil)))) (.cons 12 (.take false 9 (.take true 10 (.br (.cons 13 (.br (.cons 14 (.br (.cons 15 (.take true 16 (.take true 17 (.br (.cons 18 (.done) (.nil))))) (.nil))) (.nil))) (.nil))))) (.nil)))) (.cons 9 (.take true 10 (.br (.cons 4 (.br (.cons 12 (.br (.cons 13 (.br (.cons 14 (.br (.cons 15 (.take true 16 (.take true 17 (.br (.cons 18 (.done) (.nil))))) (.nil))) (.nil))) (.nil))) (.nil))) (.cons 12 (.take false 4 (.br (.cons 13 (.br (.cons 14 (.br (.cons 15 (.take true 16 (.take true 17 (.br (.cons 18 (.done) (.nil))))) (.nil))) (.nil))) (.nil)))) (.nil))))) (.cons 12 (.take false 4 (.take false 9 (.take true 10 (.br (.cons 13 (.br (.cons 14 (.br (.cons 15 (.take true 16 (.take true 17 (.br (.cons 18 (.done) (.nil))))) (.nil))) (.nil))) (.nil)))))) (.nil))))) (.cons 12 (.take false 4 (.take false 8 (.take false 9 (.take true 10 (.br (.cons 13 (.br (.cons 14 (.br (.cons 15 (.take true 16 (.take true 17 (.br (.cons 18 (.done) (.nil))))) (.nil))) (.nil))) (.nil))))))) (.nil))))))))))))
  | _ => .done
def pl73 : Nat → Tr := fun _ => .done
def pl74 : Nat → Tr := fun _ => .done
def pl75 : Nat → Tr := fun _ => .done
def pl76 : Nat → Tr := fun _ => .done
def pl77 : Nat → Tr := fun _ => .done
def pl78 : Nat → Tr := fun _ => .done
def pl79 : Nat → Tr := fun _ => .done
def pl80 : Nat → Tr := fun _ => .done
def pl81 : Nat → Tr := fun _ => .done
/-- (*strongbox/vm.machine).checkMany -/
def pl82 : Nat → Tr
  | 5 => .take true 0 (.take true 1 (.take true 2 (.take true 7 (.take true 8 (.take false 3 (.take true 4 (.take true 5 (.take false 6 (.take false 9 (.take true 10 (.take true 11 (.take false 12 (.br (.cons 13 (.done) (.nil)))))))))))))))
  | _ => .done
def pl83 : Nat → Tr := fun _ => .done
def pl84 : Nat → Tr := fun _ => .done
/-- strongbox/vm.numbers -/
def pl85 : Nat → Tr
  | 0 => .take true 0 (.take true 1 (.take true 4 (.take true 7 (.br (.cons 2 (.br (.cons 3 (.take true 5 (.br (.cons 6 (.take true 8 (.br (.cons 9 (.done) (.nil)))) (.nil)))) (.nil))) (.nil))))))
  | 1 => .take true 0 (.take true 1 (.take true 4 (.take true 7 (.br (.cons 2 (.br (.cons 3 (.take true 5 (.br (.cons 6 (.take true 8 (.br (.cons 9 (.done) (.nil)))) (.nil)))) (.nil))) (.nil))))))
  | 2 => .take true 0 (.take true 1 (.take true 4 (.take true 7 (.br (.cons 2 (.br (.cons 3 (.take true 5 (.br (.cons 6 (.take true 8 (.br (.cons 9 (.done) (.nil)))) (.nil)))) (.nil))) (.nil))))))
  | 3 => .take true 0 (.take true 1 (.take true 4 (.take true 7 (.br (.cons 2 (.br (.cons 3 (.take true 5 (.br (.cons 6 (.take true 8 (.br (.cons 9 (.done) (.nil)))) (.nil)))) (.nil))) (.nil))))))
  | 4 => .take true 0 (.take true 1 (.take true 4 (.take true 7 (.br (.cons 2 (.br (.cons 3 (.take true 5 (.br (.cons 6 (.take true 8 (.br (.cons 9 (.done) (.nil)))) (.nil)))) (.nil))) (.nil))))))
  | 6 => .take true 0 (.take true 1 (.take true 2 (.take true 3 (.take true 5 (.take true 8 (.br (.cons 4 (.take true 6 (.br (.cons 7 (.take true 9 (.br (.cons 10 (.done) (.nil)))) (.nil)))) (.nil))))))))
  | 7 => .take true 0 (.take true 2 (.br (.cons 1 (.take true 3 (.br (.cons 4 (.done) (.nil)))) (.nil))))
  | 8 => .take true 0 (.take true 1 (.take true 4 (.take true 7 (.br (.cons 2 (.br (.cons 3 (.take true 5 (.br (.cons 6 (.take true 8 (.br (.cons 9 (.done) (.nil)))) (.nil)))) (.nil))) (.nil))))))
  | 9 => .take true 0 (.take true 1 (.take true 4 (.take true 7 (.br (.cons 2 (.br (.cons 3 (.take true 5 (.br (.cons 6 (.take true 8 (.br (.cons 9 (.done) (.nil)))) (.nil)))) (.nil))) (.nil))))))
  | 10 => .take true 0 (.take true 1 (.take true 4 (.take true 7 (.br (.cons 2 (.br (.cons 3 (.take true 5 (.br (.cons 6 (.take true 8 (.br (.cons 9 (.done) (.nil)))) (.nil)))) (.nil))) (.nil))))))
  | _ => .done
def pl86 : Nat → Tr := fun _ => .done
def pl87 : Nat → Tr := fun _ => .done
def pl88 : Nat → Tr := fun _ => .done
def pl89 : Nat → Tr := fun _ => .done
def pl90 : Nat → Tr := fun _ => .done
def pl91 : Nat → Tr := fun _ => .done
def pl92 : Nat → Tr := fun _ => .done
def pl93 : Nat → Tr := fun _ => .done
def pl94 : Nat → Tr := fun _ => .done
def pl95 : Nat → Tr := fun _ => .done
def pl96 : Nat → Tr := fun _ => .done
def pl97 : Nat → Tr := fun _ => .done
def pl98 : Nat → Tr := fun _ => .done
def pl99 : Nat → Tr := fun _ => .done
def pl100 : Nat → Tr := fun _ => .done
def pl101 : Nat → Tr := fun _ => .done
def pl102 : Nat → Tr := fun _ => .done
/-- (*strongbox/curve.field).below region 1: 2 ways -/
def pl103 : Nat → Tr
  | 1 => .take true 1 (.take true 2 (.take true 3 (.take false 0 (.take false 4 (.br (.cons 5 (.take true 6 (.take true 7 (.take true 8 (.br (.cons 9 (.br (.cons 10 (.take true 11 (.done)) (.nil))) (.nil)))))) (.cons 9 (.br (.cons 5 (.take true 6 (.take true 7 (.take true 8 (.br (.cons 10 (.take true 11 (.done)) (.nil)))))) (.nil))) (.nil))))))))
  | _ => .done
/-- (*strongbox/curve.group).flat -/
def pl104 : Nat → Tr
  | 4 => .take true 0 (.take true 1 (.take true 5 (.take true 6 (.take true 8 (.take false 2 (.take false 3 (.take false 7 (.take false 9 (.take false 10 (.br (.cons 4 (.br (.cons 11 (.br (.cons 12 (.br (.cons 13 (.br (.cons 14 (.done) (.nil))) (.nil))) (.nil))) (.nil))) (.nil))))))))))))
  | _ => .done
def pl105 : Nat → Tr := fun _ => .done
/-- (*strongbox/curve.group).double region 8: 3 ways region 9: 4 ways -/
def pl106 : Nat → Tr
  | 6 => .take true 0 (.take true 1 (.take true 5 (.take false 2 (.take false 3 (.take false 6 (.take false 7 (.br (.cons 4 (.br (.cons 8 (.br (.cons 9 (.br (.cons 10 (.done) (.nil))) (.nil))) (.nil))) (.nil)))))))))
  | 8 => .take true 0 (.take true 1 (.take false 2 (.take false 3 (.take false 5 (.br (.cons 4 (.br (.cons 6 (.br (.cons 7 (.br (.cons 8 (.done) (.nil))) (.nil))) (.cons 7 (.br (.cons 6 (.br (.cons 8 (.done) (.nil))) (.nil))) (.nil)))) (.cons 7 (.br (.cons 4 (.br (.cons 6 (.br (.cons 8 (.done) (.nil))) (.nil))) (.nil))) (.nil))))))))
  | 9 => .take true 0 (.take true 1 (.take true 5 (.take false 2 (.take false 3 (.take false 6 (.take false 7 (.br (.cons 4 (.br (.cons 8 (.br (.cons 9 (.br (.cons 10 (.br (.cons 11 (.done) (.nil))) (.nil))) (.cons 10 (.br (.cons 9 (.br (.cons 11 (.done) (.nil))) (.nil))) (.nil)))) (.cons 10 (.br (.cons 8 (.br (.cons 9 (.br (.cons 11 (.done) (.nil))) (.nil))) (.nil))) (.nil)))) (.cons 10 (.br (.cons 4 (.br (.cons 8 (.br (.cons 9 (.br (.cons 11 (.done) (.nil))) (.nil))) (.nil))) (.nil))) (.nil))))))))))
  | 11 => .take true 0 (.take true 1 (.take true 5 (.take false 2 (.take false 3 (.take false 6 (.take false 7 (.br (.cons 4 (.br (.cons 8 (.br (.cons 9 (.br (.cons 10 (.done) (.nil))) (.nil))) (.nil))) (.nil)))))))))
  | 13 => .take true 1 (.take true 2 (.take true 4 (.take true 9 (.take true 14 (.take false 0 (.take false 3 (.take false 5 (.take false 6 (.take false 10 (.take false 11 (.take false 15 (.take false 16 (.br (.cons 7 (.br (.cons 8 (.br (.cons 12 (.br (.cons 13 (.br (.cons 17 (.take true 18 (.br (.cons 19 (.done) (.nil)))) (.nil))) (.nil))) (.nil))) (.nil))) (.nil)))))))))))))))
  | _ => .done
/-- (*strongbox/curve.group).add region 6: 12 ways region 7: 12 ways region 8: NO PLAN region 9: 12 ways region 15: 12 ways region 16: 5 ways -/
def pl107 : Nat → Tr
  | 6 => .take true 0 (.take true 1 (.take true 3 (.take true 6 (.take true 7 (.take true 9 (.take false 2 (.take false 4 (.take false 8 (.take false 10 (.br (.cons 5 (.br (.cons 11 (.br (.cons 12 (.br (.cons 13 (.br (.cons 14 (.br (.cons 15 (.done) (.nil))) (.nil))) (.nil))) (.cons 13 (.br (.cons 12 (.br (.cons 14 (.br (.cons 15 (.done) (.nil))) (.nil))) (.nil))) (.nil)))) (.cons 12 (.br (.cons 11 (.br (.cons 13 (.br (.cons 14 (.br (.cons 15 (.done) (.nil))) (.nil))) (.nil))) (.cons 13 (.br (.cons 11 (.br (.cons 14 (.br (.cons 15 (.done) (.nil))) (.nil))) (.nil))) (.nil)))) (.cons 13 (.br (.cons 11 (.br (.cons 12 (.br (.cons 14 (.br (.cons 15 (.done) (.nil))) (.nil))) (.nil))) (.cons 12 (.br (.cons 11 (.br (.cons 14 (.br (.cons 15 (.done) (.nil))) (.nil))) (.nil))) (.nil)))) (.nil))))) (.cons 12 (.br (.cons 5 (.br (.cons 11 (.br (.cons 13 (.br (.cons 14 (.br (.cons 15 (.done) (.nil))) (.nil))) (.nil))) (.cons 13 (.br (.cons 11 (.br (.cons 14 (.br (.cons 15 (.done) (.nil))) (.nil))) (.nil))) (.nil)))) (.cons 13 (.br (.cons 5 (.br (.cons 11 (.br (.cons 14 (.br (.cons 15 (.done) (.nil))) (.nil))) (.nil))) (.nil))) (.nil)))) (.cons 13 (.br (.cons 5 (.br (.cons 11 (.br (.cons 12 (.br (.cons 14 (.br (.cons 15 (.done) (.nil))) (.nil))) (.nil))) (.cons 12 (.br (.cons 11 (.br (.cons 14 (.br (.cons 15 (.done) (.nil))) (.nil))) (.nil))) (.nil)))) (.cons 12 (.br (.cons 5 (.br (.cons 11 (.br (.cons 14 (.br (.cons 15 (.done) (.nil))) (.nil))) (.nil))) (.nil))) (.nil)))) (.nil))))))))))))))
  | 7 => .take true 0 (.take true 1 (.take true 5 (.take true 6 (.take false 2 (.take false 3 (.take false 7 (.take false 8 (.br (.cons 4 (.br (.cons 9 (.br (.cons 10 (.br (.cons 11 (.br (.cons 12 (.br (.cons 13 (.done) (.nil))) (.nil))) (.nil))) (.cons 11 (.br (.cons 10 (.br (.cons 12 (.br (.cons 13 (.done) (.nil))) (.nil))) (.nil))) (.nil)))) (.cons 10 (.br (.cons 9 (.br (.cons 11 (.br (.cons 12 (.br (.cons 13 (.done) (.nil))) (.nil))) (.nil))) (.cons 11 (.br (.cons 9 (.br (.cons 12 (.br (.cons 13 (.done) (.nil))) (.nil))) (.nil))) (.nil)))) (.cons 11 (.br (.cons 9 (.br (.cons 10 (.br (.cons 12 (.br (.cons 13 (.done) (.nil))) (.nil))) (.nil))) (.cons 10 (.br (.cons 9 (.br (.cons 12 (.br (.cons 13 (.done) (.nil))) (.nil))) (.nil))) (.nil)))) (.nil))))) (.cons 10 (.br (.cons 4 (.br (.cons 9 (.br (.cons 11 (.br (.cons 12 (.br (.cons 13 (.done) (.nil))) (.nil))) (.nil))) (.cons 11 (.br (.cons 9 (.br (.cons 12 (.br (.cons 13 (.done) (.nil))) (.nil))) (.nil))) (.nil)))) (.cons 11 (.br (.cons 4 (.br (.cons 9 (.br (.cons 12 (.br (.cons 13 (.done) (.nil))) (.nil))) (.nil))) (.nil))) (.nil)))) (.cons 11 (.br (.cons 4 (.br (.cons 9 (.br (.cons 10 (.br (.cons 12 (.br (.cons 13 (.done) (.nil))) (.nil))) (.nil))) (.cons 10 (.br (.cons 9 (.br (.cons 12 (.br (.cons 13 (.done) (.nil))) (.nil))) (.nil))) (.nil)))) (.cons 10 (.br (.cons 4 (.br (.cons 9 (.br (.cons 12 (.br (.cons 13 (.done) (.nil))) (.nil))) (.nil))) (.nil))) (.nil)))) (.nil))))))))))))
  | 8 => .take true 999999 (.done)
  | 9 => .take true 0 (.take true 4 (.take false 1 (.take false 2 (.take false 5 (.take false 6 (.br (.cons 3 (.br (.cons 7 (.br (.cons 8 (.br (.cons 9 (.br (.cons 10 (.br (.cons 11 (.done) (.nil))) (.nil))) (.nil))) (.cons 9 (.br (.cons 8 (.br (.cons 10 (.br (.cons 11 (.done) (.nil))) (.nil))) (.nil))) (.nil)))) (.cons 8 (.br (.cons 7 (.br (.cons 9 (.br (.cons 10 (.br (.cons 11 (.done) (.nil))) (.nil))) (.nil))) (.cons 9 (.br (.cons 7 (.br (.cons 10 (.br (.cons 11 (.done) (.nil))) (.nil))) (.nil))) (.nil)))) (.cons 9 (.br (.cons 7 (.br (.cons 8 (.br (.cons 10 (.br (.cons 11 (.done) (.nil))) (.nil))) (.nil))) (.cons 8 (.br (.cons 7 (.br (.cons 10 (.br (.cons 11 (.done) (.nil))) (.nil))) (.nil))) (.nil)))) (.nil))))) (.cons 8 (.br (.cons 3 (.br (.cons 7 (.br (.cons 9 (.br (.cons 10 (.br (.cons 11 (.done) (.nil))) (.nil))) (.nil))) (.cons 9 (.br (.cons 7 (.br (.cons 10 (.br (.cons 11 (.done) (.nil))) (.nil))) (.nil))) (.nil)))) (.cons 9 (.br (.cons 3 (.br (.cons 7 (.br (.cons 10 (.br (.cons 11 (.done) (.nil))) (.nil))) (.nil))) (.nil))) (.nil)))) (.cons 9 (.br (.cons 3 (.br (.cons 7 (.br (.cons 8 (.br (.cons 10 (.br (.cons 11 (.done) (.nil))) (.nil))) (.nil))) (.cons 8 (.br (.cons 7 (.br (.cons 10 (.br (.cons 11 (.done) (.nil))) (.nil))) (.nil))) (.nil)))) (.cons 8 (.br (.cons 3 (.br (.cons 7 (.br (.cons 10 (.br (.cons 11 (.done) (.nil))) (.nil))) (.nil))) (.nil))) (.nil)))) (.nil))))))))))
  | 15 => .take true 0 (.take true 4 (.take false 1 (.take false 2 (.take false 5 (.take false 6 (.br (.cons 3 (.br (.cons 7 (.br (.cons 8 (.br (.cons 9 (.br (.cons 10 (.br (.cons 11 (.done) (.nil))) (.nil))) (.nil))) (.cons 9 (.br (.cons 8 (.br (.cons 10 (.br (.cons 11 (.done) (.nil))) (.nil))) (.nil))) (.nil)))) (.cons 8 (.br (.cons 7 (.br (.cons 9 (.br (.cons 10 (.br (.cons 11 (.done) (.nil))) (.nil))) (.nil))) (.cons 9 (.br (.cons 7 (.br (.cons 10 (.br (.cons 11 (.done) (.nil))) (.nil))) (.nil))) (.nil)))) (.cons 9 (.br (.cons 7 (.br (.cons 8 (.br (.cons 10 (.br (.cons 11 (.done) (.nil))) (.nil))) (.nil))) (.cons 8 (.br (.cons 7 (.br (.cons 10 (.br (.cons 11 (.done) (.nil))) (.nil))) (.nil))) (.nil)))) (.nil))))) (.cons 8 (.br (.cons 3 (.br (.cons 7 (.br (.cons 9 (.br (.cons 10 (.br (.cons 11 (.done) (.nil))) (.nil))) (.nil))) (.cons 9 (.br (.cons 7 (.br (.cons 10 (.br (.cons 11 (.done) (.nil))) (.nil))) (.nil))) (.nil)))) (.cons 9 (.br (.cons 3 (.br (.cons 7 (.br (.cons 10 (.br (.cons 11 (.done) (.nil))) (.nil))) (.nil))) (.nil))) (.nil)))) (.cons 9 (.br (.cons 3 (.br (.cons 7 (.br (.cons 8 (.br (.cons 10 (.br (.cons 11 (.done) (.nil))) (.nil))) (.nil))) (.cons 8 (.br (.cons 7 (.br (.cons 10 (.br (.cons 11 (.done) (.nil))) (.nil))) (.nil))) (.nil)))) (.cons 8 (.br (.cons 3 (.br (.cons 7 (.br (.cons 10 (.br (.cons 11 (.done) (.nil))) (.nil))) (.nil))) (.nil))) (.nil)))) (.nil))))))))))
  | 16 => .take true 0 (.take true 1 (.take true 2 (.take true 8 (.take false 3 (.take false 4 (.take false 6 (.take false 9 (.take false 10 (.br (.cons 5 (.br (.cons 7 (.br (.cons 11 (.br (.cons 12 (.br (.cons 13 (.br (.cons 14 (.done) (.nil))) (.nil))) (.cons 13 (.br (.cons 12 (.br (.cons 14 (.done) (.nil))) (.nil))) (.nil)))) (.cons 13 (.br (.cons 11 (.br (.cons 12 (.br (.cons 14 (.done) (.nil))) (.nil))) (.nil))) (.nil)))) (.cons 13 (.br (.cons 7 (.br (.cons 11 (.br (.cons 12 (.br (.cons 14 (.done) (.nil))) (.nil))) (.nil))) (.nil))) (.nil)))) (.cons 13 (.br (.cons 5 (.br (.cons 7 (.br (.cons 11 (.br (.cons 12 (.br (.cons 14 (.done) (.nil))) (.nil))) (.nil))) (.nil))) (.nil))) (.nil))))))))))))
  | 17 => .take true 1 (.take true 2 (.take true 4 (.take true 9 (.take true 14 (.take true 16 (.take true 17 (.take true 19 (.take false 0 (.take false 3 (.take false 5 (.take false 6 (.take false 10 (.take false 11 (.take false 15 (.take false 18 (.take false 20 (.br (.cons 7 (.br (.cons 8 (.br (.cons 12 (.br (.cons 13 (.br (.cons 21 (.br (.cons 22 (.take true 23 (.br (.cons 24 (.done) (.nil)))) (.nil))) (.nil))) (.nil))) (.nil))) (.nil))) (.nil)))))))))))))))))))
  | _ => .done
/-- (*strongbox/curve.group).lift region 2: 4 ways region 4: 4 ways -/
def pl108 : Nat → Tr
  | 2 => .take true 0 (.take true 1 (.take true 2 (.take true 8 (.take false 3 (.take false 4 (.take false 6 (.br (.cons 5 (.br (.cons 7 (.br (.cons 9 (.br (.cons 10 (.br (.cons 11 (.done) (.nil))) (.nil))) (.cons 10 (.br (.cons 9 (.br (.cons 11 (.done) (.nil))) (.nil))) (.nil)))) (.cons 10 (.br (.cons 7 (.br (.cons 9 (.br (.cons 11 (.done) (.nil))) (.nil))) (.nil))) (.nil)))) (.cons 10 (.br (.cons 5 (.br (.cons 7 (.br (.cons 9 (.br (.cons 11 (.done) (.nil))) (.nil))) (.nil))) (.nil))) (.nil))))))))))
  | 4 => .take true 0 (.take false 1 (.take false 2 (.br (.cons 3 (.br (.cons 4 (.br (.cons 5 (.br (.cons 6 (.br (.cons 7 (.done) (.nil))) (.nil))) (.cons 6 (.br (.cons 5 (.br (.cons 7 (.done) (.nil))) (.nil))) (.nil)))) (.cons 6 (.br (.cons 4 (.br (.cons 5 (.br (.cons 7 (.done) (.nil))) (.nil))) (.nil))) (.nil)))) (.cons 6 (.br (.cons 3 (.br (.cons 4 (.br (.cons 5 (.br (.cons 7 (.done) (.nil))) (.nil))) (.nil))) (.nil))) (.nil))))))
  | 5 => .take true 0 (.take false 1 (.take false 2 (.take false 4 (.br (.cons 3 (.take true 5 (.done)) (.nil))))))
  | _ => .done
def pl109 : Nat → Tr := fun _ => .done
def pl110 : Nat → Tr := fun _ => .done
/-- strongbox/tx.Clone region 1: 2 ways -/
def pl111 : Nat → Tr
  | 1 => .take true 0 (.take true 3 (.take false 1 (.br (.cons 2 (.take false 4 (.take true 6 (.br (.cons 5 (.br (.cons 7 (.take true 8 (.br (.cons 9 (.done) (.nil)))) (.nil))) (.nil))))) (.cons 4 (.br (.cons 2 (.take true 6 (.br (.cons 5 (.br (.cons 7 (.take true 8 (.br (.cons 9 (.done) (.nil)))) (.nil))) (.nil)))) (.nil))) (.nil))))))
  | 6 => .take true 0 (.take true 1 (.take true 2 (.take true 3 (.take true 4 (.take true 7 (.take true 8 (.take true 9 (.take false 5 (.take false 10 (.br (.cons 6 (.br (.cons 11 (.take true 12 (.take true 13 (.br (.cons 14 (.take true 15 (.take true 16 (.br (.cons 17 (.done) (.nil))))) (.nil))))) (.nil))) (.nil))))))))))))
  | 10 => .take true 0 (.take true 1 (.take true 2 (.take true 4 (.take true 5 (.take true 6 (.take true 7 (.take true 9 (.take false 3 (.take false 8 (.take true 10 (.take false 11 (.br (.cons 12 (.take true 13 (.br (.cons 14 (.done) (.nil)))) (.nil))))))))))))))
  | 16 => .take true 0 (.take true 2 (.take true 3 (.take true 5 (.take false 1 (.take false 4 (.take true 6 (.take true 7 (.take false 8 (.br (.cons 9 (.take true 10 (.take true 11 (.br (.cons 12 (.done) (.nil))))) (.nil)))))))))))
  | _ => .done
def pl112 : Nat → Tr := fun _ => .done
def pl113 : Nat → Tr := fun _ => .done
def pl114 : Nat → Tr := fun _ => .done
def pl115 : Nat → Tr := fun _ => .done
def pl116 : Nat → Tr := fun _ => .done
def pl117 : Nat → Tr := fun _ => .done
def pl118 : Nat → Tr := fun _ => .done
def pl119 : Nat → Tr := fun _ => .done
def pl120 : Nat → Tr := fun _ => .done
def pl121 : Nat → Tr := fun _ => .done
def pl122 : Nat → Tr := fun _ => .done
/-- (*strongbox/curve.field).in region 1: 2 ways -/
def pl123 : Nat → Tr
  | 1 => .take true 1 (.take true 2 (.take true 3 (.take false 0 (.take false 4 (.br (.cons 5 (.take true 6 (.take true 7 (.take true 8 (.br (.cons 9 (.br (.cons 10 (.take true 11 (.done)) (.nil))) (.nil)))))) (.cons 9 (.br (.cons 5 (.take true 6 (.take true 7 (.take true 8 (.br (.cons 10 (.take true 11 (.done)) (.nil)))))) (.nil))) (.nil))))))))
  | _ => .done
def pl124 : Nat → Tr := fun _ => .done
/-- (*strongbox/curve.field).add -/
def pl125 : Nat → Tr
  | 3 => .take true 1 (.take true 2 (.take true 3 (.take false 0 (.take false 4 (.br (.cons 5 (.take true 6 (.take true 7 (.take true 8 (.br (.cons 9 (.done) (.nil)))))) (.nil)))))))
  | _ => .done
/-- (*strongbox/curve.group).signature region 5: 20 ways region 7: 5 ways region 11: 12 ways -/
def pl126 : Nat → Tr
  | 5 => .take true 0 (.take true 1 (.take true 3 (.take false 2 (.br (.cons 4 (.br (.cons 5 (.br (.cons 6 (.take true 7 (.take true 8 (.take true 9 (.br (.cons 10 (.br (.cons 11 (.br (.cons 12 (.br (.cons 13 (.done) (.nil))) (.nil))) (.nil))) (.cons 11 (.br (.cons 10 (.br (.cons 12 (.br (.cons 13 (.done) (.nil))) (.nil))) (.nil))) (.nil))))))) (.cons 10 (.br (.cons 6 (.take true 7 (.take true 8 (.take true 9 (.br (.cons 11 (.br (.cons 12 (.br (.cons 13 (.done) (.nil))) (.nil))) (.nil)))))) (.cons 11 (.br (.cons 6 (.take true 7 (.take true 8 (.take true 9 (.br (.cons 12 (.br (.cons 13 (.done) (.nil))) (.nil)))))) (.nil))) (.nil)))) (.cons 11 (.br (.cons 6 (.take true 7 (.take true 8 (.take true 9 (.br (.cons 10 (.br (.cons 12 (.br (.cons 13 (.done) (.nil))) (.nil))) (.nil)))))) (.cons 10 (.br (.cons 6 (.take true 7 (.take true 8 (.take true 9 (.br (.cons 12 (.br (.cons 13 (.done) (.nil))) (.nil)))))) (.nil))) (.nil)))) (.nil))))) (.cons 10 (.br (.cons 5 (.br (.cons 6 (.take true 7 (.take true 8 (.take true 9 (.br (.cons 11 (.br (.cons 12 (.br (.cons 13 (.done) (.nil))) (.nil))) (.nil)))))) (.cons 11 (.br (.cons 6 (.take true 7 (.take true 8 (.take true 9 (.br (.cons 12 (.br (.cons 13 (.done) (.nil))) (.nil)))))) (.nil))) (.nil)))) (.cons 11 (.br (.cons 5 (.br (.cons 6 (.take true 7 (.take true 8 (.take true 9 (.br (.cons 12 (.br (.cons 13 (.done) (.nil))) (.nil)))))) (.nil))) (.nil))) (.nil)))) (.cons 11 (.br (.cons 5 (.br (.cons 6 (.take true 7 (.take true 8 (.take true 9 (.br (.cons 10 (.br (.cons 12 (.br (.cons 13 (.done) (.nil))) (.nil))) (.nil)))))) (.cons 10 (.br (.cons 6 (.take true 7 (.take true 8 (.take true 9 (.br (.cons 12 (.br (.cons 13 (.done) (.nil))) (.nil)))))) (.nil))) (.nil)))) (.cons 10 (.br (.cons 5 (.br (.cons 6 (.take true 7 (.take true 8 (.take true 9 (.br (.cons 12 (.br (.cons 13 (.done) (.nil))) (.nil)))))) (.nil))) (.nil))) (.nil)))) (.nil))))) (.cons 10 (.br (.cons 4 (.br (.cons 5 (.br (.cons 6 (.take true 7 (.take true 8 (.take true 9 (.br (.cons 11 (.br (.cons 12 (.br (.cons 13 (.done) (.nil))) (.nil))) (.nil)))))) (.cons 11 (.br (.cons 6 (.take true 7 (.take true 8 (.take true 9 (.br (.cons 12 (.br (.cons 13 (.done) (.nil))) (.nil)))))) (.nil))) (.nil)))) (.cons 11 (.br (.cons 5 (.br (.cons 6 (.take true 7 (.take true 8 (.take true 9 (.br (.cons 12 (.br (.cons 13 (.done) (.nil))) (.nil)))))) (.nil))) (.nil))) (.nil)))) (.cons 11 (.br (.cons 4 (.br (.cons 5 (.br (.cons 6 (.take true 7 (.take true 8 (.take true 9 (.br (.cons 12 (.br (.cons 13 (.done) (.nil))) (.nil)))))) (.nil))) (.nil))) (.nil))) (.nil)))) (.cons 11 (.br (.cons 4 (.br (.cons 5 (.br (.cons 6 (.take true 7 (.take true 8 (.take true 9 (.br (.cons 10 (.br (.cons 12 (.br (.cons 13 (.done) (.nil))) (.nil))) (.nil)))))) (.cons 10 (.br (.cons 6 (.take true 7 (.take true 8 (.take true 9 (.br (.cons 12 (.br (.cons 13 (.done) (.nil))) (.nil)))))) (.nil))) (.nil)))) (.cons 10 (.br (.cons 5 (.br (.cons 6 (.take true 7 (.take true 8 (.take true 9 (.br (.cons 12 (.br (.cons 13 (.done) (.nil))) (.nil)))))) (.nil))) (.nil))) (.nil)))) (.cons 10 (.br (.cons 4 (.br (.cons 5 (.br (.cons 6 (.take true 7 (.take true 8 (.take true 9 (.br (.cons 12 (.br (.cons 13 (.done) (.nil))) (.nil)))))) (.nil))) (.nil))) (.nil))) (.nil)))) (.nil))))))))
  | 7 => .take true 0 (.take true 1 (.take true 4 (.take true 6 (.take false 2 (.take false 5 (.take false 7 (.take false 8 (.br (.cons 3 (.br (.cons 9 (.br (.cons 10 (.br (.cons 11 (.br (.cons 12 (.br (.cons 13 (.done) (.nil))) (.nil))) (.cons 12 (.br (.cons 11 (.br (.cons 13 (.done) (.nil))) (.nil))) (.nil)))) (.cons 12 (.br (.cons 10 (.br (.cons 11 (.br (.cons 13 (.done) (.nil))) (.nil))) (.nil))) (.nil)))) (.cons 12 (.br (.cons 9 (.br (.cons 10 (.br (.cons 11 (.br (.cons 13 (.done) (.nil))) (.nil))) (.nil))) (.nil))) (.nil)))) (.cons 12 (.br (.cons 3 (.br (.cons 9 (.br (.cons 10 (.br (.cons 11 (.br (.cons 13 (.done) (.nil))) (.nil))) (.nil))) (.nil))) (.nil))) (.nil)))))))))))
  | 11 => .take false 0 (.take false 2 (.br (.cons 1 (.br (.cons 3 (.br (.cons 4 (.br (.cons 5 (.br (.cons 6 (.br (.cons 7 (.done) (.nil))) (.nil))) (.nil))) (.cons 5 (.br (.cons 4 (.br (.cons 6 (.br (.cons 7 (.done) (.nil))) (.nil))) (.nil))) (.nil)))) (.cons 4 (.br (.cons 3 (.br (.cons 5 (.br (.cons 6 (.br (.cons 7 (.done) (.nil))) (.nil))) (.nil))) (.cons 5 (.br (.cons 3 (.br (.cons 6 (.br (.cons 7 (.done) (.nil))) (.nil))) (.nil))) (.nil)))) (.cons 5 (.br (.cons 3 (.br (.cons 4 (.br (.cons 6 (.br (.cons 7 (.done) (.nil))) (.nil))) (.nil))) (.cons 4 (.br (.cons 3 (.br (.cons 6 (.br (.cons 7 (.done) (.nil))) (.nil))) (.nil))) (.nil)))) (.nil))))) (.cons 4 (.br (.cons 1 (.br (.cons 3 (.br (.cons 5 (.br (.cons 6 (.br (.cons 7 (.done) (.nil))) (.nil))) (.nil))) (.cons 5 (.br (.cons 3 (.br (.cons 6 (.br (.cons 7 (.done) (.nil))) (.nil))) (.nil))) (.nil)))) (.cons 5 (.br (.cons 1 (.br (.cons 3 (.br (.cons 6 (.br (.cons 7 (.done) (.nil))) (.nil))) (.nil))) (.nil))) (.nil)))) (.cons 5 (.br (.cons 1 (.br (.cons 3 (.br (.cons 4 (.br (.cons 6 (.br (.cons 7 (.done) (.nil))) (.nil))) (.nil))) (.cons 4 (.br (.cons 3 (.br (.cons 6 (.br (.cons 7 (.done) (.nil))) (.nil))) (.nil))) (.nil)))) (.cons 4 (.br (.cons 1 (.br (.cons 3 (.br (.cons 6 (.br (.cons 7 (.done) (.nil))) (.nil))) (.nil))) (.nil))) (.nil)))) (.nil))))))
  | 12 => .take false 0 (.take false 1 (.br (.cons 2 (.done) (.nil))))
  | 13 => .take false 0 (.take false 1 (.br (.cons 2 (.done) (.nil))))
  | 14 => .take false 0 (.take false 1 (.br (.cons 2 (.take true 3 (.take true 4 (.take false 5 (.br (.cons 6 (.take true 7 (.take true 8 (.br (.cons 9 (.take true 10 (.done)) (.nil))))) (.nil)))))) (.nil))))
  | _ => .done
def pl127 : Nat → Tr := fun _ => .done
def pl128 : Nat → Tr := fun _ => .done
/-- strongbox/vm.branch$1 region 2: 2 ways -/
def pl129 : Nat → Tr
  | 2 => .take true 0 (.br (.cons 1 (.take false 3 (.br (.cons 2 (.take true 4 (.take true 5 (.done))) (.nil)))) (.cons 3 (.br (.cons 1 (.br (.cons 2 (.take true 4 (.take true 5 (.done))) (.nil))) (.nil))) (.nil))))
  | _ => .done
def pl130 : Nat → Tr := fun _ => .done
def pl131 : Nat → Tr := fun _ => .done
def pl132 : Nat → Tr := fun _ => .done
def pl133 : Nat → Tr := fun _ => .done
/-- (*strongbox/vm.machine).peek -/
def pl134 : Nat → Tr
  | 2 => .take true 0 (.take true 1 (.take true 2 (.take true 4 (.take true 5 (.take true 6 (.take true 10 (.take false 3 (.take false 7 (.take false 8 (.take true 9 (.take true 11 (.take true 12 (.take false 13 (.take true 14 (.done)))))))))))))))
  | _ => .done
def pl135 : Nat → Tr := fun _ => .done
def pl136 : Nat → Tr := fun _ => .done
def pl137 : Nat → Tr := fun _ => .done
/-- slices.Insert[[][]byte,[]byte] -/
def pl138 : Nat → Tr
  | 11 => .take true 0 (.take true 1 (.take true 2 (.take true 3 (.take true 5 (.take true 6 (.take false 4 (.take false 7 (.br (.cons 8 (.done) (.nil))))))))))
  | 15 => .take true 0 (.take true 1 (.take true 2 (.take true 3 (.take true 5 (.take true 6 (.take false 4 (.take false 7 (.br (.cons 8 (.done) (.nil))))))))))
  | _ => .done
def pl139 : Nat → Tr := fun _ => .done
def pl140 : Nat → Tr := fun _ => .done
def pl141 : Nat → Tr := fun _ => .done
/-- strongbox/vm.digest$1 region 0: 2 ways -/
def pl142 : Nat → Tr
  | 0 => .take true 0 (.take true 2 (.br (.cons 1 (.br (.cons 3 (.br (.cons 4 (.br (.cons 5 (.done) (.nil))) (.nil))) (.nil))) (.cons 3 (.take false 1 (.br (.cons 4 (.br (.cons 5 (.done) (.nil))) (.nil)))) (.nil)))))
  | _ => .done
/-- strongbox/hash.Ripemd region 13: 12 ways -/
def pl143 : Nat → Tr
  | 11 => .take true 0 (.take true 1 (.take true 2 (.take true 3 (.take true 4 (.take true 7 (.take true 8 (.take true 9 (.take true 10 (.take true 11 (.take true 16 (.take true 17 (.take true 18 (.take true 19 (.take true 20 (.take true 25 (.take true 26 (.take true 27 (.take true 28 (.take true 29 (.take false 5 (.take false 6 (.take false 12 (.take false 13 (.take true 14 (.take true 15 (.take false 21 (.take false 22 (.take true 23 (.take true 24 (.take false 30 (.take false 31 (.take true 32 (.take true 33 (.take true 34 (.br (.cons 35 (.done) (.nil)))))))))))))))))))))))))))))))))))))
  | 13 => .take false 0 (.take false 1 (.take false 2 (.take false 4 (.take false 5 (.take false 6 (.br (.cons 3 (.br (.cons 7 (.br (.cons 8 (.br (.cons 9 (.br (.cons 10 (.br (.cons 11 (.done) (.nil))) (.nil))) (.nil))) (.cons 9 (.br (.cons 8 (.br (.cons 10 (.br (.cons 11 (.done) (.nil))) (.nil))) (.nil))) (.nil)))) (.cons 8 (.br (.cons 7 (.br (.cons 9 (.br (.cons 10 (.br (.cons 11 (.done) (.nil))) (.nil))) (.nil))) (.cons 9 (.br (.cons 7 (.br (.cons 10 (.br (.cons 11 (.done) (.nil))) (.nil))) (.nil))) (.nil)))) (.cons 9 (.br (.cons 7 (.br (.cons 8 (.br (.cons 10 (.br (.cons 11 (.done) (.nil))) (.nil))) (.nil))) (.cons 8 (.br (.cons 7 (.br (.cons 10 (.br (.cons 11 (.done) (.nil))) (.nil))) (.nil))) (.nil)))) (.nil))))) (.cons 8 (.br (.cons 3 (.br (.cons 7 (.br (.cons 9 (.br (.cons 10 (.br (.cons 11 (.done) (.nil))) (.nil))) (.nil))) (.cons 9 (.br (.cons 7 (.br (.cons 10 (.br (.cons 11 (.done) (.nil))) (.nil))) (.nil))) (.nil)))) (.cons 9 (.br (.cons 3 (.br (.cons 7 (.br (.cons 10 (.br (.cons 11 (.done) (.nil))) (.nil))) (.nil))) (.nil))) (.nil)))) (.cons 9 (.br (.cons 3 (.br (.cons 7 (.br (.cons 8 (.br (.cons 10 (.br (.cons 11 (.done) (.nil))) (.nil))) (.nil))) (.cons 8 (.br (.cons 7 (.br (.cons 10 (.br (.cons 11 (.done) (.nil))) (.nil))) (.nil))) (.nil)))) (.cons 8 (.br (.cons 3 (.br (.cons 7 (.br (.cons 10 (.br (.cons 11 (.done) (.nil))) (.nil))) (.nil))) (.nil))) (.nil)))) (.nil))))))))))
  | _ => .done
def pl144 : Nat → Tr := fun _ => .done
def pl145 : Nat → Tr := fun _ => .done
/-- (*strongbox/vm.machine).good region 7: 2 ways -/
def pl146 : Nat → Tr
  | 7 => .take true 0 (.take true 1 (.take true 2 (.take true 3 (.take true 5 (.take true 6 (.take true 7 (.take true 8 (.take true 10 (.take true 11 (.take true 12 (.take true 14 (.take false 4 (.take false 9 (.take false 13 (.br (.cons 15 (.br (.cons 16 (.br (.cons 17 (.done) (.nil))) (.nil))) (.cons 16 (.br (.cons 15 (.br (.cons 17 (.done) (.nil))) (.nil))) (.nil))))))))))))))))))
  | 9 => .take true 0 (.take true 1 (.take true 2 (.take true 3 (.take true 5 (.take true 6 (.take true 7 (.take true 8 (.take true 10 (.take true 11 (.take true 12 (.take true 14 (.take true 15 (.take true 16 (.take true 17 (.take true 19 (.take false 4 (.take false 9 (.take false 13 (.take false 18 (.br (.cons 20 (.br (.cons 21 (.done) (.nil))) (.nil))))))))))))))))))))))
  | 10 => .take true 0 (.take true 2 (.take false 1 (.take false 3 (.br (.cons 4 (.take true 5 (.done)) (.nil))))))
  | _ => .done
def pl147 : Nat → Tr := fun _ => .done
/-- (*strongbox/vm.machine).lock -/
def pl148 : Nat → Tr
  | 2 => .take true 0 (.take true 1 (.take true 2 (.take true 3 (.take true 4 (.take true 5 (.take true 6 (.take true 7 (.take true 8 (.take true 9 (.take true 10 (.take false 11 (.take true 12 (.take true 13 (.take true 14 (.take true 15 (.take true 16 (.take true 17 (.take true 18 (.take true 20 (.take true 21 (.take true 22 (.take true 23 (.take true 24 (.take false 19 (.take false 25 (.take false 26 (.take true 27 (.take true 28 (.br (.cons 29 (.done) (.nil)))))))))))))))))))))))))))))))
  | 3 => .take true 0 (.take true 1 (.take true 2 (.take true 3 (.take true 4 (.take true 5 (.take true 7 (.take true 8 (.take true 9 (.take true 10 (.take true 15 (.take false 6 (.take false 11 (.take true 12 (.take true 13 (.take false 14 (.take true 16 (.done)))))))))))))))))
  | _ => .done
def pl149 : Nat → Tr := fun _ => .done
def pl150 : Nat → Tr := fun _ => .done
def pl151 : Nat → Tr := fun _ => .done
def pl152 : Nat → Tr := fun _ => .done
def pl153 : Nat → Tr := fun _ => .done
def pl154 : Nat → Tr := fun _ => .done
def pl155 : Nat → Tr := fun _ => .done
def pl156 : Nat → Tr := fun _ => .done
def pl157 : Nat → Tr := fun _ => .done
def pl158 : Nat → Tr := fun _ => .done
def pl159 : Nat → Tr := fun _ => .done
def pl160 : Nat → Tr := fun _ => .done
def pl161 : Nat → Tr := fun _ => .done
def pl162 : Nat → Tr := fun _ => .done
def pl163 : Nat → Tr := fun _ => .done
def pl164 : Nat → Tr := fun _ => .done
def pl165 : Nat → Tr := fun _ => .done
def pl166 : Nat → Tr := fun _ => .done
def pl167 : Nat → Tr := fun _ => .done
def pl168 : Nat → Tr := fun _ => .done
def pl169 : Nat → Tr := fun _ => .done
def pl170 : Nat → Tr := fun _ => .done
def pl171 : Nat → Tr := fun _ => .done
def pl172 : Nat → Tr := fun _ => .done
def pl173 : Nat → Tr := fun _ => .done
/-- strongbox/strongboxref13.num -/
def pl174 : Nat → Tr
  | 1 => .take true 1 (.take false 0 (.br (.cons 2 (.br (.cons 3 (.br (.cons 4 (.done) (.nil))) (.nil))) (.nil))))
  | _ => .done
def pl175 : Nat → Tr := fun _ => .done
/-- strongbox/strongboxref13.moves region 43: 2 ways -/
def pl176 : Nat → Tr
  | 43 => .take false 1 (.br (.cons 0 (.br (.cons 2 (.take false 3 (.br (.cons 4 (.br (.cons 5 (.done) (.nil))) (.nil)))) (.nil))) (.cons 2 (.take false 0 (.take false 3 (.br (.cons 4 (.br (.cons 5 (.done) (.nil))) (.nil))))) (.nil))))
  | _ => .done
/-- strongbox/strongboxref13.equal -/
def pl177 : Nat → Tr
  | 3 => .take true 1 (.take true 2 (.take false 0 (.br (.cons 3 (.br (.cons 4 (.br (.cons 5 (.done) (.nil))) (.nil))) (.nil)))))
  | _ => .done
def pl178 : Nat → Tr := fun _ => .done
/-- strongbox/strongboxref13.digest -/
def pl179 : Nat → Tr
  | 8 => .take false 0 (.take false 1 (.br (.cons 2 (.br (.cons 3 (.done) (.nil))) (.nil))))
  | 10 => .take false 0 (.take false 1 (.br (.cons 2 (.br (.cons 3 (.done) (.nil))) (.nil))))
  | 13 => .take false 0 (.take false 1 (.br (.cons 2 (.br (.cons 3 (.done) (.nil))) (.nil))))
  | 15 => .take false 0 (.take false 1 (.br (.cons 2 (.br (.cons 3 (.done) (.nil))) (.nil))))
  | _ => .done
def pl180 : Nat → Tr := fun _ => .done
/-- strongbox/strongboxref13.many region 13: 2 ways -/
def pl181 : Nat → Tr
  | 13 => .take true 1 (.take true 2 (.take true 3 (.take true 4 (.take true 6 (.take true 7 (.take true 8 (.take true 9 (.take false 0 (.take false 5 (.take false 10 (.br (.cons 11 (.take true 12 (.take true 13 (.take true 14 (.br (.cons 15 (.take true 16 (.br (.cons 17 (.done) (.nil)))) (.nil)))))) (.cons 15 (.br (.cons 11 (.take true 12 (.take true 13 (.take true 14 (.take true 16 (.br (.cons 17 (.done) (.nil))))))) (.nil))) (.nil))))))))))))))
  | _ => .done
def pl182 : Nat → Tr := fun _ => .done
def pl183 : Nat → Tr := fun _ => .done
def pl184 : Nat → Tr := fun _ => .done
def pl185 : Nat → Tr := fun _ => .done
def pl186 : Nat → Tr := fun _ => .done
def pl187 : Nat → Tr := fun _ => .done
def pl188 : Nat → Tr := fun _ => .done
def pl189 : Nat → Tr := fun _ => .done
def pl190 : Nat → Tr := fun _ => .done
def pl191 : Nat → Tr := fun _ => .done
def pl192 : Nat → Tr := fun _ => .done
/-- (strongbox/curve.num).sub -/
def pl193 : Nat → Tr
  | 6 => .take true 0 (.take true 1 (.take true 2 (.take true 4 (.take true 5 (.take true 7 (.take false 3 (.take false 6 (.br (.cons 8 (.take true 9 (.take true 10 (.take true 11 (.take true 12 (.br (.cons 13 (.take true 14 (.done)) (.nil))))))) (.nil))))))))))
  | _ => .done
def pl194 : Nat → Tr := fun _ => .done
def pl195 : Nat → Tr := fun _ => .done
def pl196 : Nat → Tr := fun _ => .done
/-- (*strongbox/curve.field).sub -/
def pl197 : Nat → Tr
  | 1 => .take true 0 (.take true 2 (.take false 1 (.take false 3 (.br (.cons 4 (.br (.cons 5 (.br (.cons 6 (.done) (.nil))) (.nil))) (.nil))))))
  | _ => .done
/-- (strongbox/curve.num).plus -/
def pl198 : Nat → Tr
  | 6 => .take true 0 (.take true 1 (.take true 2 (.take true 4 (.take true 5 (.take true 7 (.take false 3 (.take false 6 (.br (.cons 8 (.take true 9 (.take true 10 (.take true 11 (.take true 12 (.br (.cons 13 (.take true 14 (.done)) (.nil))))))) (.nil))))))))))
  | _ => .done
def pl199 : Nat → Tr := fun _ => .done
def pl200 : Nat → Tr := fun _ => .done
/-- (*strongbox/curve.field).neg region 3: 2 ways -/
def pl201 : Nat → Tr
  | 3 => .take true 0 (.take true 1 (.take true 2 (.take false 3 (.take false 4 (.br (.cons 5 (.take true 6 (.take true 7 (.take true 8 (.br (.cons 9 (.br (.cons 10 (.take true 11 (.done)) (.nil))) (.nil)))))) (.cons 9 (.br (.cons 5 (.take true 6 (.take true 7 (.take true 8 (.br (.cons 10 (.take true 11 (.done)) (.nil)))))) (.nil))) (.nil))))))))
  | _ => .done
def pl202 : Nat → Tr := fun _ => .done
def pl203 : Nat → Tr := fun _ => .done
def pl204 : Nat → Tr := fun _ => .done
def pl205 : Nat → Tr := fun _ => .done
def pl206 : Nat → Tr := fun _ => .done
/-- (*strongbox/hash.Sum).Add -/
def pl207 : Nat → Tr
  | 6 => .take true 0 (.take true 1 (.take true 2 (.take true 3 (.take true 4 (.take true 5 (.take false 6 (.take false 7 (.br (.cons 8 (.done) (.nil))))))))))
  | _ => .done
def pl208 : Nat → Tr := fun _ => .done
def pl209 : Nat → Tr := fun _ => .done
def pl210 : Nat → Tr := fun _ => .done
/-- slices.Delete[[][]byte,[]byte] -/
def pl211 : Nat → Tr
  | 5 => .take true 0 (.take true 1 (.take true 3 (.take true 4 (.take false 2 (.take false 5 (.br (.cons 6 (.take true 7 (.done)) (.nil))))))))
  | _ => .done
def pl213 : Nat → Tr := fun _ => .done
def pl214 : Nat → Tr := fun _ => .done
def pl215 : Nat → Tr := fun _ => .done
/-- slices.Reverse[[]byte,byte] -/
def pl216 : Nat → Tr
  | 3 => .take true 0 (.take true 1 (.take true 2 (.take true 3 (.take true 4 (.take true 5 (.take true 6 (.take true 8 (.take true 9 (.take true 10 (.take false 7 (.take false 11 (.take true 12 (.br (.cons 13 (.take true 14 (.br (.cons 15 (.done) (.nil)))) (.nil)))))))))))))))
  | _ => .done
def pl217 : Nat → Tr := fun _ => .done
def pl218 : Nat → Tr := fun _ => .done
def pl219 : Nat → Tr := fun _ => .done
def pl220 : Nat → Tr := fun _ => .done
/-- (strongbox/hash.rounds).line -/
def pl221 : Nat → Tr
  | 8 => .take true 0 (.take true 2 (.take true 3 (.take true 5 (.take true 7 (.take true 11 (.take true 12 (.take true 13 (.take true 18 (.take true 19 (.take true 20 (.take true 23 (.take true 24 (.take true 25 (.take true 28 (.take false 1 (.take false 4 (.take false 6 (.take false 8 (.take false 14 (.take true 15 (.take false 16 (.take false 21 (.take false 26 (.take false 29 (.br (.cons 9 (.take true 10 (.take true 17 (.take true 22 (.br (.cons 27 (.take true 30 (.take true 31 (.done))) (.nil)))))) (.nil)))))))))))))))))))))))))))
  | 9 => .take true 0 (.take true 2 (.take true 3 (.take true 5 (.take true 8 (.take false 1 (.take false 4 (.take false 6 (.take false 9 (.br (.cons 7 (.take true 10 (.br (.cons 11 (.done) (.nil)))) (.nil)))))))))))
  | _ => .done
/-- (*strongbox/hash.Sum).Hash region 1: NO PLAN -/
def pl222 : Nat → Tr
  | 1 => .take true 999999 (.done)
  | _ => .done
/-- strongbox/curve.Verify region 11: 9 ways -/
def pl223 : Nat → Tr
  | 11 => .take true 0 (.take true 1 (.take true 2 (.take true 3 (.take true 9 (.take true 12 (.take true 13 (.take false 4 (.take false 7 (.take false 14 (.take false 15 (.take false 17 (.br (.cons 5 (.br (.cons 6 (.br (.cons 8 (.br (.cons 10 (.br (.cons 11 (.br (.cons 16 (.br (.cons 18 (.br (.cons 19 (.br (.cons 20 (.br (.cons 21 (.done) (.nil))) (.nil))) (.cons 20 (.br (.cons 19 (.br (.cons 21 (.done) (.nil))) (.nil))) (.nil)))) (.cons 20 (.br (.cons 18 (.br (.cons 19 (.br (.cons 21 (.done) (.nil))) (.nil))) (.nil))) (.nil)))) (.cons 20 (.br (.cons 16 (.br (.cons 18 (.br (.cons 19 (.br (.cons 21 (.done) (.nil))) (.nil))) (.nil))) (.nil))) (.nil)))) (.cons 20 (.br (.cons 11 (.br (.cons 16 (.br (.cons 18 (.br (.cons 19 (.br (.cons 21 (.done) (.nil))) (.nil))) (.nil))) (.nil))) (.nil))) (.nil)))) (.cons 20 (.br (.cons 10 (.br (.cons 11 (.br (.cons 16 (.br (.cons 18 (.br (.cons 19 (.br (.cons 21 (.done) (.nil))) (.nil))) (.nil))) (.nil))) (.nil))) (.nil))) (.nil)))) (.cons 20 (.br (.cons 8 (.br (.cons 10 (.br (.cons 11 (.br (.cons 16 (.br (.cons 18 (.br (.cons 19 (.br (.cons 21 (.done) (.nil))) (.nil))) (.nil))) (.nil))) (.nil))) (.nil))) (.nil))) (.nil)))) (.cons 20 (.br (.cons 6 (.br (.cons 8 (.br (.cons 10 (.br (.cons 11 (.br (.cons 16 (.br (.cons 18 (.br (.cons 19 (.br (.cons 21 (.done) (.nil))) (.nil))) (.nil))) (.nil))) (.nil))) (.nil))) (.nil))) (.nil))) (.nil)))) (.cons 20 (.br (.cons 5 (.br (.cons 6 (.br (.cons 8 (.br (.cons 10 (.br (.cons 11 (.br (.cons 16 (.br (.cons 18 (.br (.cons 19 (.br (.cons 21 (.done) (.nil))) (.nil))) (.nil))) (.nil))) (.nil))) (.nil))) (.nil))) (.nil))) (.nil))) (.nil)))))))))))))))
  | 15 => .take true 0 (.take false 1 (.take false 3 (.br (.cons 2 (.take true 4 (.take true 5 (.done))) (.nil)))))
  | _ => .done
/-- strongbox/vm.one$1 region 0: 2 ways -/
def pl224 : Nat → Tr
  | 0 => .take true 0 (.take true 2 (.br (.cons 1 (.br (.cons 3 (.br (.cons 4 (.br (.cons 5 (.done) (.nil))) (.nil))) (.nil))) (.cons 3 (.take false 1 (.br (.cons 4 (.br (.cons 5 (.done) (.nil))) (.nil)))) (.nil)))))
  | _ => .done
/-- strongbox/vm.two$1 region 1: 2 ways -/
def pl225 : Nat → Tr
  | 1 => .take true 0 (.take true 2 (.take true 4 (.br (.cons 1 (.br (.cons 3 (.br (.cons 5 (.br (.cons 6 (.done) (.nil))) (.nil))) (.nil))) (.cons 3 (.take false 1 (.br (.cons 5 (.br (.cons 6 (.done) (.nil))) (.nil)))) (.nil))))))
  | _ => .done
/-- strongbox/vm.asks$1 region 1: 2 ways -/
def pl226 : Nat → Tr
  | 1 => .take true 0 (.take true 2 (.take true 4 (.br (.cons 1 (.br (.cons 3 (.br (.cons 5 (.br (.cons 6 (.done) (.nil))) (.nil))) (.nil))) (.cons 3 (.take false 1 (.br (.cons 5 (.br (.cons 6 (.done) (.nil))) (.nil)))) (.nil))))))
  | _ => .done
def pl227 : Nat → Tr := fun _ => .done
def pl228 : Nat → Tr := fun _ => .done
def pl229 : Nat → Tr := fun _ => .done
def pl230 : Nat → Tr := fun _ => .done
/-- strongbox/strongboxref13.copies region 6: 2 ways -/
def pl231 : Nat → Tr
  | 6 => .take true 2 (.take false 1 (.br (.cons 0 (.br (.cons 3 (.br (.cons 4 (.br (.cons 5 (.done) (.nil))) (.nil))) (.nil))) (.cons 3 (.take false 0 (.br (.cons 4 (.br (.cons 5 (.done) (.nil))) (.nil)))) (.nil)))))
  | _ => .done
def pl232 : Nat → Tr := fun _ => .done
/-- strongbox/strongboxref13.without region 4: 6 ways -/
def pl233 : Nat → Tr
  | 4 => .take true 1 (.take true 3 (.take true 6 (.take true 8 (.take true 9 (.take false 2 (.take false 4 (.br (.cons 0 (.br (.cons 5 (.take false 7 (.take false 10 (.br (.cons 11 (.take true 12 (.br (.cons 13 (.done) (.nil)))) (.nil))))) (.cons 7 (.br (.cons 5 (.take false 10 (.br (.cons 11 (.take true 12 (.br (.cons 13 (.done) (.nil)))) (.nil)))) (.cons 10 (.br (.cons 5 (.br (.cons 11 (.take true 12 (.br (.cons 13 (.done) (.nil)))) (.nil))) (.nil))) (.nil)))) (.nil)))) (.cons 7 (.br (.cons 0 (.br (.cons 5 (.take false 10 (.br (.cons 11 (.take true 12 (.br (.cons 13 (.done) (.nil)))) (.nil)))) (.cons 10 (.br (.cons 5 (.br (.cons 11 (.take true 12 (.br (.cons 13 (.done) (.nil)))) (.nil))) (.nil))) (.nil)))) (.cons 10 (.br (.cons 0 (.br (.cons 5 (.br (.cons 11 (.take true 12 (.br (.cons 13 (.done) (.nil)))) (.nil))) (.nil))) (.nil))) (.nil)))) (.nil))))))))))
  | _ => .done
def pl234 : Nat → Tr := fun _ => .done
def pl235 : Nat → Tr := fun _ => .done
/-- strongbox/strongboxref13.number -/
def pl236 : Nat → Tr
  | 5 => .take true 0 (.take true 2 (.take false 1 (.br (.cons 3 (.done) (.nil)))))
  | _ => .done
def pl237 : Nat → Tr := fun _ => .done
/-- strongbox/strongboxref02.Sum256 -/
def pl238 : Nat → Tr
  | 14 => .take true 0 (.take true 1 (.take true 2 (.take true 5 (.take true 6 (.take true 7 (.take true 8 (.take true 9 (.take true 10 (.take true 11 (.take true 12 (.take false 3 (.take true 4 (.take false 13 (.take false 14 (.take true 15 (.take true 16 (.br (.cons 17 (.done) (.nil)))))))))))))))))))
  | 18 => .take true 0 (.take true 1 (.take true 2 (.take true 5 (.take true 6 (.take true 7 (.take true 11 (.take true 12 (.take true 13 (.take false 3 (.take false 8 (.take false 14 (.take true 15 (.br (.cons 4 (.br (.cons 9 (.take true 10 (.take true 16 (.take true 17 (.done)))) (.nil))) (.nil)))))))))))))))
  | 19 => .take true 0 (.take true 1 (.take true 2 (.take true 5 (.take true 6 (.take true 7 (.take true 11 (.take true 12 (.take true 13 (.take false 3 (.take false 8 (.take false 14 (.take true 15 (.br (.cons 4 (.br (.cons 9 (.take true 10 (.take true 16 (.take true 17 (.done)))) (.nil))) (.nil)))))))))))))))
  | 20 => .take true 0 (.take true 1 (.take true 2 (.take true 3 (.take true 4 (.take true 7 (.take true 9 (.take true 10 (.take true 11 (.take false 5 (.take true 6 (.take true 8 (.take false 12 (.take true 13 (.take true 14 (.br (.cons 15 (.done) (.nil)))))))))))))))))
  | 25 => .take true 0 (.take true 2 (.take true 5 (.take true 9 (.take true 14 (.take true 16 (.take true 19 (.take true 22 (.take true 27 (.take true 28 (.take true 31 (.take true 32 (.take false 1 (.take false 3 (.take false 6 (.take false 10 (.take false 15 (.take false 17 (.take true 18 (.take false 20 (.take true 21 (.take false 23 (.take true 24 (.take true 25 (.take false 29 (.take false 33 (.br (.cons 4 (.br (.cons 7 (.take true 8 (.br (.cons 11 (.take true 12 (.take true 13 (.take true 26 (.take true 30 (.take true 34 (.take true 35 (.done))))))) (.nil)))) (.nil))) (.nil))))))))))))))))))))))))))))
  | 26 => .take true 0 (.take true 3 (.take true 7 (.take true 11 (.take true 13 (.take true 16 (.take true 18 (.take true 22 (.take true 24 (.take false 1 (.take false 4 (.take false 8 (.take false 12 (.take false 14 (.take true 15 (.take false 17 (.take false 19 (.take true 20 (.take true 21 (.take false 23 (.take false 25 (.take true 26 (.take true 27 (.br (.cons 2 (.br (.cons 5 (.take true 6 (.br (.cons 9 (.take true 10 (.take true 28 (.take true 29 (.done)))) (.nil)))) (.nil))) (.nil)))))))))))))))))))))))))
  | 31 => .take true 0 (.take true 1 (.take true 2 (.take true 4 (.take true 5 (.take false 3 (.take false 6 (.take true 7 (.take true 8 (.br (.cons 9 (.done) (.nil)))))))))))
  | _ => .done
/-- strongbox/strongboxref02.Ripemd -/
def pl239 : Nat → Tr
  | 19 => .take true 0 (.take true 1 (.take true 2 (.take true 5 (.take true 6 (.take true 7 (.take true 8 (.take true 9 (.take true 10 (.take true 11 (.take true 12 (.take false 3 (.take true 4 (.take false 13 (.take false 14 (.take true 15 (.take true 16 (.br (.cons 17 (.done) (.nil)))))))))))))))))))
  | 25 => .take true 0 (.take true 2 (.take true 3 (.take true 4 (.take true 6 (.take true 8 (.take true 12 (.take true 13 (.take true 18 (.take true 19 (.take true 20 (.take true 23 (.take true 24 (.take true 27 (.take false 1 (.take false 5 (.take false 7 (.take false 9 (.take false 14 (.take true 15 (.take false 16 (.take false 21 (.take false 25 (.take false 28 (.br (.cons 10 (.take true 11 (.take true 17 (.take true 22 (.br (.cons 26 (.take true 29 (.take true 30 (.done))) (.nil)))))) (.nil))))))))))))))))))))))))))
  | 26 => .take true 0 (.take true 2 (.take true 3 (.take true 5 (.take true 8 (.take false 1 (.take false 4 (.take false 6 (.take false 9 (.br (.cons 7 (.take true 10 (.br (.cons 11 (.done) (.nil)))) (.nil)))))))))))
  | 27 => .take true 0 (.take true 2 (.take true 3 (.take true 4 (.take true 5 (.take true 7 (.take true 9 (.take true 13 (.take true 14 (.take true 19 (.take true 20 (.take true 21 (.take true 24 (.take true 25 (.take true 28 (.take false 1 (.take false 6 (.take false 8 (.take false 10 (.take false 15 (.take true 16 (.take false 17 (.take false 22 (.take false 26 (.take false 29 (.br (.cons 11 (.take true 12 (.take true 18 (.take true 23 (.br (.cons 27 (.take true 30 (.take true 31 (.done))) (.nil)))))) (.nil)))))))))))))))))))))))))))
  | 28 => .take true 0 (.take true 2 (.take true 3 (.take true 5 (.take true 8 (.take false 1 (.take false 4 (.take false 6 (.take false 9 (.br (.cons 7 (.take true 10 (.br (.cons 11 (.done) (.nil)))) (.nil)))))))))))
  | _ => .done
/-- strongbox/strongboxref13.good region 6: 2 ways -/
def pl240 : Nat → Tr
  | 2 => .take true 1 (.take false 0 (.br (.cons 2 (.done) (.nil))))
  | 6 => .take true 0 (.take true 1 (.take true 3 (.take true 4 (.take true 6 (.take true 8 (.take true 9 (.take false 2 (.take false 5 (.take false 7 (.take false 10 (.br (.cons 11 (.br (.cons 12 (.br (.cons 13 (.done) (.nil))) (.nil))) (.cons 12 (.br (.cons 11 (.br (.cons 13 (.done) (.nil))) (.nil))) (.nil))))))))))))))
  | 8 => .take true 0 (.take true 1 (.take true 3 (.take true 4 (.take true 6 (.take true 8 (.take true 9 (.take true 11 (.take true 12 (.take false 2 (.take false 5 (.take false 7 (.take false 10 (.take false 13 (.br (.cons 14 (.br (.cons 15 (.done) (.nil))) (.nil))))))))))))))))
  | 9 => .take true 0 (.take true 2 (.take false 1 (.take false 3 (.take false 5 (.br (.cons 4 (.take true 6 (.br (.cons 7 (.done) (.nil)))) (.nil)))))))
  | _ => .done
/-- strongbox/strongboxref13.list -/
def pl241 : Nat → Tr
  | 7 => .take true 0 (.take true 2 (.take false 1 (.br (.cons 3 (.done) (.nil)))))
  | _ => .done
def pl242 : Nat → Tr := fun _ => .done
def pl243 : Nat → Tr := fun _ => .done
def pl244 : Nat → Tr := fun _ => .done
def pl245 : Nat → Tr := fun _ => .done
def pl246 : Nat → Tr := fun _ => .done
def pl248 : Nat → Tr := fun _ => .done
def pl250 : Nat → Tr := fun _ => .done
def pl251 : Nat → Tr := fun _ => .done
def pl252 : Nat → Tr := fun _ => .done
def pl253 : Nat → Tr := fun _ => .done
def pl254 : Nat → Tr := fun _ => .done
def pl255 : Nat → Tr := fun _ => .done
/-- (*strongbox/hash.state256).step -/
def pl256 : Nat → Tr
  | 5 => .take true 0 (.take true 1 (.take true 2 (.take true 3 (.take true 4 (.take true 8 (.take true 9 (.take true 10 (.take true 11 (.take true 12 (.take true 17 (.take true 18 (.take true 19 (.take true 20 (.take true 21 (.take true 26 (.take true 27 (.take true 28 (.take true 29 (.take true 30 (.take false 5 (.take false 6 (.take true 7 (.take false 13 (.take false 14 (.take true 15 (.take true 16 (.take false 22 (.take false 23 (.take true 24 (.take true 25 (.take false 31 (.take false 32 (.take true 33 (.take true 34 (.br (.cons 35 (.done) (.nil)))))))))))))))))))))))))))))))))))))
  | 6 => .take true 0 (.take true 1 (.take true 2 (.take true 4 (.take true 5 (.take true 6 (.take false 3 (.take true 8 (.take false 7 (.take true 9 (.done))))))))))
  | 7 => .take true 0 (.take true 1 (.take true 2 (.take true 3 (.take true 5 (.take true 6 (.take true 7 (.take true 10 (.take true 12 (.take true 15 (.take true 16 (.take true 19 (.take true 21 (.take true 24 (.take true 25 (.take false 4 (.take false 8 (.take true 9 (.br (.cons 11 (.br (.cons 13 (.take true 14 (.take true 17 (.take true 18 (.br (.cons 20 (.br (.cons 22 (.take true 23 (.take true 26 (.take true 27 (.take true 28 (.br (.cons 29 (.done) (.nil))))))) (.nil))) (.nil)))))) (.nil))) (.nil))))))))))))))))))))
  | 13 => .take true 0 (.take true 2 (.take false 1 (.take true 4 (.take false 3 (.take true 5 (.done))))))
  | 14 => .take true 0 (.take true 2 (.take true 4 (.take true 7 (.take true 11 (.take true 12 (.take true 15 (.take true 16 (.take true 17 (.take true 22 (.take true 23 (.take true 24 (.take true 25 (.take true 28 (.take false 1 (.take false 13 (.take true 14 (.take false 18 (.take true 19 (.take true 20 (.take false 26 (.br (.cons 3 (.br (.cons 5 (.take true 6 (.br (.cons 8 (.take true 9 (.take true 10 (.take true 21 (.take true 27 (.take true 29 (.take true 30 (.done))))))) (.nil)))) (.nil))) (.nil)))))))))))))))))))))))
  | 15 => .take true 0 (.take true 2 (.take true 5 (.take true 8 (.take true 9 (.take true 12 (.take true 13 (.take true 17 (.take true 19 (.take false 10 (.take true 11 (.take false 14 (.take true 15 (.take true 16 (.take false 18 (.take false 20 (.take true 21 (.take true 22 (.br (.cons 1 (.br (.cons 3 (.take true 4 (.br (.cons 6 (.take true 7 (.take true 23 (.take true 24 (.done)))) (.nil)))) (.nil))) (.nil))))))))))))))))))))
  | 16 => .take false 0 (.take false 1 (.br (.cons 2 (.done) (.nil))))
  | 23 => .take true 0 (.take true 1 (.take true 2 (.take true 3 (.take true 5 (.take true 6 (.take true 9 (.take false 4 (.take false 7 (.take true 8 (.take true 10 (.br (.cons 11 (.done) (.nil)))))))))))))
  | _ => .done
def pl257 : Nat → Tr := fun _ => .done
/-- slices.Chunk[[]byte,byte]$1 -/
def pl258 : Nat → Tr
  | 3 => .take true 2 (.take false 0 (.take false 1 (.take false 3 (.take false 4 (.take false 5 (.take true 6 (.done)))))))
  | _ => .done
def pl259 : Nat → Tr := fun _ => .done
def pl260 : Nat → Tr := fun _ => .done
/-- (*strongbox/curve.group).unpack -/
def pl261 : Nat → Tr
  | 4 => .take true 0 (.take true 1 (.take true 2 (.take false 3 (.br (.cons 4 (.take true 5 (.done)) (.nil))))))
  | 6 => .take true 0 (.take true 2 (.take true 3 (.take false 1 (.take false 4 (.take true 5 (.take false 6 (.br (.cons 7 (.take true 8 (.take true 9 (.br (.cons 10 (.take true 11 (.done)) (.nil))))) (.nil)))))))))
  | _ => .done
def pl262 : Nat → Tr := fun _ => .done
def pl263 : Nat → Tr := fun _ => .done
def pl264 : Nat → Tr := fun _ => .done
def pl265 : Nat → Tr := fun _ => .done
/-- strongbox/strongboxref12.Legacy -/
def pl266 : Nat → Tr
  | 10 => .take true 0 (.take true 2 (.take true 6 (.take true 8 (.take false 1 (.take true 3 (.take true 4 (.take false 5 (.take false 7 (.take true 9 (.take true 10 (.take false 11 (.take true 12 (.br (.cons 13 (.br (.cons 14 (.done) (.nil))) (.nil)))))))))))))))
  | _ => .done
/-- strongbox/strongboxref12.Witness region 24: 2 ways region 26: 10 ways region 27: 3 ways -/
def pl267 : Nat → Tr
  | 24 => .take true 0 (.take false 1 (.br (.cons 2 (.take false 3 (.br (.cons 4 (.take true 5 (.done)) (.nil)))) (.cons 3 (.br (.cons 2 (.br (.cons 4 (.take true 5 (.done)) (.nil))) (.nil))) (.nil)))))
  | 26 => .take true 0 (.take true 1 (.take true 5 (.take true 7 (.take false 2 (.br (.cons 3 (.br (.cons 4 (.take false 6 (.take true 8 (.take true 9 (.take false 10 (.take false 11 (.br (.cons 12 (.br (.cons 13 (.take true 14 (.done)) (.nil))) (.nil)))))))) (.cons 6 (.take true 8 (.take true 9 (.br (.cons 4 (.take false 10 (.take false 11 (.br (.cons 12 (.br (.cons 13 (.take true 14 (.done)) (.nil))) (.nil))))) (.cons 10 (.br (.cons 4 (.take false 11 (.br (.cons 12 (.br (.cons 13 (.take true 14 (.done)) (.nil))) (.nil)))) (.cons 11 (.br (.cons 4 (.br (.cons 12 (.br (.cons 13 (.take true 14 (.done)) (.nil))) (.nil))) (.nil))) (.nil)))) (.nil)))))) (.nil)))) (.cons 6 (.take true 8 (.take true 9 (.br (.cons 3 (.br (.cons 4 (.take false 10 (.take false 11 (.br (.cons 12 (.br (.cons 13 (.take true 14 (.done)) (.nil))) (.nil))))) (.cons 10 (.br (.cons 4 (.take false 11 (.br (.cons 12 (.br (.cons 13 (.take true 14 (.done)) (.nil))) (.nil)))) (.cons 11 (.br (.cons 4 (.br (.cons 12 (.br (.cons 13 (.take true 14 (.done)) (.nil))) (.nil))) (.nil))) (.nil)))) (.nil)))) (.cons 10 (.br (.cons 3 (.br (.cons 4 (.take false 11 (.br (.cons 12 (.br (.cons 13 (.take true 14 (.done)) (.nil))) (.nil)))) (.cons 11 (.br (.cons 4 (.br (.cons 12 (.br (.cons 13 (.take true 14 (.done)) (.nil))) (.nil))) (.nil))) (.nil)))) (.cons 11 (.br (.cons 3 (.br (.cons 4 (.br (.cons 12 (.br (.cons 13 (.take true 14 (.done)) (.nil))) (.nil))) (.nil))) (.nil))) (.nil)))) (.nil)))))) (.nil))))))))
  | 27 => .take true 0 (.take true 3 (.take false 1 (.br (.cons 2 (.take false 4 (.take false 5 (.br (.cons 6 (.br (.cons 7 (.take true 8 (.done)) (.nil))) (.nil))))) (.cons 4 (.br (.cons 2 (.take false 5 (.br (.cons 6 (.br (.cons 7 (.take true 8 (.done)) (.nil))) (.nil)))) (.cons 5 (.br (.cons 2 (.br (.cons 6 (.br (.cons 7 (.take true 8 (.done)) (.nil))) (.nil))) (.nil))) (.nil)))) (.nil))))))
  | _ => .done
/-- strongbox/strongboxref05.Verify region 8: 3 ways region 9: 12 ways -/
def pl268 : Nat → Tr
  | 8 => .take false 0 (.br (.cons 1 (.br (.cons 2 (.br (.cons 3 (.br (.cons 4 (.done) (.nil))) (.nil))) (.cons 3 (.br (.cons 2 (.br (.cons 4 (.done) (.nil))) (.nil))) (.nil)))) (.cons 3 (.br (.cons 1 (.br (.cons 2 (.br (.cons 4 (.done) (.nil))) (.nil))) (.nil))) (.nil))))
  | 9 => .take false 0 (.take false 4 (.take false 9 (.take false 10 (.take false 13 (.br (.cons 1 (.br (.cons 2 (.br (.cons 3 (.br (.cons 5 (.br (.cons 6 (.br (.cons 7 (.br (.cons 8 (.br (.cons 11 (.br (.cons 12 (.br (.cons 14 (.br (.cons 15 (.br (.cons 16 (.br (.cons 17 (.done) (.nil))) (.nil))) (.cons 16 (.br (.cons 15 (.br (.cons 17 (.done) (.nil))) (.nil))) (.nil)))) (.cons 16 (.br (.cons 14 (.br (.cons 15 (.br (.cons 17 (.done) (.nil))) (.nil))) (.nil))) (.nil)))) (.cons 16 (.br (.cons 12 (.br (.cons 14 (.br (.cons 15 (.br (.cons 17 (.done) (.nil))) (.nil))) (.nil))) (.nil))) (.nil)))) (.cons 16 (.br (.cons 11 (.br (.cons 12 (.br (.cons 14 (.br (.cons 15 (.br (.cons 17 (.done) (.nil))) (.nil))) (.nil))) (.nil))) (.nil))) (.nil)))) (.cons 16 (.br (.cons 8 (.br (.cons 11 (.br (.cons 12 (.br (.cons 14 (.br (.cons 15 (.br (.cons 17 (.done) (.nil))) (.nil))) (.nil))) (.nil))) (.nil))) (.nil))) (.nil)))) (.cons 16 (.br (.cons 7 (.br (.cons 8 (.br (.cons 11 (.br (.cons 12 (.br (.cons 14 (.br (.cons 15 (.br (.cons 17 (.done) (.nil))) (.nil))) (.nil))) (.nil))) (.nil))) (.nil))) (.nil))) (.nil)))) (.cons 16 (.br (.cons 6 (.br (.cons 7 (.br (.cons 8 (.br (.cons 11 (.br (.cons 12 (.br (.cons 14 (.br (.cons 15 (.br (.cons 17 (.done) (.nil))) (.nil))) (.nil))) (.nil))) (.nil))) (.nil))) (.nil))) (.nil))) (.nil)))) (.cons 16 (.br (.cons 5 (.br (.cons 6 (.br (.cons 7 (.br (.cons 8 (.br (.cons 11 (.br (.cons 12 (.br (.cons 14 (.br (.cons 15 (.br (.cons 17 (.done) (.nil))) (.nil))) (.nil))) (.nil))) (.nil))) (.nil))) (.nil))) (.nil))) (.nil))) (.nil)))) (.cons 16 (.br (.cons 3 (.br (.cons 5 (.br (.cons 6 (.br (.cons 7 (.br (.cons 8 (.br (.cons 11 (.br (.cons 12 (.br (.cons 14 (.br (.cons 15 (.br (.cons 17 (.done) (.nil))) (.nil))) (.nil))) (.nil))) (.nil))) (.nil))) (.nil))) (.nil))) (.nil))) (.nil))) (.nil)))) (.cons 16 (.br (.cons 2 (.br (.cons 3 (.br (.cons 5 (.br (.cons 6 (.br (.cons 7 (.br (.cons 8 (.br (.cons 11 (.br (.cons 12 (.br (.cons 14 (.br (.cons 15 (.br (.cons 17 (.done) (.nil))) (.nil))) (.nil))) (.nil))) (.nil))) (.nil))) (.nil))) (.nil))) (.nil))) (.nil))) (.nil))) (.nil)))) (.cons 16 (.br (.cons 1 (.br (.cons 2 (.br (.cons 3 (.br (.cons 5 (.br (.cons 6 (.br (.cons 7 (.br (.cons 8 (.br (.cons 11 (.br (.cons 12 (.br (.cons 14 (.br (.cons 15 (.br (.cons 17 (.done) (.nil))) (.nil))) (.nil))) (.nil))) (.nil))) (.nil))) (.nil))) (.nil))) (.nil))) (.nil))) (.nil))) (.nil))) (.nil))))))))
  | 13 => .take false 0 (.take false 3 (.br (.cons 1 (.br (.cons 2 (.take true 4 (.take true 5 (.done))) (.nil))) (.nil))))
  | _ => .done
def pl269 : Nat → Tr := fun _ => .done
def pl270 : Nat → Tr := fun _ => .done
/-- slices.Reverse[[][]byte,[]byte] -/
def pl271 : Nat → Tr
  | 3 => .take true 0 (.take true 1 (.take true 2 (.take true 3 (.take true 4 (.take true 5 (.take true 6 (.take true 8 (.take true 9 (.take true 10 (.take false 7 (.take false 11 (.take true 12 (.br (.cons 13 (.take true 14 (.br (.cons 15 (.done) (.nil)))) (.nil)))))))))))))))
  | _ => .done
def pl272 : Nat → Tr := fun _ => .done
def pl273 : Nat → Tr := fun _ => .done
/-- strongbox/strongboxref09.Encode region 5: 3 ways -/
def pl274 : Nat → Tr
  | 5 => .take true 0 (.take false 1 (.br (.cons 2 (.br (.cons 3 (.take false 4 (.br (.cons 5 (.br (.cons 6 (.take true 7 (.done)) (.nil))) (.nil)))) (.cons 4 (.br (.cons 3 (.br (.cons 5 (.br (.cons 6 (.take true 7 (.done)) (.nil))) (.nil))) (.nil))) (.nil)))) (.cons 4 (.br (.cons 2 (.br (.cons 3 (.br (.cons 5 (.br (.cons 6 (.take true 7 (.done)) (.nil))) (.nil))) (.nil))) (.nil))) (.nil)))))
  | _ => .done
/-- strongbox/strongboxref12.place region 1: 6 ways -/
def pl275 : Nat → Tr
  | 1 => .take true 1 (.take true 4 (.take false 2 (.br (.cons 0 (.br (.cons 3 (.take false 5 (.take false 6 (.br (.cons 7 (.br (.cons 8 (.take true 9 (.done)) (.nil))) (.nil))))) (.cons 5 (.br (.cons 3 (.take false 6 (.br (.cons 7 (.br (.cons 8 (.take true 9 (.done)) (.nil))) (.nil)))) (.cons 6 (.br (.cons 3 (.br (.cons 7 (.br (.cons 8 (.take true 9 (.done)) (.nil))) (.nil))) (.nil))) (.nil)))) (.nil)))) (.cons 5 (.br (.cons 0 (.br (.cons 3 (.take false 6 (.br (.cons 7 (.br (.cons 8 (.take true 9 (.done)) (.nil))) (.nil)))) (.cons 6 (.br (.cons 3 (.br (.cons 7 (.br (.cons 8 (.take true 9 (.done)) (.nil))) (.nil))) (.nil))) (.nil)))) (.cons 6 (.br (.cons 0 (.br (.cons 3 (.br (.cons 7 (.br (.cons 8 (.take true 9 (.done)) (.nil))) (.nil))) (.nil))) (.nil))) (.nil)))) (.nil))))))
  | _ => .done
def pl276 : Nat → Tr := fun _ => .done
def pl277 : Nat → Tr := fun _ => .done
/-- strongbox/strongboxref05.Unpack -/
def pl278 : Nat → Tr
  | 3 => .take true 0 (.take true 3 (.take true 4 (.take false 1 (.take false 5 (.take true 6 (.br (.cons 2 (.br (.cons 7 (.take true 8 (.take true 9 (.br (.cons 10 (.take true 11 (.done)) (.nil))))) (.nil))) (.nil))))))))
  | _ => .done
/-- strongbox/strongboxref05.Of -/
def pl279 : Nat → Tr
  | 5 => .take true 0 (.take true 1 (.take true 2 (.take true 3 (.take true 4 (.take true 5 (.take true 6 (.take true 9 (.take true 10 (.take true 11 (.take false 7 (.take true 8 (.take false 12 (.take false 13 (.take true 14 (.take true 15 (.br (.cons 16 (.done) (.nil))))))))))))))))))
  | _ => .done
/-- strongbox/strongboxref05.Key -/
def pl280 : Nat → Tr
  | 1 => .take true 1 (.take false 0 (.take true 2 (.take true 3 (.take false 4 (.br (.cons 5 (.br (.cons 6 (.take true 7 (.take true 8 (.done))) (.nil))) (.nil)))))))
  | _ => .done
/-- strongbox/strongboxref05.Inverse -/
def pl281 : Nat → Tr
  | 1 => .take true 2 (.take false 0 (.take false 1 (.take false 4 (.br (.cons 3 (.br (.cons 5 (.br (.cons 6 (.done) (.nil))) (.nil))) (.nil))))))
  | _ => .done
def pl282 : Nat → Tr := fun _ => .done
/-- strongbox/strongboxref05.Plus region 6: 6 ways region 7: 6 ways region 8: 6 ways region 14: 4 ways -/
def pl283 : Nat → Tr
  | 6 => .take true 0 (.take true 2 (.take true 6 (.take true 8 (.take false 1 (.take false 3 (.take false 4 (.take false 7 (.take false 9 (.take false 10 (.take false 12 (.take false 14 (.take false 15 (.take false 16 (.take false 18 (.br (.cons 5 (.br (.cons 11 (.br (.cons 13 (.br (.cons 17 (.br (.cons 19 (.br (.cons 20 (.br (.cons 21 (.done) (.nil))) (.nil))) (.cons 20 (.br (.cons 19 (.br (.cons 21 (.done) (.nil))) (.nil))) (.nil)))) (.cons 20 (.br (.cons 17 (.br (.cons 19 (.br (.cons 21 (.done) (.nil))) (.nil))) (.nil))) (.nil)))) (.cons 20 (.br (.cons 13 (.br (.cons 17 (.br (.cons 19 (.br (.cons 21 (.done) (.nil))) (.nil))) (.nil))) (.nil))) (.nil)))) (.cons 20 (.br (.cons 11 (.br (.cons 13 (.br (.cons 17 (.br (.cons 19 (.br (.cons 21 (.done) (.nil))) (.nil))) (.nil))) (.nil))) (.nil))) (.nil)))) (.cons 20 (.br (.cons 5 (.br (.cons 11 (.br (.cons 13 (.br (.cons 17 (.br (.cons 19 (.br (.cons 21 (.done) (.nil))) (.nil))) (.nil))) (.nil))) (.nil))) (.nil))) (.nil))))))))))))))))))
  | 7 => .take true 0 (.take true 2 (.take true 6 (.take true 8 (.take false 1 (.take false 3 (.take false 4 (.take false 7 (.take false 9 (.take false 10 (.take false 12 (.take false 14 (.take false 15 (.take false 16 (.take false 18 (.br (.cons 5 (.br (.cons 11 (.br (.cons 13 (.br (.cons 17 (.br (.cons 19 (.br (.cons 20 (.br (.cons 21 (.done) (.nil))) (.nil))) (.cons 20 (.br (.cons 19 (.br (.cons 21 (.done) (.nil))) (.nil))) (.nil)))) (.cons 20 (.br (.cons 17 (.br (.cons 19 (.br (.cons 21 (.done) (.nil))) (.nil))) (.nil))) (.nil)))) (.cons 20 (.br (.cons 13 (.br (.cons 17 (.br (.cons 19 (.br (.cons 21 (.done) (.nil))) (.nil))) (.nil))) (.nil))) (.nil)))) (.cons 20 (.br (.cons 11 (.br (.cons 13 (.br (.cons 17 (.br (.cons 19 (.br (.cons 21 (.done) (.nil))) (.nil))) (.nil))) (.nil))) (.nil))) (.nil)))) (.cons 20 (.br (.cons 5 (.br (.cons 11 (.br (.cons 13 (.br (.cons 17 (.br (.cons 19 (.br (.cons 21 (.done) (.nil))) (.nil))) (.nil))) (.nil))) (.nil))) (.nil))) (.nil))))))))))))))))))
  | 8 => .take true 0 (.take true 2 (.take true 6 (.take true 8 (.take false 1 (.take false 3 (.take false 4 (.take false 7 (.take false 9 (.take false 10 (.take false 12 (.take false 14 (.take false 15 (.take false 16 (.take false 18 (.br (.cons 5 (.br (.cons 11 (.br (.cons 13 (.br (.cons 17 (.br (.cons 19 (.br (.cons 20 (.br (.cons 21 (.done) (.nil))) (.nil))) (.cons 20 (.br (.cons 19 (.br (.cons 21 (.done) (.nil))) (.nil))) (.nil)))) (.cons 20 (.br (.cons 17 (.br (.cons 19 (.br (.cons 21 (.done) (.nil))) (.nil))) (.nil))) (.nil)))) (.cons 20 (.br (.cons 13 (.br (.cons 17 (.br (.cons 19 (.br (.cons 21 (.done) (.nil))) (.nil))) (.nil))) (.nil))) (.nil)))) (.cons 20 (.br (.cons 11 (.br (.cons 13 (.br (.cons 17 (.br (.cons 19 (.br (.cons 21 (.done) (.nil))) (.nil))) (.nil))) (.nil))) (.nil))) (.nil)))) (.cons 20 (.br (.cons 5 (.br (.cons 11 (.br (.cons 13 (.br (.cons 17 (.br (.cons 19 (.br (.cons 21 (.done) (.nil))) (.nil))) (.nil))) (.nil))) (.nil))) (.nil))) (.nil))))))))))))))))))
  | 9 => .take false 0 (.take false 1 (.take false 2 (.take false 4 (.take false 5 (.br (.cons 3 (.br (.cons 6 (.br (.cons 7 (.done) (.nil))) (.nil))) (.nil)))))))
  | 14 => .take false 0 (.take false 1 (.take false 2 (.take false 4 (.take false 5 (.take false 6 (.take false 8 (.br (.cons 3 (.br (.cons 7 (.br (.cons 9 (.br (.cons 10 (.br (.cons 11 (.done) (.nil))) (.nil))) (.cons 10 (.br (.cons 9 (.br (.cons 11 (.done) (.nil))) (.nil))) (.nil)))) (.cons 10 (.br (.cons 7 (.br (.cons 9 (.br (.cons 11 (.done) (.nil))) (.nil))) (.nil))) (.nil)))) (.cons 10 (.br (.cons 3 (.br (.cons 7 (.br (.cons 9 (.br (.cons 11 (.done) (.nil))) (.nil))) (.nil))) (.nil))) (.nil))))))))))
  | 15 => .take false 0 (.take false 1 (.take false 2 (.take false 3 (.take false 5 (.take false 6 (.take false 7 (.take false 9 (.take false 11 (.take false 12 (.take false 13 (.take false 15 (.take false 16 (.take false 17 (.take false 19 (.br (.cons 4 (.br (.cons 8 (.br (.cons 10 (.br (.cons 14 (.br (.cons 18 (.br (.cons 20 (.take true 21 (.br (.cons 22 (.done) (.nil)))) (.nil))) (.nil))) (.nil))) (.nil))) (.nil))) (.nil)))))))))))))))))
  | _ => .done
def pl284 : Nat → Tr := fun _ => .done
/-- strongbox/strongboxref05.Mul -/
def pl285 : Nat → Tr
  | 9 => .take true 0 (.take true 1 (.take true 4 (.take true 5 (.take true 9 (.take true 10 (.take true 11 (.take true 12 (.take true 16 (.take false 2 (.take false 3 (.take false 6 (.take false 7 (.take true 8 (.take false 13 (.take false 14 (.take true 15 (.take true 17 (.take true 18 (.done)))))))))))))))))))
  | _ => .done
def pl286 : Nat → Tr := fun _ => .done
def pl287 : Nat → Tr := fun _ => .done
/-- strongbox/strongboxref05.Flat region 1: 3 ways -/
def pl288 : Nat → Tr
  | 1 => .take true 0 (.take false 1 (.br (.cons 2 (.br (.cons 3 (.br (.cons 4 (.br (.cons 5 (.done) (.nil))) (.nil))) (.cons 4 (.br (.cons 3 (.br (.cons 5 (.done) (.nil))) (.nil))) (.nil)))) (.cons 4 (.br (.cons 2 (.br (.cons 3 (.br (.cons 5 (.done) (.nil))) (.nil))) (.nil))) (.nil)))))
  | 2 => .take true 0 (.take true 5 (.take false 1 (.take false 2 (.take false 6 (.take false 7 (.br (.cons 3 (.br (.cons 4 (.br (.cons 8 (.br (.cons 9 (.br (.cons 10 (.br (.cons 11 (.done) (.nil))) (.nil))) (.nil))) (.nil))) (.nil))) (.nil))))))))
  | _ => .done
def pl289 : Nat → Tr := fun _ => .done
def pl290 : Nat → Tr := fun _ => .done
def pl291 : Nat → Tr := fun _ => .done
def pl292 : Nat → Tr := fun _ => .done
/-- strongbox/strongboxref05.Less -/
def pl293 : Nat → Tr
  | 4 => .take true 0 (.take true 1 (.take true 3 (.take true 4 (.take false 2 (.take false 5 (.take true 6 (.done)))))))
  | 5 => .take true 0 (.take true 1 (.take true 3 (.take true 4 (.take false 2 (.take false 5 (.take true 6 (.take true 7 (.done))))))))
  | _ => .done
def pl294 : Nat → Tr := fun _ => .done
/-- strongbox/strongboxref05.Lift region 2: 4 ways -/
def pl295 : Nat → Tr
  | 2 => .take true 7 (.take false 0 (.take false 1 (.take false 2 (.take false 4 (.take false 5 (.take false 8 (.br (.cons 3 (.br (.cons 6 (.br (.cons 9 (.br (.cons 10 (.br (.cons 11 (.done) (.nil))) (.nil))) (.cons 10 (.br (.cons 9 (.br (.cons 11 (.done) (.nil))) (.nil))) (.nil)))) (.cons 10 (.br (.cons 6 (.br (.cons 9 (.br (.cons 11 (.done) (.nil))) (.nil))) (.nil))) (.nil)))) (.cons 10 (.br (.cons 3 (.br (.cons 6 (.br (.cons 9 (.br (.cons 11 (.done) (.nil))) (.nil))) (.nil))) (.nil))) (.nil))))))))))
  | 22 => .take false 0 (.take false 1 (.take false 2 (.take false 4 (.br (.cons 3 (.take true 5 (.done)) (.nil))))))
  | _ => .done
def pl296 : Nat → Tr := fun _ => .done
/-- strongbox/strongboxref05.minus -/
def pl297 : Nat → Tr
  | 6 => .take true 0 (.take true 1 (.take true 4 (.take true 5 (.take true 9 (.take false 2 (.take false 3 (.take false 6 (.take false 7 (.take true 8 (.take true 10 (.take true 11 (.done))))))))))))
  | _ => .done
/-- strongbox/strongboxref05.Sub -/
def pl298 : Nat → Tr
  | 2 => .take false 0 (.take false 1 (.take false 2 (.br (.cons 3 (.br (.cons 4 (.br (.cons 5 (.done) (.nil))) (.nil))) (.nil)))))
  | _ => .done
/-- strongbox/strongboxref05.Add -/
def pl299 : Nat → Tr
  | 6 => .take true 0 (.take true 1 (.take true 4 (.take true 5 (.take true 9 (.take false 2 (.take false 3 (.take false 6 (.take false 7 (.take true 8 (.take true 10 (.take true 11 (.done))))))))))))
  | _ => .done
def pl300 : Nat → Tr := fun _ => .done
def pl301 : Nat → Tr := fun _ => .done
/-- strongbox/strongboxref05.reduce -/
def pl302 : Nat → Tr
  | 23 => .take true 0 (.take true 1 (.take true 4 (.take true 5 (.take true 9 (.take true 10 (.take true 11 (.take true 12 (.take true 13 (.take true 17 (.take false 2 (.take false 3 (.take false 6 (.take false 7 (.take true 8 (.take false 14 (.take false 15 (.take true 16 (.take true 18 (.take true 19 (.done))))))))))))))))))))
  | _ => .done
end Go.Sx
