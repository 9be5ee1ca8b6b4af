import Derived.Test.YtbpggglkmdgpoaaGreatVmTy
set_option linter.all false
set_option linter.unusedSimpArgs false
set_option linter.unusedVariables false
namespace Go.Sx
open Go Go.Proofs
set_option maxRecDepth 100000
theorem pure30 (c : List SV) (hc : closedL c) (hb : c.length ≤ 1099511627776) : Pure Tryz.prog 30 [.rs c.length c] (.rs c.length c) := by
  refine Pure.of_tri (Tri.enter lib0 pl30 0 false 0 0 100000 Tryz.func30 (by kernel_rfl) (by simp [Tryz.f30]) (by intro k e h; simp at h <;> omega) ?_)
  (conv => whnf)
  refine ⟨?_, ?_⟩
  · intro h
    have hb0 : c = [] := List.length_eq_zero_iff.1 (h rfl)
    subst hb0
    (conv => whnf)
    exact ⟨_, rfl, .inr ⟨rfl, rfl⟩⟩
  · intro h
    ((conv => whnf); repeat' ((first | refine @And.intro (goO _ _) _ ?_ ?_ | refine And.intro (by (first | exact of_decide_eq_true rfl | exact trivial | omega | (simp; done) | (simp [-Int.natCast_add, oneOf, contC, cont, mget, lendsC, lendC, closedL, closed, flat, flatL, is8_map, is32_map, is64_map, closedL_w8, closedL_w32, closedL_w64, flatL_w8, flatL_w32, flatL_w64, closedL_append, flatL_append, mx0, slc, closedL_tk, closedL_dp]; done) | (simp [-Int.natCast_add, oneOf, contC, cont, mget, lendsC, lendC, closedL, closed, flat, flatL, is8_map, is32_map, is64_map, closedL_w8, closedL_w32, closedL_w64, flatL_w8, flatL_w32, flatL_w64, closedL_append, flatL_append, mx0, slc, closedL_tk, closedL_dp]; omega) | (simp [-Int.natCast_add, oneOf, contC, cont, mget, lendsC, lendC, closedL, closed, flat, flatL, is8_map, is32_map, is64_map, closedL_w8, closedL_w32, closedL_w64, flatL_w8, flatL_w32, flatL_w64, closedL_append, flatL_append, mx0, slc, closedL_tk, closedL_dp, spl]; done) | (simp [-Int.natCast_add, oneOf, contC, cont, mget, lendsC, lendC, closedL, closed, flat, flatL, is8_map, is32_map, is64_map, closedL_w8, closedL_w32, closedL_w64, flatL_w8, flatL_w32, flatL_w64, closedL_append, flatL_append, mx0, slc, closedL_tk, closedL_dp, spl]; omega) | ((repeat' apply And.intro) <;> first | exact trivial | rfl | omega | assumption | (simp [-Int.natCast_add, oneOf, contC, cont, mget, lendsC, lendC, closedL, closed, flat, flatL, is8_map, is32_map, is64_map, closedL_w8, closedL_w32, closedL_w64, flatL_w8, flatL_w32, flatL_w64, closedL_append, flatL_append, mx0, slc, closedL_tk, closedL_dp]; done) | exact of_decide_eq_true (by kernel_rfl) | (show (_ : Nat) ≤ (_ : Nat); exact of_decide_eq_true (by kernel_rfl)) | (refine Or.inl ?_; (repeat' apply And.intro) <;> exact trivial) | (refine Or.inr ⟨rfl, ?_⟩; (repeat' apply And.intro) <;> first | exact trivial | (show (_ : Nat) ≤ (_ : Nat); omega) | (simp [-Int.natCast_add, oneOf, contC, cont, mget, lendsC, lendC, closedL, closed, flat, flatL, is8_map, is32_map, is64_map, closedL_w8, closedL_w32, closedL_w64, flatL_w8, flatL_w32, flatL_w64, closedL_append, flatL_append, mx0, slc, closedL_tk, closedL_dp]; done))))) ?_ | refine brP_t (by (first | rfl | (simp only [decide_eq_true_eq, decide_eq_false_iff_not, Bool.not_eq_true', Bool.not_eq_false', ne_eq]; first | omega | assumption) | (simp [-Int.natCast_add]; done) | (simp [-Int.natCast_add]; omega))) ?_ | refine brP_f (by (first | rfl | (simp only [decide_eq_true_eq, decide_eq_false_iff_not, Bool.not_eq_true', Bool.not_eq_false', ne_eq]; first | omega | assumption) | (simp [-Int.natCast_add]; done) | (simp [-Int.natCast_add]; omega))) ?_) <;> (conv => whnf)))
    refine ⟨_, rfl, ?_⟩
    simp [oneOf, Seal, contC, mget, closedL_append, slc, closedL, hc]
def g30 : List SV → Option (Prop × SV)
  | [.rs n c] => some (c.length = n ∧ closedL c ∧ n ≤ 1099511627776, .rs n c)
  | _ => none
def c30 : Con Tryz.prog := ⟨30, g30, gok Tryz.call30 fun args p r h hp => by
  unfold g30 at h
  split at h <;> cases h
  rename_i n c
  obtain ⟨rfl, h1, h2⟩ := hp
  exact pure30 c h1 h2⟩

def Lc30 : Lib Tryz.prog := lib0.addC c30

def m28 : Met Tryz.prog := Met.inl Lc30 28 Tryz.f28 pl28 0 false 0 100000 Tryz.func28 Tryz.call28 (by kernel_rfl)
def L28 : Lib Tryz.prog := Lc30.addM m28

def m29 : Met Tryz.prog := Met.inl L28 29 Tryz.f29 pl29 0 false 0 100000 Tryz.func29 Tryz.call29 (by kernel_rfl)
def L29 : Lib Tryz.prog := L28.addM m29

def m86 : Met Tryz.prog := Met.inl L29 86 Tryz.f86 pl86 0 false 0 100000 Tryz.func86 Tryz.call86 (by kernel_rfl)
def L86 : Lib Tryz.prog := L29.addM m86

def m57 : Met Tryz.prog := Met.inl L86 57 Tryz.f57 pl57 0 false 0 100000 Tryz.func57 Tryz.call57 (by kernel_rfl)
def L57 : Lib Tryz.prog := L86.addM m57

def m37 : Met Tryz.prog := Met.inl L57 37 Tryz.f37 pl37 0 false 0 100000 Tryz.func37 Tryz.call37 (by kernel_rfl)
def L37 : Lib Tryz.prog := L57.addM m37

def m38 : Met Tryz.prog := Met.inl L37 38 Tryz.f38 pl38 0 false 0 100000 Tryz.func38 Tryz.call38 (by kernel_rfl)
def L38 : Lib Tryz.prog := L37.addM m38

def m39 : Met Tryz.prog := Met.inl L38 39 Tryz.f39 pl39 0 false 0 100000 Tryz.func39 Tryz.call39 (by kernel_rfl)
def L39 : Lib Tryz.prog := L38.addM m39

def m192 : Met Tryz.prog := Met.inl L39 192 Tryz.f192 pl192 0 false 0 100000 Tryz.func192 Tryz.call192 (by kernel_rfl)
def L192 : Lib Tryz.prog := L39.addM m192

def m185 : Met Tryz.prog := Met.inl L192 185 Tryz.f185 pl185 9 false 0 100000 Tryz.func185 Tryz.call185 (by kernel_rfl)
def L185 : Lib Tryz.prog := L192.addM m185

def m184 : Met Tryz.prog := Met.inl L185 184 Tryz.f184 pl184 0 false 0 100000 Tryz.func184 Tryz.call184 (by kernel_rfl)
def L184 : Lib Tryz.prog := L185.addM m184

def m187 : Met Tryz.prog := Met.inl L184 187 Tryz.f187 pl187 0 false 0 100000 Tryz.func187 Tryz.call187 (by kernel_rfl)
def L187 : Lib Tryz.prog := L184.addM m187

def m189 : Met Tryz.prog := Met.inl L187 189 Tryz.f189 pl189 0 false 0 100000 Tryz.func189 Tryz.call189 (by kernel_rfl)
def L189 : Lib Tryz.prog := L187.addM m189

def m191 : Met Tryz.prog := Met.inl L189 191 Tryz.f191 pl191 0 false 0 100000 Tryz.func191 Tryz.call191 (by kernel_rfl)
def L191 : Lib Tryz.prog := L189.addM m191

def d243 : Dfr Tryz.prog := Dfr.inl L191 243 Tryz.f243 pl243 100000 Tryz.func243 Tryz.call243 (by rfl) (by rfl) (by kernel_rfl) (by decide)
def L243 : Lib Tryz.prog := L191.addF d243

def d244 : Dfr Tryz.prog := Dfr.inl L243 244 Tryz.f244 pl244 100000 Tryz.func244 Tryz.call244 (by rfl) (by rfl) (by kernel_rfl) (by decide)
def L244 : Lib Tryz.prog := L243.addF d244

def d245 : Dfr Tryz.prog := Dfr.inl L244 245 Tryz.f245 pl245 100000 Tryz.func245 Tryz.call245 (by rfl) (by rfl) (by kernel_rfl) (by decide)
def L245 : Lib Tryz.prog := L244.addF d245

def d246 : Dfr Tryz.prog := Dfr.inl L245 246 Tryz.f246 pl246 100000 Tryz.func246 Tryz.call246 (by rfl) (by rfl) (by kernel_rfl) (by decide)
def L246 : Lib Tryz.prog := L245.addF d246

def m183 : Met Tryz.prog := Met.inl L246 183 Tryz.f183 pl183 0 true 0 100000 Tryz.func183 Tryz.call183 (by kernel_rfl)
def L183 : Lib Tryz.prog := L246.addM m183

def m186 : Met Tryz.prog := Met.inl L183 186 Tryz.f186 pl186 0 true 0 100000 Tryz.func186 Tryz.call186 (by kernel_rfl)
def L186 : Lib Tryz.prog := L183.addM m186

def m188 : Met Tryz.prog := Met.inl L186 188 Tryz.f188 pl188 0 true 0 100000 Tryz.func188 Tryz.call188 (by kernel_rfl)
def L188 : Lib Tryz.prog := L186.addM m188

def m190 : Met Tryz.prog := Met.inl L188 190 Tryz.f190 pl190 0 true 0 100000 Tryz.func190 Tryz.call190 (by kernel_rfl)
def L190 : Lib Tryz.prog := L188.addM m190

def m94 : Met Tryz.prog := Met.inl L190 94 Tryz.f94 pl94 0 false 0 100000 Tryz.func94 Tryz.call94 (by kernel_rfl)
def L94 : Lib Tryz.prog := L190.addM m94

def m95 : Met Tryz.prog := Met.inl L94 95 Tryz.f95 pl95 0 false 0 100000 Tryz.func95 Tryz.call95 (by kernel_rfl)
def L95 : Lib Tryz.prog := L94.addM m95

def m96 : Met Tryz.prog := Met.inl L95 96 Tryz.f96 pl96 0 false 0 100000 Tryz.func96 Tryz.call96 (by kernel_rfl)
def L96 : Lib Tryz.prog := L95.addM m96

def m97 : Met Tryz.prog := Met.inl L96 97 Tryz.f97 pl97 0 false 0 100000 Tryz.func97 Tryz.call97 (by kernel_rfl)
def L97 : Lib Tryz.prog := L96.addM m97

def m40 : Met Tryz.prog := Met.inl L97 40 Tryz.f40 pl40 0 false 0 100000 Tryz.func40 Tryz.call40 (by kernel_rfl)
def L40 : Lib Tryz.prog := L97.addM m40

theorem sl64_0 (c : UInt8) : sl64 c.toUInt64 (wi (8 * 0)).toNat = c.toUInt64 := by
  unfold sl64; simp [wi, IntKind.wrap, IntKind.bits, IntKind.signed]
theorem num1 (c : UInt8) : (UInt64.ofNat (Int.toNat 0) ||| sl64 c.toUInt64 (wi (8 * 0)).toNat).toUInt8 = c := by
  rw [sl64_0]; simp
theorem slc8_take (l : List UInt8) (n : Nat) : slc (b8 l) 0 n = b8 (l.take n) := by
  show slc (l.map SV.w8) 0 n = _
  rw [slc_w8]; simp
theorem slc8_drop (l : List UInt8) (o n : Nat) (h : o + n = l.length) : slc (b8 l) o n = b8 (l.drop o) := by
  show slc (l.map SV.w8) o n = _
  rw [slc_w8, List.take_of_length_le (by simp; omega)]
end Go.Sx
