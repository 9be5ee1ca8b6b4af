/-
  Vg: vm.Run on the two scripts that awake asks.
-/
import Derived.Test.YtbpggglkmdgpoaaGreatVf
set_option linter.all false
set_option linter.unusedSimpArgs false
set_option linter.unusedVariables false
namespace Go.Sx
namespace Aw
open Go Go.Proofs
set_option maxRecDepth 100000

theorem pure210_1 : Pure Tryz.prog 210 [.int 1] (.rs 1 [.w8 (UInt8.ofInt 1)]) := by
  refine Pure.of_tri (Tri.enter Lc31 pl210 6 false 0 0 100000 Tryz.func210 (by kernel_rfl) (by simp [Tryz.f210]) (by intro k e h; simp at h <;> omega) ?_)
  ((conv => whnf); repeat' ((first | refine @And.intro (goO _ _) _ ?_ ?_ | refine And.intro (by (first | exact of_decide_eq_true rfl | exact trivial | omega | (simp; done) | (simp [-Int.natCast_add, oneOf, contC, cont, mget, lendsC, lendC, closedL, closed, flat, flatL, is8_map, is32_map, is64_map, closedL_w8, closedL_w32, closedL_w64, flatL_w8, flatL_w32, flatL_w64, closedL_append, flatL_append, mx0, slc, closedL_tk, closedL_dp]; done) | (simp [-Int.natCast_add, oneOf, contC, cont, mget, lendsC, lendC, closedL, closed, flat, flatL, is8_map, is32_map, is64_map, closedL_w8, closedL_w32, closedL_w64, flatL_w8, flatL_w32, flatL_w64, closedL_append, flatL_append, mx0, slc, closedL_tk, closedL_dp]; omega) | (simp [-Int.natCast_add, oneOf, contC, cont, mget, lendsC, lendC, closedL, closed, flat, flatL, is8_map, is32_map, is64_map, closedL_w8, closedL_w32, closedL_w64, flatL_w8, flatL_w32, flatL_w64, closedL_append, flatL_append, mx0, slc, closedL_tk, closedL_dp, spl]; done) | (simp [-Int.natCast_add, oneOf, contC, cont, mget, lendsC, lendC, closedL, closed, flat, flatL, is8_map, is32_map, is64_map, closedL_w8, closedL_w32, closedL_w64, flatL_w8, flatL_w32, flatL_w64, closedL_append, flatL_append, mx0, slc, closedL_tk, closedL_dp, spl]; omega) | ((repeat' apply And.intro) <;> first | exact trivial | rfl | omega | assumption | (simp [-Int.natCast_add, oneOf, contC, cont, mget, lendsC, lendC, closedL, closed, flat, flatL, is8_map, is32_map, is64_map, closedL_w8, closedL_w32, closedL_w64, flatL_w8, flatL_w32, flatL_w64, closedL_append, flatL_append, mx0, slc, closedL_tk, closedL_dp]; done) | exact of_decide_eq_true (by kernel_rfl) | (show (_ : Nat) ≤ (_ : Nat); exact of_decide_eq_true (by kernel_rfl)) | (refine Or.inl ?_; (repeat' apply And.intro) <;> exact trivial) | (refine Or.inr ⟨rfl, ?_⟩; (repeat' apply And.intro) <;> first | exact trivial | (show (_ : Nat) ≤ (_ : Nat); omega) | (simp [-Int.natCast_add, oneOf, contC, cont, mget, lendsC, lendC, closedL, closed, flat, flatL, is8_map, is32_map, is64_map, closedL_w8, closedL_w32, closedL_w64, flatL_w8, flatL_w32, flatL_w64, closedL_append, flatL_append, mx0, slc, closedL_tk, closedL_dp]; done))))) ?_ | refine brP_t (by (first | rfl | (simp only [decide_eq_true_eq, decide_eq_false_iff_not, Bool.not_eq_true', Bool.not_eq_false', ne_eq]; first | omega | assumption) | (simp [-Int.natCast_add]; done) | (simp [-Int.natCast_add]; omega))) ?_ | refine brP_f (by (first | rfl | (simp only [decide_eq_true_eq, decide_eq_false_iff_not, Bool.not_eq_true', Bool.not_eq_false', ne_eq]; first | omega | assumption) | (simp [-Int.natCast_add]; done) | (simp [-Int.natCast_add]; omega))) ?_) <;> (conv => whnf)))
  refine ⟨_, rfl, ?_⟩
  simp [oneOf, Seal, contC, mget, closedL, closed, slc, spl]
theorem pure210_2 : Pure Tryz.prog 210 [.int 2] (.rs 1 [.w8 (UInt8.ofInt 2)]) := by
  refine Pure.of_tri (Tri.enter Lc31 pl210 6 false 0 0 100000 Tryz.func210 (by kernel_rfl) (by simp [Tryz.f210]) (by intro k e h; simp at h <;> omega) ?_)
  ((conv => whnf); repeat' ((first | refine @And.intro (goO _ _) _ ?_ ?_ | refine And.intro (by (first | exact of_decide_eq_true rfl | exact trivial | omega | (simp; done) | (simp [-Int.natCast_add, oneOf, contC, cont, mget, lendsC, lendC, closedL, closed, flat, flatL, is8_map, is32_map, is64_map, closedL_w8, closedL_w32, closedL_w64, flatL_w8, flatL_w32, flatL_w64, closedL_append, flatL_append, mx0, slc, closedL_tk, closedL_dp]; done) | (simp [-Int.natCast_add, oneOf, contC, cont, mget, lendsC, lendC, closedL, closed, flat, flatL, is8_map, is32_map, is64_map, closedL_w8, closedL_w32, closedL_w64, flatL_w8, flatL_w32, flatL_w64, closedL_append, flatL_append, mx0, slc, closedL_tk, closedL_dp]; omega) | (simp [-Int.natCast_add, oneOf, contC, cont, mget, lendsC, lendC, closedL, closed, flat, flatL, is8_map, is32_map, is64_map, closedL_w8, closedL_w32, closedL_w64, flatL_w8, flatL_w32, flatL_w64, closedL_append, flatL_append, mx0, slc, closedL_tk, closedL_dp, spl]; done) | (simp [-Int.natCast_add, oneOf, contC, cont, mget, lendsC, lendC, closedL, closed, flat, flatL, is8_map, is32_map, is64_map, closedL_w8, closedL_w32, closedL_w64, flatL_w8, flatL_w32, flatL_w64, closedL_append, flatL_append, mx0, slc, closedL_tk, closedL_dp, spl]; omega) | ((repeat' apply And.intro) <;> first | exact trivial | rfl | omega | assumption | (simp [-Int.natCast_add, oneOf, contC, cont, mget, lendsC, lendC, closedL, closed, flat, flatL, is8_map, is32_map, is64_map, closedL_w8, closedL_w32, closedL_w64, flatL_w8, flatL_w32, flatL_w64, closedL_append, flatL_append, mx0, slc, closedL_tk, closedL_dp]; done) | exact of_decide_eq_true (by kernel_rfl) | (show (_ : Nat) ≤ (_ : Nat); exact of_decide_eq_true (by kernel_rfl)) | (refine Or.inl ?_; (repeat' apply And.intro) <;> exact trivial) | (refine Or.inr ⟨rfl, ?_⟩; (repeat' apply And.intro) <;> first | exact trivial | (show (_ : Nat) ≤ (_ : Nat); omega) | (simp [-Int.natCast_add, oneOf, contC, cont, mget, lendsC, lendC, closedL, closed, flat, flatL, is8_map, is32_map, is64_map, closedL_w8, closedL_w32, closedL_w64, flatL_w8, flatL_w32, flatL_w64, closedL_append, flatL_append, mx0, slc, closedL_tk, closedL_dp]; done))))) ?_ | refine brP_t (by (first | rfl | (simp only [decide_eq_true_eq, decide_eq_false_iff_not, Bool.not_eq_true', Bool.not_eq_false', ne_eq]; first | omega | assumption) | (simp [-Int.natCast_add]; done) | (simp [-Int.natCast_add]; omega))) ?_ | refine brP_f (by (first | rfl | (simp only [decide_eq_true_eq, decide_eq_false_iff_not, Bool.not_eq_true', Bool.not_eq_false', ne_eq]; first | omega | assumption) | (simp [-Int.natCast_add]; done) | (simp [-Int.natCast_add]; omega))) ?_) <;> (conv => whnf)))
  refine ⟨_, rfl, ?_⟩
  simp [oneOf, Seal, contC, mget, closedL, closed, slc, spl]
theorem pure210_3 : Pure Tryz.prog 210 [.int 3] (.rs 1 [.w8 (UInt8.ofInt 3)]) := by
  refine Pure.of_tri (Tri.enter Lc31 pl210 6 false 0 0 100000 Tryz.func210 (by kernel_rfl) (by simp [Tryz.f210]) (by intro k e h; simp at h <;> omega) ?_)
  ((conv => whnf); repeat' ((first | refine @And.intro (goO _ _) _ ?_ ?_ | refine And.intro (by (first | exact of_decide_eq_true rfl | exact trivial | omega | (simp; done) | (simp [-Int.natCast_add, oneOf, contC, cont, mget, lendsC, lendC, closedL, closed, flat, flatL, is8_map, is32_map, is64_map, closedL_w8, closedL_w32, closedL_w64, flatL_w8, flatL_w32, flatL_w64, closedL_append, flatL_append, mx0, slc, closedL_tk, closedL_dp]; done) | (simp [-Int.natCast_add, oneOf, contC, cont, mget, lendsC, lendC, closedL, closed, flat, flatL, is8_map, is32_map, is64_map, closedL_w8, closedL_w32, closedL_w64, flatL_w8, flatL_w32, flatL_w64, closedL_append, flatL_append, mx0, slc, closedL_tk, closedL_dp]; omega) | (simp [-Int.natCast_add, oneOf, contC, cont, mget, lendsC, lendC, closedL, closed, flat, flatL, is8_map, is32_map, is64_map, closedL_w8, closedL_w32, closedL_w64, flatL_w8, flatL_w32, flatL_w64, closedL_append, flatL_append, mx0, slc, closedL_tk, closedL_dp, spl]; done) | (simp [-Int.natCast_add, oneOf, contC, cont, mget, lendsC, lendC, closedL, closed, flat, flatL, is8_map, is32_map, is64_map, closedL_w8, closedL_w32, closedL_w64, flatL_w8, flatL_w32, flatL_w64, closedL_append, flatL_append, mx0, slc, closedL_tk, closedL_dp, spl]; omega) | ((repeat' apply And.intro) <;> first | exact trivial | rfl | omega | assumption | (simp [-Int.natCast_add, oneOf, contC, cont, mget, lendsC, lendC, closedL, closed, flat, flatL, is8_map, is32_map, is64_map, closedL_w8, closedL_w32, closedL_w64, flatL_w8, flatL_w32, flatL_w64, closedL_append, flatL_append, mx0, slc, closedL_tk, closedL_dp]; done) | exact of_decide_eq_true (by kernel_rfl) | (show (_ : Nat) ≤ (_ : Nat); exact of_decide_eq_true (by kernel_rfl)) | (refine Or.inl ?_; (repeat' apply And.intro) <;> exact trivial) | (refine Or.inr ⟨rfl, ?_⟩; (repeat' apply And.intro) <;> first | exact trivial | (show (_ : Nat) ≤ (_ : Nat); omega) | (simp [-Int.natCast_add, oneOf, contC, cont, mget, lendsC, lendC, closedL, closed, flat, flatL, is8_map, is32_map, is64_map, closedL_w8, closedL_w32, closedL_w64, flatL_w8, flatL_w32, flatL_w64, closedL_append, flatL_append, mx0, slc, closedL_tk, closedL_dp]; done))))) ?_ | refine brP_t (by (first | rfl | (simp only [decide_eq_true_eq, decide_eq_false_iff_not, Bool.not_eq_true', Bool.not_eq_false', ne_eq]; first | omega | assumption) | (simp [-Int.natCast_add]; done) | (simp [-Int.natCast_add]; omega))) ?_ | refine brP_f (by (first | rfl | (simp only [decide_eq_true_eq, decide_eq_false_iff_not, Bool.not_eq_true', Bool.not_eq_false', ne_eq]; first | omega | assumption) | (simp [-Int.natCast_add]; done) | (simp [-Int.natCast_add]; omega))) ?_) <;> (conv => whnf)))
  refine ⟨_, rfl, ?_⟩
  simp [oneOf, Seal, contC, mget, closedL, closed, slc, spl]
def g210 : List SV → Option (Prop × SV)
  | [.int n] => some (n = 1 ∨ n = 2 ∨ n = 3, .rs 1 [.w8 (UInt8.ofInt n)])
  | _ => none
def c210 : Con Tryz.prog := ⟨210, g210, gok Tryz.call210 fun args p r h hp => by
  unfold g210 at h
  split at h <;> cases h
  rcases hp with rfl | rfl | rfl
  · exact pure210_1
  · exact pure210_2
  · exact pure210_3⟩
def Lc210 : Lib Tryz.prog := Lc31.addC c210

def m128 : Met Tryz.prog := Met.inl Lc210 128 Tryz.f128 pl128 0 false 0 100000 Tryz.func128 Tryz.call128 (by kernel_rfl)
def L128 : Lib Tryz.prog := Lc210.addM m128

def m127 : Met Tryz.prog := Met.inl L128 127 Tryz.f127 pl127 0 false 0 100000 Tryz.func127 Tryz.call127 (by kernel_rfl)
def L127 : Lib Tryz.prog := L128.addM m127

def m134 : Met Tryz.prog := Met.inl L127 134 Tryz.f134 pl134 0 false 0 100000 Tryz.func134 Tryz.call134 (by kernel_rfl)
def L134 : Lib Tryz.prog := L127.addM m134

def m136 : Met Tryz.prog := Met.inl L134 136 Tryz.f136 pl136 0 false 0 100000 Tryz.func136 Tryz.call136 (by kernel_rfl)
def L136 : Lib Tryz.prog := L134.addM m136

def m130 : Met Tryz.prog := Met.inl L136 130 Tryz.f130 pl130 0 false 0 100000 Tryz.func130 Tryz.call130 (by kernel_rfl)
def L130 : Lib Tryz.prog := L136.addM m130

def m140 : Met Tryz.prog := Met.inl L130 140 Tryz.f140 pl140 0 false 0 100000 Tryz.func140 Tryz.call140 (by kernel_rfl)
def L140 : Lib Tryz.prog := L130.addM m140

def m214 : Met Tryz.prog := Met.inl L140 214 Tryz.f214 pl214 6 false 0 100000 Tryz.func214 Tryz.call214 (by kernel_rfl)
def L214 : Lib Tryz.prog := L140.addM m214

def m141 : Met Tryz.prog := Met.inl L214 141 Tryz.f141 pl141 0 false 0 100000 Tryz.func141 Tryz.call141 (by kernel_rfl)
def L141 : Lib Tryz.prog := L214.addM m141

def m158 : Met Tryz.prog := Met.inl L141 158 Tryz.f158 pl158 0 false 0 100000 Tryz.func158 Tryz.call158 (by kernel_rfl)
def L158 : Lib Tryz.prog := L141.addM m158

def m225 : Met Tryz.prog := Met.inl L158 225 Tryz.f225 pl225 0 false 0 100000 Tryz.func225 Tryz.call225 (by kernel_rfl)
def L225 : Lib Tryz.prog := L158.addM m225

def m23 : Met Tryz.prog := Met.inl L225 23 Tryz.f23 pl23 3 false 0 100000 Tryz.func23 Tryz.call23 (by kernel_rfl)
def L23 : Lib Tryz.prog := L225.addM m23

def m131 : Met Tryz.prog := Met.inl L23 131 Tryz.f131 pl131 0 false 0 100000 Tryz.func131 Tryz.call131 (by kernel_rfl)
def L131 : Lib Tryz.prog := L23.addM m131

def m57 : Met Tryz.prog := Met.inl L131 57 Tryz.f57 pl57 0 false 0 100000 Tryz.func57 Tryz.call57 (by kernel_rfl)
def L57 : Lib Tryz.prog := L131.addM m57

def m32 : Met Tryz.prog := Met.inl L57 32 Tryz.f32 pl32 0 false 0 100000 Tryz.func32 Tryz.call32 (by kernel_rfl)
def L32 : Lib Tryz.prog := L57.addM m32

def d27 : Dfr Tryz.prog := Dfr.inl L32 27 Tryz.f27 pl27 100000 Tryz.func27 Tryz.call27 (by rfl) (by rfl) (by kernel_rfl) (by decide)
def L27 : Lib Tryz.prog := L32.addF d27

theorem deeds81 (z : SV) : deeds.getD 81 z = .fn (.func 127) [] [.rp [.int 1] 0] := by kernel_rfl
theorem deeds82 (z : SV) : deeds.getD 82 z = .fn (.func 127) [] [.rp [.int 2] 0] := by kernel_rfl
theorem deeds147 (z : SV) : deeds.getD 147 z = .fn (.func 225) [] [.rp [.fn (.func 158) [] []] 0] := by kernel_rfl
theorem deeds105 (z : SV) : deeds.getD 105 z = .fn (.func 131) [] [.rp [.fn (.func 57) [] []] 0] := by kernel_rfl
set_option maxHeartbeats 40000000 in
theorem tri12b : Tri Tryz.prog 12 [rb [0, 105], .rs 0 [], zset] [] 0 fun r M' => ∃ x, r = .ret x ∧ sealC 10 M' x = some (.tup [.v (.slice none 0 0), .int 11]) := by
  refine (Tri.enter L27 pl12 8 true 0 0 100000 Tryz.func12 (by kernel_rfl) (by simp [Tryz.f12]) (by intro k e h; simp at h <;> omega) ?_)
  ((conv => whnf); repeat' ((first | refine @And.intro (goO _ _) _ ?_ ?_ | refine And.intro (by (first | exact of_decide_eq_true rfl | exact trivial | omega | (simp; done) | (simp [-Int.natCast_add, oneOf, contC, cont, mget, lendsC, lendC, closedL, closed, flat, flatL, is8_map, is32_map, is64_map, closedL_w8, closedL_w32, closedL_w64, flatL_w8, flatL_w32, flatL_w64, closedL_append, flatL_append, mx0, slc, closedL_tk, closedL_dp]; done) | (simp [-Int.natCast_add, oneOf, contC, cont, mget, lendsC, lendC, closedL, closed, flat, flatL, is8_map, is32_map, is64_map, closedL_w8, closedL_w32, closedL_w64, flatL_w8, flatL_w32, flatL_w64, closedL_append, flatL_append, mx0, slc, closedL_tk, closedL_dp]; omega) | (simp [-Int.natCast_add, oneOf, contC, cont, mget, lendsC, lendC, closedL, closed, flat, flatL, is8_map, is32_map, is64_map, closedL_w8, closedL_w32, closedL_w64, flatL_w8, flatL_w32, flatL_w64, closedL_append, flatL_append, mx0, slc, closedL_tk, closedL_dp, spl]; done) | (simp [-Int.natCast_add, oneOf, contC, cont, mget, lendsC, lendC, closedL, closed, flat, flatL, is8_map, is32_map, is64_map, closedL_w8, closedL_w32, closedL_w64, flatL_w8, flatL_w32, flatL_w64, closedL_append, flatL_append, mx0, slc, closedL_tk, closedL_dp, spl]; omega) | ((repeat' apply And.intro) <;> first | exact trivial | rfl | omega | assumption | (simp [-Int.natCast_add, oneOf, contC, cont, mget, lendsC, lendC, closedL, closed, flat, flatL, is8_map, is32_map, is64_map, closedL_w8, closedL_w32, closedL_w64, flatL_w8, flatL_w32, flatL_w64, closedL_append, flatL_append, mx0, slc, closedL_tk, closedL_dp]; done) | exact of_decide_eq_true (by kernel_rfl) | (show (_ : Nat) ≤ (_ : Nat); exact of_decide_eq_true (by kernel_rfl)) | (refine Or.inl ?_; (repeat' apply And.intro) <;> exact trivial) | (refine Or.inr ⟨rfl, ?_⟩; (repeat' apply And.intro) <;> first | exact trivial | (show (_ : Nat) ≤ (_ : Nat); omega) | (simp [-Int.natCast_add, oneOf, contC, cont, mget, lendsC, lendC, closedL, closed, flat, flatL, is8_map, is32_map, is64_map, closedL_w8, closedL_w32, closedL_w64, flatL_w8, flatL_w32, flatL_w64, closedL_append, flatL_append, mx0, slc, closedL_tk, closedL_dp]; done))))) ?_ | refine brP_t (by (first | rfl | (simp only [decide_eq_true_eq, decide_eq_false_iff_not, Bool.not_eq_true', Bool.not_eq_false', ne_eq]; first | omega | assumption) | (simp [-Int.natCast_add]; done) | (simp [-Int.natCast_add]; omega))) ?_ | refine brP_f (by (first | rfl | (simp only [decide_eq_true_eq, decide_eq_false_iff_not, Bool.not_eq_true', Bool.not_eq_false', ne_eq]; first | omega | assumption) | (simp [-Int.natCast_add]; done) | (simp [-Int.natCast_add]; omega))) ?_) <;> (conv => whnf)))
  exact ⟨_, rfl, by kernel_rfl⟩
set_option maxHeartbeats 40000000 in
theorem tri12a : Tri Tryz.prog 12 [rb [81, 82, 147], .rs 0 [], zset] [] 0 fun r M' => ∃ x, r = .ret x ∧ Seal M' x (.tup [.rs 1 [rb [3]], .int 0]) := by
  refine (Tri.enter L27 pl12 8 true 0 0 100000 Tryz.func12 (by kernel_rfl) (by simp [Tryz.f12]) (by intro k e h; simp at h <;> omega) ?_)
  ((conv => whnf); repeat' ((first | refine @And.intro (goO _ _) _ ?_ ?_ | refine And.intro (by (first | exact of_decide_eq_true rfl | exact trivial | omega | (simp; done) | (simp [-Int.natCast_add, oneOf, contC, cont, mget, lendsC, lendC, closedL, closed, flat, flatL, is8_map, is32_map, is64_map, closedL_w8, closedL_w32, closedL_w64, flatL_w8, flatL_w32, flatL_w64, closedL_append, flatL_append, mx0, slc, closedL_tk, closedL_dp]; done) | (simp [-Int.natCast_add, oneOf, contC, cont, mget, lendsC, lendC, closedL, closed, flat, flatL, is8_map, is32_map, is64_map, closedL_w8, closedL_w32, closedL_w64, flatL_w8, flatL_w32, flatL_w64, closedL_append, flatL_append, mx0, slc, closedL_tk, closedL_dp]; omega) | (simp [-Int.natCast_add, oneOf, contC, cont, mget, lendsC, lendC, closedL, closed, flat, flatL, is8_map, is32_map, is64_map, closedL_w8, closedL_w32, closedL_w64, flatL_w8, flatL_w32, flatL_w64, closedL_append, flatL_append, mx0, slc, closedL_tk, closedL_dp, spl]; done) | (simp [-Int.natCast_add, oneOf, contC, cont, mget, lendsC, lendC, closedL, closed, flat, flatL, is8_map, is32_map, is64_map, closedL_w8, closedL_w32, closedL_w64, flatL_w8, flatL_w32, flatL_w64, closedL_append, flatL_append, mx0, slc, closedL_tk, closedL_dp, spl]; omega) | ((repeat' apply And.intro) <;> first | exact trivial | rfl | omega | assumption | (simp [-Int.natCast_add, oneOf, contC, cont, mget, lendsC, lendC, closedL, closed, flat, flatL, is8_map, is32_map, is64_map, closedL_w8, closedL_w32, closedL_w64, flatL_w8, flatL_w32, flatL_w64, closedL_append, flatL_append, mx0, slc, closedL_tk, closedL_dp]; done) | exact of_decide_eq_true (by kernel_rfl) | (show (_ : Nat) ≤ (_ : Nat); exact of_decide_eq_true (by kernel_rfl)) | (refine Or.inl ?_; (repeat' apply And.intro) <;> exact trivial) | (refine Or.inr ⟨rfl, ?_⟩; (repeat' apply And.intro) <;> first | exact trivial | (show (_ : Nat) ≤ (_ : Nat); omega) | (simp [-Int.natCast_add, oneOf, contC, cont, mget, lendsC, lendC, closedL, closed, flat, flatL, is8_map, is32_map, is64_map, closedL_w8, closedL_w32, closedL_w64, flatL_w8, flatL_w32, flatL_w64, closedL_append, flatL_append, mx0, slc, closedL_tk, closedL_dp]; done))))) ?_ | refine brP_t (by (first | rfl | (simp only [decide_eq_true_eq, decide_eq_false_iff_not, Bool.not_eq_true', Bool.not_eq_false', ne_eq]; first | omega | assumption) | (simp [-Int.natCast_add]; done) | (simp [-Int.natCast_add]; omega))) ?_ | refine brP_f (by (first | rfl | (simp only [decide_eq_true_eq, decide_eq_false_iff_not, Bool.not_eq_true', Bool.not_eq_false', ne_eq]; first | omega | assumption) | (simp [-Int.natCast_add]; done) | (simp [-Int.natCast_add]; omega))) ?_) <;> (conv => whnf)))
  all_goals
    refine ⟨_, rfl, _, rfl, _, _, rfl, ⟨?_, ?_⟩, _, _, rfl, ⟨trivial, rfl⟩, rfl⟩
    · show (_ : Nat) ≤ (_ : Nat); exact of_decide_eq_true (by kernel_rfl)
    · (conv => whnf)
      refine ⟨?_, by decide, by kernel_rfl⟩
      exact ⟨trivial, trivial⟩
def g12 : List SV → Option (Prop × SV)
  | [.rs 3 c, .rs 0 [], .g z] => some (c = b8 [81, 82, 147] ∧ z = y39.zero, .tup [.rs 1 [rb [3]], .int 0])
  | [.rs 2 c, .rs 0 [], .g z] => some (c = b8 [0, 105] ∧ z = y39.zero, .tup [.v (.slice none 0 0), .int 11])
  | _ => none
def c12 : Con Tryz.prog := ⟨12, g12, gok Tryz.call12 fun args p r h hp => by
  unfold g12 at h
  split at h <;> cases h
  · obtain ⟨rfl, rfl⟩ := hp
    exact Pure.of_tri tri12a
  · obtain ⟨rfl, rfl⟩ := hp
    exact Pure.of_seal 10 tri12b⟩

def Lc12 : Lib Tryz.prog := lib0.addC c12

theorem pure8 : Pure Tryz.prog 8 [] (.bol true) := by
  refine Pure.of_tri (Tri.enter Lc12 pl8 0 false 0 0 100000 Tryz.func8 (by kernel_rfl) (by simp [Tryz.f8]) (by intro k e h; simp at h <;> omega) ?_)
  ((conv => whnf); repeat' ((first | refine @And.intro (goO _ _) _ ?_ ?_ | refine And.intro (by (first | exact of_decide_eq_true rfl | exact trivial | omega | (simp; done) | (simp [-Int.natCast_add, oneOf, contC, cont, mget, lendsC, lendC, closedL, closed, flat, flatL, is8_map, is32_map, is64_map, closedL_w8, closedL_w32, closedL_w64, flatL_w8, flatL_w32, flatL_w64, closedL_append, flatL_append, mx0, slc, closedL_tk, closedL_dp]; done) | (simp [-Int.natCast_add, oneOf, contC, cont, mget, lendsC, lendC, closedL, closed, flat, flatL, is8_map, is32_map, is64_map, closedL_w8, closedL_w32, closedL_w64, flatL_w8, flatL_w32, flatL_w64, closedL_append, flatL_append, mx0, slc, closedL_tk, closedL_dp]; omega) | (simp [-Int.natCast_add, oneOf, contC, cont, mget, lendsC, lendC, closedL, closed, flat, flatL, is8_map, is32_map, is64_map, closedL_w8, closedL_w32, closedL_w64, flatL_w8, flatL_w32, flatL_w64, closedL_append, flatL_append, mx0, slc, closedL_tk, closedL_dp, spl]; done) | (simp [-Int.natCast_add, oneOf, contC, cont, mget, lendsC, lendC, closedL, closed, flat, flatL, is8_map, is32_map, is64_map, closedL_w8, closedL_w32, closedL_w64, flatL_w8, flatL_w32, flatL_w64, closedL_append, flatL_append, mx0, slc, closedL_tk, closedL_dp, spl]; omega) | ((repeat' apply And.intro) <;> first | exact trivial | rfl | omega | assumption | (simp [-Int.natCast_add, oneOf, contC, cont, mget, lendsC, lendC, closedL, closed, flat, flatL, is8_map, is32_map, is64_map, closedL_w8, closedL_w32, closedL_w64, flatL_w8, flatL_w32, flatL_w64, closedL_append, flatL_append, mx0, slc, closedL_tk, closedL_dp]; done) | exact of_decide_eq_true (by kernel_rfl) | (show (_ : Nat) ≤ (_ : Nat); exact of_decide_eq_true (by kernel_rfl)) | (refine Or.inl ?_; (repeat' apply And.intro) <;> exact trivial) | (refine Or.inr ⟨rfl, ?_⟩; (repeat' apply And.intro) <;> first | exact trivial | (show (_ : Nat) ≤ (_ : Nat); omega) | (simp [-Int.natCast_add, oneOf, contC, cont, mget, lendsC, lendC, closedL, closed, flat, flatL, is8_map, is32_map, is64_map, closedL_w8, closedL_w32, closedL_w64, flatL_w8, flatL_w32, flatL_w64, closedL_append, flatL_append, mx0, slc, closedL_tk, closedL_dp]; done))))) ?_ | refine brP_t (by (first | rfl | (simp only [decide_eq_true_eq, decide_eq_false_iff_not, Bool.not_eq_true', Bool.not_eq_false', ne_eq]; first | omega | assumption) | (simp [-Int.natCast_add]; done) | (simp [-Int.natCast_add]; omega))) ?_ | refine brP_f (by (first | rfl | (simp only [decide_eq_true_eq, decide_eq_false_iff_not, Bool.not_eq_true', Bool.not_eq_false', ne_eq]; first | omega | assumption) | (simp [-Int.natCast_add]; done) | (simp [-Int.natCast_add]; omega))) ?_) <;> (conv => whnf)))
  exact ⟨_, rfl, ⟨trivial, rfl⟩⟩
end Aw
end Go.Sx
