/-
  Vh: script.Push.
-/
import Derived.Test.YtbpggglkmdgpoaaGreatVa
import Derived.Test.YtbpggglkmdgpoaaGreatVs
set_option linter.all false
set_option linter.unusedSimpArgs false
set_option linter.unusedVariables false
namespace Go.Sx
open Go Go.Proofs
set_option maxRecDepth 100000

def m98 : Met Tryz.prog := Met.inl L40 98 Tryz.f98 pl98 5 false 0 100000 Tryz.func98 Tryz.call98 (by kernel_rfl)
def L98 : Lib Tryz.prog := L40.addM m98

def m41 : Met Tryz.prog := Met.inl L98 41 Tryz.f41 pl41 0 false 0 100000 Tryz.func41 Tryz.call41 (by kernel_rfl)
def L41 : Lib Tryz.prog := L98.addM m41

def m42 : Met Tryz.prog := Met.inl L41 42 Tryz.f42 pl42 0 false 0 100000 Tryz.func42 Tryz.call42 (by kernel_rfl)
def L42 : Lib Tryz.prog := L41.addM m42

def m43 : Met Tryz.prog := Met.inl L42 43 Tryz.f43 pl43 0 false 0 100000 Tryz.func43 Tryz.call43 (by kernel_rfl)
def L43 : Lib Tryz.prog := L42.addM m43

def m44 : Met Tryz.prog := Met.inl L43 44 Tryz.f44 pl44 0 false 0 100000 Tryz.func44 Tryz.call44 (by kernel_rfl)
def L44 : Lib Tryz.prog := L43.addM m44

def m45 : Met Tryz.prog := Met.inl L44 45 Tryz.f45 pl45 0 false 0 100000 Tryz.func45 Tryz.call45 (by kernel_rfl)
def L45 : Lib Tryz.prog := L44.addM m45

/-- What is pushed, its size ahead. -/
def sizeS (n : Nat) : List UInt8 :=
  if n < 76 then [UInt8.ofNat n] else if n < 256 then [76, UInt8.ofNat n] else [77, UInt8.ofNat n, UInt8.ofNat (n / 256)]
def pushS (d : List UInt8) : List UInt8 := sizeS d.length ++ d
theorem clo (l : List UInt8) : closedL (b8 l) := of_eq_true (closedL_w8 l)
theorem ofInt8 (n : Nat) : UInt8.ofInt (n : Int) = UInt8.ofNat n := by
  apply UInt8.toNat_inj.1
  have := toNat_ofInt8 (n : Int)
  rw [UInt8.toNat_ofNat']
  omega
theorem tk8 {m : Nat} (p : List UInt8) (h : p.length ≤ m) : List.take m (b8 p) = b8 p := List.take_of_length_le (by simpa [b8] using h)
set_option maxHeartbeats 4000000 in
theorem tri19 (d : List UInt8) (hb : d.length < 65536) (h1 : d.length = 1 → d = [0]) : Tri Tryz.prog 19 [rb d] [] 0 fun r M' => ∃ x, r = .ret x ∧ Seal M' x (rb (pushS d)) := by
  refine (Tri.enter L45 pl19 0 false 0 0 100000 Tryz.func19 (by kernel_rfl) (by simp [Tryz.f19]) (by intro k e h; simp at h <;> omega) ?_)
  ((conv => whnf); repeat ((first | refine And.intro (by (first | exact of_decide_eq_true rfl | exact trivial | omega | (simp; done) | (simp [-Int.natCast_add, oneOf, contC, cont, mget, lendsC, lendC, closedL, closed, flat, flatL, is8_map, is32_map, is64_map, closedL_w8, closedL_w32, closedL_w64, flatL_w8, flatL_w32, flatL_w64, closedL_append, flatL_append, mx0, slc, closedL_tk, closedL_dp]; done) | (simp [-Int.natCast_add, oneOf, contC, cont, mget, lendsC, lendC, closedL, closed, flat, flatL, is8_map, is32_map, is64_map, closedL_w8, closedL_w32, closedL_w64, flatL_w8, flatL_w32, flatL_w64, closedL_append, flatL_append, mx0, slc, closedL_tk, closedL_dp]; omega) | (simp [-Int.natCast_add, oneOf, contC, cont, mget, lendsC, lendC, closedL, closed, flat, flatL, is8_map, is32_map, is64_map, closedL_w8, closedL_w32, closedL_w64, flatL_w8, flatL_w32, flatL_w64, closedL_append, flatL_append, mx0, slc, closedL_tk, closedL_dp, spl]; done) | (simp [-Int.natCast_add, oneOf, contC, cont, mget, lendsC, lendC, closedL, closed, flat, flatL, is8_map, is32_map, is64_map, closedL_w8, closedL_w32, closedL_w64, flatL_w8, flatL_w32, flatL_w64, closedL_append, flatL_append, mx0, slc, closedL_tk, closedL_dp, spl]; omega))) ?_ | refine brP_t (by (first | rfl | (simp only [decide_eq_true_eq, decide_eq_false_iff_not, Bool.not_eq_true', Bool.not_eq_false', ne_eq]; first | omega | assumption) | (simp [-Int.natCast_add]; done) | (simp [-Int.natCast_add]; omega))) ?_ | refine brP_f (by (first | rfl | (simp only [decide_eq_true_eq, decide_eq_false_iff_not, Bool.not_eq_true', Bool.not_eq_false', ne_eq]; first | omega | assumption) | (simp [-Int.natCast_add]; done) | (simp [-Int.natCast_add]; omega))) ?_); (conv => whnf)))
  refine brP_intro (fun h0 => ?_) (fun h0 => ?_) <;> (try simp [-Int.natCast_add, mx0] at h0)
  · obtain rfl := h1 (by omega)
    ((conv => whnf); repeat ((first | refine And.intro (by (first | exact of_decide_eq_true rfl | exact trivial | omega | (simp; done) | (simp [-Int.natCast_add, oneOf, contC, cont, mget, lendsC, lendC, closedL, closed, flat, flatL, is8_map, is32_map, is64_map, closedL_w8, closedL_w32, closedL_w64, flatL_w8, flatL_w32, flatL_w64, closedL_append, flatL_append, mx0, slc, closedL_tk, closedL_dp]; done) | (simp [-Int.natCast_add, oneOf, contC, cont, mget, lendsC, lendC, closedL, closed, flat, flatL, is8_map, is32_map, is64_map, closedL_w8, closedL_w32, closedL_w64, flatL_w8, flatL_w32, flatL_w64, closedL_append, flatL_append, mx0, slc, closedL_tk, closedL_dp]; omega) | (simp [-Int.natCast_add, oneOf, contC, cont, mget, lendsC, lendC, closedL, closed, flat, flatL, is8_map, is32_map, is64_map, closedL_w8, closedL_w32, closedL_w64, flatL_w8, flatL_w32, flatL_w64, closedL_append, flatL_append, mx0, slc, closedL_tk, closedL_dp, spl]; done) | (simp [-Int.natCast_add, oneOf, contC, cont, mget, lendsC, lendC, closedL, closed, flat, flatL, is8_map, is32_map, is64_map, closedL_w8, closedL_w32, closedL_w64, flatL_w8, flatL_w32, flatL_w64, closedL_append, flatL_append, mx0, slc, closedL_tk, closedL_dp, spl]; omega))) ?_ | refine brP_t (by (first | rfl | (simp only [decide_eq_true_eq, decide_eq_false_iff_not, Bool.not_eq_true', Bool.not_eq_false', ne_eq]; first | omega | assumption) | (simp [-Int.natCast_add]; done) | (simp [-Int.natCast_add]; omega))) ?_ | refine brP_f (by (first | rfl | (simp only [decide_eq_true_eq, decide_eq_false_iff_not, Bool.not_eq_true', Bool.not_eq_false', ne_eq]; first | omega | assumption) | (simp [-Int.natCast_add]; done) | (simp [-Int.natCast_add]; omega))) ?_); (conv => whnf)))
    refine And.intro (And.intro (And.intro ?_ (And.intro ?_ ?_)) (And.intro (And.intro (And.intro ?_ (And.intro (Or.inl ?_) ?_)) trivial) trivial)) ?_
    · simp [slc, spl]; try omega
    · first | exact closedL_take _ (clo [1, 0]) | (simp [slc, spl, oneOf]; exact closedL_take _ (clo [1, 0])) | (simp [slc, spl, oneOf]; exact clo [1, 0])
    · omega
    · show (_ : Nat) ≤ (_ : Nat)
      simp [slc, spl, onlyK]; try omega
    · first | exact clo [1, 0] | (simp [slc, spl, oneOf]; exact clo [1, 0])
    · show 0 < _
      simp
    ((conv => whnf); repeat ((first | refine And.intro (by (first | exact of_decide_eq_true rfl | exact trivial | omega | (simp; done) | (simp [-Int.natCast_add, oneOf, contC, cont, mget, lendsC, lendC, closedL, closed, flat, flatL, is8_map, is32_map, is64_map, closedL_w8, closedL_w32, closedL_w64, flatL_w8, flatL_w32, flatL_w64, closedL_append, flatL_append, mx0, slc, closedL_tk, closedL_dp]; done) | (simp [-Int.natCast_add, oneOf, contC, cont, mget, lendsC, lendC, closedL, closed, flat, flatL, is8_map, is32_map, is64_map, closedL_w8, closedL_w32, closedL_w64, flatL_w8, flatL_w32, flatL_w64, closedL_append, flatL_append, mx0, slc, closedL_tk, closedL_dp]; omega) | (simp [-Int.natCast_add, oneOf, contC, cont, mget, lendsC, lendC, closedL, closed, flat, flatL, is8_map, is32_map, is64_map, closedL_w8, closedL_w32, closedL_w64, flatL_w8, flatL_w32, flatL_w64, closedL_append, flatL_append, mx0, slc, closedL_tk, closedL_dp, spl]; done) | (simp [-Int.natCast_add, oneOf, contC, cont, mget, lendsC, lendC, closedL, closed, flat, flatL, is8_map, is32_map, is64_map, closedL_w8, closedL_w32, closedL_w64, flatL_w8, flatL_w32, flatL_w64, closedL_append, flatL_append, mx0, slc, closedL_tk, closedL_dp, spl]; omega))) ?_ | refine brP_t (by (first | rfl | (simp only [decide_eq_true_eq, decide_eq_false_iff_not, Bool.not_eq_true', Bool.not_eq_false', ne_eq]; first | omega | assumption) | (simp [-Int.natCast_add]; done) | (simp [-Int.natCast_add]; omega))) ?_ | refine brP_f (by (first | rfl | (simp only [decide_eq_true_eq, decide_eq_false_iff_not, Bool.not_eq_true', Bool.not_eq_false', ne_eq]; first | omega | assumption) | (simp [-Int.natCast_add]; done) | (simp [-Int.natCast_add]; omega))) ?_); (conv => whnf)))
    refine ⟨_, rfl, trivial, ?_⟩
    simp [pushS, sizeS, slc, spl, oneOf]
  · ((conv => whnf); repeat ((first | refine And.intro (by (first | exact of_decide_eq_true rfl | exact trivial | omega | (simp; done) | (simp [-Int.natCast_add, oneOf, contC, cont, mget, lendsC, lendC, closedL, closed, flat, flatL, is8_map, is32_map, is64_map, closedL_w8, closedL_w32, closedL_w64, flatL_w8, flatL_w32, flatL_w64, closedL_append, flatL_append, mx0, slc, closedL_tk, closedL_dp]; done) | (simp [-Int.natCast_add, oneOf, contC, cont, mget, lendsC, lendC, closedL, closed, flat, flatL, is8_map, is32_map, is64_map, closedL_w8, closedL_w32, closedL_w64, flatL_w8, flatL_w32, flatL_w64, closedL_append, flatL_append, mx0, slc, closedL_tk, closedL_dp]; omega) | (simp [-Int.natCast_add, oneOf, contC, cont, mget, lendsC, lendC, closedL, closed, flat, flatL, is8_map, is32_map, is64_map, closedL_w8, closedL_w32, closedL_w64, flatL_w8, flatL_w32, flatL_w64, closedL_append, flatL_append, mx0, slc, closedL_tk, closedL_dp, spl]; done) | (simp [-Int.natCast_add, oneOf, contC, cont, mget, lendsC, lendC, closedL, closed, flat, flatL, is8_map, is32_map, is64_map, closedL_w8, closedL_w32, closedL_w64, flatL_w8, flatL_w32, flatL_w64, closedL_append, flatL_append, mx0, slc, closedL_tk, closedL_dp, spl]; omega))) ?_ | refine brP_t (by (first | rfl | (simp only [decide_eq_true_eq, decide_eq_false_iff_not, Bool.not_eq_true', Bool.not_eq_false', ne_eq]; first | omega | assumption) | (simp [-Int.natCast_add]; done) | (simp [-Int.natCast_add]; omega))) ?_ | refine brP_f (by (first | rfl | (simp only [decide_eq_true_eq, decide_eq_false_iff_not, Bool.not_eq_true', Bool.not_eq_false', ne_eq]; first | omega | assumption) | (simp [-Int.natCast_add]; done) | (simp [-Int.natCast_add]; omega))) ?_); (conv => whnf)))
    refine brP_intro (fun h2 => ?_) (fun h2 => ?_) <;> (try simp [-Int.natCast_add, mx0] at h2)
    · ((conv => whnf); repeat ((first | refine And.intro (by (first | exact of_decide_eq_true rfl | exact trivial | omega | (simp; done) | (simp [-Int.natCast_add, oneOf, contC, cont, mget, lendsC, lendC, closedL, closed, flat, flatL, is8_map, is32_map, is64_map, closedL_w8, closedL_w32, closedL_w64, flatL_w8, flatL_w32, flatL_w64, closedL_append, flatL_append, mx0, slc, closedL_tk, closedL_dp]; done) | (simp [-Int.natCast_add, oneOf, contC, cont, mget, lendsC, lendC, closedL, closed, flat, flatL, is8_map, is32_map, is64_map, closedL_w8, closedL_w32, closedL_w64, flatL_w8, flatL_w32, flatL_w64, closedL_append, flatL_append, mx0, slc, closedL_tk, closedL_dp]; omega) | (simp [-Int.natCast_add, oneOf, contC, cont, mget, lendsC, lendC, closedL, closed, flat, flatL, is8_map, is32_map, is64_map, closedL_w8, closedL_w32, closedL_w64, flatL_w8, flatL_w32, flatL_w64, closedL_append, flatL_append, mx0, slc, closedL_tk, closedL_dp, spl]; done) | (simp [-Int.natCast_add, oneOf, contC, cont, mget, lendsC, lendC, closedL, closed, flat, flatL, is8_map, is32_map, is64_map, closedL_w8, closedL_w32, closedL_w64, flatL_w8, flatL_w32, flatL_w64, closedL_append, flatL_append, mx0, slc, closedL_tk, closedL_dp, spl]; omega))) ?_ | refine brP_t (by (first | rfl | (simp only [decide_eq_true_eq, decide_eq_false_iff_not, Bool.not_eq_true', Bool.not_eq_false', ne_eq]; first | omega | assumption) | (simp [-Int.natCast_add]; done) | (simp [-Int.natCast_add]; omega))) ?_ | refine brP_f (by (first | rfl | (simp only [decide_eq_true_eq, decide_eq_false_iff_not, Bool.not_eq_true', Bool.not_eq_false', ne_eq]; first | omega | assumption) | (simp [-Int.natCast_add]; done) | (simp [-Int.natCast_add]; omega))) ?_); (conv => whnf)))
      refine And.intro (And.intro (And.intro ?_ (And.intro ?_ ?_)) (And.intro (And.intro (And.intro ?_ (And.intro (Or.inl ?_) ?_)) trivial) trivial)) ?_
      · simp [slc, spl]; try omega
      · first | exact closedL_take _ (clo (UInt8.ofInt (d.length : Int) :: d)) | (simp [slc, spl, oneOf]; exact closedL_take _ (clo (UInt8.ofInt (d.length : Int) :: d))) | (simp [slc, spl, oneOf]; exact clo (UInt8.ofInt (d.length : Int) :: d))
      · omega
      · show (_ : Nat) ≤ (_ : Nat)
        simp [slc, spl, onlyK]; try omega
      · first | exact clo (UInt8.ofInt (d.length : Int) :: d) | (simp [slc, spl, oneOf]; exact clo (UInt8.ofInt (d.length : Int) :: d))
      · show 0 < _
        simp
      ((conv => whnf); repeat ((first | refine And.intro (by (first | exact of_decide_eq_true rfl | exact trivial | omega | (simp; done) | (simp [-Int.natCast_add, oneOf, contC, cont, mget, lendsC, lendC, closedL, closed, flat, flatL, is8_map, is32_map, is64_map, closedL_w8, closedL_w32, closedL_w64, flatL_w8, flatL_w32, flatL_w64, closedL_append, flatL_append, mx0, slc, closedL_tk, closedL_dp]; done) | (simp [-Int.natCast_add, oneOf, contC, cont, mget, lendsC, lendC, closedL, closed, flat, flatL, is8_map, is32_map, is64_map, closedL_w8, closedL_w32, closedL_w64, flatL_w8, flatL_w32, flatL_w64, closedL_append, flatL_append, mx0, slc, closedL_tk, closedL_dp]; omega) | (simp [-Int.natCast_add, oneOf, contC, cont, mget, lendsC, lendC, closedL, closed, flat, flatL, is8_map, is32_map, is64_map, closedL_w8, closedL_w32, closedL_w64, flatL_w8, flatL_w32, flatL_w64, closedL_append, flatL_append, mx0, slc, closedL_tk, closedL_dp, spl]; done) | (simp [-Int.natCast_add, oneOf, contC, cont, mget, lendsC, lendC, closedL, closed, flat, flatL, is8_map, is32_map, is64_map, closedL_w8, closedL_w32, closedL_w64, flatL_w8, flatL_w32, flatL_w64, closedL_append, flatL_append, mx0, slc, closedL_tk, closedL_dp, spl]; omega))) ?_ | refine brP_t (by (first | rfl | (simp only [decide_eq_true_eq, decide_eq_false_iff_not, Bool.not_eq_true', Bool.not_eq_false', ne_eq]; first | omega | assumption) | (simp [-Int.natCast_add]; done) | (simp [-Int.natCast_add]; omega))) ?_ | refine brP_f (by (first | rfl | (simp only [decide_eq_true_eq, decide_eq_false_iff_not, Bool.not_eq_true', Bool.not_eq_false', ne_eq]; first | omega | assumption) | (simp [-Int.natCast_add]; done) | (simp [-Int.natCast_add]; omega))) ?_); (conv => whnf)))
      refine ⟨_, rfl, trivial, ?_⟩
      have hn : d.length < 76 := by omega
      have e := tk8 (m := 1 + d.length) (UInt8.ofNat d.length :: d) (by simp; omega)
      simp [pushS, sizeS, slc, spl, oneOf, hn, ofInt8]
      exact ⟨by omega, e.symm⟩
    · ((conv => whnf); repeat ((first | refine And.intro (by (first | exact of_decide_eq_true rfl | exact trivial | omega | (simp; done) | (simp [-Int.natCast_add, oneOf, contC, cont, mget, lendsC, lendC, closedL, closed, flat, flatL, is8_map, is32_map, is64_map, closedL_w8, closedL_w32, closedL_w64, flatL_w8, flatL_w32, flatL_w64, closedL_append, flatL_append, mx0, slc, closedL_tk, closedL_dp]; done) | (simp [-Int.natCast_add, oneOf, contC, cont, mget, lendsC, lendC, closedL, closed, flat, flatL, is8_map, is32_map, is64_map, closedL_w8, closedL_w32, closedL_w64, flatL_w8, flatL_w32, flatL_w64, closedL_append, flatL_append, mx0, slc, closedL_tk, closedL_dp]; omega) | (simp [-Int.natCast_add, oneOf, contC, cont, mget, lendsC, lendC, closedL, closed, flat, flatL, is8_map, is32_map, is64_map, closedL_w8, closedL_w32, closedL_w64, flatL_w8, flatL_w32, flatL_w64, closedL_append, flatL_append, mx0, slc, closedL_tk, closedL_dp, spl]; done) | (simp [-Int.natCast_add, oneOf, contC, cont, mget, lendsC, lendC, closedL, closed, flat, flatL, is8_map, is32_map, is64_map, closedL_w8, closedL_w32, closedL_w64, flatL_w8, flatL_w32, flatL_w64, closedL_append, flatL_append, mx0, slc, closedL_tk, closedL_dp, spl]; omega))) ?_ | refine brP_t (by (first | rfl | (simp only [decide_eq_true_eq, decide_eq_false_iff_not, Bool.not_eq_true', Bool.not_eq_false', ne_eq]; first | omega | assumption) | (simp [-Int.natCast_add]; done) | (simp [-Int.natCast_add]; omega))) ?_ | refine brP_f (by (first | rfl | (simp only [decide_eq_true_eq, decide_eq_false_iff_not, Bool.not_eq_true', Bool.not_eq_false', ne_eq]; first | omega | assumption) | (simp [-Int.natCast_add]; done) | (simp [-Int.natCast_add]; omega))) ?_); (conv => whnf)))
      refine brP_intro (fun h3 => ?_) (fun h3 => ?_) <;> (try simp [-Int.natCast_add, mx0] at h3)
      · ((conv => whnf); repeat ((first | refine And.intro (by (first | exact of_decide_eq_true rfl | exact trivial | omega | (simp; done) | (simp [-Int.natCast_add, oneOf, contC, cont, mget, lendsC, lendC, closedL, closed, flat, flatL, is8_map, is32_map, is64_map, closedL_w8, closedL_w32, closedL_w64, flatL_w8, flatL_w32, flatL_w64, closedL_append, flatL_append, mx0, slc, closedL_tk, closedL_dp]; done) | (simp [-Int.natCast_add, oneOf, contC, cont, mget, lendsC, lendC, closedL, closed, flat, flatL, is8_map, is32_map, is64_map, closedL_w8, closedL_w32, closedL_w64, flatL_w8, flatL_w32, flatL_w64, closedL_append, flatL_append, mx0, slc, closedL_tk, closedL_dp]; omega) | (simp [-Int.natCast_add, oneOf, contC, cont, mget, lendsC, lendC, closedL, closed, flat, flatL, is8_map, is32_map, is64_map, closedL_w8, closedL_w32, closedL_w64, flatL_w8, flatL_w32, flatL_w64, closedL_append, flatL_append, mx0, slc, closedL_tk, closedL_dp, spl]; done) | (simp [-Int.natCast_add, oneOf, contC, cont, mget, lendsC, lendC, closedL, closed, flat, flatL, is8_map, is32_map, is64_map, closedL_w8, closedL_w32, closedL_w64, flatL_w8, flatL_w32, flatL_w64, closedL_append, flatL_append, mx0, slc, closedL_tk, closedL_dp, spl]; omega))) ?_ | refine brP_t (by (first | rfl | (simp only [decide_eq_true_eq, decide_eq_false_iff_not, Bool.not_eq_true', Bool.not_eq_false', ne_eq]; first | omega | assumption) | (simp [-Int.natCast_add]; done) | (simp [-Int.natCast_add]; omega))) ?_ | refine brP_f (by (first | rfl | (simp only [decide_eq_true_eq, decide_eq_false_iff_not, Bool.not_eq_true', Bool.not_eq_false', ne_eq]; first | omega | assumption) | (simp [-Int.natCast_add]; done) | (simp [-Int.natCast_add]; omega))) ?_); (conv => whnf)))
        refine And.intro (And.intro (And.intro ?_ (And.intro ?_ ?_)) (And.intro (And.intro (And.intro ?_ (And.intro (Or.inl ?_) ?_)) trivial) trivial)) ?_
        · simp [slc, spl]; try omega
        · first | exact closedL_take _ (clo (76 :: UInt8.ofInt (d.length : Int) :: d)) | (simp [slc, spl, oneOf]; exact closedL_take _ (clo (76 :: UInt8.ofInt (d.length : Int) :: d))) | (simp [slc, spl, oneOf]; exact clo (76 :: UInt8.ofInt (d.length : Int) :: d))
        · omega
        · show (_ : Nat) ≤ (_ : Nat)
          simp [slc, spl, onlyK]; try omega
        · first | exact clo (76 :: UInt8.ofInt (d.length : Int) :: d) | (simp [slc, spl, oneOf]; exact clo (76 :: UInt8.ofInt (d.length : Int) :: d))
        · show 0 < _
          simp
        ((conv => whnf); repeat ((first | refine And.intro (by (first | exact of_decide_eq_true rfl | exact trivial | omega | (simp; done) | (simp [-Int.natCast_add, oneOf, contC, cont, mget, lendsC, lendC, closedL, closed, flat, flatL, is8_map, is32_map, is64_map, closedL_w8, closedL_w32, closedL_w64, flatL_w8, flatL_w32, flatL_w64, closedL_append, flatL_append, mx0, slc, closedL_tk, closedL_dp]; done) | (simp [-Int.natCast_add, oneOf, contC, cont, mget, lendsC, lendC, closedL, closed, flat, flatL, is8_map, is32_map, is64_map, closedL_w8, closedL_w32, closedL_w64, flatL_w8, flatL_w32, flatL_w64, closedL_append, flatL_append, mx0, slc, closedL_tk, closedL_dp]; omega) | (simp [-Int.natCast_add, oneOf, contC, cont, mget, lendsC, lendC, closedL, closed, flat, flatL, is8_map, is32_map, is64_map, closedL_w8, closedL_w32, closedL_w64, flatL_w8, flatL_w32, flatL_w64, closedL_append, flatL_append, mx0, slc, closedL_tk, closedL_dp, spl]; done) | (simp [-Int.natCast_add, oneOf, contC, cont, mget, lendsC, lendC, closedL, closed, flat, flatL, is8_map, is32_map, is64_map, closedL_w8, closedL_w32, closedL_w64, flatL_w8, flatL_w32, flatL_w64, closedL_append, flatL_append, mx0, slc, closedL_tk, closedL_dp, spl]; omega))) ?_ | refine brP_t (by (first | rfl | (simp only [decide_eq_true_eq, decide_eq_false_iff_not, Bool.not_eq_true', Bool.not_eq_false', ne_eq]; first | omega | assumption) | (simp [-Int.natCast_add]; done) | (simp [-Int.natCast_add]; omega))) ?_ | refine brP_f (by (first | rfl | (simp only [decide_eq_true_eq, decide_eq_false_iff_not, Bool.not_eq_true', Bool.not_eq_false', ne_eq]; first | omega | assumption) | (simp [-Int.natCast_add]; done) | (simp [-Int.natCast_add]; omega))) ?_); (conv => whnf)))
        refine ⟨_, rfl, trivial, ?_⟩
        have hn : ¬ d.length < 76 := by omega
        have hn2 : d.length < 256 := by omega
        have e := tk8 (m := 2 + d.length) (76 :: UInt8.ofNat d.length :: d) (by simp; omega)
        simp [pushS, sizeS, slc, spl, oneOf, hn, hn2, ofInt8]
        exact ⟨by omega, e.symm⟩
      · generalize hx : ((d.length : Nat) : Int) = x
        (conv => whnf)
        refine brP_t (b := decide (x < 65536)) (decide_eq_true (by omega)) ?_
        ((conv => whnf); repeat ((first | refine And.intro (by (first | exact of_decide_eq_true rfl | exact trivial | omega | (simp; done) | (simp [-Int.natCast_add, oneOf, contC, cont, mget, lendsC, lendC, closedL, closed, flat, flatL, is8_map, is32_map, is64_map, closedL_w8, closedL_w32, closedL_w64, flatL_w8, flatL_w32, flatL_w64, closedL_append, flatL_append, mx0, slc, closedL_tk, closedL_dp]; done) | (simp [-Int.natCast_add, oneOf, contC, cont, mget, lendsC, lendC, closedL, closed, flat, flatL, is8_map, is32_map, is64_map, closedL_w8, closedL_w32, closedL_w64, flatL_w8, flatL_w32, flatL_w64, closedL_append, flatL_append, mx0, slc, closedL_tk, closedL_dp]; omega) | (simp [-Int.natCast_add, oneOf, contC, cont, mget, lendsC, lendC, closedL, closed, flat, flatL, is8_map, is32_map, is64_map, closedL_w8, closedL_w32, closedL_w64, flatL_w8, flatL_w32, flatL_w64, closedL_append, flatL_append, mx0, slc, closedL_tk, closedL_dp, spl]; done) | (simp [-Int.natCast_add, oneOf, contC, cont, mget, lendsC, lendC, closedL, closed, flat, flatL, is8_map, is32_map, is64_map, closedL_w8, closedL_w32, closedL_w64, flatL_w8, flatL_w32, flatL_w64, closedL_append, flatL_append, mx0, slc, closedL_tk, closedL_dp, spl]; omega))) ?_ | refine brP_t (by (first | rfl | (simp only [decide_eq_true_eq, decide_eq_false_iff_not, Bool.not_eq_true', Bool.not_eq_false', ne_eq]; first | omega | assumption) | (simp [-Int.natCast_add]; done) | (simp [-Int.natCast_add]; omega))) ?_ | refine brP_f (by (first | rfl | (simp only [decide_eq_true_eq, decide_eq_false_iff_not, Bool.not_eq_true', Bool.not_eq_false', ne_eq]; first | omega | assumption) | (simp [-Int.natCast_add]; done) | (simp [-Int.natCast_add]; omega))) ?_); (conv => whnf)))
        have q1 : (UInt16.ofInt x).toUInt64.toUInt8 = UInt8.ofNat d.length := by
          apply UInt8.toNat_inj.1
          have := toNat_ofInt16 x
          rw [UInt64.toNat_toUInt8, UInt16.toNat_toUInt64, UInt8.toNat_ofNat']
          omega
        have q2 : (sr64 (UInt16.ofInt x).toUInt64 (((UInt64.ofNat (Int.toNat 8)).toNat : Nat) : Int).toNat).toUInt8 = UInt8.ofNat (d.length / 256) := by
          apply UInt8.toNat_inj.1
          have := toNat_ofInt16 x
          rw [UInt64.toNat_toUInt8, UInt8.toNat_ofNat']
          have e : (sr64 (UInt16.ofInt x).toUInt64 (((UInt64.ofNat (Int.toNat 8)).toNat : Nat) : Int).toNat).toNat = (UInt16.ofInt x).toNat / 256 := by
            simp [sr64]
            have := (UInt16.ofInt x).toNat_lt
            omega
          omega
        rw [q1, q2]
        refine And.intro (And.intro (And.intro ?_ (And.intro ?_ ?_)) (And.intro (And.intro (And.intro ?_ (And.intro (Or.inl ?_) ?_)) trivial) trivial)) ?_
        · simp [slc, spl]; try omega
        · first | exact closedL_take _ (clo (77 :: UInt8.ofNat d.length :: UInt8.ofNat (d.length / 256) :: d)) | (simp [slc, spl, oneOf]; exact closedL_take _ (clo (77 :: UInt8.ofNat d.length :: UInt8.ofNat (d.length / 256) :: d))) | (simp [slc, spl, oneOf]; exact clo (77 :: UInt8.ofNat d.length :: UInt8.ofNat (d.length / 256) :: d))
        · omega
        · show (_ : Nat) ≤ (_ : Nat)
          simp [slc, spl, onlyK]; try omega
        · first | exact clo (77 :: UInt8.ofNat d.length :: UInt8.ofNat (d.length / 256) :: d) | (simp [slc, spl, oneOf]; exact clo (77 :: UInt8.ofNat d.length :: UInt8.ofNat (d.length / 256) :: d))
        · show 0 < _
          simp
        ((conv => whnf); repeat ((first | refine And.intro (by (first | exact of_decide_eq_true rfl | exact trivial | omega | (simp; done) | (simp [-Int.natCast_add, oneOf, contC, cont, mget, lendsC, lendC, closedL, closed, flat, flatL, is8_map, is32_map, is64_map, closedL_w8, closedL_w32, closedL_w64, flatL_w8, flatL_w32, flatL_w64, closedL_append, flatL_append, mx0, slc, closedL_tk, closedL_dp]; done) | (simp [-Int.natCast_add, oneOf, contC, cont, mget, lendsC, lendC, closedL, closed, flat, flatL, is8_map, is32_map, is64_map, closedL_w8, closedL_w32, closedL_w64, flatL_w8, flatL_w32, flatL_w64, closedL_append, flatL_append, mx0, slc, closedL_tk, closedL_dp]; omega) | (simp [-Int.natCast_add, oneOf, contC, cont, mget, lendsC, lendC, closedL, closed, flat, flatL, is8_map, is32_map, is64_map, closedL_w8, closedL_w32, closedL_w64, flatL_w8, flatL_w32, flatL_w64, closedL_append, flatL_append, mx0, slc, closedL_tk, closedL_dp, spl]; done) | (simp [-Int.natCast_add, oneOf, contC, cont, mget, lendsC, lendC, closedL, closed, flat, flatL, is8_map, is32_map, is64_map, closedL_w8, closedL_w32, closedL_w64, flatL_w8, flatL_w32, flatL_w64, closedL_append, flatL_append, mx0, slc, closedL_tk, closedL_dp, spl]; omega))) ?_ | refine brP_t (by (first | rfl | (simp only [decide_eq_true_eq, decide_eq_false_iff_not, Bool.not_eq_true', Bool.not_eq_false', ne_eq]; first | omega | assumption) | (simp [-Int.natCast_add]; done) | (simp [-Int.natCast_add]; omega))) ?_ | refine brP_f (by (first | rfl | (simp only [decide_eq_true_eq, decide_eq_false_iff_not, Bool.not_eq_true', Bool.not_eq_false', ne_eq]; first | omega | assumption) | (simp [-Int.natCast_add]; done) | (simp [-Int.natCast_add]; omega))) ?_); (conv => whnf)))
        refine ⟨_, rfl, trivial, ?_⟩
        have hn : ¬ d.length < 76 := by omega
        have hn2 : ¬ d.length < 256 := by omega
        have e := tk8 (m := 3 + d.length) (77 :: UInt8.ofNat d.length :: UInt8.ofNat (d.length / 256) :: d) (by simp; omega)
        simp [pushS, sizeS, slc, spl, oneOf, hn, hn2]
        exact ⟨by omega, e.symm⟩
theorem pure19 (d : List UInt8) (hb : d.length < 65536) (h1 : d.length = 1 → d = [0]) : Pure Tryz.prog 19 [rb d] (rb (pushS d)) := Pure.of_tri (tri19 d hb h1)
def g19 : List SV → Option (Prop × SV)
  | [.rs n c] => some (is8 n c = true ∧ n < 65536 ∧ (n = 1 → by8 c = [0]), rb (pushS (by8 c)))
  | _ => none
def c19 : Con Tryz.prog := ⟨19, g19, gok Tryz.call19 fun args p r h hp => by
  unfold g19 at h
  split at h <;> cases h
  rename_i n c
  obtain ⟨h1, h2⟩ := of_is8 hp.1
  have := pure19 (by8 c) (by omega) (fun h => hp.2.2 (by omega))
  subst h2
  rw [show SV.rs (by8 c).length c = rb (by8 c) from congrArg _ h1]
  exact this⟩
end Go.Sx
