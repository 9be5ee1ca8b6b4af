/-
  Vi: the law VmLimits.
-/
import Derived.Test.YtbpggglkmdgpoaaGreatVg
import Derived.Test.YtbpggglkmdgpoaaGreatVj
set_option linter.all false
set_option linter.unusedSimpArgs false
set_option linter.unusedVariables false
namespace Go.Sx
open Go Go.Proofs
set_option maxRecDepth 100000
def stkO : Option (List (List UInt8)) → List (List UInt8)
  | none => []
  | some l => l
def errO : Option (List (List UInt8)) → Int
  | none => 11
  | some _ => 0
theorem res12_eq (o : Option (List (List UInt8))) : res12 o = .tup [.rs (stkO o).length (rowsC (stkO o)), .int (errO o)] := by cases o <;> rfl
def toRow : SV → List UInt8 | .rs _ c => by8 c | _ => []
def byR (l : List SV) : List (List UInt8) := l.map toRow
theorem byR_rows (l : List (List UInt8)) : byR (rowsC l) = l := by
  simp [byR, rowsC, Function.comp_def, toRow, by8_map]
def g12 : List SV → Option (Prop × SV)
  | [.rs n c, .rs m r, .g z] => some ((is8 n c = true ∧ n ≤ 1099511627776) ∧ z = y39.zero ∧ (r = rowsC (byR r) ∧ (byR r).length = m ∧ m ≤ 1099511627776 ∧ (∀ x ∈ byR r, x.length ≤ 1099511627776)) ∧
      (∀ ops, parseS (by8 c) = some ops → ∀ o ∈ ops, o.1.toNat ≤ 78 ∨ o.1 = 97),
      .tup [.rs (stkO (runS (by8 c) (byR r))).length (rowsC (stkO (runS (by8 c) (byR r)))), .int (errO (runS (by8 c) (byR r)))])
  | _ => none
def c12 : Con Tryz.prog := ⟨12, g12, gok Tryz.call12 fun args p r h hp => by
  unfold g12 at h
  split at h <;> cases h
  rename_i n c m r z
  obtain ⟨⟨h1, h2⟩, rfl, ⟨h3, h4, h5, h6⟩, h7⟩ := hp
  obtain ⟨h8, h9⟩ := of_is8 h1
  have := pure12 (by8 c) (byR r) (by omega) (by omega) h6 h7
  rw [res12_eq] at this
  subst h9
  subst h4
  rw [show SV.rs (by8 c).length c = rb (by8 c) from congrArg _ h8, show SV.rs (byR r).length r = SV.rs (byR r).length (rowsC (byR r)) from congrArg _ h3]
  exact this⟩
def g8 : List SV → Option (Prop × SV)
  | [] => some (True, .bol true)
  | _ => none
def c8 : Con Tryz.prog := ⟨8, g8, gok Tryz.call8 fun args p r h hp => by
  unfold g8 at h
  split at h <;> cases h
  exact Aw.pure8⟩

def Lc12 : Lib Tryz.prog := lib0.addC c12

def Lc8 : Lib Tryz.prog := Lc12.addC c8

def Lc19 : Lib Tryz.prog := Lc8.addC c19

theorem pushS_len (d : List UInt8) : (pushS d).length ≤ d.length + 3 := by
  unfold pushS sizeS
  split
  · simp
  · split <;> simp
theorem zero39 : closed (.g y39.zero) := by show closedL y39.zero; simp [closedL, closed]
theorem rep5' (D : Nat) : (List.replicate ((D : Int).toNat) y5.zero).flatten = b8 (List.replicate D 0) := by
  have e : (D : Int).toNat = D := by simp
  rw [e]
  induction D with
  | zero => rfl
  | succ n ih => rw [List.replicate_succ, List.flatten_cons, ih (by simp)]; simp [b8, List.replicate_succ]
theorem rep5 (D : Nat) : slc (List.replicate ((D : Int).toNat) y5.zero).flatten (0 * y5.size) (((D : Int).toNat) * y5.size) = b8 (List.replicate D 0) := by
  rw [rep5']; simp [slc]
set_option maxHeartbeats 4000000 in
theorem tri5 (a b : Int) : Tri Tryz.prog 5 [.int a, .int b] [] 0 fun r M' => r = .ret (.bol true) := by
  obtain ⟨N, hN, hN2⟩ : ∃ N : Nat, (N : Int) = max 0 (min a 1100) ∧ N ≤ 1100 := ⟨(max 0 (min a 1100)).toNat, by omega, by omega⟩
  obtain ⟨D, hD, hD2⟩ : ∃ D : Nat, (D : Int) = max 0 (min b 600) ∧ D ≤ 600 := ⟨(max 0 (min b 600)).toNat, by omega, by omega⟩
  refine (Tri.enter Lc19 pl5 0 false 0 0 100000 Tryz.func5 (by kernel_rfl) (by simp [Tryz.f5]) (by intro k e h; simp at h <;> omega) ?_)
  ((conv => whnf); repeat ((first | refine And.intro (by (first | exact of_decide_eq_true rfl | exact trivial | omega | (simp; done) | (simp [-Int.natCast_add, oneOf, contC, cont, mget, lendsC, lendC, closedL, closed, flat, flatL, is8_map, is32_map, is64_map, closedL_w8, closedL_w32, closedL_w64, flatL_w8, flatL_w32, flatL_w64, closedL_append, flatL_append, mx0, slc, closedL_tk, closedL_dp]; done) | (simp [-Int.natCast_add, oneOf, contC, cont, mget, lendsC, lendC, closedL, closed, flat, flatL, is8_map, is32_map, is64_map, closedL_w8, closedL_w32, closedL_w64, flatL_w8, flatL_w32, flatL_w64, closedL_append, flatL_append, mx0, slc, closedL_tk, closedL_dp]; omega) | (simp [-Int.natCast_add, oneOf, contC, cont, mget, lendsC, lendC, closedL, closed, flat, flatL, is8_map, is32_map, is64_map, closedL_w8, closedL_w32, closedL_w64, flatL_w8, flatL_w32, flatL_w64, closedL_append, flatL_append, mx0, slc, closedL_tk, closedL_dp, spl]; done) | (simp [-Int.natCast_add, oneOf, contC, cont, mget, lendsC, lendC, closedL, closed, flat, flatL, is8_map, is32_map, is64_map, closedL_w8, closedL_w32, closedL_w64, flatL_w8, flatL_w32, flatL_w64, closedL_append, flatL_append, mx0, slc, closedL_tk, closedL_dp, spl]; omega))) ?_ | refine brP_t (by (first | rfl | (simp only [decide_eq_true_eq, decide_eq_false_iff_not, Bool.not_eq_true', Bool.not_eq_false', ne_eq]; first | omega | assumption) | (simp [-Int.natCast_add]; done) | (simp [-Int.natCast_add]; omega))) ?_ | refine brP_f (by (first | rfl | (simp only [decide_eq_true_eq, decide_eq_false_iff_not, Bool.not_eq_true', Bool.not_eq_false', ne_eq]; first | omega | assumption) | (simp [-Int.natCast_add]; done) | (simp [-Int.natCast_add]; omega))) ?_); (conv => whnf)))
  refine SatR.ghost 5 1 (by decide) ?_
  refine SatR.ghost 5 1 (by decide) ?_
  refine SatR.loopA (α := Nat) (fun i => i ≤ N) (fun i => ([(0, .int N), (1, .int D), (5, .os 0 0 i), (6, .os 1 0 i), (7, .int i)], [(0, .buf 5 1 (b8 (List.replicate i 0))), (1, .buf 5 1 (b8 (List.replicate i 97)))])) 2 (fun i => N - i) 0 [(0, 0), (1, 1)] (Nat.zero_le _) rfl ?_ 100000 ?_
  · (refine ⟨⟨rfl, rfl⟩, ?_, ?_⟩ <;> simp [-Int.natCast_add, autoR, keyS, entL, entM, look, mget, rget, RenEq, ren_cells, ren_buf, renL_nil, renL_cons, oneOf, cst, slotsOf])
    exact ⟨by split <;> split at * <;> omega, by split <;> split at * <;> omega⟩
  · intro i hi
    ((conv => whnf); repeat ((first | refine And.intro (by (first | exact of_decide_eq_true rfl | exact trivial | omega | (simp; done) | (simp [-Int.natCast_add, oneOf, contC, cont, mget, lendsC, lendC, closedL, closed, flat, flatL, is8_map, is32_map, is64_map, closedL_w8, closedL_w32, closedL_w64, flatL_w8, flatL_w32, flatL_w64, closedL_append, flatL_append, mx0, slc, closedL_tk, closedL_dp]; done) | (simp [-Int.natCast_add, oneOf, contC, cont, mget, lendsC, lendC, closedL, closed, flat, flatL, is8_map, is32_map, is64_map, closedL_w8, closedL_w32, closedL_w64, flatL_w8, flatL_w32, flatL_w64, closedL_append, flatL_append, mx0, slc, closedL_tk, closedL_dp]; omega) | (simp [-Int.natCast_add, oneOf, contC, cont, mget, lendsC, lendC, closedL, closed, flat, flatL, is8_map, is32_map, is64_map, closedL_w8, closedL_w32, closedL_w64, flatL_w8, flatL_w32, flatL_w64, closedL_append, flatL_append, mx0, slc, closedL_tk, closedL_dp, spl]; done) | (simp [-Int.natCast_add, oneOf, contC, cont, mget, lendsC, lendC, closedL, closed, flat, flatL, is8_map, is32_map, is64_map, closedL_w8, closedL_w32, closedL_w64, flatL_w8, flatL_w32, flatL_w64, closedL_append, flatL_append, mx0, slc, closedL_tk, closedL_dp, spl]; omega))) ?_ | refine brP_t (by (first | rfl | (simp only [decide_eq_true_eq, decide_eq_false_iff_not, Bool.not_eq_true', Bool.not_eq_false', ne_eq]; first | omega | assumption) | (simp [-Int.natCast_add]; done) | (simp [-Int.natCast_add]; omega))) ?_ | refine brP_f (by (first | rfl | (simp only [decide_eq_true_eq, decide_eq_false_iff_not, Bool.not_eq_true', Bool.not_eq_false', ne_eq]; first | omega | assumption) | (simp [-Int.natCast_add]; done) | (simp [-Int.natCast_add]; omega))) ?_); (conv => whnf)))
    refine brP_intro (fun h0 => ?_) (fun h0 => ?_) <;> (try simp [-Int.natCast_add, mx0] at h0)
    · ((conv => whnf); repeat ((first | refine And.intro (by (first | exact of_decide_eq_true rfl | exact trivial | omega | (simp; done) | (simp [-Int.natCast_add, oneOf, contC, cont, mget, lendsC, lendC, closedL, closed, flat, flatL, is8_map, is32_map, is64_map, closedL_w8, closedL_w32, closedL_w64, flatL_w8, flatL_w32, flatL_w64, closedL_append, flatL_append, mx0, slc, closedL_tk, closedL_dp]; done) | (simp [-Int.natCast_add, oneOf, contC, cont, mget, lendsC, lendC, closedL, closed, flat, flatL, is8_map, is32_map, is64_map, closedL_w8, closedL_w32, closedL_w64, flatL_w8, flatL_w32, flatL_w64, closedL_append, flatL_append, mx0, slc, closedL_tk, closedL_dp]; omega) | (simp [-Int.natCast_add, oneOf, contC, cont, mget, lendsC, lendC, closedL, closed, flat, flatL, is8_map, is32_map, is64_map, closedL_w8, closedL_w32, closedL_w64, flatL_w8, flatL_w32, flatL_w64, closedL_append, flatL_append, mx0, slc, closedL_tk, closedL_dp, spl]; done) | (simp [-Int.natCast_add, oneOf, contC, cont, mget, lendsC, lendC, closedL, closed, flat, flatL, is8_map, is32_map, is64_map, closedL_w8, closedL_w32, closedL_w64, flatL_w8, flatL_w32, flatL_w64, closedL_append, flatL_append, mx0, slc, closedL_tk, closedL_dp, spl]; omega))) ?_ | refine brP_t (by (first | rfl | (simp only [decide_eq_true_eq, decide_eq_false_iff_not, Bool.not_eq_true', Bool.not_eq_false', ne_eq]; first | omega | assumption) | (simp [-Int.natCast_add]; done) | (simp [-Int.natCast_add]; omega))) ?_ | refine brP_f (by (first | rfl | (simp only [decide_eq_true_eq, decide_eq_false_iff_not, Bool.not_eq_true', Bool.not_eq_false', ne_eq]; first | omega | assumption) | (simp [-Int.natCast_add]; done) | (simp [-Int.natCast_add]; omega))) ?_); (conv => whnf)))
      refine ⟨i + 1, [], by omega, by omega, ?_⟩
      have hc : ∀ x : UInt8, closedL (List.replicate i (SV.w8 x) ++ [SV.w8 x]) := fun x => by simpa [b8] using clo (List.replicate i x ++ [x])
      (refine ⟨⟨rfl, rfl⟩, ?_, ?_⟩ <;> simp [-Int.natCast_add, autoR, keyS, entL, entM, look, mget, rget, RenEq, ren_cells, ren_buf, renL_nil, renL_cons, oneOf, cst, slotsOf, slc, spl])
      · exact wi_eq (by omega) (by omega)
      · rw [List.replicate_succ', List.replicate_succ']
        exact ⟨RenEqL.closed _ (hc 0), RenEqL.closed _ (hc 97)⟩
    · obtain rfl : i = N := by omega
      ((conv => whnf); repeat ((first | refine And.intro (by (first | exact of_decide_eq_true rfl | exact trivial | omega | (simp; done) | (simp [-Int.natCast_add, oneOf, contC, cont, mget, lendsC, lendC, closedL, closed, flat, flatL, is8_map, is32_map, is64_map, closedL_w8, closedL_w32, closedL_w64, flatL_w8, flatL_w32, flatL_w64, closedL_append, flatL_append, mx0, slc, closedL_tk, closedL_dp]; done) | (simp [-Int.natCast_add, oneOf, contC, cont, mget, lendsC, lendC, closedL, closed, flat, flatL, is8_map, is32_map, is64_map, closedL_w8, closedL_w32, closedL_w64, flatL_w8, flatL_w32, flatL_w64, closedL_append, flatL_append, mx0, slc, closedL_tk, closedL_dp]; omega) | (simp [-Int.natCast_add, oneOf, contC, cont, mget, lendsC, lendC, closedL, closed, flat, flatL, is8_map, is32_map, is64_map, closedL_w8, closedL_w32, closedL_w64, flatL_w8, flatL_w32, flatL_w64, closedL_append, flatL_append, mx0, slc, closedL_tk, closedL_dp, spl]; done) | (simp [-Int.natCast_add, oneOf, contC, cont, mget, lendsC, lendC, closedL, closed, flat, flatL, is8_map, is32_map, is64_map, closedL_w8, closedL_w32, closedL_w64, flatL_w8, flatL_w32, flatL_w64, closedL_append, flatL_append, mx0, slc, closedL_tk, closedL_dp, spl]; omega))) ?_ | refine brP_t (by (first | rfl | (simp only [decide_eq_true_eq, decide_eq_false_iff_not, Bool.not_eq_true', Bool.not_eq_false', ne_eq]; first | omega | assumption) | (simp [-Int.natCast_add]; done) | (simp [-Int.natCast_add]; omega))) ?_ | refine brP_f (by (first | rfl | (simp only [decide_eq_true_eq, decide_eq_false_iff_not, Bool.not_eq_true', Bool.not_eq_false', ne_eq]; first | omega | assumption) | (simp [-Int.natCast_add]; done) | (simp [-Int.natCast_add]; omega))) ?_); (conv => whnf)))
      have e1 : ∀ (x : UInt8), slc (b8 (List.replicate i x)) (0 * 1) (i * 1) = b8 (List.replicate i x) := fun x => by simp [slc]
      rw [e1, show by8 (b8 (List.replicate i 0)) = List.replicate i 0 from by8_map _, show byR [] = [] from rfl, run_rep0 hN2]
      refine And.intro (And.intro ⟨⟨(is8_map i (List.replicate i 0)).trans (by simp), by omega⟩, rfl, ⟨rfl, rfl, by omega, by simp⟩, simple_rep0 i⟩ (And.intro (And.intro (And.intro ?_ (And.intro (Or.inl (clo _)) (show 0 < _ from by simp))) (And.intro trivial (And.intro ?_ trivial))) ?_)) ?_
      · show (_ : Nat) ≤ (_ : Nat)
        simp
      · show closedL y39.zero
        simp [closedL, closed]
      · exact ⟨trivial, trivial, trivial⟩
      by_cases hN1 : i ≤ 1000 <;> (first | rw [if_pos hN1] | rw [if_neg hN1])
      all_goals
        ((conv => whnf); repeat ((first | refine And.intro (by (first | exact of_decide_eq_true rfl | exact trivial | omega | (simp [errO, stkO, hN1]; done) | (simp [-Int.natCast_add, oneOf, contC, cont, mget, lendsC, lendC, closedL, closed, flat, flatL, is8_map, is32_map, is64_map, closedL_w8, closedL_w32, closedL_w64, flatL_w8, flatL_w32, flatL_w64, closedL_append, flatL_append, mx0, slc, closedL_tk, closedL_dp, errO, stkO, hN1]; done) | (simp [-Int.natCast_add, oneOf, contC, cont, mget, lendsC, lendC, closedL, closed, flat, flatL, is8_map, is32_map, is64_map, closedL_w8, closedL_w32, closedL_w64, flatL_w8, flatL_w32, flatL_w64, closedL_append, flatL_append, mx0, slc, closedL_tk, closedL_dp, errO, stkO, hN1]; omega) | (simp [-Int.natCast_add, oneOf, contC, cont, mget, lendsC, lendC, closedL, closed, flat, flatL, is8_map, is32_map, is64_map, closedL_w8, closedL_w32, closedL_w64, flatL_w8, flatL_w32, flatL_w64, closedL_append, flatL_append, mx0, slc, closedL_tk, closedL_dp, spl, errO, stkO, hN1]; done) | (simp [-Int.natCast_add, oneOf, contC, cont, mget, lendsC, lendC, closedL, closed, flat, flatL, is8_map, is32_map, is64_map, closedL_w8, closedL_w32, closedL_w64, flatL_w8, flatL_w32, flatL_w64, closedL_append, flatL_append, mx0, slc, closedL_tk, closedL_dp, spl, errO, stkO, hN1]; omega))) ?_ | refine brP_t (by (first | rfl | (simp only [decide_eq_true_eq, decide_eq_false_iff_not, Bool.not_eq_true', Bool.not_eq_false', ne_eq]; first | omega | assumption) | (simp [-Int.natCast_add]; done) | (simp [-Int.natCast_add]; omega) | (simp [-Int.natCast_add, errO, stkO, hN1]; done) | (simp [-Int.natCast_add, errO, stkO, hN1]; omega))) ?_ | refine brP_f (by (first | rfl | (simp only [decide_eq_true_eq, decide_eq_false_iff_not, Bool.not_eq_true', Bool.not_eq_false', ne_eq]; first | omega | assumption) | (simp [-Int.natCast_add]; done) | (simp [-Int.natCast_add]; omega) | (simp [-Int.natCast_add, errO, stkO, hN1]; done) | (simp [-Int.natCast_add, errO, stkO, hN1]; omega))) ?_); (conv => whnf)))
        rw [e1, show by8 (b8 (List.replicate i 97)) = List.replicate i 97 from by8_map _, show byR [] = [] from rfl, run_rep97 hN2]
        refine And.intro (And.intro ⟨⟨(is8_map i (List.replicate i 97)).trans (by simp), by omega⟩, rfl, ⟨rfl, rfl, by omega, by simp⟩, simple_rep97 i⟩ (And.intro (And.intro (And.intro ?_ (And.intro (Or.inl (clo _)) (show 0 < _ from by simp))) (And.intro trivial (And.intro ?_ trivial))) ?_)) ?_
        · show (_ : Nat) ≤ (_ : Nat)
          simp
        · show closedL y39.zero
          simp [closedL, closed]
        · exact ⟨trivial, trivial, trivial⟩
        by_cases hN3 : i ≤ 201 <;> (first | rw [if_pos hN3] | rw [if_neg hN3])
        all_goals try (exfalso; omega)
        all_goals
          ((conv => whnf); repeat ((first | refine And.intro (by (first | exact of_decide_eq_true rfl | exact trivial | omega | (simp [errO, stkO, hN3]; done) | (simp [-Int.natCast_add, oneOf, contC, cont, mget, lendsC, lendC, closedL, closed, flat, flatL, is8_map, is32_map, is64_map, closedL_w8, closedL_w32, closedL_w64, flatL_w8, flatL_w32, flatL_w64, closedL_append, flatL_append, mx0, slc, closedL_tk, closedL_dp, errO, stkO, hN3]; done) | (simp [-Int.natCast_add, oneOf, contC, cont, mget, lendsC, lendC, closedL, closed, flat, flatL, is8_map, is32_map, is64_map, closedL_w8, closedL_w32, closedL_w64, flatL_w8, flatL_w32, flatL_w64, closedL_append, flatL_append, mx0, slc, closedL_tk, closedL_dp, errO, stkO, hN3]; omega) | (simp [-Int.natCast_add, oneOf, contC, cont, mget, lendsC, lendC, closedL, closed, flat, flatL, is8_map, is32_map, is64_map, closedL_w8, closedL_w32, closedL_w64, flatL_w8, flatL_w32, flatL_w64, closedL_append, flatL_append, mx0, slc, closedL_tk, closedL_dp, spl, errO, stkO, hN3]; done) | (simp [-Int.natCast_add, oneOf, contC, cont, mget, lendsC, lendC, closedL, closed, flat, flatL, is8_map, is32_map, is64_map, closedL_w8, closedL_w32, closedL_w64, flatL_w8, flatL_w32, flatL_w64, closedL_append, flatL_append, mx0, slc, closedL_tk, closedL_dp, spl, errO, stkO, hN3]; omega))) ?_ | refine brP_t (by (first | rfl | (simp only [decide_eq_true_eq, decide_eq_false_iff_not, Bool.not_eq_true', Bool.not_eq_false', ne_eq]; first | omega | assumption) | (simp [-Int.natCast_add]; done) | (simp [-Int.natCast_add]; omega) | (simp [-Int.natCast_add, errO, stkO, hN3]; done) | (simp [-Int.natCast_add, errO, stkO, hN3]; omega))) ?_ | refine brP_f (by (first | rfl | (simp only [decide_eq_true_eq, decide_eq_false_iff_not, Bool.not_eq_true', Bool.not_eq_false', ne_eq]; first | omega | assumption) | (simp [-Int.natCast_add]; done) | (simp [-Int.natCast_add]; omega) | (simp [-Int.natCast_add, errO, stkO, hN3]; done) | (simp [-Int.natCast_add, errO, stkO, hN3]; omega))) ?_); (conv => whnf)))
          rw [rep5 D]
          rw [show by8 (b8 (List.replicate D 0)) = List.replicate D 0 from by8_map _]
          refine And.intro (And.intro ⟨(is8_map _ (List.replicate D 0)).trans (by simp), by simp; omega, fun h => by rw [show D = 1 by simpa using h]; rfl⟩ (And.intro (And.intro (And.intro ?_ (And.intro (Or.inl ?_) (show 0 < _ from by simp))) trivial) trivial)) ?_
          · show (_ : Nat) ≤ (_ : Nat)
            simp
          · have := clo (List.replicate D 0)
            rw [← rep5' D] at this
            exact this
          ((conv => whnf); repeat ((first | refine And.intro (by (first | exact of_decide_eq_true rfl | exact trivial | omega | (simp [errO, stkO, hN3]; done) | (simp [-Int.natCast_add, oneOf, contC, cont, mget, lendsC, lendC, closedL, closed, flat, flatL, is8_map, is32_map, is64_map, closedL_w8, closedL_w32, closedL_w64, flatL_w8, flatL_w32, flatL_w64, closedL_append, flatL_append, mx0, slc, closedL_tk, closedL_dp, errO, stkO, hN3]; done) | (simp [-Int.natCast_add, oneOf, contC, cont, mget, lendsC, lendC, closedL, closed, flat, flatL, is8_map, is32_map, is64_map, closedL_w8, closedL_w32, closedL_w64, flatL_w8, flatL_w32, flatL_w64, closedL_append, flatL_append, mx0, slc, closedL_tk, closedL_dp, errO, stkO, hN3]; omega) | (simp [-Int.natCast_add, oneOf, contC, cont, mget, lendsC, lendC, closedL, closed, flat, flatL, is8_map, is32_map, is64_map, closedL_w8, closedL_w32, closedL_w64, flatL_w8, flatL_w32, flatL_w64, closedL_append, flatL_append, mx0, slc, closedL_tk, closedL_dp, spl, errO, stkO, hN3]; done) | (simp [-Int.natCast_add, oneOf, contC, cont, mget, lendsC, lendC, closedL, closed, flat, flatL, is8_map, is32_map, is64_map, closedL_w8, closedL_w32, closedL_w64, flatL_w8, flatL_w32, flatL_w64, closedL_append, flatL_append, mx0, slc, closedL_tk, closedL_dp, spl, errO, stkO, hN3]; omega))) ?_ | refine brP_t (by (first | rfl | (simp only [decide_eq_true_eq, decide_eq_false_iff_not, Bool.not_eq_true', Bool.not_eq_false', ne_eq]; first | omega | assumption) | (simp [-Int.natCast_add]; done) | (simp [-Int.natCast_add]; omega) | (simp [-Int.natCast_add, errO, stkO, hN3]; done) | (simp [-Int.natCast_add, errO, stkO, hN3]; omega))) ?_ | refine brP_f (by (first | rfl | (simp only [decide_eq_true_eq, decide_eq_false_iff_not, Bool.not_eq_true', Bool.not_eq_false', ne_eq]; first | omega | assumption) | (simp [-Int.natCast_add]; done) | (simp [-Int.natCast_add]; omega) | (simp [-Int.natCast_add, errO, stkO, hN3]; done) | (simp [-Int.natCast_add, errO, stkO, hN3]; omega))) ?_); (conv => whnf)))
          have hpl := pushS_len (List.replicate D 0)
          rw [List.length_replicate] at hpl
          rw [show by8 (b8 (pushS (List.replicate D 0))) = pushS (List.replicate D 0) from by8_map _, show byR [] = [] from rfl, run_push (by simp; omega)]
          refine And.intro (And.intro ⟨⟨(is8_map _ (pushS (List.replicate D 0))).trans (by simp), by omega⟩, rfl, ⟨rfl, rfl, by omega, by simp⟩, simple_push (by simp; omega)⟩ (And.intro ⟨trivial, trivial, zero39, trivial⟩ ⟨trivial, trivial, trivial⟩)) ?_
          have hDl : (List.replicate D (0 : UInt8)).length = D := by simp
          rw [hDl]
          by_cases hD1 : D ≤ 520 <;> (first | rw [if_pos hD1] | rw [if_neg hD1])
          all_goals
            ((conv => whnf); repeat ((first | refine And.intro (by (first | exact of_decide_eq_true rfl | exact trivial | omega | (simp [errO, stkO, hD1]; done) | (simp [-Int.natCast_add, oneOf, contC, cont, mget, lendsC, lendC, closedL, closed, flat, flatL, is8_map, is32_map, is64_map, closedL_w8, closedL_w32, closedL_w64, flatL_w8, flatL_w32, flatL_w64, closedL_append, flatL_append, mx0, slc, closedL_tk, closedL_dp, errO, stkO, hD1]; done) | (simp [-Int.natCast_add, oneOf, contC, cont, mget, lendsC, lendC, closedL, closed, flat, flatL, is8_map, is32_map, is64_map, closedL_w8, closedL_w32, closedL_w64, flatL_w8, flatL_w32, flatL_w64, closedL_append, flatL_append, mx0, slc, closedL_tk, closedL_dp, errO, stkO, hD1]; omega) | (simp [-Int.natCast_add, oneOf, contC, cont, mget, lendsC, lendC, closedL, closed, flat, flatL, is8_map, is32_map, is64_map, closedL_w8, closedL_w32, closedL_w64, flatL_w8, flatL_w32, flatL_w64, closedL_append, flatL_append, mx0, slc, closedL_tk, closedL_dp, spl, errO, stkO, hD1]; done) | (simp [-Int.natCast_add, oneOf, contC, cont, mget, lendsC, lendC, closedL, closed, flat, flatL, is8_map, is32_map, is64_map, closedL_w8, closedL_w32, closedL_w64, flatL_w8, flatL_w32, flatL_w64, closedL_append, flatL_append, mx0, slc, closedL_tk, closedL_dp, spl, errO, stkO, hD1]; omega))) ?_ | refine brP_t (by (first | rfl | (simp only [decide_eq_true_eq, decide_eq_false_iff_not, Bool.not_eq_true', Bool.not_eq_false', ne_eq]; first | omega | assumption) | (simp [-Int.natCast_add]; done) | (simp [-Int.natCast_add]; omega) | (simp [-Int.natCast_add, errO, stkO, hD1]; done) | (simp [-Int.natCast_add, errO, stkO, hD1]; omega))) ?_ | refine brP_f (by (first | rfl | (simp only [decide_eq_true_eq, decide_eq_false_iff_not, Bool.not_eq_true', Bool.not_eq_false', ne_eq]; first | omega | assumption) | (simp [-Int.natCast_add]; done) | (simp [-Int.natCast_add]; omega) | (simp [-Int.natCast_add, errO, stkO, hD1]; done) | (simp [-Int.natCast_add, errO, stkO, hD1]; omega))) ?_); (conv => whnf)))
            conv in (occs := *) List.map (opn _) _ => all_goals change [SV.rs ((D : Int).toNat) (slc (List.replicate ((D : Int).toNat) y5.zero).flatten (0 * y5.size) (((D : Int).toNat) * y5.size))]
            rw [rep5 D]
            rw [show byR [SV.rs ((D : Int).toNat) (b8 (List.replicate D 0))] = [List.replicate D 0] from congrArg (fun x => [x]) (by8_map (List.replicate D 0)), show by8 [] = [] from rfl, run_nil, hDl]
            refine And.intro (And.intro ⟨⟨rfl, by omega⟩, rfl, ⟨by simp [rowsC], rfl, by omega, by simp; omega⟩, simple_nil⟩ (And.intro (And.intro trivial (And.intro (And.intro ?_ (And.intro (Or.inr (And.intro rfl (And.intro (And.intro ?_ (And.intro ?_ (show 0 < _ from by simp))) trivial))) (show 0 < _ from by simp))) (And.intro zero39 trivial))) ⟨trivial, trivial, trivial⟩)) ?_
            · show (_ : Nat) ≤ (_ : Nat)
              exact of_decide_eq_true rfl
            · show (_ : Nat) ≤ (_ : Nat)
              simp
            · have := clo (List.replicate D 0)
              rw [← rep5' D] at this
              exact this
            first | rw [if_pos hD1] | rw [if_neg hD1]
            ((conv => whnf); repeat ((first | refine And.intro (by (first | exact of_decide_eq_true rfl | exact trivial | omega | (simp [errO, stkO, hD1]; done) | (simp [-Int.natCast_add, oneOf, contC, cont, mget, lendsC, lendC, closedL, closed, flat, flatL, is8_map, is32_map, is64_map, closedL_w8, closedL_w32, closedL_w64, flatL_w8, flatL_w32, flatL_w64, closedL_append, flatL_append, mx0, slc, closedL_tk, closedL_dp, errO, stkO, hD1]; done) | (simp [-Int.natCast_add, oneOf, contC, cont, mget, lendsC, lendC, closedL, closed, flat, flatL, is8_map, is32_map, is64_map, closedL_w8, closedL_w32, closedL_w64, flatL_w8, flatL_w32, flatL_w64, closedL_append, flatL_append, mx0, slc, closedL_tk, closedL_dp, errO, stkO, hD1]; omega) | (simp [-Int.natCast_add, oneOf, contC, cont, mget, lendsC, lendC, closedL, closed, flat, flatL, is8_map, is32_map, is64_map, closedL_w8, closedL_w32, closedL_w64, flatL_w8, flatL_w32, flatL_w64, closedL_append, flatL_append, mx0, slc, closedL_tk, closedL_dp, spl, errO, stkO, hD1]; done) | (simp [-Int.natCast_add, oneOf, contC, cont, mget, lendsC, lendC, closedL, closed, flat, flatL, is8_map, is32_map, is64_map, closedL_w8, closedL_w32, closedL_w64, flatL_w8, flatL_w32, flatL_w64, closedL_append, flatL_append, mx0, slc, closedL_tk, closedL_dp, spl, errO, stkO, hD1]; omega))) ?_ | refine brP_t (by (first | rfl | (simp only [decide_eq_true_eq, decide_eq_false_iff_not, Bool.not_eq_true', Bool.not_eq_false', ne_eq]; first | omega | assumption) | (simp [-Int.natCast_add]; done) | (simp [-Int.natCast_add]; omega) | (simp [-Int.natCast_add, errO, stkO, hD1]; done) | (simp [-Int.natCast_add, errO, stkO, hD1]; omega))) ?_ | refine brP_f (by (first | rfl | (simp only [decide_eq_true_eq, decide_eq_false_iff_not, Bool.not_eq_true', Bool.not_eq_false', ne_eq]; first | omega | assumption) | (simp [-Int.natCast_add]; done) | (simp [-Int.natCast_add]; omega) | (simp [-Int.natCast_add, errO, stkO, hD1]; done) | (simp [-Int.natCast_add, errO, stkO, hD1]; omega))) ?_); (conv => whnf)))
            refine congrArg (fun b => Res.ret (SV.bol b)) (?_ : (_ : Bool) = true)
            first | (simp [errO]; done) | (simp [errO]; omega)
end Go.Sx
