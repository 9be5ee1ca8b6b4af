/-
  Vc: slices.Delete.
-/
import Derived.Test.YtbpggglkmdgpoaaGreatSxP
import Derived.Test.YtbpggglkmdgpoaaGreatVs
set_option linter.all false
set_option linter.unusedSimpArgs false
set_option linter.unusedVariables false
namespace Go.Sx
open Go Go.Proofs
set_option maxRecDepth 100000

theorem spl_eq {c d : List SV} {off : Nat} (h : off + d.length ≤ c.length) : spl c off d = c.take off ++ d ++ c.drop (off + d.length) := by
  unfold spl
  split
  · rename_i e
    have h0 : off = 0 := by omega
    subst h0
    simp [← e]
  · rfl
theorem del_row (c z : List SV) (off n i j : Nat) (hij : i < j) (hjn : j ≤ n) (hoff : off + n ≤ c.length) (hz : z.length = j - i) :
    spl (spl c (off + i) (slc c (off + j) (n - j))) (off + (i + (n - j))) z = c.take (off + i) ++ (c.drop (off + j)).take (n - j) ++ z ++ c.drop (off + n) := by
  have hl : (slc c (off + j) (n - j)).length = n - j := slc_length _ _ _ (by omega)
  have h1 : spl c (off + i) (slc c (off + j) (n - j)) = c.take (off + i) ++ slc c (off + j) (n - j) ++ c.drop (off + i + (n - j)) := by rw [spl_eq (by omega), hl]
  have hA : (c.take (off + i) ++ slc c (off + j) (n - j)).length = off + (i + (n - j)) := by rw [List.length_append, List.length_take, hl]; omega
  rw [spl_eq (by rw [spl_length _ _ _ (by omega)]; omega), h1]
  have e1 : (c.take (off + i) ++ slc c (off + j) (n - j) ++ c.drop (off + i + (n - j))).take (off + (i + (n - j))) = c.take (off + i) ++ slc c (off + j) (n - j) := by
    rw [← hA, List.take_left]
  have e2 : (c.take (off + i) ++ slc c (off + j) (n - j) ++ c.drop (off + i + (n - j))).drop (off + (i + (n - j)) + z.length) = c.drop (off + n) := by
    rw [← hA, List.drop_length_add_append, List.drop_drop]
    congr 1
    omega
  rw [e1, e2]
  rfl
theorem tri211 (c : List SV) (t : TypeId) (off n m i j : Nat) (hij : i < j) (hjn : j ≤ n) (hnm : n ≤ m) (hoff : off + n ≤ c.length) :
    Tri Tryz.prog 211 [.sc 0 off n m, .int i, .int j] [(0, .cells t c)] 1 fun r M' => r = .ret (.sc 0 off (n - (j - i)) m) ∧
      mget M' 0 = some (.cells t (c.take (off + i) ++ (c.drop (off + j)).take (n - j) ++ List.replicate (j - i) (.v (.slice none 0 0)) ++ c.drop (off + n))) := by
  refine (Tri.enter L40 pl211 0 false 1 1 100000 Tryz.func211 (by kernel_rfl) (by simp [Tryz.f211]) (by intro k e h; simp at h <;> omega) ?_)
  ((conv => whnf); repeat' ((first | refine @And.intro (goO _ _) _ ?_ ?_ | refine And.intro (by (first | exact of_decide_eq_true rfl | exact trivial | omega | (simp; done) | (simp [-Int.natCast_add, oneOf, contC, cont, mget, lendsC, lendC, closedL, closed, flat, flatL, is8_map, is32_map, is64_map, closedL_w8, closedL_w32, closedL_w64, flatL_w8, flatL_w32, flatL_w64, closedL_append, flatL_append, mx0, slc, closedL_tk, closedL_dp]; done) | (simp [-Int.natCast_add, oneOf, contC, cont, mget, lendsC, lendC, closedL, closed, flat, flatL, is8_map, is32_map, is64_map, closedL_w8, closedL_w32, closedL_w64, flatL_w8, flatL_w32, flatL_w64, closedL_append, flatL_append, mx0, slc, closedL_tk, closedL_dp]; omega) | (simp [-Int.natCast_add, oneOf, contC, cont, mget, lendsC, lendC, closedL, closed, flat, flatL, is8_map, is32_map, is64_map, closedL_w8, closedL_w32, closedL_w64, flatL_w8, flatL_w32, flatL_w64, closedL_append, flatL_append, mx0, slc, closedL_tk, closedL_dp, spl]; done) | (simp [-Int.natCast_add, oneOf, contC, cont, mget, lendsC, lendC, closedL, closed, flat, flatL, is8_map, is32_map, is64_map, closedL_w8, closedL_w32, closedL_w64, flatL_w8, flatL_w32, flatL_w64, closedL_append, flatL_append, mx0, slc, closedL_tk, closedL_dp, spl]; omega))) ?_ | refine brP_t (by (first | rfl | (simp only [decide_eq_true_eq, decide_eq_false_iff_not, Bool.not_eq_true', Bool.not_eq_false', ne_eq]; first | omega | assumption) | (simp [-Int.natCast_add]; done) | (simp [-Int.natCast_add]; omega))) ?_ | refine brP_f (by (first | rfl | (simp only [decide_eq_true_eq, decide_eq_false_iff_not, Bool.not_eq_true', Bool.not_eq_false', ne_eq]; first | omega | assumption) | (simp [-Int.natCast_add]; done) | (simp [-Int.natCast_add]; omega))) ?_) <;> (conv => whnf)))
  refine ⟨?_, ?_⟩
  · rw [spl_length _ _ _ (by simp [slc]; omega)]; simp; omega
  ((conv => whnf); repeat' ((first | refine @And.intro (goO _ _) _ ?_ ?_ | refine And.intro (by (first | exact of_decide_eq_true rfl | exact trivial | omega | (simp; done) | (simp [-Int.natCast_add, oneOf, contC, cont, mget, lendsC, lendC, closedL, closed, flat, flatL, is8_map, is32_map, is64_map, closedL_w8, closedL_w32, closedL_w64, flatL_w8, flatL_w32, flatL_w64, closedL_append, flatL_append, mx0, slc, closedL_tk, closedL_dp]; done) | (simp [-Int.natCast_add, oneOf, contC, cont, mget, lendsC, lendC, closedL, closed, flat, flatL, is8_map, is32_map, is64_map, closedL_w8, closedL_w32, closedL_w64, flatL_w8, flatL_w32, flatL_w64, closedL_append, flatL_append, mx0, slc, closedL_tk, closedL_dp]; omega) | (simp [-Int.natCast_add, oneOf, contC, cont, mget, lendsC, lendC, closedL, closed, flat, flatL, is8_map, is32_map, is64_map, closedL_w8, closedL_w32, closedL_w64, flatL_w8, flatL_w32, flatL_w64, closedL_append, flatL_append, mx0, slc, closedL_tk, closedL_dp, spl]; done) | (simp [-Int.natCast_add, oneOf, contC, cont, mget, lendsC, lendC, closedL, closed, flat, flatL, is8_map, is32_map, is64_map, closedL_w8, closedL_w32, closedL_w64, flatL_w8, flatL_w32, flatL_w64, closedL_append, flatL_append, mx0, slc, closedL_tk, closedL_dp, spl]; omega))) ?_ | refine brP_t (by (first | rfl | (simp only [decide_eq_true_eq, decide_eq_false_iff_not, Bool.not_eq_true', Bool.not_eq_false', ne_eq]; first | omega | assumption) | (simp [-Int.natCast_add]; done) | (simp [-Int.natCast_add]; omega))) ?_ | refine brP_f (by (first | rfl | (simp only [decide_eq_true_eq, decide_eq_false_iff_not, Bool.not_eq_true', Bool.not_eq_false', ne_eq]; first | omega | assumption) | (simp [-Int.natCast_add]; done) | (simp [-Int.natCast_add]; omega))) ?_) <;> (conv => whnf)))
  have h := del_row c (List.replicate (j - i) (.v (.slice none 0 0))) off n i j hij hjn hoff (by simp)
  have e1 : ((i : Int).toNat - ((0 : Nat) : Int).toNat) = i := by simp
  have e2 : ((n : Int).toNat - (j : Int).toNat) = n - j := by simp
  have e3 : ((n : Int).toNat - (((i : Int).toNat - ((0 : Nat) : Int).toNat + ((n : Int).toNat - (j : Int).toNat) : Nat) : Int).toNat) = j - i := by simp; omega
  rw [mget, if_pos rfl, e3, ← h]
  simp [-Int.natCast_add]

def delR (c : List SV) (lo n i j : Nat) : List SV := c.take (lo + i) ++ (c.drop (lo + j)).take (n - j) ++ List.replicate (j - i) (.v (.slice none 0 0)) ++ c.drop (lo + n)
theorem delR_len {c : List SV} {lo n i j : Nat} (hij : i < j) (hjn : j ≤ n) (h : lo + n ≤ c.length) : (delR c lo n i j).length = c.length := by
  simp [delR]; omega
def D211 : Dlt := fun args M nk Φ =>
  match args with
  | [.os k lo n, .int i, .int j] => match mget M k with
    | some (.buf t z c) => (closedL c ∧ z = 1 ∧ 0 ≤ i ∧ i < j ∧ j ≤ n ∧ lo + n ≤ c.length) ∧ memK (mset M k (.buf t z (delR c lo n i.toNat j.toNat))) fun M' => Φ (.ret (.os k lo (n - (j.toNat - i.toNat)))) M' nk
    | _ => False
  | _ => False
theorem meth211 : Meth Tryz.prog 211 false D211 := by
  intro args M nk H β own w vals hm hk hv Φ hD
  unfold D211 at hD
  split at hD <;> try exact hD.elim
  rename_i k lo n i j
  split at hD <;> try exact hD.elim
  rename_i t z c hg
  obtain ⟨⟨hcl, rfl, h0, hij, hjn, hln⟩, hΦ⟩ := hD
  rw [memK_eq] at hΦ
  obtain ⟨i, rfl⟩ := Int.eq_ofNat_of_zero_le h0
  obtain ⟨j, rfl⟩ := Int.eq_ofNat_of_zero_le (show 0 ≤ j by omega)
  have hij : i < j := by omega
  have hjn : j ≤ n := by omega
  simp only [Int.toNat_natCast] at hΦ
  obtain ⟨u0, us, rfl, hu, hrest⟩ := relL_cons.1 hv
  obtain ⟨pre, junk, cap, hnc, _, hsc, hlen, hmc, hback⟩ := hm.opened hg hu (by omega)
  have hkb : ∃ e, β k = some e := by obtain ⟨e, h1, _⟩ := hu; exact ⟨e, h1⟩
  have hkn : k < nk := by
    obtain ⟨e, he⟩ := hkb
    rcases Nat.lt_or_ge k nk with h | h
    · exact h
    · rw [hk k h] at he; cases he
  rw [Nat.mul_one] at hsc
  have hgc := mget_mset_same (x := .cells t (pre.map SV.v ++ c ++ junk.map SV.v)) hg
  have hcl2 : closedL (pre.map SV.v ++ c ++ junk.map SV.v) := by rw [closedL_append, closedL_append]; exact ⟨⟨closedL_v _, hcl⟩, closedL_v _⟩
  have htri := tri211 (pre.map SV.v ++ c ++ junk.map SV.v) t (pre.length + lo) n cap i j hij hjn hnc (by simp; omega)
  have hrow : (pre.map SV.v ++ c ++ junk.map SV.v).take (pre.length + lo + i) ++ ((pre.map SV.v ++ c ++ junk.map SV.v).drop (pre.length + lo + j)).take (n - j) ++ List.replicate (j - i) (.v (.slice none 0 0)) ++ (pre.map SV.v ++ c ++ junk.map SV.v).drop (pre.length + lo + n) =
      pre.map SV.v ++ delR c lo n i j ++ junk.map SV.v := by
    have hp : (pre.map SV.v).length = pre.length := by simp
    rw [← hp]
    generalize pre.map SV.v = p
    generalize junk.map SV.v = q
    rw [List.append_assoc p c q, Nat.add_assoc, Nat.add_assoc, Nat.add_assoc, List.take_length_add_append, List.drop_length_add_append, List.drop_length_add_append,
      List.take_append_of_le_length (by omega), List.drop_append_of_le_length (by omega), List.drop_append_of_le_length (by omega), List.take_append_of_le_length (by simp; omega)]
    simp [delR]
  rw [hrow] at htri
  have hcl3 : closedL (delR c lo n i j) := by
    have hrep : ∀ m, closedL (List.replicate m (SV.v (.slice none 0 0))) := by
      intro m; induction m with
      | zero => trivial
      | succ m ih => exact ⟨trivial, ih⟩
    simp only [delR, closedL_append]
    exact ⟨⟨⟨closedL_take _ hcl, closedL_take _ (closedL_drop _ hcl)⟩, hrep _⟩, closedL_drop _ hcl⟩
  have hcl4 : closedL (pre.map SV.v ++ delR c lo n i j ++ junk.map SV.v) := by rw [closedL_append, closedL_append]; exact ⟨⟨closedL_v _, hcl3⟩, closedL_v _⟩
  refine (Tri.lift (Mn := mset M k (.cells t (pre.map SV.v ++ delR c lo n i j ++ junk.map SV.v))) (s := .sc k (pre.length + lo) (n - (j - i)) cap) (nk := nk) (nk' := nk) [(0, k)] [(k, 0)] htri hmc hk (relL_cons.2 ⟨u0, us, rfl, hsc, hrest⟩)
    ⟨by simp, by simp, by simp⟩ ⟨by show (match mget _ k with | some e' => RenEqE _ _ _ e' | none => False); rw [hgc]; exact ⟨_, rfl, RenEqL.closed _ hcl2⟩, trivial⟩ ?_ ?_ (Nat.le_refl _) ⟨by simp, by simp, by simp [hkn]⟩ ?_).mono ?_
  · exact ⟨_, _, rfl, ⟨k, rfl, rfl⟩, _, _, rfl, rfl, _, _, rfl, rfl, rfl⟩
  · intro i hi
    obtain rfl : i = 0 := by omega
    exact ⟨_, List.mem_cons_self ..⟩
  · rintro r M' ⟨rfl, hM'⟩
    refine ⟨_, rfl, ⟨0, by simp [rget], rfl⟩, fun k2 e2 h2 => ?_⟩
    rcases mem_mset h2 with ⟨rfl, rfl⟩ | ⟨hne, h2⟩
    · exact .inr ⟨0, _, by simp [rget], mget_mem hM', _, rfl, RenEqL.closed _ hcl4⟩
    · refine .inl ⟨?_, by simp; exact hne⟩
      exact mem_mset_other h2 hne
  · rintro e w' ⟨H', β', own', u, rfl, q1, q2, q3, q4, _, q6⟩
    obtain ⟨r1, r2⟩ := hback H' β' own' w' _ (delR c lo n i j) q3 (delR_len hij hjn hln) (mget_mset_same hg) q1
    rw [mset_mset] at r1
    rw [Nat.mul_one] at r2
    exact ⟨H', β', own', _, _, _, r1, q2, q3, q4, (fun h => by cases h), hΦ, u, rfl, r2 _ _ q6⟩
def m211 : Met Tryz.prog := ⟨211, false, D211, Tryz.call211, meth211⟩
end Go.Sx
