/-
  Ve: whether a list of bools holds one.
-/
import Derived.Test.YtbpggglkmdgpoaaGreatVd
import Derived.Test.YtbpggglkmdgpoaaGreatVb
set_option linter.all false
set_option linter.unusedSimpArgs false
set_option linter.unusedVariables false
namespace Go.Sx
open Go Go.Proofs
set_option maxRecDepth 100000

def bbC (l : List Bool) : List SV := l.map SV.bol
theorem bbC_get {l : List Bool} {i : Nat} (h : i < l.length) (d : SV) : (bbC l).getD i d = .bol l[i] := by
  simp [bbC, List.getD_eq_getElem?_getD, h]
def ixB (v : Bool) (l : List Bool) : Int := if v ∈ l then (l.idxOf v : Int) else -1
theorem ixB_at {v : Bool} {l : List Bool} {i : Nat} (h0 : i < l.length) (hn : v ∉ l.take i) (hv : v = l[i]) : ixB v l = i := by
  have hm : v ∈ l := by subst hv; simp
  unfold ixB
  rw [if_pos hm]
  have h1 : l.idxOf v = i := by
    have e : l = l.take i ++ l[i] :: l.drop (i + 1) := by simp
    rw [e, List.idxOf_append, if_neg hn, ← hv, List.idxOf_cons_self]
    simp; omega
  omega
theorem tri171 (l : List Bool) (v : Bool) (hb : l.length ≤ 1099511627776) : Tri Tryz.prog 171 [.rs l.length (bbC l), .bol v] [] 0 fun r M' => r = .ret (.int (ixB v l)) := by
  refine (Tri.enter L40 pl171 0 false 0 0 100000 Tryz.func171 (by kernel_rfl) (by simp [Tryz.f171]) (by intro k e h; simp at h <;> omega) ?_)
  ((conv => whnf); repeat ((first | refine And.intro (by (first | exact of_decide_eq_true rfl | exact trivial | omega | (simp; done) | (simp [-Int.natCast_add, oneOf, contC, cont, mget, lendsC, lendC, closedL, closed, flat, flatL, is8_map, is32_map, is64_map, closedL_w8, closedL_w32, closedL_w64, flatL_w8, flatL_w32, flatL_w64, closedL_append, flatL_append, mx0, slc, closedL_tk, closedL_dp]; done) | (simp [-Int.natCast_add, oneOf, contC, cont, mget, lendsC, lendC, closedL, closed, flat, flatL, is8_map, is32_map, is64_map, closedL_w8, closedL_w32, closedL_w64, flatL_w8, flatL_w32, flatL_w64, closedL_append, flatL_append, mx0, slc, closedL_tk, closedL_dp]; omega) | (simp [-Int.natCast_add, oneOf, contC, cont, mget, lendsC, lendC, closedL, closed, flat, flatL, is8_map, is32_map, is64_map, closedL_w8, closedL_w32, closedL_w64, flatL_w8, flatL_w32, flatL_w64, closedL_append, flatL_append, mx0, slc, closedL_tk, closedL_dp, spl]; done) | (simp [-Int.natCast_add, oneOf, contC, cont, mget, lendsC, lendC, closedL, closed, flat, flatL, is8_map, is32_map, is64_map, closedL_w8, closedL_w32, closedL_w64, flatL_w8, flatL_w32, flatL_w64, closedL_append, flatL_append, mx0, slc, closedL_tk, closedL_dp, spl]; omega))) ?_ | refine brP_t (by (first | rfl | (simp only [decide_eq_true_eq, decide_eq_false_iff_not, Bool.not_eq_true', Bool.not_eq_false', ne_eq]; first | omega | assumption) | (simp [-Int.natCast_add]; done) | (simp [-Int.natCast_add]; omega))) ?_ | refine brP_f (by (first | rfl | (simp only [decide_eq_true_eq, decide_eq_false_iff_not, Bool.not_eq_true', Bool.not_eq_false', ne_eq]; first | omega | assumption) | (simp [-Int.natCast_add]; done) | (simp [-Int.natCast_add]; omega))) ?_); (conv => whnf)))
  refine SatR.loopA (α := Nat) (fun i => i ≤ l.length ∧ v ∉ l.take i) (fun i => ([(0, .rs l.length (bbC l)), (1, .bol v), (7, .int l.length), (8, .int i)], [])) 0 (fun i => l.length - i) 0 [] ⟨Nat.zero_le _, by simp⟩ rfl ?_ 100000 ?_
  · (refine ⟨⟨rfl, rfl⟩, ?_, ?_⟩ <;> simp [-Int.natCast_add, autoR, keyS, entL, entM, look, mget, rget, RenEq, ren_cells, ren_buf, renL_nil, renL_cons, oneOf, cst, slotsOf])
  · rintro i ⟨hi, hn⟩
    have hbl : (bbC l).length = l.length := by simp [bbC]
    ((conv => whnf); repeat ((first | refine And.intro (by (first | exact of_decide_eq_true rfl | exact trivial | omega | (simp; done) | (simp [-Int.natCast_add, oneOf, contC, cont, mget, lendsC, lendC, closedL, closed, flat, flatL, is8_map, is32_map, is64_map, closedL_w8, closedL_w32, closedL_w64, flatL_w8, flatL_w32, flatL_w64, closedL_append, flatL_append, mx0, slc, closedL_tk, closedL_dp]; done) | (simp [-Int.natCast_add, oneOf, contC, cont, mget, lendsC, lendC, closedL, closed, flat, flatL, is8_map, is32_map, is64_map, closedL_w8, closedL_w32, closedL_w64, flatL_w8, flatL_w32, flatL_w64, closedL_append, flatL_append, mx0, slc, closedL_tk, closedL_dp]; omega) | (simp [-Int.natCast_add, oneOf, contC, cont, mget, lendsC, lendC, closedL, closed, flat, flatL, is8_map, is32_map, is64_map, closedL_w8, closedL_w32, closedL_w64, flatL_w8, flatL_w32, flatL_w64, closedL_append, flatL_append, mx0, slc, closedL_tk, closedL_dp, spl]; done) | (simp [-Int.natCast_add, oneOf, contC, cont, mget, lendsC, lendC, closedL, closed, flat, flatL, is8_map, is32_map, is64_map, closedL_w8, closedL_w32, closedL_w64, flatL_w8, flatL_w32, flatL_w64, closedL_append, flatL_append, mx0, slc, closedL_tk, closedL_dp, spl]; omega))) ?_ | refine brP_t (by (first | rfl | (simp only [decide_eq_true_eq, decide_eq_false_iff_not, Bool.not_eq_true', Bool.not_eq_false', ne_eq]; first | omega | assumption) | (simp [-Int.natCast_add]; done) | (simp [-Int.natCast_add]; omega))) ?_ | refine brP_f (by (first | rfl | (simp only [decide_eq_true_eq, decide_eq_false_iff_not, Bool.not_eq_true', Bool.not_eq_false', ne_eq]; first | omega | assumption) | (simp [-Int.natCast_add]; done) | (simp [-Int.natCast_add]; omega))) ?_); (conv => whnf)))
    refine brP_intro (fun h0 => ?_) (fun h0 => ?_) <;> (try simp [-Int.natCast_add, mx0] at h0)
    · have e : (bbC l).getD (((i : Nat) : Int).toNat * y4.size) y4.z0 = .bol (l[i]'h0) := by
        have : ((i : Nat) : Int).toNat * y4.size = i := by simp
        rw [this]; exact bbC_get h0 _
      ((conv => whnf); repeat ((first | refine And.intro (by (first | exact of_decide_eq_true rfl | exact trivial | omega | (simp [hbl]; done) | (simp [-Int.natCast_add, oneOf, contC, cont, mget, lendsC, lendC, closedL, closed, flat, flatL, is8_map, is32_map, is64_map, closedL_w8, closedL_w32, closedL_w64, flatL_w8, flatL_w32, flatL_w64, closedL_append, flatL_append, mx0, slc, closedL_tk, closedL_dp, hbl]; done) | (simp [-Int.natCast_add, oneOf, contC, cont, mget, lendsC, lendC, closedL, closed, flat, flatL, is8_map, is32_map, is64_map, closedL_w8, closedL_w32, closedL_w64, flatL_w8, flatL_w32, flatL_w64, closedL_append, flatL_append, mx0, slc, closedL_tk, closedL_dp, hbl]; omega) | (simp [-Int.natCast_add, oneOf, contC, cont, mget, lendsC, lendC, closedL, closed, flat, flatL, is8_map, is32_map, is64_map, closedL_w8, closedL_w32, closedL_w64, flatL_w8, flatL_w32, flatL_w64, closedL_append, flatL_append, mx0, slc, closedL_tk, closedL_dp, spl, hbl]; done) | (simp [-Int.natCast_add, oneOf, contC, cont, mget, lendsC, lendC, closedL, closed, flat, flatL, is8_map, is32_map, is64_map, closedL_w8, closedL_w32, closedL_w64, flatL_w8, flatL_w32, flatL_w64, closedL_append, flatL_append, mx0, slc, closedL_tk, closedL_dp, spl, hbl]; omega))) ?_ | refine brP_t (by (first | rfl | (simp only [decide_eq_true_eq, decide_eq_false_iff_not, Bool.not_eq_true', Bool.not_eq_false', ne_eq]; first | omega | assumption) | (simp [-Int.natCast_add]; done) | (simp [-Int.natCast_add]; omega))) ?_ | refine brP_f (by (first | rfl | (simp only [decide_eq_true_eq, decide_eq_false_iff_not, Bool.not_eq_true', Bool.not_eq_false', ne_eq]; first | omega | assumption) | (simp [-Int.natCast_add]; done) | (simp [-Int.natCast_add]; omega))) ?_); (conv => whnf)))
      rw [e]
      ((conv => whnf); repeat ((first | refine And.intro (by (first | exact of_decide_eq_true rfl | exact trivial | omega | (simp; done) | (simp [-Int.natCast_add, oneOf, contC, cont, mget, lendsC, lendC, closedL, closed, flat, flatL, is8_map, is32_map, is64_map, closedL_w8, closedL_w32, closedL_w64, flatL_w8, flatL_w32, flatL_w64, closedL_append, flatL_append, mx0, slc, closedL_tk, closedL_dp]; done) | (simp [-Int.natCast_add, oneOf, contC, cont, mget, lendsC, lendC, closedL, closed, flat, flatL, is8_map, is32_map, is64_map, closedL_w8, closedL_w32, closedL_w64, flatL_w8, flatL_w32, flatL_w64, closedL_append, flatL_append, mx0, slc, closedL_tk, closedL_dp]; omega) | (simp [-Int.natCast_add, oneOf, contC, cont, mget, lendsC, lendC, closedL, closed, flat, flatL, is8_map, is32_map, is64_map, closedL_w8, closedL_w32, closedL_w64, flatL_w8, flatL_w32, flatL_w64, closedL_append, flatL_append, mx0, slc, closedL_tk, closedL_dp, spl]; done) | (simp [-Int.natCast_add, oneOf, contC, cont, mget, lendsC, lendC, closedL, closed, flat, flatL, is8_map, is32_map, is64_map, closedL_w8, closedL_w32, closedL_w64, flatL_w8, flatL_w32, flatL_w64, closedL_append, flatL_append, mx0, slc, closedL_tk, closedL_dp, spl]; omega))) ?_ | refine brP_t (by (first | rfl | (simp only [decide_eq_true_eq, decide_eq_false_iff_not, Bool.not_eq_true', Bool.not_eq_false', ne_eq]; first | omega | assumption) | (simp [-Int.natCast_add]; done) | (simp [-Int.natCast_add]; omega))) ?_ | refine brP_f (by (first | rfl | (simp only [decide_eq_true_eq, decide_eq_false_iff_not, Bool.not_eq_true', Bool.not_eq_false', ne_eq]; first | omega | assumption) | (simp [-Int.natCast_add]; done) | (simp [-Int.natCast_add]; omega))) ?_); (conv => whnf)))
      by_cases hv : v = l[i]'h0
      · refine brP_t (by subst hv; simp) ?_
        ((conv => whnf); repeat ((first | refine And.intro (by (first | exact of_decide_eq_true rfl | exact trivial | omega | (simp; done) | (simp [-Int.natCast_add, oneOf, contC, cont, mget, lendsC, lendC, closedL, closed, flat, flatL, is8_map, is32_map, is64_map, closedL_w8, closedL_w32, closedL_w64, flatL_w8, flatL_w32, flatL_w64, closedL_append, flatL_append, mx0, slc, closedL_tk, closedL_dp]; done) | (simp [-Int.natCast_add, oneOf, contC, cont, mget, lendsC, lendC, closedL, closed, flat, flatL, is8_map, is32_map, is64_map, closedL_w8, closedL_w32, closedL_w64, flatL_w8, flatL_w32, flatL_w64, closedL_append, flatL_append, mx0, slc, closedL_tk, closedL_dp]; omega) | (simp [-Int.natCast_add, oneOf, contC, cont, mget, lendsC, lendC, closedL, closed, flat, flatL, is8_map, is32_map, is64_map, closedL_w8, closedL_w32, closedL_w64, flatL_w8, flatL_w32, flatL_w64, closedL_append, flatL_append, mx0, slc, closedL_tk, closedL_dp, spl]; done) | (simp [-Int.natCast_add, oneOf, contC, cont, mget, lendsC, lendC, closedL, closed, flat, flatL, is8_map, is32_map, is64_map, closedL_w8, closedL_w32, closedL_w64, flatL_w8, flatL_w32, flatL_w64, closedL_append, flatL_append, mx0, slc, closedL_tk, closedL_dp, spl]; omega))) ?_ | refine brP_t (by (first | rfl | (simp only [decide_eq_true_eq, decide_eq_false_iff_not, Bool.not_eq_true', Bool.not_eq_false', ne_eq]; first | omega | assumption) | (simp [-Int.natCast_add]; done) | (simp [-Int.natCast_add]; omega))) ?_ | refine brP_f (by (first | rfl | (simp only [decide_eq_true_eq, decide_eq_false_iff_not, Bool.not_eq_true', Bool.not_eq_false', ne_eq]; first | omega | assumption) | (simp [-Int.natCast_add]; done) | (simp [-Int.natCast_add]; omega))) ?_); (conv => whnf)))
        rw [ixB_at h0 hn hv]
        rfl
      · refine brP_f (by simpa using hv) ?_
        ((conv => whnf); repeat ((first | refine And.intro (by (first | exact of_decide_eq_true rfl | exact trivial | omega | (simp; done) | (simp [-Int.natCast_add, oneOf, contC, cont, mget, lendsC, lendC, closedL, closed, flat, flatL, is8_map, is32_map, is64_map, closedL_w8, closedL_w32, closedL_w64, flatL_w8, flatL_w32, flatL_w64, closedL_append, flatL_append, mx0, slc, closedL_tk, closedL_dp]; done) | (simp [-Int.natCast_add, oneOf, contC, cont, mget, lendsC, lendC, closedL, closed, flat, flatL, is8_map, is32_map, is64_map, closedL_w8, closedL_w32, closedL_w64, flatL_w8, flatL_w32, flatL_w64, closedL_append, flatL_append, mx0, slc, closedL_tk, closedL_dp]; omega) | (simp [-Int.natCast_add, oneOf, contC, cont, mget, lendsC, lendC, closedL, closed, flat, flatL, is8_map, is32_map, is64_map, closedL_w8, closedL_w32, closedL_w64, flatL_w8, flatL_w32, flatL_w64, closedL_append, flatL_append, mx0, slc, closedL_tk, closedL_dp, spl]; done) | (simp [-Int.natCast_add, oneOf, contC, cont, mget, lendsC, lendC, closedL, closed, flat, flatL, is8_map, is32_map, is64_map, closedL_w8, closedL_w32, closedL_w64, flatL_w8, flatL_w32, flatL_w64, closedL_append, flatL_append, mx0, slc, closedL_tk, closedL_dp, spl]; omega))) ?_ | refine brP_t (by (first | rfl | (simp only [decide_eq_true_eq, decide_eq_false_iff_not, Bool.not_eq_true', Bool.not_eq_false', ne_eq]; first | omega | assumption) | (simp [-Int.natCast_add]; done) | (simp [-Int.natCast_add]; omega))) ?_ | refine brP_f (by (first | rfl | (simp only [decide_eq_true_eq, decide_eq_false_iff_not, Bool.not_eq_true', Bool.not_eq_false', ne_eq]; first | omega | assumption) | (simp [-Int.natCast_add]; done) | (simp [-Int.natCast_add]; omega))) ?_); (conv => whnf)))
        refine ⟨i + 1, [], ⟨h0, ?_⟩, by omega, ?_⟩
        · intro hm
          rw [List.take_add_one, List.mem_append] at hm
          rcases hm with hm | hm
          · exact hn hm
          · rw [List.getElem?_eq_getElem h0] at hm
            exact hv (by simpa using hm)
        · (refine ⟨⟨rfl, rfl⟩, ?_, ?_⟩ <;> simp [-Int.natCast_add, autoR, keyS, entL, entM, look, mget, rget, RenEq, ren_cells, ren_buf, renL_nil, renL_cons, oneOf, cst, wi_eq])
          exact wi_eq (by omega) (by omega)
    · obtain rfl : i = l.length := by omega
      rw [List.take_length] at hn
      rw [show ixB v l = -1 from if_neg hn]
      rfl
def isB : SV → Bool | .bol _ => true | _ => false
def toB : SV → Bool | .bol x => x | _ => false
def byB (l : List SV) : List Bool := l.map toB
theorem of_isB : ∀ {l : List SV}, l.all isB = true → l = bbC (byB l)
  | [], _ => rfl
  | x :: l, h => by
    simp only [List.all_cons, Bool.and_eq_true] at h
    have := of_isB h.2
    have h1 := h.1
    cases x <;> simp [isB] at h1
    exact congrArg _ this
theorem byB_len (l : List SV) : (byB l).length = l.length := by simp [byB]
theorem byB_bb (l : List Bool) : byB (bbC l) = l := by simp [byB, bbC, Function.comp_def, toB]
theorem isB_bb (l : List Bool) : (bbC l).all isB = true := by simp [bbC, isB]
def g171 : List SV → Option (Prop × SV)
  | [.rs n c, .bol v] => some (c.length = n ∧ c.all isB = true ∧ n ≤ 1099511627776, .int (ixB v (byB c)))
  | _ => none
def c171 : Con Tryz.prog := ⟨171, g171, gok Tryz.call171 fun args p r h hp => by
  unfold g171 at h
  split at h <;> cases h
  rename_i n c v
  obtain ⟨rfl, h1, h2⟩ := hp
  have e := of_isB h1
  have hl := byB_len c
  refine Pure.flat trivial ?_
  have := tri171 (byB c) v (by omega)
  rw [hl, ← e] at this
  exact this⟩
def Lc171 : Lib Tryz.prog := L40.addC c171

def m87 : Met Tryz.prog := Met.inl Lc171 87 Tryz.f87 pl87 0 false 0 100000 Tryz.func87 Tryz.call87 (by kernel_rfl)
def L87 : Lib Tryz.prog := Lc171.addM m87

def Lm211 : Lib Tryz.prog := L87.addM m211

def Lc18 : Lib Tryz.prog := Lm211.addC c18

def Lc31 : Lib Tryz.prog := Lc18.addC c31

def m32 : Met Tryz.prog := Met.inl Lc31 32 Tryz.f32 pl32 0 false 0 100000 Tryz.func32 Tryz.call32 (by kernel_rfl)
def L32 : Lib Tryz.prog := Lc31.addM m32

def d27 : Dfr Tryz.prog := Dfr.inl L32 27 Tryz.f27 pl27 100000 Tryz.func27 Tryz.call27 (by rfl) (by rfl) (by kernel_rfl) (by decide)
def L27 : Lib Tryz.prog := L32.addF d27

end Go.Sx
