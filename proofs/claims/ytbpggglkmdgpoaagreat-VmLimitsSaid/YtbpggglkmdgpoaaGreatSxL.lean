/-
  SxL: regions whose order is drawn.
-/
import Derived.Test.YtbpggglkmdgpoaaGreatSxH
set_option linter.all false
set_option linter.unusedSimpArgs false
set_option linter.unusedVariables false
namespace Go.Sx
open Go

section
variable {hd : FuncId → Option Bool} {P : Program} {ops : Array Oper} {Q : Exit → Act → World → Prop} {md : Region.Mode}

/-- One operation; and one that is soft turns nothing. -/
def wpOpX (hd : FuncId → Option Bool) (P : Program) (ops : Array Oper) (Q : Exit → Act → World → Prop) (i : Nat) (K : Act → World → Prop) (a : Act) (w : World) : Prop :=
  wpOp P ops Q i (fun a' w' => ((∃ o, ops[i]? = some o ∧ soft hd o.op = true) → Ext w w') ∧ K a' w') a w

def wpAnyX (hd : FuncId → Option Bool) (P : Program) (md : Region.Mode) (ops : Array Oper) (Q : Exit → Act → World → Prop) : Nat → Array Bool → Act → World → Prop
  | 0, listed, a, w => Region.ready md ops listed = [] ∧ Q .normal a w
  | fuel + 1, listed, a, w =>
    (Region.ready md ops listed = [] → Q .normal a w) ∧
    ∀ i ∈ Region.ready md ops listed, wpOpX hd P ops Q i (wpAnyX hd P md ops Q fuel (listed.setIfInBounds i true)) a w

theorem wpAny_of_X : ∀ (fuel : Nat) (listed : Array Bool) (a : Act) (w : World), wpAnyX hd P md ops Q fuel listed a w → wpAny P md ops Q fuel listed a w
  | 0, _, _, _, h => h
  | fuel + 1, listed, a, w, h => ⟨h.1, fun i hi => wpOp_mono (fun a' w' hh => wpAny_of_X fuel _ a' w' hh.2) (h.2 i hi)⟩

/-- A value: the same whatever comes ahead. -/
def YieldsX (P : Program) (ops : Array Oper) (r : Bool) (o : Oper) (v : Value) (a : Act) (w : World) : Prop :=
  (Region.wanted o (yielded ops a.tmps) = true ∧ ∀ w', (r = true ∨ Ext w w') → (execOp a.eval o).run P w' = .ok (.value v) w') ∨
  (Region.wanted o (yielded ops a.tmps) = false ∧ v = undef)

theorem YieldsX.wpOpX {r : Bool} {i : Nat} {o : Oper} {v : Value} {a : Act} {w : World} (hi : ops[i]? = some o) (hy : YieldsX P ops r o v a w)
    {K : Act → World → Prop} (h : K (a.put o.dst v) w) : wpOpX hd P ops Q i K a w := by
  unfold Sx.wpOpX wpOp
  simp only [hi]
  rcases hy with ⟨hw, hv⟩ | ⟨hw, rfl⟩
  · simp only [hw, if_true, Oper.wp, hv w (.inr (Ext.refl w)), Oper.upon]; exact .inl ⟨fun _ => Ext.refl w, h⟩
  · simp only [hw, Bool.false_eq_true, if_false]; exact ⟨fun _ => Ext.refl w, h⟩

theorem YieldsX.of_same {r : Bool} {o : Oper} {v : Value} {a a' : Act} {w w' : World} (hy : YieldsX P ops r o v a w) (he : execOp a'.eval o = execOp a.eval o)
    (hw : Region.wanted o (yielded ops a'.tmps) = Region.wanted o (yielded ops a.tmps)) (hx : r = true ∨ Ext w w') : YieldsX P ops r o v a' w' := by
  unfold YieldsX at *
  rw [he, hw]
  refine hy.imp (fun h => ⟨h.1, fun w'' hh => h.2 w'' ?_⟩) id
  rcases hx with hx | hx
  · exact .inl hx
  · rcases hh with hh | hh
    · exact .inl hh
    · exact .inr (hx.trans hh)

theorem wpOpX_put {r : Bool} {j : Nat} {oi oj : Oper} {v : Value} (hj : ops[j]? = some oj) (hap : oi.apart ops oj = true)
    (hsi : ∀ cs b, oi.op ≠ .select cs b) (hsj : ∀ cs b, oj.op ≠ .select cs b) (hrs : r = true ∨ soft hd oj.op = true)
    (hQ : ∀ c a w, Q (.panic c) (a.put oi.dst v) w → Q (.panic c) a w) {K : Act → World → Prop} {a : Act} {w : World}
    (hy : YieldsX P ops r oi v a w) (h : wpOpX hd P ops Q j K (a.put oi.dst v) w) :
    wpOpX hd P ops Q j (fun a' w' => YieldsX P ops r oi v a' w' ∧ K (a'.put oi.dst v) w') a w := by
  obtain ⟨h1, h2, h3⟩ := Oper.apart_spec hap
  have hx : ∀ w', ((∃ o, ops[j]? = some o ∧ soft hd o.op = true) → Ext w w') → r = true ∨ Ext w w' := fun w' hh => hrs.imp id fun hs => hh ⟨oj, hj, hs⟩
  have keep : ∀ w', (r = true ∨ Ext w w') → ∀ u, YieldsX P ops r oi v (a.put oj.dst u) w' := fun w' hx u =>
    hy.of_same (execOp_put oi hsi a oj.dst u h3) (wanted_put oi a oj.dst u h3) hx
  have keepD : ∀ w' d, (r = true ∨ Ext w w') → YieldsX P ops r oi v ({ a with defers := d :: a.defers }.put oj.dst undef) w' := fun w' d hx =>
    (hy.of_same (a' := { a with defers := d :: a.defers }) rfl rfl hx).of_same (execOp_put oi hsi _ oj.dst undef h3) (wanted_put oi _ oj.dst undef h3) (.inr (Ext.refl w'))
  unfold wpOpX wpOp at *
  simp only [hj] at *
  rw [wanted_put oj a oi.dst v h1] at h
  split
  · rename_i hw
    simp only [hw, if_true] at h
    rcases h with h | ⟨hasks, hlets⟩
    case inr => exact .inr ⟨by unfold Oper.asks at *; rw [execOp_put oj hsj a oi.dst v h1] at hasks; exact hasks, hlets⟩
    refine .inl ?_
    unfold Oper.wp at *
    rw [execOp_put oj hsj a oi.dst v h1] at h
    generalize (execOp a.eval oj).run P w = q at *
    cases q with
    | ok n w' =>
      cases n <;> simp only [Oper.upon] at h ⊢
      case value u => exact ⟨h.1, keep _ (hx _ h.1) u, by rw [← Act.put_comm a v u h2]; exact h.2⟩
      case skip => exact ⟨h.1, keep _ (hx _ h.1) _, by rw [← Act.put_comm a v undef h2]; exact h.2⟩
      case defer d =>
        refine ⟨h.1, keepD _ _ (hx _ h.1), ?_⟩
        rw [← Act.put_comm _ v undef h2, ← Act.put_defers]
        exact h.2
      case enter f args =>
        refine Calls.mono h fun e w'' he => ?_
        cases e with
        | returned u => exact ⟨he.1, keep _ (hx _ he.1) u, by rw [← Act.put_comm a v u h2]; exact he.2⟩
        | panicked c => exact hQ _ _ _ he
        | outgrown => exact he
      case row row args => exact Rows.mono h fun u w'' he => ⟨he.1, keep _ (hx _ he.1) u, by rw [← Act.put_comm a v u h2]; exact he.2⟩
    | halt x w' =>
      cases x <;> simp only [Oper.upon] at h ⊢
      case panic u => exact hQ _ _ _ h
  · rename_i hw
    simp only [hw] at h
    exact ⟨h.1, keep _ (hx _ h.1) _, by rw [← Act.put_comm a v undef h2]; exact h.2⟩

theorem wpOpX_mono {i : Nat} {a : Act} {w : World} {K K' : Act → World → Prop} (h : ∀ a w, K a w → K' a w) (hh : wpOpX hd P ops Q i K a w) : wpOpX hd P ops Q i K' a w :=
  wpOp_mono (fun a w h' => ⟨h'.1, h a w h'.2⟩) hh

theorem wpAnyX_first {r : Bool} {i : Nat} {oi : Oper} {v : Value} (hi : ops[i]? = some oi) (hsel : ∀ (j : Nat) (o : Oper) cs b, ops[j]? = some o → o.op ≠ .select cs b)
    (hQ : ∀ c a w, Q (.panic c) (a.put oi.dst v) w → Q (.panic c) a w) (D : Nat → Bool) (hD : ∀ j, D j = true → j < ops.size) :
    ∀ (fuel : Nat) (listed : Array Bool) (a : Act) (w : World), listed.size = ops.size →
      (∀ j oj, ops[j]? = some oj → D j = false → listed.getD j true = false → oi.apart ops oj = true ∧ (r = true ∨ soft hd oj.op = true)) →
      (∀ j oj, ops[j]? = some oj → D j = true → listed.getD j true = false ∧ (j ≠ i → ∃ e ∈ oj.after, Region.binds md e = true ∧ D e.on = true)) →
      i ∈ Region.ready md ops listed → YieldsX P ops r oi v a w →
      wpAnyX hd P md ops Q fuel (listed.setIfInBounds i true) (a.put oi.dst v) w → wpAnyX hd P md ops Q (fuel + 1) listed a w := by
  intro fuel
  induction fuel with
  | zero =>
    intro listed a w hsz _ _ hr hy H
    refine ⟨fun h => (by rw [h] at hr; cases hr), fun j hj => ?_⟩
    by_cases hji : j = i
    · subst hji; exact hy.wpOpX hi H
    · have := ready_mono hj hji
      rw [H.1] at this
      cases this
  | succ fuel ih =>
    intro listed a w hsz hfree hdesc hr hy H
    refine ⟨fun h => (by rw [h] at hr; cases hr), fun j hj => ?_⟩
    by_cases hji : j = i
    · subst hji; exact hy.wpOpX hi H
    · have h1 := H.2 j (ready_mono hj hji)
      obtain ⟨hjun, oj, hoj, hall⟩ := mem_ready.1 hj
      have hDj : D j = false := by
        cases hd : D j with
        | false => rfl
        | true =>
          obtain ⟨_, h4⟩ := hdesc j oj hoj hd
          obtain ⟨e, he, hb, hde⟩ := h4 hji
          have h5 := hall e he hb
          have h6 := hD _ hde
          obtain ⟨h7, _⟩ := hdesc e.on ops[e.on] (by simp [h6]) hde
          have h8 : e.on < listed.size := by omega
          simp [h8] at h5 h7
          rw [h5] at h7; cases h7
      obtain ⟨hap, hrs⟩ := hfree j oj hoj hDj hjun
      have h2 := wpOpX_put hoj hap (fun cs b => hsel i oi cs b hi) (fun cs b => hsel j oj cs b hoj) hrs hQ hy h1
      refine wpOpX_mono (fun a' w' h3 => ih (listed.setIfInBounds j true) a' w' (by simpa using hsz) ?_ ?_ (ready_mono hr (Ne.symm hji)) h3.1 ?_) h2
      · intro k ok hk hdk hun
        refine hfree k ok hk hdk ?_
        by_cases hjk : j = k
        · subst hjk; exact hjun
        · rw [getD_set_ne true hjk] at hun; exact hun
      · intro k ok hk hdk
        obtain ⟨h4, h5⟩ := hdesc k ok hk hdk
        have hjk : j ≠ k := fun e => by subst e; rw [hDj] at hdk; cases hdk
        exact ⟨by rw [getD_set_ne true hjk]; exact h4, h5⟩
      · rw [Array.setIfInBounds_comm _ _ hji]
        exact h3.2

/-! ### Plans -/
/-- One operation that is not taken first. -/
def wpAct (hd : FuncId → Option Bool) (P : Program) (ops : Array Oper) (Q : Exit → Act → World → Prop) (o : Oper) (K : Act → World → Prop) (a : Act) (w : World) : Prop :=
  if Region.wanted o (yielded ops a.tmps) = true then o.wp P a w (fun a' w' => (soft hd o.op = true → Ext w w') ∧ K a' w') Q else K (a.put o.dst undef) w
mutual
def wpT (hd : FuncId → Option Bool) (P : Program) (ops : Array Oper) (Q : Exit → Act → World → Prop) : Tr → Act → World → Prop
  | .done, a, w => Q .normal a w
  | .take r i t, a, w => match ops[i]? with
    | none => False
    | some o => ∃ v, YieldsX P ops r o v a w ∧ wpT hd P ops Q t (a.put o.dst v) w
  | .br l, a, w => wpB hd P ops Q l a w
def wpB (hd : FuncId → Option Bool) (P : Program) (ops : Array Oper) (Q : Exit → Act → World → Prop) : Brs → Act → World → Prop
  | .nil, _, _ => True
  | .cons i t l, a, w => (match ops[i]? with
    | none => False
    | some o => wpAct hd P ops Q o (wpT hd P ops Q t) a w) ∧ wpB hd P ops Q l a w
end

theorem wpAct_X {i : Nat} {o : Oper} (hi : ops[i]? = some o) {K : Act → World → Prop} {a : Act} {w : World} (h : wpAct hd P ops Q o K a w) : wpOpX hd P ops Q i K a w := by
  unfold wpAct at h
  unfold wpOpX wpOp
  simp only [hi]
  split
  · rename_i hw
    rw [if_pos hw] at h
    exact .inl (Oper.wp_mono (fun a' w' hh => ⟨fun ⟨o', ho', hs⟩ => by cases ho'; exact hh.1 hs, hh.2⟩) h)
  · rename_i hw
    rw [if_neg hw] at h
    exact ⟨fun _ => Ext.refl w, h⟩

def Brs.heads : Brs → List Nat
  | .nil => []
  | .cons i _ l => i :: l.heads

/-! ### The same looks by numbers: the kernel reckons them fast -/
structure OM where
  a : Nat
  r : Nat
  d : Nat
  s : Bool
  g : Bool
def bits (l : List Nat) : Nat := l.foldr (fun t m => m ||| 2 ^ t) 0
theorem bits_has : ∀ (l : List Nat) (t : Nat), (bits l).testBit t = l.contains t
  | [], t => by simp [bits]
  | x :: l, t => by
    have := bits_has l t
    simp only [bits, List.foldr_cons, Nat.testBit_or, Nat.testBit_two_pow] at *
    rw [this]
    by_cases h : t = x
    · subst h; simp
    · have h2 : ¬ x = t := fun e => h e.symm
      simp [h, h2]
def afterL (md : Region.Mode) (o : Oper) : List Nat := (o.after.toList.filter fun e => Region.binds md e).map (·.on)
def omOf (hd : FuncId → Option Bool) (md : Region.Mode) (ops : Array Oper) (o : Oper) : OM :=
  ⟨bits (afterL md o), bits (o.looksAt ops), bits o.dst.toList, soft hd o.op, regB o.op⟩

def allIx (p : Nat → OM → Bool) : List OM → Nat → Bool
  | [], _ => true
  | x :: l, i => p i x && allIx p l (i + 1)
theorem allIx_spec {p : Nat → OM → Bool} : ∀ (l : List OM) (i j : Nat) (x : OM), allIx p l i = true → l[j]? = some x → p (i + j) x = true
  | [], i, j, x, _, h => by simp at h
  | y :: l, i, 0, x, hh, h => by
    simp only [allIx, Bool.and_eq_true] at hh
    simp at h; subst h; exact hh.1
  | y :: l, i, j + 1, x, hh, h => by
    simp only [allIx, Bool.and_eq_true] at hh
    have := allIx_spec l (i + 1) j x hh.2 (by simpa using h)
    rw [show i + (j + 1) = i + 1 + j by omega]; exact this
theorem allIx_of {p : Nat → OM → Bool} : ∀ (l : List OM) (i : Nat), (∀ j x, l[j]? = some x → p (i + j) x = true) → allIx p l i = true
  | [], i, h => rfl
  | y :: l, i, h => by
    simp only [allIx, Bool.and_eq_true]
    refine ⟨h 0 y (by simp), allIx_of l (i + 1) fun j x hx => ?_⟩
    rw [show i + 1 + j = i + (j + 1) by omega]
    exact h (j + 1) x (by simpa using hx)
def behindM (i : Nat) : List OM → Nat → Nat → Nat
  | [], _, d => d
  | x :: l, j, d => behindM i l (j + 1) (if j == i || (x.a &&& d) != 0 then d ||| 2 ^ j else d)
def takeM (l : List OM) (n m : Nat) (r : Bool) (i D : Nat) : Bool :=
  match l[i]? with
  | none => false
  | some x => decide (D < 2 ^ n) && !m.testBit i && (x.a &&& m) == x.a && (!r || x.g) &&
    allIx (fun j y => if D.testBit j then !m.testBit j && (j == i || (y.a &&& D) != 0) else m.testBit j || ((x.d &&& (y.r ||| y.d)) == 0 && (y.d &&& x.r) == 0 && (r || y.s))) l 0
mutual
def okN (l : List OM) (n : Nat) : Nat → Nat → Tr → Bool
  | _, m, .done => allIx (fun j y => m.testBit j || (y.a &&& m) != y.a) l 0
  | 0, _, _ => false
  | f + 1, m, .take r i t => takeM l n m r i (behindM i l 0 0) && okN l n f (m ||| 2 ^ i) t
  | f + 1, m, .br b => !b.heads.isEmpty && allIx (fun j y => m.testBit j || (y.a &&& m) != y.a || b.heads.contains j) l 0 && !(allIx (fun j y => m.testBit j || (y.a &&& m) != y.a) l 0) && okNB l n f m b
def okNB (l : List OM) (n : Nat) : Nat → Nat → Brs → Bool
  | _, _, .nil => true
  | f, m, .cons i t b => decide (i < n) && okN l n f (m ||| 2 ^ i) t && okNB l n f m b
end
def okP (hd : FuncId → Option Bool) (md : Region.Mode) (ops : Array Oper) (t : Tr) : Bool :=
  okN (ops.toList.map (omOf hd md ops)) ops.size ops.size 0 t

/-- A mask for what is listed. -/
structure Lst (n : Nat) (listed : Array Bool) (m : Nat) : Prop where
  size : listed.size = n
  lt : m < 2 ^ n
  get : ∀ j, j < n → listed[j]? = some (m.testBit j)
theorem Lst.getT {n : Nat} {listed : Array Bool} {m j : Nat} (h : Lst n listed m) (d : Bool) (hj : j < n) : listed.getD j d = m.testBit j := by simp [h.get j hj]
theorem Lst.set {n : Nat} {listed : Array Bool} {m i : Nat} (h : Lst n listed m) (hi : i < n) : Lst n (listed.setIfInBounds i true) (m ||| 2 ^ i) := by
  refine ⟨by simpa using h.size, ?_, fun j hj => ?_⟩
  · exact Nat.or_lt_two_pow h.lt (Nat.pow_lt_pow_right (by omega) hi)
  · rw [Array.getElem?_setIfInBounds]
    split
    · rename_i hij; subst hij
      have : i < listed.size := by rw [h.size]; exact hi
      simp [this]
    · rename_i hij
      rw [h.get j hj, Nat.testBit_or, Nat.testBit_two_pow]
      simp [hij]
theorem land_eq {a m : Nat} (h : (a &&& m) = a) {j : Nat} (hj : a.testBit j = true) : m.testBit j = true := by
  have := congrArg (·.testBit j) h
  simp only [Nat.testBit_and, hj, Bool.true_and] at this
  exact this
theorem land_ne {a m : Nat} (h : (a &&& m) ≠ a) : ∃ j, a.testBit j = true ∧ m.testBit j = false := by
  by_cases hx : ∃ j, a.testBit j = true ∧ m.testBit j = false
  · exact hx
  · exfalso
    apply h
    apply Nat.eq_of_testBit_eq
    intro j
    rw [Nat.testBit_and]
    cases ha : a.testBit j with
    | false => rfl
    | true =>
      cases hm : m.testBit j with
      | true => rfl
      | false => exact absurd ⟨j, ha, hm⟩ hx
theorem land_some {a m : Nat} (h : (a &&& m) ≠ 0) : ∃ j, a.testBit j = true ∧ m.testBit j = true := by
  obtain ⟨j, hj⟩ := Nat.exists_testBit_of_ne_zero h
  rw [Nat.testBit_and, Bool.and_eq_true] at hj
  exact ⟨j, hj⟩
theorem land_zero {a m : Nat} (h : (a &&& m) = 0) {j : Nat} (hj : a.testBit j = true) : m.testBit j = false := by
  have := congrArg (·.testBit j) h
  simpa [Nat.testBit_and, hj] using this

theorem om_get {i : Nat} {o : Oper} (ho : ops[i]? = some o) : (ops.toList.map (omOf hd md ops))[i]? = some (omOf hd md ops o) := by simp [ho]
theorem om_get' {i : Nat} {x : OM} (hx : (ops.toList.map (omOf hd md ops))[i]? = some x) : ∃ o, ops[i]? = some o ∧ x = omOf hd md ops o := by
  simp only [List.getElem?_map, Array.getElem?_toList, Option.map_eq_some_iff] at hx
  obtain ⟨o, h1, h2⟩ := hx
  exact ⟨o, h1, h2.symm⟩

theorem ready_iff {listed : Array Bool} {m : Nat} (hL : Lst ops.size listed m) {i : Nat} {o : Oper} (ho : ops[i]? = some o) :
    i ∈ Region.ready md ops listed ↔ (m.testBit i = false ∧ ((omOf hd md ops o).a &&& m) = (omOf hd md ops o).a) := by
  have hi : i < ops.size := (Array.getElem?_eq_some_iff.1 ho).1
  rw [mem_ready]
  constructor
  · rintro ⟨h1, o', ho', h2⟩
    rw [ho] at ho'; cases ho'
    rw [hL.getT true hi] at h1
    refine ⟨h1, ?_⟩
    apply Nat.eq_of_testBit_eq
    intro j
    rw [Nat.testBit_and]
    cases hj : (omOf hd md ops o).a.testBit j with
    | false => rfl
    | true =>
      simp only [omOf, bits_has, List.contains_iff_mem, afterL, List.mem_map, List.mem_filter] at hj
      obtain ⟨e, ⟨he, hb⟩, rfl⟩ := hj
      have h3 := h2 e (by simpa using he) hb
      have hlt : e.on < ops.size := by
        rcases Nat.lt_or_ge e.on listed.size with h | h
        · rw [← hL.size]; exact h
        · simp [Array.getElem?_eq_none h] at h3
      rw [hL.getT false hlt] at h3
      simpa using h3
  · rintro ⟨h1, h2⟩
    refine ⟨by rw [hL.getT true hi]; exact h1, o, ho, fun e he hb => ?_⟩
    have hbit : (omOf hd md ops o).a.testBit e.on = true := by
      simp only [omOf, bits_has, List.contains_iff_mem, afterL, List.mem_map, List.mem_filter]
      exact ⟨e, ⟨by simpa using he, hb⟩, rfl⟩
    have h3 := land_eq h2 hbit
    have hlt : e.on < ops.size := by
      rcases Nat.lt_or_ge e.on ops.size with h | h
      · exact h
      · have := Nat.testBit_lt_two_pow (Nat.lt_of_lt_of_le hL.lt (Nat.pow_le_pow_right (by omega) h))
        rw [this] at h3; cases h3
    rw [hL.getT false hlt]; exact h3

theorem apart_of {x y : Oper} (h1 : ((omOf hd md ops x).d &&& ((omOf hd md ops y).r ||| (omOf hd md ops y).d)) = 0) (h2 : ((omOf hd md ops y).d &&& (omOf hd md ops x).r) = 0) : x.apart ops y = true := by
  unfold Oper.apart
  rw [Bool.and_eq_true]
  constructor
  · split
    · rename_i d hd'
      have hb : (omOf hd md ops x).d.testBit d = true := by simp [omOf, bits_has, hd']
      have := land_zero h1 hb
      simp only [Nat.testBit_or, Bool.or_eq_false_iff, omOf, bits_has] at this
      rw [Bool.and_eq_true]
      refine ⟨by rw [this.1]; rfl, ?_⟩
      have h3 := this.2
      cases hy : y.dst with
      | none => rfl
      | some e =>
        rw [hy] at h3
        simp at h3
        simp only [bne_iff_ne, ne_eq, Option.some.injEq]
        exact fun hh => h3 hh.symm
    · rfl
  · split
    · rename_i d hd'
      have hb : (omOf hd md ops y).d.testBit d = true := by simp [omOf, bits_has, hd']
      have := land_zero h2 hb
      simp only [omOf, bits_has] at this
      rw [this]; rfl
    · rfl

theorem none_ready {listed : Array Bool} {m : Nat} (hL : Lst ops.size listed m) (hok : allIx (fun j y => m.testBit j || (y.a &&& m) != y.a) (ops.toList.map (omOf hd md ops)) 0 = true) : Region.ready md ops listed = [] := by
  apply List.eq_nil_iff_forall_not_mem.2
  intro i hi
  obtain ⟨_, o, ho, _⟩ := mem_ready.1 hi
  have h1 := (ready_iff (hd := hd) hL ho).1 hi
  have h2 := allIx_spec _ 0 i _ hok (om_get ho)
  simp only [Nat.zero_add, Bool.or_eq_true, bne_iff_ne, ne_eq] at h2
  rcases h2 with h2 | h2
  · rw [h1.1] at h2; cases h2
  · exact h2 h1.2

mutual
theorem wpN_sound (hsel : ∀ (j : Nat) (o : Oper) cs b, ops[j]? = some o → o.op ≠ .select cs b) (hQ : ∀ c a w d v, Q (.panic c) (a.put d v) w → Q (.panic c) a w) :
    ∀ (t : Tr) (f : Nat) (listed : Array Bool) (m : Nat) (a : Act) (w : World), Lst ops.size listed m → okN (ops.toList.map (omOf hd md ops)) ops.size f m t = true → wpT hd P ops Q t a w → wpAnyX hd P md ops Q f listed a w
  | .done, f, listed, m, a, w, hL, hok, h => by
    have hr : Region.ready md ops listed = [] := none_ready (hd := hd) hL (by simpa [okN] using hok)
    cases f with
    | zero => exact ⟨hr, h⟩
    | succ f => exact ⟨fun _ => h, by rw [hr]; simp⟩
  | .take r i t, 0, listed, m, a, w, hL, hok, h => by simp [okN] at hok
  | .br l, 0, listed, m, a, w, hL, hok, h => by simp [okN] at hok
  | .take r i t, f + 1, listed, m, a, w, hL, hok, h => by
    simp only [okN, Bool.and_eq_true] at hok
    obtain ⟨hok1, hok2⟩ := hok
    simp only [wpT] at h
    generalize behindM i (ops.toList.map (omOf hd md ops)) 0 0 = D at hok1
    unfold takeM at hok1
    split at hok1
    · cases hok1
    · rename_i x hx
      obtain ⟨o, ho, rfl⟩ := om_get' hx
      have hi : i < ops.size := (Array.getElem?_eq_some_iff.1 ho).1
      simp only [Bool.and_eq_true, decide_eq_true_eq, beq_iff_eq, Bool.not_eq_true'] at hok1
      obtain ⟨⟨⟨⟨q1, q2⟩, q3⟩, q4⟩, q5⟩ := hok1
      rw [ho] at h
      obtain ⟨v, hy, h⟩ := h
      have hDlt : ∀ j, D.testBit j = true → j < ops.size := fun j hj => by
        rcases Nat.lt_or_ge j ops.size with h | h
        · exact h
        · have := Nat.testBit_lt_two_pow (Nat.lt_of_lt_of_le q1 (Nat.pow_le_pow_right (by omega) h))
          rw [this] at hj; cases hj
      refine wpAnyX_first ho hsel (fun c a w => hQ c a w _ _) (fun j => D.testBit j) hDlt f listed a w hL.size ?_ ?_ ((ready_iff (hd := hd) hL ho).2 ⟨q2, q3⟩) hy
        (wpN_sound hsel hQ t f _ _ _ w (hL.set hi) hok2 h)
      · intro j oj hoj hd' hun
        have h2 := allIx_spec _ 0 j _ q5 (om_get hoj)
        have hj : j < ops.size := (Array.getElem?_eq_some_iff.1 hoj).1
        rw [hL.getT true hj] at hun
        simp only [Nat.zero_add, hd', Bool.false_eq_true, if_false, hun, Bool.false_or, Bool.and_eq_true, beq_iff_eq, Bool.or_eq_true] at h2
        exact ⟨apart_of h2.1.1 h2.1.2, h2.2⟩
      · intro j oj hoj hd'
        have h2 := allIx_spec _ 0 j _ q5 (om_get hoj)
        have hj : j < ops.size := (Array.getElem?_eq_some_iff.1 hoj).1
        simp only [Nat.zero_add, hd', if_true, Bool.and_eq_true, Bool.not_eq_true', Bool.or_eq_true, beq_iff_eq, bne_iff_ne, ne_eq] at h2
        refine ⟨by rw [hL.getT true hj]; exact h2.1, fun hji => ?_⟩
        obtain ⟨k, hk1, hk2⟩ := land_some (h2.2.resolve_left hji)
        simp only [omOf, bits_has, List.contains_iff_mem, afterL, List.mem_map, List.mem_filter] at hk1
        obtain ⟨e, ⟨he, hb⟩, rfl⟩ := hk1
        exact ⟨e, by simpa using he, hb, hk2⟩
  | .br l, f + 1, listed, m, a, w, hL, hok, h => by
    simp only [okN, Bool.and_eq_true] at hok
    obtain ⟨⟨⟨hok0, hok1⟩, hok3⟩, hok2⟩ := hok
    simp only [wpT] at h
    refine ⟨fun hr => ?_, fun i hi => ?_⟩
    · exfalso
      have : allIx (fun j y => m.testBit j || (y.a &&& m) != y.a) (ops.toList.map (omOf hd md ops)) 0 = true := by
        refine allIx_of _ 0 fun j x hx => ?_
        obtain ⟨o, ho, rfl⟩ := om_get' hx
        rw [Nat.zero_add, Bool.or_eq_true, bne_iff_ne]
        by_cases hb : m.testBit j = true
        · exact .inl hb
        · refine .inr fun he => ?_
          have := (ready_iff (hd := hd) hL ho).2 ⟨by simpa using hb, he⟩
          rw [hr] at this; cases this
      rw [this] at hok3; cases hok3
    · obtain ⟨_, o, ho, _⟩ := mem_ready.1 hi
      have h1 := (ready_iff (hd := hd) hL ho).1 hi
      have h2 := allIx_spec _ 0 i _ hok1 (om_get ho)
      simp only [Nat.zero_add, Bool.or_eq_true, bne_iff_ne, ne_eq] at h2
      have h3 : i ∈ l.heads := by
        rcases h2 with (h2 | h2) | h2
        · rw [h1.1] at h2; cases h2
        · exact absurd h1.2 h2
        · simpa using h2
      exact wpNB_sound hsel hQ l f listed m a w hL hok2 h i h3
theorem wpNB_sound (hsel : ∀ (j : Nat) (o : Oper) cs b, ops[j]? = some o → o.op ≠ .select cs b) (hQ : ∀ c a w d v, Q (.panic c) (a.put d v) w → Q (.panic c) a w) :
    ∀ (l : Brs) (f : Nat) (listed : Array Bool) (m : Nat) (a : Act) (w : World), Lst ops.size listed m → okNB (ops.toList.map (omOf hd md ops)) ops.size f m l = true → wpB hd P ops Q l a w →
      ∀ i ∈ l.heads, wpOpX hd P ops Q i (wpAnyX hd P md ops Q f (listed.setIfInBounds i true)) a w
  | .nil, f, listed, m, a, w, hL, hok, h, i, hi => by simp [Brs.heads] at hi
  | .cons j t l, f, listed, m, a, w, hL, hok, h, i, hi => by
    simp only [okNB, Bool.and_eq_true, decide_eq_true_eq] at hok
    simp only [wpB] at h
    simp only [Brs.heads, List.mem_cons] at hi
    by_cases hij : i = j
    · subst hij
      have h1 := h.1
      split at h1
      · exact h1.elim
      · rename_i o ho
        exact wpOpX_mono (fun a' w' hh => wpN_sound hsel hQ t f _ _ a' w' (hL.set hok.1.1) hok.1.2 hh) (wpAct_X ho h1)
    · exact wpNB_sound hsel hQ l f listed m a w hL hok.2 h.2 i (hi.resolve_left hij)
end

theorem wp_region_plan {id : Nat} {t : Tr} {a : Act} {w : World} (hm : P.follows .mixedOrders = true) (hs : Region.noSelect ops = true) (hQ : ∀ c a w d v, Q (.panic c) (a.put d v) w → Q (.panic c) a w)
    (hok : okP hd .any ops t = true) (h : wpT hd P ops Q t a { w with drawn := w.drawn + 1 }) : (Code.region id ops true).wp P Q a w :=
  wp_region_any hm (wpAny_of_X _ _ _ _ (wpN_sound (Region.noSelect_spec hs) hQ t _ _ 0 _ _ ⟨by simp, Nat.two_pow_pos _, fun j hj => by simp [hj]⟩ hok h))
end

/-! ### Static looks -/
def kindO (hd : FuncId → Option Bool) (r : Bool) (op : Op) : Bool := if r then regB op else calmB op && !extOp hd op
mutual
def kindT (hd : FuncId → Option Bool) (ops : Array Oper) : Tr → Bool
  | .done => true
  | .take r i t => (match ops[i]? with | some o => kindO hd r o.op | none => true) && kindT hd ops t
  | .br l => kindB hd ops l
def kindB (hd : FuncId → Option Bool) (ops : Array Oper) : Brs → Bool
  | .nil => true
  | .cons _ t l => kindT hd ops t && kindB hd ops l
end
end Go.Sx
