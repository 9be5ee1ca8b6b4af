/-
  SxI: one operation, whatever it is; the runner over a whole body.
-/
import Derived.Test.YtbpggglkmdgpoaaGreatSxL
import Derived.Recover
import Derived.LoopN
set_option linter.all false
set_option linter.unusedSimpArgs false
set_option linter.unusedVariables false
namespace Go.Sx
open Go

def ΓOK (P : Program) (Γ : FuncId → List SV → Option (Prop × SV)) : Prop :=
  ∀ f args p r, Γ f args = some (p, r) → p →
    ((∀ as w, (callFunc f as).run P w = .ok (.enter f as) w) ∧ Pure P f args r) ∨
    (∀ H β vals, RelL H β args vals → ∃ u, (∀ w, (callFunc f vals.toArray).run P w = .ok (.value u) w) ∧ Rel H β r u)

/-- What a call that turns own memory comes to. -/
def CallsR (P : Program) (f : FuncId) (q : Bool) (vals : List Value) (H : Hp) (β : Env) (own : Nat → Option Nat) (w : World) (Φ : Res → Mem → Nat → Prop) : Prop :=
  Calls P f vals.toArray w fun e w' => ∃ H' β' own' r M' nk', MemOK H' β' own' M' w' ∧ Later H own w H' own' w' ∧
      (∀ k e, β k = some e → β' k = some e) ∧ (∀ k, nk' ≤ k → β' k = none) ∧ (q = true → Ext w w') ∧ Φ r M' nk' ∧
      match r with
      | .ret x => ∃ u, e = .returned u ∧ Rel H' β' x u
      | .pan x => ∃ u, e = .panicked [{ v := u, recovered := false }] ∧ Rel H' β' x u

abbrev Dlt := List SV → Mem → Nat → (Res → Mem → Nat → Prop) → Prop

/-- THE CONTRACT of a function that turns its caller's own memory: a predicate's transformer. -/
def Meth (P : Program) (f : FuncId) (q : Bool) (D : Dlt) : Prop :=
  ∀ args M nk H β own w vals, MemOK H β own M w → (∀ k, nk ≤ k → β k = none) → RelL H β args vals → ∀ Φ, D args M nk Φ → CallsR P f q vals H β own w Φ

abbrev Lam := List SV → Option SV → Mem → Nat → (Mem → Nat → Prop) → Prop
/-- THE CONTRACT of a function that is called as its caller ends: nothing is panicking behind it. -/
def MethD (P : Program) (f : FuncId) (D : Lam) : Prop :=
  ∀ args p M nk H β own w vals u, MemOK H β own M w → (∀ k, nk ≤ k → β k = none) → RelL H β args vals →
    (match p with | none => u = .returning | some s => ∃ v, u = .panicking [{ v := v, recovered := false }] ∧ Rel H β s v) → ∀ Φ, D args p M nk Φ →
    (∀ as w, (callFunc f as).run P w = .ok (.enter f as) w) ∧
    CallsD P f vals.toArray u w fun e u' w' => ∃ H' β' own' M' nk' v, e = .returned v ∧ MemOK H' β' own' M' w' ∧ Later H own w H' own' w' ∧ (∀ k e, β k = some e → β' k = some e) ∧ (∀ k, nk' ≤ k → β' k = none) ∧ Φ M' nk' ∧ settle u' = .returning

structure ROK (E : Rx) : Prop where
  nd : E.dfl = false → E.ds = []
  l : ∀ f, MethD E.P f (E.Λ f)
  ty : TyOK E.P E.T
  ty0 : E.T 0 = none
  g : ΓOK E.P E.Γ
  d : ∀ f q, E.hard f = some q → (∀ as w, (callFunc f as).run E.P w = .ok (.enter f as) w) ∧ Meth E.P f q (E.Δ f)
  mixed : E.P.follows .mixedOrders = true

section
variable {E : Cx} {o : Oper} {a : Act} {w : World} {H : Hp} {β : Env} {own : Nat → Option Nat} {L : Slots} {M : Mem} {nk : Nat}

theorem evs_rel (h : St E H β own w a L M nk) : ∀ (xs : List Operand) (l : List SV), evs L xs = some l → RelL H β l (xs.map a.eval)
  | [], l, hl => by simp only [evs, Option.some.injEq] at hl; subst hl; simp [RelL]
  | x :: xs, l, hl => by
    simp only [evs] at hl
    split at hl <;> cases hl
    rename_i s l' hs hl'
    rw [List.map_cons, relL_cons]
    exact ⟨_, _, rfl, h.ev hs, evs_rel h xs l' hl'⟩

theorem lends_rel (hm : MemOK H β own M w) {T : TypeId → Option Ty} : ∀ (ts : List TypeId) (l r : List SV) (us : List Value), lends T M ts l = some r → lendsC T M ts l → RelL H β l us → RelL (unH H own w) (fun _ => none) r us
  | ts, [], r, us, hl, _, hu => by
    cases ts <;> (simp only [lends, Option.some.injEq] at hl; subst hl; rw [relL_nil] at hu ⊢; exact hu)
  | t :: ts, s :: l, r, us, hl, hC, hu => by
    simp only [lends] at hl
    split at hl <;> cases hl
    rename_i x l' hx hl'
    obtain ⟨u, us', rfl, h1, h2⟩ := relL_cons.1 hu
    exact relL_cons.2 ⟨u, us', rfl, lend_rel hm hx hC.1 h1, lends_rel hm ts l l' us' hl' hC.2 h2⟩
  | [], s :: l, r, us, hl, hC, hu => by
    simp only [lends] at hl
    split at hl <;> cases hl
    rename_i x l' hx hl'
    obtain ⟨u, us', rfl, h1, h2⟩ := relL_cons.1 hu
    exact relL_cons.2 ⟨u, us', rfl, lend_rel hm hx hC.1 h1, lends_rel hm [] l l' us' hl' hC.2 h2⟩

/-- With no own slice among them the arguments are handed on as they are. -/
theorem lends_id (hm : MemOK H β own M w) {T : TypeId → Option Ty} : ∀ (ts : List TypeId) (l r : List SV) (us : List Value), lends T M ts l = some r → anyOwn l = false → closedL r → RelL H β l us → RelL H (fun _ => none) r us
  | ts, [], r, us, hl, _, _, hu => by
    cases ts <;> (simp only [lends, Option.some.injEq] at hl; subst hl; rw [relL_nil] at hu ⊢; exact hu)
  | ts, s :: l, r, us, hl, hn, hc, hu => by
    have hone : ∀ t x u, lend T M t s = some x → Rel H β s u → closed x → Rel H (fun _ => none) x u := by
      intro t x u hx hr hcx
      unfold lend at hx
      split at hx
      · simp [anyOwn] at hn
      · simp [anyOwn] at hn
      · cases hx
        obtain rfl : u = _ := hr
        exact ⟨none, 0, rfl, Nat.le_refl _, .inl ⟨rfl, rfl⟩⟩
      · cases hx; exact closed_rel _ _ hcx hr
    have hn' : anyOwn l = false := by
      cases s <;> first | exact hn | (simp [anyOwn] at hn)
    obtain ⟨u, us', rfl, h1, h2⟩ := relL_cons.1 hu
    cases ts with
    | nil =>
      simp only [lends] at hl
      split at hl <;> cases hl
      rename_i x l' hx hl'
      exact relL_cons.2 ⟨u, us', rfl, hone _ x u hx h1 hc.1, lends_id hm [] l l' us' hl' hn' hc.2 h2⟩
    | cons t ts =>
      simp only [lends] at hl
      split at hl <;> cases hl
      rename_i x l' hx hl'
      exact relL_cons.2 ⟨u, us', rfl, hone _ x u hx h1 hc.1, lends_id hm ts l l' us' hl' hn' hc.2 h2⟩

theorem memOK_ro {H : Hp} {w : World} (h : ∀ b ob, H b = some ob → w.heap[b]? = some ob) : MemOK H (fun _ => none) (fun _ => none) [] w where
  ro b ob hb := ⟨rfl, h b ob hb⟩
  lt b k hb := by cases hb
  ent k e he := by cases he

theorem call_fn (hmv : ∀ f : Fn, True) {c : Call} {f : FuncId} {xs ys : List Value} {fv : Operand} (ho : o.op = .call c) (hc : c.callee = .value fv) (hf : a.eval fv = .func (.func f) xs.toArray ys.toArray) :
    (execOp a.eval o).run E.P w = (callFunc f (xs ++ c.args.toList.map a.eval ++ ys).toArray).run E.P w := by
  have e : xs.toArray ++ c.args.map a.eval ++ ys.toArray = (xs ++ c.args.toList.map a.eval ++ ys).toArray := by
    apply Array.ext'; simp
  simp only [execOp, ho, resolve, hc, hf, Deferred.ofValue]
  rw [Sem.run_bind, Sem.run_pure, Result.andThen_ok]
  simp only [invoke]
  rw [← e]

theorem callOf_run (h : St E H β own w a L M nk) {c : Call} {g : FuncId} {as : List SV} (ho : o.op = .call c) (hc : callOf L c = some (g, as)) :
    ∃ vals : List Value, RelL H β as vals ∧ (∀ w' : World, (execOp a.eval o).run E.P w' = (callFunc g vals.toArray).run E.P w') ∧ (∃ fv, c.callee = .value fv ∧ ∀ f, fv = .func f → f = g) := by
  unfold callOf at hc
  split at hc <;> try cases hc
  rename_i fv hfv
  split at hc <;> try cases hc
  rename_i g' xs ys hf
  split at hc <;> cases hc
  rename_i as' has
  obtain ⟨vs, us, hfe, h1, h2⟩ := h.ev hf
  exact ⟨vs ++ c.args.toList.map a.eval ++ us, (h1.append (evs_rel h _ _ has)).append h2, fun w' => call_fn (E := E) (w := w') (fun _ => trivial) ho hfv hfe, fv, hfv, fun f e => by subst e; simp [Sx.ev] at hf; exact hf.1⟩

theorem Good.of_pure {s : SV} (_h : St E H β own w a L M nk) (hg : extOp E.hard o.op = true → OkV E o a w H β own s M nk) (hx : extOp E.hard o.op = true) : OkV E o a w H β own s M nk := hg hx

/-- A call by a contract that only reads: as the arguments are. -/
theorem pure_call2 (h : St E H β own w a L M nk) {f : FuncId} {args : List SV} {r : SV} (hp : Pure E.P f args r) {vals : List Value} (hv : RelL H (fun _ => none) args vals) (hc : closed r)
    (hent : (execOp a.eval o).run E.P w = .ok (.enter f vals.toArray) w) : Good E o a w H β own r M nk := by
  intro next Q hn
  unfold Oper.wp
  rw [hent, Oper.upon_enter]
  refine (hp H (fun _ => none) (fun _ => none) w vals (memOK_ro fun b ob hb => (h.mem.ro b ob hb).2) (fun k => .inr rfl) hv).mono ?_
  rintro e w' ⟨H', β', own', res, M', hm, hl, _, ⟨rfl, rfl⟩, u, rfl, hr⟩
  have hown : ∀ b, own b ≠ none → b < w.heap.size := fun b hb => by
    cases hx : own b with
    | none => exact absurd hx hb
    | some k => exact (h.mem.lt b k hx).1
  refine hn H' β own w' u ⟨fun b ob hb => ?_, fun b k hb => ?_, fun k e he => ?_⟩ ⟨hl.os, hl.tape, hl.output, hl.size, hl.mono, fun b ob hb => ?_, fun b hb => .inl hb, fun b hb hb' => hl.same b hb rfl⟩
    (fun _ _ h => h) h.keys (fun _ => ⟨hl.os, hl.tape, hl.output, hl.size, fun b hb => hl.same b hb rfl⟩) (closed_rel _ _ hc hr)
  · refine ⟨?_, (hm.ro b ob hb).2⟩
    rcases hl.new b ob hb with h1 | h1 | h1
    · exact (h.mem.ro b ob h1).1
    · exact absurd rfl h1
    · cases hx : own b with
      | none => rfl
      | some k => have := hown b (by simp [hx]); omega
  · exact ⟨Nat.lt_of_lt_of_le (h.mem.lt b k hb).1 hl.size, (h.mem.lt b k hb).2⟩
  · exact (h.mem.ent k e he).stay hl.mono (fun _ _ h => h) (fun b hb => ⟨hb, hl.same b (h.mem.lt b k hb).1 rfl⟩)
  · rcases hl.new b ob hb with h1 | h1 | h1
    · exact .inl h1
    · exact absurd rfl h1
    · exact .inr (.inr h1)

/-- .. own slices lent: what comes back has no address in it. -/
theorem pure_lent2 (h : St E H β own w a L M nk) {f : FuncId} {args : List SV} {r : SV} (hp : Pure E.P f args r) {vals : List Value} (hv : RelL (unH H own w) (fun _ => none) args vals) (hc : flat r)
    (hent : (execOp a.eval o).run E.P w = .ok (.enter f vals.toArray) w) : Good E o a w H β own r M nk := by
  intro next Q hn
  unfold Oper.wp
  rw [hent, Oper.upon_enter]
  refine (hp (unH H own w) (fun _ => none) (fun _ => none) w vals (memOK_ro fun b ob hb => unH_heap h.mem b ob hb) (fun k => .inr rfl) hv).mono ?_
  rintro e w' ⟨H', β', own', res, M', hm, hl, _, ⟨rfl, rfl⟩, u, rfl, hr⟩
  refine hn H β own w' u ⟨fun b ob hb => ?_, fun b k hb => ?_, fun k e he => ?_⟩ ⟨hl.os, hl.tape, hl.output, hl.size, fun _ _ h => h, fun b ob hb => .inl hb, fun b hb => .inl hb, fun b hb hb' => hl.same b hb rfl⟩
    (fun _ _ h => h) h.keys (fun _ => ⟨hl.os, hl.tape, hl.output, hl.size, fun b hb => hl.same b hb rfl⟩) (flat_rel _ _ hc hr)
  · exact ⟨(h.mem.ro b ob hb).1, (hm.ro b ob (hl.mono b ob (unH_mono h.mem b ob hb))).2⟩
  · exact ⟨Nat.lt_of_lt_of_le (h.mem.lt b k hb).1 hl.size, (h.mem.lt b k hb).2⟩
  · exact (h.mem.ent k e he).stay (fun _ _ h => h) (fun _ _ h => h) (fun b hb => ⟨hb, hl.same b (h.mem.lt b k hb).1 rfl⟩)

theorem mem_onlyK {ks : List Nat} {k : Nat} {e : Ent} : ∀ {M : Mem}, (k, e) ∈ onlyK ks M → (k, e) ∈ M ∧ inK k ks = true
  | [], h => by cases h
  | (k', e') :: M, h => by
    unfold onlyK at h
    split at h
    · rename_i hk
      rcases List.mem_cons.1 h with h | h
      · cases h; exact ⟨List.mem_cons_self .., hk⟩
      · have := mem_onlyK h; exact ⟨List.mem_cons_of_mem _ this.1, this.2⟩
    · have := mem_onlyK h; exact ⟨List.mem_cons_of_mem _ this.1, this.2⟩
theorem mem_dropK {ks : List Nat} {k : Nat} {e : Ent} : ∀ {M : Mem}, (k, e) ∈ dropK ks M → (k, e) ∈ M ∧ inK k ks = false
  | [], h => by cases h
  | (k', e') :: M, h => by
    unfold dropK at h
    split at h
    · have := mem_dropK h; exact ⟨List.mem_cons_of_mem _ this.1, this.2⟩
    · rename_i hk
      rcases List.mem_cons.1 h with h | h
      · cases h; exact ⟨List.mem_cons_self .., hk⟩
      · have := mem_dropK h; exact ⟨List.mem_cons_of_mem _ this.1, this.2⟩
def ownK (own : Nat → Option Nat) (ks : List Nat) (v : Bool) (b : Nat) : Option Nat := match own b with
  | some k => if inK k ks = v then some k else none
  | none => none
theorem ownK_some {own : Nat → Option Nat} {ks : List Nat} {v : Bool} {b k : Nat} (h : ownK own ks v b = some k) : own b = some k ∧ inK k ks = v := by
  unfold ownK at h
  split at h
  · rename_i k' hk
    split at h <;> cases h
    rename_i hv
    exact ⟨hk, hv⟩
  · cases h
theorem ownK_of {own : Nat → Option Nat} {ks : List Nat} {v : Bool} {b k : Nat} (h : own b = some k) (hk : inK k ks = v) : ownK own ks v b = some k := by
  unfold ownK; rw [h]; exact if_pos hk
theorem ownK_none {own : Nat → Option Nat} {ks : List Nat} {v : Bool} {b : Nat} (h : own b = none) : ownK own ks v b = none := by
  unfold ownK; rw [h]
theorem MemOK.only (h : MemOK H β own M w) (ks : List Nat) : MemOK H β (ownK own ks true) (onlyK ks M) w :=
  ⟨fun b ob hb => ⟨ownK_none (h.ro b ob hb).1, (h.ro b ob hb).2⟩, fun b k hb => h.lt b k (ownK_some hb).1,
    fun k e he => (h.ent k e (mem_onlyK he).1).stay (fun _ _ h => h) (fun _ _ h => h) (fun b hb => ⟨ownK_of hb (mem_onlyK he).2, rfl⟩)⟩
/-- .. own slices handed over. -/
theorem pure_lent3 (h : St E H β own w a L M nk) {f : FuncId} {args : List SV} {r : SV} (ks : List Nat) (hp : Pure E.P f args r) {vals : List Value} (hv : RelL (unH H (ownK own ks true) w) (fun _ => none) args vals) (hc : closed r)
    (hent : (execOp a.eval o).run E.P w = .ok (.enter f vals.toArray) w) : Good E o a w H β own r (dropK ks M) nk := by
  intro next Q hn
  unfold Oper.wp
  rw [hent, Oper.upon_enter]
  have hm0 := h.mem.only ks
  refine (hp (unH H (ownK own ks true) w) (fun _ => none) (fun _ => none) w vals (memOK_ro fun b ob hb => unH_heap hm0 b ob hb) (fun k => .inr rfl) hv).mono ?_
  rintro e w' ⟨H', β', own', res, M', hm, hl, _, ⟨rfl, rfl⟩, u, rfl, hr⟩
  have hmono : ∀ b ob, H b = some ob → H' b = some ob := fun b ob hb => hl.mono b ob (unH_mono hm0 b ob hb)
  have hold : ∀ b ob, unH H (ownK own ks true) w b = some ob → H b = some ob ∨ ∃ k, own b = some k ∧ inK k ks = true := fun b ob hb => by
    unfold unH at hb
    split at hb
    · rename_i ho
      cases hx : ownK own ks true b with
      | none => rw [hx] at ho; cases ho
      | some k => exact .inr ⟨k, ownK_some hx⟩
    · exact .inl hb
  have hnew : ∀ b ob, H' b = some ob → H b = some ob ∨ (∃ k, own b = some k ∧ inK k ks = true) ∨ w.heap.size ≤ b := fun b ob hb => by
    rcases hl.new b ob hb with h1 | h1 | h1
    · rcases hold b ob h1 with h2 | h2
      · exact .inl h2
      · exact .inr (.inl h2)
    · exact absurd rfl h1
    · exact .inr (.inr h1)
  refine hn H' β (ownK own ks false) w' u ⟨fun b ob hb => ⟨?_, (hm.ro b ob hb).2⟩, fun b k hb => ?_, fun k e he => ?_⟩
    ⟨hl.os, hl.tape, hl.output, hl.size, hmono, fun b ob hb => ?_, fun b hb => .inl ?_, fun b hb hb' => hl.same b hb rfl⟩
    (fun _ _ h => h) h.keys (fun _ => ⟨hl.os, hl.tape, hl.output, hl.size, fun b hb => hl.same b hb rfl⟩) (closed_rel _ _ hc hr)
  · cases hx : ownK own ks false b with
    | none => rfl
    | some k =>
      obtain ⟨h1, h2⟩ := ownK_some hx
      rcases hnew b ob hb with h3 | ⟨k', h3, h4⟩ | h3
      · rw [(h.mem.ro b ob h3).1] at h1; cases h1
      · rw [h3] at h1; cases h1; rw [h4] at h2; cases h2
      · have := (h.mem.lt b k h1).1; omega
  · have h1 := (ownK_some hb).1
    exact ⟨Nat.lt_of_lt_of_le (h.mem.lt b k h1).1 hl.size, (h.mem.lt b k h1).2⟩
  · have hk := mem_dropK he
    exact (h.mem.ent k e hk.1).stay hmono (fun _ _ h => h) (fun b hb => ⟨ownK_of hb hk.2, hl.same b (h.mem.lt b k hb).1 rfl⟩)
  · rcases hnew b ob hb with h1 | ⟨k, h1, _⟩ | h1
    · exact .inl h1
    · exact .inr (.inl (by rw [h1]; simp))
    · exact .inr (.inr h1)
  · cases hx : ownK own ks false b with
    | none => exact absurd hx hb
    | some k => rw [(ownK_some hx).1]; simp

theorem val_lent3 (h : St E H β own w a L M nk) {r : SV} {u : Value} (ks : List Nat) (hr : Rel (unH H (ownK own ks true) w) (fun _ => none) r u) (hc : closed r)
    (hrun : (execOp a.eval o).run E.P w = .ok (.value u) w) : Good E o a w H β own r (dropK ks M) nk := by
  have hm0 := h.mem.only ks
  refine Good.valM (H' := unH H (ownK own ks true) w) (β' := β) (own' := ownK own ks false) hrun ⟨fun b ob hb => ⟨?_, unH_heap hm0 b ob hb⟩, fun b k hb => h.mem.lt b k (ownK_some hb).1, fun k e he => ?_⟩
    ⟨rfl, rfl, rfl, Nat.le_refl _, unH_mono hm0, fun b ob hb => ?_, fun b hb => .inl ?_, fun b hb hb' => rfl⟩ (fun _ _ h => h) h.keys (fun _ => Ext.refl w) (closed_rel _ _ hc hr)
  · cases hx : ownK own ks false b with
    | none => rfl
    | some k =>
      obtain ⟨h1, h2⟩ := ownK_some hx
      unfold unH at hb
      rw [show ownK own ks true b = none by unfold ownK; rw [h1]; simp [h2]] at hb
      rw [(h.mem.ro b ob (by simpa using hb)).1] at h1; cases h1
  · have hk := mem_dropK he
    exact (h.mem.ent k e hk.1).stay (unH_mono hm0) (fun _ _ h => h) (fun b hb => ⟨ownK_of hb hk.2, rfl⟩)
  · unfold unH at hb
    split at hb
    · rename_i ho
      cases hx : ownK own ks true b with
      | none => rw [hx] at ho; cases ho
      | some k => exact .inr (.inl (by rw [(ownK_some hx).1]; simp))
    · exact .inl hb
  · cases hx : ownK own ks false b with
    | none => exact absurd hx hb
    | some k => rw [(ownK_some hx).1]; simp

theorem okC_good {fv : Operand} {r : SV} {c : Call} {g : FuncId} (ho : o.op = .call c) (hc : c.callee = .value fv) (hfg : ∀ f, fv = .func f → f = g) (hh : E.hard g = none)
    (hg : Good E o a w H β own r M nk) : OutGood E o a w H β own M nk (okC fv r M nk) := by
  unfold okC
  split
  · rename_i f
    obtain rfl := hfg f rfl
    exact .inr ⟨by simp [extOp, ho, hc, hh], hg⟩
  · exact hg

theorem call_good (h : St E H β own w a L M nk) (hE : ROK E.toRx) {c : Call} (ho : o.op = .call c) : OutGood E o a w H β own M nk (stCall E.toRx L M nk c) := by
  have hT0 : ∀ y, E.T 0 = some y → ∀ e, y.d ≠ .slice e := fun y hy => by rw [hE.ty0] at hy; cases hy
  unfold stCall
  split <;> try trivial
  · rename_i b hb
    split <;> try trivial
    rename_i as has
    split <;> try trivial
    · exact len_good h hE.ty hE.ty0 ho hb has
    · exact append_good h hE.ty hT0 ho hb has
    · exact copy_good h hE.ty hT0 ho hb has
    · exact clear_good h hE.ty hT0 ho hb has
    · rename_i p q
      obtain ⟨x, y, hxy, hx, hy⟩ := evs2 has
      refine Good.val h (fun w' _ => ?_) rfl
      obtain ⟨cs, hrun⟩ := call_builtin (E := E) (a := a) (w := w') ho hb
      rw [args2 hxy, show a.eval x = .int .i64 p from h.ev hx, show a.eval y = .int .i64 q from h.ev hy] at hrun
      rw [hrun]; simp [builtin, run_min_int2]
    · rename_i p q
      obtain ⟨x, y, hxy, hx, hy⟩ := evs2 has
      refine Good.val h (fun w' _ => ?_) rfl
      obtain ⟨cs, hrun⟩ := call_builtin (E := E) (a := a) (w := w') ho hb
      rw [args2 hxy, show a.eval x = .int .i64 p from h.ev hx, show a.eval y = .int .i64 q from h.ev hy] at hrun
      rw [hrun]; simp [builtin, run_max_int2]
  · rename_i fv hfv
    split <;> try trivial
    rename_i g as hc
    split <;> try trivial
    rename_i hh
    split <;> try trivial
    rename_i as' hl
    split <;> try trivial
    rename_i p r hr
    obtain ⟨vals, hall, hrun, fv', hfv', hfg⟩ := callOf_run h ho hc
    rw [hfv] at hfv'; cases hfv'
    split
    · split
      rotate_left
      · unfold lentK
        split <;> try trivial
        rename_i as2 hl2
        split <;> try trivial
        rename_i p2 r2 hr2
        rintro ⟨hp2, hC2, hcl2⟩
        have hlr2 := lends_rel (h.mem.only (keysA E.T M c.argTypes.toList as)) _ _ _ _ hl2 hC2 hall
        rcases hE.g g as2 p2 r2 hr2 hp2 with ⟨hent, hp⟩ | hv
        · exact pure_lent3 h _ hp hlr2 hcl2 (by rw [hrun, hent])
        · obtain ⟨u, hu, hru⟩ := hv _ _ _ hlr2
          exact val_lent3 h _ hru hcl2 (by rw [hrun, hu])
      rintro ⟨hp, hC, hfl⟩
      have hlr := lends_rel h.mem _ _ _ _ hl hC hall
      rcases hE.g g as' p r hr hp with ⟨hent, hp⟩ | hv
      · exact okC_good ho hfv hfg hh (pure_lent2 h hp hlr hfl (by rw [hrun, hent]))
      · obtain ⟨u, hu, hru⟩ := hv (unH H own w) (fun _ => none) _ hlr
        have hv : OkV E o a w H β own r M nk := Good.val h (fun w' _ => by rw [hrun, hu]) (flat_rel _ _ hfl hru)
        unfold okC
        split
        · exact hv
        · exact OkV.good h hv
    · rename_i hno
      rintro ⟨hp, hC, hcl⟩
      have hlr := lends_id h.mem _ _ _ _ hl (by simpa using hno) hC hall
      rcases hE.g g as' p r hr hp with ⟨hent, hp⟩ | hv
      · exact okC_good ho hfv hfg hh (pure_call2 h hp hlr hcl (by rw [hrun, hent]))
      · obtain ⟨u, hu, hru⟩ := hv H (fun _ => none) _ hlr
        have hv : OkV E o a w H β own r M nk := Good.val h (fun w' _ => by rw [hrun, hu]) (closed_rel _ _ hcl hru)
        unfold okC
        split
        · exact hv
        · exact OkV.good h hv

theorem run_zeroV {P : Program} {T : TypeId → Option Ty} (hT : TyOK P T) {t : TypeId} {y : Ty} (ht : T t = some y) (H : Hp) (β : Env) : ∃ u, (∀ w, (zeroValue t).run P w = .ok u w) ∧ Rel H β y.nil u := by
  obtain ⟨d, i, z, hd, hdb, hi, hsz, hby, hz, hpl, hzl⟩ := hT t y ht
  refine ⟨z, fun w => run_zero hi hz w, ?_⟩
  exact plainZ_rel hpl

theorem assert_good (h : St E H β own w a L M nk) (hT : TyOK E.P E.T) {x : Operand} {xt t : TypeId} {ok : Bool} (ho : o.op = .typeAssert x xt t ok) {y : Ty} (ht : E.T t = some y) {s : SV} (hs : ev L x = some s) :
    OutGood E o a w H β own M nk (stAssert y t ok s) := by
  have hT' := hT
  obtain ⟨d, i, z, hd, hdb, _⟩ := hT t y ht
  obtain ⟨zu, hz1, hz2⟩ := run_zeroV hT' ht H β
  have hu := h.ev hs
  unfold stAssert
  split <;> try trivial
  rename_i hni
  have hnd : ∀ m, d ≠ .interface m := fun m hm => by
    subst hm
    generalize y.d = yd at *
    cases yd <;> simp [descB] at hdb
    exact hni _ rfl
  split <;> try trivial
  · rename_i t' x'
    obtain ⟨v, hv, hr⟩ := hu
    have base : ∀ w', (execOp a.eval o).run E.P w' = (do let r ← (if t' = t then (pure (if ok then .tuple #[v, .bool true] else v) : Sem Value) else if ok then (do pure (.tuple #[← zeroValue t, .bool false])) else runtimePanic (.typeAssertion (some xt) (some t') t "")); pure (Next.value r)).run E.P w' := by
      intro w'
      simp only [execOp, ho, hv, Instr.typeAssert]
      rw [Sem.run_bind, Sem.run_bind, run_und hd, Result.andThen_ok, Sem.run_bind]
      cases d <;> first | rfl | exact absurd rfl (hnd _)
    split
    · rename_i hte
      split
      · refine Good.val h (u := .tuple #[v, .bool true]) (fun w' _ => ?_) ⟨[v, .bool true], rfl, v, [.bool true], rfl, hr, .bool true, [], rfl, rfl, rfl⟩
        rw [base]; simp [hte]
      · refine Good.val h (u := v) (fun w' _ => ?_) hr
        rw [base]; simp [hte]
    · rename_i hte
      split <;> try trivial
      refine Good.val h (u := .tuple #[zu, .bool false]) (fun w' _ => ?_) ⟨[zu, .bool false], rfl, zu, [.bool false], rfl, hz2, .bool false, [], rfl, rfl, rfl⟩
      rw [base]; simp [hte, hz1]
  · split <;> try trivial
    split <;> try trivial
    have hu : a.eval x = .nilIface := hu
    refine Good.val h (u := .tuple #[zu, .bool false]) (fun w' _ => ?_) ⟨[zu, .bool false], rfl, zu, [.bool false], rfl, hz2, .bool false, [], rfl, rfl, rfl⟩
    simp only [execOp, ho, hu, Instr.typeAssert]
    rw [Sem.run_bind, Sem.run_bind, run_und hd, Result.andThen_ok]
    cases d <;> first | exact absurd rfl (hnd _) | simp [hz1]

theorem pick_rel {b : Bool} {x y : SV} {u v : Value} (hu : Rel H β x u) (hv : Rel H β y v) : Rel H β (pickF b x y) (if b then u else v) := by
  unfold pickF
  split
  · cases b
    · exact hv
    · exact hu
  · cases b
    · exact hv
    · exact hu

/-- **ONE OPERATION.** -/
theorem step_good (h : St E H β own w a L M nk) (hE : ROK E.toRx) : OutGood E o a w H β own M nk (stepR E.toRx o.op L M nk) := by
  unfold stepR
  split <;> try trivial
  case h_1 x ho =>
    split <;> try trivial
    rename_i s hs; exact Good.val h (fun w' _ => by simp [execOp, ho]) (h.ev hs)
  case h_2 x ho =>
    split <;> try trivial
    rename_i s hs; exact Good.val h (fun w' _ => by simp [execOp, ho]) (h.ev hs)
  case h_3 c x y ho =>
    split <;> try trivial
    rename_i t ht
    split <;> try trivial
    rename_i p q hp hq
    have e1 : a.eval c = .bool t := h.ev ht
    refine Good.val (u := if t then a.eval x else a.eval y) h ?_ (pick_rel (h.ev hp) (h.ev hq))
    intro w' _
    simp [execOp, ho, e1, asBool]
  case h_4 t ho =>
    split <;> try trivial
    rename_i y ht; exact alloc_good h hE.ty ht ho
  case h_5 t x ho =>
    split <;> try trivial
    rename_i s hs
    split <;> try trivial
    rename_i cs hcs
    exact box_good h ho hs hcs
  case h_6 t x ho =>
    split <;> try trivial
    rename_i y s ht hs; exact load_good h hE.ty ht ho hs
  case h_7 t x v ho =>
    split <;> try trivial
    rename_i y s r ht hs hr; exact store_good h hE.ty ht ho hs hr
  case h_8 x ho =>
    split <;> try trivial
    rename_i s hs
    have hr := h.ev hs
    split <;> try trivial
    · obtain ⟨e, he, hv⟩ := hr; exact Good.val h (fun w' _ => by simp [execOp, ho, hv]) ⟨e, he, rfl⟩
    · obtain ⟨e, he, hv⟩ := hr; exact Good.val h (fun w' _ => by simp [execOp, ho, hv]) ⟨e, he, rfl⟩
    · have hr' := hr; obtain ⟨b, off, vs, hv, hx⟩ := hr; exact Good.val (u := a.eval x) h (fun w' _ => by simp [execOp, ho, hv]) hr'
  case h_9 op t x t' ho =>
    split <;> try trivial
    rename_i y s ht hs; exact nilI_good h hE.ty ho ht hs
  case h_10 op t x y t' ho =>
    split <;> try trivial
    rename_i s r hs hr; exact bin_good h hE.ty ho hs hr
  case h_11 op t x ho =>
    split <;> try trivial
    rename_i s hs; exact un_good h ho hs
  case h_12 src dst x ho =>
    split <;> try trivial
    · rename_i ys k sz by_ ze s hsrc hdst hs
      obtain ⟨d, _, _, hd, _⟩ := hE.ty src _ hsrc
      exact conv_good h hE.ty ho hdst rfl hs ⟨d, hd⟩
    · rename_i e _ _ _ _ _ _ s hsrc hdst hs
      exact str_good h hE.ty ho hsrc rfl hdst rfl hs
  case h_13 t x f ho =>
    split <;> try trivial
    rename_i y s ht hs; exact fieldAddr_good h hE.ty ht ho hs
  case h_14 t x f ho =>
    split <;> try trivial
    rename_i y s ht hs; exact field_good h hE.ty ht ho hs
  case h_15 t x i ho =>
    split <;> try trivial
    rename_i y s r ht hs hr; exact indexAddr_good h hE.ty ht ho hs hr
  case h_16 t x i ho =>
    split <;> try trivial
    rename_i y s r ht hs hr; exact index_good h hE.ty ht ho hs hr
  case h_17 t x lo hi ho =>
    split <;> try trivial
    rename_i y s l r ht hs hl hr; exact slice_good h hE.ty ht ho hs hl hr
  case h_18 t x lo hi mx ho =>
    split <;> try trivial
    rename_i y s l r q ht hs hl hr hq; exact slice3_good h hE.ty ht ho hs hl hr hq
  case h_19 t ps ho =>
    split <;> try trivial
    rename_i y l ht hl; exact build_good h hE.ty ht ho hl
  case h_20 t n ps ho =>
    split <;> try trivial
    rename_i y l ht hl; exact buildSlice_good h hE.ty ht ho hl
  case h_21 t x c ho =>
    split <;> try trivial
    rename_i y s r ht hs hr; exact make_good h hE.ty ht ho hs hr
  case h_22 t i ho =>
    split <;> try trivial
    rename_i xs hxs
    split <;> try trivial
    rename_i s hs
    obtain ⟨vs, hv, hrl⟩ := h.ev hxs
    obtain ⟨u, hu, hru⟩ := hrl.get i s hs
    exact Good.val h (fun w' _ => by simp [execOp, ho, hv, Instr.extract, hu]) hru
  case h_23 f xs ys ho =>
    split <;> try trivial
    rename_i l1 l2 h1 h2
    refine Good.val (u := .func f (xs.map a.eval) (ys.map a.eval)) h (fun w' _ => by simp [execOp, ho, Instr.makeFunc]) ⟨_, _, ?_, evs_rel h _ _ h1, evs_rel h _ _ h2⟩
    congr 1 <;> (apply Array.ext'; simp)
  case h_24 t x ho =>
    split <;> try trivial
    rename_i y s ht hs
    obtain ⟨d, i, z, hd, hdb, _⟩ := hE.ty t _ ht
    split <;> try trivial
    rename_i hni
    refine Good.val (u := .iface t (a.eval x)) h ?_ ⟨_, rfl, h.ev hs⟩
    intro w' _
    simp only [execOp, ho, Instr.makeInterface]
    rw [Sem.run_bind, Sem.run_bind, run_und hd, Result.andThen_ok]
    split
    · rename_i m
      obtain ⟨m', hm'⟩ := (desc_kind hdb).2.2.2.2.2 m rfl
      exact absurd hm' (hni m')
    · rfl
  case h_25 c ho => exact call_good h hE ho
  case h_26 x xt t ok ho =>
    split <;> try trivial
    rename_i y s ht hs; exact assert_good h hE.ty ho ht hs
end

/-! ### Bodies -/
def wpL (P : Program) (all : Array Oper) (Q : Exit → Act → World → Prop) : List Oper → Act → World → Prop
  | [], a, w => Q .normal a w
  | o :: l, a, w => if Region.wanted o (yielded all a.tmps) then o.wp P a w (wpL P all Q l) Q else wpL P all Q l (a.put o.dst undef) w

theorem wpOps_of_wpL {P : Program} {all : Array Oper} {Q : Exit → Act → World → Prop} : ∀ (l : List Oper) (is : List Nat) (a : Act) (w : World), (is.map fun i => all[i]?) = l.map some → wpL P all Q l a w → wpOps P all Q is a w
  | [], is, a, w, h, hw => by
    have : is = [] := by cases is <;> simp_all
    subst this; exact hw
  | o :: l, [], a, w, h, _ => by simp at h
  | o :: l, i :: is, a, w, h, hw => by
    simp only [List.map_cons, List.cons.injEq] at h
    unfold wpOps
    rw [h.1]
    unfold wpL at hw
    dsimp only
    split
    · rename_i hwt
      rw [if_pos hwt] at hw
      exact .inl (Oper.wp_mono (fun a w hh => wpOps_of_wpL l is a w h.2 hh) hw)
    · rename_i hwt
      rw [if_neg hwt] at hw
      exact wpOps_of_wpL l is _ w h.2 hw

theorem wp_region_list {P : Program} {id : Nat} {ops : Array Oper} {Q : Exit → Act → World → Prop} {a : Act} {w : World} (h : wpL P ops Q ops.toList a w) : (Code.region id ops false).wp P Q a w := by
  refine wp_region (wpOps_of_wpL _ _ a w ?_ h)
  apply List.ext_getElem?
  intro i
  simp only [List.getElem?_map, Array.getElem?_toList]
  by_cases hi : i < ops.size
  · simp [hi]
  · simp [hi]

def wpD (hd : FuncId → Option Bool) (P : Program) (all : Array Oper) (Q : Exit → Act → World → Prop) (c : Option Bool) (o : Oper) (t : Tr) (a : Act) (w : World) : Prop :=
  match c with
  | some r => ∃ v, YieldsX P all r o v a w ∧ wpT hd P all Q t (a.put o.dst v) w
  | none => wpAct hd P all Q o (wpT hd P all Q t) a w

def conts (E : Cx) (Q : Exit → Act → World → Prop) : List It → Exit → Act → World → Prop
  | [], e, a, w => Q e a w
  | .code c :: k, .normal, a, w => c.wp E.P (conts E Q k) a w
  | .ops all l :: k, .normal, a, w => wpL E.P all (conts E Q k) l a w
  | .inBlock _ :: k, .normal, a, w => conts E Q k .normal a w
  | .dtr all t :: k, .normal, a, w => wpT E.hard E.P all (conts E Q k) t a w
  | .dop all c o t :: k, .normal, a, w => wpD E.hard E.P all (conts E Q k) c o t a w
  | .dbr all l :: k, .normal, a, w => wpB E.hard E.P all (conts E Q k) l a w
  | .stop X :: _, .normal, a, w => ∃ H β own L M nk, St E H β own w a L M nk ∧ X L M nk
  | .rnd c j :: k, .normal, a, w => Code.rounds E.P c (conts E Q k) j a w
  | .inBlock j :: k, .exit id, a, w => if id = j then conts E Q k .normal a w else conts E Q k (.exit id) a w
  | _ :: k, e, a, w => conts E Q k e a w

/-- The end of the body. -/
def EndR (E : Cx) (e : Ending) (w' : World) : Prop :=
  ∃ H' β' own' r M' nk', MemOK H' β' own' M' w' ∧ Later E.H0 E.own0 E.w0 H' own' w' ∧ (∀ k e, k < E.kp → E.β0 k = some e → β' k = some e) ∧ (∀ k, nk' ≤ k → β' k = none) ∧ E.R r M' nk' ∧
    match r with
    | .ret x => ∃ u, e = .returned u ∧ Rel H' β' x u
    | .pan x => ∃ u, e = .panicked [{ v := u, recovered := false }] ∧ Rel H' β' x u

def finQ (E : Cx) : Exit → Act → World → Prop := match E.dfl with
  | false => bodyPost E.P E.fn (EndR E)
  | true => bodyPostD E.P E.fn (EndR E)

/-- Every destination lies in the frame. -/
def dstB (nt : Nat) (o : Oper) : Bool := match o.dst with | some d => decide (d < nt) | none => true
def opsB (nt : Nat) (l : List Oper) : Bool := l.all (dstB nt)
def codeB (hd : FuncId → Option Bool) (nt : Nat) (plan : Nat → Tr) : Code → Bool
  | .region _ ops false => opsB nt ops.toList
  | .region id ops true => opsB nt ops.toList && kindT hd ops (plan id) && Region.noSelect ops && okP hd .any ops (plan id)
  | .seq a b => codeB hd nt plan a && codeB hd nt plan b
  | .cond _ a b => codeB hd nt plan a && codeB hd nt plan b
  | .block _ b => codeB hd nt plan b
  | .loop b => codeB hd nt plan b
  | .scope b => codeB hd nt plan b
  | _ => true
def itB (hd : FuncId → Option Bool) (nt : Nat) (plan : Nat → Tr) : It → Bool
  | .ops _ l => opsB nt l
  | .dtr all t => opsB nt all.toList && kindT hd all t
  | .dop all c o t => dstB nt o && (match c with | some r => kindO hd r o.op | none => true) && opsB nt all.toList && kindT hd all t
  | .dbr all l => opsB nt all.toList && kindB hd all l
  | .rnd c _ => codeB hd nt plan c
  | .code c => codeB hd nt plan c
  | _ => true

/-- WHAT A STATE AND WHAT IS LEFT TO DO COME TO. -/
def Sat (E : Cx) (its : List It) (L : Slots) (M : Mem) (nk : Nat) : Prop :=
  its.all (itB E.hard E.fn.ntmps E.plan) = true → ∀ H β own w a, St E H β own w a L M nk → conts E (finQ E) its .normal a w

theorem look_put (L : Slots) (d : Option Tmp) (x : SV) (t : Nat) : look (put L d x) t = if d = some t then some x else look L t := by
  cases d with
  | none => simp [put]
  | some d =>
    simp only [put, look, Option.some.injEq]
    by_cases h : t = d
    · subst h; simp
    · simp [h, Ne.symm h]

section
variable {E : Cx} {o : Oper} {a : Act} {w : World} {H : Hp} {β : Env} {own : Nat → Option Nat} {L : Slots} {M : Mem} {nk : Nat}

theorem St.put (h : St E H β own w a L M nk) {H' : Hp} {β' : Env} {own' : Nat → Option Nat} {w' : World} {M' : Mem} {nk' : Nat} {d : Option Tmp} {u : Value} {s : SV}
    (hd : ∀ t, d = some t → t < E.fn.ntmps) (hm : MemOK H' β' own' M' w') (hl : Later H own w H' own' w') (hβ : ∀ k e, β k = some e → β' k = some e) (hk : ∀ k, nk' ≤ k → β' k = none) (hs : Rel H' β' s u) :
    St E H' β' own' w' (a.put d u) (Sx.put L d s) M' nk' where
  mem := hm
  later := h.later.trans hl
  kept k e hk he := hβ k e (h.kept k e hk he)
  slots t x hx := by
    rw [look_put] at hx
    split at hx
    · rename_i hdt
      cases hx
      subst hdt
      have := hd t rfl
      refine ⟨u, ?_, hs⟩
      simp [Act.put, h.size, this]
    · rename_i hdt
      obtain ⟨v, h1, h2⟩ := h.slots t x hx
      refine ⟨v, ?_, Rel.mono hl.mono hβ _ _ h2⟩
      cases d with
      | none => exact h1
      | some d => simp only [Act.put]; rw [Array.getElem?_setIfInBounds_ne (fun e => hdt (by rw [e]))]; exact h1
  keys := hk
  size := by cases d <;> simp [Act.put, h.size]
  defs := by
    have := DefR.mono hl.mono hβ h.defs
    cases d <;> exact this

theorem go1_sound (h : St E H β own w a L M nk) (hd : ∀ t, o.dst = some t → t < E.fn.ntmps) {K : Slots → Mem → Nat → Prop} {S : Prop} {next : Act → World → Prop} {Q : Exit → Act → World → Prop}
    (hK : ∀ L' M' nk' H' β' own' w' a', K L' M' nk' → St E H' β' own' w' a' L' M' nk' → next a' w') (hS : S → o.wp E.P a w next Q) :
    ∀ (r : Out), OutGood E o a w H β own M nk r → go1 K S o.dst L M nk r → o.wp E.P a w next Q
  | .ok s, hg, hr => (OkV.good h hg) next Q fun H' β' own' w' u hm hl hβ hk _ hs => hK _ _ _ H' β' own' w' _ (by simpa only [go1, putK_eq] using hr) (h.put hd hm hl hβ hk hs)
  | .okM s M' nk', hg, hr => hg next Q fun H' β' own' w' u hm hl hβ hk _ hs => hK _ _ _ H' β' own' w' _ (by simpa only [go1, putK_eq, memK_eq] using hr) (h.put hd hm hl hβ hk hs)
  | .cond p r, hg, hr => go1_sound h hd hK hS r (hg hr.1) hr.2
  | .any f, ⟨b, hg⟩, hr => go1_sound h hd hK hS (f b) hg (by cases b; exact hr.2; exact hr.1)
  | .asm p r, hg, hr => go1_sound h hd hK hS r hg.2 (hr hg.1)
  | .stuck, _, hr => hS hr
end

def finO (K : List SV → Prop) (acc : List SV) : Out → Prop
  | .ok s => K (acc ++ [s])
  | .cond p r => p ∧ finO K acc r
  | _ => False

def oneOf : List SV → SV
  | [x] => x
  | l => .tup l

def finGo (E : Rx) (L : Slots) (M : Mem) (nk : Nat) : List ResultVar → List SV → Prop
  | [], acc => E.R (.ret (oneOf acc)) M nk
  | .tmp t :: rs, acc => match look L t with
    | some s => finGo E L M nk rs (acc ++ [s])
    | none => False
  | .cell t ty :: rs, acc => match E.T ty, look L t with
    | some y, some s => finO (finGo E L M nk rs) acc (stLoad y M s)
    | _, _ => False

/-- What waits is called, the last one first. -/
def leaveE (E : Rx) (L : Slots) : List (FuncId × List SV) → Option SV → Mem → Nat → Prop
  | [], none, M, nk => finGo E L M nk E.fn.results.toList []
  | [], some s, M, nk => E.R (.pan s) M nk
  | (g, as) :: ds, p, M, nk => E.Λ g as p M nk fun M' nk' => leaveE E L ds none M' nk'
def finE (E : Rx) (L : Slots) (M : Mem) (nk : Nat) (p : Option SV) : Prop :=
  match E.dfl with
  | false => match p with
    | none => finGo E L M nk E.fn.results.toList []
    | some s => E.R (.pan s) M nk
  | true => leaveE E L E.ds p M nk

section
variable {E : Cx} {o : Oper} {a : Act} {w : World} {H : Hp} {β : Env} {own : Nat → Option Nat} {L : Slots} {M : Mem} {nk : Nat}
def OutRun (P : Program) (t : TypeId) (u0 : Value) (w : World) (H : Hp) (β : Env) : Out → Prop
  | .ok s => ∃ u, (do loadVar t (← asAddr u0)).run P w = .ok u w ∧ Rel H β s u
  | .cond p r => p → OutRun P t u0 w H β r
  | _ => True

theorem rd_out {P : Program} {T : TypeId → Option Ty} {w : World} {H : Hp} {β : Env} (hT : TyOK P T) {t : TypeId} {y : Ty} (ht : T t = some y) {b base : Nat} {c : List SV} {vs : List Value} {off : Nat}
    (hr : RelC H β c vs) (hc : ∀ i u, vs[i]? = some u → w.cell? ⟨b, base + i, none⟩ = some u) : OutRun P t (.pointer (some ⟨b, base + off, none⟩)) w H β (rd y c off) := by
  obtain ⟨d, i, z, hd, hdb, hi, hsz, hby, hz, hpl, hzl⟩ := hT t y ht
  have hag := agg_of_desc hdb
  unfold rd
  split
  · rename_i hagg
    intro hb
    have hlen : (((vs.drop off).take y.size)).length = y.size := by simp [hr.length]; omega
    have hrow := run_loadRow P w b (base + off) ((vs.drop off).take y.size) (fun j u hj => by
      rw [List.getElem?_take] at hj
      split at hj
      · rw [List.getElem?_drop] at hj
        have := hc _ _ hj
        rwa [← Nat.add_assoc] at this
      · cases hj)
    rw [hlen] at hrow
    exact ⟨.agg ((vs.drop off).take y.size).toArray, by simp [asAddr, loadVar, run_isAgg hd, hag, hagg, run_size hi, hsz, hrow], _, rfl, hr.slc off y.size hb⟩
  · rename_i hagg
    intro hb
    obtain ⟨u, hu, hrel, _⟩ := getD_rel hr hb y.z0
    have := hc _ _ hu
    exact ⟨u, by simp [asAddr, loadVar, run_isAgg hd, hag, hagg, this], hrel⟩

theorem load_out {P : Program} {T : TypeId → Option Ty} {w : World} {H : Hp} {β : Env} {own : Nat → Option Nat} {M : Mem} (hT : TyOK P T) (hm : MemOK H β own M w) {t : TypeId} {y : Ty} (ht : T t = some y)
    {s : SV} {u0 : Value} (hs : Rel H β s u0) : OutRun P t u0 w H β (stLoad y M s) := by
  unfold stLoad
  split
  · rename_i k off
    split
    · rename_i ty c hg
      obtain ⟨e, vs, h1, h2, h3, h4⟩ := hm.ent _ _ (mget_mem hg)
      obtain ⟨e', h1', rfl⟩ := hs
      rw [h1] at h1'; cases h1'
      have := rd_out (w := w) hT ht (b := e.blk) (base := 0) (off := off) h3 (fun i u hu => by rw [cell_of_heap h4]; simpa using hu)
      simpa using this
    · trivial
  · rename_i k off
    split
    · rename_i ty z c hg
      obtain ⟨e, h1, h2, h3, h4, h5⟩ := hm.ent _ _ (mget_mem hg)
      obtain ⟨e', h1', rfl⟩ := hs
      rw [h1] at h1'; cases h1'
      rcases h5 with ⟨hcap, hnil⟩ | ⟨prev, vs, junk, g1, g2, g3, g4, g5, _⟩
      · subst hnil
        unfold rd
        split
        · rename_i hag
          intro hb
          simp at hb
          obtain ⟨rfl, hz⟩ := hb
          obtain ⟨d, i, z, hd, hdb, hi, hsz, hby, hz', hpl, hzl⟩ := hT t y ht
          exact ⟨.agg #[], by simp [asAddr, loadVar, run_isAgg hd, agg_of_desc hdb, hag, run_size hi, hsz, hz, loadCells, loadCellsFrom], [], rfl, by simp [slc, RelC]⟩
        · intro hb; simp at hb
      · refine rd_out hT ht g2 (fun i u hu => ?_)
        rw [cell_of_heap g5, g3]
        have hi : i < vs.length := by
          rcases Nat.lt_or_ge i vs.length with h | h
          · exact h
          · rw [List.getElem?_eq_none h] at hu; cases hu
        rw [← hu]; simp [List.getElem?_append, hi]
    · trivial
  · rename_i c off
    obtain ⟨b, base, vs, rfl, hr, hc⟩ := hs
    exact rd_out hT ht hr.up (fun i u hu => cell_of_ro hm (hc i u hu))
  · trivial


theorem finO_out {t : TypeId} {u0 : Value} {K : List SV → Prop} {acc : List SV} : ∀ (r : Out), OutRun E.P t u0 w H β r → finO K acc r →
    ∃ s u, (do loadVar t (← asAddr u0)).run E.P w = .ok u w ∧ Rel H β s u ∧ K (acc ++ [s])
  | .ok s, ⟨u, h1, h2⟩, hk => ⟨s, u, h1, h2, hk⟩
  | .okM _ _ _, _, hk => hk.elim
  | .cond p r, h, hk => finO_out r (h hk.1) hk.2
  | .any _, _, hk => hk.elim
  | .asm _ _, _, hk => hk.elim
  | .stuck, _, hk => hk.elim

def resF (a : Act) : ResultVar → Sem Value
  | .tmp t => pure (a.tmps.getD t undef)
  | .cell p t => do loadVar t (← asAddr (a.tmps.getD p undef))

theorem finGo_run (h : St E H β own w a L M nk) (hE : ROK E.toRx) : ∀ (rs : List ResultVar) (acc : List SV), finGo E.toRx L M nk rs acc →
    ∃ (vs : List Value) (svs : List SV), (rs.mapM (resF a)).run E.P w = .ok vs w ∧ RelL H β svs vs ∧ E.R (.ret (oneOf (acc ++ svs))) M nk
  | [], acc, hf => ⟨[], [], by simp, by simp [RelL], by simpa [finGo] using hf⟩
  | .tmp t :: rs, acc, hf => by
    simp only [finGo] at hf
    split at hf
    · rename_i s hs
      obtain ⟨vs, svs, h1, h2, h3⟩ := finGo_run h hE rs _ hf
      obtain ⟨u, hu, hr⟩ := h.slots t s hs
      refine ⟨u :: vs, s :: svs, ?_, relL_cons.2 ⟨u, vs, rfl, hr, h2⟩, by simpa using h3⟩
      rw [List.mapM_cons]
      simp only [resF, Sem.run_bind, Sem.run_pure, Result.andThen_ok, h1]
      simp [hu]
    · exact hf.elim
  | .cell p t :: rs, acc, hf => by
    simp only [finGo] at hf
    split at hf
    · rename_i y s hy hs
      obtain ⟨u0, hu0, hr0⟩ := h.slots p s hs
      obtain ⟨s', u, g1, g2, g3⟩ := finO_out (E := E) (w := w) _ (load_out hE.ty h.mem hy hr0) hf
      obtain ⟨vs, svs, h1, h2, h3⟩ := finGo_run h hE rs _ g3
      have hg : a.tmps.getD p undef = u0 := by simp [hu0]
      refine ⟨u :: vs, s' :: svs, ?_, relL_cons.2 ⟨u, vs, rfl, g2, h2⟩, by simpa using h3⟩
      rw [List.mapM_cons]
      simp only [resF, hg]
      rw [Sem.run_bind, g1, Result.andThen_ok, Sem.run_bind, h1]
      rfl
    · exact hf.elim

theorem fin_go (h : St E H β own w a L M nk) (hE : ROK E.toRx) (hf : finGo E.toRx L M nk E.fn.results.toList []) : ∃ v, (results E.fn a.tmps).run E.P w = .ok v w ∧ EndR E (.returned v) w := by
  obtain ⟨vs, svs, h1, h2, h3⟩ := finGo_run h hE _ _ hf
  have hrun : (results E.fn a.tmps).run E.P w = .ok (if hh : vs.toArray.size = 1 then vs.toArray[0] else .tuple vs.toArray) w := by
    have e : results E.fn a.tmps = (do let vs ← E.fn.results.mapM (resF a); pure (if h : vs.size = 1 then vs[0] else .tuple vs)) := rfl
    rw [e, Sem.run_bind, Array.mapM_eq_mapM_toList, Sem.run_map, h1]
    rfl
  refine ⟨_, hrun, H, β, own, .ret (oneOf svs), M, nk, h.mem, h.later, h.kept, h.keys, by simpa using h3, _, rfl, ?_⟩
  match svs, vs, h2 with
  | [], vs, h2 =>
    rw [relL_nil] at h2; subst h2
    exact ⟨[], rfl, by simp [RelL]⟩
  | [x], vs, h2 =>
    obtain ⟨u, us', rfl, hr, hn⟩ := relL_cons.1 h2
    rw [relL_nil] at hn; subst hn
    simpa [oneOf] using hr
  | x :: y :: l, vs, h2 =>
    have hl := h2.length
    simp only [List.length_cons] at hl
    rw [dif_neg (by simp; omega)]
    exact ⟨vs, rfl, h2⟩


theorem St.later2 (h : St E H β own w a L M nk) {H' : Hp} {β' : Env} {own' : Nat → Option Nat} {w' : World} {M' : Mem} {nk' : Nat} {ds' : List (FuncId × List SV)} {defs' : List Deferred}
    (hm : MemOK H' β' own' M' w') (hl : Later H own w H' own' w') (hβ : ∀ k e, β k = some e → β' k = some e) (hk : ∀ k, nk' ≤ k → β' k = none) (hd : DefR H' β' ds' defs') :
    St { E with ds := ds' } H' β' own' w' { a with defers := defs' } L M' nk' where
  mem := hm
  later := h.later.trans hl
  kept k e hk he := hβ k e (h.kept k e hk he)
  slots t x hx := by
    obtain ⟨v, h1, h2⟩ := h.slots t x hx
    exact ⟨v, h1, Rel.mono hl.mono hβ _ _ h2⟩
  keys := hk
  size := h.size
  defs := hd

/-- A mode, as it stands when what waits is called. -/
def modeOf : Option Value → FrameMode
  | none => .returning
  | some v => .panicking [{ v := v, recovered := false }]

theorem leave_sound (hE : ROK E.toRx) (ds : List (FuncId × List SV)) : ∀ (a : Act) (p : Option SV) (pv : Option Value) (H : Hp) (β : Env) (own : Nat → Option Nat) (w : World) (M : Mem) (nk : Nat),
    St { E with ds := ds } H β own w a L M nk → (match p, pv with | none, none => True | some s, some v => Rel H β s v | _, _ => False) → leaveE E.toRx L ds p M nk →
    Leaves E.P E.fn a.tmps (EndR E) a.defers (modeOf pv) w := by
  induction ds with
  | nil =>
    intro a p pv H β own w M nk h hp hf
    have hd : a.defers = [] := h.defs
    rw [hd]
    match p, pv, hp with
    | none, none, _ =>
      have := fin_go (E := { E with ds := [] }) h ⟨fun _ => rfl, hE.l, hE.ty, hE.ty0, hE.g, hE.d, hE.mixed⟩ (by
        have hf : finGo E.toRx L M nk E.fn.results.toList [] := hf
        have : ∀ (rs : List ResultVar) (acc : List SV), finGo E.toRx L M nk rs acc → finGo { E.toRx with ds := [] } L M nk rs acc := by
          intro rs
          induction rs with
          | nil => intro acc h; exact h
          | cons r rs ih =>
            intro acc h
            cases r with
            | tmp t =>
              simp only [finGo] at h ⊢
              split at h
              · exact ih _ h
              · exact h.elim
            | cell t ty =>
              simp only [finGo] at h ⊢
              split at h
              · rename_i y s hy hs
                have mono : ∀ (o : Out), finO (finGo E.toRx L M nk rs) acc o → finO (finGo { E.toRx with ds := [] } L M nk rs) acc o := by
                  intro o
                  induction o with
                  | ok s => exact ih _
                  | cond p r ih2 => exact fun h => ⟨h.1, ih2 h.2⟩
                  | _ => exact id
                exact mono _ h
              · exact h.elim
        exact this _ _ hf)
      obtain ⟨v, h1, h2⟩ := this
      exact ⟨v, h1, h2⟩
    | some s, some v, hp =>
      exact ⟨H, β, own, .pan s, M, nk, h.mem, h.later, h.kept, h.keys, hf, v, rfl, hp⟩
  | cons d ds ih =>
    obtain ⟨g, as⟩ := d
    intro a p pv H β own w M nk h hp hf
    obtain ⟨us, vs, l', hd, hrel, hds⟩ := h.defs
    rw [hd]
    have hu : modeOf pv ≠ .run := by cases pv <;> simp [modeOf]
    obtain ⟨hc, hcall⟩ := hE.l g as p M nk H β own w _ (modeOf pv) h.mem h.keys hrel (by
      match p, pv, hp with
      | none, none, _ => rfl
      | some s, some v, hp => exact ⟨v, rfl, hp⟩) _ hf
    refine leaves_cons hu (f := g) (args := vs ++ us) (by simp only [invoke]; exact hc _ _) ?_
    rw [Array.toArray_toList] at hcall
    refine hcall.mono ?_
    rintro e u' w' ⟨H', β', own', M', nk', v, rfl, hm', hl', hβ', hk', hΦ, hset⟩
    dsimp only
    rw [hset]
    have hst := h.later2 hm' hl' hβ' hk' (ds' := ds) (defs' := l') (DefR.mono hl'.mono hβ' hds)
    exact ih { a with defers := l' } none none H' β' own' w' M' nk' hst trivial hΦ

theorem St.noDefs (h : St E H β own w a L M nk) (hd : E.ds = []) : a.defers = [] := by
  have := h.defs
  rw [hd] at this
  exact this

theorem finE_ret (h : St E H β own w a L M nk) (hE : ROK E.toRx) (hf : finE E.toRx L M nk none) : finQ E .ret a w ∧ finQ E .normal a w := by
  unfold finE at hf
  unfold finQ
  split at hf
  · rename_i hd
    rw [hd]
    have := fin_go h hE hf
    exact ⟨⟨h.noDefs (hE.nd hd), this⟩, h.noDefs (hE.nd hd), this⟩
  · rename_i hd
    rw [hd]
    have := leave_sound hE E.ds a none none H β own w M nk h trivial hf
    exact ⟨this, this⟩
theorem finE_pan (h : St E H β own w a L M nk) (hE : ROK E.toRx) {s : SV} {v : Value} (hs : Rel H β s v) (hf : finE E.toRx L M nk (some s)) : finQ E (.panic [{ v := v, recovered := false }]) a w := by
  unfold finE at hf
  unfold finQ
  split at hf
  · rename_i hd
    rw [hd]
    exact ⟨h.noDefs (hE.nd hd), H, β, own, .pan s, M, nk, h.mem, h.later, h.kept, h.keys, hf, v, rfl, hs⟩
  · rename_i hd
    rw [hd]
    exact leave_sound hE E.ds a (some s) (some v) H β own w M nk h hs hf
end
/-- One that is taken first: a value, and nothing else. -/
def go1C (K : Slots → Mem → Nat → Prop) (d : Option Tmp) (L : Slots) (M : Mem) (nk : Nat) : Out → Prop
  | .ok s => putK L d s fun L' => K L' M nk
  | .cond p r => p ∧ go1C K d L M nk r
  | .any f => go1C K d L M nk (f true) ∧ go1C K d L M nk (f false)
  | .asm p r => p → go1C K d L M nk r
  | _ => False
/-- One of those that are branched over. -/
def go1A (K : Slots → Mem → Nat → Prop) (op : Op) (d : Option Tmp) (L : Slots) (M : Mem) (nk : Nat) : Out → Prop
  | .ok s => putK L d s fun L' => K L' M nk
  | .okM s M' nk' => calmB op = false ∧ putK L d s fun L' => memK M' fun M'' => K L' M'' nk'
  | .cond p r => p ∧ go1A K op d L M nk r
  | .any f => go1A K op d L M nk (f true) ∧ go1A K op d L M nk (f false)
  | .asm p r => p → go1A K op d L M nk r
  | .stuck => False

/-- Behind a call that turns own memory. -/
def goCall (E : Rx) (K : Slots → Mem → Nat → Prop) (d : Option Tmp) (L : Slots) : Res → Mem → Nat → Prop
  | .ret s, M, nk => putK L d s fun L' => memK M fun M' => K L' M' nk
  | .pan s, M, nk => finE E L M nk (some s)

/-- One operation, and what follows. -/
def opK (E : Rx) (K : Slots → Mem → Nat → Prop) (S : Prop) (op : Op) (d : Option Tmp) (L : Slots) (M : Mem) (nk : Nat) : Prop :=
  match op with
  | .panic x => match ev L x with
    | some (.ifc t s) => finE E L M nk (some (.ifc t s))
    | _ => S
  | .call c => match callOf L c with
    | some (g, as) => match E.hard g with
      | some _ => E.Δ g as M nk (goCall E K d L)
      | none => go1 K S d L M nk (stepR E (.call c) L M nk)
    | none => go1 K S d L M nk (stepR E (.call c) L M nk)
  | op => go1 K S d L M nk (stepR E op L M nk)
/-- .. in a region whose order is drawn. -/
def opA (E : Rx) (K : Slots → Mem → Nat → Prop) (op : Op) (d : Option Tmp) (L : Slots) (M : Mem) (nk : Nat) : Prop :=
  match op with
  | .call c => match callOf L c with
    | some (g, as) => match E.hard g with
      | some _ => E.Δ g as M nk (goCall E K d L)
      | none => go1A K op d L M nk (stepR E (.call c) L M nk)
    | none => go1A K op d L M nk (stepR E (.call c) L M nk)
  | op => go1A K op d L M nk (stepR E op L M nk)

section
variable {E : Cx} {o : Oper} {a : Act} {w : World} {H : Hp} {β : Env} {own : Nat → Option Nat} {L : Slots} {M : Mem} {nk : Nat}
theorem go1C_sound (h : St E H β own w a L M nk) (hd : ∀ t, o.dst = some t → t < E.fn.ntmps) {r : Bool} (hk : kindO E.hard r o.op = true) {K : Slots → Mem → Nat → Prop} {next : Act → World → Prop}
    (hK : ∀ L' M' nk' H' β' own' w' a', K L' M' nk' → St E H' β' own' w' a' L' M' nk' → next a' w') :
    ∀ (x : Out), OutGood E o a w H β own M nk x → go1C K o.dst L M nk x → ∃ u, (∀ w', (r = true ∨ Ext w w') → (execOp a.eval o).run E.P w' = .ok (.value u) w') ∧ next (a.put o.dst u) w
  | .ok s, hg, hr => by
    simp only [go1C, putK_eq] at hr
    rcases hg with ⟨u, h1, h2⟩ | ⟨hx, _⟩
    · refine ⟨u, fun w' hw' => h1 w' (hw'.imp (fun e => ?_) id), hK _ _ _ H β own w _ hr (h.put hd h.mem (Later.refl _ _ _) (fun _ _ h => h) h.keys h2)⟩
      subst e; simpa [kindO] using hk
    · exfalso
      unfold kindO at hk
      split at hk
      · generalize o.op = op at hk hx
        unfold extOp at hx
        split at hx <;> simp_all [regB]
      · simp [hx] at hk
  | .cond p x, hg, hr => go1C_sound h hd hk hK x (hg hr.1) hr.2
  | .any f, ⟨b, hg⟩, hr => go1C_sound h hd hk hK (f b) hg (by cases b; exact hr.2; exact hr.1)
  | .asm p r, hg, hr => go1C_sound h hd hk hK r hg.2 (hr hg.1)
  | .okM .., _, hr => hr.elim
  | .stuck, _, hr => hr.elim
theorem go1A_sound (h : St E H β own w a L M nk) (hd : ∀ t, o.dst = some t → t < E.fn.ntmps) {K : Slots → Mem → Nat → Prop} {next : Act → World → Prop} {Q : Exit → Act → World → Prop}
    (hK : ∀ L' M' nk' H' β' own' w' a', K L' M' nk' → St E H' β' own' w' a' L' M' nk' → next a' w') :
    ∀ (x : Out), OutGood E o a w H β own M nk x → go1A K o.op o.dst L M nk x → o.wp E.P a w (fun a' w' => (soft E.hard o.op = true → Ext w w') ∧ next a' w') Q
  | .ok s, hg, hr => by
    simp only [go1A, putK_eq] at hr
    rcases hg with ⟨u, h1, h2⟩ | ⟨hx, hg⟩
    · unfold Oper.wp
      rw [h1 w (.inr (Ext.refl w))]
      exact ⟨fun _ => Ext.refl w, hK _ _ _ H β own w _ hr (h.put hd h.mem (Later.refl _ _ _) (fun _ _ h => h) h.keys h2)⟩
    · exact hg _ Q fun H' β' own' w' u hm hl hβ hk hex hs => ⟨fun _ => hex hx, hK _ _ _ H' β' own' w' _ hr (h.put hd hm hl hβ hk hs)⟩
  | .okM s M' nk', hg, hr => by
    simp only [go1A, putK_eq, memK_eq] at hr
    exact hg _ Q fun H' β' own' w' u hm hl hβ hk hex hs => ⟨fun hs' => hex (by simpa [soft, hr.1] using hs'), hK _ _ _ H' β' own' w' _ hr.2 (h.put hd hm hl hβ hk hs)⟩
  | .cond p x, hg, hr => go1A_sound h hd hK x (hg hr.1) hr.2
  | .any f, ⟨b, hg⟩, hr => go1A_sound h hd hK (f b) hg (by cases b; exact hr.2; exact hr.1)
  | .asm p r, hg, hr => go1A_sound h hd hK r hg.2 (hr hg.1)
  | .stuck, _, hr => hr.elim

/-- A panic ends the body. -/
theorem panR (h : St E H β own w a L M nk) (hE : ROK E.toRx) {H' : Hp} {β' : Env} {own' : Nat → Option Nat} {w' : World} {M' : Mem} {nk' : Nat} {s : SV} {u : Value} (hR : finE E.toRx L M' nk' (some s))
    (hm : MemOK H' β' own' M' w') (hl : Later H own w H' own' w') (hβ : ∀ k e, β k = some e → β' k = some e) (hk : ∀ k, nk' ≤ k → β' k = none) (hs : Rel H' β' s u) :
    finQ E (.panic [{ v := u, recovered := false }]) a w' :=
  finE_pan (h.later2 hm hl hβ hk (DefR.mono hl.mono hβ h.defs)) hE hs hR

theorem hard_sound (h : St E H β own w a L M nk) (hE : ROK E.toRx) (hd : ∀ t, o.dst = some t → t < E.fn.ntmps) {c : Call} (ho : o.op = .call c) {g : FuncId} {as : List SV} (hc : callOf L c = some (g, as)) {q : Bool} (hq : E.hard g = some q)
    {K : Slots → Mem → Nat → Prop} {next : Act → World → Prop} {Q : Exit → Act → World → Prop} (hQ : ∀ ch w', finQ E (.panic ch) a w' → Q (.panic ch) a w')
    (hK : ∀ L' M' nk' H' β' own' w' a', K L' M' nk' → St E H' β' own' w' a' L' M' nk' → next a' w') (hr : E.Δ g as M nk (goCall E.toRx K o.dst L)) :
    o.wp E.P a w (fun a' w' => (soft E.hard o.op = true → Ext w w') ∧ next a' w') Q := by
  obtain ⟨vals, hall, hrun, fv, hfv, hfg⟩ := callOf_run h ho hc
  obtain ⟨hent, hm⟩ := hE.d g q hq
  unfold Oper.wp
  rw [hrun, hent, Oper.upon_enter]
  refine (hm as M nk H β own w vals h.mem h.keys hall _ hr).mono ?_
  rintro e w' ⟨H', β', own', r, M', nk', hm', hl', hβ', hk', hx', hΦ, he⟩
  cases r with
  | ret x =>
    obtain ⟨u, rfl, hu⟩ := he
    simp only [goCall, putK_eq, memK_eq] at hΦ
    refine ⟨fun hs => hx' ?_, hK _ _ _ H' β' own' w' _ hΦ (h.put hd hm' hl' hβ' hk' hu)⟩
    unfold soft at hs
    have hcm : calmB o.op = false := by simp [calmB, regB, ho, hfv]
    rw [hcm, Bool.false_or] at hs
    unfold extOp at hs
    simp only [ho, hfv] at hs
    split at hs
    · rename_i f hff
      cases hff
      obtain rfl := hfg _ rfl
      rw [hq] at hs; exact hs
    · cases hs
  | pan x =>
    obtain ⟨u, rfl, hu⟩ := he
    exact hQ _ _ (panR h hE hΦ hm' hl' hβ' hk' hu)

theorem opK_sound (h : St E H β own w a L M nk) (hE : ROK E.toRx) (hd : ∀ t, o.dst = some t → t < E.fn.ntmps) {K : Slots → Mem → Nat → Prop} {S : Prop} {next : Act → World → Prop} {Q : Exit → Act → World → Prop}
    (hQ : ∀ ch w', finQ E (.panic ch) a w' → Q (.panic ch) a w')
    (hK : ∀ L' M' nk' H' β' own' w' a', K L' M' nk' → St E H' β' own' w' a' L' M' nk' → next a' w') (hS : S → o.wp E.P a w next Q) (hr : opK E.toRx K S o.op o.dst L M nk) : o.wp E.P a w next Q := by
  have base : go1 K S o.dst L M nk (stepR E.toRx o.op L M nk) → o.wp E.P a w next Q := fun hr => go1_sound h hd hK hS _ (step_good h hE) hr
  unfold opK at hr
  split at hr
  · rename_i x ho
    split at hr
    · rename_i t s hx
      obtain ⟨v, hv, hs⟩ := h.ev hx
      unfold Oper.wp
      have : (execOp a.eval o).run E.P w = .halt (.panic (.iface t v)) w := by simp [execOp, ho, hv, Instr.panic]
      rw [this]
      exact hQ _ _ (panR h hE hr h.mem (Later.refl _ _ _) (fun _ _ h => h) h.keys ⟨v, rfl, hs⟩)
    · exact hS hr
  · rename_i c ho
    split at hr
    · rename_i g as hc
      split at hr
      · rename_i q hq
        exact Oper.wp_mono (fun a w hh => hh.2) (hard_sound h hE hd ho hc hq hQ hK hr)
      · rw [← ho] at hr; exact base hr
    · rw [← ho] at hr; exact base hr
  · exact base hr

theorem opA_sound (h : St E H β own w a L M nk) (hE : ROK E.toRx) (hd : ∀ t, o.dst = some t → t < E.fn.ntmps) {K : Slots → Mem → Nat → Prop} {next : Act → World → Prop} {Q : Exit → Act → World → Prop}
    (hQ : ∀ ch w', finQ E (.panic ch) a w' → Q (.panic ch) a w')
    (hK : ∀ L' M' nk' H' β' own' w' a', K L' M' nk' → St E H' β' own' w' a' L' M' nk' → next a' w') (hr : opA E.toRx K o.op o.dst L M nk) :
    o.wp E.P a w (fun a' w' => (soft E.hard o.op = true → Ext w w') ∧ next a' w') Q := by
  have base : go1A K o.op o.dst L M nk (stepR E.toRx o.op L M nk) → o.wp E.P a w (fun a' w' => (soft E.hard o.op = true → Ext w w') ∧ next a' w') Q := fun hr => go1A_sound h hd hK _ (step_good h hE) hr
  unfold opA at hr
  split at hr
  · rename_i c ho
    split at hr
    · rename_i g as hc
      split at hr
      · rename_i q hq
        exact hard_sound h hE hd ho hc hq hQ hK hr
      · rw [← ho] at hr; exact base hr
    · rw [← ho] at hr; exact base hr
  · exact base hr
end

def nth : List Oper → Nat → Option Oper
  | [], _ => none
  | o :: _, 0 => some o
  | _ :: l, n + 1 => nth l n
theorem nth_eq : ∀ (l : List Oper) (i : Nat), nth l i = l[i]?
  | [], _ => rfl
  | o :: _, 0 => rfl
  | _ :: l, n + 1 => by simp [nth, nth_eq l n]

def goO (K : Oper → Prop) : Option Oper → Prop
  | some o => K o
  | none => False

def skipO (o : Oper) : Oper := { o with op := .move (.const undef), guard := none }
def noGuard (o : Oper) : Oper := { o with guard := none }

/-- One of two ways. -/
def brP (b : Bool) (A B : Prop) : Prop := match b with | true => A | false => B
theorem brP_intro {b : Bool} {A B : Prop} (h1 : b = true → A) (h2 : b = false → B) : brP b A B := by cases b; exact h2 rfl; exact h1 rfl
theorem brP_dec {p : Prop} [Decidable p] {A B : Prop} (h1 : p → A) (h2 : ¬ p → B) : brP (decide p) A B := by
  by_cases h : p
  · simp only [brP, h, decide_true]; exact h1 h
  · simp only [brP, h, decide_false]; exact h2 h
theorem brP_t {b : Bool} {A B : Prop} (h : b = true) (hA : A) : brP b A B := by subst h; exact hA
theorem brP_f {b : Bool} {A B : Prop} (h : b = false) (hB : B) : brP b A B := by subst h; exact hB
theorem brP_elim {b : Bool} {A B : Prop} (h : brP b A B) : (b = true → A) ∧ (b = false → B) := by cases b <;> simp_all [brP]

/-- What a way taken tells of a slot. -/
def knowL : Operand → Bool → Slots → Slots
  | .tmp t, v, L => (t, .bol v) :: L
  | _, _, L => L
def knowT : Option Tmp → Bool → Slots → Slots
  | some t, v, L => (t, .bol v) :: L
  | none, _, L => L

def knowLK (t : Operand) (v : Bool) (L : Slots) (K : Slots → Prop) : Prop := match t with
  | .tmp t => K ((t, .bol v) :: L)
  | _ => K L
def knowTK (t : Option Tmp) (v : Bool) (L : Slots) (K : Slots → Prop) : Prop := match t with
  | some t => K ((t, .bol v) :: L)
  | none => K L
theorem knowLK_eq (t : Operand) (v : Bool) (L : Slots) (K : Slots → Prop) : knowLK t v L K = K (knowL t v L) := by cases t <;> rfl
theorem knowTK_eq (t : Option Tmp) (v : Bool) (L : Slots) (K : Slots → Prop) : knowTK t v L K = K (knowT t v L) := by cases t <;> rfl
def goC (t : Operand) (A B : Slots → Mem → Nat → Prop) (S : Prop) (L : Slots) (M : Mem) (nk : Nat) : Option SV → Prop
  | some (.bol b) => brP b (knowLK t true L fun L => A L M nk) (knowLK t false L fun L => B L M nk)
  | _ => S

/-- What a guard says: run it, or not. -/
def goG (g : Option Tmp) (want : Bool) (A B : Slots → Mem → Nat → Prop) (S : Prop) (L : Slots) (M : Mem) (nk : Nat) : Option SV → Prop
  | some (.bol b) => match want with
    | true => brP b (knowTK g true L fun L => A L M nk) (knowTK g false L fun L => B L M nk)
    | false => brP b (knowTK g true L fun L => B L M nk) (knowTK g false L fun L => A L M nk)
  | some (.v (.tuple _)) => B L M nk
  | _ => S

def guardT (all : Array Oper) (j : Nat) : Option Tmp := (all[j]?).bind (·.dst)
def lookO (L : Slots) : Option Tmp → Option SV
  | some t => look L t
  | none => none

def dropTo (id : Nat) : List It → Option (List It)
  | [] => none
  | .inBlock j :: k => if id = j then some k else dropTo id k
  | _ :: k => dropTo id k

def goX (K : List It → Slots → Mem → Nat → Prop) (S : Prop) (L : Slots) (M : Mem) (nk : Nat) : Option (List It) → Prop
  | some k => K k L M nk
  | none => S

/-- .. whatever came ahead of the body. -/
structure SatR (E : Rx) (its : List It) (L : Slots) (M : Mem) (nk : Nat) : Prop where
  sat : ∀ C : Cx, C.toRx = E → ROK E → Sat C its L M nk

def It.noStop : It → Bool
  | .stop _ => false
  | _ => true
def deferOf (L : Slots) : Op → Option (FuncId × List SV)
  | .defer c => match c.callee with
    | .value f => match ev L f with
      | some (.fn (.func g) xs ys) => match evs L c.args.toList with
        | some as => some (g, xs ++ as ++ ys)
        | none => none
      | _ => none
    | _ => none
  | _ => none
def addD (E : Rx) (d : FuncId × List SV) : Rx := { E with ds := d :: E.ds }

/-- **THE RUNNER.** -/
def run : Rx → Nat → List It → Slots → Mem → Nat → Prop
  | E, 0, its, L, M, nk => SatR E its L M nk
  | E, _ + 1, [], L, M, nk => finE E L M nk none
  | E, n + 1, it :: k, L, M, nk =>
    match it with
    | .stop X => X L M nk
    | .rnd b j => match j with
      | 0 => False
      | j + 1 => run E n (.code b :: .rnd b j :: k) L M nk
    | .inBlock _ => run E n k L M nk
    | .ops all l => match l with
      | [] => run E n k L M nk
      | o :: l => match o.guard with
        | none => match deferOf L o.op with
          | some d => match E.dfl && k.all It.noStop with
            | true => putK L o.dst (.v undef) fun L' => run (addD E d) n (.ops all l :: k) L' M nk
            | false => SatR E (.ops all (o :: l) :: k) L M nk
          | none => opK E (run E n (.ops all l :: k)) (SatR E (.ops all (o :: l) :: k) L M nk) o.op o.dst L M nk
        | some (j, want) => goG (guardT all j) want (run E n (.ops all (noGuard o :: l) :: k)) (run E n (.ops all (skipO o :: l) :: k)) (SatR E (.ops all (o :: l) :: k) L M nk) L M nk (lookO L (guardT all j))
    | .dtr all t => match t with
      | .done => run E n k L M nk
      | .take r i t => goO (fun o => run E n (.dop all (some r) o t :: k) L M nk) (nth all.toList i)
      | .br l => run E n (.dbr all l :: k) L M nk
    | .dbr all l => match l with
      | .nil => True
      | .cons i t l => match l with
        | .nil => goO (fun o => run E n (.dop all none o t :: k) L M nk) (nth all.toList i)
        | l => goO (fun o => run E n (.dop all none o t :: k) L M nk) (nth all.toList i) ∧ run E n (.dbr all l :: k) L M nk
    | .dop all c o t => match o.guard with
      | none => match c with
        | some _ => go1C (run E n (.dtr all t :: k)) o.dst L M nk (stepR E o.op L M nk)
        | none => opA E (run E n (.dtr all t :: k)) o.op o.dst L M nk
      | some (j, want) => goG (guardT all j) want (run E n (.dop all c (noGuard o) t :: k)) (run E n (.dop all c (skipO o) t :: k)) False L M nk (lookO L (guardT all j))
    | .code c => match c with
      | .skip => run E n k L M nk
      | .region _ ops false => run E n (.ops ops ops.toList :: k) L M nk
      | .region id ops true => match E.dfl with
        | false => run E n (.dtr ops (E.plan id) :: k) L M nk
        | true => SatR E (.code c :: k) L M nk
      | .seq a b => run E n (.code a :: .code b :: k) L M nk
      | .cond t a b => goC t (run E n (.code a :: k)) (run E n (.code b :: k)) (SatR E (.code c :: k) L M nk) L M nk (ev L t)
      | .block id b => run E n (.code b :: .inBlock id :: k) L M nk
      | .exit id => goX (run E n) (SatR E (.code c :: k) L M nk) L M nk (dropTo id k)
      | .ret => finE E L M nk none
      | .loop b => match E.unr with
        | 0 => SatR E (.code c :: k) L M nk
        | j + 1 => run E n (.code b :: .rnd b j :: k) L M nk
      | c => SatR E (.code c :: k) L M nk

end Go.Sx
