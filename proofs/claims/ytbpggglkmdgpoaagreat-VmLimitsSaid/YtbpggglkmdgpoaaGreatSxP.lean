/-
  SxP: a buffer, seen as a block whose cells are all known.
-/
import Derived.Test.YtbpggglkmdgpoaaGreatSxO
set_option linter.all false
set_option linter.unusedSimpArgs false
set_option linter.unusedVariables false
namespace Go.Sx
open Go

theorem relC_v (H : Hp) (β : Env) : ∀ (l : List Value), (∀ v ∈ l, atomV v = true) → RelC H β (l.map SV.v) l
  | [], _ => rfl
  | v :: l, h => relC_cons.2 ⟨v, l, rfl, rfl, h v (List.mem_cons_self ..), relC_v H β l fun u hu => h u (List.mem_cons_of_mem _ hu)⟩
theorem closedL_v : ∀ (l : List Value), closedL (l.map SV.v)
  | [] => trivial
  | _ :: l => ⟨trivial, closedL_v l⟩

theorem mget_mset_same {M : Mem} {k : Nat} {e x : Ent} (h : mget M k = some e) : mget (mset M k x) k = some x := by
  induction M with
  | nil => cases h
  | cons a l ih =>
    obtain ⟨i, y⟩ := a
    unfold mset
    split
    · rename_i hk; simp [mget, hk]
    · rename_i hk
      simp only [mget, hk, if_false] at h ⊢
      exact ih h
theorem mem_mset_other {M : Mem} {k j : Nat} {e x : Ent} (h : (j, x) ∈ M) (hne : j ≠ k) : (j, x) ∈ mset M k e := by
  induction M with
  | nil => cases h
  | cons a l ih =>
    obtain ⟨i, y⟩ := a
    unfold mset
    rcases List.mem_cons.1 h with h | h
    · cases h
      rw [if_neg (fun e => hne e.symm)]
      exact List.mem_cons_self ..
    · split
      · exact List.mem_cons_of_mem _ (ih h)
      · exact List.mem_cons_of_mem _ (ih h)
theorem mset_mset (M : Mem) (k : Nat) (x y : Ent) : mset (mset M k x) k y = mset M k y := by
  induction M with
  | nil => rfl
  | cons a l ih =>
    obtain ⟨i, z⟩ := a
    by_cases hk : k = i
    · subst hk; simp [mset, ih]
    · simp [mset, hk, ih]

section
variable {H : Hp} {β : Env} {own : Nat → Option Nat} {M : Mem} {w : World}

/-- One key seen otherwise. -/
theorem MemOK.see (h : MemOK H β own M w) {k : Nat} {x : Ent} (hx : EntOK H β own w k x) : MemOK H β own (mset M k x) w :=
  ⟨h.ro, h.lt, fun j e he => by
    rcases mem_mset he with ⟨rfl, rfl⟩ | ⟨_, hm⟩
    · exact hx
    · exact h.ent j e hm⟩

/-- **OPENED**. -/
theorem MemOK.opened (h : MemOK H β own M w) {k lo n : Nat} {t : TypeId} {z : Nat} {c : List SV} (hg : mget M k = some (.buf t z c)) {u : Value} (hu : Rel H β (.os k lo n) u) (hn : 0 < n) :
    ∃ (pre junk : List Value) (cap : Nat), n ≤ cap ∧ 0 < z ∧ Rel H β (.sc k (pre.length + lo * z) n cap) u ∧ (lo + cap) * z = c.length + junk.length ∧
      MemOK H β own (mset M k (.cells t (pre.map SV.v ++ c ++ junk.map SV.v))) w ∧
      (∀ (H' : Hp) (β' : Env) (own' : Nat → Option Nat) (w' : World) (M' : Mem) (c' : List SV), (∀ k e, β k = some e → β' k = some e) → c'.length = c.length → mget M' k = some (.cells t (pre.map SV.v ++ c' ++ junk.map SV.v)) →
        MemOK H' β' own' M' w' → MemOK H' β' own' (mset M' k (.buf t z c')) w' ∧ ∀ (n' : Nat) (u' : Value), Rel H' β' (.sc k (pre.length + lo * z) n' cap) u' → Rel H' β' (.os k lo n') u') := by
  obtain ⟨e, he, ad, cap, rfl, hnc, hle, hc⟩ := hu
  obtain ⟨e', h1, h2, h3, h4, h5⟩ := h.ent _ _ (mget_mem hg)
  rw [he] at h1; cases h1
  rcases hc with rfl | ⟨rfl, hcap⟩
  · omega
  rcases h5 with ⟨hcap0, rfl⟩ | ⟨prev, vs, junk, p1, p2, p3, p4, p5, p6⟩
  · omega
  refine ⟨prev, junk, cap, hnc, h3, ⟨e, he, _, rfl, hnc, .inr (by rw [p3, h2])⟩, ?_, ?_, ?_⟩
  · rw [hcap, ← p4, p2.length]
  · refine h.see ⟨e, prev ++ vs ++ junk, he, p1, ?_, p5⟩
    exact ((relC_v H β prev fun v hv => p6 v (List.mem_append.2 (.inl hv))).append p2).append (relC_v H β junk fun v hv => p6 v (List.mem_append.2 (.inr hv)))
  · intro H' β' own' w' M' c' hβ hcl hg' hm'
    obtain ⟨e2, us, q1, q2, q3, q4⟩ := hm'.ent _ _ (mget_mem hg')
    rw [hβ k e he] at q1; cases q1
    have hspl : ∃ us1, RelC H' β' c' us1 ∧ us = prev ++ us1 ++ junk := by
      have hlen := q3.length
      simp only [List.length_append, List.length_map] at hlen
      have t1 : RelC H' β' ((prev.map SV.v ++ c' ++ junk.map SV.v).take prev.length) (us.take prev.length) := q3.take _
      have t2 : RelC H' β' (((prev.map SV.v ++ c' ++ junk.map SV.v).drop prev.length).take c'.length) ((us.drop prev.length).take c'.length) := (q3.drop _).take _
      have t3 : RelC H' β' ((prev.map SV.v ++ c' ++ junk.map SV.v).drop (prev.length + c'.length)) (us.drop (prev.length + c'.length)) := q3.drop _
      have e1 : (prev.map SV.v ++ c' ++ junk.map SV.v).take prev.length = prev.map SV.v := by
        rw [List.append_assoc, List.take_append_of_le_length (by simp)]; simp
      have e2' : ((prev.map SV.v ++ c' ++ junk.map SV.v).drop prev.length).take c'.length = c' := by
        have e0 : (prev.map SV.v).drop prev.length = [] := List.drop_of_length_le (by simp)
        rw [List.append_assoc, List.drop_append_of_le_length (by simp), e0, List.nil_append, List.take_left]
      have e3 : (prev.map SV.v ++ c' ++ junk.map SV.v).drop (prev.length + c'.length) = junk.map SV.v := by
        have : prev.length + c'.length = (prev.map SV.v ++ c').length := by simp
        rw [this, List.drop_left]
      rw [e1] at t1; rw [e2'] at t2; rw [e3] at t3
      have veq : ∀ (l : List Value) (m : List Value), RelC H' β' (l.map SV.v) m → m = l := by
        intro l
        induction l with
        | nil => intro m hm; exact hm
        | cons a l ih =>
          intro m hm
          obtain ⟨x, xs, rfl, hx, _, hxs⟩ := relC_cons.1 hm
          rw [show x = a from hx, ih xs hxs]
      refine ⟨_, t2, ?_⟩
      have d1 := veq _ _ t1
      have d3 := veq _ _ t3
      calc us = us.take prev.length ++ us.drop prev.length := (List.take_append_drop _ _).symm
        _ = us.take prev.length ++ ((us.drop prev.length).take c'.length ++ (us.drop prev.length).drop c'.length) := by rw [List.take_append_drop c'.length]
        _ = prev ++ (us.drop prev.length).take c'.length ++ junk := by rw [d1, List.drop_drop, d3]; simp only [List.append_assoc]
    obtain ⟨us1, hr1, rfl⟩ := hspl
    refine ⟨hm'.see ⟨e, hβ k e he, h2, h3, by rw [hcl]; exact h4, .inr ⟨prev, us1, junk, q2, hr1, p3, ?_, q4, p6⟩⟩, ?_⟩
    · rw [hr1.length, hcl, ← p2.length]; exact p4
    · rintro n' u' ⟨e3, r1, ad3, rfl, r2, r3⟩
      rw [hβ k e he] at r1; cases r1
      refine ⟨e, hβ k e he, ad3, cap, rfl, r2, hle, ?_⟩
      rcases r3 with r3 | r3
      · exact .inl r3
      · exact .inr ⟨by rw [r3, p3, h2], hcap⟩
end
end Go.Sx
