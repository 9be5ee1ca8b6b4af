/-
  SxO: a contract about a few keys, used amid a greater memory.
-/
import Derived.Test.YtbpggglkmdgpoaaGreatSxN
set_option linter.all false
set_option linter.unusedSimpArgs false
set_option linter.unusedVariables false
namespace Go.Sx
open Go

theorem EntOK.ren {ρ : Ren} {M : Mem} {H : Hp} {β : Env} {own own2 : Nat → Option Nat} {w : World} {k k' : Nat} {e e' : Ent} (hl : ∀ k, (mget M k).isSome = true → ∃ e, β k = some e)
    (hk : rget ρ k = some k') (hee : RenEqE ρ M e e') (hent : EntOK H β own w k' e') (hown : ∀ b, own b = some k' → own2 b = some k) : EntOK H (renB ρ β) own2 w k e := by
  cases e with
  | cells t c =>
    obtain ⟨d, rfl, hcd⟩ := hee
    obtain ⟨ke, vs, p1, p2, p3, p4⟩ := hent
    exact ⟨ke, vs, by simp [renB, hk, p1], hown _ p2, RenEqL.relC hl c d vs hcd p3, p4⟩
  | abs φ =>
    have hee : e' = .abs φ := hee
    subst hee
    obtain ⟨ke, S, p1, p2, p3⟩ := hent
    exact ⟨ke, S, by simp [renB, hk, p1], fun b hb => hown _ (p2 b hb), p3⟩
  | buf t z c =>
    obtain ⟨d, rfl, hcd⟩ := hee
    obtain ⟨ke, p1, p2, p3, p4, p5⟩ := hent
    have hle := RenEqL.len c d hcd
    refine ⟨ke, by simp [renB, hk, p1], p2, p3, by rw [← hle]; exact p4, ?_⟩
    rcases p5 with ⟨q1, q2⟩ | ⟨prev, vs, junk, q1, q2, q3, q4, q5, q6⟩
    · exact .inl ⟨q1, List.length_eq_zero_iff.1 (by rw [← hle, q2]; rfl)⟩
    · exact .inr ⟨prev, vs, junk, hown _ q1, RenEqL.relC hl c d vs hcd q2, q3, q4, q5, q6⟩

theorem mget_of_mem : ∀ {M : Mem} {k : Nat} {e : Ent}, (k, e) ∈ M → (mget M k).isSome = true
  | (i, x) :: l, k, e, h => by
    unfold mget
    split
    · rfl
    · rename_i hne
      rcases List.mem_cons.1 h with h | h
      · cases h; exact absurd rfl hne
      · exact mget_of_mem h

def nodupB (ρ : Ren) : Bool := ((ρ.map (·.2)).Nodup : Bool) && ((ρ.map (·.1)).Nodup : Bool)

theorem MemOK.entails {ρ : Ren} {H : Hp} {β : Env} {own : Nat → Option Nat} {M M' : Mem} {w : World} (h : MemOK H β own M w) (h2 : (ρ.map (·.2)).Nodup) (h3 : (ρ.map (·.1)).Nodup) (hM : entM ρ M M') :
    MemOK H (renB ρ β) (fun b => (own b).bind (rinv ρ)) M' w := by
  refine ⟨fun b o hb => ?_, fun b k hb => ?_, fun k e hke => ?_⟩
  · obtain ⟨q1, q2⟩ := h.ro b o hb
    exact ⟨by simp [q1], q2⟩
  · cases ho : own b with
    | none => simp [ho] at hb
    | some j =>
      simp only [ho, Option.bind_some] at hb
      obtain ⟨q1, e, q2⟩ := h.lt b j ho
      exact ⟨q1, e, by simp [renB, rget_of_mem h3 (rinv_mem hb), q2]⟩
  · obtain ⟨k', e', hk, hm, hee⟩ := entM_mem hM hke
    exact (h.ent k' e' hm).ren h.live hk hee fun b hb => by simp only [hb, Option.bind_some]; exact rinv_of_mem h2 (rget_mem hk)

/-- **THE LIFT.** -/
theorem Tri.lift {P : Program} {f : FuncId} {args argsc : List SV} {M Mc Mn : Mem} {kp nk nk' : Nat} {R : Res → Mem → Prop} {H : Hp} {β : Env} {own : Nat → Option Nat} {w : World} {vals : List Value} {s : SV}
    (σ ρ : Ren) (ht : Tri P f args M kp R) (hm : MemOK H β own Mc w) (hk : ∀ k, nk ≤ k → β k = none) (hv : RelL H β argsc vals)
    (hσ : (σ.map (·.2)).Nodup ∧ (σ.map (·.1)).Nodup ∧ ∀ p ∈ σ, p.1 < kp) (hσM : entM σ Mc M) (hargs : RenEqL σ Mc args argsc) (hall : ∀ i, i < kp → ∃ e, (i, e) ∈ M)
    (hnk : nk ≤ nk') (hρ : (ρ.map (·.2)).Nodup ∧ (ρ.map (·.1)).Nodup ∧ ∀ p ∈ ρ, p.1 < nk' ∧ (p.1 < nk → (p.2, p.1) ∈ σ))
    (hR : ∀ r M', R r M' → ∃ x, r = .ret x ∧ RenEq ρ M' s x ∧ ∀ k e, (k, e) ∈ Mn → ((k, e) ∈ Mc ∧ k ∉ σ.map (·.2)) ∨ ∃ k' e', rget ρ k = some k' ∧ (k', e') ∈ M' ∧ RenEqE ρ M' e e') :
    Calls P f vals.toArray w fun e w' => ∃ H' β' own' u, e = .returned u ∧ MemOK H' β' own' Mn w' ∧ Later H own w H' own' w' ∧ (∀ k e, β k = some e → β' k = some e) ∧ (∀ k, nk' ≤ k → β' k = none) ∧ (false = true → Ext w w') ∧ Rel H' β' s u := by
  have hmin := hm.entails hσ.1 hσ.2.1 hσM
  refine (ht H (renB σ β) (fun b => (own b).bind (rinv σ)) w vals hmin (fun k => ?_) (RenEqL.relL hm.live _ _ _ hargs hv)).mono ?_
  · cases hg : rget σ k with
    | none => exact .inr (by simp [renB, hg])
    | some k' => exact .inl (hall k (hσ.2.2 _ (rget_mem hg)))
  rintro e w' ⟨H', β', own', r, M', hm', hl, hkept, hr, he⟩
  obtain ⟨x, rfl, hx, hMn⟩ := hR r M' hr
  obtain ⟨u, rfl, hu⟩ := he
  have hlt : ∀ k e, β k = some e → k < nk := fun k e h => Nat.lt_of_not_le fun hh => by rw [hk k hh] at h; cases h
  have hσv : ∀ i k, (i, k) ∈ σ → ∃ e, β k = some e ∧ β' i = some e := by
    intro i k hik
    have hi := hσ.2.2 _ hik
    obtain ⟨e, he⟩ := hall i hi
    have hg := rget_of_mem hσ.2.1 hik
    obtain ⟨k', e', hg', hme, hee⟩ := entM_mem hσM he
    rw [hg] at hg'; cases hg'
    obtain ⟨ke, hke⟩ := hm.live k (mget_of_mem hme)
    exact ⟨ke, hke, hkept i ke hi (by simp [renB, hg, hke])⟩
  let β2 : Env := fun k => if k < nk then β k else renB ρ β' k
  have hβ2 : ∀ k e, β k = some e → β2 k = some e := fun k e h => by simp [β2, hlt k e h, h]
  have hρβ : ∀ k e, renB ρ β' k = some e → β2 k = some e := by
    intro k e h
    simp only [β2]
    split
    · rename_i hkn
      simp only [renB] at h
      cases hg : rget ρ k with
      | none => rw [hg] at h; cases h
      | some k' =>
        rw [hg] at h
        simp only [Option.bind_some] at h
        obtain ⟨e0, h1, h2⟩ := hσv k' k ((hρ.2.2 _ (rget_mem hg)).2 hkn)
        rw [h] at h2; cases h2; exact h1
    · exact h
  let own2 : Nat → Option Nat := fun b => match own' b with
    | some j => rinv ρ j
    | none => match own b with
      | some k => if k ∈ σ.map (·.2) then none else some k
      | none => none
  have hnr : ∀ k, k ∉ σ.map (·.2) → rinv σ k = none := fun k hh => by
    cases hc : rinv σ k with
    | none => rfl
    | some i => exact absurd (List.mem_map.2 ⟨(i, k), rinv_mem hc, rfl⟩) hh
  have hframe : ∀ b k, own b = some k → k ∉ σ.map (·.2) → own' b = none ∧ b < w.heap.size ∧ w'.heap[b]? = w.heap[b]? := by
    intro b k hb hh
    have hlb := (hm.lt b k hb).1
    have hmn : (own b).bind (rinv σ) = none := by simp [hb, hnr k hh]
    refine ⟨?_, hlb, hl.same b hlb hmn⟩
    cases hc : own' b with
    | none => rfl
    | some j =>
      rcases hl.fresh b (by simp [hc]) with h | h
      · exact absurd hmn h
      · omega
  refine ⟨H', β2, own2, u, rfl, ⟨fun b o hb => ?_, fun b k hb => ?_, fun k e hke => ?_⟩, ⟨hl.os, hl.tape, hl.output, hl.size, hl.mono, fun b o hb => ?_, fun b hb => ?_, fun b hb ho => hl.same b hb (by simp [ho])⟩, hβ2, fun k hkk => ?_, (fun h => by cases h), ?_⟩
  · obtain ⟨q1, q2⟩ := hm'.ro b o hb
    refine ⟨?_, q2⟩
    simp only [own2, q1]
    cases ho : own b with
    | none => rfl
    | some k =>
      by_cases hin : k ∈ σ.map (·.2)
      · simp [hin]
      · exfalso
        rcases hl.new b o hb with h | h | h
        · rw [(hm.ro b o h).1] at ho; cases ho
        · exact h (by simp [ho, hnr k hin])
        · have := (hm.lt b k ho).1; omega
  · simp only [own2] at hb
    cases ho' : own' b with
    | some j =>
      rw [ho'] at hb
      obtain ⟨q1, e, q2⟩ := hm'.lt b j ho'
      refine ⟨q1, e, hρβ k e ?_⟩
      simp [renB, rget_of_mem hρ.2.1 (rinv_mem hb), q2]
    | none =>
      rw [ho'] at hb
      cases ho : own b with
      | none => rw [ho] at hb; cases hb
      | some i =>
        rw [ho] at hb
        dsimp only at hb
        split at hb
        · cases hb
        · cases hb
          obtain ⟨q1, e, q2⟩ := hm.lt b _ ho
          exact ⟨Nat.lt_of_lt_of_le q1 hl.size, e, hβ2 _ _ q2⟩
  · rcases hMn k e hke with ⟨h1, h2⟩ | ⟨k', e', hg, hme, hee⟩
    · refine (hm.ent k e h1).stay hl.mono hβ2 fun b hb => ?_
      obtain ⟨q1, q2, q3⟩ := hframe b k hb h2
      exact ⟨by simp [own2, q1, hb, h2], q3⟩
    · have := (hm'.ent k' e' hme).ren (own2 := own2) hm'.live hg hee fun b hb => by simp only [own2, hb]; exact rinv_of_mem hρ.1 (rget_mem hg)
      exact this.stay (fun _ _ h => h) hρβ fun b hb => ⟨hb, rfl⟩
  · rcases hl.new b o hb with h | h | h
    · exact .inl h
    · exact .inr (.inl fun e => h (by simp [e]))
    · exact .inr (.inr h)
  · simp only [own2] at hb
    cases ho : own b with
    | some k => exact .inl (by simp)
    | none =>
      refine .inr ?_
      cases ho' : own' b with
      | none => rw [ho', ho] at hb; exact absurd rfl hb
      | some j =>
        rcases hl.fresh b (by simp [ho']) with h | h
        · exact absurd (by simp [ho]) h
        · exact h
  · simp only [β2]
    rw [if_neg (by omega)]
    simp only [renB]
    cases hg : rget ρ k with
    | none => rfl
    | some k' => have := (hρ.2.2 _ (rget_mem hg)).1; omega
  · exact Rel.mono (fun _ _ h => h) hρβ _ _ (RenEq.rel hm'.live s x u hx hu)

mutual
theorem flat.closed : ∀ (s : SV), flat s → Sx.closed s
  | .p _ _, h => h.elim
  | .pb _ _, h => h.elim
  | .sc _ _ _ _, h => h.elim
  | .os _ _ _, h => h.elim
  | .g cs, h => flatL.closed cs h
  | .tup cs, h => flatL.closed cs h
  | .fn _ xs ys, h => ⟨flatL.closed xs h.1, flatL.closed ys h.2⟩
  | .ifc _ x, h => flat.closed x h
  | .v _, _ => trivial
  | .int _, _ => trivial
  | .w8 _, _ => trivial
  | .w16 _, _ => trivial
  | .w32 _, _ => trivial
  | .w64 _, _ => trivial
  | .bol _, _ => trivial
  | .rs _ _, h => h.elim
  | .rp _ _, h => h.elim
theorem flatL.closed : ∀ (l : List SV), flatL l → Sx.closedL l
  | [], _ => trivial
  | x :: xs, h => ⟨flat.closed x h.1, flatL.closed xs h.2⟩
end
mutual
theorem Seal.flat {M : Mem} : ∀ (s : SV), Sx.flat s → Seal M s s
  | .p _ _, h => h.elim
  | .pb _ _, h => h.elim
  | .sc _ _ _ _, h => h.elim
  | .os _ _ _, h => h.elim
  | .g cs, h => .inl ⟨flatL.closed cs h, rfl⟩
  | .tup cs, h => ⟨cs, rfl, SealL.flat cs h⟩
  | .fn f xs ys, h => ⟨flat.closed (.fn f xs ys) h, rfl⟩
  | .ifc t x, h => ⟨flat.closed (.ifc t x) h, rfl⟩
  | .v _, _ => .inl rfl
  | .int _, _ => ⟨trivial, rfl⟩
  | .w8 _, _ => ⟨trivial, rfl⟩
  | .w16 _, _ => ⟨trivial, rfl⟩
  | .w32 _, _ => ⟨trivial, rfl⟩
  | .w64 _, _ => ⟨trivial, rfl⟩
  | .bol _, _ => ⟨trivial, rfl⟩
  | .rs _ _, h => h.elim
  | .rp _ _, h => h.elim
theorem SealL.flat {M : Mem} : ∀ (l : List SV), Sx.flatL l → SealL M l l
  | [], _ => rfl
  | x :: xs, h => ⟨x, xs, rfl, Seal.flat x h.1, SealL.flat xs h.2⟩
end
/-- What is handed back has no address in it. -/
theorem Pure.flat {P : Program} {f : FuncId} {args : List SV} {r : SV} (hr : Sx.flat r) (h : Tri P f args [] 0 fun x _ => x = .ret r) : Pure P f args r :=
  Pure.of_tri fun H β own w vals hm hk hv => (h H β own w vals hm hk hv).mono fun e w' ⟨H', β', own', r', M', h1, h2, h3, h4, h5⟩ => ⟨H', β', own', r', M', h1, h2, h3, ⟨r, h4, Seal.flat r hr⟩, h5⟩

theorem wi_eq {x : Int} (h1 : -9223372036854775808 ≤ x) (h2 : x < 9223372036854775808) : wi x = x := by
  unfold wi; simp [IntKind.wrap, IntKind.bits, IntKind.signed]; omega
theorem and_of {a b : Prop} (h : a) : (a ∧ b) = b := by simp [h]
theorem ite_of {α : Type} {c : Prop} [Decidable c] (h : c) (x y : α) : (if c then x else y) = x := if_pos h
theorem ite_no {α : Type} {c : Prop} [Decidable c] (h : ¬ c) (x y : α) : (if c then x else y) = y := if_neg h
theorem slc_app0 {a r : List SV} {n : Nat} (h : a.length = n) : slc (a ++ r) 0 n = a := by
  unfold slc; simp [← h]
theorem slc_all {a : List SV} {n : Nat} (h : a.length = n) : slc a 0 n = a := by simp [slc, ← h]
theorem spl_app0 {a d r : List SV} (h : a.length = d.length) : spl (a ++ r) 0 d = d ++ r := by
  unfold spl
  split
  · rename_i h2
    simp only [List.length_append] at h2
    have : r = [] := List.length_eq_zero_iff.1 (by omega)
    simp [this]
  · simp [← h]
theorem gok {P : Program} {f : FuncId} {g : List SV → Option (Prop × SV)} (hc : ∀ a w, (callFunc f a).run P w = .ok (.enter f a) w) (h : ∀ args p r, g args = some (p, r) → p → Pure P f args r) : GOK P f g :=
  fun args p r hr hp => .inl ⟨hc, h args p r hr hp⟩

theorem renL_8 {ρ : Ren} {M : Mem} : ∀ (l l' : List UInt8), RenEqL ρ M (l.map SV.w8) (l'.map SV.w8) ↔ l' = l
  | [], l' => by simp [RenEqL]
  | x :: l, [] => by simp [RenEqL]
  | x :: l, y :: l' => by
    have := renL_8 (ρ := ρ) (M := M) l l'
    simp only [List.map_cons, RenEqL, List.cons.injEq]
    constructor
    · rintro ⟨z, zs, ⟨h1, h2⟩, h3, h4⟩
      subst h1; subst h2
      simp only [RenEq, SV.w8.injEq] at h3
      exact ⟨h3, this.1 h4⟩
    · rintro ⟨rfl, h⟩
      exact ⟨_, _, ⟨rfl, rfl⟩, by simp [RenEq], this.2 h⟩
theorem renL_8_app {ρ : Ren} {M : Mem} (r r' : List SV) : ∀ (l l' : List UInt8), l.length = l'.length → (RenEqL ρ M (l.map SV.w8 ++ r) (l'.map SV.w8 ++ r') ↔ l' = l ∧ RenEqL ρ M r r')
  | [], l', h => by
    have : l' = [] := List.length_eq_zero_iff.1 (by simpa using h.symm)
    subst this; simp
  | x :: l, [], h => by simp at h
  | x :: l, y :: l', h => by
    have := renL_8_app (ρ := ρ) (M := M) r r' l l' (by simpa using h)
    simp only [List.map_cons, List.cons_append, RenEqL, List.cons.injEq]
    constructor
    · rintro ⟨z, zs, ⟨h1, h2⟩, h3, h4⟩
      subst h1; subst h2
      simp only [RenEq, SV.w8.injEq] at h3
      have := this.1 h4
      exact ⟨⟨h3, this.1⟩, this.2⟩
    · rintro ⟨⟨e1, e2⟩, e3⟩
      subst e1
      exact ⟨_, _, ⟨rfl, rfl⟩, by simp [RenEq], this.2 ⟨e2, e3⟩⟩

theorem renL_32 {ρ : Ren} {M : Mem} : ∀ (l l' : List UInt32), RenEqL ρ M (l.map SV.w32) (l'.map SV.w32) ↔ l' = l
  | [], l' => by simp [RenEqL]
  | x :: l, [] => by simp [RenEqL]
  | x :: l, y :: l' => by
    have := renL_32 (ρ := ρ) (M := M) l l'
    simp only [List.map_cons, RenEqL, List.cons.injEq]
    constructor
    · rintro ⟨z, zs, ⟨h1, h2⟩, h3, h4⟩
      subst h1; subst h2
      simp only [RenEq, SV.w32.injEq] at h3
      exact ⟨h3, this.1 h4⟩
    · rintro ⟨rfl, h⟩
      exact ⟨_, _, ⟨rfl, rfl⟩, by simp [RenEq], this.2 h⟩
theorem renL_32_app {ρ : Ren} {M : Mem} (r r' : List SV) : ∀ (l l' : List UInt32), l.length = l'.length → (RenEqL ρ M (l.map SV.w32 ++ r) (l'.map SV.w32 ++ r') ↔ l' = l ∧ RenEqL ρ M r r')
  | [], l', h => by
    have : l' = [] := List.length_eq_zero_iff.1 (by simpa using h.symm)
    subst this; simp
  | x :: l, [], h => by simp at h
  | x :: l, y :: l', h => by
    have := renL_32_app (ρ := ρ) (M := M) r r' l l' (by simpa using h)
    simp only [List.map_cons, List.cons_append, RenEqL, List.cons.injEq]
    constructor
    · rintro ⟨z, zs, ⟨h1, h2⟩, h3, h4⟩
      subst h1; subst h2
      simp only [RenEq, SV.w32.injEq] at h3
      have := this.1 h4
      exact ⟨⟨h3, this.1⟩, this.2⟩
    · rintro ⟨⟨e1, e2⟩, e3⟩
      subst e1
      exact ⟨_, _, ⟨rfl, rfl⟩, by simp [RenEq], this.2 ⟨e2, e3⟩⟩

theorem renL_64 {ρ : Ren} {M : Mem} : ∀ (l l' : List UInt64), RenEqL ρ M (l.map SV.w64) (l'.map SV.w64) ↔ l' = l
  | [], l' => by simp [RenEqL]
  | x :: l, [] => by simp [RenEqL]
  | x :: l, y :: l' => by
    have := renL_64 (ρ := ρ) (M := M) l l'
    simp only [List.map_cons, RenEqL, List.cons.injEq]
    constructor
    · rintro ⟨z, zs, ⟨h1, h2⟩, h3, h4⟩
      subst h1; subst h2
      simp only [RenEq, SV.w64.injEq] at h3
      exact ⟨h3, this.1 h4⟩
    · rintro ⟨rfl, h⟩
      exact ⟨_, _, ⟨rfl, rfl⟩, by simp [RenEq], this.2 h⟩
theorem renL_64_app {ρ : Ren} {M : Mem} (r r' : List SV) : ∀ (l l' : List UInt64), l.length = l'.length → (RenEqL ρ M (l.map SV.w64 ++ r) (l'.map SV.w64 ++ r') ↔ l' = l ∧ RenEqL ρ M r r')
  | [], l', h => by
    have : l' = [] := List.length_eq_zero_iff.1 (by simpa using h.symm)
    subst this; simp
  | x :: l, [], h => by simp at h
  | x :: l, y :: l', h => by
    have := renL_64_app (ρ := ρ) (M := M) r r' l l' (by simpa using h)
    simp only [List.map_cons, List.cons_append, RenEqL, List.cons.injEq]
    constructor
    · rintro ⟨z, zs, ⟨h1, h2⟩, h3, h4⟩
      subst h1; subst h2
      simp only [RenEq, SV.w64.injEq] at h3
      have := this.1 h4
      exact ⟨⟨h3, this.1⟩, this.2⟩
    · rintro ⟨⟨e1, e2⟩, e3⟩
      subst e1
      exact ⟨_, _, ⟨rfl, rfl⟩, by simp [RenEq], this.2 ⟨e2, e3⟩⟩

theorem renL_I {ρ : Ren} {M : Mem} : ∀ (l l' : List Int), RenEqL ρ M (l.map SV.int) (l'.map SV.int) ↔ l' = l
  | [], l' => by simp [RenEqL]
  | x :: l, [] => by simp [RenEqL]
  | x :: l, y :: l' => by
    have := renL_I (ρ := ρ) (M := M) l l'
    simp only [List.map_cons, RenEqL, List.cons.injEq]
    constructor
    · rintro ⟨z, zs, ⟨h1, h2⟩, h3, h4⟩
      subst h1; subst h2
      simp only [RenEq, SV.int.injEq] at h3
      exact ⟨h3, this.1 h4⟩
    · rintro ⟨rfl, h⟩
      exact ⟨_, _, ⟨rfl, rfl⟩, by simp [RenEq], this.2 h⟩
theorem renL_I_app {ρ : Ren} {M : Mem} (r r' : List SV) : ∀ (l l' : List Int), l.length = l'.length → (RenEqL ρ M (l.map SV.int ++ r) (l'.map SV.int ++ r') ↔ l' = l ∧ RenEqL ρ M r r')
  | [], l', h => by
    have : l' = [] := List.length_eq_zero_iff.1 (by simpa using h.symm)
    subst this; simp
  | x :: l, [], h => by simp at h
  | x :: l, y :: l', h => by
    have := renL_I_app (ρ := ρ) (M := M) r r' l l' (by simpa using h)
    simp only [List.map_cons, List.cons_append, RenEqL, List.cons.injEq]
    constructor
    · rintro ⟨z, zs, ⟨h1, h2⟩, h3, h4⟩
      subst h1; subst h2
      simp only [RenEq, SV.int.injEq] at h3
      have := this.1 h4
      exact ⟨⟨h3, this.1⟩, this.2⟩
    · rintro ⟨⟨e1, e2⟩, e3⟩
      subst e1
      exact ⟨_, _, ⟨rfl, rfl⟩, by simp [RenEq], this.2 ⟨e2, e3⟩⟩

theorem renL_self {ρ : Ren} {M : Mem} {c : List SV} (h : closedL c) : RenEqL ρ M c c ↔ True := ⟨fun _ => trivial, fun _ => RenEqL.closed _ h⟩
theorem renL_app {ρ : Ren} {M : Mem} : ∀ {c a b : List SV}, closedL c → (RenEqL ρ M (c ++ a) (c ++ b) ↔ RenEqL ρ M a b)
  | [], a, b, _ => by simp
  | x :: c, a, b, h => by
    have ih := renL_app (ρ := ρ) (M := M) (c := c) (a := a) (b := b) h.2
    simp only [List.cons_append, RenEqL, List.cons.injEq]
    constructor
    · rintro ⟨y, ys, ⟨rfl, rfl⟩, _, h2⟩; exact ih.1 h2
    · intro h2; exact ⟨_, _, ⟨rfl, rfl⟩, RenEq.closed _ h.1, ih.2 h2⟩
theorem mx0 (n : Nat) : (if (0 : Int) > (n : Int) then 0 else (n : Int)) = n := by rw [if_neg (by omega)]
theorem closedL_tk {c : List SV} (n : Nat) (h : closedL c) : closedL (c.take n) = True := eq_true (closedL_take n h)
theorem closedL_dp {c : List SV} (n : Nat) (h : closedL c) : closedL (c.drop n) = True := eq_true (closedL_drop n h)
@[simp] theorem take_map_len {α β : Type} (l : List α) (f : α → β) : List.take l.length (l.map f) = l.map f := List.take_of_length_le (by simp)
@[simp] theorem take_drop_map_len {α β : Type} (l : List α) (f : α → β) (n : Nat) : List.take (l.length - n) (List.drop n (l.map f)) = List.drop n (l.map f) := List.take_of_length_le (by simp)
theorem take_eq {α : Type} {l : List α} {n : Nat} (h : l.length = n) : l.take n = l := by rw [← h, List.take_length]
theorem renL_nil {ρ : Ren} {M : Mem} (l : List SV) : RenEqL ρ M [] l ↔ l = [] := by simp [RenEqL]
theorem renL_cons {ρ : Ren} {M : Mem} (x y : SV) (xs ys : List SV) : RenEqL ρ M (x :: xs) (y :: ys) ↔ RenEq ρ M x y ∧ RenEqL ρ M xs ys := by
  simp only [RenEqL, List.cons.injEq]
  constructor
  · rintro ⟨z, zs, ⟨h1, h2⟩, h3, h4⟩; subst h1; subst h2; exact ⟨h3, h4⟩
  · rintro ⟨h3, h4⟩; exact ⟨_, _, ⟨rfl, rfl⟩, h3, h4⟩
theorem ren_cells {ρ : Ren} {M : Mem} (t t' : TypeId) (c d : List SV) : RenEqE ρ M (.cells t c) (.cells t' d) ↔ t' = t ∧ RenEqL ρ M c d := by
  simp only [RenEqE, Ent.cells.injEq]
  constructor
  · rintro ⟨x, ⟨h1, h2⟩, h3⟩; subst h2; exact ⟨h1, h3⟩
  · rintro ⟨h1, h3⟩; exact ⟨_, ⟨h1, rfl⟩, h3⟩
theorem ren_buf {ρ : Ren} {M : Mem} (t t' : TypeId) (z z' : Nat) (c d : List SV) : RenEqE ρ M (.buf t z c) (.buf t' z' d) ↔ t' = t ∧ z' = z ∧ RenEqL ρ M c d := by
  simp only [RenEqE, Ent.buf.injEq]
  constructor
  · rintro ⟨x, ⟨h1, h0, h2⟩, h3⟩; subst h2; exact ⟨h1, h0, h3⟩
  · rintro ⟨h1, h0, h3⟩; exact ⟨_, ⟨h1, h0, rfl⟩, h3⟩
end Go.Sx
