/-
  SxB: lemmas on symbolic values and memory.
-/
import Derived.Test.YtbpggglkmdgpoaaGreatSxA
set_option linter.all false
set_option linter.unusedSimpArgs false
set_option linter.unusedVariables false
namespace Go.Sx
open Go

theorem Hp.cell_mono {H H' : Hp} (h : ∀ b o, H b = some o → H' b = some o) {b off : Nat} {x : Value} (hc : H.cell b off = some x) : H'.cell b off = some x := by
  unfold Hp.cell at *
  split at hc
  · rename_i c e f hb
    rw [h _ _ hb]; exact hc
  · cases hc

mutual
theorem Rel.mono {H H' : Hp} {β β' : Env} (hH : ∀ b o, H b = some o → H' b = some o) (hβ : ∀ k e, β k = some e → β' k = some e) :
    ∀ (s : SV) (u : Value), Rel H β s u → Rel H' β' s u
  | .v _, _, h => by simpa [Rel] using h
  | .int _, _, h => by simpa [Rel] using h
  | .w8 _, _, h => by simpa [Rel] using h
  | .w16 _, _, h => by simpa [Rel] using h
  | .w32 _, _, h => by simpa [Rel] using h
  | .w64 _, _, h => by simpa [Rel] using h
  | .bol _, _, h => by simpa [Rel] using h
  | .p _ _, _, h => by obtain ⟨e, h1, h2⟩ := h; exact ⟨e, hβ _ _ h1, h2⟩
  | .pb _ _, _, h => by obtain ⟨e, h1, h2⟩ := h; exact ⟨e, hβ _ _ h1, h2⟩
  | .sc _ _ _ _, _, h => by obtain ⟨e, h1, h2⟩ := h; exact ⟨e, hβ _ _ h1, h2⟩
  | .os _ _ _, _, h => by obtain ⟨e, h1, h2⟩ := h; exact ⟨e, hβ _ _ h1, h2⟩
  | .rs _ cs, _, h => by
    obtain ⟨a, cap, h1, h2, h3⟩ := h
    refine ⟨a, cap, h1, h2, ?_⟩
    rcases h3 with h3 | ⟨b, off, vs, ha, hr, hc⟩
    · exact .inl h3
    · exact .inr ⟨b, off, vs, ha, RelC.mono hH (fun _ _ h => by cases h) cs vs hr, fun i x hx => Hp.cell_mono hH (hc i x hx)⟩
  | .rp cs _, _, h => by
    obtain ⟨b, off, vs, ha, hr, hc⟩ := h
    exact ⟨b, off, vs, ha, RelC.mono hH (fun _ _ h => by cases h) cs vs hr, fun i x hx => Hp.cell_mono hH (hc i x hx)⟩
  | .g cs, _, h => by obtain ⟨vs, h1, h2⟩ := h; exact ⟨vs, h1, RelC.mono hH hβ cs vs h2⟩
  | .tup cs, _, h => by obtain ⟨vs, h1, h2⟩ := h; exact ⟨vs, h1, RelL.mono hH hβ cs vs h2⟩
  | .fn _ xs ys, _, h => by obtain ⟨vs, us, h1, h2, h3⟩ := h; exact ⟨vs, us, h1, RelL.mono hH hβ xs vs h2, RelL.mono hH hβ ys us h3⟩
  | .ifc _ x, _, h => by obtain ⟨y, h1, h2⟩ := h; exact ⟨y, h1, Rel.mono hH hβ x y h2⟩
theorem RelL.mono {H H' : Hp} {β β' : Env} (hH : ∀ b o, H b = some o → H' b = some o) (hβ : ∀ k e, β k = some e → β' k = some e) :
    ∀ (cs : List SV) (us : List Value), RelL H β cs us → RelL H' β' cs us
  | [], _, h => by simpa [RelL] using h
  | x :: xs, _, h => by
    simp only [RelL] at h ⊢
    obtain ⟨u, us', h1, h2, h3⟩ := h
    exact ⟨u, us', h1, Rel.mono hH hβ x u h2, RelL.mono hH hβ xs us' h3⟩
theorem RelC.mono {H H' : Hp} {β β' : Env} (hH : ∀ b o, H b = some o → H' b = some o) (hβ : ∀ k e, β k = some e → β' k = some e) :
    ∀ (cs : List SV) (us : List Value), RelC H β cs us → RelC H' β' cs us
  | [], _, h => by simpa [RelC] using h
  | x :: xs, _, h => by
    simp only [RelC] at h ⊢
    obtain ⟨u, us', h1, h2, ha, h3⟩ := h
    exact ⟨u, us', h1, Rel.mono hH hβ x u h2, ha, RelC.mono hH hβ xs us' h3⟩
end

theorem RelC.up {H : Hp} {β : Env} {cs : List SV} {us : List Value} (h : RelC H (fun _ => none) cs us) : RelC H β cs us :=
  RelC.mono (fun _ _ h => h) (fun _ _ h => by cases h) _ _ h

/-! ### Rows of cells -/
section
variable {H : Hp} {β : Env}

theorem relC_nil {us : List Value} : RelC H β [] us ↔ us = [] := by simp [RelC]
theorem relC_cons {x : SV} {xs : List SV} {us : List Value} : RelC H β (x :: xs) us ↔ ∃ u us', us = u :: us' ∧ Rel H β x u ∧ atomV u = true ∧ RelC H β xs us' := by
  rw [RelC]
theorem relL_nil {us : List Value} : RelL H β [] us ↔ us = [] := by simp [RelL]
theorem relL_cons {x : SV} {xs : List SV} {us : List Value} : RelL H β (x :: xs) us ↔ ∃ u us', us = u :: us' ∧ Rel H β x u ∧ RelL H β xs us' := by
  rw [RelL]

theorem RelC.length : ∀ {cs : List SV} {us : List Value}, RelC H β cs us → us.length = cs.length
  | [], _, h => by rw [relC_nil] at h; simp [h]
  | _ :: _, _, h => by
    rw [relC_cons] at h
    obtain ⟨u, us', rfl, _, _, h3⟩ := h
    simp [RelC.length h3]

theorem RelC.get : ∀ {cs : List SV} {us : List Value}, RelC H β cs us → ∀ (i : Nat) (s : SV), cs[i]? = some s → ∃ u, us[i]? = some u ∧ Rel H β s u ∧ atomV u = true
  | [], _, _, i, s, hs => by simp at hs
  | x :: xs, _, h, i, s, hs => by
    rw [relC_cons] at h
    obtain ⟨u, us', rfl, h1, h2, h3⟩ := h
    cases i with
    | zero => simp at hs; subst hs; exact ⟨u, rfl, h1, h2⟩
    | succ i => simp at hs; simpa using RelC.get h3 i s hs

theorem RelC.getV : ∀ {cs : List SV} {us : List Value}, RelC H β cs us → ∀ (i : Nat) (u : Value), us[i]? = some u → ∃ s, cs[i]? = some s ∧ Rel H β s u ∧ atomV u = true
  | [], _, h, i, u, hs => by rw [relC_nil] at h; subst h; simp at hs
  | x :: xs, _, h, i, u, hs => by
    rw [relC_cons] at h
    obtain ⟨u', us', rfl, h1, h2, h3⟩ := h
    cases i with
    | zero => simp at hs; subst hs; exact ⟨x, rfl, h1, h2⟩
    | succ i => simp at hs; simpa using RelC.getV h3 i u hs

theorem RelC.append : ∀ {cs ds : List SV} {us vs : List Value}, RelC H β cs us → RelC H β ds vs → RelC H β (cs ++ ds) (us ++ vs)
  | [], ds, us, vs, h, h' => by rw [relC_nil] at h; subst h; simpa using h'
  | x :: xs, ds, _, vs, h, h' => by
    rw [relC_cons] at h
    obtain ⟨u, us', rfl, h1, h2, h3⟩ := h
    rw [List.cons_append, relC_cons]
    exact ⟨u, us' ++ vs, rfl, h1, h2, RelC.append h3 h'⟩

theorem RelC.take : ∀ {cs : List SV} {us : List Value}, RelC H β cs us → ∀ n, RelC H β (cs.take n) (us.take n)
  | [], _, h, n => by rw [relC_nil] at h; subst h; simp [RelC]
  | x :: xs, _, h, n => by
    rw [relC_cons] at h
    obtain ⟨u, us', rfl, h1, h2, h3⟩ := h
    cases n with
    | zero => simp [RelC]
    | succ n => rw [List.take_succ_cons, List.take_succ_cons, relC_cons]; exact ⟨u, _, rfl, h1, h2, RelC.take h3 n⟩

theorem RelC.drop : ∀ {cs : List SV} {us : List Value}, RelC H β cs us → ∀ n, RelC H β (cs.drop n) (us.drop n)
  | [], _, h, n => by rw [relC_nil] at h; subst h; simp [RelC]
  | x :: xs, _, h, n => by
    cases n with
    | zero => simpa using h
    | succ n =>
      rw [relC_cons] at h
      obtain ⟨u, us', rfl, h1, h2, h3⟩ := h
      simpa using RelC.drop h3 n

theorem RelC.set : ∀ {cs : List SV} {us : List Value}, RelC H β cs us → ∀ (i : Nat) {s : SV} {u : Value}, Rel H β s u → atomV u = true → RelC H β (cs.set i s) (us.set i u)
  | [], _, h, i, s, u, _, _ => by rw [relC_nil] at h; subst h; simp [RelC]
  | x :: xs, _, h, i, s, u, hr, ha => by
    rw [relC_cons] at h
    obtain ⟨u', us', rfl, h1, h2, h3⟩ := h
    cases i with
    | zero => rw [List.set_cons_zero, List.set_cons_zero, relC_cons]; exact ⟨u, us', rfl, hr, ha, h3⟩
    | succ i => rw [List.set_cons_succ, List.set_cons_succ, relC_cons]; exact ⟨u', _, rfl, h1, h2, RelC.set h3 i hr ha⟩

theorem RelC.one {s : SV} {u : Value} (h : Rel H β s u) (ha : atomV u = true) : RelC H β [s] [u] := by
  rw [relC_cons]; exact ⟨u, [], rfl, h, ha, by rw [relC_nil]⟩

theorem RelC.replicate {s : SV} {u : Value} (h : Rel H β s u) (ha : atomV u = true) : ∀ n, RelC H β (List.replicate n s) (List.replicate n u)
  | 0 => by simp [RelC]
  | n + 1 => by rw [List.replicate_succ, List.replicate_succ, relC_cons]; exact ⟨u, _, rfl, h, ha, RelC.replicate h ha n⟩

theorem RelC.flatRep {cs : List SV} {us : List Value} (h : RelC H β cs us) : ∀ n, RelC H β (List.replicate n cs).flatten (List.replicate n us).flatten
  | 0 => by simp [RelC]
  | n + 1 => by rw [List.replicate_succ, List.replicate_succ, List.flatten_cons, List.flatten_cons]; exact h.append (RelC.flatRep h n)

theorem RelC.slc {cs : List SV} {us : List Value} (h : RelC H β cs us) (off n : Nat) (hb : off + n ≤ cs.length) : RelC H β (slc cs off n) ((us.drop off).take n) := by
  unfold Sx.slc
  exact (h.drop off).take n

theorem RelC.spl {cs ds : List SV} {us vs : List Value} (h : RelC H β cs us) (h' : RelC H β ds vs) (off : Nat) (hb : off + ds.length ≤ cs.length) :
    RelC H β (spl cs off ds) (us.take off ++ vs ++ us.drop (off + vs.length)) := by
  unfold Sx.spl
  split
  · rename_i e
    have h0 : off = 0 := by omega
    subst h0
    have : us.length = vs.length := by rw [h.length, h'.length, e]
    simpa [List.drop_eq_nil_of_le (Nat.le_of_eq this)] using h'
  · rw [h'.length]
    exact ((h.take off).append h').append (h.drop _)

theorem slc_length (cs : List SV) (off n : Nat) (hb : off + n ≤ cs.length) : (slc cs off n).length = n := by
  unfold slc; simp; omega
theorem spl_length (cs ds : List SV) (off : Nat) (hb : off + ds.length ≤ cs.length) : (spl cs off ds).length = cs.length := by
  unfold spl; split
  · rename_i h; exact h.symm
  · simp; omega

theorem RelL.length : ∀ {cs : List SV} {us : List Value}, RelL H β cs us → us.length = cs.length
  | [], _, h => by rw [relL_nil] at h; simp [h]
  | _ :: _, _, h => by
    rw [relL_cons] at h
    obtain ⟨u, us', rfl, _, h3⟩ := h
    simp [RelL.length h3]

theorem RelL.get : ∀ {cs : List SV} {us : List Value}, RelL H β cs us → ∀ (i : Nat) (s : SV), cs[i]? = some s → ∃ u, us[i]? = some u ∧ Rel H β s u
  | [], _, _, i, s, hs => by simp at hs
  | x :: xs, _, h, i, s, hs => by
    rw [relL_cons] at h
    obtain ⟨u, us', rfl, h1, h3⟩ := h
    cases i with
    | zero => simp at hs; subst hs; exact ⟨u, rfl, h1⟩
    | succ i => simp at hs; simpa using RelL.get h3 i s hs

theorem RelL.append : ∀ {cs ds : List SV} {us vs : List Value}, RelL H β cs us → RelL H β ds vs → RelL H β (cs ++ ds) (us ++ vs)
  | [], ds, us, vs, h, h' => by rw [relL_nil] at h; subst h; simpa using h'
  | x :: xs, ds, _, vs, h, h' => by
    rw [relL_cons] at h
    obtain ⟨u, us', rfl, h1, h3⟩ := h
    rw [List.cons_append, relL_cons]
    exact ⟨u, us' ++ vs, rfl, h1, RelL.append h3 h'⟩

/-- A value's cells. -/
theorem cellsOf_rel {s : SV} {u : Value} {cs : List SV} (hs : cellsOf s = some cs) (h : Rel H β s u) : RelC H β cs u.cells.toList := by
  cases s with
  | g ds =>
    simp only [cellsOf, Option.some.injEq] at hs; subst hs
    obtain ⟨vs, rfl, hr⟩ := h
    simpa [Value.cells] using hr
  | tup ds => simp [cellsOf, atomS] at hs
  | v x =>
    by_cases ha : atomV x = true
    case neg => simp [cellsOf, atomS, ha] at hs
    simp only [cellsOf, atomS, ha, if_true, Option.some.injEq] at hs
    subst hs
    have hu : u = x := h
    subst hu
    cases u <;> simp [atomV] at ha <;> simpa [Value.cells] using RelC.one (H := H) (β := β) (s := .v _) rfl rfl
  | rs n c => simp only [cellsOf, atomS, if_true, Option.some.injEq] at hs; subst hs; have h' := h; obtain ⟨a, cap, rfl, _⟩ := h; simpa [Value.cells] using RelC.one h' rfl
  | os k lo n => simp only [cellsOf, atomS, if_true, Option.some.injEq] at hs; subst hs; have h' := h; obtain ⟨e, _, a, cap, rfl, _⟩ := h; simpa [Value.cells] using RelC.one h' rfl
  | sc k o n m => simp only [cellsOf, atomS, if_true, Option.some.injEq] at hs; subst hs; have h' := h; obtain ⟨e, _, a, rfl, _⟩ := h; simpa [Value.cells] using RelC.one h' rfl
  | p k o => simp only [cellsOf, atomS, if_true, Option.some.injEq] at hs; subst hs; have h' := h; obtain ⟨e, _, rfl⟩ := h; simpa [Value.cells] using RelC.one h' rfl
  | pb k o => simp only [cellsOf, atomS, if_true, Option.some.injEq] at hs; subst hs; have h' := h; obtain ⟨e, _, rfl⟩ := h; simpa [Value.cells] using RelC.one h' rfl
  | rp c o => simp only [cellsOf, atomS, if_true, Option.some.injEq] at hs; subst hs; have h' := h; obtain ⟨b, off, vs, rfl, _⟩ := h; simpa [Value.cells] using RelC.one h' rfl
  | fn f xs ys => simp only [cellsOf, atomS, if_true, Option.some.injEq] at hs; subst hs; have h' := h; obtain ⟨vs, us, rfl, _⟩ := h; simpa [Value.cells] using RelC.one h' rfl
  | ifc t x => simp only [cellsOf, atomS, if_true, Option.some.injEq] at hs; subst hs; have h' := h; obtain ⟨y, rfl, _⟩ := h; simpa [Value.cells] using RelC.one h' rfl
  | int n => simp only [cellsOf, atomS, if_true, Option.some.injEq] at hs; subst hs; have h' : u = _ := h; subst h'; simpa [Value.cells] using RelC.one h rfl
  | w8 n => simp only [cellsOf, atomS, if_true, Option.some.injEq] at hs; subst hs; have h' : u = _ := h; subst h'; simpa [Value.cells] using RelC.one h rfl
  | w16 n => simp only [cellsOf, atomS, if_true, Option.some.injEq] at hs; subst hs; have h' : u = _ := h; subst h'; simpa [Value.cells] using RelC.one h rfl
  | w32 n => simp only [cellsOf, atomS, if_true, Option.some.injEq] at hs; subst hs; have h' : u = _ := h; subst h'; simpa [Value.cells] using RelC.one h rfl
  | w64 n => simp only [cellsOf, atomS, if_true, Option.some.injEq] at hs; subst hs; have h' : u = _ := h; subst h'; simpa [Value.cells] using RelC.one h rfl
  | bol n => simp only [cellsOf, atomS, if_true, Option.some.injEq] at hs; subst hs; have h' : u = _ := h; subst h'; simpa [Value.cells] using RelC.one h rfl

theorem plain_rel : ∀ {s : SV} {u : Value}, plainB s u = true → Rel H β s u ∧ atomV u = true := by
  intro s u h
  unfold plainB at h
  split at h <;> first
    | (simp only [beq_iff_eq] at h; exact ⟨by rw [Rel]; exact congrArg Value.string (ByteArray.ext (Array.ext' h.symm)), rfl⟩)
    | (simp at h; subst h; exact ⟨by simp [Rel], rfl⟩)
    | (simp at h; exact ⟨by simp [Rel, h], rfl⟩)
    | exact ⟨by simp [Rel], rfl⟩
    | (exact absurd h (by simp))

theorem plainL_rel : ∀ {cs : List SV} {us : List Value}, plainLB cs us = true → RelC H β cs us
  | [], us, h => by cases us <;> simp_all [plainLB, RelC]
  | x :: xs, us, h => by
    cases us with
    | nil => simp [plainLB] at h
    | cons u us =>
      simp only [plainLB, Bool.and_eq_true] at h
      rw [relC_cons]
      exact ⟨u, us, rfl, (plain_rel h.1).1, (plain_rel (H := H) (β := β) h.1).2, plainL_rel h.2⟩
end

/-! ### Keys -/
theorem plainZ_pl {y : Ty} {z : Value} (h : plainZ y z = true) : plainLB y.zero z.cells.toList = true := by
  unfold plainZ at h; rw [Bool.and_eq_true] at h; exact h.1
theorem plainZ_rel {H : Hp} {β : Env} {y : Ty} {z : Value} (h : plainZ y z = true) : Rel H β (if y.agg then .g y.zero else y.z0) z := by
  have hr := plainL_rel (H := H) (β := β) (plainZ_pl h)
  unfold plainZ at h
  rw [Bool.and_eq_true, beq_iff_eq] at h
  cases z with
  | agg cs =>
    have : y.agg = true := h.2.symm
    rw [this]
    exact ⟨cs.toList, by simp, by simpa [Value.cells] using hr⟩
  | _ =>
    have : y.agg = false := h.2.symm
    rw [this]
    simp only [Value.cells, Bool.false_eq_true, if_false] at hr ⊢
    cases hc : y.zero with
    | nil => rw [hc] at hr; simp [RelC] at hr
    | cons s l =>
      rw [hc] at hr
      obtain ⟨u, us, he, h1, _⟩ := relC_cons.1 hr
      simp only [List.cons.injEq] at he
      simp only [Ty.z0, hc, List.headD_cons]
      rw [he.1]; exact h1

theorem mget_mem : ∀ {M : Mem} {k : Nat} {e : Ent}, mget M k = some e → (k, e) ∈ M
  | (i, x) :: l, k, e, h => by
    unfold mget at h
    split at h
    · rename_i hk; subst hk; cases h; exact List.mem_cons_self ..
    · exact List.mem_cons_of_mem _ (mget_mem h)
theorem mem_mset : ∀ {M : Mem} {k j : Nat} {e x : Ent}, (j, x) ∈ mset M k e → (j = k ∧ x = e) ∨ (j ≠ k ∧ (j, x) ∈ M)
  | (i, y) :: l, k, j, e, x, h => by
    unfold mset at h
    split at h
    · rename_i hk; subst hk
      rcases List.mem_cons.1 h with h | h
      · cases h; exact .inl ⟨rfl, rfl⟩
      · rcases mem_mset h with h | h
        · exact .inl h
        · exact .inr ⟨h.1, List.mem_cons_of_mem _ h.2⟩
    · rename_i hk
      rcases List.mem_cons.1 h with h | h
      · cases h; exact .inr ⟨fun e => hk e.symm, List.mem_cons_self ..⟩
      · rcases mem_mset h with h | h
        · exact .inl h
        · exact .inr ⟨h.1, List.mem_cons_of_mem _ h.2⟩
theorem mem_mdel : ∀ {M : Mem} {k j : Nat} {x : Ent}, (j, x) ∈ mdel M k → j ≠ k ∧ (j, x) ∈ M
  | (i, y) :: l, k, j, x, h => by
    unfold mdel at h
    split at h
    · have := mem_mdel h; exact ⟨this.1, List.mem_cons_of_mem _ this.2⟩
    · rename_i hk
      rcases List.mem_cons.1 h with h | h
      · cases h; exact ⟨fun e => hk e.symm, List.mem_cons_self ..⟩
      · have := mem_mdel h; exact ⟨this.1, List.mem_cons_of_mem _ this.2⟩

/-- An entry stays good if its own blocks and its key stay. -/
theorem EntOK.stay {H H' : Hp} {β β' : Env} {own own' : Nat → Option Nat} {w w' : World} {k : Nat} {e : Ent} (h : EntOK H β own w k e)
    (hH : ∀ b o, H b = some o → H' b = some o) (hβ : ∀ k e, β k = some e → β' k = some e)
    (hb : ∀ b, own b = some k → own' b = some k ∧ w'.heap[b]? = w.heap[b]?) : EntOK H' β' own' w' k e := by
  cases e with
  | cells ty c =>
    obtain ⟨e, vs, h1, h2, h3, h4⟩ := h
    have := hb _ h2
    exact ⟨e, vs, hβ _ _ h1, this.1, RelC.mono hH hβ _ _ h3, this.2.trans h4⟩
  | buf ty esz c =>
    obtain ⟨e, h1, h2, h3, h4, h5⟩ := h
    refine ⟨e, hβ _ _ h1, h2, h3, h4, ?_⟩
    rcases h5 with h5 | ⟨prev, vs, junk, g1, g2, g3, g4, g5, g6⟩
    · exact .inl h5
    · have := hb _ g1
      exact .inr ⟨prev, vs, junk, this.1, RelC.mono hH hβ _ _ g2, g3, g4, this.2.trans g5, g6⟩
  | abs φ =>
    obtain ⟨e, S, h1, h2, h3⟩ := h
    refine ⟨e, S, hβ _ _ h1, fun b hS => (hb b (h2 b hS)).1, ?_⟩
    have : Hp.on S w' = Hp.on S w := by
      funext b
      unfold Hp.on
      split
      · rename_i hS; exact (hb b (h2 b hS)).2
      · rfl
    rw [this]; exact h3

theorem Later.refl (H : Hp) (own : Nat → Option Nat) (w : World) : Later H own w H own w :=
  ⟨rfl, rfl, rfl, Nat.le_refl _, fun _ _ h => h, fun _ _ h => .inl h, fun _ h => .inl h, fun _ _ _ => rfl⟩
theorem Later.trans {H H' H'' : Hp} {own own' own'' : Nat → Option Nat} {w w' w'' : World} (h : Later H own w H' own' w') (g : Later H' own' w' H'' own'' w'') :
    Later H own w H'' own'' w'' where
  os := g.os.trans h.os
  tape := g.tape.trans h.tape
  output := g.output.trans h.output
  size := Nat.le_trans h.size g.size
  mono b o hb := g.mono _ _ (h.mono _ _ hb)
  new b o hb := by
    rcases g.new b o hb with h1 | h1 | h1
    · exact h.new b o h1
    · rcases h.fresh b h1 with h2 | h2
      · exact .inr (.inl h2)
      · exact .inr (.inr h2)
    · exact .inr (.inr (Nat.le_trans h.size h1))
  fresh b hb := by
    rcases g.fresh b hb with h1 | h1
    · exact h.fresh b h1
    · exact .inr (Nat.le_trans h.size h1)
  same b hb ho := by
    rw [g.same b (Nat.lt_of_lt_of_le hb h.size) ?_, h.same b hb ho]
    cases hx : own' b with
    | none => rfl
    | some k =>
      rcases h.fresh b (by simp [hx]) with h1 | h1
      · exact absurd ho h1
      · omega

end Go.Sx
