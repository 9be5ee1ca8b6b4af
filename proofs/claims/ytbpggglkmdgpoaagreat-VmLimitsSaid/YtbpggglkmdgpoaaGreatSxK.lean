/-
  SxK: loops; entering a function; what is handed back sealed.
-/
import Derived.Test.YtbpggglkmdgpoaaGreatSxJ
set_option linter.all false
set_option linter.unusedSimpArgs false
set_option linter.unusedVariables false
namespace Go.Sx
open Go

/-! ### Loops -/
theorem exists_least {p : Nat → Prop} (h : ∃ n, p n) : ∃ n, p n ∧ ∀ m, p m → n ≤ m := by
  obtain ⟨n, hn⟩ := h
  induction n using Nat.strongRecOn with
  | _ n ih =>
    by_cases hx : ∃ m, m < n ∧ p m
    · obtain ⟨m, hm, hp⟩ := hx; exact ih m hm hp
    · exact ⟨n, hn, fun m hp => Nat.le_of_not_lt fun hlt => hx ⟨m, hlt, hp⟩⟩

theorem wp_loop_rel {P : Program} {c : Code} {Q : Exit → Act → World → Prop} (J : Nat → Act → World → Prop)
    (round : ∀ n a w, J n a w → c.wp P (Exit.then (fun a' w' => ∃ m, m < n ∧ J m a' w') Q) a w) {n : Nat} {a : Act} {w : World} (h : J n a w) : (Code.loop c).wp P Q a w := by
  classical
  let μ : Act → World → Nat := fun a w => if h : ∃ n, J n a w then Classical.choose (exists_least h) else 0
  have hμ : ∀ a w n, J n a w → J (μ a w) a w ∧ μ a w ≤ n := by
    intro a w n hn
    have hx : ∃ n, J n a w := ⟨n, hn⟩
    have := Classical.choose_spec (exists_least hx)
    simp only [μ, hx, dif_pos]
    exact ⟨this.1, this.2 n hn⟩
  refine wp_loop (fun a w => ∃ n, J n a w) μ ⟨n, h⟩ ?_
  rintro a w ⟨n, hn⟩
  refine wp_mono (round _ a w (hμ a w n hn).1) ?_
  intro e a' w' he
  cases e with
  | normal =>
    obtain ⟨m, hm, hj⟩ := he
    exact ⟨⟨m, hj⟩, Nat.lt_of_le_of_lt (hμ a' w' m hj).2 hm⟩
  | _ => exact he

/-! ### A state up to the names of its keys -/
abbrev Ren := List (Nat × Nat)
def rget : Ren → Nat → Option Nat
  | [], _ => none
  | (i, x) :: l, t => if t = i then some x else rget l t

theorem MemOK.live {H : Hp} {β : Env} {own : Nat → Option Nat} {M : Mem} {w : World} (h : MemOK H β own M w) (k : Nat) (hk : (mget M k).isSome = true) : ∃ e, β k = some e := by
  obtain ⟨e, he⟩ := Option.isSome_iff_exists.1 hk
  have := h.ent _ _ (mget_mem he)
  cases e with
  | cells => obtain ⟨e, _, h1, _⟩ := this; exact ⟨e, h1⟩
  | buf => obtain ⟨e, h1, _⟩ := this; exact ⟨e, h1⟩
  | abs => obtain ⟨e, _, h1, _⟩ := this; exact ⟨e, h1⟩

mutual
/-- The first one says of the new keys what the second says of the old. -/
def RenEq (ρ : Ren) (M : Mem) : SV → SV → Prop
  | .p k o, s => ∃ k', rget ρ k = some k' ∧ s = .p k' o
  | .pb k o, s => ∃ k', rget ρ k = some k' ∧ s = .pb k' o
  | .sc k o n m, s => ∃ k', rget ρ k = some k' ∧ s = .sc k' o n m
  | .os k lo n, s => ∃ k', rget ρ k = some k' ∧ (s = .os k' lo n ∨ (lo = 0 ∧ n = 0 ∧ s = .v (.slice none 0 0) ∧ (mget M k').isSome = true))
  | .g cs, s => ∃ ds, s = .g ds ∧ RenEqL ρ M cs ds
  | .tup cs, s => ∃ ds, s = .tup ds ∧ RenEqL ρ M cs ds
  | .fn f xs ys, s => ∃ us vs, s = .fn f us vs ∧ RenEqL ρ M xs us ∧ RenEqL ρ M ys vs
  | .ifc t x, s => ∃ y, s = .ifc t y ∧ RenEq ρ M x y
  | .v x, s => s = .v x
  | .int x, s => s = .int x
  | .w8 x, s => s = .w8 x
  | .w16 x, s => s = .w16 x
  | .w32 x, s => s = .w32 x
  | .w64 x, s => s = .w64 x
  | .bol x, s => s = .bol x
  | .rs n c, s => s = .rs n c ∨ (n = 0 ∧ c = [] ∧ s = .v (.slice none 0 0))
  | .rp c o, s => s = .rp c o
def RenEqL (ρ : Ren) (M : Mem) : List SV → List SV → Prop
  | [], l => l = []
  | x :: xs, l => ∃ y ys, l = y :: ys ∧ RenEq ρ M x y ∧ RenEqL ρ M xs ys
end

def RenEqE (ρ : Ren) (M : Mem) : Ent → Ent → Prop
  | .abs φ, e => e = .abs φ
  | .cells t c, e => ∃ d, e = .cells t d ∧ RenEqL ρ M c d
  | .buf t z c, e => ∃ d, e = .buf t z d ∧ RenEqL ρ M c d

mutual
theorem RenEq.closed {ρ : Ren} {M : Mem} : ∀ (s : SV), closed s → RenEq ρ M s s
  | .p _ _, h => h.elim
  | .pb _ _, h => h.elim
  | .sc _ _ _ _, h => h.elim
  | .os _ _ _, h => h.elim
  | .g cs, h => ⟨cs, rfl, RenEqL.closed cs h⟩
  | .tup cs, h => ⟨cs, rfl, RenEqL.closed cs h⟩
  | .fn _ xs ys, h => ⟨xs, ys, rfl, RenEqL.closed xs h.1, RenEqL.closed ys h.2⟩
  | .ifc _ x, h => ⟨x, rfl, RenEq.closed x h⟩
  | .v _, _ => rfl
  | .int _, _ => rfl
  | .w8 _, _ => rfl
  | .w16 _, _ => rfl
  | .w32 _, _ => rfl
  | .w64 _, _ => rfl
  | .bol _, _ => rfl
  | .rs _ _, _ => .inl rfl
  | .rp _ _, _ => rfl
theorem RenEqL.closed {ρ : Ren} {M : Mem} : ∀ (l : List SV), closedL l → RenEqL ρ M l l
  | [], _ => rfl
  | x :: xs, h => ⟨x, xs, rfl, RenEq.closed x h.1, RenEqL.closed xs h.2⟩
end
theorem RenEqL.of_eq {ρ : Ren} {M : Mem} {c d : List SV} (h : c = d) (hc : Sx.closedL c) : RenEqL ρ M c d := h ▸ RenEqL.closed c hc

def renB (ρ : Ren) (β : Env) : Env := fun k => (rget ρ k).bind β

mutual
theorem RenEq.rel {ρ : Ren} {M : Mem} {H : Hp} {β : Env} (hl : ∀ k, (mget M k).isSome = true → ∃ e, β k = some e) : ∀ (s s' : SV) (u : Value), RenEq ρ M s s' → Rel H β s' u → Rel H (renB ρ β) s u
  | .p k o, _, u, ⟨k', hk, e⟩, hr => by subst e; obtain ⟨e, h1, h2⟩ := hr; exact ⟨e, by simp [renB, hk, h1], h2⟩
  | .pb k o, _, u, ⟨k', hk, e⟩, hr => by subst e; obtain ⟨e, h1, h2⟩ := hr; exact ⟨e, by simp [renB, hk, h1], h2⟩
  | .sc k o n m, _, u, ⟨k', hk, e⟩, hr => by subst e; obtain ⟨e, h1, h2⟩ := hr; exact ⟨e, by simp [renB, hk, h1], h2⟩
  | .os k lo n, _, u, ⟨k', hk, .inl e⟩, hr => by subst e; obtain ⟨e, h1, h2⟩ := hr; exact ⟨e, by simp [renB, hk, h1], h2⟩
  | .os k lo n, _, u, ⟨k', hk, .inr ⟨h1, h2, e, h3⟩⟩, hr => by
    subst e; subst h1; subst h2
    obtain rfl : u = _ := hr
    obtain ⟨e, he⟩ := hl k' h3
    exact ⟨e, by simp [renB, hk, he], none, 0, rfl, Nat.le_refl _, by omega, .inl rfl⟩
  | .g cs, _, u, ⟨ds, e, h⟩, hr => by subst e; obtain ⟨vs, h1, h2⟩ := hr; exact ⟨vs, h1, RenEqL.relC hl cs ds vs h h2⟩
  | .tup cs, _, u, ⟨ds, e, h⟩, hr => by subst e; obtain ⟨vs, h1, h2⟩ := hr; exact ⟨vs, h1, RenEqL.relL hl cs ds vs h h2⟩
  | .fn f xs ys, _, u, ⟨us, vs, e, h, h'⟩, hr => by subst e; obtain ⟨p, q, h1, h2, h3⟩ := hr; exact ⟨p, q, h1, RenEqL.relL hl xs us p h h2, RenEqL.relL hl ys vs q h' h3⟩
  | .ifc t x, _, u, ⟨y, e, h⟩, hr => by subst e; obtain ⟨z, h1, h2⟩ := hr; exact ⟨z, h1, RenEq.rel hl x y z h h2⟩
  | .v _, _, u, h, hr => by obtain rfl := h; simpa [Rel] using hr
  | .int _, _, u, h, hr => by obtain rfl := h; simpa [Rel] using hr
  | .w8 _, _, u, h, hr => by obtain rfl := h; simpa [Rel] using hr
  | .w16 _, _, u, h, hr => by obtain rfl := h; simpa [Rel] using hr
  | .w32 _, _, u, h, hr => by obtain rfl := h; simpa [Rel] using hr
  | .w64 _, _, u, h, hr => by obtain rfl := h; simpa [Rel] using hr
  | .bol _, _, u, h, hr => by obtain rfl := h; simpa [Rel] using hr
  | .rs _ _, _, u, h, hr => by
    rcases h with rfl | ⟨rfl, rfl, rfl⟩
    · exact hr
    · obtain rfl : u = _ := hr
      exact ⟨none, 0, rfl, Nat.le_refl _, .inl ⟨rfl, rfl⟩⟩
  | .rp _ _, _, u, h, hr => by obtain rfl := h; exact hr
theorem RenEqL.relL {ρ : Ren} {M : Mem} {H : Hp} {β : Env} (hl : ∀ k, (mget M k).isSome = true → ∃ e, β k = some e) : ∀ (c d : List SV) (us : List Value), RenEqL ρ M c d → RelL H β d us → RelL H (renB ρ β) c us
  | [], _, us, h, hr => by obtain rfl := h; simpa [RelL] using hr
  | x :: xs, _, us, ⟨y, ys, e, h1, h2⟩, hr => by
    subst e
    obtain ⟨u, us', rfl, h3, h4⟩ := relL_cons.1 hr
    exact relL_cons.2 ⟨u, us', rfl, RenEq.rel hl x y u h1 h3, RenEqL.relL hl xs ys us' h2 h4⟩
theorem RenEqL.relC {ρ : Ren} {M : Mem} {H : Hp} {β : Env} (hl : ∀ k, (mget M k).isSome = true → ∃ e, β k = some e) : ∀ (c d : List SV) (us : List Value), RenEqL ρ M c d → RelC H β d us → RelC H (renB ρ β) c us
  | [], _, us, h, hr => by obtain rfl := h; simpa [RelC] using hr
  | x :: xs, _, us, ⟨y, ys, e, h1, h2⟩, hr => by
    subst e
    obtain ⟨u, us', rfl, h3, ha, h4⟩ := relC_cons.1 hr
    exact relC_cons.2 ⟨u, us', rfl, RenEq.rel hl x y u h1 h3, ha, RenEqL.relC hl xs ys us' h2 h4⟩
end
theorem RenEqL.len {ρ : Ren} {M : Mem} : ∀ (c d : List SV), RenEqL ρ M c d → d.length = c.length
  | [], _, h => by obtain rfl := h; rfl
  | x :: xs, _, ⟨y, ys, e, _, h2⟩ => by subst e; simp [RenEqL.len xs ys h2]

def entL (ρ : Ren) (M : Mem) (L : Slots) : Slots → Prop
  | [] => True
  | (t, s) :: l => (match look L t with | some x => RenEq ρ M s x | none => False) ∧ entL ρ M L l
def entM (ρ : Ren) (M : Mem) : Mem → Prop
  | [] => True
  | (k, e) :: l => (match rget ρ k with
    | some k' => match mget M k' with
      | some e' => RenEqE ρ M e e'
      | none => False
    | none => False) ∧ entM ρ M l

def renOK (ρ : Ren) (nk : Nat) : Bool := ρ.all (fun p => decide (p.1 < nk)) && ((ρ.map (·.2)).Nodup : Bool) && ((ρ.map (·.1)).Nodup : Bool)

/-- The first keys stay. -/
def keepB (ρ : Ren) : Nat → Bool
  | 0 => true
  | k + 1 => decide (rget ρ k = some k) && keepB ρ k
theorem keepB_spec {ρ : Ren} : ∀ {kp k : Nat}, keepB ρ kp = true → k < kp → rget ρ k = some k
  | 0, k, _, h => by omega
  | n + 1, k, hb, h => by
    simp only [keepB, Bool.and_eq_true, decide_eq_true_eq] at hb
    by_cases hk : k = n
    · subst hk; exact hb.1
    · exact keepB_spec hb.2 (by omega)

/-- One state entails another, by a renaming of keys. -/
def Entails (kp : Nat) (ρ : Ren) (L : Slots) (M : Mem) (L' : Slots) (M' : Mem) (nk' : Nat) : Prop := (renOK ρ nk' = true ∧ keepB ρ kp = true) ∧ entL ρ M L L' ∧ entM ρ M M'

theorem entL_look {ρ : Ren} {M : Mem} {L : Slots} : ∀ {L' : Slots} {t : Nat} {s : SV}, entL ρ M L L' → look L' t = some s → ∃ x, look L t = some x ∧ RenEq ρ M s x
  | (i, y) :: l, t, s, h, hs => by
    simp only [look] at hs
    split at hs
    · rename_i hi
      subst hi; cases hs
      have := h.1
      split at this
      · rename_i x hx; exact ⟨x, hx, this⟩
      · exact this.elim
    · exact entL_look h.2 hs
theorem entM_mem {ρ : Ren} {M : Mem} : ∀ {M' : Mem} {k : Nat} {e : Ent}, entM ρ M M' → (k, e) ∈ M' → ∃ k' e', rget ρ k = some k' ∧ (k', e') ∈ M ∧ RenEqE ρ M e e'
  | (i, y) :: l, k, e, h, hm => by
    rcases List.mem_cons.1 hm with hm | hm
    · cases hm
      have := h.1
      split at this
      · rename_i k' hk
        split at this
        · rename_i e' he; exact ⟨k', e', hk, mget_mem he, this⟩
        · exact this.elim
      · exact this.elim
    · exact entM_mem h.2 hm

theorem rget_mem : ∀ {ρ : Ren} {k k' : Nat}, rget ρ k = some k' → (k, k') ∈ ρ
  | (i, x) :: l, k, k', h => by
    unfold rget at h
    split at h
    · rename_i hk; subst hk; cases h; exact List.mem_cons_self ..
    · exact List.mem_cons_of_mem _ (rget_mem h)
theorem rget_of_mem : ∀ {ρ : Ren} {k k' : Nat}, (ρ.map (·.1)).Nodup → (k, k') ∈ ρ → rget ρ k = some k'
  | (i, x) :: l, k, k', hn, h => by
    simp only [List.map_cons, List.nodup_cons] at hn
    unfold rget
    rcases List.mem_cons.1 h with h | h
    · cases h; simp
    · have : k ≠ i := fun e => hn.1 (List.mem_map.2 ⟨(k, k'), h, e⟩)
      rw [if_neg this]; exact rget_of_mem hn.2 h
def rinv : Ren → Nat → Option Nat
  | [], _ => none
  | (i, x) :: l, t => if t = x then some i else rinv l t
theorem rinv_mem : ∀ {ρ : Ren} {k k' : Nat}, rinv ρ k' = some k → (k, k') ∈ ρ
  | (i, x) :: l, k, k', h => by
    unfold rinv at h
    split at h
    · rename_i hk; subst hk; cases h; exact List.mem_cons_self ..
    · exact List.mem_cons_of_mem _ (rinv_mem h)
theorem rinv_of_mem : ∀ {ρ : Ren} {k k' : Nat}, (ρ.map (·.2)).Nodup → (k, k') ∈ ρ → rinv ρ k' = some k
  | (i, x) :: l, k, k', hn, h => by
    simp only [List.map_cons, List.nodup_cons] at hn
    unfold rinv
    rcases List.mem_cons.1 h with h | h
    · cases h; simp
    · have : k' ≠ x := fun e => hn.1 (List.mem_map.2 ⟨(k, k'), h, e⟩)
      rw [if_neg this]; exact rinv_of_mem hn.2 h

/-- What waits names only keys that stay. -/
def dsV (kp : Nat) : SV → Bool
  | .p k _ => decide (k < kp)
  | .v _ | .int _ | .w8 _ | .w16 _ | .w32 _ | .w64 _ | .bol _ => true
  | _ => false
def dsB (kp : Nat) (ds : List (FuncId × List SV)) : Bool := ds.all fun d => d.2.all (dsV kp)
theorem dsV_rel {ρ : Ren} {M : Mem} {kp : Nat} (hk : keepB ρ kp = true) : ∀ (l : List SV), l.all (dsV kp) = true → RenEqL ρ M l l
  | [], _ => rfl
  | x :: l, h => by
    simp only [List.all_cons, Bool.and_eq_true] at h
    refine ⟨x, l, rfl, ?_, dsV_rel hk l h.2⟩
    have h1 := h.1
    cases x <;> simp only [dsV, decide_eq_true_eq] at h1 <;> first | exact ⟨_, keepB_spec hk h1, rfl⟩ | rfl | cases h1
theorem DefR.ren {ρ : Ren} {M : Mem} {kp : Nat} {H : Hp} {β : Env} (hl : ∀ k, (mget M k).isSome = true → ∃ e, β k = some e) (hk : keepB ρ kp = true) : ∀ {ds : List (FuncId × List SV)} {l : List Deferred}, dsB kp ds = true → DefR H β ds l → DefR H (renB ρ β) ds l
  | [], _, _, h => h
  | (g, as) :: ds, _, hb, ⟨us, vs, l', h1, h2, h3⟩ => by
    simp only [dsB, List.all_cons, Bool.and_eq_true] at hb
    exact ⟨us, vs, l', h1, RenEqL.relL hl _ _ _ (dsV_rel (M := M) hk as hb.1) h2, DefR.ren hl hk hb.2 h3⟩

theorem St.entails {E : Cx} {a : Act} {w : World} {H : Hp} {β : Env} {own : Nat → Option Nat} {L L' : Slots} {M M' : Mem} {nk nk' : Nat} {ρ : Ren} (h : St E H β own w a L M nk) (he : Entails E.kp ρ L M L' M' nk') (hds : dsB E.kp E.ds = true) :
    St E H (renB ρ β) (fun b => (own b).bind (rinv ρ)) w a L' M' nk' := by
  obtain ⟨⟨h0, hkp⟩, hL, hM⟩ := he
  have hlv := h.mem.live
  simp only [renOK, Bool.and_eq_true, List.all_eq_true, decide_eq_true_eq] at h0
  obtain ⟨⟨h1, h2⟩, h3⟩ := h0
  have hown : ∀ b k, own b = some k → ∀ k', (k', k) ∈ ρ → (fun b => (own b).bind (rinv ρ)) b = some k' := fun b k hb k' hm => by
    simp only [hb, Option.bind_some]; exact rinv_of_mem h2 hm
  refine ⟨⟨fun b o hb => ?_, fun b k hb => ?_, fun k e hke => ?_⟩, ?_, fun k e hk he => by simp [renB, keepB_spec hkp hk, h.kept k e hk he], fun t s hs => ?_, fun k hk => ?_, h.size, h.defs.ren hlv hkp hds⟩
  · obtain ⟨q1, q2⟩ := h.mem.ro b o hb
    exact ⟨by simp [q1], q2⟩
  · cases ho : own b with
    | none => simp [ho] at hb
    | some j =>
      simp only [ho, Option.bind_some] at hb
      obtain ⟨q1, e, q2⟩ := h.mem.lt b j ho
      exact ⟨q1, e, by simp [renB, rget_of_mem h3 (rinv_mem hb), q2]⟩
  · obtain ⟨k', e', hk, hm, hee⟩ := entM_mem hM hke
    have hent := h.mem.ent k' e' hm
    cases e with
    | cells t c =>
      obtain ⟨d, rfl, hcd⟩ := hee
      obtain ⟨ke, vs, p1, p2, p3, p4⟩ := hent
      exact ⟨ke, vs, by simp [renB, hk, p1], hown _ _ p2 k (rget_mem hk), RenEqL.relC hlv c d vs hcd p3, p4⟩
    | abs φ =>
      have hee : e' = .abs φ := hee
      subst hee
      obtain ⟨ke, S, p1, p2, p3⟩ := hent
      exact ⟨ke, S, by simp [renB, hk, p1], fun b hb => hown _ _ (p2 b hb) k (rget_mem hk), p3⟩
    | buf t z c =>
      obtain ⟨d, rfl, hcd⟩ := hee
      obtain ⟨ke, p1, p2, p3, p4, p5⟩ := hent
      have hl := RenEqL.len c d hcd
      refine ⟨ke, by simp [renB, hk, p1], p2, p3, by rw [← hl]; exact p4, ?_⟩
      rcases p5 with ⟨q1, q2⟩ | ⟨prev, vs, junk, q1, q2, q3, q4, q5, q6⟩
      · exact .inl ⟨q1, List.length_eq_zero_iff.1 (by rw [← hl, q2]; rfl)⟩
      · exact .inr ⟨prev, vs, junk, hown _ _ q1 k (rget_mem hk), RenEqL.relC hlv c d vs hcd q2, q3, q4, q5, q6⟩
  · have hl := h.later
    refine ⟨hl.os, hl.tape, hl.output, hl.size, hl.mono, hl.new, fun b hb => hl.fresh b (fun e => hb (by simp [e])), hl.same⟩
  · obtain ⟨x, hx, hre⟩ := entL_look hL hs
    obtain ⟨u, hu, hr⟩ := h.slots t x hx
    exact ⟨u, hu, RenEq.rel hlv s x u hre hr⟩
  · simp only [renB]
    cases hg : rget ρ k with
    | none => rfl
    | some k' => have := h1 _ (rget_mem hg); simp at this; omega

/-- **A LOOP**, by an invariant over ghosts. -/
theorem SatR.loopX {E : Rx} {α : Type} (φ : α → Prop) (I : α → Slots × Mem) (nk1 : Nat) (μ : α → Nat) {b : Code} {k : List It} {L : Slots} {M : Mem} {nk : Nat}
    (x0 : α) (ρ0 : Ren) (hφ : φ x0) (hds : dsB E.kp E.ds = true) (h0 : Entails E.kp ρ0 L M (I x0).1 (I x0).2 nk1) (n : Nat)
    (X : α → Slots → Mem → Nat → Prop) (hX : ∀ x L' M' n, X x L' M' n → ∃ ρ y, φ y ∧ μ y < μ x ∧ Entails E.kp ρ L' M' (I y).1 (I y).2 nk1)
    (hr : ∀ x, φ x → run E n (.code b :: .stop (X x) :: k) (I x).1 (I x).2 nk1) :
    SatR E (.code (.loop b) :: k) L M nk := by
  refine ⟨fun E hCE hE => ?_⟩
  subst hCE
  intro hB H β own w a hst
  have hB' := hB
  simp only [List.all_cons, Bool.and_eq_true] at hB'
  simp only [conts]
  refine wp_loop_rel (fun m a w => ∃ x H β own, φ x ∧ μ x = m ∧ St E H β own w a (I x).1 (I x).2 nk1) ?_ (n := μ x0) ⟨x0, H, _, _, hφ, rfl, hst.entails h0 hds⟩
  rintro m a w ⟨x, H, β, own, hx, rfl, hst⟩
  have := run_sound n E hE _ _ _ _ (hr x hx) (by simp only [List.all_cons, Bool.and_eq_true]; exact ⟨hB'.1, rfl, hB'.2⟩) H β own w a hst
  simp only [conts] at this
  refine wp_mono this ?_
  intro e a' w' he
  cases e with
  | normal =>
    simp only [conts] at he
    obtain ⟨H', β', own', L', M', nk', hst', hx'⟩ := he
    obtain ⟨ρ, y, hy, hlt, hent⟩ := hX _ _ _ _ hx'
    exact ⟨_, hlt, y, H', _, _, hy, rfl, hst'.entails hent hds⟩
  | _ => simpa [conts, Exit.then] using he

theorem SatR.loop {E : Rx} {α : Type} (φ : α → Prop) (I : α → Slots × Mem) (nk1 : Nat) (μ : α → Nat) {b : Code} {k : List It} {L : Slots} {M : Mem} {nk : Nat}
    (x0 : α) (ρ0 : Ren) (hφ : φ x0) (hds : dsB E.kp E.ds = true) (h0 : Entails E.kp ρ0 L M (I x0).1 (I x0).2 nk1) (n : Nat)
    (hr : ∀ x, φ x → run E n (.code b :: .stop (fun L' M' _ => ∃ ρ y, φ y ∧ μ y < μ x ∧ Entails E.kp ρ L' M' (I y).1 (I y).2 nk1) :: k) (I x).1 (I x).2 nk1) :
    SatR E (.code (.loop b) :: k) L M nk :=
  SatR.loopX φ I nk1 μ x0 ρ0 hφ hds h0 n _ (fun _ _ _ _ h => h) hr

def keyS : SV → Option Nat
  | .p k _ => some k
  | .pb k _ => some k
  | .sc k _ _ _ => some k
  | .os k _ _ => some k
  | _ => none
/-- The names that the slots give. -/
def autoR (L : Slots) : Slots → Ren
  | [] => []
  | (t, s) :: l => match keyS s with
    | none => autoR L l
    | some k' => match look L t with
      | none => autoR L l
      | some x => match keyS x with
        | none => autoR L l
        | some k => match rget (autoR L l) k' with
          | none => (k', k) :: autoR L l
          | some _ => autoR L l
/-- .. the names found by themselves, but for some. -/
theorem SatR.loopA {E : Rx} {α : Type} (φ : α → Prop) (I : α → Slots × Mem) (nk1 : Nat) (μ : α → Nat) {b : Code} {k : List It} {L : Slots} {M : Mem} {nk : Nat}
    (x0 : α) (ρ0 : Ren) (hφ : φ x0) (hds : dsB E.kp E.ds = true) (h0 : Entails E.kp (ρ0 ++ autoR L (I x0).1) L M (I x0).1 (I x0).2 nk1) (n : Nat)
    (hr : ∀ x, φ x → run E n (.code b :: .stop (fun L' M' _ => ∃ y ρ, φ y ∧ μ y < μ x ∧ Entails E.kp (ρ ++ autoR L' (I y).1) L' M' (I y).1 (I y).2 nk1) :: k) (I x).1 (I x).2 nk1) :
    SatR E (.code (.loop b) :: k) L M nk :=
  SatR.loopX φ I nk1 μ x0 _ hφ hds h0 n _ (fun _ _ _ _ ⟨y, ρ, h1, h2, h3⟩ => ⟨_, y, h1, h2, h3⟩) hr

/-- Forgetting, and new names. -/
theorem SatR.weaken {E : Rx} {its : List It} {L L' : Slots} {M M' : Mem} {nk : Nat} (nk' : Nat) (ρ : Ren) (hds : dsB E.kp E.ds = true) (he : Entails E.kp ρ L M L' M' nk') (n : Nat) (hr : run E n its L' M' nk') : SatR E its L M nk := by
  refine ⟨fun E hCE hE => ?_⟩
  subst hCE
  exact fun hB H β own w a hst => run_sound n E hE its L' M' nk' hr hB H _ _ w a (hst.entails he hds)
/-- A loop, so many rounds of it. -/
theorem SatR.rounds {E : Rx} {b : Code} {k : List It} {L : Slots} {M : Mem} {nk : Nat} (j n : Nat) (hr : run E n (.code b :: .rnd b j :: k) L M nk) : SatR E (.code (.loop b) :: k) L M nk := by
  refine ⟨fun C hC hE => ?_⟩
  subst hC
  intro hB H β own w a hst
  have hB' := hB
  simp only [List.all_cons, Bool.and_eq_true] at hB'
  have := run_sound n C hE _ L M nk hr (by simp only [List.all_cons, Bool.and_eq_true]; exact ⟨hB'.1, hB'.1, hB'.2⟩) H β own w a hst
  simp only [conts] at this ⊢
  refine wp_loop_rounds (j + 1) ?_
  rw [rounds_succ]
  refine wp_mono this ?_
  intro e a' w' he
  cases e <;> simp only [Exit.then] <;> simpa [conts] using he
theorem SatR.of_run {E : Rx} {its : List It} {L : Slots} {M : Mem} {nk : Nat} (n : Nat) (hr : run E n its L M nk) : SatR E its L M nk :=
  ⟨fun C hC hE => by subst hC; exact run_sound n C hE its L M nk hr⟩

/-- A buffer of nothing, thought up. -/
theorem MemOK.ghost {H : Hp} {β : Env} {own : Nat → Option Nat} {M : Mem} {w : World} (h : MemOK H β own M w) {nk : Nat} (hk : β nk = none) (ty : TypeId) (esz : Nat) (hz : 0 < esz) :
    MemOK H (setK β nk ⟨0, 0, 0, esz⟩) own ((nk, .buf ty esz []) :: M) w := by
  refine ⟨h.ro, fun b k hb => ⟨(h.lt b k hb).1, ?_⟩, fun k e he => ?_⟩
  · obtain ⟨e, he⟩ := (h.lt b k hb).2
    exact ⟨e, ext_setK hk _ k e he⟩
  · rcases List.mem_cons.1 he with he | he
    · cases he
      exact ⟨_, setK_same _ _ _, rfl, hz, by simp, .inl ⟨rfl, rfl⟩⟩
    · exact (h.ent k e he).stay (fun _ _ h => h) (ext_setK hk _) (fun b hb => ⟨hb, rfl⟩)
theorem SatR.ghost {E : Rx} {its : List It} {L : Slots} {M : Mem} {nk : Nat} (ty : TypeId) (esz : Nat) (hz : 0 < esz) (h : SatR E its L ((nk, .buf ty esz []) :: M) (nk + 1)) : SatR E its L M nk := by
  refine ⟨fun E hCE hE => ?_⟩
  subst hCE
  intro hB H β own w a hst
  have hk := hst.keys nk (Nat.le_refl _)
  exact h.sat E rfl hE hB H _ own w a ⟨hst.mem.ghost hk ty esz hz, hst.later, fun k e h1 h2 => ext_setK hk _ k e (hst.kept k e h1 h2),
    fun t s hs => by obtain ⟨u, h1, h2⟩ := hst.slots t s hs; exact ⟨u, h1, Rel.mono (fun _ _ h => h) (ext_setK hk _) _ _ h2⟩, keys_setK hst.keys _, hst.size, hst.defs.mono (fun _ _ h => h) (ext_setK hk _)⟩

/-! ### Entering a function -/
def slotsOf : List SV → Nat → Slots
  | [], _ => []
  | x :: xs, i => (i, x) :: slotsOf xs (i + 1)

theorem look_slotsOf : ∀ (l : List SV) (i t : Nat) (s : SV), look (slotsOf l i) t = some s → ∃ j, t = i + j ∧ l[j]? = some s
  | x :: xs, i, t, s, h => by
    simp only [slotsOf, look] at h
    split at h
    · rename_i ht; cases h; exact ⟨0, by omega, rfl⟩
    · obtain ⟨j, h1, h2⟩ := look_slotsOf xs (i + 1) t s h
      exact ⟨j + 1, by omega, by simpa using h2⟩

theorem St.entry (E : Cx) {args : List SV} {M : Mem} {nk : Nat} {vals : List Value} (hds : E.ds = []) (hargs : args.length ≤ E.fn.ntmps) (hm : MemOK E.H0 E.β0 E.own0 M E.w0) (hk : ∀ k, nk ≤ k → E.β0 k = none) (hv : RelL E.H0 E.β0 args vals) :
    St E E.H0 E.β0 E.own0 E.w0 { tmps := vals.toArray ++ Array.replicate (E.fn.ntmps - vals.toArray.size) undef, defers := [] } (slotsOf args 0) M nk := by
  have hl := hv.length
  refine ⟨hm, Later.refl _ _ _, fun k e _ he => he, fun t s hs => ?_, hk, by simp [hl]; omega, by rw [hds]; rfl⟩
  obtain ⟨j, rfl, hj⟩ := look_slotsOf args 0 t s hs
  obtain ⟨u, hu, hr'⟩ := hv.get j s hj
  refine ⟨u, ?_, hr'⟩
  have hjl : j < vals.length := by
    rcases Nat.lt_or_ge j vals.length with h | h
    · exact h
    · rw [List.getElem?_eq_none h] at hu; cases hu
  rw [Nat.zero_add, Array.getElem?_append_left (by simpa using hjl)]
  simpa using hu

/-- **A BODY**, entered. -/
theorem body_run {E : Rx} {f : FuncId} {c : Code} {args : List SV} {M : Mem} {nk n : Nat}
    (hf : E.P.funcs[f]? = some E.fn) (hb : E.fn.body = some c) (hE : ROK E) (hds : E.ds = []) (hB : codeB E.hard E.fn.ntmps E.plan c = true) (hargs : args.length ≤ E.fn.ntmps)
    (hr : run E n [.code c] (slotsOf args 0) M nk) {H : Hp} {β : Env} {own : Nat → Option Nat} {w : World} {vals : List Value} (hm : MemOK H β own M w) (hk : ∀ k, nk ≤ k → β k = none) (hv : RelL H β args vals) :
    Calls E.P f vals.toArray w fun e w' => ∃ H' β' own' r M' nk', MemOK H' β' own' M' w' ∧ Later H own w H' own' w' ∧ (∀ k e, k < E.kp → β k = some e → β' k = some e) ∧ (∀ k, nk' ≤ k → β' k = none) ∧ E.R r M' nk' ∧
      match r with
      | .ret x => ∃ u, e = .returned u ∧ Rel H' β' x u
      | .pan x => ∃ u, e = .panicked [{ v := u, recovered := false }] ∧ Rel H' β' x u := by
  have hst := St.entry ⟨E, H, β, own, w⟩ (vals := vals) hds hargs hm hk hv
  have := run_sound n ⟨E, H, β, own, w⟩ hE _ _ _ _ hr (by simp [itB, hB]) H β own w _ hst
  simp only [conts] at this
  cases hdf : E.dfl with
  | false =>
    have e : finQ ⟨E, H, β, own, w⟩ = bodyPost E.P E.fn (EndR ⟨E, H, β, own, w⟩) := by simp only [finQ, hdf]
    rw [e] at this
    exact calls_of_wp hf hb this
  | true =>
    have e : finQ ⟨E, H, β, own, w⟩ = bodyPostD E.P E.fn (EndR ⟨E, H, β, own, w⟩) := by simp only [finQ, hdf]
    rw [e] at this
    exact calls_of_wp_defers hf hb this

theorem Tri.of_run {E : Rx} {f : FuncId} {c : Code} {args : List SV} {M : Mem} {R : Res → Mem → Prop} {nk n : Nat}
    (hf : E.P.funcs[f]? = some E.fn) (hb : E.fn.body = some c) (hE : ROK E) (hds : E.ds = []) (hB : codeB E.hard E.fn.ntmps E.plan c = true) (hargs : args.length ≤ E.fn.ntmps) (hR : ∀ r M nk, E.R r M nk → R r M)
    (hM : ∀ k e, (k, e) ∈ M → k < nk) (hr : run E n [.code c] (slotsOf args 0) M nk) : Tri E.P f args M E.kp R := by
  intro H β own w vals hm hk hv
  refine (body_run hf hb hE hds hB hargs hr hm (fun k hk' => ?_) hv).mono fun e w' ⟨H', β', own', r, M', nk', h1, h2, h3, _, h5, h6⟩ => ⟨H', β', own', r, M', h1, h2, h3, hR _ _ _ h5, h6⟩
  rcases hk k with ⟨e, he⟩ | h
  · have := hM k e he; omega
  · exact h

/-- So many arguments there is room for. -/
def fits (n : Nat) (l : List SV) (p : Prop) : Prop := match Nat.ble l.length n with | true => p | false => False
theorem fits_iff {n : Nat} {l : List SV} {p : Prop} (h : fits n l p) : l.length ≤ n ∧ p := by
  unfold fits at h
  split at h
  · rename_i hb; exact ⟨Nat.le_of_ble_eq_true hb, h⟩
  · exact h.elim

/-- A function without loops, walked anew at each call. -/
theorem Meth.inl {P : Program} {f : FuncId} {fn : Func} {c : Code} (E : Nat → (Res → Mem → Nat → Prop) → Rx) (hP : ∀ nk Φ, (E nk Φ).P = P ∧ (E nk Φ).fn = fn ∧ (E nk Φ).ds = [] ∧ (E nk Φ).R = Φ ∧ nk ≤ (E nk Φ).kp ∧ codeB (E nk Φ).hard fn.ntmps (E nk Φ).plan c = true)
    (n : Nat) (hf : P.funcs[f]? = some fn) (hb : fn.body = some c) (hE : ∀ nk Φ, ROK (E nk Φ)) :
    Meth P f false fun args M nk Φ => fits fn.ntmps args (run (E nk Φ) n [.code c] (slotsOf args 0) M nk) := by
  intro args M nk H β own w vals hm hk hv Φ hD
  replace hD := fits_iff hD
  obtain ⟨e1, e2, e3, e4, e5, e6⟩ := hP nk Φ
  have := body_run (E := E nk Φ) (f := f) (c := c) (args := args) (M := M) (nk := nk) (n := n) (by rw [e1, e2]; exact hf) (by rw [e2]; exact hb) (hE nk Φ) e3 (by rw [e2]; exact e6) (by rw [e2]; exact hD.1) hD.2 hm hk hv
  rw [e1, e4] at this
  refine this.mono fun e w' ⟨H', β', own', r, M', nk', h1, h2, h3, h4, h5, h6⟩ => ⟨H', β', own', r, M', nk', h1, h2, fun k e he => h3 k e ?_ he, h4, (fun h => by cases h), h5, h6⟩
  rcases Nat.lt_or_ge k nk with h | h
  · exact Nat.lt_of_lt_of_le h e5
  · rw [hk k h] at he; cases he

/-! ### What is called as its caller ends -/
def splitRec : Code → Option (Nat × Array Oper × Nat × List Oper × Code)
  | .seq (.region id ops false) c => match ops.toList with
    | o :: l => match o.op, o.dst, o.guard with
      | .call ⟨.builtin .recover, _, _⟩, some d, none => some (id, ops, d, l, c)
      | _, _, _ => none
    | [] => none
  | _ => none

theorem Oper.wp_monoQ {P : Program} {o : Oper} {a : Act} {w : World} {K K' : Act → World → Prop} {Q Q' : Exit → Act → World → Prop} (hq : ∀ e a w, Q e a w → Q' e a w) (h : ∀ a w, K a w → K' a w)
    (hh : o.wp P a w K Q) : o.wp P a w K' Q' := by
  unfold Oper.wp at *
  generalize (execOp a.eval o).run P w = r at *
  cases r with
  | ok n w' =>
    cases n <;> simp only [Oper.upon] at hh ⊢ <;>
      first
        | exact h _ _ hh
        | exact Calls.mono hh (fun e w'' he => by cases e <;> first | exact h _ _ he | exact hq _ _ _ he | exact he.imp fun a h => h.imp fun w h => hq _ _ _ h)
        | exact Rows.mono hh (fun _ _ he => h _ _ he)
  | halt x w' => cases x <;> simp only [Oper.upon] at hh ⊢ <;> first | exact hq _ _ _ hh | exact hh

theorem wpOpsS_of_wpL {P : Program} {all : Array Oper} {QS : Exit → Act → List Frame → World → Prop} {cs : List Frame} : ∀ (l : List Oper) (is : List Nat) (a : Act) (w : World), (is.map fun i => all[i]?) = l.map some →
    wpL P all (fun e a w => QS e a cs w) l a w → wpOpsS P all QS is a cs w
  | [], is, a, w, h, hw => by
    have : is = [] := by cases is <;> simp_all
    subst this; exact hw
  | o :: l, [], a, w, h, _ => by simp at h
  | o :: l, i :: is, a, w, h, hw => by
    simp only [List.map_cons, List.cons.injEq] at h
    unfold wpOpsS
    rw [h.1]
    unfold wpL at hw
    dsimp only
    split
    · rename_i hwt
      rw [if_pos hwt] at hw
      have hw2 := Oper.wp_mono (K' := fun a w => wpOpsS P all QS is a cs w) (fun a w hh => wpOpsS_of_wpL l is a w h.2 hh) hw
      unfold Oper.wp at hw2
      split
      · rename_i w' hr
        rw [hr] at hw2
        exact hw2.elim
      · exact hw2
    · rename_i hwt
      rw [if_neg hwt] at hw
      exact wpOpsS_of_wpL l is _ w h.2 hw

theorem wpL_mono {P : Program} {all : Array Oper} {Q Q' : Exit → Act → World → Prop} (hq : ∀ e a w, Q e a w → Q' e a w) : ∀ {l : List Oper} {a : Act} {w : World}, wpL P all Q l a w → wpL P all Q' l a w
  | [], _, _, h => hq _ _ _ h
  | o :: l, a, w, h => by
    unfold wpL at h ⊢
    split
    · rename_i hw
      rw [if_pos hw] at h
      exact Oper.wp_monoQ hq (fun a w hh => wpL_mono hq hh) h
    · rename_i hw
      rw [if_neg hw] at h
      exact wpL_mono hq h

theorem MethD.inl {P : Program} {f : FuncId} {fn : Func} {c c' : Code} {id d : Nat} {ops : Array Oper} {l : List Oper} (E : Nat → (Res → Mem → Nat → Prop) → Rx) (hs : splitRec c = some (id, ops, d, l, c'))
    (hP : ∀ nk Φ, (E nk Φ).P = P ∧ (E nk Φ).fn = fn ∧ (E nk Φ).ds = [] ∧ (E nk Φ).dfl = false ∧ (E nk Φ).R = Φ ∧ nk ≤ (E nk Φ).kp ∧ (codeB (E nk Φ).hard fn.ntmps (E nk Φ).plan c' && opsB fn.ntmps l) = true)
    (n : Nat) (hf : P.funcs[f]? = some fn) (hb : fn.body = some c) (hE : ∀ nk Φ, ROK (E nk Φ)) (hc : ∀ as w, (callFunc f as).run P w = .ok (.enter f as) w) (hd : d < fn.ntmps) :
    MethD P f fun args p M nk Φ => fits fn.ntmps args (run (E nk fun r M nk => match r with | .ret _ => Φ M nk | .pan _ => False) n [.ops ops l, .code c'] ((d, match p with | none => .v .nilIface | some s => s) :: slotsOf args 0) M nk) := by
  intro args p M nk H β own w vals u hm hk hv hu Φ hD
  replace hD := fits_iff hD
  refine ⟨hc, ?_⟩
  generalize hR : (fun (r : Res) (M : Mem) (nk : Nat) => match r with | .ret _ => Φ M nk | .pan _ => False) = R at hD
  obtain ⟨e1, e2, e3, e4, e5, e6, e7⟩ := hP nk R
  rw [Bool.and_eq_true] at e7
  let C : Cx := ⟨E nk R, H, β, own, w⟩
  have hst := St.entry C (args := args) (M := M) (nk := nk) (vals := vals) e3 (by show args.length ≤ (E nk R).fn.ntmps; rw [e2]; exact hD.1) hm hk hv
  -- what recover hands back
  obtain ⟨v, hv1, hv2⟩ : ∃ v, Rel H β (match p with | none => .v .nilIface | some s => s) v ∧ ∀ (c₀ : Frame) (cs : List Frame), c₀.mode = u →
      (match recoverD (c₀ :: cs) with
        | some (x, cs') => x = v ∧ ∃ u', cs' = { c₀ with mode := u' } :: cs ∧ settle u' = .returning
        | none => v = .nilIface ∧ settle u = .returning) := by
    cases p with
    | none =>
      subst hu
      refine ⟨.nilIface, rfl, fun c₀ cs hm => ?_⟩
      simp [recoverD, hm, settle]
    | some s =>
      obtain ⟨v, rfl, hr⟩ := hu
      refine ⟨v, hr, fun c₀ cs hm => ?_⟩
      simp [recoverD, hm, settle]
  have hst2 := hst.put (d := some d) (u := v) (fun t ht => by cases ht; show d < (E nk R).fn.ntmps; rw [e2]; exact hd) hm (Later.refl _ _ _) (fun _ _ h => h) hk hv1
  have hrun := run_sound n C (hE nk R) _ _ _ _ hD.2 (by
    simp only [List.all_cons, List.all_nil, itB, Bool.and_true, Bool.and_eq_true]
    show opsB (E nk R).fn.ntmps l = true ∧ codeB (E nk R).hard (E nk R).fn.ntmps (E nk R).plan c' = true
    rw [e2]; exact ⟨e7.2, e7.1⟩) H β own w _ hst2
  refine CallsD.mono (R := fun e u' w' => ∃ v, e = .returned v ∧ EndR C (.returned v) w' ∧ settle u' = .returning) ?_ ?_
  · refine callsD_of_wpS hf hb ?_
    intro c₀ cs hmode
    have hrec := hv2 c₀ cs hmode
    -- the shape of the body
    unfold splitRec at hs
    split at hs <;> try cases hs
    rename_i id' ops' c''
    split at hs <;> try cases hs
    rename_i o l' hl
    split at hs <;> cases hs
    rename_i as1 as2 hop hg hdst
    have hfin : ∀ (e : Exit) (a : Act) (w : World) (cs' : List Frame) (u' : FrameMode), cs' = { c₀ with mode := u' } :: cs → settle u' = .returning → finQ C e a w →
        bodyPostS P fn c₀ cs (fun e u' w' => ∃ v, e = .returned v ∧ EndR C (.returned v) w' ∧ settle u' = .returning) e a cs' w := by
      intro e a w cs' u' hcs hset hq
      unfold finQ at hq
      have hd4 : C.dfl = false := e4
      rw [hd4] at hq
      have hfn : C.fn = fn := e2
      have hPP : C.P = P := e1
      have hRR : C.R = R := e5
      cases e with
      | normal =>
        obtain ⟨q1, v, q2, q3⟩ := hq
        rw [hfn, hPP] at q2
        exact ⟨q1, u', hcs, v, q2, v, rfl, q3, hset⟩
      | ret =>
        obtain ⟨q1, v, q2, q3⟩ := hq
        rw [hfn, hPP] at q2
        exact ⟨q1, u', hcs, v, q2, v, rfl, q3, hset⟩
      | panic ch =>
        exfalso
        obtain ⟨_, H', β', own', r, M', nk', _, _, _, _, hr, he⟩ := hq
        rw [hRR, ← hR] at hr
        cases r with
        | ret x => obtain ⟨u, h1, _⟩ := he; cases h1
        | pan x => exact hr
      | outgrown =>
        exfalso
        obtain ⟨H', β', own', r, M', nk', _, _, _, _, hr, he⟩ := hq
        cases r with
        | ret x => obtain ⟨u, h1, _⟩ := he; cases h1
        | pan x => obtain ⟨u, h1, _⟩ := he; cases h1
      | _ => exact hq.elim
    simp only [conts] at hrun
    have hPP : C.P = P := e1
    rw [hPP] at hrun
    have hsz : ops.size = l.length + 1 := by rw [← Array.length_toList, hl]; simp
    have h0 : ops[0]? = some o := by rw [← Array.getElem?_toList, hl]; rfl
    have hrange : List.range ops.size = 0 :: (List.range l.length).map (· + 1) := by rw [hsz, List.range_succ_eq_map]
    have hmap : (((List.range l.length).map (· + 1)).map fun i => ops[i]?) = l.map some := by
      apply List.ext_getElem?
      intro i
      simp only [List.getElem?_map, List.map_map, Function.comp_def]
      by_cases hi : i < l.length
      · have : ops[i + 1]? = l[i]? := by rw [← Array.getElem?_toList, hl]; simp
        simp [hi, this]
      · simp [hi]
    have hexec : ∀ (a : Act) (w : World), (execOp a.eval o).run P w = .ok .recover w := by
      intro a w
      simp [execOp, hop, resolve, invoke, builtin]
    have key : ∀ cs' u', cs' = { c₀ with mode := u' } :: cs → settle u' = .returning →
        wpOpsS P ops (Exit.thenS (fun a cs' w => c'.wpS P (bodyPostS P fn c₀ cs (fun e u' w' => ∃ v, e = .returned v ∧ EndR C (.returned v) w' ∧ settle u' = .returning)) a cs' w) (bodyPostS P fn c₀ cs (fun e u' w' => ∃ v, e = .returned v ∧ EndR C (.returned v) w' ∧ settle u' = .returning)))
          ((List.range l.length).map (· + 1)) (({ tmps := vals.toArray ++ Array.replicate (fn.ntmps - vals.toArray.size) undef, defers := [] } : Act).put (some d) v) cs' w := by
      intro cs' u' hcs hset
      refine wpOpsS_of_wpL l _ _ w hmap ?_
      have hfn : C.fn = fn := e2
      rw [hfn] at hrun
      refine wpL_mono ?_ hrun
      intro e a' w' he
      cases e with
      | normal =>
        simp only [Exit.thenS]
        simp only [conts] at he
        rw [hPP] at he
        refine wpS_of_wp (wp_mono he ?_)
        intro e2 a2 w2 h2
        exact hfin _ _ _ _ _ hcs hset h2
      | _ => exact hfin _ _ _ _ _ hcs hset (by simpa [conts] using he)
    refine wpS_seq (wpS_region ?_)
    rw [hrange]
    unfold wpOpsS
    rw [h0]
    dsimp only
    rw [if_pos (by simp [Region.wanted, hg]), hexec]
    dsimp only
    rw [hdst]
    cases hr : recoverD (c₀ :: cs) with
    | none =>
      rw [hr] at hrec
      obtain ⟨rfl, hset⟩ := hrec
      exact key _ u (by rw [← hmode]) hset
    | some x =>
      rw [hr] at hrec
      obtain ⟨x, cs'⟩ := x
      obtain ⟨rfl, u', hcs, hset⟩ := hrec
      exact key _ u' hcs hset
  · rintro e u' w' ⟨v, rfl, ⟨H', β', own', r, M', nk', q1, q2, q3, q4, q5, q6⟩, hset⟩
    have hRR : C.R = R := e5
    rw [hRR, ← hR] at q5
    cases r with
    | pan x => exact q5.elim
    | ret x => exact ⟨H', β', own', M', nk', v, rfl, q1, q2, fun k e he => q3 k e (by
        rcases Nat.lt_or_ge k nk with h | h
        · exact Nat.lt_of_lt_of_le h e6
        · rw [hk k h] at he; cases he) he, q4, q5, hset⟩

/-! ### What is handed back: sealed -/
mutual
def Seal (M : Mem) : SV → SV → Prop
  | .os k lo n, r => contC M 0 (.os k lo n) ∧ match mget M k with
    | some (.buf _ z c) => closedL c ∧ 0 < z ∧ r = .rs n (slc c (lo * z) (n * z))
    | _ => False
  | .sc k off n _, r => contC M 1 (.sc k off n n) ∧ match mget M k with
    | some (.cells _ c) => closedL c ∧ r = .rs n (slc c off (n * 1))
    | _ => False
  | .p k off, r => match mget M k with
    | some (.cells _ c) => closedL c ∧ r = .rp c off
    | _ => False
  | .tup xs, r => ∃ ys, r = .tup ys ∧ SealL M xs ys
  | .g xs, r => (closedL xs ∧ r = .g xs) ∨ ∃ ys, r = .g ys ∧ SealL M xs ys
  | .v x, r => r = .v x ∨ (x = .slice none 0 0 ∧ r = .rs 0 [])
  | s, r => closed s ∧ r = s
def SealL (M : Mem) : List SV → List SV → Prop
  | [], l => l = []
  | x :: xs, l => ∃ y ys, l = y :: ys ∧ Seal M x y ∧ SealL M xs ys
end

section
variable {H : Hp} {β : Env} {own : Nat → Option Nat} {M : Mem} {w : World}

theorem p_all (hm : MemOK H β own M w) {k off : Nat} {ty : TypeId} {c : List SV} (hg : mget M k = some (.cells ty c)) (hcl : closedL c) {u : Value} (hu : Rel H β (.p k off) u) : Rel (unH H own w) (fun _ => none) (.rp c off) u := by
  obtain ⟨e, he, rfl⟩ := hu
  obtain ⟨e', vs, h1, h2, h3, h4⟩ := hm.ent _ _ (mget_mem hg)
  rw [he] at h1; cases h1
  refine ⟨e.blk, 0, vs, by simp, RelC.mono (unH_mono hm) (fun _ _ h => h) _ _ (closedC_rel (β' := fun _ => none) _ _ hcl h3), fun i x hx => ?_⟩
  rw [unH_own h2 h4]; simpa using hx

mutual
theorem Seal.rel (hm : MemOK H β own M w) : ∀ (s r : SV) (u : Value), Seal M s r → Rel H β s u → Rel (unH H own w) (fun _ => none) r u
  | .os k lo n, r, u, h, hr => by
    obtain ⟨h1, h2⟩ := h
    split at h2
    · rename_i ty z c hg
      obtain ⟨hc, hz, rfl⟩ := h2
      have hle : lo * z + n * z ≤ c.length := by simpa [contC, hg] using h1
      exact rs_all hm (esz := z) (n := n) (s := .os k lo n) (by simp [cont, hg]) (by simpa [contC, hg] using hle) (slc_length _ _ _ hle) hz hr (closedL_slc _ _ hc)
    · exact h2.elim
  | .sc k off n m, r, u, h, hr => by
    obtain ⟨h1, h2⟩ := h
    split at h2
    · rename_i ty c hg
      obtain ⟨hc, rfl⟩ := h2
      have hle : off + n * 1 ≤ c.length := by simpa [contC, hg] using h1
      exact rs_all hm (esz := 1) (n := n) (s := .sc k off n m) (by simp [cont, hg]) (by simpa [contC, hg] using hle) (slc_length _ _ _ hle) (by omega) hr (closedL_slc _ _ hc)
    · exact h2.elim
  | .p k off, r, u, h, hr => by
    simp only [Seal] at h
    split at h
    · rename_i ty c hg
      obtain ⟨hc, rfl⟩ := h
      exact p_all hm hg hc hr
    · exact h.elim
  | .tup xs, r, u, h, hr => by
    obtain ⟨ys, rfl, h⟩ := h
    obtain ⟨vs, rfl, hr⟩ := hr
    exact ⟨vs, rfl, SealL.relL hm xs ys vs h hr⟩
  | .g xs, r, u, h, hr => by
    rcases h with ⟨h, rfl⟩ | ⟨ys, rfl, h⟩
    · exact Rel.mono (unH_mono hm) (fun _ _ h => h) _ _ (closed_rel (β' := fun _ => none) (.g xs) _ h hr)
    · obtain ⟨vs, rfl, hr⟩ := hr
      exact ⟨vs, rfl, SealL.relC hm xs ys vs h hr⟩
  | .v x, r, u, h, hr => by
    obtain rfl : u = x := hr
    rcases h with rfl | ⟨rfl, rfl⟩
    · rfl
    · exact ⟨none, 0, rfl, Nat.le_refl _, .inl ⟨rfl, rfl⟩⟩
  | .pb k off, r, u, h, hr => by simp [Seal, closed] at h
  | .rp c off, r, u, h, hr => by
    obtain ⟨_, rfl⟩ := h
    exact Rel.mono (unH_mono hm) (fun _ _ h => h) _ _ (closed_rel (β' := fun _ => none) _ _ trivial hr)
  | .rs n c, r, u, h, hr => by
    obtain ⟨_, rfl⟩ := h
    exact Rel.mono (unH_mono hm) (fun _ _ h => h) _ _ (closed_rel (β' := fun _ => none) _ _ trivial hr)
  | .fn f xs ys, r, u, h, hr => by
    obtain ⟨hc, rfl⟩ := h
    exact Rel.mono (unH_mono hm) (fun _ _ h => h) _ _ (closed_rel (β' := fun _ => none) _ _ hc hr)
  | .ifc t x, r, u, h, hr => by
    obtain ⟨hc, rfl⟩ := h
    exact Rel.mono (unH_mono hm) (fun _ _ h => h) _ _ (closed_rel (β' := fun _ => none) _ _ hc hr)
  | .int _, r, u, h, hr => by obtain ⟨_, rfl⟩ := h; simpa [Rel] using hr
  | .w8 _, r, u, h, hr => by obtain ⟨_, rfl⟩ := h; simpa [Rel] using hr
  | .w16 _, r, u, h, hr => by obtain ⟨_, rfl⟩ := h; simpa [Rel] using hr
  | .w32 _, r, u, h, hr => by obtain ⟨_, rfl⟩ := h; simpa [Rel] using hr
  | .w64 _, r, u, h, hr => by obtain ⟨_, rfl⟩ := h; simpa [Rel] using hr
  | .bol _, r, u, h, hr => by obtain ⟨_, rfl⟩ := h; simpa [Rel] using hr
theorem SealL.relL (hm : MemOK H β own M w) : ∀ (c d : List SV) (us : List Value), SealL M c d → RelL H β c us → RelL (unH H own w) (fun _ => none) d us
  | [], _, us, h, hr => by obtain rfl := h; simpa [RelL] using hr
  | x :: xs, _, us, ⟨y, ys, e, h1, h2⟩, hr => by
    subst e
    obtain ⟨u, us', rfl, h3, h4⟩ := relL_cons.1 hr
    exact relL_cons.2 ⟨u, us', rfl, Seal.rel hm x y u h1 h3, SealL.relL hm xs ys us' h2 h4⟩
theorem SealL.relC (hm : MemOK H β own M w) : ∀ (c d : List SV) (us : List Value), SealL M c d → RelC H β c us → RelC (unH H own w) (fun _ => none) d us
  | [], _, us, h, hr => by obtain rfl := h; simpa [RelC] using hr
  | x :: xs, _, us, ⟨y, ys, e, h1, h2⟩, hr => by
    subst e
    obtain ⟨u, us', rfl, h3, ha, h4⟩ := relC_cons.1 hr
    exact relC_cons.2 ⟨u, us', rfl, Seal.rel hm x y u h1 h3, ha, SealL.relC hm xs ys us' h2 h4⟩
end

mutual
/-- What is handed back, reckoned. -/
def sealC : Nat → Mem → SV → Option SV
  | n + 1, M, .p k off => match mget M k with
    | some (.cells _ c) => match sealCL n M c with
      | some d => some (.rp d off)
      | none => none
    | _ => none
  | n + 1, M, .fn f xs ys => match sealCL n M xs, sealCL n M ys with
    | some a, some b => some (.fn f a b)
    | _, _ => none
  | n + 1, M, .g xs => match sealCL n M xs with
    | some a => some (.g a)
    | none => none
  | n + 1, M, .tup xs => match sealCL n M xs with
    | some a => some (.tup a)
    | none => none
  | n + 1, M, .ifc t x => match sealC n M x with
    | some a => some (.ifc t a)
    | none => none
  | _ + 1, _, .v x => some (.v x)
  | _ + 1, _, .int x => some (.int x)
  | _ + 1, _, .w8 x => some (.w8 x)
  | _ + 1, _, .w16 x => some (.w16 x)
  | _ + 1, _, .w32 x => some (.w32 x)
  | _ + 1, _, .w64 x => some (.w64 x)
  | _ + 1, _, .bol x => some (.bol x)
  | _, _, _ => none
def sealCL : Nat → Mem → List SV → Option (List SV)
  | _ + 1, _, [] => some []
  | n + 1, M, x :: xs => match sealC n M x, sealCL n M xs with
    | some a, some b => some (a :: b)
    | _, _ => none
  | 0, _, _ => none
end
mutual
theorem sealC_rel (hm : MemOK H β own M w) : ∀ (n : Nat) (s r : SV) (u : Value), sealC n M s = some r → Rel H β s u → Rel (unH H own w) (fun _ => none) r u
  | n + 1, .p k off, r, u, h, hr => by
    simp only [sealC] at h
    split at h <;> try cases h
    rename_i ty c hg
    split at h <;> cases h
    rename_i d hd
    obtain ⟨e, he, rfl⟩ := hr
    obtain ⟨e', vs, h1, h2, h3, h4⟩ := hm.ent _ _ (mget_mem hg)
    rw [he] at h1; cases h1
    refine ⟨e.blk, 0, vs, by simp, sealCL_relC hm n c d vs hd h3, fun i x hx => ?_⟩
    rw [unH_own h2 h4]; simpa using hx
  | n + 1, .fn f xs ys, r, u, h, hr => by
    simp only [sealC] at h
    split at h <;> cases h
    rename_i a b ha hb
    obtain ⟨vs, us, rfl, h1, h2⟩ := hr
    exact ⟨vs, us, rfl, sealCL_relL hm n xs a vs ha h1, sealCL_relL hm n ys b us hb h2⟩
  | n + 1, .g xs, r, u, h, hr => by
    simp only [sealC] at h
    split at h <;> cases h
    rename_i a ha
    obtain ⟨vs, rfl, h1⟩ := hr
    exact ⟨vs, rfl, sealCL_relC hm n xs a vs ha h1⟩
  | n + 1, .tup xs, r, u, h, hr => by
    simp only [sealC] at h
    split at h <;> cases h
    rename_i a ha
    obtain ⟨vs, rfl, h1⟩ := hr
    exact ⟨vs, rfl, sealCL_relL hm n xs a vs ha h1⟩
  | n + 1, .ifc t x, r, u, h, hr => by
    simp only [sealC] at h
    split at h <;> cases h
    rename_i a ha
    obtain ⟨v, rfl, h1⟩ := hr
    exact ⟨v, rfl, sealC_rel hm n x a v ha h1⟩
  | n + 1, .v x, r, u, h, hr => by cases h; simpa [Rel] using hr
  | n + 1, .int x, r, u, h, hr => by cases h; simpa [Rel] using hr
  | n + 1, .w8 x, r, u, h, hr => by cases h; simpa [Rel] using hr
  | n + 1, .w16 x, r, u, h, hr => by cases h; simpa [Rel] using hr
  | n + 1, .w32 x, r, u, h, hr => by cases h; simpa [Rel] using hr
  | n + 1, .w64 x, r, u, h, hr => by cases h; simpa [Rel] using hr
  | n + 1, .bol x, r, u, h, hr => by cases h; simpa [Rel] using hr
  | n + 1, .pb _ _, r, u, h, hr => by cases h
  | n + 1, .sc _ _ _ _, r, u, h, hr => by cases h
  | n + 1, .os _ _ _, r, u, h, hr => by cases h
  | n + 1, .rs _ _, r, u, h, hr => by cases h
  | n + 1, .rp _ _, r, u, h, hr => by cases h
  | 0, s, r, u, h, hr => by cases s <;> cases h
theorem sealCL_relL (hm : MemOK H β own M w) : ∀ (n : Nat) (c d : List SV) (us : List Value), sealCL n M c = some d → RelL H β c us → RelL (unH H own w) (fun _ => none) d us
  | 0, c, d, us, h, hr => by cases c <;> cases h
  | n + 1, [], d, us, h, hr => by cases h; simpa [RelL] using hr
  | n + 1, x :: xs, d, us, h, hr => by
    simp only [sealCL] at h
    split at h <;> cases h
    rename_i a b ha hb
    obtain ⟨u, us', rfl, h3, h4⟩ := relL_cons.1 hr
    exact relL_cons.2 ⟨u, us', rfl, sealC_rel hm n x a u ha h3, sealCL_relL hm n xs b us' hb h4⟩
theorem sealCL_relC (hm : MemOK H β own M w) : ∀ (n : Nat) (c d : List SV) (us : List Value), sealCL n M c = some d → RelC H β c us → RelC (unH H own w) (fun _ => none) d us
  | 0, c, d, us, h, hr => by cases c <;> cases h
  | n + 1, [], d, us, h, hr => by cases h; simpa [RelC] using hr
  | n + 1, x :: xs, d, us, h, hr => by
    simp only [sealCL] at h
    split at h <;> cases h
    rename_i a b ha hb
    obtain ⟨u, us', rfl, h3, h4, h5⟩ := relC_cons.1 hr
    exact relC_cons.2 ⟨u, us', rfl, sealC_rel hm n x a u ha h3, h4, sealCL_relC hm n xs b us' hb h5⟩
end

/-- A contract whose own memory ends with the call: what it hands back is sealed. -/
theorem Pure.of_tri' {P : Program} {f : FuncId} {args : List SV} {r : SV} (S : Mem → SV → SV → Prop) (hS : ∀ H β own w M s r u, MemOK H β own M w → S M s r → Rel H β s u → Rel (unH H own w) (fun _ => none) r u)
    (h : Tri P f args [] 0 fun x M' => ∃ s, x = .ret s ∧ S M' s r) : Pure P f args r := by
  intro H β own w vals hm hk hv
  have hown : ∀ b, own b = none := fun b => by
    cases hx : own b with
    | none => rfl
    | some k =>
      obtain ⟨_, e, he⟩ := hm.lt b k hx
      rcases hk k with ⟨e', h'⟩ | h'
      · cases h'
      · rw [h'] at he; cases he
  refine (h H β own w vals hm hk hv).mono ?_
  rintro e w' ⟨H', β', own', res, M', hm', hl, _, ⟨s, rfl, hs⟩, u, rfl, hr⟩
  have hrr := hS _ _ _ _ _ s r u hm' hs hr
  have hsub : ∀ b ob, unH H' own' w' b = some ob → H b = some ob ∨ w.heap.size ≤ b := fun b ob hb => by
    unfold unH at hb
    split at hb
    · rename_i ho
      rcases hl.fresh b (fun e => by simp [e] at ho) with h1 | h1
      · exact absurd (hown b) h1
      · exact .inr h1
    · rcases hl.new b ob hb with h1 | h1 | h1
      · exact .inl h1
      · exact absurd (hown b) h1
      · exact .inr h1
  refine ⟨unH H' own' w', fun _ => none, fun _ => none, .ret r, [], memOK_ro (unH_heap hm'), ⟨hl.os, hl.tape, hl.output, hl.size, fun b ob hb => ?_, fun b ob hb => ?_, fun b hb => absurd rfl hb, hl.same⟩, fun k e hk => absurd hk (Nat.not_lt_zero k), ⟨rfl, rfl⟩, u, rfl, hrr⟩
  · exact unH_mono hm' b ob (hl.mono b ob hb)
  · rcases hsub b ob hb with h1 | h1
    · exact .inl h1
    · exact .inr (.inr h1)
end
theorem Pure.of_tri {P : Program} {f : FuncId} {args : List SV} {r : SV} (h : Tri P f args [] 0 fun x M' => ∃ s, x = .ret s ∧ Seal M' s r) : Pure P f args r :=
  Pure.of_tri' Seal (fun _ _ _ _ _ s r u hm hs hr => Seal.rel hm s r u hs hr) h
theorem Pure.of_seal {P : Program} {f : FuncId} {args : List SV} {r : SV} (n : Nat) (h : Tri P f args [] 0 fun x M' => ∃ s, x = .ret s ∧ sealC n M' s = some r) : Pure P f args r :=
  Pure.of_tri' (fun M s r => sealC n M s = some r) (fun _ _ _ _ _ s r u hm hs hr => sealC_rel hm n s r u hs hr) h
end Go.Sx
