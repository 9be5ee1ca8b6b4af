/-
  SxJ: the runner is right.
-/
import Derived.Test.YtbpggglkmdgpoaaGreatSxI
set_option linter.all false
set_option linter.unusedSimpArgs false
set_option linter.unusedVariables false
namespace Go.Sx
open Go

section
variable {E : Cx} {o : Oper} {a : Act} {w : World} {H : Hp} {β : Env} {own : Nat → Option Nat} {L : Slots} {M : Mem} {nk : Nat}

theorem conts_exit {Q : Exit → Act → World → Prop} : ∀ (k k' : List It) (id : Nat) (a : Act) (w : World), dropTo id k = some k' → conts E Q k' .normal a w → conts E Q k (.exit id) a w
  | [], k', id, a, w, h, _ => by cases h
  | .inBlock j :: k, k', id, a, w, h, hc => by
    simp only [dropTo] at h
    simp only [conts]
    split at h
    · rename_i hid
      cases h
      rw [if_pos hid]; exact hc
    · rename_i hid
      rw [if_neg hid]; exact conts_exit k k' id a w h hc
  | .code c :: k, k', id, a, w, h, hc => by simp only [dropTo] at h; simp only [conts]; exact conts_exit k k' id a w h hc
  | .ops all l :: k, k', id, a, w, h, hc => by simp only [dropTo] at h; simp only [conts]; exact conts_exit k k' id a w h hc
  | .stop X :: k, k', id, a, w, h, hc => by simp only [dropTo] at h; simp only [conts]; exact conts_exit k k' id a w h hc
  | .dtr all t :: k, k', id, a, w, h, hc => by simp only [dropTo] at h; simp only [conts]; exact conts_exit k k' id a w h hc
  | .dop all c o t :: k, k', id, a, w, h, hc => by simp only [dropTo] at h; simp only [conts]; exact conts_exit k k' id a w h hc
  | .dbr all l :: k, k', id, a, w, h, hc => by simp only [dropTo] at h; simp only [conts]; exact conts_exit k k' id a w h hc
  | .rnd c0 j0 :: k, k', id, a, w, h, hc => by simp only [dropTo] at h; simp only [conts]; exact conts_exit k k' id a w h hc

theorem dropTo_all {p : It → Bool} : ∀ (k k' : List It) (id : Nat), dropTo id k = some k' → k.all p = true → k'.all p = true
  | [], k', id, h, _ => by cases h
  | .inBlock j :: k, k', id, h, hc => by
    simp only [dropTo] at h
    simp only [List.all_cons, Bool.and_eq_true] at hc
    split at h
    · cases h; exact hc.2
    · exact dropTo_all k k' id h hc.2
  | .code c :: k, k', id, h, hc => by simp only [dropTo] at h; simp only [List.all_cons, Bool.and_eq_true] at hc; exact dropTo_all k k' id h hc.2
  | .ops all l :: k, k', id, h, hc => by simp only [dropTo] at h; simp only [List.all_cons, Bool.and_eq_true] at hc; exact dropTo_all k k' id h hc.2
  | .stop X :: k, k', id, h, hc => by simp only [dropTo] at h; simp only [List.all_cons, Bool.and_eq_true] at hc; exact dropTo_all k k' id h hc.2
  | .dtr all t :: k, k', id, h, hc => by simp only [dropTo] at h; simp only [List.all_cons, Bool.and_eq_true] at hc; exact dropTo_all k k' id h hc.2
  | .dop all c o t :: k, k', id, h, hc => by simp only [dropTo] at h; simp only [List.all_cons, Bool.and_eq_true] at hc; exact dropTo_all k k' id h hc.2
  | .dbr all l :: k, k', id, h, hc => by simp only [dropTo] at h; simp only [List.all_cons, Bool.and_eq_true] at hc; exact dropTo_all k k' id h hc.2
  | .rnd c0 j0 :: k, k', id, h, hc => by simp only [dropTo] at h; simp only [List.all_cons, Bool.and_eq_true] at hc; exact dropTo_all k k' id h hc.2

theorem conts_ret {Q : Exit → Act → World → Prop} : ∀ (k : List It) (a : Act) (w : World), Q .ret a w → conts E Q k .ret a w
  | [], a, w, h => h
  | .inBlock j :: k, a, w, h => by simp only [conts]; exact conts_ret k a w h
  | .code c :: k, a, w, h => by simp only [conts]; exact conts_ret k a w h
  | .ops all l :: k, a, w, h => by simp only [conts]; exact conts_ret k a w h
  | .stop X :: k, a, w, h => by simp only [conts]; exact conts_ret k a w h
  | .dtr all t :: k, a, w, h => by simp only [conts]; exact conts_ret k a w h
  | .dop all c o t :: k, a, w, h => by simp only [conts]; exact conts_ret k a w h
  | .dbr all l :: k, a, w, h => by simp only [conts]; exact conts_ret k a w h
  | .rnd c0 j0 :: k, a, w, h => by simp only [conts]; exact conts_ret k a w h

theorem conts_panic {Q : Exit → Act → World → Prop} {ch : List PanicEntry} : ∀ (k : List It) (a : Act) (w : World), Q (.panic ch) a w → conts E Q k (.panic ch) a w
  | [], a, w, h => h
  | .inBlock j :: k, a, w, h => by simp only [conts]; exact conts_panic k a w h
  | .code c :: k, a, w, h => by simp only [conts]; exact conts_panic k a w h
  | .ops all l :: k, a, w, h => by simp only [conts]; exact conts_panic k a w h
  | .stop X :: k, a, w, h => by simp only [conts]; exact conts_panic k a w h
  | .dtr all t :: k, a, w, h => by simp only [conts]; exact conts_panic k a w h
  | .dop all c o t :: k, a, w, h => by simp only [conts]; exact conts_panic k a w h
  | .dbr all l :: k, a, w, h => by simp only [conts]; exact conts_panic k a w h
  | .rnd c0 j0 :: k, a, w, h => by simp only [conts]; exact conts_panic k a w h

theorem conts_panic_inv {Q : Exit → Act → World → Prop} {ch : List PanicEntry} : ∀ (k : List It) (a : Act) (w : World), conts E Q k (.panic ch) a w → Q (.panic ch) a w
  | [], a, w, h => h
  | .inBlock j :: k, a, w, h => by simp only [conts] at h; exact conts_panic_inv k a w h
  | .code c :: k, a, w, h => by simp only [conts] at h; exact conts_panic_inv k a w h
  | .ops all l :: k, a, w, h => by simp only [conts] at h; exact conts_panic_inv k a w h
  | .stop X :: k, a, w, h => by simp only [conts] at h; exact conts_panic_inv k a w h
  | .dtr all t :: k, a, w, h => by simp only [conts] at h; exact conts_panic_inv k a w h
  | .dop all c o t :: k, a, w, h => by simp only [conts] at h; exact conts_panic_inv k a w h
  | .dbr all l :: k, a, w, h => by simp only [conts] at h; exact conts_panic_inv k a w h
  | .rnd c0 j0 :: k, a, w, h => by simp only [conts] at h; exact conts_panic_inv k a w h

theorem conts_panic_put (hdf : E.dfl = false) (k : List It) (c : List PanicEntry) (a : Act) (w : World) (d : Option Tmp) (v : Value) (h : conts E (finQ E) k (.panic c) (a.put d v) w) : conts E (finQ E) k (.panic c) a w := by
  refine conts_panic k a w ?_
  have h := conts_panic_inv k _ w h
  have hd : (a.put d v).defers = a.defers := by cases d <;> rfl
  unfold finQ at *
  rw [hdf] at *
  unfold bodyPost at *
  simp only [hd] at h
  exact h

theorem conts_ds (d : FuncId × List SV) {Q : Exit → Act → World → Prop} : ∀ (k : List It) (e : Exit) (a : Act) (w : World), k.all It.noStop = true → (conts { E with ds := d :: E.ds } Q k e a w ↔ conts E Q k e a w)
  | [], e, a, w, _ => Iff.rfl
  | it :: k, e, a, w, hk => by
    simp only [List.all_cons, Bool.and_eq_true] at hk
    have ih := fun e a w => conts_ds d (Q := Q) k e a w hk.2
    have ihf : conts { E with ds := d :: E.ds } Q k = conts E Q k := by funext e a w; exact propext (ih e a w)
    cases it with
    | stop X => simp [It.noStop] at hk
    | _ => cases e <;> simp only [conts, ihf]

theorem St.drew (h : St E H β own w a L M nk) (n : Nat) : St E H β own { w with drawn := n } a L M nk :=
  ⟨⟨h.mem.ro, h.mem.lt, h.mem.ent⟩, ⟨h.later.os, h.later.tape, h.later.output, h.later.size, h.later.mono, h.later.new, h.later.fresh, h.later.same⟩, h.kept, h.slots, h.keys, h.size, h.defs⟩

theorem opsB_nth {nt : Nat} {all : Array Oper} (h : opsB nt all.toList = true) {i : Nat} {o : Oper} (ho : nth all.toList i = some o) : dstB nt o = true := by
  rw [nth_eq] at ho
  unfold opsB at h
  rw [List.all_eq_true] at h
  exact h o (List.mem_of_getElem? ho)
theorem nth_arr {all : Array Oper} {i : Nat} {o : Oper} (ho : nth all.toList i = some o) : all[i]? = some o := by rw [nth_eq] at ho; simpa using ho
theorem dstB_spec {nt : Nat} {o : Oper} (h : dstB nt o = true) : ∀ t, o.dst = some t → t < nt := fun t ht => by unfold dstB at h; rw [ht] at h; simpa using h

theorem St.know (h : St E H β own w a L M nk) {t : Tmp} {b : Bool} (ht : look L t = some (.bol b)) : St E H β own w a ((t, .bol b) :: L) M nk := by
  refine ⟨h.mem, h.later, h.kept, fun t' s hs => ?_, h.keys, h.size, h.defs⟩
  simp only [look] at hs
  split at hs
  · rename_i e; subst e; cases hs; exact h.slots _ _ ht
  · exact h.slots _ _ hs
theorem St.knowL (h : St E H β own w a L M nk) {t : Operand} {b : Bool} (ht : Sx.ev L t = some (.bol b)) : St E H β own w a (Sx.knowL t b L) M nk := by
  cases t with
  | tmp t => exact h.know ht
  | _ => exact h
theorem St.knowT (h : St E H β own w a L M nk) {g : Option Tmp} {b : Bool} (ht : lookO L g = some (.bol b)) : St E H β own w a (Sx.knowT g b L) M nk := by
  cases g with
  | some t => exact h.know ht
  | none => exact h

theorem yielded_look (h : St E H β own w a L M nk) {all : Array Oper} {j : Nat} {s : SV} (hs : lookO L (guardT all j) = some s) :
    (∀ b, s = .bol b → yielded all a.tmps j = some b) ∧ (∀ vs, s = .v (.tuple vs) → yielded all a.tmps j = none) := by
  cases hg : guardT all j with
  | none => rw [hg] at hs; simp [lookO] at hs
  | some t =>
    rw [hg] at hs
    simp only [lookO] at hs
    obtain ⟨u, hu, hr⟩ := h.slots t s hs
    have hgt : (all[j]?).bind (·.dst) = some t := hg
    constructor
    · rintro b rfl
      obtain rfl : u = _ := hr
      simp [yielded, hgt, hu]
    · rintro vs rfl
      obtain rfl : u = _ := hr
      simp [yielded, hgt, hu]

theorem wp_noGuard {P : Program} {o : Oper} {a : Act} {w : World} {next : Act → World → Prop} {Q : Exit → Act → World → Prop} (h : (noGuard o).wp P a w next Q) : o.wp P a w next Q := h

theorem wpL_cons_none {P : Program} {all : Array Oper} {Q : Exit → Act → World → Prop} {o : Oper} {l : List Oper} {a : Act} {w : World} (hg : o.guard = none) (h : o.wp P a w (wpL P all Q l) Q) : wpL P all Q (o :: l) a w := by
  unfold wpL
  rw [if_pos (by simp [Region.wanted, hg])]
  exact h

theorem defer_run (h : St E H β own w a L M nk) {d : FuncId × List SV} (hd : deferOf L o.op = some d) :
    ∃ us vs, (∀ w', (execOp a.eval o).run E.P w' = .ok (.defer { target := .fn (.func d.1) us, args := vs }) w') ∧ RelL H β d.2 (vs ++ us).toList := by
  unfold deferOf at hd
  split at hd <;> try cases hd
  rename_i c ho
  split at hd <;> try cases hd
  rename_i fv hfv
  split at hd <;> try cases hd
  rename_i g xs ys hf
  split at hd <;> cases hd
  rename_i as has
  obtain ⟨p, q, hfe, h1, h2⟩ := h.ev hf
  refine ⟨q.toArray, (p ++ c.args.toList.map a.eval).toArray, fun w' => ?_, by simpa using (h1.append (evs_rel h _ _ has)).append h2⟩
  simp only [execOp, ho, resolve, hfv, hfe, Deferred.ofValue]
  rw [Sem.run_bind, Sem.run_pure, Result.andThen_ok, Sem.run_pure]
  congr 4
  apply Array.ext'; simp

/-- **THE RUNNER IS RIGHT.** -/
theorem run_sound : ∀ (n : Nat) (E : Cx) (hE : ROK E.toRx) (its : List It) (L : Slots) (M : Mem) (nk : Nat), run E.toRx n its L M nk → Sat E its L M nk
  | 0, E, hE, its, L, M, nk, h => SatR.sat h E rfl hE
  | n + 1, E, hE, [], L, M, nk, h => by
    simp only [run] at h
    intro _ H β own w a hst
    simp only [conts]
    exact (finE_ret hst hE h).2
  | n + 1, E, hE, it :: k, L, M, nk, h => by
    intro hB H β own w a hst
    have hB' := hB
    simp only [List.all_cons, Bool.and_eq_true] at hB'
    obtain ⟨hb, hbk⟩ := hB'
    cases it with
    | stop X =>
      simp only [run] at h
      exact ⟨H, β, own, L, M, nk, hst, h⟩
    | inBlock j =>
      simp only [run] at h
      simp only [conts]
      exact run_sound n E hE k L M nk h hbk H β own w a hst
    | rnd b j =>
      cases j with
      | zero => simp only [run] at h
      | succ j =>
        simp only [run] at h
        have := run_sound n E hE _ L M nk h (by simp only [List.all_cons, Bool.and_eq_true]; exact ⟨hb, hb, hbk⟩) H β own w a hst
        simp only [conts] at this ⊢
        rw [rounds_succ]
        refine wp_mono this ?_
        intro e a' w' he
        cases e <;> simp only [Exit.then] <;> simpa [conts] using he
    | ops all l =>
      cases l with
      | nil =>
        simp only [run] at h
        simp only [conts, wpL]
        exact run_sound n E hE k L M nk h hbk H β own w a hst
      | cons o l =>
        simp only [run] at h
        have hbo := hb
        simp only [itB, opsB, List.all_cons, Bool.and_eq_true] at hbo
        have hd : ∀ t, o.dst = some t → t < E.fn.ntmps := dstB_spec hbo.1
        have hrest : (It.ops all l :: k).all (itB E.hard E.fn.ntmps E.plan) = true := by
          simp only [List.all_cons, Bool.and_eq_true]; exact ⟨hbo.2, hbk⟩
        cases hg : o.guard with
        | none =>
          simp only [hg] at h
          simp only [conts]
          by_cases hS : SatR E.toRx (.ops all (o :: l) :: k) L M nk
          · exact hS.sat E rfl hE hB H β own w a hst
          · split at h
            · rename_i d hdf
              split at h
              · rename_i hfl
                rw [Bool.and_eq_true] at hfl
                rw [putK_eq] at h
                have := run_sound n { E with ds := d :: E.ds } ⟨(fun e => by rw [hfl.1] at e; cases e), hE.l, hE.ty, hE.ty0, hE.g, hE.d, hE.mixed⟩ _ _ M nk h hrest
                obtain ⟨us, vs, hd1, hd2⟩ := defer_run hst hdf
                refine wpL_cons_none hg ?_
                unfold Oper.wp
                rw [hd1 w, Oper.upon_defer]
                have hst2 := hst.later2 (defs' := { target := .fn (.func d.1) us, args := vs } :: a.defers) (ds' := d :: E.ds) hst.mem (Later.refl _ _ _) (fun _ _ h => h) hst.keys ⟨us, vs, _, rfl, hd2, hst.defs⟩
                have hst3 := hst2.put hd hst.mem (Later.refl _ _ _) (fun _ _ h => h) hst.keys (d := o.dst) (u := undef) (s := .v undef) rfl
                have h3 := this H β own w _ hst3
                have h4 := (conts_ds (E := E) d _ _ _ _ (by simp only [List.all_cons, It.noStop, Bool.true_and]; exact hfl.2)).1 h3
                exact h4
              · exact absurd h hS
            refine wpL_cons_none hg ?_
            exact opK_sound hst hE hd (fun ch w' hq => conts_panic k a w' hq) (fun L' M' nk' H' β' own' w' a' hk hst' => run_sound n E hE _ L' M' nk' hk hrest H' β' own' w' a' hst') (fun hs => absurd hs hS) h
        | some jw =>
          obtain ⟨j, want⟩ := jw
          simp only [hg] at h
          simp only [conts]
          have hA : (It.ops all (noGuard o :: l) :: k).all (itB E.hard E.fn.ntmps E.plan) = true := by simpa [itB, opsB, dstB, noGuard] using hB
          have hBs : (It.ops all (skipO o :: l) :: k).all (itB E.hard E.fn.ntmps E.plan) = true := by simpa [itB, opsB, dstB, skipO] using hB
          have runA : ∀ L, St E H β own w a L M nk → run E.toRx n (.ops all (noGuard o :: l) :: k) L M nk → yielded all a.tmps j = some want → wpL E.P all (conts E (finQ E) k) (o :: l) a w := by
            intro L hst hr hy
            have := run_sound n E hE _ L M nk hr hA H β own w a hst
            simp only [conts] at this
            unfold wpL at this ⊢
            rw [if_pos (by simp [Region.wanted, hg, hy])]
            rw [if_pos (by simp [Region.wanted, noGuard])] at this
            exact this
          have runB : ∀ L, St E H β own w a L M nk → run E.toRx n (.ops all (skipO o :: l) :: k) L M nk → yielded all a.tmps j ≠ some want → wpL E.P all (conts E (finQ E) k) (o :: l) a w := by
            intro L hst hr hy
            have := run_sound n E hE _ L M nk hr hBs H β own w a hst
            simp only [conts] at this
            unfold wpL at this ⊢
            rw [if_neg (by simp [Region.wanted, hg, hy])]
            rw [if_pos (by simp [Region.wanted, skipO])] at this
            have hw : (execOp a.eval (skipO o)).run E.P w = .ok (.value undef) w := by simp [execOp, skipO, Act.eval]
            unfold Oper.wp at this
            rw [hw] at this
            exact this
          by_cases hS : SatR E.toRx (.ops all (o :: l) :: k) L M nk
          · exact hS.sat E rfl hE hB H β own w a hst
          · unfold goG at h
            split at h
            · rename_i b hlk
              have hy := (yielded_look hst hlk).1 b rfl
              cases want with
              | true =>
                dsimp only at h
                cases hbb : b with
                | true => exact runA _ (hst.knowT (by rw [hlk, hbb])) (by simpa only [knowTK_eq] using (brP_elim h).1 hbb) (by rw [hy, hbb])
                | false => exact runB _ (hst.knowT (by rw [hlk, hbb])) (by simpa only [knowTK_eq] using (brP_elim h).2 hbb) (by rw [hy, hbb]; simp)
              | false =>
                dsimp only at h
                cases hbb : b with
                | true => exact runB _ (hst.knowT (by rw [hlk, hbb])) (by simpa only [knowTK_eq] using (brP_elim h).1 hbb) (by rw [hy, hbb]; simp)
                | false => exact runA _ (hst.knowT (by rw [hlk, hbb])) (by simpa only [knowTK_eq] using (brP_elim h).2 hbb) (by rw [hy, hbb])
            · rename_i vs hlk
              have hy := (yielded_look hst hlk).2 _ rfl
              exact runB _ hst h (by rw [hy]; simp)
            · exact absurd h hS
    | dtr all t =>
      simp only [itB, Bool.and_eq_true] at hb
      cases t with
      | done =>
        simp only [run] at h
        simp only [conts, wpT]
        exact run_sound n E hE k L M nk h hbk H β own w a hst
      | take r i t =>
        simp only [run] at h
        simp only [kindT, Bool.and_eq_true] at hb
        cases ho : nth all.toList i with
        | none => rw [ho] at h; exact h.elim
        | some o =>
          rw [ho] at h
          have ho' := nth_arr ho
          have hb' : (It.dop all (some r) o t :: k).all (itB E.hard E.fn.ntmps E.plan) = true := by
            simp only [List.all_cons, itB, Bool.and_eq_true]
            exact ⟨⟨⟨⟨opsB_nth hb.1 ho, by simpa [ho'] using hb.2.1⟩, hb.1⟩, hb.2.2⟩, hbk⟩
          have := run_sound n E hE _ L M nk h hb' H β own w a hst
          simp only [conts, wpD] at this
          simp only [conts, wpT, ho']
          exact this
      | br l =>
        simp only [run] at h
        simp only [conts, wpT]
        have := run_sound n E hE _ L M nk h (by simp only [List.all_cons, itB, Bool.and_eq_true]; exact ⟨⟨hb.1, by simpa [kindT] using hb.2⟩, hbk⟩) H β own w a hst
        exact this
    | dbr all l =>
      simp only [itB, Bool.and_eq_true] at hb
      cases l with
      | nil => simp only [conts, wpB]
      | cons i t l =>
        simp only [kindB, Bool.and_eq_true] at hb
        have h : goO (fun o => run E.toRx n (.dop all none o t :: k) L M nk) (nth all.toList i) ∧ wpB E.hard E.P all (conts E (finQ E) k) l a w := by
          cases l with
          | nil => simp only [run] at h; exact ⟨h, by simp only [wpB]⟩
          | cons i2 t2 l2 =>
            simp only [run] at h
            exact ⟨h.1, run_sound n E hE _ L M nk h.2 (by simp only [List.all_cons, itB, Bool.and_eq_true]; exact ⟨⟨hb.1, hb.2.2⟩, hbk⟩) H β own w a hst⟩
        simp only [conts, wpB]
        refine ⟨?_, h.2⟩
        have h1 := h.1
        cases ho : nth all.toList i with
        | none => rw [ho] at h1; exact h1.elim
        | some o =>
          rw [ho] at h1
          have ho' := nth_arr ho
          have := run_sound n E hE _ L M nk h1 (by simp only [List.all_cons, itB, Bool.and_eq_true]; exact ⟨⟨⟨⟨opsB_nth hb.1 ho, trivial⟩, hb.1⟩, hb.2.1⟩, hbk⟩) H β own w a hst
          simp only [conts, wpD] at this
          simp only [ho']
          exact this
    | dop all c o t =>
      have hb0 := hb
      simp only [itB, Bool.and_eq_true] at hb
      have hd := dstB_spec hb.1.1.1
      simp only [run] at h
      have hrest : (It.dtr all t :: k).all (itB E.hard E.fn.ntmps E.plan) = true := by
        simp only [List.all_cons, itB, Bool.and_eq_true]; exact ⟨⟨hb.1.2, hb.2⟩, hbk⟩
      have hnext : ∀ L' M' nk' H' β' own' w' a', run E.toRx n (.dtr all t :: k) L' M' nk' → St E H' β' own' w' a' L' M' nk' → wpT E.hard E.P all (conts E (finQ E) k) t a' w' :=
        fun L' M' nk' H' β' own' w' a' hk hst' => run_sound n E hE _ L' M' nk' hk hrest H' β' own' w' a' hst'
      cases hg : o.guard with
      | none =>
        simp only [hg] at h
        have hwant : Region.wanted o (yielded all a.tmps) = true := by simp [Region.wanted, hg]
        cases c with
        | some r =>
          simp only [conts, wpD]
          obtain ⟨u, h1, h2⟩ := go1C_sound (w := w) hst hd hb.1.1.2 (next := wpT E.hard E.P all (conts E (finQ E) k) t) hnext _ (step_good hst hE) h
          exact ⟨u, .inl ⟨hwant, h1⟩, h2⟩
        | none =>
          simp only [conts, wpD, wpAct]
          rw [if_pos hwant]
          exact opA_sound hst hE hd (fun ch w' hq => conts_panic k a w' hq) hnext h
      | some jw =>
        obtain ⟨j, want⟩ := jw
        simp only [hg] at h
        have hA : (It.dop all c (noGuard o) t :: k).all (itB E.hard E.fn.ntmps E.plan) = true := by
          simp only [List.all_cons, Bool.and_eq_true]; exact ⟨hb0, hbk⟩
        have hBs : (It.dop all c (skipO o) t :: k).all (itB E.hard E.fn.ntmps E.plan) = true := by
          simp only [List.all_cons, itB, Bool.and_eq_true]
          refine ⟨⟨⟨⟨hb.1.1.1, ?_⟩, hb.1.2⟩, hb.2⟩, hbk⟩
          cases c with
          | none => rfl
          | some r => cases r <;> simp [kindO, skipO, regB, calmB, extOp]
        have runA : ∀ L, St E H β own w a L M nk → run E.toRx n (.dop all c (noGuard o) t :: k) L M nk → yielded all a.tmps j = some want → wpD E.hard E.P all (conts E (finQ E) k) c o t a w := by
          intro L hst hr hy
          have := run_sound n E hE _ L M nk hr hA H β own w a hst
          simp only [conts] at this
          have hw : Region.wanted o (yielded all a.tmps) = true := by simp [Region.wanted, hg, hy]
          have hw' : Region.wanted (noGuard o) (yielded all a.tmps) = true := by simp [Region.wanted, noGuard]
          cases c with
          | some r =>
            obtain ⟨v, h1 | h1, h2⟩ := this
            · exact ⟨v, .inl ⟨hw, h1.2⟩, h2⟩
            · rw [hw'] at h1; cases h1.1
          | none =>
            simp only [wpD, wpAct] at this ⊢
            rw [if_pos hw'] at this
            rw [if_pos hw]
            exact this
        have runB : ∀ L, St E H β own w a L M nk → run E.toRx n (.dop all c (skipO o) t :: k) L M nk → yielded all a.tmps j ≠ some want → wpD E.hard E.P all (conts E (finQ E) k) c o t a w := by
          intro L hst hr hy
          have := run_sound n E hE _ L M nk hr hBs H β own w a hst
          simp only [conts] at this
          have hw : Region.wanted o (yielded all a.tmps) = false := by simp [Region.wanted, hg, hy]
          have hw' : Region.wanted (skipO o) (yielded all a.tmps) = true := by simp [Region.wanted, skipO]
          have hv : (execOp a.eval (skipO o)).run E.P w = .ok (.value undef) w := by simp [execOp, skipO, Act.eval]
          cases c with
          | some r =>
            obtain ⟨v, h1 | h1, h2⟩ := this
            · have := h1.2 w (.inr (Ext.refl w))
              rw [hv] at this; cases this
              exact ⟨undef, .inr ⟨hw, rfl⟩, h2⟩
            · rw [hw'] at h1; cases h1.1
          | none =>
            simp only [wpD, wpAct] at this ⊢
            rw [if_pos hw'] at this
            rw [if_neg (by simp [hw])]
            unfold Oper.wp at this
            rw [hv] at this
            exact this.2
        simp only [conts]
        unfold goG at h
        split at h
        · rename_i b hlk
          have hy := (yielded_look hst hlk).1 b rfl
          cases want with
          | true =>
            dsimp only at h
            cases hbb : b with
            | true => exact runA _ (hst.knowT (by rw [hlk, hbb])) (by simpa only [knowTK_eq] using (brP_elim h).1 hbb) (by rw [hy, hbb])
            | false => exact runB _ (hst.knowT (by rw [hlk, hbb])) (by simpa only [knowTK_eq] using (brP_elim h).2 hbb) (by rw [hy, hbb]; simp)
          | false =>
            dsimp only at h
            cases hbb : b with
            | true => exact runB _ (hst.knowT (by rw [hlk, hbb])) (by simpa only [knowTK_eq] using (brP_elim h).1 hbb) (by rw [hy, hbb]; simp)
            | false => exact runA _ (hst.knowT (by rw [hlk, hbb])) (by simpa only [knowTK_eq] using (brP_elim h).2 hbb) (by rw [hy, hbb])
        · rename_i vs hlk
          have hy := (yielded_look hst hlk).2 _ rfl
          exact runB _ hst h (by rw [hy]; simp)
        · exact h.elim
    | code c =>
      by_cases hS : SatR E.toRx (.code c :: k) L M nk
      · exact hS.sat E rfl hE hB H β own w a hst
      · have sub : ∀ its, run E.toRx n its L M nk → its.all (itB E.hard E.fn.ntmps E.plan) = true → conts E (finQ E) its .normal a w := fun its hr hi => run_sound n E hE its L M nk hr hi H β own w a hst
        cases c with
        | skip =>
          simp only [run] at h
          exact wp_skip (sub _ h hbk)
        | region id ops draw =>
          cases draw with
          | false =>
            simp only [run] at h
            have := sub _ h (by simp only [List.all_cons, Bool.and_eq_true]; exact ⟨hb, hbk⟩)
            exact wp_region_list this
          | true =>
            simp only [run] at h
            have hb2 := hb
            simp only [itB, codeB, Bool.and_eq_true] at hb2
            split at h
            case h_2 => exact absurd h hS
            rename_i hdf
            refine wp_region_plan (t := E.plan id) hE.mixed hb2.1.2 (fun c a w d v => conts_panic_put hdf k c a w d v) hb2.2 ?_
            have := run_sound n E hE _ L M nk h (by simp only [List.all_cons, Bool.and_eq_true]; exact ⟨by simp only [itB, Bool.and_eq_true]; exact ⟨hb2.1.1.1, hb2.1.1.2⟩, hbk⟩) H β own { w with drawn := w.drawn + 1 } a (hst.drew _)
            exact this
        | seq x y =>
          simp only [run] at h
          have hxy : codeB E.hard E.fn.ntmps E.plan x = true ∧ codeB E.hard E.fn.ntmps E.plan y = true := by simpa [itB, codeB] using hb
          have := sub _ h (by simp only [List.all_cons, Bool.and_eq_true]; exact ⟨hxy.1, hxy.2, hbk⟩)
          simp only [conts] at this ⊢
          refine wp_seq (wp_mono this ?_)
          intro e a' w' he
          cases e <;> simp only [Exit.then] <;> simpa [conts] using he
        | cond t x y =>
          simp only [run] at h
          have hxy : codeB E.hard E.fn.ntmps E.plan x = true ∧ codeB E.hard E.fn.ntmps E.plan y = true := by simpa [itB, codeB] using hb
          unfold goC at h
          split at h
          · rename_i b hev
            have e1 : a.eval t = .bool b := hst.ev hev
            refine wp_cond_split e1 (fun hb' => ?_) (fun hb' => ?_)
            · exact run_sound n E hE _ _ _ _ (by simpa only [knowLK_eq] using (brP_elim h).1 hb') (by simp only [List.all_cons, Bool.and_eq_true]; exact ⟨hxy.1, hbk⟩) H β own w a (hst.knowL (by rw [hev, hb']))
            · exact run_sound n E hE _ _ _ _ (by simpa only [knowLK_eq] using (brP_elim h).2 hb') (by simp only [List.all_cons, Bool.and_eq_true]; exact ⟨hxy.2, hbk⟩) H β own w a (hst.knowL (by rw [hev, hb']))
          · exact absurd h hS
        | block id x =>
          simp only [run] at h
          have := sub _ h (by simp only [List.all_cons, Bool.and_eq_true]; exact ⟨hb, rfl, hbk⟩)
          simp only [conts] at this ⊢
          refine wp_block (wp_mono this ?_)
          intro e a' w' he
          cases e <;> simp only [Exit.inBlock] <;> simpa [conts] using he
        | exit id =>
          simp only [run] at h
          unfold goX at h
          split at h
          · rename_i k' hk'
            exact wp_exit (conts_exit k k' id a w hk' (sub _ h (dropTo_all k k' id hk' hbk)))
          · exact absurd h hS
        | ret =>
          simp only [run] at h
          exact wp_ret (conts_ret k a w (finE_ret hst hE h).1)
        | loop b =>
          simp only [run] at h
          split at h
          · exact absurd h hS
          · rename_i j hj
            have := sub _ h (by simp only [List.all_cons, Bool.and_eq_true]; exact ⟨hb, hb, hbk⟩)
            simp only [conts] at this ⊢
            refine wp_loop_rounds (j + 1) ?_
            rw [rounds_succ]
            refine wp_mono this ?_
            intro e a' w' he
            cases e <;> simp only [Exit.then] <;> simpa [conts] using he
        | rangeFunc f ps as b => simp only [run] at h; exact absurd h hS
        | scope b => simp only [run] at h; exact absurd h hS
        | label l => simp only [run] at h; exact absurd h hS
        | goto l => simp only [run] at h; exact absurd h hS
        | refuse why => simp only [run] at h; exact absurd h hS
end
end Go.Sx
