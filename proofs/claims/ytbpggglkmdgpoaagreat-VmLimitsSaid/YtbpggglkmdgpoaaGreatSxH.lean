/-
  SxH: what is built; calls; one operation, whatever it is.
-/
import Derived.Test.YtbpggglkmdgpoaaGreatSxG
set_option linter.all false
set_option linter.unusedSimpArgs false
set_option linter.unusedVariables false
namespace Go.Sx
open Go

section
variable {E : Cx} {o : Oper} {a : Act} {w : World} {H : Hp} {β : Env} {own : Nat → Option Nat} {L : Slots} {M : Mem} {nk : Nat}

/-! ### Parts laid into a row -/
theorem splV_step (cs : List Value) (p : Nat) (v : Value) (vs : List Value) (h : p + 1 + vs.length ≤ cs.length) : splV (cs.set p v) (p + 1) vs = splV cs p (v :: vs) := by
  unfold splV
  apply List.ext_getElem?
  intro j
  simp only [List.getElem?_append, List.length_append, List.length_take, List.length_set, List.length_cons, List.getElem?_take, List.getElem?_drop, List.getElem?_set]
  have e1 : min (p + 1) cs.length = p + 1 := by omega
  have e2 : min p cs.length = p := by omega
  rw [e1, e2]
  by_cases h1 : j < p
  · simp [h1, show j < p + 1 + vs.length by omega, show j < p + 1 by omega, show j < p + (vs.length + 1) by omega, show ¬ p = j by omega]
  · by_cases h2 : j = p
    · subst h2
      simp [show j < j + 1 + vs.length by omega, show j < cs.length by omega]
    · by_cases h3 : j < p + 1 + vs.length
      · have : j - p = (j - (p + 1)) + 1 := by omega
        simp [h1, h3, show ¬ j < p + 1 by omega, show j < p + (vs.length + 1) by omega, this]
      · simp [h3, show ¬ j < p + (vs.length + 1) by omega]
        rw [if_neg (by omega)]
        congr 1
        omega

theorem zip_fold (off : Nat) : ∀ (vs : List Value) (j : Nat) (cs : Array Value), off + j + vs.length ≤ cs.size →
    ((vs.zipIdx j).foldl (fun (cs : Array Value) (p : Value × Nat) => cs.setIfInBounds (off + p.2) p.1) cs).toList = splV cs.toList (off + j) vs
  | [], j, cs, _ => by simp [splV]
  | v :: vs, j, cs, h => by
    simp only [List.length_cons] at h
    rw [List.zipIdx_cons, List.foldl_cons, zip_fold off vs (j + 1) _ (by simp; omega), ← splV_step _ _ _ _ (by simp; omega)]
    simp only [Array.toList_setIfInBounds]
    rfl

theorem fillS_length (place : Nat → Option (Nat × Nat)) : ∀ (l : List (Nat × SV)) (c r : List SV), fillS place c l = some r → r.length = c.length
  | [], c, r, h => by simp only [fillS, Option.some.injEq] at h; rw [h]
  | (i, s) :: l, c, r, h => by
    simp only [fillS] at h
    split at h
    · rename_i off sz d hp hd
      split at h
      · rename_i hc
        rw [fillS_length place l _ r h, spl_length _ _ _ (by rw [hc.1]; exact hc.2)]
      · cases h
    · cases h

theorem fill_rel (place : Nat → Option (Nat × Nat)) : ∀ (ps : List (Nat × Operand)) (l : List (Nat × SV)) (c : List SV) (vs : List Value) (r : List SV), St E H β own w a L M nk → evP L ps = some l → fillS place c l = some r → RelC H β c vs →
    ∃ us, Instr.fill place vs.toArray (ps.map fun (i, x) => (i, a.eval x)) = some us.toArray ∧ RelC H β r us
  | [], l, c, vs, r, h, hl, hr, hc => by
    simp only [evP, Option.some.injEq] at hl
    subst hl
    simp only [fillS, Option.some.injEq] at hr
    subst hr
    exact ⟨vs, rfl, hc⟩
  | (i, x) :: ps, l, c, vs, r, h, hl, hr, hc => by
    simp only [evP] at hl
    split at hl <;> cases hl
    rename_i s l' hs hl'
    simp only [fillS] at hr
    split at hr
    · rename_i off sz d hp hd
      split at hr
      · rename_i hcond
        obtain ⟨hds, hle⟩ := hcond
        have hcells := cellsOf_rel hd (h.ev hs)
        have hsz : (a.eval x).cells.size = sz := by have := hcells.length; rw [hds] at this; simpa using this
        have hnew := relC_splV hc hcells off (by rw [hds]; exact hle)
        obtain ⟨us, hus, hur⟩ := fill_rel place ps l' _ _ r h hl' hr hnew
        refine ⟨us, ?_, hur⟩
        rw [List.map_cons]
        simp only [Instr.fill, hp]
        have hvl : vs.length = c.length := hc.length
        rw [if_neg (by simp [hsz, hvl]; omega)]
        rw [← hus]
        congr 1
        apply Array.ext'
        have := zip_fold off (a.eval x).cells.toList 0 vs.toArray (by simp [hsz, hvl]; omega)
        simp only [Nat.add_zero] at this
        rw [← this]
        simp only [← Array.foldl_toList, Array.toList_zipIdx]
      · cases hr
    · cases hr

theorem places_of {P : Program} {T : TypeId → Option Ty} (hT : TyOK P T) : ∀ (fs gs : List Field) (pl : List (Nat × Nat)), fs.length = gs.length → (∀ p ∈ fs.zip gs, p.1.type = p.2.type ∧ p.1.offset = p.2.offset) → placesT T fs = some pl →
    gs.mapM (fun f => (P.info? f.type).map fun i => (f.offset, i.size)) = some pl
  | [], gs, pl, hl, _, h => by
    have : gs = [] := List.length_eq_zero_iff.1 hl.symm
    subst this
    simp only [placesT, Option.some.injEq] at h
    subst h; rfl
  | f :: fs, [], pl, hl, _, h => by simp at hl
  | f :: fs, g :: gs, pl, hl, hz, h => by
    simp only [placesT] at h
    split at h <;> cases h
    rename_i z l hz' hl'
    obtain ⟨d, i, zv, hd, hdb, hi, hsz, _⟩ := hT _ _ hz'
    have h0 := hz (f, g) (by simp)
    have ih := places_of hT fs gs l (by simpa using hl) (fun p hp => hz p (by simp [hp])) hl'
    simp only at h0
    rw [List.mapM_cons, ih, ← h0.1, hi, ← h0.2]
    simp [hsz]

theorem build_good (h : St E H β own w a L M nk) (hT : TyOK E.P E.T) {t : TypeId} {y : Ty} (ht : E.T t = some y) {ps : Array (Nat × Operand)} (ho : o.op = .build t ps) {l : List (Nat × SV)} (hl : evP L ps.toList = some l) :
    OutGood E o a w H β own M nk (stBuild E.T y l) := by
  obtain ⟨d, i, z, hd, hdb, hi, hsz, hby, hz, hpl, hzl⟩ := hT t y ht
  have hz0 := plainL_rel (H := H) (β := β) (plainZ_pl hpl)
  have fin : ∀ (place : Nat → Option (Nat × Nat)) (c : List SV), fillS place y.zero l = some c →
      (∀ parts, Instr.fill place z.cells parts = E.P.built t parts) → OkV E o a w H β own (.g c) M nk := by
    intro place c hc hb
    obtain ⟨us, hus, hur⟩ := fill_rel place ps.toList l y.zero z.cells.toList c h hl hc hz0
    rw [Array.toArray_toList, hb] at hus
    refine Good.val (u := .agg us.toArray) h ?_ ⟨us, rfl, hur⟩
    intro w' _
    have hrun := run_build (P := E.P) w' t (ps.map fun (i, x) => (i, a.eval x)) us.toArray (by simpa using hus)
    simp only [execOp, ho]
    rw [Sem.run_bind, hrun]; rfl
  unfold stBuild
  split <;> try trivial
  · rename_i fs hfs
    split <;> try trivial
    rename_i pl hpl'
    split <;> try trivial
    rename_i c hc
    rw [hfs] at hdb
    obtain ⟨gs, rfl, hgs⟩ := desc_struct hdb
    simp only [Bool.and_eq_true, beq_iff_eq, List.all_eq_true] at hgs
    have hp := places_of hT fs.toList gs.toList pl (by simpa using hgs.1) (fun p hp => by have := hgs.2 p hp; simpa using this) hpl'
    refine fin _ c hc (fun parts => ?_)
    simp only [Program.built, hi, hd, hz, hp]
    congr 1
    funext i; simp
  · rename_i n e hy
    rw [hy] at hdb
    obtain rfl := desc_array hdb
    split <;> try trivial
    rename_i ze hze
    obtain ⟨d', i', z', hd', hdb', hi', hsz', _⟩ := hT e ze hze
    split <;> try trivial
    rename_i c hc
    refine fin _ c hc (fun parts => ?_)
    simp only [Program.built, hi, hd, hz, hi', hsz']

theorem buildSlice_good (h : St E H β own w a L M nk) (hT : TyOK E.P E.T) {t : TypeId} {y : Ty} (ht : E.T t = some y) {n : Nat} {ps : Array (Nat × Operand)} (ho : o.op = .buildSlice t n ps) {l : List (Nat × SV)} (hl : evP L ps.toList = some l) :
    OutGood E o a w H β own M nk (stBuildSlice E.T y n M nk l) := by
  obtain ⟨d, i, z, hd, hdb, hi, hsz, hby, hz, hpl, hzl⟩ := hT t y ht
  unfold stBuildSlice
  split <;> try trivial
  rename_i e hy
  rw [hy] at hdb
  obtain rfl := desc_slice hdb
  split <;> try trivial
  rename_i ze hze
  obtain ⟨d', i', z', hd', hdb', hi', hsz', hby', hz', hpl', hzl'⟩ := hT e ze hze
  split <;> try trivial
  rename_i c hc
  rintro ⟨hz0, hmax⟩
  have hzr := plainL_rel (H := H) (β := β) (plainZ_pl hpl')
  have hzlen : z'.cells.size = ze.size := by have := hzr.length; rw [hzl'] at this; simpa using this
  obtain ⟨us, hus, hur⟩ := fill_rel (fun i => some (i * ze.size, ze.size)) ps.toList l _ (List.replicate n z'.cells.toList).flatten c h hl hc (RelC.flatRep hzr n)
  have hrow := made_row z'.cells n
  have hcl : c.length = n * ze.size := by
    have := fillS_length (fun i => some (i * ze.size, ze.size)) l _ c hc
    rw [this, flat_rep_length, hzl']
  refine buf_good h hz0 (vs := us) (junk := []) hur (Nat.le_refl n) (by omega) (by rw [hur.length, hcl]; simp) (by simp) (fun _ _ h => h) ?_
  simp only [execOp, ho, Instr.buildSlice]
  simp only [Sem.run_bind, run_und hd, Result.andThen_ok, run_size hi', hsz']
  rw [if_neg (by simp only [gt_iff_lt, Nat.not_lt]; exact hmax)]
  simp only [Sem.run_pure, Result.andThen_ok]
  by_cases hn0 : n * ze.size = 0
  · have hne : n = 0 := by
      rcases Nat.mul_eq_zero.1 hn0 with h | h
      · exact h
      · omega
    subst hne
    simp only [Nat.zero_mul, if_true, Sem.run_pure, Result.andThen_ok]
    simp only [List.replicate_zero, List.flatten_nil] at hus
    have e0 : (Array.range 0) = #[] := rfl
    have hus' : Instr.fill (fun i => some (i * ze.size, ze.size)) #[] (List.map (fun x => (x.fst, a.eval x.snd)) ps.toList) = some us.toArray := hus
    simp [e0, hus', run_newRow]
  · rw [if_neg hn0]
    simp only [Sem.run_bind, run_zero hi' hz', Result.andThen_ok, Sem.run_pure]
    rw [← hzlen, hrow]
    have : (ps.map fun (x : Nat × Operand) => (x.1, a.eval x.2)).toList = ps.toList.map fun (x : Nat × Operand) => (x.1, a.eval x.2) := by simp
    rw [hzlen]
    simp [hus, run_newRow]

theorem make_good (h : St E H β own w a L M nk) (hT : TyOK E.P E.T) {t : TypeId} {y : Ty} (ht : E.T t = some y) {x c : Operand} (ho : o.op = .makeSlice t x c) {s r : SV} (hs : ev L x = some s) (hr : ev L c = some r) :
    OutGood E o a w H β own M nk (stMake E.T y M nk s r) := by
  obtain ⟨d, i, z, hd, hdb, hi, hsz, hby, hz, hpl, hzl⟩ := hT t y ht
  unfold stMake
  split <;> try trivial
  rename_i e hy
  rw [hy] at hdb
  obtain rfl := desc_slice hdb
  split <;> try trivial
  rename_i ze hze
  obtain ⟨d', i', z', hd', hdb', hi', hsz', hby', hz', hpl', hzl'⟩ := hT e ze hze
  split <;> try trivial
  rename_i n m
  rintro ⟨hz0, h0, h1, h2, h3⟩
  have e1 : a.eval x = .int .i64 n := h.ev hs
  have e2 : a.eval c = .int .i64 m := h.ev hr
  have hzr := plainL_rel (H := H) (β := β) (plainZ_pl hpl')
  have hzlen : z'.cells.size = ze.size := by have := hzr.length; rw [hzl'] at this; simpa using this
  have wn : IntKind.i64.wrap n = n := by
    simp only [IntKind.wrap, IntKind.bits, IntKind.signed]; simp; omega
  have wm : IntKind.i64.wrap m = m := by
    simp only [IntKind.wrap, IntKind.bits, IntKind.signed]; simp; omega
  have hrow := made_row z'.cells m.toNat
  have hsplit : (List.replicate m.toNat z'.cells.toList).flatten = (List.replicate n.toNat z'.cells.toList).flatten ++ (List.replicate (m.toNat - n.toNat) z'.cells.toList).flatten := by
    rw [← List.flatten_append, List.replicate_append_replicate]; congr 2; omega
  refine buf_good h hz0 (vs := (List.replicate n.toNat z'.cells.toList).flatten) (junk := (List.replicate (m.toNat - n.toNat) z'.cells.toList).flatten) (cap := m.toNat) (RelC.flatRep hzr n.toNat) (by omega) ?_ ?_ (atoms_of_relC (RelC.flatRep hzr (m.toNat - n.toNat))) (fun _ _ h => h) ?_
  · rw [flat_rep_length, hzl']; exact Nat.mul_le_mul_right _ (by omega)
  · rw [flat_rep_length, flat_rep_length]
    simp only [Array.length_toList, hzlen]
    rw [← Nat.add_mul]; congr 1; omega
  · rw [← hsplit]
    simp only [execOp, ho, Instr.makeSlice, e1, e2]
    simp only [Sem.run_bind, run_und hd, Result.andThen_ok, asInt, asIntOf, Sem.run_pure, run_info hi', hby', wn, wm]
    have hbm : (ze.bytes : Int) * m ≤ 281474976710656 := by
      have h4 : (ze.bytes : Int) ≤ 64 := by omega
      have h5 := Int.mul_le_mul h4 h2 (by omega) (by omega)
      omega
    rw [if_neg (by simp; omega)]
    simp only [Sem.run_bind, run_askRoom, Result.andThen_ok, run_size hi', hsz']
    by_cases hm0 : m.toNat * ze.size = 0
    · have hm1 : m.toNat = 0 := by
        rcases Nat.mul_eq_zero.1 hm0 with h | h
        · exact h
        · omega
      have e0 : (Array.range 0) = #[] := rfl
      simp [hm1, e0, run_newRow]
    · rw [if_neg hm0]
      simp only [Sem.run_bind, run_zero hi' hz', Result.andThen_ok, Sem.run_pure, run_newRow]
      rw [← hzlen, hrow]

theorem args1 {c : Call} {x : Operand} (h : c.args.toList = [x]) : c.args.map a.eval = #[a.eval x] := by
  have : c.args = #[x] := by apply Array.toList_inj.1; simpa using h
  rw [this]; simp

theorem getD_ne {ts : Array TypeId} {i : Nat} {T : TypeId → Option Ty} (h0 : T 0 = none) {y : Ty} (h : T (ts.getD i 0) = some y) : ts[i]? = some (ts.getD i 0) := by
  by_cases hi : i < ts.size
  · simp [hi]
  · have : ts.getD i 0 = 0 := by simp [Array.getElem?_eq_none (Nat.le_of_not_lt hi)]
    rw [this, h0] at h; cases h

theorem len_good (h : St E H β own w a L M nk) (hT : TyOK E.P E.T) (hT0 : E.T 0 = none) {c : Call} (ho : o.op = .call c) (hc : c.callee = .builtin .len) {s : SV} (hev : evs L c.args.toList = some [s]) :
    OutGood E o a w H β own M nk (stLen E.T (c.argTypes.getD 0 0) s) := by
  obtain ⟨x, hx', hx⟩ := evs1 hev
  obtain ⟨cs, hrun⟩ : ∃ cs, ∀ w, (execOp a.eval o).run E.P w = (builtin .len c.argTypes o.type cs #[a.eval x]).run E.P w := by
    refine ⟨c.args.map fun | .const _ => true | _ => false, fun w => ?_⟩
    rw [← args1 (a := a) hx']
    simp [execOp, ho, resolve, hc, invoke]
    rfl
  have hxr := h.ev hx
  unfold stLen
  split <;> try trivial
  rename_i y ht
  have g0 := getD_ne hT0 ht
  obtain ⟨d, i, zv, hd, hdb, _⟩ := hT _ _ ht
  generalize c.argTypes.getD 0 0 = t0 at *
  have fin : ∀ (n : Int), (∀ w, (Builtin.len_ c.argTypes o.type #[a.eval x]).run E.P w = .ok (.int .i64 n) w) → OkV E o a w H β own (.int n) M nk := by
    intro n hr
    exact Good.val h (fun w' _ => by rw [hrun]; simp [builtin, hr w']) rfl
  split <;> try trivial
  · rename_i e hy
    rw [hy] at hdb
    obtain rfl := desc_slice hdb
    have sl : ∀ ad n cap, a.eval x = .slice ad n cap → ∀ w, (Builtin.len_ c.argTypes o.type #[a.eval x]).run E.P w = .ok (.int .i64 n) w := by
      intro ad n cap hv w
      unfold Builtin.len_
      simp [g0, run_und hd, hv, goInt]
    split <;> try trivial
    · obtain ⟨ad, cap, hv, _⟩ := hxr; exact fin _ (sl _ _ _ hv)
    · obtain ⟨e', _, ad, cap, hv, _⟩ := hxr; exact fin _ (sl _ _ _ hv)
    · obtain ⟨e', _, ad, hv, _⟩ := hxr; exact fin _ (sl _ _ _ hv)
    · exact fin _ (sl _ _ _ hxr)
  · rename_i hy
    rw [hy] at hdb
    have hds : d = .string := by unfold descB at hdb; split at hdb <;> simp_all
    subst hds
    split <;> try trivial
    rename_i b
    have hv : a.eval x = .string b := hxr
    refine fin _ (fun w => ?_)
    unfold Builtin.len_
    simp [g0, run_und hd, hv, goInt]
  · rename_i n e hy
    rw [hy] at hdb
    obtain rfl := desc_array hdb
    refine fin _ (fun w => ?_)
    unfold Builtin.len_
    simp [g0, run_und hd, goInt]

/-! ### Own slices lent to a callee -/
mutual
theorem closed_rel {H : Hp} {β β' : Env} : ∀ (s : SV) (u : Value), closed s → Rel H β s u → Rel H β' s u
  | .v _, _, _, h => by simpa [Rel] using h
  | .int _, _, _, h => by simpa [Rel] using h
  | .w8 _, _, _, h => by simpa [Rel] using h
  | .w16 _, _, _, h => by simpa [Rel] using h
  | .w32 _, _, _, h => by simpa [Rel] using h
  | .w64 _, _, _, h => by simpa [Rel] using h
  | .bol _, _, _, h => by simpa [Rel] using h
  | .p _ _, _, hc, _ => hc.elim
  | .pb _ _, _, hc, _ => hc.elim
  | .sc _ _ _ _, _, hc, _ => hc.elim
  | .os _ _ _, _, hc, _ => hc.elim
  | .rs _ cs, _, _, h => h
  | .rp cs _, _, _, h => h
  | .g cs, _, hc, h => by obtain ⟨vs, h1, h2⟩ := h; exact ⟨vs, h1, closedC_rel cs vs hc h2⟩
  | .tup cs, _, hc, h => by obtain ⟨vs, h1, h2⟩ := h; exact ⟨vs, h1, closedL_rel cs vs hc h2⟩
  | .fn _ xs ys, _, hc, h => by obtain ⟨vs, us, h1, h2, h3⟩ := h; exact ⟨vs, us, h1, closedL_rel xs vs hc.1 h2, closedL_rel ys us hc.2 h3⟩
  | .ifc _ x, _, hc, h => by obtain ⟨y, h1, h2⟩ := h; exact ⟨y, h1, closed_rel x y hc h2⟩
theorem closedL_rel {H : Hp} {β β' : Env} : ∀ (cs : List SV) (us : List Value), closedL cs → RelL H β cs us → RelL H β' cs us
  | [], _, _, h => by simpa [RelL] using h
  | x :: xs, _, hc, h => by
    rw [relL_cons] at h ⊢
    obtain ⟨u, us', h1, h2, h3⟩ := h
    exact ⟨u, us', h1, closed_rel x u hc.1 h2, closedL_rel xs us' hc.2 h3⟩
theorem closedC_rel {H : Hp} {β β' : Env} : ∀ (cs : List SV) (us : List Value), closedL cs → RelC H β cs us → RelC H β' cs us
  | [], _, _, h => by simpa [RelC] using h
  | x :: xs, _, hc, h => by
    rw [relC_cons] at h ⊢
    obtain ⟨u, us', h1, h2, ha, h3⟩ := h
    exact ⟨u, us', h1, closed_rel x u hc.1 h2, ha, closedC_rel xs us' hc.2 h3⟩
end
mutual
theorem flat_rel {H H' : Hp} {β β' : Env} : ∀ (s : SV) (u : Value), flat s → Rel H β s u → Rel H' β' s u
  | .v _, _, _, h => by simpa [Rel] using h
  | .int _, _, _, h => by simpa [Rel] using h
  | .w8 _, _, _, h => by simpa [Rel] using h
  | .w16 _, _, _, h => by simpa [Rel] using h
  | .w32 _, _, _, h => by simpa [Rel] using h
  | .w64 _, _, _, h => by simpa [Rel] using h
  | .bol _, _, _, h => by simpa [Rel] using h
  | .p _ _, _, hc, _ => hc.elim
  | .pb _ _, _, hc, _ => hc.elim
  | .sc _ _ _ _, _, hc, _ => hc.elim
  | .os _ _ _, _, hc, _ => hc.elim
  | .rs _ cs, _, hc, h => hc.elim
  | .rp cs _, _, hc, h => hc.elim
  | .g cs, _, hc, h => by obtain ⟨vs, h1, h2⟩ := h; exact ⟨vs, h1, flatC_rel cs vs hc h2⟩
  | .tup cs, _, hc, h => by obtain ⟨vs, h1, h2⟩ := h; exact ⟨vs, h1, flatL_rel cs vs hc h2⟩
  | .fn _ xs ys, _, hc, h => by obtain ⟨vs, us, h1, h2, h3⟩ := h; exact ⟨vs, us, h1, flatL_rel xs vs hc.1 h2, flatL_rel ys us hc.2 h3⟩
  | .ifc _ x, _, hc, h => by obtain ⟨y, h1, h2⟩ := h; exact ⟨y, h1, flat_rel x y hc h2⟩
theorem flatL_rel {H H' : Hp} {β β' : Env} : ∀ (cs : List SV) (us : List Value), flatL cs → RelL H β cs us → RelL H' β' cs us
  | [], _, _, h => by simpa [RelL] using h
  | x :: xs, _, hc, h => by
    rw [relL_cons] at h ⊢
    obtain ⟨u, us', h1, h2, h3⟩ := h
    exact ⟨u, us', h1, flat_rel x u hc.1 h2, flatL_rel xs us' hc.2 h3⟩
theorem flatC_rel {H H' : Hp} {β β' : Env} : ∀ (cs : List SV) (us : List Value), flatL cs → RelC H β cs us → RelC H' β' cs us
  | [], _, _, h => by simpa [RelC] using h
  | x :: xs, _, hc, h => by
    rw [relC_cons] at h ⊢
    obtain ⟨u, us', h1, h2, ha, h3⟩ := h
    exact ⟨u, us', h1, flat_rel x u hc.1 h2, ha, flatC_rel xs us' hc.2 h3⟩
end

theorem closedL_drop : ∀ {cs : List SV} (n : Nat), closedL cs → closedL (cs.drop n)
  | [], n, h => by simpa using h
  | x :: xs, 0, h => h
  | x :: xs, n + 1, h => by simpa using closedL_drop n h.2
theorem closedL_take : ∀ {cs : List SV} (n : Nat), closedL cs → closedL (cs.take n)
  | [], n, h => by simpa using h
  | x :: xs, 0, h => trivial
  | x :: xs, n + 1, h => by rw [List.take_succ_cons]; exact ⟨h.1, closedL_take n h.2⟩
theorem closedL_slc {cs : List SV} (o n : Nat) (h : closedL cs) : closedL (slc cs o n) := by
  unfold slc
  exact closedL_take _ (closedL_drop _ h)

theorem rs_all (hm : MemOK H β own M w) {esz n : Nat} {s : SV} {c : List SV} (hc : cont M esz s = some (n, c)) (hC : contC M esz s) (hl : c.length = n * esz) (hz : 0 < esz) {u : Value} (hu : Rel H β s u) (hcl : closedL c) :
    Rel (unH H own w) (fun _ => none) (.rs n c) u := by
  obtain ⟨ad, cap, vs, hv, hn, hr, _⟩ := cont_run (E := ⟨⟨default, fun _ => none, fun _ _ => none, fun _ => none, fun _ _ _ _ _ => False, default, fun _ => .done, 0, fun _ _ _ => True, 0, false, [], fun _ _ _ _ _ _ => False⟩, fun _ => none, fun _ => none, fun _ => none, w⟩) hm hc hC hl hu
  refine ⟨ad, cap, hv, hn, ?_⟩
  by_cases h0 : c.length = 0
  · left
    refine ⟨?_, List.length_eq_zero_iff.1 h0⟩
    rw [hl] at h0
    rcases Nat.mul_eq_zero.1 h0 with h | h
    · exact h
    · omega
  · right
    obtain ⟨b, off, vs', cap', hv', hr', hcell⟩ := cont_cells hm hc hC hl hu h0
    rw [hv] at hv'; cases hv'
    exact ⟨b, off, vs', rfl, RelC.mono (unH_mono hm) (fun _ _ h => h) _ _ (closedC_rel (β' := fun _ => none) _ _ hcl hr'), hcell⟩

theorem opn_closed {x : SV} (h : closed x) : opn M x = x := by
  cases x <;> first | rfl | exact h.elim
theorem map_opn_closed : ∀ {c : List SV}, closedL c → c.map (opn M) = c
  | [], _ => rfl
  | x :: l, h => by rw [List.map_cons, opn_closed h.1, map_opn_closed h.2]
theorem opnCL_of : ∀ {c : List SV}, closedL c → opnCL M c
  | [], _ => trivial
  | x :: l, h => ⟨by cases x <;> first | exact h.1 | exact h.1.elim, opnCL_of h.2⟩
theorem opnCL_mem : ∀ {c : List SV}, opnCL M c → ∀ x ∈ c, opnC M x
  | [], _, _, h => by cases h
  | y :: l, h, x, hx => by
    rcases List.mem_cons.1 hx with rfl | hx
    · exact h.1
    · exact opnCL_mem h.2 x hx
theorem os_rel (hm : MemOK H β own M w) {k lo n m : Nat} {c : List SV} (hcont : cont M 0 (.os k lo n) = some (m, c)) (h1 : contC M 0 (.os k lo n))
    (h2 : match mget M k with | some (.buf _ z c) => closedL c ∧ 0 < z | _ => False) {u : Value} (hu : Rel H β (.os k lo n) u) : Rel (unH H own w) (fun _ => none) (.rs m c) u := by
  have hcont' := hcont
  simp only [cont] at hcont
  split at hcont <;> cases hcont
  rename_i ty z row hg
  simp only [hg] at h2
  have hle : lo * z + n * z ≤ row.length := by simpa [contC, hg] using h1
  exact rs_all hm (esz := z) (n := n) (s := .os k lo n) (by simp [cont, hg]) (by simpa [contC, hg] using hle) (slc_length _ _ _ hle) h2.2 hu (closedL_slc _ _ h2.1)
theorem opn_rel (hm : MemOK H β own M w) {x : SV} {u : Value} (hC : opnC M x) (hu : Rel H β x u) : Rel (unH H own w) (fun _ => none) (opn M x) u := by
  cases x
  case os k lo n =>
    obtain ⟨h1, h2⟩ := hC
    unfold opn
    simp only []
    cases hc : cont M 0 (.os k lo n) with
    | none =>
      simp only [cont] at hc
      split at hc
      · cases hc
      · rename_i hno
        split at h2
        · rename_i hg; exact (hno _ _ _ hg).elim
        · exact h2.elim
    | some mc =>
      obtain ⟨m, c⟩ := mc
      exact os_rel hm hc h1 h2 hu
  all_goals first
    | exact Rel.mono (unH_mono hm) (fun _ _ h => h) _ _ (closed_rel (β' := fun _ => none) _ _ hC hu)
    | exact hC.elim
theorem opn_relC (hm : MemOK H β own M w) : ∀ {c : List SV} {us : List Value}, (∀ x ∈ c, opnC M x) → RelC H β c us → RelC (unH H own w) (fun _ => none) (c.map (opn M)) us
  | [], _, _, h => by simpa [RelC] using h
  | x :: c, _, hC, h => by
    obtain ⟨u, us, rfl, h1, h2, h3⟩ := h
    exact ⟨u, us, rfl, opn_rel hm (hC x (List.mem_cons_self ..)) h1, h2, opn_relC hm (fun y hy => hC y (List.mem_cons_of_mem _ hy)) h3⟩
theorem rs_opn (hm : MemOK H β own M w) {esz n : Nat} {s : SV} {c : List SV} (hc : cont M esz s = some (n, c)) (hC : contC M esz s) (hl : c.length = n * esz) (hz : 0 < esz) {u : Value} (hu : Rel H β s u) (hcl : ∀ x ∈ c, opnC M x) :
    Rel (unH H own w) (fun _ => none) (.rs n (c.map (opn M))) u := by
  obtain ⟨ad, cap, vs, hv, hn, hr, _⟩ := cont_run (E := ⟨⟨default, fun _ => none, fun _ _ => none, fun _ => none, fun _ _ _ _ _ => False, default, fun _ => .done, 0, fun _ _ _ => True, 0, false, [], fun _ _ _ _ _ _ => False⟩, fun _ => none, fun _ => none, fun _ => none, w⟩) hm hc hC hl hu
  refine ⟨ad, cap, hv, hn, ?_⟩
  by_cases h0 : c.length = 0
  · left
    have h1 := List.length_eq_zero_iff.1 h0
    refine ⟨?_, by rw [h1]; rfl⟩
    rw [hl] at h0
    rcases Nat.mul_eq_zero.1 h0 with h | h
    · exact h
    · omega
  · right
    obtain ⟨b, off, vs', cap', hv', hr', hcell⟩ := cont_cells hm hc hC hl hu h0
    rw [hv] at hv'; cases hv'
    exact ⟨b, off, vs', rfl, opn_relC hm hcl hr', hcell⟩
theorem mem_slc {c : List SV} {o n : Nat} {x : SV} (h : x ∈ slc c o n) : x ∈ c := List.mem_of_mem_drop (List.mem_of_mem_take h)

theorem lend_rel (hm : MemOK H β own M w) {T : TypeId → Option Ty} {t : TypeId} {s r : SV} (hl : lend T M t s = some r) (hC : lendC T M t s) {u : Value} (hu : Rel H β s u) :
    Rel (unH H own w) (fun _ => none) r u := by
  have other : closed s → r = s → Rel (unH H own w) (fun _ => none) r u := by
    rintro hc rfl
    exact Rel.mono (unH_mono hm) (fun _ _ h => h) _ _ (closed_rel (β' := fun _ => none) _ _ hc hu)
  unfold lend at hl
  split at hl
  · rename_i k lo n
    simp only [lendC] at hC
    split at hl
    · split at hl <;> cases hl
      rename_i m c hcont
      obtain ⟨h1, h2⟩ := hC
      simp only [cont] at hcont
      split at hcont <;> cases hcont
      rename_i ty z row hg
      simp only [hg] at h2
      have hle : lo * z + n * z ≤ row.length := by simpa [contC, hg] using h1
      have hall : opnCL M row := h2.1.elim opnCL_of (·.2)
      exact rs_opn hm (esz := z) (n := n) (s := .os k lo n) (by simp [cont, hg]) (by simpa [contC, hg] using hle) (slc_length _ _ _ hle) h2.2 hu (fun x hx => opnCL_mem hall x (mem_slc hx))
    · rename_i hs2
      split at hl <;> cases hl
      rename_i m c hcont
      obtain ⟨h1, h2⟩ := hC
      refine os_rel hm hcont h1 ?_ hu
      split at h2
      · rename_i hg
        rw [hg]
        obtain ⟨h3, h4⟩ := h2
        exact ⟨h3.elim id (fun h => by rw [hs2] at h; cases h.1), h4⟩
      · exact h2.elim
  · rename_i k off n mx
    simp only [lendC] at hC
    split at hl <;> try cases hl
    rename_i e sz by_ ze ht
    simp only [ht] at hC
    split at hl <;> try cases hl
    rename_i z hz
    simp only [hz] at hC
    split at hl <;> cases hl
    rename_i m c hcont
    obtain ⟨h1, h2, h3⟩ := hC
    have hcont' := hcont
    simp only [cont] at hcont
    split at hcont <;> cases hcont
    rename_i ty row hg
    simp only [hg] at h3
    have hle : off + n * z.size ≤ row.length := by simpa [contC, hg] using h1
    exact rs_all hm hcont' h1 (slc_length _ _ _ hle) h2 hu (closedL_slc _ _ h3)
  · cases hl
    obtain rfl : u = _ := hu
    exact ⟨none, 0, rfl, Nat.le_refl _, .inl ⟨rfl, rfl⟩⟩
  · rename_i h1 h2 h3
    cases hl
    refine other ?_ rfl
    cases s <;> first | exact hC | exact (h1 _ _ _ rfl).elim | exact (h2 _ _ _ _ rfl).elim
end
end Go.Sx
