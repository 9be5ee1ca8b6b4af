/-
  SxD: what each kind of operation does to a state.
-/
import Derived.Test.YtbpggglkmdgpoaaGreatSxC
set_option linter.all false
set_option linter.unusedSimpArgs false
set_option linter.unusedVariables false
namespace Go.Sx
open Go

/-! ### A new own block -/
def setK {α : Type} (f : Nat → Option α) (k : Nat) (x : α) : Nat → Option α := fun i => if i = k then some x else f i
theorem setK_same {α : Type} (f : Nat → Option α) (k : Nat) (x : α) : setK f k x k = some x := by simp [setK]
theorem setK_other {α : Type} (f : Nat → Option α) {k i : Nat} (x : α) (h : i ≠ k) : setK f k x i = f i := by simp [setK, h]

section
variable {E : Cx} {o : Oper} {a : Act} {w : World} {H : Hp} {β : Env} {own : Nat → Option Nat} {L : Slots} {M : Mem} {nk : Nat}

theorem MemOK.grow {H : Hp} {β : Env} {own : Nat → Option Nat} {M : Mem} {w : World} (h : MemOK H β own M w) {nk : Nat} (hk : β nk = none) (ob : Obj) {ke : KE} (hb : ke.blk = w.heap.size)
    {e : Ent} (he : EntOK H (setK β nk ke) (setK own w.heap.size nk) (w.alloc ob) nk e) :
    MemOK H (setK β nk ke) (setK own w.heap.size nk) ((nk, e) :: M) (w.alloc ob) where
  ro b x hx := by
    have := h.ro b x hx
    have hlt : b < w.heap.size := by
      rcases Nat.lt_or_ge b w.heap.size with h' | h'
      · exact h'
      · rw [Array.getElem?_eq_none h'] at this; cases this.2
    exact ⟨by rw [setK_other _ _ (by omega)]; exact this.1, by rw [heap_alloc_old _ _ _ hlt]; exact this.2⟩
  lt b k hx := by
    rw [World.size_alloc]
    by_cases hbn : b = w.heap.size
    · subst hbn
      rw [setK_same] at hx; cases hx
      exact ⟨by omega, ke, setK_same _ _ _⟩
    · rw [setK_other _ _ hbn] at hx
      obtain ⟨h1, e, h2⟩ := h.lt b k hx
      exact ⟨by omega, e, by rw [setK_other _ _ (fun e' => by subst e'; rw [hk] at h2; cases h2)]; exact h2⟩
  ent j x hx := by
    rcases List.mem_cons.1 hx with hx | hx
    · cases hx; exact he
    · refine (h.ent j x hx).stay (fun _ _ h => h) (fun k e hke => ?_) (fun b hb' => ?_)
      · rw [setK_other _ _ (fun e' => by subst e'; rw [hk] at hke; cases hke)]; exact hke
      · have hlt := (h.lt b j hb').1
        exact ⟨by rw [setK_other _ _ (by omega)]; exact hb', heap_alloc_old _ _ _ hlt⟩

theorem Later.grow (H : Hp) (own : Nat → Option Nat) (w : World) (ob : Obj) (nk : Nat) : Later H own w H (setK own w.heap.size nk) (w.alloc ob) where
  os := rfl
  tape := rfl
  output := rfl
  size := by simp
  mono _ _ h := h
  new _ _ h := .inl h
  fresh b hb := by
    by_cases h : b = w.heap.size
    · exact .inr (by omega)
    · rw [setK_other _ _ h] at hb; exact .inl hb
  same b hb _ := heap_alloc_old _ _ _ hb

theorem Ext.alloc (w : World) (ob : Obj) : Ext w (w.alloc ob) := ⟨rfl, rfl, rfl, by simp, fun b hb => heap_alloc_old _ _ _ hb⟩
theorem Ext.drew (w : World) : Ext w w.drew := ⟨rfl, rfl, rfl, Nat.le_refl _, fun _ _ => rfl⟩

theorem ext_setK {β : Env} {nk : Nat} (hk : β nk = none) (ke : KE) : ∀ k e, β k = some e → setK β nk ke k = some e := fun k e h => by
  rw [setK_other _ _ (fun e' => by subst e'; rw [hk] at h; cases h)]; exact h
theorem keys_setK {β : Env} {nk : Nat} (hk : ∀ k, nk ≤ k → β k = none) (ke : KE) : ∀ k, nk + 1 ≤ k → setK β nk ke k = none := fun k h => by
  rw [setK_other _ _ (by omega)]; exact hk k (by omega)

theorem cells_good (h : St E H β own w a L M nk) {t : TypeId} {cs : List SV} {vs : List Value} (hr : RelC H β cs vs)
    (hrun : (execOp a.eval o).run E.P w = .ok (.value (.pointer (some ⟨w.heap.size, 0, none⟩))) (w.alloc (.cells vs.toArray t))) :
    Good E o a w H β own (.p nk 0) ((nk, .cells t cs) :: M) (nk + 1) := by
  have hk := h.keys nk (Nat.le_refl _)
  refine Good.valM hrun (h.mem.grow hk _ (ke := ⟨w.heap.size, 0, 0, 0⟩) rfl (e := .cells t cs) ?_) (Later.grow _ _ _ _ _) (ext_setK hk _) (keys_setK h.keys _) (fun _ => Ext.alloc _ _) ⟨_, setK_same _ _ _, rfl⟩
  exact ⟨_, vs, setK_same _ _ _, setK_same _ _ _, RelC.mono (fun _ _ h => h) (ext_setK hk _) _ _ hr, heap_alloc_new _ _⟩

theorem buf_good (h : St E H β own w a L M nk) {t : TypeId} {esz : Nat} (hz : 0 < esz) {n cap : Nat} {cs : List SV} {vs junk : List Value} (hr : RelC H β cs vs) (hn : n ≤ cap)
    (hl : cs.length ≤ cap * esz) (hj : vs.length + junk.length = cap * esz) (hja : ∀ v ∈ junk, atomV v = true)
    {M' : Mem} (hM : ∀ k e, (k, e) ∈ M' → (k, e) ∈ M)
    (hrun : (execOp a.eval o).run E.P w = .ok (.value (.slice (some ⟨w.heap.size, 0, none⟩) n cap)) (w.alloc (.cells (vs ++ junk).toArray t))) :
    Good E o a w H β own (.os nk 0 n) ((nk, .buf t esz cs) :: M') (nk + 1) := by
  have hk := h.keys nk (Nat.le_refl _)
  have hm' : MemOK H β own M' w := ⟨h.mem.ro, h.mem.lt, fun k e he => h.mem.ent k e (hM k e he)⟩
  refine Good.valM hrun (hm'.grow hk _ (ke := ⟨w.heap.size, 0, cap, esz⟩) rfl (e := .buf t esz cs) ?_) (Later.grow _ _ _ _ _) (ext_setK hk _) (keys_setK h.keys _) (fun _ => Ext.alloc _ _)
    ⟨_, setK_same _ _ _, some ⟨w.heap.size, 0, none⟩, cap, rfl, hn, by simp, .inr ⟨by simp, by simp⟩⟩
  refine ⟨_, setK_same _ _ _, rfl, hz, hl, .inr ⟨[], vs, junk, setK_same _ _ _, RelC.mono (fun _ _ h => h) (ext_setK hk _) _ _ hr, rfl, hj, ?_, by simpa using hja⟩⟩
  simpa using heap_alloc_new w (.cells (vs ++ junk).toArray t)

theorem run_newRow (P : Program) (t : TypeId) (cs : Array Value) (w : World) : (newRow t cs).run P w = .ok ⟨w.heap.size, 0, none⟩ (w.alloc (.cells cs t)) := rfl

theorem alloc_good (h : St E H β own w a L M nk) (hT : TyOK E.P E.T) {t : TypeId} {y : Ty} (ht : E.T t = some y) (ho : o.op = .alloc t) :
    Good E o a w H β own (.p nk 0) ((nk, .cells t y.zero) :: M) (nk + 1) := by
  obtain ⟨d, i, z, hd, hdb, hi, hsz, hby, hz, hpl, hzl⟩ := hT t y ht
  refine cells_good h (plainL_rel (plainZ_pl hpl)) ?_
  simp [execOp, ho, Instr.alloc, run_zero hi hz, newVar, run_newRow]

theorem box_good (h : St E H β own w a L M nk) {t : TypeId} {x : Operand} (ho : o.op = .box t x) {s : SV} (hs : ev L x = some s) {cs : List SV} (hc : cellsOf s = some cs) :
    Good E o a w H β own (.p nk 0) ((nk, .cells t cs) :: M) (nk + 1) := by
  refine cells_good h (cellsOf_rel hc (h.ev hs)) ?_
  simp [execOp, ho, Instr.box, newVar, run_newRow]

/-! ### Addresses and parts -/
theorem addP_rel {s r : SV} {n : Nat} (hr : addP s n = some r) {u : Value} (h : Rel H β s u) : ∃ ad : Addr, u = .pointer (some ad) ∧ ad.spot = none ∧ Rel H β r (.pointer (some (ad.add n))) := by
  unfold addP at hr
  split at hr <;> cases hr
  · obtain ⟨e, h1, rfl⟩ := h
    exact ⟨_, rfl, rfl, e, h1, by rw [add_at]⟩
  · obtain ⟨e, h1, rfl⟩ := h
    exact ⟨_, rfl, rfl, e, h1, by rw [add_at, Nat.add_assoc]⟩
  · obtain ⟨b, base, vs, rfl, h1, h2⟩ := h
    exact ⟨_, rfl, rfl, b, base, vs, by rw [add_at, Nat.add_assoc], h1, h2⟩

theorem struct_field {fs gs : Array Field} (h : (fs.size == gs.size && (fs.toList.zip gs.toList).all fun (f, g) => f.type == g.type && f.offset == g.offset) = true) {i : Nat} {f : Field} (hf : fs[i]? = some f) :
    ∃ g, gs[i]? = some g ∧ g.type = f.type ∧ g.offset = f.offset := by
  simp only [Bool.and_eq_true, beq_iff_eq, List.all_eq_true] at h
  have hi : i < fs.size := by
    rcases Nat.lt_or_ge i fs.size with h' | h'
    · exact h'
    · rw [Array.getElem?_eq_none h'] at hf; cases hf
  have hi' : i < gs.size := by omega
  have e1 : fs[i] = f := by simpa [hi] using hf
  have hz : (fs.toList.zip gs.toList)[i]? = some (fs[i], gs[i]) := by
    rw [List.getElem?_eq_getElem (by simp; omega)]; simp
  have := h.2 _ (List.mem_of_getElem? hz)
  simp only [e1, Bool.and_eq_true, beq_iff_eq] at this
  exact ⟨gs[i], by simp [hi'], this.1.symm, this.2.symm⟩

theorem desc_struct {d : TypeDesc} {fs : Array Field} (h : descB (.struct fs) d = true) : ∃ gs, d = .struct gs ∧ (fs.size == gs.size && (fs.toList.zip gs.toList).all fun (f, g) => f.type == g.type && f.offset == g.offset) = true := by
  cases d <;> first | exact ⟨_, rfl, h⟩ | (simp [descB] at h)
theorem desc_array {d : TypeDesc} {n : Nat} {e : TypeId} (h : descB (.array n e) d = true) : d = .array n e := by
  unfold descB at h; split at h <;> simp_all
theorem desc_slice {d : TypeDesc} {e : TypeId} (h : descB (.slice e) d = true) : d = .slice e := by
  unfold descB at h; split at h <;> simp_all
theorem desc_int {d : TypeDesc} {k : IntKind} (h : descB (.int k) d = true) : d = .int k := by
  unfold descB at h; split at h <;> simp_all

theorem fieldAddr_good (h : St E H β own w a L M nk) (hT : TyOK E.P E.T) {t : TypeId} {y : Ty} (ht : E.T t = some y) {x : Operand} {f : Nat} (ho : o.op = .fieldAddr t x f) {s : SV} (hs : ev L x = some s) :
    OutGood E o a w H β own M nk (stFieldAddr E.T y s f) := by
  obtain ⟨d, i, z, hd, hdb, hi, hsz, hby, hz, hpl, hzl⟩ := hT t y ht
  unfold stFieldAddr
  split <;> try trivial
  rename_i fs hfs
  split <;> try trivial
  rename_i fd hfd
  split <;> try trivial
  rename_i yz hyz
  split <;> try trivial
  rename_i r hr
  intro hpos
  rw [hfs] at hdb
  obtain ⟨gs, rfl, hgs⟩ := desc_struct hdb
  obtain ⟨g, hg, hgt, hgo⟩ := struct_field hgs hfd
  obtain ⟨d', i', z', hd', hdb', hi', hsz', _⟩ := hT fd.type yz hyz
  obtain ⟨ad, had, hsp, hrel⟩ := addP_rel hr (h.ev hs)
  refine Good.val h ?_ hrel
  intro w' _
  simp [execOp, ho, Instr.fieldAt, run_und hd, hg, had, Instr.sureAddr, fieldPlace, hgt, hgo, run_size hi', hsz', show yz.size ≠ 0 by omega]

theorem getD_rel {cs : List SV} {vs : List Value} (hr : RelC H β cs vs) {off : Nat} (hb : off < cs.length) (z : SV) : ∃ u, vs[off]? = some u ∧ Rel H β (cs.getD off z) u ∧ atomV u = true := by
  have hg : cs[off]? = some (cs.getD off z) := by simp [List.getD_eq_getElem?_getD, hb]
  exact hr.get off _ hg

/-- A part of a value. -/
theorem part_good (h : St E H β own w a L M nk) (hT : TyOK E.P E.T) {t : TypeId} {y : Ty} (ht : E.T t = some y) {cs : List SV} {vs : List Value} (hr : RelC H β cs vs) {off : Nat}
    (hrun : ∀ u w', (part t vs.toArray off).run E.P w' = .ok u w' → (execOp a.eval o).run E.P w' = .ok (.value u) w') : OutGood E o a w H β own M nk (rd y cs off) := by
  obtain ⟨d, i, z, hd, hdb, hi, hsz, hby, hz, hpl, hzl⟩ := hT t y ht
  have hag := agg_of_desc hdb
  unfold rd
  split
  · rename_i hagg
    intro hb
    refine Good.val (u := .agg ((vs.drop off).take y.size).toArray) h (fun w' _ => hrun _ w' ?_) ⟨_, rfl, hr.slc off y.size hb⟩
    simp only [part, Sem.run_bind, run_isAgg hd, hag, hagg, Result.andThen_ok, if_true, run_size hi, hsz, Sem.run_pure]
    congr 2
    simp [List.extract_toArray]
  · rename_i hagg
    intro hb
    obtain ⟨u, hu, hrel, _⟩ := getD_rel hr hb y.z0
    refine Good.val h (fun w' _ => hrun u w' ?_) hrel
    simp [part, run_isAgg hd, hag, hagg, hu]

theorem field_good (h : St E H β own w a L M nk) (hT : TyOK E.P E.T) {t : TypeId} {y : Ty} (ht : E.T t = some y) {x : Operand} {f : Nat} (ho : o.op = .field t x f) {s : SV} (hs : ev L x = some s) :
    OutGood E o a w H β own M nk (stField E.T y s f) := by
  obtain ⟨d, i, z, hd, hdb, hi, hsz, hby, hz, hpl, hzl⟩ := hT t y ht
  unfold stField
  split <;> try trivial
  rename_i fs cs hfs
  split <;> try trivial
  rename_i fd hfd
  split <;> try trivial
  rename_i yz hyz
  rw [hfs] at hdb
  obtain ⟨gs, rfl, hgs⟩ := desc_struct hdb
  obtain ⟨g, hg, hgt, hgo⟩ := struct_field hgs hfd
  obtain ⟨vs, hv, hr⟩ := h.ev hs
  refine part_good h hT hyz hr (fun u w' hu => ?_)
  simp [execOp, ho, Instr.field, run_und hd, hg, hv, asAgg, hgt, hgo, hu]

theorem idx_rel {s : SV} {j : Int} (hj : idx s = some j) {u : Value} (h : Rel H β s u) : ∃ k, u = .int k j := by
  unfold idx at hj
  split at hj <;> cases hj <;> exact ⟨_, h⟩

theorem index_good (h : St E H β own w a L M nk) (hT : TyOK E.P E.T) {t : TypeId} {y : Ty} (ht : E.T t = some y) {x j : Operand} (ho : o.op = .index t x j) {s r : SV} (hs : ev L x = some s) (hr : ev L j = some r) :
    OutGood E o a w H β own M nk (stIndex E.T y s r) := by
  obtain ⟨d, i, z, hd, hdb, hi, hsz, hby, hz, hpl, hzl⟩ := hT t y ht
  unfold stIndex
  split <;> try trivial
  rename_i n hn
  split <;> try trivial
  rename_i len e cs hy
  split <;> try trivial
  rename_i ze hze
  rintro ⟨h1, h2⟩
  rw [hy] at hdb
  obtain rfl := desc_array hdb
  obtain ⟨d', i', z', hd', hdb', hi', hsz', _⟩ := hT e ze hze
  obtain ⟨vs, hv, hrc⟩ := h.ev hs
  obtain ⟨k, hk⟩ := idx_rel hn (h.ev hr)
  refine part_good h hT hze hrc (fun u w' hu => ?_)
  rw [← hsz'] at hu
  simp [execOp, ho, Instr.index, hk, asIntOf, run_und hd, hv, h1, h2, run_size hi', hu]

theorem indexAddr_good (h : St E H β own w a L M nk) (hT : TyOK E.P E.T) {t : TypeId} {y : Ty} (ht : E.T t = some y) {x j : Operand} (ho : o.op = .indexAddr t x j) {s r : SV} (hs : ev L x = some s) (hr : ev L j = some r) :
    OutGood E o a w H β own M nk (stIndexAddr E.T y M s r) := by
  obtain ⟨d, i, z, hd, hdb, hi, hsz, hby, hz, hpl, hzl⟩ := hT t y ht
  unfold stIndexAddr
  split <;> try trivial
  rename_i n hn
  obtain ⟨k, hk⟩ := idx_rel hn (h.ev hr)
  have hx := h.ev hs
  split <;> try trivial
  · rename_i len e hy
    rw [hy] at hdb
    obtain rfl := desc_array hdb
    split <;> try trivial
    rename_i ze hze
    obtain ⟨d', i', z', hd', hdb', hi', hsz', _⟩ := hT e ze hze
    split <;> try trivial
    rename_i q hq
    rintro ⟨h1, h2⟩
    obtain ⟨ad, had, hsp, hrel⟩ := addP_rel hq hx
    refine Good.val h ?_ hrel
    intro w' _
    simp [execOp, ho, Instr.indexAt, hk, asIntOf, run_und hd, had, Instr.sureAddr, h1, h2, run_size hi', hsz']
  · rename_i e hy
    rw [hy] at hdb
    obtain rfl := desc_slice hdb
    split <;> try trivial
    rename_i ze hze
    obtain ⟨d', i', z', hd', hdb', hi', hsz', _, _, _, hzl'⟩ := hT e ze hze
    have fin : ∀ (ad : Option Addr) (len cap : Nat) (q : SV), a.eval x = .slice ad len cap → n < len → 0 ≤ n → (∃ a0, ad = some a0 ∧ Rel H β q (.pointer (some (a0.add (n.toNat * ze.size))))) →
        OkV E o a w H β own q M nk := by
      rintro ad len cap q hv h2 h1 ⟨a0, rfl, hrel⟩
      refine Good.val h ?_ hrel
      intro w' _
      simp [execOp, ho, Instr.indexAt, hk, asIntOf, run_und hd, hv, h1, h2, run_size hi', hsz']
    split <;> try trivial
    · rename_i len c
      rintro ⟨h1, h2⟩
      obtain ⟨ad, cap, hv, hlc, hc⟩ := hx
      rcases hc with ⟨rfl, rfl⟩ | ⟨b, off, vs, rfl, hrc, hcell⟩
      · omega
      · exact fin _ _ _ _ hv h2 h1 ⟨_, rfl, b, off, vs, by rw [add_at], hrc, hcell⟩
    · rename_i k' lo len
      split <;> try trivial
      rename_i ty zz c hm
      rintro ⟨h1, h2, h3⟩
      obtain ⟨e', he', ad, cap, hv, hlc, hcap, hc⟩ := hx
      obtain ⟨e2, he2, hesz, _⟩ := h.mem.ent _ _ (mget_mem hm)
      rw [he'] at he2; cases he2
      rcases hc with rfl | ⟨rfl, hc⟩
      · omega
      · exact fin _ _ _ _ hv h2 h1 ⟨_, rfl, e', he', by rw [add_at, hesz, h3, Nat.add_assoc, ← Nat.add_mul]⟩
    · rename_i k' off len m
      rintro ⟨h1, h2⟩
      obtain ⟨e', he', ad, hv, hlc, hc⟩ := hx
      rcases hc with rfl | rfl
      · omega
      · exact fin _ _ _ _ hv h2 h1 ⟨_, rfl, e', he', by rw [add_at]⟩
end
end Go.Sx
