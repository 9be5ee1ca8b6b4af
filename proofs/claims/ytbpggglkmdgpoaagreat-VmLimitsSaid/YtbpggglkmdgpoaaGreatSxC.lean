/-
  SxC: states; what one operation does to them.
-/
import Derived.Test.YtbpggglkmdgpoaaGreatSxB
set_option linter.all false
set_option linter.unusedSimpArgs false
set_option linter.unusedVariables false
namespace Go.Sx
open Go

/-- Calls that wait. -/
def DefR (H : Hp) (β : Env) : List (FuncId × List SV) → List Deferred → Prop
  | [], l => l = []
  | (g, as) :: ds, l => ∃ us vs l', l = { target := .fn (.func g) us, args := vs } :: l' ∧ RelL H β as (vs ++ us).toList ∧ DefR H β ds l'
theorem DefR.mono {H H' : Hp} {β β' : Env} (hH : ∀ b o, H b = some o → H' b = some o) (hβ : ∀ k e, β k = some e → β' k = some e) : ∀ {ds : List (FuncId × List SV)} {l : List Deferred}, DefR H β ds l → DefR H' β' ds l
  | [], _, h => h
  | (g, as) :: ds, _, ⟨us, vs, l', h1, h2, h3⟩ => ⟨us, vs, l', h1, RelL.mono hH hβ _ _ h2, DefR.mono hH hβ h3⟩

structure St (E : Cx) (H : Hp) (β : Env) (own : Nat → Option Nat) (w : World) (a : Act) (L : Slots) (M : Mem) (nk : Nat) : Prop where
  mem : MemOK H β own M w
  later : Later E.H0 E.own0 E.w0 H own w
  kept : ∀ k e, k < E.kp → E.β0 k = some e → β k = some e
  slots : ∀ t s, look L t = some s → ∃ u, a.tmps[t]? = some u ∧ Rel H β s u
  keys : ∀ k, nk ≤ k → β k = none
  size : a.tmps.size = E.fn.ntmps
  defs : DefR H β E.ds a.defers

/-- Nothing that was there has turned. -/
structure Ext (w w' : World) : Prop where
  os : w'.os = w.os
  tape : w'.tape = w.tape
  output : w'.output = w.output
  size : w.heap.size ≤ w'.heap.size
  same : ∀ b, b < w.heap.size → w'.heap[b]? = w.heap[b]?

theorem Ext.refl (w : World) : Ext w w := ⟨rfl, rfl, rfl, Nat.le_refl _, fun _ _ => rfl⟩
theorem Ext.trans {w w' w'' : World} (h : Ext w w') (g : Ext w' w'') : Ext w w'' :=
  ⟨g.os.trans h.os, g.tape.trans h.tape, g.output.trans h.output, Nat.le_trans h.size g.size, fun b hb => by rw [g.same b (Nat.lt_of_lt_of_le hb h.size), h.same b hb]⟩
theorem Ext.cell {w w' : World} (h : Ext w w') {a : Addr} {u : Value} (hc : w.cell? a = some u) : w'.cell? a = some u := by
  have hb : a.block < w.heap.size := block_lt_of_cell hc
  unfold World.cell? at *
  rw [h.same _ hb]; exact hc

/-- An operation that may make memory, and turns none. -/
def extOp (h : FuncId → Option Bool) : Op → Bool
  | .alloc _ => true
  | .box _ _ => true
  | .buildSlice _ _ _ => true
  | .makeSlice _ _ _ => true
  | .call c => match c.callee with
    | .value (.func f) => (h f).getD true
    | _ => false
  | _ => false

/-- An operation that looks at no memory .. -/
def regB : Op → Bool
  | .move _ | .assign _ | .pick .. | .nilCheck _ | .binOp .. | .unOp .. | .fieldAddr .. | .field .. | .indexAddr .. | .index .. | .build .. | .extract .. | .makeFunc .. | .makeInterface .. => true
  | _ => false
/-- .. or only looks. -/
def calmB (op : Op) : Bool :=
  regB op || match op with
  | .load .. | .slice .. | .convert .. => true
  | .call c => match c.callee with
    | .builtin .len | .builtin .min | .builtin .max => true
    | _ => false
  | _ => false
def soft (h : FuncId → Option Bool) (op : Op) : Bool := calmB op || extOp h op

def Good (E : Cx) (o : Oper) (a : Act) (w : World) (H : Hp) (β : Env) (own : Nat → Option Nat) (s : SV) (M' : Mem) (nk' : Nat) : Prop :=
  ∀ (next : Act → World → Prop) (Q : Exit → Act → World → Prop),
    (∀ H' β' own' w' u, MemOK H' β' own' M' w' → Later H own w H' own' w' → (∀ k e, β k = some e → β' k = some e) → (∀ k, nk' ≤ k → β' k = none) → (extOp E.hard o.op = true → Ext w w') →
      Rel H' β' s u → next (a.put o.dst u) w') → o.wp E.P a w next Q

/-- A value, the same in every later world in which nothing has turned. -/
def GoodV (E : Cx) (o : Oper) (a : Act) (w : World) (H : Hp) (β : Env) (s : SV) : Prop :=
  ∃ u, (∀ w', (regB o.op = true ∨ Ext w w') → (execOp a.eval o).run E.P w' = .ok (.value u) w') ∧ Rel H β s u

def OkV (E : Cx) (o : Oper) (a : Act) (w : World) (H : Hp) (β : Env) (own : Nat → Option Nat) (s : SV) (M : Mem) (nk : Nat) : Prop :=
  GoodV E o a w H β s ∨ (extOp E.hard o.op = true ∧ Good E o a w H β own s M nk)

def OutGood (E : Cx) (o : Oper) (a : Act) (w : World) (H : Hp) (β : Env) (own : Nat → Option Nat) (M : Mem) (nk : Nat) : Out → Prop
  | .ok s => OkV E o a w H β own s M nk
  | .okM s M' nk' => Good E o a w H β own s M' nk'
  | .cond p r => p → OutGood E o a w H β own M nk r
  | .any f => ∃ b, OutGood E o a w H β own M nk (f b)
  | .asm p r => p ∧ OutGood E o a w H β own M nk r
  | .stuck => True

section
variable {E : Cx} {o : Oper} {a : Act} {w : World} {H : Hp} {β : Env} {own : Nat → Option Nat} {L : Slots} {M : Mem} {nk : Nat}

theorem St.ev (h : St E H β own w a L M nk) {x : Operand} {s : SV} (hx : ev L x = some s) : Rel H β s (a.eval x) := by
  cases x with
  | tmp t =>
    obtain ⟨u, h1, h2⟩ := h.slots t s hx
    have : a.eval (.tmp t) = u := by simp [Act.eval, h1]
    rw [this]; exact h2
  | const c =>
    simp only [Sx.ev, Option.some.injEq] at hx
    subst hx
    show Rel H β (cst c) c
    unfold cst
    split
    · exact rfl
    · rename_i n
      split
      · rename_i hn; show _ = Value.int .u8 _; rw [UInt8.toNat_ofNat']; congr 1; omega
      · exact rfl
    · rename_i n
      split
      · rename_i hn; show _ = Value.int .u16 _; rw [UInt16.toNat_ofNat']; congr 1; omega
      · exact rfl
    · rename_i n
      split
      · rename_i hn; show _ = Value.int .u32 _; rw [UInt32.toNat_ofNat']; congr 1; omega
      · exact rfl
    · rename_i n
      split
      · rename_i hn; show _ = Value.int .u64 _; rw [UInt64.toNat_ofNat']; congr 1; omega
      · exact rfl
    · exact rfl
    · exact rfl
  | global g => simp [Sx.ev] at hx
  | func f =>
    simp only [Sx.ev, Option.some.injEq] at hx
    subst hx
    exact ⟨[], [], rfl, rfl, rfl⟩

theorem Good.val {s : SV} {u : Value} (_ : St E H β own w a L M nk) (hr : ∀ w', (regB o.op = true ∨ Ext w w') → (execOp a.eval o).run E.P w' = .ok (.value u) w') (hs : Rel H β s u) : OkV E o a w H β own s M nk :=
  .inl ⟨u, hr, hs⟩

theorem OkV.good {s : SV} (h : St E H β own w a L M nk) (hg : OkV E o a w H β own s M nk) : Good E o a w H β own s M nk := by
  rcases hg with ⟨u, hr, hs⟩ | ⟨_, hg⟩
  · intro next Q hn
    unfold Oper.wp
    rw [hr w (.inr (Ext.refl w))]
    exact hn H β own w u h.mem (Later.refl _ _ _) (fun _ _ h => h) h.keys (fun _ => Ext.refl w) hs
  · exact hg

theorem Good.valM {s : SV} {u : Value} {M' : Mem} {nk' : Nat} {H' : Hp} {β' : Env} {own' : Nat → Option Nat} {w' : World}
    (hr : (execOp a.eval o).run E.P w = .ok (.value u) w') (hm : MemOK H' β' own' M' w') (hl : Later H own w H' own' w')
    (hβ : ∀ k e, β k = some e → β' k = some e) (hk : ∀ k, nk' ≤ k → β' k = none) (hx : extOp E.hard o.op = true → Ext w w') (hs : Rel H' β' s u) : Good E o a w H β own s M' nk' := by
  intro next Q hn
  unfold Oper.wp
  rw [hr]
  exact hn H' β' own' w' u hm hl hβ hk hx hs

theorem Good.skipM {M' : Mem} {nk' : Nat} {H' : Hp} {β' : Env} {own' : Nat → Option Nat} {w' : World}
    (hr : (execOp a.eval o).run E.P w = .ok .skip w') (hm : MemOK H' β' own' M' w') (hl : Later H own w H' own' w')
    (hβ : ∀ k e, β k = some e → β' k = some e) (hk : ∀ k, nk' ≤ k → β' k = none) (hx : extOp E.hard o.op = true → Ext w w') : Good E o a w H β own (.v undef) M' nk' := by
  intro next Q hn
  unfold Oper.wp
  rw [hr]
  exact hn H' β' own' w' undef hm hl hβ hk hx rfl
end

/-! ### The program's tables -/
section
variable {P : Program} {T : TypeId → Option Ty}

theorem run_und {t : TypeId} {d : TypeDesc} (h : P.underlying t = some d) (w : World) : (underlying t).run P w = .ok d w := by
  simp [underlying, program, Sem.run, h]
theorem run_info {t : TypeId} {i : TypeInfo} (h : P.info? t = some i) (w : World) : (typeInfo t).run P w = .ok i w := by
  simp [typeInfo, program, Sem.run, h]
theorem run_size {t : TypeId} {i : TypeInfo} (h : P.info? t = some i) (w : World) : (sizeOf t).run P w = .ok i.size w := by
  simp [sizeOf, run_info h]
theorem run_zero {t : TypeId} {i : TypeInfo} {z : Value} (h : P.info? t = some i) (hz : i.zero = some z) (w : World) : (zeroValue t).run P w = .ok z w := by
  simp [zeroValue, run_info h, hz]

def aggD : TypeDesc → Bool
  | .struct _ | .array _ _ => true
  | _ => false
theorem run_isAgg {t : TypeId} {d : TypeDesc} (h : P.underlying t = some d) (w : World) : (isAgg t).run P w = .ok (aggD d) w := by
  unfold isAgg
  simp only [Sem.run_bind, run_und h, Result.andThen_ok]
  unfold aggD
  split <;> simp_all
theorem agg_of_desc {y : Ty} {d : TypeDesc} (h : descB y.d d = true) : aggD d = y.agg := by
  unfold Ty.agg aggD
  unfold descB at h
  split at h <;> simp_all
end

theorem add_at (b off i : Nat) : (⟨b, off, none⟩ : Addr).add i = ⟨b, off + i, none⟩ := by
  unfold Addr.add; split
  · rename_i h; subst h; rfl
  · rfl

/-! ### Loading -/
theorem run_loadRow (P : Program) (w : World) (b off : Nat) (vs : List Value) (h : ∀ j v, vs[j]? = some v → w.cell? ⟨b, off + j, none⟩ = some v) :
    (loadCells ⟨b, off, none⟩ vs.length).run P w = .ok vs.toArray w := by
  have := run_loadCells_list (P := P) (w := w) ⟨b, off, none⟩ vs (fun j v hj => by rw [add_at]; exact h j v hj)
  simpa using this

/-- Reading at an address whose cells are known. -/
theorem rd_good {E : Cx} {o : Oper} {a : Act} {w : World} {H : Hp} {β : Env} {own : Nat → Option Nat} {L : Slots} {M : Mem} {nk : Nat} (h : St E H β own w a L M nk)
    (hT : TyOK E.P E.T) {t : TypeId} {y : Ty} (ht : E.T t = some y) {x : Operand} (ho : o.op = .load t x) {b base : Nat} {c : List SV} {vs : List Value} {off : Nat}
    (hx : a.eval x = .pointer (some ⟨b, base + off, none⟩)) (hr : RelC H β c vs) (hc : ∀ i u, vs[i]? = some u → w.cell? ⟨b, base + i, none⟩ = some u) :
    OutGood E o a w H β own M nk (rd y c off) := by
  obtain ⟨d, i, z, hd, hdb, hi, hsz, hby, hz, hpl, hzl⟩ := hT t y ht
  have hag := agg_of_desc hdb
  unfold rd
  split
  · rename_i hagg
    intro hb
    have hlen : (((vs.drop off).take y.size)).length = y.size := by simp [hr.length]; omega
    have hrow := fun w' (hw' : Ext w w') => run_loadRow E.P w' b (base + off) ((vs.drop off).take y.size) (fun j u hj => by
      rw [List.getElem?_take] at hj
      split at hj
      · rw [List.getElem?_drop] at hj
        have := hw'.cell (hc _ _ hj)
        rwa [← Nat.add_assoc] at this
      · cases hj)
    refine Good.val (s := .g (slc c off y.size)) (u := .agg ((vs.drop off).take y.size).toArray) h ?_ ⟨_, rfl, hr.slc off y.size hb⟩
    rw [hlen] at hrow
    intro w' hw'
    have hw' : Ext w w' := hw'.resolve_left (by simp [ho, regB])
    simp [execOp, ho, hx, Instr.loadAt, Instr.sureAddr, loadVar, run_isAgg hd, hag, hagg, run_size hi, hsz, hrow w' hw']
  · rename_i hagg
    intro hb
    have hg : c[off]? = some (c.getD off y.z0) := by simp [List.getD_eq_getElem?_getD, hb]
    obtain ⟨u, hu, hrel, hat⟩ := hr.get off _ hg
    refine Good.val (s := c.getD off y.z0) (u := u) h ?_ hrel
    intro w' hw'
    have hw' : Ext w w' := hw'.resolve_left (by simp [ho, regB])
    have := hw'.cell (hc _ _ hu)
    simp [execOp, ho, hx, Instr.loadAt, Instr.sureAddr, loadVar, run_isAgg hd, hag, hagg, this]

theorem cell_of_heap {w : World} {b : Nat} {cs : Array Value} {ty : TypeId} {fr : Nat × Nat} (h : w.heap[b]? = some (.cells cs ty fr)) (i : Nat) :
    w.cell? ⟨b, i, none⟩ = cs[i]? := by simp [World.cell?, h]
theorem cell_of_ro {H : Hp} {β : Env} {own : Nat → Option Nat} {M : Mem} {w : World} (h : MemOK H β own M w) {b off : Nat} {u : Value} (hc : H.cell b off = some u) :
    w.cell? ⟨b, off, none⟩ = some u := by
  unfold Hp.cell at hc
  split at hc
  · rename_i c e f hb
    rw [cell_of_heap (h.ro _ _ hb).2]; exact hc
  · cases hc

theorem load_good {E : Cx} {o : Oper} {a : Act} {w : World} {H : Hp} {β : Env} {own : Nat → Option Nat} {L : Slots} {M : Mem} {nk : Nat} (h : St E H β own w a L M nk)
    (hT : TyOK E.P E.T) {t : TypeId} {y : Ty} (ht : E.T t = some y) {x : Operand} (ho : o.op = .load t x) {s : SV} (hs : ev L x = some s) :
    OutGood E o a w H β own M nk (stLoad y M s) := by
  have hrel := h.ev hs
  unfold stLoad
  split
  · rename_i k off
    split
    · rename_i ty c hm
      obtain ⟨e, vs, h1, h2, h3, h4⟩ := h.mem.ent _ _ (mget_mem hm)
      obtain ⟨e', h1', hv⟩ := hrel
      rw [h1] at h1'; cases h1'
      exact rd_good h hT ht ho (base := 0) (by simpa using hv) h3 (fun i u hu => by rw [cell_of_heap h4]; simpa using hu)
    · trivial
  · rename_i k off
    split
    · rename_i ty z c hm
      obtain ⟨e, h1, h2, h3, h4, h5⟩ := h.mem.ent _ _ (mget_mem hm)
      obtain ⟨e', h1', hv⟩ := hrel
      rw [h1] at h1'; cases h1'
      rcases h5 with ⟨hcap, hnil⟩ | ⟨prev, vs, junk, g1, g2, g3, g4, g5, g6⟩
      · subst hnil
        unfold rd
        split
        · rename_i hag
          intro hb
          simp at hb
          obtain ⟨rfl, hz⟩ := hb
          obtain ⟨d, i, z, hd, hdb, hi, hsz, hby, hz', hpl, hzl⟩ := hT t y ht
          refine Good.val (s := .g (slc [] 0 y.size)) (u := .agg #[]) h ?_ ⟨[], rfl, by simp [slc, RelC]⟩
          intro w' _
          simp [execOp, ho, hv, Instr.loadAt, Instr.sureAddr, loadVar, run_isAgg hd, agg_of_desc hdb, hag, run_size hi, hsz, hz, loadCells, loadCellsFrom]
        · intro hb; simp at hb
      · refine rd_good h hT ht ho (base := e.pre) hv g2 (fun i u hu => ?_)
        rw [cell_of_heap g5, g3]
        have hi : i < vs.length := by
          rcases Nat.lt_or_ge i vs.length with h | h
          · exact h
          · rw [List.getElem?_eq_none h] at hu; cases hu
        rw [← hu]; simp [List.getElem?_append, hi]
    · trivial
  · rename_i c off
    obtain ⟨b, base, vs, hv, hr, hc⟩ := hrel
    exact rd_good h hT ht ho hv hr.up (fun i u hu => cell_of_ro h.mem (hc i u hu))
  · trivial


/-! ### Storing -/
def World.put (w : World) (b : Nat) (cs : Array Value) (ty : TypeId) : World := { w with heap := w.heap.setIfInBounds b (.cells cs ty (0, 0)) }

theorem put_same {w : World} {b : Nat} {o : Obj} (hb : w.heap[b]? = some o) (cs : Array Value) (ty : TypeId) : (World.put w b cs ty).heap[b]? = some (.cells cs ty (0, 0)) := by
  have : b < w.heap.size := by
    rcases Nat.lt_or_ge b w.heap.size with h | h
    · exact h
    · simp [Array.getElem?_eq_none h] at hb
  simp [World.put, this]
theorem put_other {w : World} {b b' : Nat} (cs : Array Value) (ty : TypeId) (h : b' ≠ b) : (World.put w b cs ty).heap[b']? = w.heap[b']? := by
  simp only [World.put]
  rw [Array.getElem?_setIfInBounds_ne (fun e => h e.symm)]
theorem put_size {w : World} {b : Nat} (cs : Array Value) (ty : TypeId) : (World.put w b cs ty).heap.size = w.heap.size := by simp [World.put]

theorem setCell_put {w : World} {b off : Nat} {cs : Array Value} {ty : TypeId} (hb : w.heap[b]? = some (.cells cs ty (0, 0))) (u : Value) :
    w.setCell ⟨b, off, none⟩ u = World.put w b (cs.setIfInBounds off u) ty := by
  unfold World.setCell World.put
  congr 1
  apply Array.ext_getElem?
  intro i
  rw [Array.getElem?_modify]
  by_cases h : b = i
  · subst h
    have hlt : b < w.heap.size := by
      rcases Nat.lt_or_ge b w.heap.size with h | h
      · exact h
      · simp [Array.getElem?_eq_none h] at hb
    have hb' : w.heap[b] = .cells cs ty (0, 0) := by simpa [hlt] using hb
    simp [hb', hlt]
  · simp [h, Array.getElem?_setIfInBounds_ne h]

theorem put_put {w : World} {b : Nat} (cs ds : Array Value) (ty : TypeId) : World.put (World.put w b cs ty) b ds ty = World.put w b ds ty := by
  simp [World.put]

theorem put_self {w : World} {b : Nat} {cs : Array Value} {ty : TypeId} (hb : w.heap[b]? = some (.cells cs ty (0, 0))) : World.put w b cs ty = w := by
  unfold World.put
  have : w.heap.setIfInBounds b (.cells cs ty (0, 0)) = w.heap := by
    apply Array.ext_getElem?
    intro i
    rw [Array.getElem?_setIfInBounds]
    by_cases h : b = i
    · subst h
      have hlt : b < w.heap.size := by
        rcases Nat.lt_or_ge b w.heap.size with h | h
        · exact h
        · simp [Array.getElem?_eq_none h] at hb
      have hb' : w.heap[b] = .cells cs ty (0, 0) := by simpa [hlt] using hb
      simp [hb', hlt]
    · simp [h]
  rw [this]

theorem run_store1 {P : Program} {w : World} {b off : Nat} {cs : Array Value} {ty : TypeId} (hb : w.heap[b]? = some (.cells cs ty (0, 0))) (hoff : off < cs.size) {u : Value} (hu : atomV u = true) :
    (store ⟨b, off, none⟩ u).run P w = .ok () (World.put w b (cs.setIfInBounds off u) ty) := by
  have hc : w.cell? ⟨b, off, none⟩ = some cs[off] := by rw [cell_of_heap hb]; simp [hoff]
  have hf : w.frozen? ⟨b, off, none⟩ = false := frozen_of_row w b off cs ty hb
  unfold store
  cases u <;> simp [atomV] at hu <;> simp [Sem.run, hc, hf, setCell_put hb]

/-- Cells written over. -/
def splV (cs : List Value) (off : Nat) (vs : List Value) : List Value := cs.take off ++ vs ++ cs.drop (off + vs.length)

theorem run_storeRow {P : Program} {b off : Nat} {ty : TypeId} : ∀ (vs : List Value) (i : Nat) (w : World) (cs : List Value), w.heap[b]? = some (.cells cs.toArray ty (0, 0)) →
    off + i + vs.length ≤ cs.length → (∀ v ∈ vs, atomV v = true) →
    (storeCells ⟨b, off, none⟩ vs i).run P w = .ok () (World.put w b (splV cs (off + i) vs).toArray ty)
  | [], i, w, cs, hb, _, _ => by
    have : splV cs (off + i) [] = cs := by simp [splV]
    rw [this, put_self hb]
    simp [storeCells]
  | v :: vs, i, w, cs, hb, hlen, ha => by
    simp only [List.length_cons] at hlen
    unfold storeCells
    rw [Sem.run_bind, add_at, run_store1 hb (by simp; omega) (ha v (List.mem_cons_self ..)), Result.andThen_ok]
    have hb' : (World.put w b (cs.toArray.setIfInBounds (off + i) v) ty).heap[b]? = some (.cells (cs.set (off + i) v).toArray ty (0, 0)) := by
      rw [put_same hb]; simp
    rw [run_storeRow vs (i + 1) _ _ hb' (by simp; omega) (fun u hu => ha u (List.mem_cons_of_mem _ hu)), put_put]
    congr 3
    unfold splV
    rw [← Nat.add_assoc]
    apply List.ext_getElem?
    intro j
    simp only [List.getElem?_append, List.length_append, List.length_take, List.length_set, List.length_cons, List.getElem?_take, List.getElem?_drop, List.getElem?_set]
    have e1 : min (off + i + 1) cs.length = off + i + 1 := by omega
    have e2 : min (off + i) cs.length = off + i := by omega
    rw [e1, e2]
    by_cases h1 : j < off + i
    · simp [h1, show j < off + i + 1 + vs.length by omega, show j < off + i + 1 by omega, show j < off + i + (vs.length + 1) by omega, show ¬ off + i = j by omega]
    · by_cases h2 : j = off + i
      · subst h2
        simp [show off + i < off + i + 1 + vs.length by omega, show off + i < cs.length by omega]
      · by_cases h3 : j < off + i + 1 + vs.length
        · have : j - (off + i) = (j - (off + i + 1)) + 1 := by omega
          simp [h1, h3, show ¬ j < off + i + 1 by omega, show j < off + i + (vs.length + 1) by omega, this]
        · simp [h1, h3, show ¬ j < off + i + (vs.length + 1) by omega, show ¬ j < off + i + 1 by omega]
          rw [if_neg (by omega)]
          congr 1
          omega

theorem splV_eq_set (cs : List Value) (off : Nat) (u : Value) (h : off < cs.length) : splV cs off [u] = cs.set off u := by
  unfold splV
  rw [List.set_eq_take_append_cons_drop, if_pos h]
  simp

/-- Memory after one own block has been written. -/
theorem MemOK.update {H : Hp} {β : Env} {own : Nat → Option Nat} {M : Mem} {w w' : World} (h : MemOK H β own M w) {b k : Nat} (hk : own b = some k)
    (hs : w'.heap.size = w.heap.size) (ho : ∀ b', b' ≠ b → w'.heap[b']? = w.heap[b']?) {e : Ent} (he : EntOK H β own w' k e) : MemOK H β own (mset M k e) w' where
  ro b' o hb' := by
    have := h.ro b' o hb'
    refine ⟨this.1, ?_⟩
    rw [ho b' (fun e => by subst e; rw [hk] at this; cases this.1)]; exact this.2
  lt b' k' hb' := by rw [hs]; exact h.lt b' k' hb'
  ent j x hx := by
    rcases mem_mset hx with ⟨rfl, rfl⟩ | ⟨hne, hm⟩
    · exact he
    · refine (h.ent j x hm).stay (fun _ _ h => h) (fun _ _ h => h) (fun b' hb' => ⟨hb', ho b' (fun e => ?_)⟩)
      subst e; rw [hk] at hb'; cases hb'; exact hne rfl

theorem Later.update {H : Hp} {own : Nat → Option Nat} {w w' : World} {b k : Nat} (hk : own b = some k) (hos : w'.os = w.os) (htp : w'.tape = w.tape) (hout : w'.output = w.output)
    (hs : w'.heap.size = w.heap.size) (ho : ∀ b', b' ≠ b → w'.heap[b']? = w.heap[b']?) : Later H own w H own w' :=
  ⟨hos, htp, hout, by omega, fun _ _ h => h, fun _ _ h => .inl h, fun _ h => .inl h, fun b' _ hb' => ho b' (fun e => by subst e; rw [hk] at hb'; cases hb')⟩

section
variable {E : Cx} {o : Oper} {a : Act} {w : World} {H : Hp} {β : Env} {own : Nat → Option Nat} {L : Slots} {M : Mem} {nk : Nat}

theorem atoms_of_relC : ∀ {cs : List SV} {us : List Value}, RelC H β cs us → ∀ v ∈ us, atomV v = true
  | [], _, h, v, hv => by rw [relC_nil] at h; subst h; cases hv
  | x :: xs, _, h, v, hv => by
    rw [relC_cons] at h
    obtain ⟨u, us', rfl, h1, h2, h3⟩ := h
    rcases List.mem_cons.1 hv with rfl | hv
    · exact h2
    · exact atoms_of_relC h3 v hv

theorem relC_splV {cs ds : List SV} {us vs : List Value} (h : RelC H β cs us) (h' : RelC H β ds vs) (off : Nat) (hb : off + ds.length ≤ cs.length) :
    RelC H β (spl cs off ds) (splV us off vs) := h.spl h' off hb

/-- What a store of a value comes to, in the row of an own block. -/
theorem run_storeAt {t : TypeId} {y : Ty} (hT : TyOK E.P E.T) (ht : E.T t = some y) {b off : Nat} {ty : TypeId} {row : List Value} {u : Value} {d : List SV}
    (hb : w.heap[b]? = some (.cells row.toArray ty (0, 0))) (hu : RelC H β d u.cells.toList) (hsz : d.length = y.size) (hoff : off + d.length ≤ row.length) :
    (storeVar t ⟨b, off, none⟩ u).run E.P w = .ok () (World.put w b (splV row off u.cells.toList).toArray ty) := by
  obtain ⟨dd, i, z, hd, hdb, hi, hs, hby, hz, hpl, hzl⟩ := hT t y ht
  have hl : u.cells.toList.length = d.length := hu.length
  have hl' : u.cells.size = i.size := by rw [hs, ← hsz, ← hl]; simp
  unfold storeVar
  simp only [Sem.run_bind, run_size hi, Result.andThen_ok, hl', ne_eq, not_true_eq_false, if_false, Sem.run_pure]
  have := run_storeRow (P := E.P) (b := b) (off := off) (ty := ty) u.cells.toList 0 w row hb (by rw [hl]; simpa using hoff) (atoms_of_relC hu)
  simpa using this

theorem store_good (h : St E H β own w a L M nk) (hT : TyOK E.P E.T) {t : TypeId} {y : Ty} (ht : E.T t = some y) {x v : Operand} (ho : o.op = .store t x v)
    {s r : SV} (hs : ev L x = some s) (hr : ev L v = some r) : OutGood E o a w H β own M nk (stStore y M nk s r) := by
  have hrel := h.ev hs
  have hval := h.ev hr
  unfold stStore
  split
  · trivial
  · rename_i d hd
    have hcells := cellsOf_rel hd hval
    split
    · rename_i k off
      split
      · rename_i ty c hm
        obtain ⟨e, vs, h1, h2, h3, h4⟩ := h.mem.ent _ _ (mget_mem hm)
        obtain ⟨e', h1', hv⟩ := hrel
        rw [h1] at h1'; cases h1'
        have key : ∀ c', d.length = y.size → off + d.length ≤ c.length → RelC H β c' (splV vs off (a.eval v).cells.toList) →
            Good E o a w H β own (.v undef) (mset M k (.cells ty c')) nk := by
          intro c' hsz hoff hc'
          have hrun := run_storeAt (E := E) (w := w) hT ht h4 hcells hsz (by rw [h3.length]; exact hoff)
          refine Good.skipM (w' := World.put w e.blk (splV vs off (a.eval v).cells.toList).toArray ty) (H' := H) (β' := β) (own' := own) ?_ ?_ ?_ (fun _ _ h => h) h.keys (by simp [extOp, ho])
          · simp [execOp, ho, hv, Instr.storeAt, Instr.sureAddr, hrun]
          · exact h.mem.update h2 (put_size _ _) (fun b' hb' => put_other _ _ hb') ⟨e, _, h1, h2, hc', put_same h4 _ _⟩
          · exact Later.update h2 rfl rfl rfl (put_size _ _) (fun b' hb' => put_other _ _ hb')
        unfold wr
        split
        · rename_i x1
          rintro ⟨hsz, hoff⟩
          refine key _ (by simp [hsz]) (by simp only [List.length_singleton]; omega) ?_
          obtain ⟨u, us', hu, hru, hat, hnil⟩ := relC_cons.1 hcells
          rw [relC_nil] at hnil
          subst hnil
          rw [hu, splV_eq_set _ _ _ (by rw [h3.length]; exact hoff)]
          exact h3.set off hru hat
        · rintro ⟨hsz, hoff⟩
          exact key _ hsz hoff (relC_splV h3 hcells off hoff)
      · trivial
    · rename_i k off
      split
      · rename_i ty z c hm
        obtain ⟨e, h1, h2, h3, h4, h5⟩ := h.mem.ent _ _ (mget_mem hm)
        obtain ⟨e', h1', hv⟩ := hrel
        rw [h1] at h1'; cases h1'
        have key : ∀ c', d.length = y.size → off + d.length ≤ c.length → 0 < d.length → c'.length = c.length →
            (∀ vs, RelC H β c vs → RelC H β c' (splV vs off (a.eval v).cells.toList)) →
            Good E o a w H β own (.v undef) (mset M k (.buf ty z c')) nk := by
          intro c' hsz hoff hpos hlen hc'
          rcases h5 with ⟨hcap, hnil⟩ | ⟨prev, vs, junk, g1, g2, g3, g4, g5, g6⟩
          · subst hnil; simp only [List.length_nil] at hoff; omega
          · have hl : (a.eval v).cells.toList.length = d.length := hcells.length
            have hrun := run_storeAt (E := E) (w := w) (off := e.pre + off) hT ht g5 hcells hsz (by simp only [List.length_append, g3, g2.length]; omega)
            have hsp : splV (prev ++ vs ++ junk) (e.pre + off) (a.eval v).cells.toList = prev ++ splV vs off (a.eval v).cells.toList ++ junk := by
              unfold splV
              rw [g3]
              have hle : off + (a.eval v).cells.toList.length ≤ vs.length := by rw [hl, g2.length]; exact hoff
              generalize (a.eval v).cells.toList = q at hle
              have e0 : (prev ++ vs ++ junk).take (prev.length + off) = prev ++ vs.take off := by
                rw [List.append_assoc, List.take_length_add_append, List.take_append_of_le_length (by omega)]
              have e1 : (prev ++ vs ++ junk).drop (prev.length + off + q.length) = vs.drop (off + q.length) ++ junk := by
                rw [List.append_assoc, Nat.add_assoc, List.drop_length_add_append, List.drop_append_of_le_length hle]
              rw [e0, e1]
              simp only [List.append_assoc]
            refine Good.skipM (w' := World.put w e.blk (splV (prev ++ vs ++ junk) (e.pre + off) (a.eval v).cells.toList).toArray ty) (H' := H) (β' := β) (own' := own) ?_ ?_ ?_ (fun _ _ h => h) h.keys (by simp [extOp, ho])
            · simp [execOp, ho, hv, Instr.storeAt, Instr.sureAddr, hrun]
            · refine h.mem.update g1 (put_size _ _) (fun b' hb' => put_other _ _ hb') ⟨e, h1, h2, h3, by rw [hlen]; exact h4, .inr ⟨prev, _, junk, g1, hc' vs g2, g3, ?_, ?_, g6⟩⟩
              · have : (splV vs off (a.eval v).cells.toList).length = vs.length := by
                  have := (hc' vs g2).length; rw [this, hlen, g2.length]
                rw [this]; exact g4
              · rw [put_same g5, hsp]
            · exact Later.update g1 rfl rfl rfl (put_size _ _) (fun b' hb' => put_other _ _ hb')
        unfold wr
        split
        · rename_i x1
          rintro ⟨hsz, hoff⟩
          refine key _ (by simp [hsz]) (by simp only [List.length_singleton]; omega) (by simp) (by simp) (fun vs hvs => ?_)
          obtain ⟨u, us', hu, hru, hat, hnil⟩ := relC_cons.1 hcells
          rw [relC_nil] at hnil
          subst hnil
          rw [hu, splV_eq_set _ _ _ (by rw [hvs.length]; exact hoff)]
          exact hvs.set off hru hat
        · rintro ⟨hsz, hoff⟩
          rcases Nat.eq_zero_or_pos d.length with hz | hz
          · have hd0 : d = [] := List.length_eq_zero_iff.1 hz
            subst hd0
            obtain ⟨dd, i, z', hd', hdb, hi, hs', hby, hz', hpl, hzl⟩ := hT t y ht
            have hnil : (a.eval v).cells.toList = [] := relC_nil.1 hcells
            have hc0 : (a.eval v).cells = #[] := by simpa using hnil
            have hss : spl c off [] = c := by
              unfold spl; split
              · rename_i hl; exact (List.length_eq_zero_iff.1 hl).symm
              · simp
            refine Good.skipM (w' := w) (H' := H) (β' := β) (own' := own) ?_ ?_ (Later.refl _ _ _) (fun _ _ h => h) h.keys (by simp [extOp, ho])
            · simp only [List.length_nil] at hsz
              simp [execOp, ho, hv, Instr.storeAt, Instr.sureAddr, storeVar, run_size hi, hs', ← hsz, hc0, storeCells]
            · refine ⟨h.mem.ro, h.mem.lt, fun j x hx => ?_⟩
              rcases mem_mset hx with ⟨rfl, rfl⟩ | ⟨hne, hm'⟩
              · rw [hss]; exact ⟨e, h1, h2, h3, h4, h5⟩
              · exact h.mem.ent j x hm'
          · exact key _ hsz hoff hz (spl_length c d off hoff) (fun vs hvs => relC_splV hvs hcells off hoff)
      · trivial
    · trivial
end

end Go.Sx
