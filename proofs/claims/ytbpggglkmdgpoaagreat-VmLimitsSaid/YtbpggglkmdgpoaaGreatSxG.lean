/-
  SxG: append, copy, what is built, lengths.
-/
import Derived.Test.YtbpggglkmdgpoaaGreatSxF
import Derived.Laws.BytesString
set_option linter.all false
set_option linter.unusedSimpArgs false
set_option linter.unusedVariables false
namespace Go.Sx
open Go

theorem MemOK.drew {H : Hp} {β : Env} {own : Nat → Option Nat} {M : Mem} {w : World} (h : MemOK H β own M w) : MemOK H β own M w.drew :=
  ⟨h.ro, h.lt, fun k e he => (h.ent k e he).stay (fun _ _ h => h) (fun _ _ h => h) (fun _ hb => ⟨hb, rfl⟩)⟩
theorem Later.drew (H : Hp) (own : Nat → Option Nat) (w : World) : Later H own w H own w.drew :=
  ⟨rfl, rfl, rfl, Nat.le_refl _, fun _ _ h => h, fun _ _ h => .inl h, fun _ h => .inl h, fun _ _ _ => rfl⟩

section
variable {E : Cx} {o : Oper} {a : Act} {w : World} {H : Hp} {β : Env} {own : Nat → Option Nat} {L : Slots} {M : Mem} {nk : Nat}

/-- A slice's elements, read. -/
theorem cont_run (hm : MemOK H β own M w) {esz n : Nat} {s : SV} {c : List SV} (hc : cont M esz s = some (n, c)) (hC : contC M esz s) (hl : c.length = n * esz) {u : Value} (hu : Rel H β s u) :
    ∃ ad cap vs, u = .slice ad n cap ∧ n ≤ cap ∧ RelC H β c vs ∧ ∀ w', w'.heap = w.heap → (Builtin.firstCells esz n u).run E.P w' = .ok vs.toArray w' := by
  have rd : ∀ (b off : Nat) (cap : Nat) (vs : List Value), RelC H β c vs → (∀ j v, vs[j]? = some v → w.cell? ⟨b, off + j, none⟩ = some v) → u = .slice (some ⟨b, off, none⟩) n cap → n ≤ cap →
      ∃ ad cap vs, u = .slice ad n cap ∧ n ≤ cap ∧ RelC H β c vs ∧ ∀ w', w'.heap = w.heap → (Builtin.firstCells esz n u).run E.P w' = .ok vs.toArray w' := by
    rintro b off cap vs hr hcell rfl hn
    refine ⟨_, cap, vs, rfl, hn, hr, fun w' hw' => ?_⟩
    have := run_loadRow E.P w' b off vs (fun j v hj => by have := hcell j v hj; simpa [World.cell?, hw'] using this)
    rw [hr.length, hl] at this
    exact this
  have nl : ∀ ad cap, n = 0 → u = .slice ad n cap → n ≤ cap → ∃ ad cap vs, u = .slice ad n cap ∧ n ≤ cap ∧ RelC H β c vs ∧ ∀ w', w'.heap = w.heap → (Builtin.firstCells esz n u).run E.P w' = .ok vs.toArray w' := by
    rintro ad cap rfl rfl hn
    have : c = [] := List.length_eq_zero_iff.1 (by simpa using hl)
    subst this
    refine ⟨ad, cap, [], rfl, hn, by simp [RelC], fun w' _ => ?_⟩
    cases ad <;> simp [Builtin.firstCells, loadCells, loadCellsFrom]
  unfold cont at hc
  split at hc
  · cases hc
    obtain ⟨ad, cap, rfl, hn, h'⟩ := hu
    rcases h' with ⟨h0, rfl⟩ | ⟨b, off, vs, rfl, hr, hcell⟩
    · exact nl ad cap h0 rfl hn
    · exact rd b off cap vs hr.up (fun j v hj => cell_of_ro hm (hcell j v hj)) rfl hn
  · rename_i k lo m
    split at hc <;> cases hc
    rename_i ty z c' hg
    obtain ⟨e, he, ad, cap, rfl, hn, hcap, h'⟩ := hu
    simp only [contC, hg] at hC
    obtain ⟨e2, h1, h2, h3, h4, h5⟩ := hm.ent _ _ (mget_mem hg)
    rw [he] at h1; cases h1
    rcases h' with rfl | ⟨rfl, hlc⟩
    · exact nl ad 0 (by omega) rfl hn
    · rcases h5 with ⟨hc0, rfl⟩ | ⟨prev, vs, junk, g1, g2, g3, g4, g5, g6⟩
      · exact nl _ cap (by omega) rfl hn
      · refine rd _ _ cap ((vs.drop (lo * z)).take (n * z)) (g2.slc _ _ hC) (fun j v hj => ?_) rfl hn
        rw [List.getElem?_take] at hj
        split at hj
        · rw [List.getElem?_drop] at hj
          rw [cell_of_heap g5, g3, h2]
          have hi : lo * z + j < vs.length := by
            rcases Nat.lt_or_ge (lo * z + j) vs.length with h | h
            · exact h
            · rw [List.getElem?_eq_none h] at hj; cases hj
          simp only [List.getElem?_toArray, List.append_assoc]
          rw [Nat.add_assoc, List.getElem?_append_right (by omega), Nat.add_sub_cancel_left, List.getElem?_append_left hi]
          exact hj
        · cases hj
  · rename_i k off m q
    split at hc <;> cases hc
    rename_i ty c' hg
    obtain ⟨e, he, ad, rfl, hn, h'⟩ := hu
    simp only [contC, hg] at hC
    obtain ⟨e2, vs, h1, h2, h3, h4⟩ := hm.ent _ _ (mget_mem hg)
    rw [he] at h1; cases h1
    rcases h' with rfl | rfl
    · exact nl ad 0 (by omega) rfl hn
    · refine rd _ _ q ((vs.drop off).take (n * esz)) (h3.slc _ _ hC) (fun j v hj => ?_) rfl hn
      rw [List.getElem?_take] at hj
      split at hj
      · rw [List.getElem?_drop] at hj
        rw [cell_of_heap h4]; simpa using hj
      · cases hj
  · cases hc
    obtain rfl : u = _ := hu
    exact nl none 0 rfl rfl (Nat.le_refl _)
  · cases hc

/-- All that a call may read: what is only read, and the own blocks. -/
def unH (H : Hp) (own : Nat → Option Nat) (w : World) : Hp := fun b => if (own b).isSome then w.heap[b]? else H b
theorem unH_mono (hm : MemOK H β own M w) : ∀ b o, H b = some o → unH H own w b = some o := fun b o h => by
  unfold unH; rw [if_neg (by simp [(hm.ro b o h).1])]; exact h
theorem unH_heap (hm : MemOK H β own M w) : ∀ b o, unH H own w b = some o → w.heap[b]? = some o := fun b o h => by
  unfold unH at h; split at h
  · exact h
  · exact (hm.ro b o h).2
theorem unH_own {b k i : Nat} {cs : Array Value} {ty : TypeId} {fr : Nat × Nat} (ho : own b = some k) (hb : w.heap[b]? = some (.cells cs ty fr)) : (unH H own w).cell b i = cs[i]? := by
  unfold Hp.cell unH; simp [ho, hb]
theorem cell_of_un (hm : MemOK H β own M w) {b off : Nat} {u : Value} (hc : (unH H own w).cell b off = some u) : w.cell? ⟨b, off, none⟩ = some u := by
  unfold Hp.cell at hc
  split at hc
  · rename_i c e f hb
    rw [cell_of_heap (unH_heap hm _ _ hb)]; exact hc
  · cases hc

/-- The same, cell by cell, where there is a cell. -/
theorem cont_cells (hm : MemOK H β own M w) {esz n : Nat} {s : SV} {c : List SV} (hc : cont M esz s = some (n, c)) (hC : contC M esz s) (hl : c.length = n * esz) {u : Value} (hu : Rel H β s u) (hpos : c.length ≠ 0) :
    ∃ b off vs cap, u = .slice (some ⟨b, off, none⟩) n cap ∧ RelC H β c vs ∧ ∀ j v, vs[j]? = some v → (unH H own w).cell b (off + j) = some v := by
  unfold cont at hc
  split at hc
  · cases hc
    obtain ⟨ad, cap, rfl, hn, h'⟩ := hu
    rcases h' with ⟨h0, rfl⟩ | ⟨b, off, vs, rfl, hr, hcell⟩
    · exact absurd rfl hpos
    · exact ⟨b, off, vs, cap, rfl, hr.up, fun j v hj => Hp.cell_mono (unH_mono hm) (hcell j v hj)⟩
  · rename_i k lo m
    split at hc <;> cases hc
    rename_i ty z c' hg
    obtain ⟨e, he, ad, cap, rfl, hn, hcap, h'⟩ := hu
    simp only [contC, hg] at hC
    obtain ⟨e2, h1, h2, h3, h4, h5⟩ := hm.ent _ _ (mget_mem hg)
    rw [he] at h1; cases h1
    have hn0 : n ≠ 0 := fun e => by rw [hl, e] at hpos; simp at hpos
    rcases h' with rfl | ⟨rfl, hlc⟩
    · omega
    · rcases h5 with ⟨hc0, rfl⟩ | ⟨prev, vs, junk, g1, g2, g3, g4, g5, g6⟩
      · omega
      · refine ⟨_, _, (vs.drop (lo * z)).take (n * z), cap, rfl, g2.slc _ _ hC, fun j v hj => ?_⟩
        rw [List.getElem?_take] at hj
        split at hj
        · rw [List.getElem?_drop] at hj
          rw [unH_own g1 g5, g3, h2]
          have hi : lo * z + j < vs.length := by
            rcases Nat.lt_or_ge (lo * z + j) vs.length with h | h
            · exact h
            · rw [List.getElem?_eq_none h] at hj; cases hj
          simp only [List.getElem?_toArray, List.append_assoc]
          rw [Nat.add_assoc, List.getElem?_append_right (by omega), Nat.add_sub_cancel_left, List.getElem?_append_left hi]
          exact hj
        · cases hj
  · rename_i k off m q
    split at hc <;> cases hc
    rename_i ty c' hg
    obtain ⟨e, he, ad, rfl, hn, h'⟩ := hu
    simp only [contC, hg] at hC
    obtain ⟨e2, vs, h1, h2, h3, h4⟩ := hm.ent _ _ (mget_mem hg)
    rw [he] at h1; cases h1
    have hn0 : n ≠ 0 := fun e => by rw [hl, e] at hpos; simp at hpos
    rcases h' with rfl | rfl
    · omega
    · refine ⟨_, _, (vs.drop off).take (n * esz), q, rfl, h3.slc _ _ hC, fun j v hj => ?_⟩
      rw [List.getElem?_take] at hj
      split at hj
      · rw [List.getElem?_drop] at hj
        rw [unH_own h2 h4]; simpa using hj
      · cases hj
  · cases hc; exact absurd rfl hpos
  · cases hc

theorem growBy_le (need : Nat) : ∀ (r c : Nat), c ≤ 2 * need + 192 → Builtin.growBy need r c ≤ 2 * need + 192
  | 0, c, h => h
  | r + 1, c, h => by
    unfold Builtin.growBy
    split
    · exact h
    · exact growBy_le need r _ (by omega)
theorem nextcap_le {need cap : Nat} (h : cap < need) : Builtin.nextslicecap need cap ≤ 2 * need + 192 := by
  unfold Builtin.nextslicecap
  split
  · omega
  · split
    · omega
    · exact growBy_le need 4 cap (by omega)

theorem call_builtin {c : Call} {b : Builtin} (ho : o.op = .call c) (hc : c.callee = .builtin b) : ∃ cs, (execOp a.eval o).run E.P w =
    (builtin b c.argTypes o.type cs (c.args.map a.eval)).run E.P w := by
  refine ⟨c.args.map fun | .const _ => true | _ => false, ?_⟩
  simp [execOp, ho, resolve, hc, invoke]
  rfl

theorem flat_rep_get {α : Type} (l : List α) : ∀ (m i : Nat), i < m * l.length → ((List.replicate m l).flatten)[i]? = l[i % l.length]?
  | 0, i, h => by simp at h
  | m + 1, i, h => by
    rw [List.replicate_succ, List.flatten_cons, List.getElem?_append]
    split
    · rename_i hi; rw [Nat.mod_eq_of_lt hi]
    · rename_i hi
      rw [Nat.add_mul, Nat.one_mul] at h
      rw [flat_rep_get l m _ (by omega)]
      congr 1
      exact (Nat.mod_eq_sub_mod (by omega)).symm

theorem flat_rep_length {α : Type} (l : List α) (m : Nat) : ((List.replicate m l).flatten).length = m * l.length := by
  simp [List.length_flatten, List.map_replicate, List.sum_replicate_nat]

theorem made_row (zv : Array Value) (m : Nat) : ((Array.range (m * zv.size)).map (zv[· % zv.size]!)) = (List.replicate m zv.toList).flatten.toArray := by
  apply Array.ext_getElem?
  intro i
  rw [Array.getElem?_map]
  by_cases hi : i < m * zv.size
  · have h0 : 0 < zv.size := Nat.pos_of_ne_zero (fun e => by rw [e] at hi; simp at hi)
    have := flat_rep_get zv.toList m i (by simpa using hi)
    simp only [List.getElem?_toArray, this, Array.length_toList]
    have h1 : i % zv.size < zv.size := Nat.mod_lt _ h0
    simp [hi, h1]
  · have e := flat_rep_length zv.toList m
    simp only [List.getElem?_toArray]
    rw [List.getElem?_eq_none (by rw [e]; simpa using hi)]
    simp [hi]

/-- A new buffer out of nothing, of no room. -/
theorem none_good (hx : extOp E.hard o.op = true → False) (h : St E H β own w a L M nk) {ty : TypeId} {esz : Nat} (hz : 0 < esz) {ad : Option Addr} {M' : Mem} (hM : ∀ k e, (k, e) ∈ M' → (k, e) ∈ M)
    (hrun : (execOp a.eval o).run E.P w = .ok (.value (.slice ad 0 0)) w) : Good E o a w H β own (.os nk 0 0) ((nk, .buf ty esz []) :: M') (nk + 1) := by
  have hk := h.keys nk (Nat.le_refl _)
  refine Good.valM (H' := H) (β' := setK β nk ⟨0, 0, 0, esz⟩) (own' := own) hrun ⟨h.mem.ro, fun b k hb => ?_, fun k e he => ?_⟩ (Later.refl _ _ _) (ext_setK hk _) (keys_setK h.keys _) (fun hh => (hx hh).elim)
    ⟨_, setK_same _ _ _, ad, 0, rfl, Nat.le_refl _, by simp, .inl rfl⟩
  · obtain ⟨h1, e, h2⟩ := h.mem.lt b k hb
    exact ⟨h1, e, ext_setK hk _ _ _ h2⟩
  · rcases List.mem_cons.1 he with he | he
    · cases he; exact ⟨_, setK_same _ _ _, rfl, hz, by simp, .inl ⟨rfl, rfl⟩⟩
    · exact (h.mem.ent k e (hM k e he)).stay (fun _ _ h => h) (ext_setK hk _) (fun _ hb => ⟨hb, rfl⟩)

/-- An append's run where it must grow. -/
theorem run_append_grow {T : TypeId → Option Ty} (hT : TyOK E.P T) {t t2 e e2 : TypeId} {y2 z : Ty} {ts : Array TypeId} (hts : ts[0]? = some t) (hts2 : ts[1]? = some t2)
    {ya : Ty} (hy : T t = some ya) (hyd : ya.d = .slice e) (hy2 : T t2 = some y2) (hy2d : y2.d = .slice e2) (hz : T e = some z) {ty : TypeId}
    {base : Option Addr} {n cap m : Nat} {u : Value} {xs ys : List Value} (hlen : (Builtin.lenOf u).run E.P w = .ok m w)
    (hx : (Builtin.firstCells z.size n (.slice base n cap)).run E.P w.drew = .ok xs.toArray w.drew) (hu : (Builtin.firstCells z.size m u).run E.P w.drew = .ok ys.toArray w.drew)
    (hgrow : cap < n + m) (hb0 : 0 < z.bytes) (hb1 : z.bytes ≤ 1048576) (hb : (n + m) * z.bytes ≤ 70368744177664) (hxl : xs.length = n * z.size) (hyl : ys.length = m * z.size) :
    ∃ nc junk, n + m ≤ nc ∧ (xs ++ ys).length + junk.length = nc * z.size ∧ (∀ v ∈ junk, atomV v = true) ∧
      (Builtin.append_ ts ty #[.slice base n cap, u]).run E.P w = .ok (.slice (some ⟨w.heap.size, 0, none⟩) (n + m) nc) (w.drew.alloc (.cells ((xs ++ ys) ++ junk).toArray e)) := by
  obtain ⟨d, i, zv, hd, hdb, _⟩ := hT t ya hy
  rw [hyd] at hdb
  obtain rfl := desc_slice hdb
  obtain ⟨d2, i2, zv2, hd2, hdb2, _⟩ := hT t2 y2 hy2
  rw [hy2d] at hdb2
  obtain rfl := desc_slice hdb2
  obtain ⟨d', i', zv', hd', hdb', hi', hsz', hby', hzv', hpl', hzl'⟩ := hT e z hz
  have hncap := nextcap_le hgrow
  have hnb : Builtin.nextslicecap (n + m) cap * z.bytes ≤ 281474976710656 := by
    have h1 : (2 * (n + m) + 192) * z.bytes = 2 * ((n + m) * z.bytes) + 192 * z.bytes := by rw [Nat.add_mul, Nat.mul_assoc]
    have h2 := Nat.mul_le_mul_right z.bytes hncap
    omega
  have hnm : n + m ≤ 70368744177664 := Nat.le_trans (Nat.le_mul_of_pos_right _ hb0) hb
  have hzsz : zv'.cells.size = z.size := by
    have := (plainL_rel (H := fun _ => none) (β := fun _ => none) (plainZ_pl hpl')).length
    rw [← hzl', ← this]; simp
  let q := Question.appendCap (n + m) cap e
  let nc := q.cut (w.tape w.drawn q)
  have hnc : n + m ≤ nc := by show n + m ≤ n + m + _; omega
  refine ⟨nc, (Builtin.zeroCells zv'.cells (nc - (n + m))).toList, hnc, ?_, ?_, ?_⟩
  · simp only [List.length_append, hxl, hyl, Builtin.zeroCells, Array.toList_map, List.length_map, Array.length_toList, Array.size_range, hzsz]
    rw [← Nat.add_mul, ← Nat.add_mul]; congr 1; omega
  · have hza := atoms_of_relC (plainL_rel (H := fun _ => none) (β := fun _ => none) (plainZ_pl hpl'))
    have hzc : (Builtin.zeroCells zv'.cells (nc - (n + m))).toList = (List.replicate (nc - (n + m)) zv'.cells.toList).flatten := by
      have := made_row zv'.cells (nc - (n + m))
      unfold Builtin.zeroCells
      rw [this]
    rw [hzc]
    intro v hv
    obtain ⟨l, hl, hvl⟩ := List.mem_flatten.1 hv
    rw [List.eq_of_mem_replicate hl] at hvl
    exact hza v hvl
  · have hch : (choose q).run E.P w = .ok nc w.drew := by
      rw [run_choose]; rfl
    unfold Builtin.append_
    simp only [show (#[Value.slice base n cap, u] : Array Value)[0]? = some (Value.slice base n cap) from rfl, show (#[Value.slice base n cap, u] : Array Value)[1]? = some u from rfl, hts, hts2]
    simp only [Sem.run_bind, run_und hd, Result.andThen_ok, run_size hi', hsz', run_und hd2, Sem.run_pure]
    simp only [Bool.false_eq_true, if_false, false_or, Bool.not_false, if_true]
    rw [Sem.run_bind, hlen, Result.andThen_ok, if_neg (show ¬ (n + m ≤ cap) by omega), Sem.run_bind, run_info hi', Result.andThen_ok, hby',
      if_neg (by rintro ⟨_, h⟩; omega), Sem.run_bind, run_info hi', Result.andThen_ok, hby',
      if_neg (show ¬ (Builtin.nextslicecap (n + m) cap * z.bytes > 2 ^ 48) by simp only [Nat.not_lt]; exact hnb), Sem.run_bind, hch, Result.andThen_ok, Sem.run_bind, run_info hi', Result.andThen_ok,
      Sem.run_bind, run_askRoom, Result.andThen_ok, Sem.run_bind, hx, Result.andThen_ok, Sem.run_bind, hu, Result.andThen_ok, Sem.run_bind, run_zero hi' hzv', Result.andThen_ok,
      Sem.run_bind, run_newRow, Result.andThen_ok, Sem.run_pure]
    have e1 : xs.toArray ++ ys.toArray ++ Builtin.zeroCells zv'.cells (nc - (n + m)) = (xs ++ ys ++ (Builtin.zeroCells zv'.cells (nc - (n + m))).toList).toArray := by
      apply Array.ext'; simp
    rw [e1]
    rfl

/-- An append's run where there is room. -/
theorem run_append_room {T : TypeId → Option Ty} (hT : TyOK E.P T) {t t2 e e2 : TypeId} {y2 z : Ty} {ts : Array TypeId} (hts : ts[0]? = some t) (hts2 : ts[1]? = some t2)
    {ya : Ty} (hy : T t = some ya) (hyd : ya.d = .slice e) (hy2 : T t2 = some y2) (hy2d : y2.d = .slice e2) (hz : T e = some z) {ty : TypeId}
    {base : Option Addr} {n cap m : Nat} {u : Value} {ys : List Value} (hlen : (Builtin.lenOf u).run E.P w = .ok m w)
    (hu : (Builtin.firstCells z.size m u).run E.P w = .ok ys.toArray w) (hroom : n + m ≤ cap) {w' : World}
    (hst : (match base with | some a => storeCells (a.add (n * z.size)) ys | none => pure ()).run E.P w = .ok () w') :
    (Builtin.append_ ts ty #[.slice base n cap, u]).run E.P w = .ok (.slice base (n + m) cap) w' := by
  obtain ⟨d, i, zv, hd, hdb, _⟩ := hT t ya hy
  rw [hyd] at hdb
  obtain rfl := desc_slice hdb
  obtain ⟨d2, i2, zv2, hd2, hdb2, _⟩ := hT t2 y2 hy2
  rw [hy2d] at hdb2
  obtain rfl := desc_slice hdb2
  obtain ⟨d', i', zv', hd', hdb', hi', hsz', hby', hzv', hpl', hzl'⟩ := hT e z hz
  unfold Builtin.append_
  simp only [show (#[Value.slice base n cap, u] : Array Value)[0]? = some (Value.slice base n cap) from rfl, show (#[Value.slice base n cap, u] : Array Value)[1]? = some u from rfl, hts, hts2]
  simp only [Sem.run_bind, run_und hd, Result.andThen_ok, run_size hi', hsz', run_und hd2, Sem.run_pure]
  simp only [Bool.false_eq_true, if_false, Bool.not_false, if_true]
  rw [Sem.run_bind, hlen, Result.andThen_ok, if_pos hroom, Sem.run_bind, hu, Result.andThen_ok]
  cases base with
  | none =>
    simp only [Sem.run_pure] at hst
    cases hst
    rfl
  | some ad =>
    dsimp only at hst ⊢
    rw [Sem.run_bind, hst]
    rfl

/-- A new buffer behind a draw. -/
theorem grow_good (hx : extOp E.hard o.op = true → False) (h : St E H β own w a L M nk) {t : TypeId} {esz : Nat} (hz : 0 < esz) {n cap : Nat} {cs : List SV} {vs junk : List Value} (hr : RelC H β cs vs) (hn : n ≤ cap)
    (hl : cs.length ≤ cap * esz) (hj : vs.length + junk.length = cap * esz) (hja : ∀ v ∈ junk, atomV v = true) {M' : Mem} (hM : ∀ k e, (k, e) ∈ M' → (k, e) ∈ M)
    (hrun : (execOp a.eval o).run E.P w = .ok (.value (.slice (some ⟨w.heap.size, 0, none⟩) n cap)) (w.drew.alloc (.cells (vs ++ junk).toArray t))) :
    Good E o a w H β own (.os nk 0 n) ((nk, .buf t esz cs) :: M') (nk + 1) := by
  have hk := h.keys nk (Nat.le_refl _)
  have hm' : MemOK H β own M' w.drew := ⟨h.mem.drew.ro, h.mem.drew.lt, fun k e he => h.mem.drew.ent k e (hM k e he)⟩
  refine Good.valM hrun (hm'.grow hk _ (ke := ⟨w.heap.size, 0, cap, esz⟩) rfl (e := .buf t esz cs) ?_) ((Later.drew H own w).trans (Later.grow _ _ _ _ _)) (ext_setK hk _) (keys_setK h.keys _) (fun hh => (hx hh).elim)
    ⟨_, setK_same _ _ _, some ⟨w.heap.size, 0, none⟩, cap, rfl, hn, by simp, .inr ⟨by simp, by simp⟩⟩
  refine ⟨_, setK_same _ _ _, rfl, hz, hl, .inr ⟨[], vs, junk, setK_same _ _ _, RelC.mono (fun _ _ h => h) (ext_setK hk _) _ _ hr, rfl, hj, ?_, by simpa using hja⟩⟩
  simpa using heap_alloc_new w.drew (.cells (vs ++ junk).toArray t)

theorem args2 {c : Call} {x y : Operand} (h : c.args.toList = [x, y]) : c.args.map a.eval = #[a.eval x, a.eval y] := by
  have : c.args = #[x, y] := by apply Array.toList_inj.1; simpa using h
  rw [this]; simp

theorem evs2 {xs : List Operand} {s r : SV} (h : evs L xs = some [s, r]) : ∃ x y, xs = [x, y] ∧ ev L x = some s ∧ ev L y = some r := by
  match xs with
  | [] => simp [evs] at h
  | [x] =>
    simp only [evs] at h
    split at h <;> simp_all
  | [x, y] =>
    simp only [evs] at h
    refine ⟨x, y, rfl, ?_⟩
    cases hx : ev L x <;> cases hy : ev L y <;> simp_all
  | x :: y :: z :: l =>
    simp only [evs] at h
    exfalso
    cases hx : ev L x <;> cases hy : ev L y <;> cases hz : ev L z <;> cases hl : evs L l <;> simp_all
theorem evs1 {xs : List Operand} {s : SV} (h : evs L xs = some [s]) : ∃ x, xs = [x] ∧ ev L x = some s := by
  match xs with
  | [] => simp [evs] at h
  | [x] =>
    simp only [evs] at h
    refine ⟨x, rfl, ?_⟩
    cases hx : ev L x <;> simp_all
  | x :: y :: l =>
    simp only [evs] at h
    exfalso
    cases hx : ev L x <;> cases hy : ev L y <;> cases hl : evs L l <;> simp_all

theorem getD_some {ts : Array TypeId} {i : Nat} {T : TypeId → Option Ty} (h0 : ∀ y, T 0 = some y → ∀ e, y.d ≠ .slice e) {y : Ty} {e : TypeId} (h : T (ts.getD i 0) = some y) (hy : y.d = .slice e) : ts[i]? = some (ts.getD i 0) := by
  by_cases hi : i < ts.size
  · simp [hi]
  · have : ts.getD i 0 = 0 := by simp [Array.getElem?_eq_none (Nat.le_of_not_lt hi)]
    rw [this] at h
    exact absurd hy (h0 y h e)

theorem app_sc_good (h : St E H β own w a L M nk) (hT : TyOK E.P E.T) {c : Call} (ho : o.op = .call c) (hc : c.callee = .builtin .append)
    {t t2 e e2 : TypeId} {ya y2 z : Ty} (g0 : c.argTypes[0]? = some t) (g1 : c.argTypes[1]? = some t2) (ht : E.T t = some ya) (hyd : ya.d = .slice e) (ht2 : E.T t2 = some y2) (hy2d : y2.d = .slice e2) (hz : E.T e = some z)
    {x y : Operand} (hxy : c.args.toList = [x, y]) {k off n mx m : Nat} {ty : TypeId} {row ys : List SV} (hxr : Rel H β (.sc k off n mx) (a.eval x)) {r : SV} (hcont : cont M z.size r = some (m, ys)) (hg : mget M k = some (.cells ty row)) (hyr : Rel H β r (a.eval y))
    (hC : contC M z.size r) (hyl : ys.length = m * z.size) (hroom : n + m ≤ mx) (hle : off + (n + m) * z.size ≤ row.length) :
    Good E o a w H β own (.sc k off (n + m) mx) (mset M k (.cells ty (spl row (off + n * z.size) ys))) nk := by
  have hxo : extOp E.hard o.op = true → False := by simp [extOp, ho, hc]
  obtain ⟨cs, hrun⟩ := call_builtin (E := E) (a := a) (w := w) ho hc
  rw [args2 hxy] at hrun
  obtain ⟨ad, cap, vs, hv, hmc, hvr, hfc⟩ := cont_run (E := E) h.mem hcont hC hyl hyr
  have hlen : (Builtin.lenOf (a.eval y)).run E.P w = .ok m w := by rw [hv]; rfl
  obtain ⟨ke, hke, adx, hvx, hnx, hax⟩ := hxr
  obtain ⟨e2', rv, h1, h2, h3, h4⟩ := h.mem.ent _ _ (mget_mem hg)
  rw [hke] at h1; cases h1
  have hvl : vs.length = m * z.size := by rw [hvr.length]; exact hyl
  have hle2 : off + n * z.size + m * z.size ≤ row.length := by rw [Nat.add_mul] at hle; omega
  have hst : (match adx with | some a => storeCells (a.add (n * z.size)) vs | none => pure ()).run E.P w = .ok () (World.put w ke.blk (splV rv (off + n * z.size) vs).toArray ty) := by
    rcases hax with rfl | rfl
    · have hm0 : m = 0 := by omega
      have : vs = [] := List.length_eq_zero_iff.1 (by rw [hvl, hm0, Nat.zero_mul])
      subst this
      have e1 : splV rv (off + n * z.size) [] = rv := by simp [splV]
      rw [e1, put_self h4]
      cases adx <;> simp [storeCells]
    · dsimp only
      rw [add_at]
      exact run_storeRow (P := E.P) (b := ke.blk) (off := off + n * z.size) (ty := ty) vs 0 w rv h4 (by rw [hvl, h3.length]; exact hle2) (atoms_of_relC hvr)
  have hr2 := run_append_room (E := E) (w := w) hT g0 g1 ht hyd ht2 hy2d hz (ty := o.type) (base := adx) (n := n) (cap := mx) hlen (hfc w rfl) hroom hst
  refine Good.valM (u := .slice adx (n + m) mx) (w' := World.put w ke.blk (splV rv (off + n * z.size) vs).toArray ty) (H' := H) (β' := β) (own' := own) (by rw [hrun, hvx]; simp [builtin, hr2]) ?_ ?_ (fun _ _ h => h) h.keys (fun hh => (hxo hh).elim) ⟨ke, hke, adx, rfl, hroom, hax⟩
  · exact h.mem.update h2 (put_size _ _) (fun b' hb' => put_other _ _ hb') ⟨ke, _, hke, h2, relC_splV h3 hvr (off + n * z.size) (by rw [hyl]; exact hle2), put_same h4 _ _⟩
  · exact Later.update h2 rfl rfl rfl (put_size _ _) (fun b' hb' => put_other _ _ hb')

theorem append_good (h : St E H β own w a L M nk) (hT : TyOK E.P E.T) (hT0 : ∀ y, E.T 0 = some y → ∀ e, y.d ≠ .slice e) {c : Call} (ho : o.op = .call c) (hc : c.callee = .builtin .append)
    {s r : SV} (hev : evs L c.args.toList = some [s, r]) : OutGood E o a w H β own M nk (stAppend E.T (c.argTypes.getD 0 0) (c.argTypes.getD 1 0) M nk s r) := by
  have hxo : extOp E.hard o.op = true → False := by simp [extOp, ho, hc]
  obtain ⟨x, y, hxy, hx, hy⟩ := evs2 hev
  obtain ⟨cs, hrun⟩ := call_builtin (E := E) (a := a) (w := w) ho hc
  rw [args2 hxy] at hrun
  have hxr := h.ev hx
  have hyr := h.ev hy
  unfold stAppend
  split <;> try trivial
  rename_i e sz1 by1 ze1 e2 sz2 by2 ze2 ht ht2
  have g0 := getD_some hT0 ht rfl
  have g1 := getD_some hT0 ht2 rfl
  split <;> try trivial
  rename_i z hz
  split <;> try trivial
  rename_i m ys hcont
  split <;> try trivial
  · -- onto nil
    rintro ⟨hC, hz0, hb0, hb1, hb, hyl⟩
    obtain ⟨ad, cap, vs, hv, hmc, hvr, hfc⟩ := cont_run (E := E) h.mem hcont hC hyl hyr
    have hxv : a.eval x = .slice none 0 0 := hxr
    rw [hxv] at hrun
    have hlen : ∀ w, (Builtin.lenOf (a.eval y)).run E.P w = .ok m w := fun w => by rw [hv]; rfl
    by_cases hm0 : m = 0
    · subst hm0
      have hys : ys = [] := List.length_eq_zero_iff.1 (by simpa using hyl)
      subst hys
      have hvs : vs = [] := relC_nil.1 hvr
      subst hvs
      refine none_good hxo h hz0 (ad := none) (fun _ _ h => h) ?_
      have := run_append_room (E := E) (w := w) hT g0 g1 ht rfl ht2 rfl hz (ty := o.type) (base := none) (n := 0) (cap := 0) (hlen w) (hfc w rfl) (Nat.le_refl _) (w' := w) rfl
      rw [hrun]
      simp [builtin, this]
    · obtain ⟨nc, junk, hnc, hj, hja, hr2⟩ := run_append_grow (E := E) (w := w) hT g0 g1 ht rfl ht2 rfl hz (ty := o.type) (base := none) (n := 0) (cap := 0) (xs := []) (ys := vs) (hlen w) rfl (hfc _ rfl)
        (by omega) hb0 hb1 (by simpa using hb) (by simp) (by rw [hvr.length]; exact hyl)
      simp only [Nat.zero_add, List.nil_append] at hnc hj hr2
      refine grow_good hxo h hz0 hvr hnc (by rw [hyl]; exact Nat.mul_le_mul_right _ hnc) hj hja (fun _ _ h => h) ?_
      rw [hrun]
      simp [builtin, hr2]
  · rename_i k lo n
    split <;> try trivial
    rename_i ty0 zz c hg
    rintro ⟨hC, hte, hzz, hz0, hb0, hb1, hb, hyl, hle⟩
    subst hzz hte
    obtain ⟨ad, cap, vs, hv, hmc, hvr, hfc⟩ := cont_run (E := E) h.mem hcont hC hyl hyr
    have hlen : ∀ w, (Builtin.lenOf (a.eval y)).run E.P w = .ok m w := fun w => by rw [hv]; rfl
    have hcl : (slc c (lo * z.size) (n * z.size)).length = n * z.size := slc_length _ _ _ hle
    obtain ⟨adx, capx, vsx, hvx, hnx, hvrx, hfcx⟩ := cont_run (E := E) (esz := z.size) (n := n) (s := .os k lo n) (c := slc c (lo * z.size) (n * z.size)) h.mem (by simp [cont, hg]) (by simp [contC, hg, hle]) hcl hxr
    rw [hvx] at hrun hfcx
    have hdel : ∀ k' e', (k', e') ∈ mdel M k → (k', e') ∈ M := fun k' e' he => (mem_mdel he).2
    have hxl : vsx.length = n * z.size := by rw [hvrx.length]; exact hcl
    have hvl : vs.length = m * z.size := by rw [hvr.length]; exact hyl
    by_cases hroom : n + m ≤ capx
    · -- in place
      obtain ⟨e, he, ad', cap', hv', hn', hcap', hc'⟩ := hxr
      rw [hvx] at hv'; cases hv'
      rcases hc' with rfl | ⟨rfl, hlc⟩
      · obtain ⟨rfl, rfl⟩ : n = 0 ∧ m = 0 := by omega
        have hvs : vs = [] := List.length_eq_zero_iff.1 (by simpa using hvl)
        subst hvs
        have hys : ys = [] := List.length_eq_zero_iff.1 (by simpa using hyl)
        subst hys
        have e0 : slc c (lo * z.size) (0 * z.size) ++ [] = [] := by
          rw [List.append_nil]; exact List.length_eq_zero_iff.1 (by simpa using hcl)
        rw [e0]
        refine none_good hxo h hz0 (ad := adx) hdel ?_
        have hst : (match adx with | some a => storeCells (a.add (0 * z.size)) [] | none => pure ()).run E.P w = .ok () w := by cases adx <;> simp [storeCells]
        have := run_append_room (E := E) (w := w) hT g0 g1 ht rfl ht2 rfl hz (ty := o.type) (base := adx) (n := 0) (cap := 0) (hlen w) (hfc w rfl) (Nat.le_refl _) hst
        rw [hrun]
        simp [builtin, this]
      · obtain ⟨e2, h1, h2, h3, h4, h5⟩ := h.mem.ent _ _ (mget_mem hg)
        rw [he] at h1; cases h1
        rcases h5 with ⟨hc0, rfl⟩ | ⟨prev, us, junk, p1, p2, p3, p4, p5, p6⟩
        · obtain ⟨rfl, rfl⟩ : n = 0 ∧ m = 0 := by omega
          have hvs : vs = [] := List.length_eq_zero_iff.1 (by simpa using hvl)
          subst hvs
          have hys : ys = [] := List.length_eq_zero_iff.1 (by simpa using hyl)
          subst hys
          have hcx : capx = 0 := by omega
          subst hcx
          have e0 : slc ([] : List SV) (lo * z.size) (0 * z.size) ++ [] = [] := by
            rw [List.append_nil]; exact List.length_eq_zero_iff.1 (by simpa using hcl)
          rw [e0]
          refine none_good hxo h hz0 hdel (ad := some ⟨e.blk, e.pre + lo * e.esz, none⟩) ?_
          have hst : (match (some ⟨e.blk, e.pre + lo * e.esz, none⟩ : Option Addr) with | some a => storeCells (a.add (0 * z.size)) [] | none => pure ()).run E.P w = .ok () w := by simp [storeCells]
          have := run_append_room (E := E) (w := w) hT g0 g1 ht rfl ht2 rfl hz (ty := o.type) (base := some ⟨e.blk, e.pre + lo * e.esz, none⟩) (n := 0) (cap := 0) (hlen w) (hfc w rfl) (Nat.le_refl _) hst
          rw [hrun]
          simp [builtin, this]
        · have hul : us.length = c.length := p2.length
          have hcapz : lo * z.size + capx * z.size = e.cap * z.size := by rw [← Nat.add_mul, hlc]
          have hnmz : n * z.size + m * z.size ≤ capx * z.size := by rw [← Nat.add_mul]; exact Nat.mul_le_mul_right _ hroom
          let R := prev ++ us ++ junk
          have hRl : R.length = prev.length + us.length + junk.length := by simp only [R, List.length_append]
          let off := prev.length + lo * z.size + n * z.size
          have hst0 := run_storeRow (P := E.P) (b := e.blk) (off := off) (ty := ty0) vs 0 w R p5 (by rw [hRl, hvl]; omega) (atoms_of_relC hvr)
          have hst : (match (some ⟨e.blk, e.pre + lo * e.esz, none⟩ : Option Addr) with | some a => storeCells (a.add (n * z.size)) vs | none => pure ()).run E.P w =
              .ok () (World.put w e.blk (splV R off vs).toArray ty0) := by
            dsimp only
            rw [add_at, h2, p3]
            exact hst0
          have hr2 := run_append_room (E := E) (w := w) hT g0 g1 ht rfl ht2 rfl hz (ty := o.type) (base := some ⟨e.blk, e.pre + lo * e.esz, none⟩) (n := n) (cap := capx) (hlen w) (hfc w rfl) hroom hst
          have hk := h.keys nk (Nat.le_refl _)
          have hko : k ≠ nk := fun e' => by subst e'; rw [hk] at he; cases he
          have hR1 : R.take off = R.take (prev.length + lo * z.size) ++ (us.drop (lo * z.size)).take (n * z.size) := by
            show R.take (prev.length + lo * z.size + n * z.size) = _
            rw [List.take_add]
            congr 1
            show ((prev ++ us ++ junk).drop (prev.length + lo * z.size)).take (n * z.size) = _
            rw [List.append_assoc, List.drop_length_add_append, List.drop_append_of_le_length (by omega), List.take_append_of_le_length (by simp; omega)]
          have hsp : splV R off vs = R.take (prev.length + lo * z.size) ++ ((us.drop (lo * z.size)).take (n * z.size) ++ vs) ++ R.drop (off + vs.length) := by
            unfold splV; rw [hR1]; simp only [List.append_assoc]
          have hty : EntOK H (setK β nk ⟨e.blk, prev.length + lo * z.size, capx, z.size⟩) (setK own e.blk nk) (World.put w e.blk (splV R off vs).toArray ty0) nk (.buf ty0 z.size (slc c (lo * z.size) (n * z.size) ++ ys)) := by
            refine ⟨_, setK_same _ _ _, rfl, hz0, by rw [List.length_append, hcl, hyl]; exact hnmz, .inr ⟨R.take (prev.length + lo * z.size), (us.drop (lo * z.size)).take (n * z.size) ++ vs, R.drop (off + vs.length), setK_same _ _ _,
              RelC.mono (fun _ _ h => h) (ext_setK hk _) _ _ ((p2.slc _ _ hle).append hvr), ?_, ?_, ?_, ?_⟩⟩
            · rw [List.length_take, hRl]; show prev.length + lo * z.size = _; omega
            · simp only [List.length_append, List.length_take, List.length_drop, hRl]
              have : min (n * z.size) (us.length - lo * z.size) = n * z.size := by omega
              rw [this, hvl]
              show n * z.size + m * z.size + (prev.length + us.length + junk.length - (prev.length + lo * z.size + n * z.size + m * z.size)) = capx * z.size
              omega
            · rw [put_same p5, hsp]
            · intro v hv
              have hva := atoms_of_relC p2
              have hRa : ∀ v ∈ R, atomV v = true := by
                intro v hv
                simp only [R, List.mem_append] at hv
                rcases hv with (hv | hv) | hv
                · exact p6 v (List.mem_append.2 (.inl hv))
                · exact hva v hv
                · exact p6 v (List.mem_append.2 (.inr hv))
              rcases List.mem_append.1 hv with hv | hv
              · exact hRa v (List.mem_of_mem_take hv)
              · exact hRa v (List.mem_of_mem_drop hv)
          refine Good.valM (u := .slice (some ⟨e.blk, e.pre + lo * e.esz, none⟩) (n + m) capx) (w' := World.put w e.blk (splV R off vs).toArray ty0) (H' := H) (β' := setK β nk ⟨e.blk, prev.length + lo * z.size, capx, z.size⟩) (own' := setK own e.blk nk) (by rw [hrun]; simp [builtin, hr2]) ?_ ?_
            (ext_setK hk _) (keys_setK h.keys _) (fun hh => (hxo hh).elim) ⟨_, setK_same _ _ _, some ⟨e.blk, e.pre + lo * e.esz, none⟩, capx, rfl, hroom, by simp, .inr ⟨by simp [p3, h2], by simp⟩⟩
          · refine ⟨fun b x hx => ?_, fun b j hj' => ?_, fun j x hx => ?_⟩
            · have hro := h.mem.ro b x hx
              have hbne : b ≠ e.blk := fun e' => by subst e'; rw [p1] at hro; cases hro.1
              exact ⟨by rw [setK_other _ _ hbne]; exact hro.1, by rw [put_other _ _ hbne]; exact hro.2⟩
            · rw [put_size]
              by_cases hbe : b = e.blk
              · subst hbe; rw [setK_same] at hj'; cases hj'
                exact ⟨(h.mem.lt _ _ p1).1, _, setK_same _ _ _⟩
              · rw [setK_other _ _ hbe] at hj'
                obtain ⟨q1, q2, q3⟩ := h.mem.lt b j hj'
                exact ⟨q1, q2, ext_setK hk _ _ _ q3⟩
            · rcases List.mem_cons.1 hx with hx | hx
              · cases hx
                exact hty
              · obtain ⟨hjk, hjm⟩ := mem_mdel hx
                refine (h.mem.ent j x hjm).stay (fun _ _ h => h) (ext_setK hk _) (fun b hb' => ?_)
                have hbne : b ≠ e.blk := fun e' => by subst e'; rw [p1] at hb'; cases hb'; exact hjk rfl
                exact ⟨by rw [setK_other _ _ hbne]; exact hb', put_other _ _ hbne⟩
          · refine ⟨rfl, rfl, rfl, by rw [put_size]; exact Nat.le_refl _, fun _ _ h => h, fun _ _ h => .inl h, fun b hb' => ?_, fun b hb' ho' => ?_⟩
            · left
              by_cases hbe : b = e.blk
              · subst hbe; rw [p1]; simp
              · rw [setK_other _ _ hbe] at hb'; exact hb'
            · exact put_other _ _ (fun e' => by subst e'; rw [p1] at ho'; cases ho')
    · obtain ⟨nc, junk, hnc, hj, hja, hr2⟩ := run_append_grow (E := E) (w := w) hT g0 g1 ht rfl ht2 rfl hz (ty := o.type) (base := adx) (n := n) (cap := capx) (xs := vsx) (ys := vs) (hlen w) (hfcx _ rfl) (hfc _ rfl)
        (by omega) hb0 hb1 hb hxl hvl
      refine grow_good hxo h hz0 (hvrx.append hvr) hnc ?_ hj hja hdel ?_
      · rw [List.length_append, hcl, hyl, ← Nat.add_mul]; exact Nat.mul_le_mul_right _ hnc
      · rw [hrun]
        simp [builtin, hr2]
  · rename_i k off n mx
    split <;> try trivial
    rename_i ty row hg
    rintro ⟨hC, hyl, hroom, hle⟩
    exact app_sc_good h hT ho hc g0 g1 ht rfl ht2 rfl hz hxy hxr hcont hg hyr hC hyl hroom hle

theorem clear_good (h : St E H β own w a L M nk) (hT : TyOK E.P E.T) (hT0 : ∀ y, E.T 0 = some y → ∀ e, y.d ≠ .slice e) {c : Call} (ho : o.op = .call c) (hc : c.callee = .builtin .clear)
    {s : SV} (hev : evs L c.args.toList = some [s]) : OutGood E o a w H β own M nk (stClear E.T (c.argTypes.getD 0 0) M nk s) := by
  have hxo : extOp E.hard o.op = true → False := by simp [extOp, ho, hc]
  obtain ⟨x, hxy, hx⟩ := evs1 hev
  obtain ⟨cs, hrun⟩ := call_builtin (E := E) (a := a) (w := w) ho hc
  have hargs : c.args.map a.eval = #[a.eval x] := by
    have : c.args = #[x] := by apply Array.toList_inj.1; simpa using hxy
    rw [this]; simp
  rw [hargs] at hrun
  have hxr := h.ev hx
  unfold stClear
  split <;> try trivial
  rename_i e sz1 by1 ze1 ht
  have g0 := getD_some hT0 ht rfl
  obtain ⟨d, i, zv, hd, hdb, _⟩ := hT _ _ ht
  obtain rfl := desc_slice hdb
  split <;> try trivial
  rename_i z hz
  obtain ⟨d', i', zv', hd', hdb', hi', hsz', hby', hzv', hpl', hzl'⟩ := hT e z hz
  split <;> try trivial
  rename_i k off n mx
  split <;> try trivial
  rename_i ty row hg
  intro hle
  obtain ⟨ke, hke, adx, hvx, hnx, hax⟩ := hxr
  obtain ⟨e2', rv, h1, h2, h3, h4⟩ := h.mem.ent _ _ (mget_mem hg)
  rw [hke] at h1; cases h1
  have hzr := plainL_rel (H := H) (β := β) (plainZ_pl hpl')
  have hrep : RelC H β (List.replicate n z.zero).flatten (List.replicate n zv'.cells.toList).flatten := hzr.flatRep n
  have hzl2 : (List.replicate n z.zero).flatten.length = n * z.size := by rw [flat_rep_length, hzl']
  have hzl3 : (List.replicate n zv'.cells.toList).flatten.length = n * z.size := by rw [hrep.length]; exact hzl2
  have hzc : (Builtin.zeroCells zv'.cells n).toList = (List.replicate n zv'.cells.toList).flatten := by
    have := made_row zv'.cells n
    unfold Builtin.zeroCells
    rw [this]
  have hst : (match adx with | some a => storeCells a (List.replicate n zv'.cells.toList).flatten | none => pure ()).run E.P w = .ok () (World.put w ke.blk (splV rv off (List.replicate n zv'.cells.toList).flatten).toArray ty) := by
    rcases hax with rfl | rfl
    · have hm0 : n = 0 := by omega
      subst hm0
      have e1 : splV rv off [] = rv := by simp [splV]
      simp only [List.replicate_zero, List.flatten_nil, e1, put_self h4]
      cases adx <;> simp [storeCells]
    · have := run_storeRow (P := E.P) (b := ke.blk) (off := off) (ty := ty) (List.replicate n zv'.cells.toList).flatten 0 w rv h4 (by rw [hzl3, h3.length]; exact hle) (atoms_of_relC hrep)
      simpa using this
  refine Good.valM (u := .tuple #[]) (w' := World.put w ke.blk (splV rv off (List.replicate n zv'.cells.toList).flatten).toArray ty) (H' := H) (β' := β) (own' := own) ?_ ?_ ?_ (fun _ _ h => h) h.keys (fun hh => (hxo hh).elim) ⟨[], rfl, by simp [RelL]⟩
  · rw [hrun]
    simp only [builtin, Sem.run_bind]
    unfold Builtin.clear_
    simp only [g0, show (#[a.eval x] : Array Value)[0]? = some (a.eval x) from rfl]
    rw [Sem.run_bind, run_und hd, Result.andThen_ok, hvx]
    by_cases hn0 : n = 0
    · subst hn0
      have e1 : splV rv off [] = rv := by simp [splV]
      simp only [List.replicate_zero, List.flatten_nil, e1, put_self h4]
      cases adx <;> simp
    · have hmx : mx ≠ 0 := by omega
      obtain rfl : adx = some ⟨ke.blk, off, none⟩ := hax.resolve_left hmx
      dsimp only at hst
      cases n with
      | zero => exact absurd rfl hn0
      | succ n => simp [run_zero hi' hzv', hzc, hst]
  · exact h.mem.update h2 (put_size _ _) (fun b' hb' => put_other _ _ hb') ⟨ke, _, hke, h2, relC_splV h3 hrep off (by rw [hzl2]; exact hle), put_same h4 _ _⟩
  · exact Later.update h2 rfl rfl rfl (put_size _ _) (fun b' hb' => put_other _ _ hb')

theorem copy_good (h : St E H β own w a L M nk) (hT : TyOK E.P E.T) (hT0 : ∀ y, E.T 0 = some y → ∀ e, y.d ≠ .slice e) {c : Call} (ho : o.op = .call c) (hc : c.callee = .builtin .copy)
    {s r : SV} (hev : evs L c.args.toList = some [s, r]) : OutGood E o a w H β own M nk (stCopy E.T (c.argTypes.getD 0 0) M nk s r) := by
  have hxo : extOp E.hard o.op = true → False := by simp [extOp, ho, hc]
  obtain ⟨x, y, hxy, hx, hy⟩ := evs2 hev
  obtain ⟨cs, hrun⟩ := call_builtin (E := E) (a := a) (w := w) ho hc
  rw [args2 hxy] at hrun
  have hxr := h.ev hx
  have hyr := h.ev hy
  unfold stCopy
  split <;> try trivial
  rename_i e sz1 by1 ze1 ht
  have g0 := getD_some hT0 ht rfl
  obtain ⟨d, i, zv, hd, hdb, _⟩ := hT _ _ ht
  obtain rfl := desc_slice hdb
  split <;> try trivial
  rename_i z hz
  obtain ⟨d', i', zv', hd', hdb', hi', hsz', hby', hzv', hpl', hzl'⟩ := hT e z hz
  split <;> try trivial
  rename_i m ys hcont
  split <;> try trivial
  rename_i k off n mx
  split <;> try trivial
  rename_i ty row hg
  rintro ⟨hC, hyl, hle⟩
  obtain ⟨ad, cap, vs, hv, hmc, hvr, hfc⟩ := cont_run (E := E) h.mem hcont hC hyl hyr
  obtain ⟨ke, hke, adx, hvx, hnx, hax⟩ := hxr
  obtain ⟨e2, rv, h1, h2, h3, h4⟩ := h.mem.ent _ _ (mget_mem hg)
  rw [hke] at h1; cases h1
  have hvl : vs.length = m * z.size := by rw [hvr.length]; exact hyl
  have hmin : min m n * z.size ≤ vs.length := by rw [hvl]; exact Nat.mul_le_mul_right _ (Nat.min_le_left _ _)
  have hrt : RelC H β (slc ys 0 (min m n * z.size)) (vs.take (min m n * z.size)) := by
    have := hvr.slc 0 (min m n * z.size) (by rw [hyl]; simpa using Nat.mul_le_mul_right z.size (Nat.min_le_left m n))
    simpa using this
  have hfc' : (Builtin.firstCells z.size (min m n) (a.eval y)).run E.P w = .ok (vs.take (min m n * z.size)).toArray w := by
    by_cases hm0 : min m n * z.size = 0
    · rw [hv, hm0]
      cases ad <;> simp [Builtin.firstCells, hm0, loadCells, loadCellsFrom]
    · have hm1 : m * z.size ≠ 0 := fun e => by
        have := Nat.mul_le_mul_right z.size (Nat.min_le_left m n); omega
      have hread := cont_cells h.mem hcont hC hyl hyr (by rw [hyl]; exact hm1)
      obtain ⟨b, off', vs', cap', hv', hr', hcell⟩ := hread
      have hvv : vs' = vs := by
        have q := hfc w rfl
        rw [hv'] at q
        have q2 := run_loadRow E.P w b off' vs' (fun j v hj => cell_of_un h.mem (hcell j v hj))
        rw [hr'.length, hyl] at q2
        have q3 : (Builtin.firstCells z.size m (.slice (some ⟨b, off', none⟩) m cap')).run E.P w = (loadCells ⟨b, off', none⟩ (m * z.size)).run E.P w := rfl
        rw [q3, q2] at q
        have := Result.ok.inj q
        simpa using this.1
      subst hvv
      have q2 := run_loadRow E.P w b off' (vs'.take (min m n * z.size)) (fun j v hj => by
        rw [List.getElem?_take] at hj; split at hj
        · exact cell_of_un h.mem (hcell j v hj)
        · cases hj)
      rw [List.length_take, Nat.min_eq_left hmin] at q2
      rw [hv']
      exact q2
  have hbase : (match adx with | some a => storeCells a (vs.take (min m n * z.size)) | none => pure ()).run E.P w = .ok () (World.put w ke.blk (splV rv off (vs.take (min m n * z.size))).toArray ty) := by
    rcases hax with rfl | rfl
    · have : min m n = 0 := by omega
      rw [this]
      have e1 : splV rv off [] = rv := by simp [splV]
      simp only [Nat.zero_mul, List.take_zero, e1, put_self h4]
      cases adx <;> simp [storeCells]
    · have := run_storeRow (P := E.P) (b := ke.blk) (off := off) (ty := ty) (vs.take (min m n * z.size)) 0 w rv h4 (by rw [List.length_take, Nat.min_eq_left hmin, h3.length]; exact hle) (atoms_of_relC hrt)
      simpa using this
  refine Good.valM (u := .int .i64 ((min m n : Nat) : Int)) (w' := World.put w ke.blk (splV rv off (vs.take (min m n * z.size))).toArray ty) (H' := H) (β' := β) (own' := own) ?_ ?_ ?_ (fun _ _ h => h) h.keys (fun hh => (hxo hh).elim) (by rw [Rel]; congr 1; omega)
  · rw [hrun]
    simp only [builtin, Sem.run_bind]
    unfold Builtin.copy_
    simp only [g0, show (#[a.eval x, a.eval y] : Array Value)[0]? = some (a.eval x) from rfl, show (#[a.eval x, a.eval y] : Array Value)[1]? = some (a.eval y) from rfl]
    rw [Sem.run_bind, run_und hd, Result.andThen_ok, hvx]
    have hlen : (Builtin.lenOf (a.eval y)).run E.P w = .ok m w := by rw [hv]; rfl
    simp only [Sem.run_bind, hlen, Result.andThen_ok, run_size hi', hsz']
    rw [show Nat.min m n = min m n from rfl, hfc', Result.andThen_ok]
    cases adx with
    | none =>
      simp only [Sem.run_pure] at hbase
      injection hbase with _ hb
      rw [← hb]; rfl
    | some ad0 =>
      dsimp only at hbase ⊢
      rw [Sem.run_bind, hbase]; rfl
  · exact h.mem.update h2 (put_size _ _) (fun b' hb' => put_other _ _ hb') ⟨ke, _, hke, h2, relC_splV h3 hrt off (by rw [slc_length _ _ _ (by rw [hyl]; simpa using Nat.mul_le_mul_right z.size (Nat.min_le_left m n))]; exact hle), put_same h4 _ _⟩
  · exact Later.update h2 rfl rfl rfl (put_size _ _) (fun b' hb' => put_other _ _ hb')
theorem RelC.bytes : ∀ {c : List SV} {vs : List Value}, RelC H β c vs → c.all isW8 = true → vs = ((by8 c).map fun x => (x.toNat : Int)).map (Value.int .u8)
  | [], _, h, _ => h
  | x :: c, _, h, hc => by
    obtain ⟨u, us, rfl, h1, _, h2⟩ := h
    simp only [List.all_cons, Bool.and_eq_true] at hc
    have := RelC.bytes h2 hc.2
    have hx := hc.1
    cases x <;> simp [isW8] at hx
    obtain rfl : u = _ := h1
    rw [this]
    rfl
theorem push_bytes : ∀ (l : List UInt8) (r : ByteArray), (l.map fun x => (x.toNat : Int)).foldl (fun r n => r.push (UInt8.ofNat n.toNat)) r = ⟨r.data ++ l.toArray⟩
  | [], r => by simp
  | x :: l, r => by
    simp only [List.map_cons, List.foldl_cons]
    rw [push_bytes l]
    have : UInt8.ofNat (x.toNat : Int).toNat = x := by simp
    rw [this]
    cases r
    simp [ByteArray.push]

theorem str_good (h : St E H β own w a L M nk) (hT : TyOK E.P E.T) {src dst : TypeId} {x : Operand} (ho : o.op = .convert src dst x) {e : TypeId} {ys yd : Ty} (hs0 : E.T src = some ys) (hs1 : ys.d = .slice e)
    (ht : E.T dst = some yd) (hk : yd.d = .string) {s : SV} (hs : ev L x = some s) : OutGood E o a w H β own M nk (stStr (E.T e) M s) := by
  unfold stStr
  split <;> try trivial
  rename_i sz by_ ze n c he hc
  rintro ⟨hC, hl, hall⟩
  obtain ⟨d1, _, _, hd1, hb1, _⟩ := hT src ys hs0
  obtain ⟨d2, _, _, hd2, hb2, _⟩ := hT dst yd ht
  obtain ⟨d3, _, _, hd3, hb3, _⟩ := hT e _ he
  rw [hs1] at hb1; rw [hk] at hb2
  obtain rfl := desc_str hb2
  obtain rfl := desc_int hb3
  obtain ⟨e', rfl⟩ := (desc_kind hb1).2.1 _ rfl
  obtain rfl : e = e' := by simpa [descB] using hb1
  have fin : ∀ w' ad cap, (Conv.bytesToString (.slice ad n cap)).run E.P w' = .ok (.string ⟨(by8 c).toArray⟩) w' → a.eval x = .slice ad n cap → (execOp a.eval o).run E.P w' = .ok (.value (.string ⟨(by8 c).toArray⟩)) w' := by
    intro w' ad cap hfin hu
    simp [execOp, ho, hu, convert, run_und hd1, run_und hd2, run_und hd3, hfin]
  rcases Nat.eq_zero_or_pos c.length with h0 | h0
  · obtain ⟨ad, cap, vs, hu, _, hr, _⟩ := cont_run (E := E) h.mem hc hC (by omega) (h.ev hs)
    obtain rfl : c = [] := List.length_eq_zero_iff.1 h0
    obtain rfl : n = 0 := by simpa using hl.symm
    refine Good.val (u := .string ⟨(by8 []).toArray⟩) h (fun w' _ => fin w' ad cap ?_ hu) rfl
    cases ad with
    | none => simp [Conv.bytesToString]; rfl
    | some ad =>
      have := run_bytesToString (P := E.P) w' ad 0 cap [] (by simp [loadCells, loadCellsFrom])
      rw [this]; rfl
  · obtain ⟨b, off, vs, cap, hu, hr, hcell⟩ := cont_cells h.mem hc hC (by omega) (h.ev hs) (by omega)
    have hvs := RelC.bytes hr hall
    refine Good.val (u := .string ⟨(by8 c).toArray⟩) h (fun w' hw' => fin w' _ cap ?_ hu) rfl
    have hw' : Ext w w' := hw'.resolve_left (by simp [ho, regB])
    have h1 := run_loadRow E.P w' b off vs (fun j v hj => hw'.cell (cell_of_un h.mem (hcell j v hj)))
    rw [hr.length, hl] at h1
    rw [hvs] at h1
    rw [run_bytesToString w' _ n cap _ h1, push_bytes]
    simp

end
end Go.Sx
