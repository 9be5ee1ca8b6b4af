/-
  SxF: comparisons with nil, slices, what is built.
-/
import Derived.Test.YtbpggglkmdgpoaaGreatSxE
import Derived.Laws.Small
set_option linter.all false
set_option linter.unusedSimpArgs false
set_option linter.unusedVariables false
namespace Go.Sx
open Go

section
variable {E : Cx} {o : Oper} {a : Act} {w : World} {H : Hp} {β : Env} {own : Nat → Option Nat} {L : Slots} {M : Mem} {nk : Nat}

theorem desc_kind {d d' : TypeDesc} (h : descB d d' = true) : (∀ e, d = .pointer e → ∃ e', d' = .pointer e') ∧ (∀ e, d = .slice e → ∃ e', d' = .slice e') ∧
    (∀ p r v, d = .func p r v → ∃ p' r' v', d' = .func p' r' v') ∧ (∀ m, d = .interface m → ∃ m', d' = .interface m') ∧ (d = .bool → d' = .bool) ∧ (∀ m, d' = .interface m → ∃ m', d = .interface m') := by
  unfold descB at h
  split at h <;> simp_all

theorem bloop (bs : ByteArray) : ∀ (k i : Nat) (r : List UInt8), bs.size - i = k → ByteArray.toList.loop bs i r = r.reverse ++ bs.data.toList.drop i := by
  intro k
  induction k with
  | zero =>
    intro i r h
    unfold ByteArray.toList.loop
    have hh : ¬ i < bs.size := by omega
    rw [if_neg hh]
    have : bs.data.toList.drop i = [] := List.drop_eq_nil_of_le (by simp; have : bs.data.size = bs.size := rfl; omega)
    rw [this]; simp
  | succ k ih =>
    intro i r h
    unfold ByteArray.toList.loop
    have hh : i < bs.size := by omega
    rw [if_pos hh, ih (i+1) _ (by omega)]
    have hi : i < bs.data.toList.length := by simpa using hh
    rw [List.drop_eq_getElem_cons hi]
    have : bs.get! i = bs.data.toList[i] := by
      have h2 : i < bs.data.size := hh
      show bs.data[i]! = _
      rw [getElem!_pos bs.data i h2]; simp
    rw [this]
    simp
theorem btoList (bs : ByteArray) : bs.toList = bs.data.toList := by
  unfold ByteArray.toList
  rw [bloop bs _ 0 [] rfl]; simp

theorem desc_str {d' : TypeDesc} (h : descB .string d' = true) : d' = .string := by
  unfold descB at h
  split at h <;> simp_all

theorem eqN_run {d : TypeDesc} {t : TypeId} {x y : Operand} {s r : SV} {res : Bool} (he : eqN d s r = some res) {d' : TypeDesc} (hd : E.P.underlying t = some d') (hdd : descB d d' = true)
    {u v : Value} (hu : Rel H β s u) (hv : Rel H β r v) :
    (Op.equal t u v).run E.P w = .ok res w ∧ (∀ op, (eqGuard op t x y u v).run E.P w = .ok () w) ∧ (∀ (op : BinOp), op = .eql ∨ op = .neq → (binOp op t u v).run E.P w = .ok (.bool (if op = .eql then res else !res)) w) := by
  have key : (Op.equal t u v).run E.P w = .ok res w → (∀ op, (eqGuard op t x y u v).run E.P w = .ok () w) →
      (∀ (op : BinOp), op = .eql ∨ op = .neq → ∀ b, (binOp op t u v).run E.P w = ((Op.equal t u v).run E.P w).andThen (fun r w' => .ok (.bool (if op = .eql then r else !r)) w') ∨ b) →
      (Op.equal t u v).run E.P w = .ok res w ∧ (∀ op, (eqGuard op t x y u v).run E.P w = .ok () w) ∧ (∀ (op : BinOp), op = .eql ∨ op = .neq → (binOp op t u v).run E.P w = .ok (.bool (if op = .eql then res else !res)) w) := by
    intro h1 h2 h3
    refine ⟨h1, h2, fun op hop => ?_⟩
    have := (h3 op hop False).resolve_right id
    rw [this, h1]; rfl
  have top : ∀ r, (∀ d, (Op.equalIn (d + 1) t u v).run E.P w = .ok r w) → (Op.equal t u v).run E.P w = .ok r w := fun r hh => hh 9999
  obtain ⟨k1, k2, k3, k4, _, _⟩ := desc_kind hdd
  unfold eqN at he
  split at he
  · obtain ⟨e', rfl⟩ := k1 _ rfl
    cases he
    obtain rfl : u = _ := hu
    obtain rfl : v = _ := hv
    refine key (top _ fun d => by simp [Op.equalIn, run_und hd]) (fun op => by unfold eqGuard; split <;> simp) (fun op hop b => .inl ?_)
    rcases hop with rfl | rfl <;> simp [binOp]
  · obtain ⟨e', rfl⟩ := k1 _ rfl
    cases he
    obtain ⟨ke, _, rfl⟩ := hu
    obtain rfl : v = _ := hv
    refine key (top _ fun d => by simp [Op.equalIn, run_und hd]) (fun op => by unfold eqGuard; split <;> simp) (fun op hop b => .inl ?_)
    rcases hop with rfl | rfl <;> simp [binOp]
  · obtain ⟨e', rfl⟩ := k1 _ rfl
    cases he
    obtain ⟨ke, _, rfl⟩ := hu
    obtain rfl : v = _ := hv
    refine key (top _ fun d => by simp [Op.equalIn, run_und hd]) (fun op => by unfold eqGuard; split <;> simp) (fun op hop b => .inl ?_)
    rcases hop with rfl | rfl <;> simp [binOp]
  · obtain ⟨e', rfl⟩ := k1 _ rfl
    cases he
    obtain ⟨b', off, vs, rfl, _⟩ := hu
    obtain rfl : v = _ := hv
    refine key (top _ fun d => by simp [Op.equalIn, run_und hd]) (fun op => by unfold eqGuard; split <;> simp) (fun op hop b => .inl ?_)
    rcases hop with rfl | rfl <;> simp [binOp]
  · obtain ⟨e', rfl⟩ := k2 _ rfl
    cases he
    obtain rfl : u = _ := hu
    obtain rfl : v = _ := hv
    refine key (top _ fun d => by simp [Op.equalIn, run_und hd]) (fun op => by unfold eqGuard; split <;> simp) (fun op hop b => .inl ?_)
    rcases hop with rfl | rfl <;> simp [binOp]
  · obtain ⟨p', r', v', rfl⟩ := k3 _ _ _ rfl
    cases he
    obtain rfl : u = _ := hu
    obtain rfl : v = _ := hv
    refine key (top _ fun d => by simp [Op.equalIn, run_und hd]) (fun op => by unfold eqGuard; split <;> simp) (fun op hop b => .inl ?_)
    rcases hop with rfl | rfl <;> simp [binOp]
  · obtain ⟨p', r', v', rfl⟩ := k3 _ _ _ rfl
    cases he
    obtain ⟨vs, us, rfl, _⟩ := hu
    obtain rfl : v = _ := hv
    refine key (top _ fun d => by simp [Op.equalIn, run_und hd]) (fun op => by unfold eqGuard; split <;> simp) (fun op hop b => .inl ?_)
    rcases hop with rfl | rfl <;> simp [binOp]
  · obtain ⟨m', rfl⟩ := k4 _ rfl
    cases he
    obtain ⟨q, rfl, _⟩ := hu
    obtain rfl : v = _ := hv
    refine key (top _ fun d => by simp [Op.equalIn, run_und hd]) (fun op => by unfold eqGuard; split <;> simp) (fun op hop b => .inl ?_)
    rcases hop with rfl | rfl <;> simp [binOp]
  · cases he

theorem slN_run {e : TypeId} {t : TypeId} {x y : Operand} {s r : SV} {n : Nat} (hn : slN s = some n) (hr : isNilS r = true) (hd : E.P.underlying t = some (.slice e)) {u v : Value} (hu : Rel H β s u) (hv : Rel H β r v) :
    ∃ b, (b = true → n = 0) ∧ ∀ w, (∀ op, (eqGuard op t x y u v).run E.P w = .ok () w) ∧ (∀ (op : BinOp), op = .eql ∨ op = .neq → (binOp op t u v).run E.P w = .ok (.bool (if op = .eql then b else !b)) w) := by
  obtain ⟨a', l', c', rfl, hz⟩ : ∃ a' l' c', u = .slice a' l' c' ∧ (a' = none → n = 0) := by
    cases s <;> simp only [slN, Option.some.injEq, reduceCtorEq] at hn
    · subst hn
      obtain ⟨ke, _, ad, rfl, hn, hc⟩ := hu
      refine ⟨_, _, _, rfl, fun e => ?_⟩
      rcases hc with rfl | rfl
      · omega
      · cases e
    · subst hn
      obtain ⟨ke, _, ad, cap, rfl, hn, hl, hc⟩ := hu
      refine ⟨_, _, _, rfl, fun e => ?_⟩
      rcases hc with rfl | ⟨rfl, _⟩
      · omega
      · cases e
    · subst hn
      obtain ⟨ad, cap, rfl, hn, hc⟩ := hu
      refine ⟨_, _, _, rfl, fun e => ?_⟩
      rcases hc with ⟨h, _⟩ | ⟨b', off, vs, rfl, _⟩
      · exact h
      · cases e
  obtain ⟨l2, c2, rfl⟩ : ∃ l2 c2, v = .slice none l2 c2 := by
    unfold isNilS at hr
    split at hr
    · exact ⟨_, _, hv⟩
    · cases hr
  have top : ∀ w r, (∀ d, (Op.equalIn (d + 1) t (.slice a' l' c') (.slice none l2 c2)).run E.P w = .ok r w) → (Op.equal t (.slice a' l' c') (.slice none l2 c2)).run E.P w = .ok r w := fun w r hh => hh 9999
  refine ⟨a'.isNone, fun e => hz (by simpa using e), fun w => ?_⟩
  have h1 : (Op.equal t (.slice a' l' c') (.slice none l2 c2)).run E.P w = .ok a'.isNone w := top w _ fun d => by cases a' <;> simp [Op.equalIn, run_und hd]
  refine ⟨fun op => by unfold eqGuard; split <;> simp, fun op hop => ?_⟩
  rcases hop with rfl | rfl <;> simp [binOp, h1]

theorem bin_good (h : St E H β own w a L M nk) (hT : TyOK E.P E.T) {op : BinOp} {t t' : TypeId} {x y : Operand} (ho : o.op = .binOp op t x y t') {s r : SV}
    (hs : ev L x = some s) (hr : ev L y = some r) : OutGood E o a w H β own M nk (binF (E.T t) op s r) := by
  have hx := h.ev hs
  have hy := h.ev hr
  have rest : ∀ (hne : op ≠ .shl ∧ op ≠ .shr), OutGood E o a w H β own M nk (binW (E.T t) op s r) := by
    intro hne
    unfold binW
    split
    · exact binI_good h ho hx hy hne
    · exact bin8_good h ho hx hy
    · exact bin16_good h ho hx hy
    · exact bin32_good h ho hx hy
    · exact bin64_good h ho hx hy
    · rename_i p q
      split <;> try trivial
      rename_i sz by_ ze hty
      obtain ⟨d, i, z, hd, hdb, _⟩ := hT t _ hty
      obtain ⟨_, _, _, _, kb, _⟩ := desc_kind hdb
      obtain rfl := kb rfl
      have e1 : a.eval x = .bool p := hx
      have e2 : a.eval y = .bool q := hy
      have hg : ∀ op w, (eqGuard op t x y (.bool p) (.bool q)).run E.P w = .ok () w := fun op w => by unfold eqGuard; split <;> simp
      split <;> try trivial
      · exact Good.val (u := .bool (p == q)) h (fun w' _ => by simp [execOp, ho, e1, e2, hg, binOp, run_equal_bool w' t p q hd]) rfl
      · exact Good.val (u := .bool (!(p == q))) h (fun w' _ => by simp [execOp, ho, e1, e2, hg, binOp, run_equal_bool w' t p q hd]) rfl
    · rename_i p q
      split <;> try trivial
      rename_i sz by_ ze hty
      obtain ⟨d, i, z, hd, hdb, _⟩ := hT t _ hty
      obtain rfl := desc_str hdb
      have e1 : a.eval x = .string p := hx
      have e2 : a.eval y = .string q := hy
      have hg : ∀ op w, (eqGuard op t x y (.string p) (.string q)).run E.P w = .ok () w := fun op w => by unfold eqGuard; split <;> simp
      have hb : (p.toList == q.toList) = decide (p.data.toList = q.data.toList) := by
        rw [btoList, btoList, Bool.eq_iff_iff, decide_eq_true_iff, beq_iff_eq]
      unfold eqS
      split <;> try trivial
      · exact Good.val (u := .bool (decide (p.data.toList = q.data.toList))) h (fun w' _ => by simp [execOp, ho, e1, e2, hg, binOp, Op.stringOp, hb]) rfl
      · exact Good.val (u := .bool (!decide (p.data.toList = q.data.toList))) h (fun w' _ => by simp [execOp, ho, e1, e2, hg, binOp, Op.stringOp, hb]) rfl
    · split <;> try trivial
      rename_i ty hty
      obtain ⟨d, i, z, hd, hdb, _⟩ := hT t _ hty
      unfold eqF
      split
      · rename_i e n hd0 hn0 hr0
        rw [hd0] at hdb
        obtain ⟨e', rfl⟩ := (desc_kind hdb).2.1 _ rfl
        obtain ⟨b, hb, hw⟩ := slN_run (E := E) (t := t) (x := x) (y := y) hn0 hr0 hd hx hy
        split <;> try trivial
        · exact ⟨b, hb, Good.val (u := .bool b) h (fun w' _ => by simp [execOp, ho, (hw w').1, (hw w').2 .eql (.inl rfl)]) rfl⟩
        · exact ⟨!b, fun e => hb (by simpa using e), Good.val (u := .bool (!b)) h (fun w' _ => by simp [execOp, ho, (hw w').1, (hw w').2 .neq (.inr rfl)]) rfl⟩
      split <;> try trivial
      · split <;> try trivial
        rename_i res hres
        refine Good.val (u := .bool res) h (fun w' _ => ?_) rfl
        obtain ⟨h1, h2, h3⟩ := eqN_run (E := E) (w := w') (x := x) (y := y) hres hd hdb hx hy
        simp [execOp, ho, h2, h3 .eql (.inl rfl)]
      · split <;> try trivial
        rename_i res hres
        refine Good.val (u := .bool (!res)) h (fun w' _ => ?_) rfl
        obtain ⟨h1, h2, h3⟩ := eqN_run (E := E) (w := w') (x := x) (y := y) hres hd hdb hx hy
        simp [execOp, ho, h2, h3 .neq (.inr rfl)]
  have sh : OutGood E o a w H β own M nk (match idx r with
    | some n => .cond (0 ≤ n) (shF op s n.toNat)
    | none => .stuck) := by
    clear rest
    cases hn : idx r with
    | none => trivial
    | some n =>
      intro hpos
      obtain ⟨k, hk⟩ := idx_rel hn hy
      exact shF_good h ho hs hk hpos
  unfold binF
  split
  · exact sh
  · exact sh
  · rename_i h1 h2
    exact rest ⟨h1, h2⟩

theorem nilI_good (h : St E H β own w a L M nk) (hT : TyOK E.P E.T) {op : BinOp} {t t' : TypeId} {x : Operand} (ho : o.op = .binOp op t x (.const .nilIface) t') {y : Ty} (ht : E.T t = some y) {s : SV}
    (hs : ev L x = some s) : OutGood E o a w H β own M nk (stNilI y op s) := by
  have hx := h.ev hs
  obtain ⟨d, i, z, hd, hdb, _⟩ := hT t _ ht
  have hc : a.eval (.const .nilIface) = .nilIface := rfl
  have top : ∀ w r u, (∀ d, (Op.equalIn (d + 1) t u .nilIface).run E.P w = .ok r w) → (Op.equal t u .nilIface).run E.P w = .ok r w := fun w r u hh => hh 9999
  unfold stNilI
  split <;> try trivial
  rename_i m hm
  rw [hm] at hdb
  obtain ⟨m', rfl⟩ := (desc_kind hdb).2.2.2.1 _ rfl
  split <;> try trivial
  · split <;> try trivial
    · obtain ⟨q, hq, _⟩ := hx
      refine Good.val (u := .bool false) h (fun w' _ => ?_) rfl
      have := top w' false (a.eval x) fun d => by rw [hq]; simp [Op.equalIn, run_und hd]
      rw [hq] at this
      simp [execOp, ho, hq, hc, eqGuard, binOp, this]
    · split <;> try trivial
      have hq : a.eval x = .nilIface := hx
      refine Good.val (u := .bool true) h (fun w' _ => ?_) rfl
      have := top w' true .nilIface fun d => by simp [Op.equalIn, run_und hd]
      simp [execOp, ho, hq, hc, eqGuard, binOp, this]
  · split <;> try trivial
    · obtain ⟨q, hq, _⟩ := hx
      refine Good.val (u := .bool true) h (fun w' _ => ?_) rfl
      have := top w' false (a.eval x) fun d => by rw [hq]; simp [Op.equalIn, run_und hd]
      rw [hq] at this
      simp [execOp, ho, hq, hc, eqGuard, binOp, this]
    · split <;> try trivial
      have hq : a.eval x = .nilIface := hx
      refine Good.val (u := .bool false) h (fun w' _ => ?_) rfl
      have := top w' true .nilIface fun d => by simp [Op.equalIn, run_und hd]
      simp [execOp, ho, hq, hc, eqGuard, binOp, this]

/-! ### Slices -/
theorem bnd_run {n : Nat} {x : Option Operand} {s : Option SV} {l : Int} (h : St E H β own w a L M nk) (hx : evO L x = some s) (hl : bnd n s = some l) :
    (x = none ∧ l = n) ∨ ∃ y k, x = some y ∧ a.eval y = .int k l := by
  cases x with
  | none => simp only [evO, Option.some.injEq] at hx; subst hx; simp only [bnd, Option.some.injEq] at hl; exact .inl ⟨rfl, hl.symm⟩
  | some y =>
    simp only [evO] at hx
    split at hx <;> cases hx
    rename_i s' hs'
    obtain ⟨k, hk⟩ := idx_rel hl (h.ev hs')
    exact .inr ⟨y, k, rfl, hk⟩

theorem run_bounds {w0 : World} {isS : Bool} {n cap : Nat} {lo hi : Option Operand} {sl sh : Option SV} {l r : Int} (h : St E H β own w a L M nk) (hlo : evO L lo = some sl) (hhi : evO L hi = some sh)
    (hl : bnd 0 sl = some l) (hr : bnd n sh = some r) (h0 : 0 ≤ l) (h1 : l ≤ r) (h2 : r ≤ cap) :
    (Instr.sliceBounds isS n cap (lo.map a.eval) (hi.map a.eval) none).run E.P w0 = .ok (l.toNat, r.toNat, cap) w0 := by
  have e1 := bnd_run h hlo hl
  have e2 := bnd_run h hhi hr
  unfold Instr.sliceBounds
  rcases e1 with ⟨rfl, rfl⟩ | ⟨y, k, rfl, hy⟩ <;> rcases e2 with ⟨rfl, rfl⟩ | ⟨y', k', rfl, hy'⟩
  · simp
  · have : 0 ≤ r := by omega
    simp [Instr.sliceBound, hy', asIntOf, this, show r ≤ (cap : Int) by omega]
  · simp [Instr.sliceBound, hy, asIntOf, h0, h1]
  · have : 0 ≤ r := by omega
    simp [Instr.sliceBound, hy, hy', asIntOf, h0, this, show r ≤ (cap : Int) by omega, show l ≤ max r 0 by omega]

theorem slice_good (h : St E H β own w a L M nk) (hT : TyOK E.P E.T) {t : TypeId} {y : Ty} (ht : E.T t = some y) {x : Operand} {lo hi : Option Operand} (ho : o.op = .slice t x lo hi none)
    {s : SV} {sl sh : Option SV} (hs : ev L x = some s) (hlo : evO L lo = some sl) (hhi : evO L hi = some sh) : OutGood E o a w H β own M nk (stSlice E.T y M s sl sh) := by
  obtain ⟨d, i, z, hd, hdb, hi', hsz, hby, hz, hpl, hzl⟩ := hT t y ht
  have hx := h.ev hs
  unfold stSlice
  split <;> try trivial
  · rename_i n e hy
    rw [hy] at hdb
    obtain rfl := desc_array hdb
    split <;> try trivial
    rename_i ze k off l r hze hl hr
    obtain ⟨d', i', z', hd', hdb', hi'', hsz', _⟩ := hT e ze hze
    rintro ⟨h0, h1, h2⟩
    obtain ⟨ke, hke, hv⟩ := hx
    have hb := fun w' => run_bounds (E := E) (w0 := w') (isS := false) (cap := n) h hlo hhi hl hr h0 h1 h2
    refine Good.val (u := .slice (some (if n = l.toNat then ⟨ke.blk, off, none⟩ else (⟨ke.blk, off, none⟩ : Addr).add (l.toNat * i'.size))) (r.toNat - l.toNat) (n - l.toNat)) h ?_
      ⟨ke, hke, _, rfl, by omega, ?_⟩
    · intro w' _; simp [execOp, ho, Instr.sliceAt, run_und hd, hv, Instr.sureAddr, hb w', run_size hi'']
    · by_cases e : n = l.toNat
      · exact .inl (by omega)
      · exact .inr (by rw [if_neg e, add_at, hsz'])
  · rename_i e hy
    rw [hy] at hdb
    obtain rfl := desc_slice hdb
    split <;> try trivial
    rename_i ze hze
    obtain ⟨d', i', z', hd', hdb', hi'', hsz', _⟩ := hT e ze hze
    have fin : ∀ (ad : Option Addr) (len cap : Nat) (l r : Int) (q : SV), a.eval x = .slice ad len cap → bnd 0 sl = some l → bnd len sh = some r → 0 ≤ l → l ≤ r → r ≤ cap →
        Rel H β q (.slice (if cap = l.toNat then ad else ad.map (·.add (l.toNat * i'.size))) (r.toNat - l.toNat) (cap - l.toNat)) → OkV E o a w H β own q M nk := by
      intro ad len cap l r q hv hl hr h0 h1 h2 hrel
      have hb := fun w' => run_bounds (E := E) (w0 := w') (isS := true) (cap := cap) h hlo hhi hl hr h0 h1 h2
      refine Good.val h ?_ hrel
      intro w' _
      simp [execOp, ho, Instr.sliceAt, run_und hd, hv, Instr.slice, hb w', run_size hi'']
    split <;> try trivial
    · rename_i n c
      split <;> try trivial
      rename_i l r hl hr
      rintro ⟨h0, h1, h2, h3⟩
      obtain ⟨ad, cap, hv, hn, hc⟩ := hx
      refine fin ad n cap l r _ hv hl hr h0 h1 (by omega) ⟨_, _, rfl, by omega, ?_⟩
      rcases hc with ⟨rfl, rfl⟩ | ⟨b, off, vs, rfl, hrc, hcell⟩
      · left
        refine ⟨by omega, ?_⟩
        have e1 : l.toNat = 0 := by omega
        have e2 : r.toNat = 0 := by omega
        simp [e1, e2, slc]
      · by_cases hz : r.toNat - l.toNat = 0
        · by_cases hcap : cap = l.toNat
          · left
            refine ⟨hz, ?_⟩
            unfold slc
            rw [hz, Nat.zero_mul]
            simp
          · right
            refine ⟨b, off + l.toNat * i'.size, [], by rw [if_neg hcap]; simp [add_at], ?_, fun i x hx => by simp at hx⟩
            unfold slc
            rw [hz, Nat.zero_mul]
            simp [RelC]
        · right
          refine ⟨b, off + l.toNat * i'.size, (vs.drop (l.toNat * ze.size)).take ((r.toNat - l.toNat) * ze.size), by rw [if_neg (by omega)]; simp [add_at], ?_, fun i x hx => ?_⟩
          · exact hrc.slc _ _ h3
          · rw [List.getElem?_take] at hx
            split at hx
            · rw [List.getElem?_drop] at hx
              have := hcell _ _ hx
              rwa [← Nat.add_assoc, ← hsz'] at this
            · cases hx
    · rename_i k b n
      split <;> try trivial
      rename_i l r hl hr
      split <;> try trivial
      rename_i ty zz c hm
      rintro ⟨h0, h1, h2, h3⟩
      obtain ⟨ke, hke, ad, cap, hv, hn, hcap, hc⟩ := hx
      obtain ⟨e2, he2, hesz, _⟩ := h.mem.ent _ _ (mget_mem hm)
      rw [hke] at he2; cases he2
      refine fin ad n cap l r _ hv hl hr h0 h1 (by omega) ⟨ke, hke, _, _, rfl, by omega, by omega, ?_⟩
      by_cases e : cap = l.toNat
      · exact .inl (by omega)
      · right
        rcases hc with rfl | ⟨rfl, hc⟩
        · omega
        · rw [if_neg e]
          refine ⟨?_, by omega⟩
          simp [add_at, hsz', hesz, h3, Nat.add_assoc, Nat.add_mul]
    · rename_i k off n m
      split <;> try trivial
      rename_i l r hl hr
      rintro ⟨h0, h1, h2⟩
      obtain ⟨ke, hke, ad, hv, hn, hc⟩ := hx
      refine fin ad n m l r _ hv hl hr h0 h1 h2 ⟨ke, hke, _, rfl, by omega, ?_⟩
      by_cases e : m = l.toNat
      · exact .inl (by omega)
      · right
        rcases hc with rfl | rfl
        · omega
        · rw [if_neg e]; simp [add_at, hsz']

theorem slice3_good (h : St E H β own w a L M nk) (hT : TyOK E.P E.T) {t : TypeId} {y : Ty} (ht : E.T t = some y) {x hi mx : Operand} {lo : Option Operand} (ho : o.op = .slice t x lo (some hi) (some mx))
    {s sh sm : SV} {sl : Option SV} (hs : ev L x = some s) (hlo : evO L lo = some sl) (hhi : ev L hi = some sh) (hmx : ev L mx = some sm) : OutGood E o a w H β own M nk (stSlice3 E.T y s sl sh sm) := by
  obtain ⟨d, i, z, hd, hdb, hi', hsz, hby, hz, hpl, hzl⟩ := hT t y ht
  have hx := h.ev hs
  unfold stSlice3
  split <;> try trivial
  rename_i e hy
  rw [hy] at hdb
  obtain rfl := desc_slice hdb
  split <;> try trivial
  rename_i ze hze
  obtain ⟨d', i', z', hd', hdb', hi'', hsz', _⟩ := hT e ze hze
  split <;> try trivial
  rename_i k off n m
  split <;> try trivial
  rename_i l r q hl hr hq
  rintro ⟨h0, h1, h2, h3⟩
  obtain ⟨ke, hke, ad, hv, hn, hc⟩ := hx
  obtain ⟨k1, hk1⟩ := idx_rel hr (h.ev hhi)
  obtain ⟨k2, hk2⟩ := idx_rel hq (h.ev hmx)
  have hb : ∀ w', (Instr.sliceBounds true n m (lo.map a.eval) (some (a.eval hi)) (some (a.eval mx))).run E.P w' = .ok (l.toNat, r.toNat, q.toNat) w' := by
    intro w'
    unfold Instr.sliceBounds
    rcases bnd_run h hlo hl with ⟨rfl, rfl⟩ | ⟨y, k, rfl, hy⟩
    · simp [Instr.sliceBound, hk1, hk2, asIntOf, show 0 ≤ q by omega, show q ≤ (m : Int) by omega, show 0 ≤ r by omega, show r ≤ max q 0 by omega]
    · simp [Instr.sliceBound, hk1, hk2, hy, asIntOf, h0, show 0 ≤ q by omega, show q ≤ (m : Int) by omega, show 0 ≤ r by omega, show r ≤ max q 0 by omega, show l ≤ max r 0 by omega]
  refine Good.val h (u := .slice (if q.toNat = l.toNat then ad else ad.map (·.add (l.toNat * i'.size))) (r.toNat - l.toNat) (q.toNat - l.toNat)) ?_ ⟨ke, hke, _, rfl, by omega, ?_⟩
  · intro w' _
    simp [execOp, ho, Instr.sliceAt, run_und hd, hv, Instr.slice, hb w', run_size hi'']
  · by_cases e : q.toNat = l.toNat
    · exact .inl (by omega)
    · right
      rcases hc with rfl | rfl
      · omega
      · rw [if_neg e]; simp [add_at, hsz']
end
end Go.Sx
