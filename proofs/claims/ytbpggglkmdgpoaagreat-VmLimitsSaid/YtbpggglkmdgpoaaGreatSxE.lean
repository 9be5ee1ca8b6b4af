/-
  SxE: numbers, slices, what is built.
-/
import Derived.Test.YtbpggglkmdgpoaaGreatSxD
set_option linter.all false
set_option linter.unusedSimpArgs false
set_option linter.unusedVariables false
namespace Go.Sx
open Go

section
variable {E : Cx} {o : Oper} {a : Act} {w : World} {H : Hp} {β : Env} {own : Nat → Option Nat} {L : Slots} {M : Mem} {nk : Nat}

/-! ### Numbers -/
theorem wrap_u8 (x : UInt8) : IntKind.u8.wrap (x.toNat : Int) = x.toNat := by
  have := x.toNat_lt; simp only [IntKind.wrap, IntKind.bits, IntKind.signed]; simp; omega
theorem wrapN (k : IntKind) (hk : k.signed = false) (n : Nat) : k.wrap (n : Int) = ((n % 2 ^ k.bits : Nat) : Int) := by
  simp only [IntKind.wrap, hk, Bool.false_and, Bool.false_eq_true, if_false]; push_cast; rfl

theorem run_bin {op : BinOp} {t t' : TypeId} {x y : Operand} (ho : o.op = .binOp op t x y t') {k k' : IntKind} {m n : Int} (hx : a.eval x = .int k m) (hy : a.eval y = .int k' n) {u : Value}
    (hr : (binOp op t (.int k m) (.int k' n)).run E.P w = .ok u w) : (execOp a.eval o).run E.P w = .ok (.value u) w := by
  have hg : (eqGuard op t x y (.int k m) (.int k' n)).run E.P w = .ok () w := by
    unfold eqGuard; split <;> simp
  simp [execOp, ho, hx, hy, hg, hr]

theorem toNat_ofInt8 (n : Int) : ((UInt8.ofInt n).toNat : Int) = n % 256 := by
  rw [UInt8.ofInt, UInt8.toNat_ofNat']; omega
theorem toNat_ofInt16 (n : Int) : ((UInt16.ofInt n).toNat : Int) = n % 65536 := by
  rw [UInt16.ofInt, UInt16.toNat_ofNat']; omega
theorem toNat_ofInt32 (n : Int) : ((UInt32.ofInt n).toNat : Int) = n % 4294967296 := by
  rw [UInt32.ofInt, UInt32.toNat_ofNat']; omega
theorem toNat_ofInt64 (n : Int) : ((UInt64.ofInt n).toNat : Int) = n % 18446744073709551616 := by
  rw [UInt64.ofInt, UInt64.toNat_ofNat']; omega

theorem wrap8 (n : Int) : IntKind.u8.wrap n = n % 256 := by simp [IntKind.wrap, IntKind.bits, IntKind.signed]
theorem wrap16 (n : Int) : IntKind.u16.wrap n = n % 65536 := by simp [IntKind.wrap, IntKind.bits, IntKind.signed]
theorem wrap32 (n : Int) : IntKind.u32.wrap n = n % 4294967296 := by simp [IntKind.wrap, IntKind.bits, IntKind.signed]
theorem wrap64 (n : Int) : IntKind.u64.wrap n = n % 18446744073709551616 := by simp [IntKind.wrap, IntKind.bits, IntKind.signed]

theorem binI_good (h : St E H β own w a L M nk) {op : BinOp} {t t' : TypeId} {x y : Operand} (ho : o.op = .binOp op t x y t') {m n : Int}
    (hx : a.eval x = .int .i64 m) (hy : a.eval y = .int .i64 n) (hsh : op ≠ .shl ∧ op ≠ .shr) : OutGood E o a w H β own M nk (binI op m n) := by
  have fin : ∀ (s : SV) (u : Value), (∀ w, (binOp op t (.int .i64 m) (.int .i64 n)).run E.P w = .ok u w) → Rel H β s u → OkV E o a w H β own s M nk :=
    fun s u hr hs => Good.val h (fun w' _ => run_bin ho hx hy (hr w')) hs
  have sd : ∀ (s : SV) (u : Value), (∀ w, (binOp op t (.int .i64 m) (.int .i64 n)).run E.P w = .ok u w) → Rel H β s u → OkV E o a w H β own s M nk := fin
  cases op
  case add => exact fin _ (.int .i64 (IntKind.i64.wrap (m + n))) (by intro w; simp [binOp, Op.intArith]) rfl
  case sub => exact fin _ (.int .i64 (IntKind.i64.wrap (m - n))) (by intro w; simp [binOp, Op.intArith]) rfl
  case mul => exact fin _ (.int .i64 (IntKind.i64.wrap (m * n))) (by intro w; simp [binOp, Op.intArith]) rfl
  case quo => intro hn; exact fin _ (.int .i64 (IntKind.i64.wrap (m.tdiv n))) (by intro w; simp [binOp, Op.intDiv, hn]) rfl
  case rem => intro hn; exact fin _ (.int .i64 (m.tmod n)) (by intro w; simp [binOp, Op.intDiv, hn]) rfl
  case and => exact fin _ (.int .i64 (bitsI .and m n)) (fun _ => rfl) rfl
  case or => exact fin _ (.int .i64 (bitsI .or m n)) (fun _ => rfl) rfl
  case xor => exact fin _ (.int .i64 (bitsI .xor m n)) (fun _ => rfl) rfl
  case andNot => exact fin _ (.int .i64 (bitsI .andNot m n)) (fun _ => rfl) rfl
  case eql => exact fin _ (.bool (decide (m = n))) (by intro w; simp [binOp, Op.intCmp]; rfl) rfl
  case neq => exact fin _ (.bool (decide (m ≠ n))) (by intro w; simp [binOp, Op.intCmp]; by_cases e : m = n <;> simp [e]) rfl
  case lss => exact fin _ (.bool (decide (m < n))) (by intro w; simp [binOp, Op.intCmp]) rfl
  case leq => exact fin _ (.bool (decide (m ≤ n))) (by intro w; simp [binOp, Op.intCmp]) rfl
  case gtr => exact fin _ (.bool (decide (n < m))) (by intro w; simp [binOp, Op.intCmp]) rfl
  case geq => exact fin _ (.bool (decide (n ≤ m))) (by intro w; simp [binOp, Op.intCmp]) rfl
  all_goals trivial

theorem bv8 (x : UInt8) : BitVec.ofInt 8 (x.toNat : Int) = x.toBitVec := by
  apply BitVec.eq_of_toNat_eq; rw [BitVec.toNat_ofInt]; have := x.toNat_lt
  rw [UInt8.toNat_toBitVec]; simp at this ⊢; omega
theorem bin8_good (h : St E H β own w a L M nk) {op : BinOp} {t t' : TypeId} {x y : Operand} (ho : o.op = .binOp op t x y t') {m n : UInt8}
    (hx : a.eval x = .int .u8 m.toNat) (hy : a.eval y = .int .u8 n.toNat) : OutGood E o a w H β own M nk (bin8 op m n) := by
  have hm := m.toNat_lt
  have hn := n.toNat_lt
  have fin : ∀ (s : SV) (u : Value), (∀ w, (binOp op t (.int .u8 m.toNat) (.int .u8 n.toNat)).run E.P w = .ok u w) → Rel H β s u → OkV E o a w H β own s M nk :=
    fun s u hr hs => Good.val h (fun w' _ => run_bin ho hx hy (hr w')) hs
  have bits : ∀ (z : UInt8) (r : Nat), r = z.toNat → Rel H β (.w8 z) (.int .u8 (IntKind.u8.wrap (r : Int))) := by
    rintro z r rfl
    have := z.toNat_lt
    rw [Rel, wrap8]; congr 1; omega
  have nez : n ≠ 0 → ¬ ((n.toNat : Int) = 0) := fun h0 e => h0 (UInt8.toNat_inj.1 (by simpa using (by omega : n.toNat = 0)))
  cases op
  case add => exact fin _ (.int .u8 (IntKind.u8.wrap (m.toNat + n.toNat))) (by intro w; simp [binOp, Op.intArith]) (by rw [Rel, wrap8, UInt8.toNat_add]; congr 1)
  case sub => exact fin _ (.int .u8 (IntKind.u8.wrap (m.toNat - n.toNat))) (by intro w; simp [binOp, Op.intArith]) (by rw [Rel, wrap8, UInt8.toNat_sub]; congr 1; omega)
  case mul => exact fin _ (.int .u8 (IntKind.u8.wrap (m.toNat * n.toNat))) (by intro w; simp [binOp, Op.intArith]) (by rw [Rel, wrap8, UInt8.toNat_mul]; congr 1)
  case quo => intro h0; exact fin _ (.int .u8 (IntKind.u8.wrap (Int.tdiv m.toNat n.toNat))) (by intro w; simp only [binOp, Op.intDiv, nez h0, if_false]; simp) (by
      rw [Int.tdiv_eq_ediv_of_nonneg (by omega)]; exact bits (m / n) (m.toNat / n.toNat) (UInt8.toNat_div ..).symm)
  case rem => intro h0; exact fin _ (.int .u8 (Int.tmod m.toNat n.toNat)) (by intro w; simp only [binOp, Op.intDiv, nez h0, if_false]; simp) (by
      rw [Rel, Int.tmod_eq_emod_of_nonneg (by omega), UInt8.toNat_mod]; rfl)
  case and => exact fin _ (.int .u8 (IntKind.u8.wrap (BitVec.ofInt 8 (m.toNat : Int) &&& BitVec.ofInt 8 (n.toNat : Int)).toNat)) (fun _ => rfl) (bits (m &&& n) _ (by rw [bv8, bv8]; rfl))
  case or => exact fin _ (.int .u8 (IntKind.u8.wrap (BitVec.ofInt 8 (m.toNat : Int) ||| BitVec.ofInt 8 (n.toNat : Int)).toNat)) (fun _ => rfl) (bits (m ||| n) _ (by rw [bv8, bv8]; rfl))
  case xor => exact fin _ (.int .u8 (IntKind.u8.wrap (BitVec.ofInt 8 (m.toNat : Int) ^^^ BitVec.ofInt 8 (n.toNat : Int)).toNat)) (fun _ => rfl) (bits (m ^^^ n) _ (by rw [bv8, bv8]; rfl))
  case andNot => exact fin _ (.int .u8 (IntKind.u8.wrap (BitVec.ofInt 8 (m.toNat : Int) &&& ~~~ BitVec.ofInt 8 (n.toNat : Int)).toNat)) (fun _ => rfl) (bits (m &&& ~~~ n) _ (by rw [bv8, bv8]; rfl))
  case eql => exact fin _ (.bool (decide (m = n))) (by
      intro w
      simp only [binOp, Op.intCmp]; by_cases e : m = n
      · simp [e]
      · simp [e]; intro e'; exact e (UInt8.toNat_inj.1 (by omega))) rfl
  case neq => exact fin _ (.bool (decide (m ≠ n))) (by
      intro w
      simp only [binOp, Op.intCmp]; by_cases e : m = n
      · simp [e]
      · simp [e]; intro e'; exact e (UInt8.toNat_inj.1 (by omega))) rfl
  case lss => exact fin _ (.bool (decide (m < n))) (by intro w; simp [binOp, Op.intCmp, UInt8.lt_iff_toNat_lt]) rfl
  case leq => exact fin _ (.bool (decide (m ≤ n))) (by intro w; simp [binOp, Op.intCmp, UInt8.le_iff_toNat_le]) rfl
  case gtr => exact fin _ (.bool (decide (n < m))) (by intro w; simp [binOp, Op.intCmp, UInt8.lt_iff_toNat_lt]) rfl
  case geq => exact fin _ (.bool (decide (n ≤ m))) (by intro w; simp [binOp, Op.intCmp, UInt8.le_iff_toNat_le]) rfl
  all_goals trivial

theorem bv16 (x : UInt16) : BitVec.ofInt 16 (x.toNat : Int) = x.toBitVec := by
  apply BitVec.eq_of_toNat_eq; rw [BitVec.toNat_ofInt]; have := x.toNat_lt
  rw [UInt16.toNat_toBitVec]; simp at this ⊢; omega
theorem bin16_good (h : St E H β own w a L M nk) {op : BinOp} {t t' : TypeId} {x y : Operand} (ho : o.op = .binOp op t x y t') {m n : UInt16}
    (hx : a.eval x = .int .u16 m.toNat) (hy : a.eval y = .int .u16 n.toNat) : OutGood E o a w H β own M nk (bin16 op m n) := by
  have hm := m.toNat_lt
  have hn := n.toNat_lt
  have fin : ∀ (s : SV) (u : Value), (∀ w, (binOp op t (.int .u16 m.toNat) (.int .u16 n.toNat)).run E.P w = .ok u w) → Rel H β s u → OkV E o a w H β own s M nk :=
    fun s u hr hs => Good.val h (fun w' _ => run_bin ho hx hy (hr w')) hs
  have bits : ∀ (z : UInt16) (r : Nat), r = z.toNat → Rel H β (.w16 z) (.int .u16 (IntKind.u16.wrap (r : Int))) := by
    rintro z r rfl
    have := z.toNat_lt
    rw [Rel, wrap16]; congr 1; omega
  have nez : n ≠ 0 → ¬ ((n.toNat : Int) = 0) := fun h0 e => h0 (UInt16.toNat_inj.1 (by simpa using (by omega : n.toNat = 0)))
  cases op
  case add => exact fin _ (.int .u16 (IntKind.u16.wrap (m.toNat + n.toNat))) (by intro w; simp [binOp, Op.intArith]) (by rw [Rel, wrap16, UInt16.toNat_add]; congr 1)
  case sub => exact fin _ (.int .u16 (IntKind.u16.wrap (m.toNat - n.toNat))) (by intro w; simp [binOp, Op.intArith]) (by rw [Rel, wrap16, UInt16.toNat_sub]; congr 1; omega)
  case mul => exact fin _ (.int .u16 (IntKind.u16.wrap (m.toNat * n.toNat))) (by intro w; simp [binOp, Op.intArith]) (by rw [Rel, wrap16, UInt16.toNat_mul]; congr 1)
  case quo => intro h0; exact fin _ (.int .u16 (IntKind.u16.wrap (Int.tdiv m.toNat n.toNat))) (by intro w; simp only [binOp, Op.intDiv, nez h0, if_false]; simp) (by
      rw [Int.tdiv_eq_ediv_of_nonneg (by omega)]; exact bits (m / n) (m.toNat / n.toNat) (UInt16.toNat_div ..).symm)
  case rem => intro h0; exact fin _ (.int .u16 (Int.tmod m.toNat n.toNat)) (by intro w; simp only [binOp, Op.intDiv, nez h0, if_false]; simp) (by
      rw [Rel, Int.tmod_eq_emod_of_nonneg (by omega), UInt16.toNat_mod]; rfl)
  case and => exact fin _ (.int .u16 (IntKind.u16.wrap (BitVec.ofInt 16 (m.toNat : Int) &&& BitVec.ofInt 16 (n.toNat : Int)).toNat)) (fun _ => rfl) (bits (m &&& n) _ (by rw [bv16, bv16]; rfl))
  case or => exact fin _ (.int .u16 (IntKind.u16.wrap (BitVec.ofInt 16 (m.toNat : Int) ||| BitVec.ofInt 16 (n.toNat : Int)).toNat)) (fun _ => rfl) (bits (m ||| n) _ (by rw [bv16, bv16]; rfl))
  case xor => exact fin _ (.int .u16 (IntKind.u16.wrap (BitVec.ofInt 16 (m.toNat : Int) ^^^ BitVec.ofInt 16 (n.toNat : Int)).toNat)) (fun _ => rfl) (bits (m ^^^ n) _ (by rw [bv16, bv16]; rfl))
  case andNot => exact fin _ (.int .u16 (IntKind.u16.wrap (BitVec.ofInt 16 (m.toNat : Int) &&& ~~~ BitVec.ofInt 16 (n.toNat : Int)).toNat)) (fun _ => rfl) (bits (m &&& ~~~ n) _ (by rw [bv16, bv16]; rfl))
  case eql => exact fin _ (.bool (decide (m = n))) (by
      intro w
      simp only [binOp, Op.intCmp]; by_cases e : m = n
      · simp [e]
      · simp [e]; intro e'; exact e (UInt16.toNat_inj.1 (by omega))) rfl
  case neq => exact fin _ (.bool (decide (m ≠ n))) (by
      intro w
      simp only [binOp, Op.intCmp]; by_cases e : m = n
      · simp [e]
      · simp [e]; intro e'; exact e (UInt16.toNat_inj.1 (by omega))) rfl
  case lss => exact fin _ (.bool (decide (m < n))) (by intro w; simp [binOp, Op.intCmp, UInt16.lt_iff_toNat_lt]) rfl
  case leq => exact fin _ (.bool (decide (m ≤ n))) (by intro w; simp [binOp, Op.intCmp, UInt16.le_iff_toNat_le]) rfl
  case gtr => exact fin _ (.bool (decide (n < m))) (by intro w; simp [binOp, Op.intCmp, UInt16.lt_iff_toNat_lt]) rfl
  case geq => exact fin _ (.bool (decide (n ≤ m))) (by intro w; simp [binOp, Op.intCmp, UInt16.le_iff_toNat_le]) rfl
  all_goals trivial

theorem bv32 (x : UInt32) : BitVec.ofInt 32 (x.toNat : Int) = x.toBitVec := by
  apply BitVec.eq_of_toNat_eq; rw [BitVec.toNat_ofInt]; have := x.toNat_lt
  rw [UInt32.toNat_toBitVec]; simp at this ⊢; omega
theorem bin32_good (h : St E H β own w a L M nk) {op : BinOp} {t t' : TypeId} {x y : Operand} (ho : o.op = .binOp op t x y t') {m n : UInt32}
    (hx : a.eval x = .int .u32 m.toNat) (hy : a.eval y = .int .u32 n.toNat) : OutGood E o a w H β own M nk (bin32 op m n) := by
  have hm := m.toNat_lt
  have hn := n.toNat_lt
  have fin : ∀ (s : SV) (u : Value), (∀ w, (binOp op t (.int .u32 m.toNat) (.int .u32 n.toNat)).run E.P w = .ok u w) → Rel H β s u → OkV E o a w H β own s M nk :=
    fun s u hr hs => Good.val h (fun w' _ => run_bin ho hx hy (hr w')) hs
  have bits : ∀ (z : UInt32) (r : Nat), r = z.toNat → Rel H β (.w32 z) (.int .u32 (IntKind.u32.wrap (r : Int))) := by
    rintro z r rfl
    have := z.toNat_lt
    rw [Rel, wrap32]; congr 1; omega
  have nez : n ≠ 0 → ¬ ((n.toNat : Int) = 0) := fun h0 e => h0 (UInt32.toNat_inj.1 (by simpa using (by omega : n.toNat = 0)))
  cases op
  case add => exact fin _ (.int .u32 (IntKind.u32.wrap (m.toNat + n.toNat))) (by intro w; simp [binOp, Op.intArith]) (by rw [Rel, wrap32, UInt32.toNat_add]; congr 1)
  case sub => exact fin _ (.int .u32 (IntKind.u32.wrap (m.toNat - n.toNat))) (by intro w; simp [binOp, Op.intArith]) (by rw [Rel, wrap32, UInt32.toNat_sub]; congr 1; omega)
  case mul => exact fin _ (.int .u32 (IntKind.u32.wrap (m.toNat * n.toNat))) (by intro w; simp [binOp, Op.intArith]) (by rw [Rel, wrap32, UInt32.toNat_mul]; congr 1)
  case quo => intro h0; exact fin _ (.int .u32 (IntKind.u32.wrap (Int.tdiv m.toNat n.toNat))) (by intro w; simp only [binOp, Op.intDiv, nez h0, if_false]; simp) (by
      rw [Int.tdiv_eq_ediv_of_nonneg (by omega)]; exact bits (m / n) (m.toNat / n.toNat) (UInt32.toNat_div ..).symm)
  case rem => intro h0; exact fin _ (.int .u32 (Int.tmod m.toNat n.toNat)) (by intro w; simp only [binOp, Op.intDiv, nez h0, if_false]; simp) (by
      rw [Rel, Int.tmod_eq_emod_of_nonneg (by omega), UInt32.toNat_mod]; rfl)
  case and => exact fin _ (.int .u32 (IntKind.u32.wrap (BitVec.ofInt 32 (m.toNat : Int) &&& BitVec.ofInt 32 (n.toNat : Int)).toNat)) (fun _ => rfl) (bits (m &&& n) _ (by rw [bv32, bv32]; rfl))
  case or => exact fin _ (.int .u32 (IntKind.u32.wrap (BitVec.ofInt 32 (m.toNat : Int) ||| BitVec.ofInt 32 (n.toNat : Int)).toNat)) (fun _ => rfl) (bits (m ||| n) _ (by rw [bv32, bv32]; rfl))
  case xor => exact fin _ (.int .u32 (IntKind.u32.wrap (BitVec.ofInt 32 (m.toNat : Int) ^^^ BitVec.ofInt 32 (n.toNat : Int)).toNat)) (fun _ => rfl) (bits (m ^^^ n) _ (by rw [bv32, bv32]; rfl))
  case andNot => exact fin _ (.int .u32 (IntKind.u32.wrap (BitVec.ofInt 32 (m.toNat : Int) &&& ~~~ BitVec.ofInt 32 (n.toNat : Int)).toNat)) (fun _ => rfl) (bits (m &&& ~~~ n) _ (by rw [bv32, bv32]; rfl))
  case eql => exact fin _ (.bool (decide (m = n))) (by
      intro w
      simp only [binOp, Op.intCmp]; by_cases e : m = n
      · simp [e]
      · simp [e]; intro e'; exact e (UInt32.toNat_inj.1 (by omega))) rfl
  case neq => exact fin _ (.bool (decide (m ≠ n))) (by
      intro w
      simp only [binOp, Op.intCmp]; by_cases e : m = n
      · simp [e]
      · simp [e]; intro e'; exact e (UInt32.toNat_inj.1 (by omega))) rfl
  case lss => exact fin _ (.bool (decide (m < n))) (by intro w; simp [binOp, Op.intCmp, UInt32.lt_iff_toNat_lt]) rfl
  case leq => exact fin _ (.bool (decide (m ≤ n))) (by intro w; simp [binOp, Op.intCmp, UInt32.le_iff_toNat_le]) rfl
  case gtr => exact fin _ (.bool (decide (n < m))) (by intro w; simp [binOp, Op.intCmp, UInt32.lt_iff_toNat_lt]) rfl
  case geq => exact fin _ (.bool (decide (n ≤ m))) (by intro w; simp [binOp, Op.intCmp, UInt32.le_iff_toNat_le]) rfl
  all_goals trivial

theorem bv64 (x : UInt64) : BitVec.ofInt 64 (x.toNat : Int) = x.toBitVec := by
  apply BitVec.eq_of_toNat_eq; rw [BitVec.toNat_ofInt]; have := x.toNat_lt
  rw [UInt64.toNat_toBitVec]; simp at this ⊢; omega
theorem bin64_good (h : St E H β own w a L M nk) {op : BinOp} {t t' : TypeId} {x y : Operand} (ho : o.op = .binOp op t x y t') {m n : UInt64}
    (hx : a.eval x = .int .u64 m.toNat) (hy : a.eval y = .int .u64 n.toNat) : OutGood E o a w H β own M nk (bin64 op m n) := by
  have hm := m.toNat_lt
  have hn := n.toNat_lt
  have fin : ∀ (s : SV) (u : Value), (∀ w, (binOp op t (.int .u64 m.toNat) (.int .u64 n.toNat)).run E.P w = .ok u w) → Rel H β s u → OkV E o a w H β own s M nk :=
    fun s u hr hs => Good.val h (fun w' _ => run_bin ho hx hy (hr w')) hs
  have bits : ∀ (z : UInt64) (r : Nat), r = z.toNat → Rel H β (.w64 z) (.int .u64 (IntKind.u64.wrap (r : Int))) := by
    rintro z r rfl
    have := z.toNat_lt
    rw [Rel, wrap64]; congr 1; omega
  have nez : n ≠ 0 → ¬ ((n.toNat : Int) = 0) := fun h0 e => h0 (UInt64.toNat_inj.1 (by simpa using (by omega : n.toNat = 0)))
  cases op
  case add => exact fin _ (.int .u64 (IntKind.u64.wrap (m.toNat + n.toNat))) (by intro w; simp [binOp, Op.intArith]) (by rw [Rel, wrap64, UInt64.toNat_add]; congr 1)
  case sub => exact fin _ (.int .u64 (IntKind.u64.wrap (m.toNat - n.toNat))) (by intro w; simp [binOp, Op.intArith]) (by rw [Rel, wrap64, UInt64.toNat_sub]; congr 1; omega)
  case mul => exact fin _ (.int .u64 (IntKind.u64.wrap (m.toNat * n.toNat))) (by intro w; simp [binOp, Op.intArith]) (by rw [Rel, wrap64, UInt64.toNat_mul]; congr 1)
  case quo => intro h0; exact fin _ (.int .u64 (IntKind.u64.wrap (Int.tdiv m.toNat n.toNat))) (by intro w; simp only [binOp, Op.intDiv, nez h0, if_false]; simp) (by
      rw [Int.tdiv_eq_ediv_of_nonneg (by omega)]; exact bits (m / n) (m.toNat / n.toNat) (UInt64.toNat_div ..).symm)
  case rem => intro h0; exact fin _ (.int .u64 (Int.tmod m.toNat n.toNat)) (by intro w; simp only [binOp, Op.intDiv, nez h0, if_false]; simp) (by
      rw [Rel, Int.tmod_eq_emod_of_nonneg (by omega), UInt64.toNat_mod]; rfl)
  case and => exact fin _ (.int .u64 (IntKind.u64.wrap (BitVec.ofInt 64 (m.toNat : Int) &&& BitVec.ofInt 64 (n.toNat : Int)).toNat)) (fun _ => rfl) (bits (m &&& n) _ (by rw [bv64, bv64]; rfl))
  case or => exact fin _ (.int .u64 (IntKind.u64.wrap (BitVec.ofInt 64 (m.toNat : Int) ||| BitVec.ofInt 64 (n.toNat : Int)).toNat)) (fun _ => rfl) (bits (m ||| n) _ (by rw [bv64, bv64]; rfl))
  case xor => exact fin _ (.int .u64 (IntKind.u64.wrap (BitVec.ofInt 64 (m.toNat : Int) ^^^ BitVec.ofInt 64 (n.toNat : Int)).toNat)) (fun _ => rfl) (bits (m ^^^ n) _ (by rw [bv64, bv64]; rfl))
  case andNot => exact fin _ (.int .u64 (IntKind.u64.wrap (BitVec.ofInt 64 (m.toNat : Int) &&& ~~~ BitVec.ofInt 64 (n.toNat : Int)).toNat)) (fun _ => rfl) (bits (m &&& ~~~ n) _ (by rw [bv64, bv64]; rfl))
  case eql => exact fin _ (.bool (decide (m = n))) (by
      intro w
      simp only [binOp, Op.intCmp]; by_cases e : m = n
      · simp [e]
      · simp [e]; intro e'; exact e (UInt64.toNat_inj.1 (by omega))) rfl
  case neq => exact fin _ (.bool (decide (m ≠ n))) (by
      intro w
      simp only [binOp, Op.intCmp]; by_cases e : m = n
      · simp [e]
      · simp [e]; intro e'; exact e (UInt64.toNat_inj.1 (by omega))) rfl
  case lss => exact fin _ (.bool (decide (m < n))) (by intro w; simp [binOp, Op.intCmp, UInt64.lt_iff_toNat_lt]) rfl
  case leq => exact fin _ (.bool (decide (m ≤ n))) (by intro w; simp [binOp, Op.intCmp, UInt64.le_iff_toNat_le]) rfl
  case gtr => exact fin _ (.bool (decide (n < m))) (by intro w; simp [binOp, Op.intCmp, UInt64.lt_iff_toNat_lt]) rfl
  case geq => exact fin _ (.bool (decide (n ≤ m))) (by intro w; simp [binOp, Op.intCmp, UInt64.le_iff_toNat_le]) rfl
  all_goals trivial

/-! ### Shifts, one operand, conversions -/
theorem shF_good (h : St E H β own w a L M nk) {op : BinOp} {t t' : TypeId} {x y : Operand} (ho : o.op = .binOp op t x y t') {s : SV} {k : IntKind} {j : Int}
    (hs : ev L x = some s) (hy : a.eval y = .int k j) (hj : 0 ≤ j) : OutGood E o a w H β own M nk (shF op s j.toNat) := by
  have hx := h.ev hs
  have fin : ∀ (r : SV) (u v : Value), a.eval x = v → (∀ w, (eqGuard op t x y v (.int k j)).run E.P w = .ok () w) → (∀ w, (binOp op t v (.int k j)).run E.P w = .ok u w) → Rel H β r u → OkV E o a w H β own r M nk := by
    rintro r u v rfl hg hr hrel
    refine Good.val h ?_ hrel
    intro w' _
    simp [execOp, ho, hy, hg w', hr w']
  have sh : ∀ (kx : IntKind) (m : Int), op = .shl → ∀ w, (binOp op t (.int kx m) (.int k j)).run E.P w = .ok (.int kx (kx.wrap (m * 2 ^ min j.toNat kx.bits))) w := by
    rintro kx m rfl w
    simp [binOp, Op.shift, show ¬ j < 0 by omega]
  have shr : ∀ (kx : IntKind) (m : Int), op = .shr → ∀ w, (binOp op t (.int kx m) (.int k j)).run E.P w = .ok (.int kx (m.fdiv (2 ^ min j.toNat kx.bits))) w := by
    rintro kx m rfl w
    simp [binOp, Op.shift, show ¬ j < 0 by omega]
  have gl : ∀ v, op = .shl → ∀ w, (eqGuard op t x y v (.int k j)).run E.P w = .ok () w := by rintro v rfl w; simp [eqGuard]
  have gr : ∀ v, op = .shr → ∀ w, (eqGuard op t x y v (.int k j)).run E.P w = .ok () w := by rintro v rfl w; simp [eqGuard]
  have mulpow : ∀ (c n b : Nat), c * 2 ^ min n b % 2 ^ b = c * 2 ^ n % 2 ^ b := by
    intro c n b
    rcases Nat.le_total n b with hh | hh
    · rw [Nat.min_eq_left hh]
    · rw [Nat.min_eq_right hh, Nat.mul_mod_left]
      obtain ⟨d, rfl⟩ := Nat.exists_eq_add_of_le hh
      rw [Nat.pow_add, ← Nat.mul_assoc, Nat.mul_right_comm, Nat.mul_mod_left]
  have divpow : ∀ (c n b : Nat), c < 2 ^ b → c / 2 ^ min n b = c / 2 ^ n := by
    intro c n b hc
    rcases Nat.le_total n b with hh | hh
    · rw [Nat.min_eq_left hh]
    · rw [Nat.min_eq_right hh, Nat.div_eq_of_lt hc, Nat.div_eq_of_lt (Nat.lt_of_lt_of_le hc (Nat.pow_le_pow_right (by omega) hh))]
  have fdivN : ∀ (c d : Nat), Int.fdiv (c : Int) (d : Int) = ((c / d : Nat) : Int) := by
    intro c d; rw [Int.fdiv_eq_ediv_of_nonneg _ (by omega)]; rfl
  unfold shF
  split
  · exact fin _ _ _ hx (gl _ rfl) (sh _ _ rfl) rfl
  · exact fin _ _ _ hx (gr _ rfl) (shr _ _ rfl) rfl
  · rename_i c
    refine fin _ _ _ hx (gl _ rfl) (sh _ _ rfl) ?_
    have hc := c.toNat_lt
    show _ = _
    rw [sl8, wrap8, UInt8.toNat_ofNat']
    congr 1
    have := mulpow c.toNat j.toNat 8
    simp only [IntKind.bits]
    rw [show ((c.toNat : Int) * 2 ^ min j.toNat 8) = ((c.toNat * 2 ^ min j.toNat 8 : Nat) : Int) by push_cast; rfl]
    omega
  · rename_i c
    refine fin _ _ _ hx (gr _ rfl) (shr _ _ rfl) ?_
    have hc := c.toNat_lt
    show _ = _
    rw [sr8, UInt8.toNat_ofNat']
    congr 1
    have := divpow c.toNat j.toNat 8 hc
    simp only [IntKind.bits]
    rw [show ((2 : Int) ^ min j.toNat 8) = ((2 ^ min j.toNat 8 : Nat) : Int) by push_cast; rfl, fdivN, this]
    have hle : c.toNat / 2 ^ j.toNat ≤ c.toNat := Nat.div_le_self _ _
    generalize c.toNat / 2 ^ j.toNat = q at *
    omega
  · rename_i c
    refine fin _ _ _ hx (gl _ rfl) (sh _ _ rfl) ?_
    have hc := c.toNat_lt
    show _ = _
    rw [sl16, wrap16, UInt16.toNat_ofNat']
    congr 1
    have := mulpow c.toNat j.toNat 16
    simp only [IntKind.bits]
    rw [show ((c.toNat : Int) * 2 ^ min j.toNat 16) = ((c.toNat * 2 ^ min j.toNat 16 : Nat) : Int) by push_cast; rfl]
    omega
  · rename_i c
    refine fin _ _ _ hx (gr _ rfl) (shr _ _ rfl) ?_
    have hc := c.toNat_lt
    show _ = _
    rw [sr16, UInt16.toNat_ofNat']
    congr 1
    have := divpow c.toNat j.toNat 16 hc
    simp only [IntKind.bits]
    rw [show ((2 : Int) ^ min j.toNat 16) = ((2 ^ min j.toNat 16 : Nat) : Int) by push_cast; rfl, fdivN, this]
    have hle : c.toNat / 2 ^ j.toNat ≤ c.toNat := Nat.div_le_self _ _
    generalize c.toNat / 2 ^ j.toNat = q at *
    omega
  · rename_i c
    refine fin _ _ _ hx (gl _ rfl) (sh _ _ rfl) ?_
    have hc := c.toNat_lt
    show _ = _
    rw [sl32, wrap32, UInt32.toNat_ofNat']
    congr 1
    have := mulpow c.toNat j.toNat 32
    simp only [IntKind.bits]
    rw [show ((c.toNat : Int) * 2 ^ min j.toNat 32) = ((c.toNat * 2 ^ min j.toNat 32 : Nat) : Int) by push_cast; rfl]
    omega
  · rename_i c
    refine fin _ _ _ hx (gr _ rfl) (shr _ _ rfl) ?_
    have hc := c.toNat_lt
    show _ = _
    rw [sr32, UInt32.toNat_ofNat']
    congr 1
    have := divpow c.toNat j.toNat 32 hc
    simp only [IntKind.bits]
    rw [show ((2 : Int) ^ min j.toNat 32) = ((2 ^ min j.toNat 32 : Nat) : Int) by push_cast; rfl, fdivN, this]
    have hle : c.toNat / 2 ^ j.toNat ≤ c.toNat := Nat.div_le_self _ _
    generalize c.toNat / 2 ^ j.toNat = q at *
    omega
  · rename_i c
    refine fin _ _ _ hx (gl _ rfl) (sh _ _ rfl) ?_
    have hc := c.toNat_lt
    show _ = _
    rw [sl64, wrap64, UInt64.toNat_ofNat']
    congr 1
    have := mulpow c.toNat j.toNat 64
    simp only [IntKind.bits]
    rw [show ((c.toNat : Int) * 2 ^ min j.toNat 64) = ((c.toNat * 2 ^ min j.toNat 64 : Nat) : Int) by push_cast; rfl]
    omega
  · rename_i c
    refine fin _ _ _ hx (gr _ rfl) (shr _ _ rfl) ?_
    have hc := c.toNat_lt
    show _ = _
    rw [sr64, UInt64.toNat_ofNat']
    congr 1
    have := divpow c.toNat j.toNat 64 hc
    simp only [IntKind.bits]
    rw [show ((2 : Int) ^ min j.toNat 64) = ((2 ^ min j.toNat 64 : Nat) : Int) by push_cast; rfl, fdivN, this]
    have hle : c.toNat / 2 ^ j.toNat ≤ c.toNat := Nat.div_le_self _ _
    generalize c.toNat / 2 ^ j.toNat = q at *
    omega
  · trivial

theorem un_good (h : St E H β own w a L M nk) {op : UnOp} {t : TypeId} {x : Operand} (ho : o.op = .unOp op t x) {s : SV} (hs : ev L x = some s) : OutGood E o a w H β own M nk (unF op s) := by
  have hx := h.ev hs
  have fin : ∀ (r : SV) (u v : Value), a.eval x = v → (∀ w, (Op.unary op v).run E.P w = .ok u w) → Rel H β r u → OkV E o a w H β own r M nk := by
    rintro r u v rfl hr hrel
    refine Good.val h ?_ hrel
    intro w' _
    simp [execOp, ho, hr w']
  unfold unF
  split
  · exact fin _ (.bool _) _ hx (fun _ => rfl) rfl
  · exact fin _ _ _ hx (fun _ => rfl) rfl
  · exact fin _ _ _ hx (fun _ => rfl) rfl
  · rename_i c
    refine fin _ _ _ hx (fun _ => rfl) ?_
    show _ = Value.int .u8 _
    have e : (BitVec.ofInt (IntKind.bits .u8) (IntKind.max .u8) ^^^ BitVec.ofInt (IntKind.bits .u8) (c.toNat : Int)).toNat = (~~~ c).toNat := by
      show (BitVec.allOnes 8 ^^^ BitVec.ofInt 8 (c.toNat : Int)).toNat = _
      rw [bv8, BitVec.allOnes_xor]; rfl
    have hc := (~~~ c).toNat_lt
    simp only [IntKind.signed, Bool.false_eq_true, if_false, e]
    rw [wrap8]; congr 1; omega
  · rename_i c
    refine fin _ _ _ hx (fun _ => rfl) ?_
    show _ = Value.int .u16 _
    have e : (BitVec.ofInt (IntKind.bits .u16) (IntKind.max .u16) ^^^ BitVec.ofInt (IntKind.bits .u16) (c.toNat : Int)).toNat = (~~~ c).toNat := by
      show (BitVec.allOnes 16 ^^^ BitVec.ofInt 16 (c.toNat : Int)).toNat = _
      rw [bv16, BitVec.allOnes_xor]; rfl
    have hc := (~~~ c).toNat_lt
    simp only [IntKind.signed, Bool.false_eq_true, if_false, e]
    rw [wrap16]; congr 1; omega
  · rename_i c
    refine fin _ _ _ hx (fun _ => rfl) ?_
    show _ = Value.int .u32 _
    have e : (BitVec.ofInt (IntKind.bits .u32) (IntKind.max .u32) ^^^ BitVec.ofInt (IntKind.bits .u32) (c.toNat : Int)).toNat = (~~~ c).toNat := by
      show (BitVec.allOnes 32 ^^^ BitVec.ofInt 32 (c.toNat : Int)).toNat = _
      rw [bv32, BitVec.allOnes_xor]; rfl
    have hc := (~~~ c).toNat_lt
    simp only [IntKind.signed, Bool.false_eq_true, if_false, e]
    rw [wrap32]; congr 1; omega
  · rename_i c
    refine fin _ _ _ hx (fun _ => rfl) ?_
    show _ = Value.int .u64 _
    have e : (BitVec.ofInt (IntKind.bits .u64) (IntKind.max .u64) ^^^ BitVec.ofInt (IntKind.bits .u64) (c.toNat : Int)).toNat = (~~~ c).toNat := by
      show (BitVec.allOnes 64 ^^^ BitVec.ofInt 64 (c.toNat : Int)).toNat = _
      rw [bv64, BitVec.allOnes_xor]; rfl
    have hc := (~~~ c).toNat_lt
    simp only [IntKind.signed, Bool.false_eq_true, if_false, e]
    rw [wrap64]; congr 1; omega
  · trivial

theorem conv_good (h : St E H β own w a L M nk) (hT : TyOK E.P E.T) {src dst : TypeId} {x : Operand} (ho : o.op = .convert src dst x) {k : IntKind} {y : Ty} (ht : E.T dst = some y) (hk : y.d = .int k)
    {s : SV} (hs : ev L x = some s) (hsrc : ∃ d, E.P.underlying src = some d) : OutGood E o a w H β own M nk (convK k s) := by
  obtain ⟨d, i, z, hd, hdb, _⟩ := hT dst y ht
  rw [hk] at hdb
  obtain rfl := desc_int hdb
  obtain ⟨ds, hds⟩ := hsrc
  have hx := h.ev hs
  have fin : ∀ (r : SV) (kx : IntKind) (m : Int), a.eval x = .int kx m → Rel H β r (.int k (k.wrap m)) → OkV E o a w H β own r M nk := by
    rintro r kx m hv hrel
    refine Good.val h ?_ hrel
    intro w' _
    simp [execOp, ho, hv, convert, run_und hds, run_und hd, Conv.intToInt]
  unfold convK
  split
  · exact fin _ _ _ hx rfl
  · rename_i c; exact fin _ _ _ hx (by have := c.toNat_lt; rw [Rel]; congr 1; simp only [IntKind.wrap, IntKind.bits, IntKind.signed]; simp; omega)
  · rename_i c; exact fin _ _ _ hx (by have := c.toNat_lt; rw [Rel]; congr 1; simp only [IntKind.wrap, IntKind.bits, IntKind.signed]; simp; omega)
  · rename_i c; exact fin _ _ _ hx (by have := c.toNat_lt; rw [Rel]; congr 1; simp only [IntKind.wrap, IntKind.bits, IntKind.signed]; simp; omega)
  · exact fin _ _ _ hx rfl
  · exact fin _ _ _ hx rfl
  · exact fin _ _ _ hx (by rw [Rel, wrap8, toNat_ofInt8])
  · rename_i c; exact fin _ _ _ hx (by have := c.toNat_lt; rw [Rel, wrap8]; congr 1; omega)
  · rename_i c; exact fin _ _ _ hx (by have := c.toNat_lt; rw [Rel, wrap8, UInt16.toNat_toUInt8]; congr 1 <;> omega)
  · rename_i c; exact fin _ _ _ hx (by have := c.toNat_lt; rw [Rel, wrap8, UInt32.toNat_toUInt8]; congr 1 <;> omega)
  · rename_i c; exact fin _ _ _ hx (by have := c.toNat_lt; rw [Rel, wrap8, UInt64.toNat_toUInt8]; congr 1 <;> omega)
  · exact fin _ _ _ hx (by rw [Rel, wrap16, toNat_ofInt16])
  · rename_i c; exact fin _ _ _ hx (by have := c.toNat_lt; rw [Rel, wrap16, UInt8.toNat_toUInt16]; congr 1 <;> omega)
  · rename_i c; exact fin _ _ _ hx (by have := c.toNat_lt; rw [Rel, wrap16]; congr 1; omega)
  · rename_i c; exact fin _ _ _ hx (by have := c.toNat_lt; rw [Rel, wrap16, UInt32.toNat_toUInt16]; congr 1 <;> omega)
  · rename_i c; exact fin _ _ _ hx (by have := c.toNat_lt; rw [Rel, wrap16, UInt64.toNat_toUInt16]; congr 1 <;> omega)
  · exact fin _ _ _ hx (by rw [Rel, wrap32, toNat_ofInt32])
  · rename_i c; exact fin _ _ _ hx (by have := c.toNat_lt; rw [Rel, wrap32, UInt8.toNat_toUInt32]; congr 1 <;> omega)
  · rename_i c; exact fin _ _ _ hx (by have := c.toNat_lt; rw [Rel, wrap32, UInt16.toNat_toUInt32]; congr 1 <;> omega)
  · rename_i c; exact fin _ _ _ hx (by have := c.toNat_lt; rw [Rel, wrap32]; congr 1; omega)
  · rename_i c; exact fin _ _ _ hx (by have := c.toNat_lt; rw [Rel, wrap32, UInt64.toNat_toUInt32]; congr 1 <;> omega)
  · exact fin _ _ _ hx (by rw [Rel, wrap32, toNat_ofInt32])
  · exact fin _ _ _ hx (by rw [Rel, wrap64, toNat_ofInt64])
  · rename_i c; exact fin _ _ _ hx (by have := c.toNat_lt; rw [Rel, wrap64, UInt8.toNat_toUInt64]; congr 1 <;> omega)
  · rename_i c; exact fin _ _ _ hx (by have := c.toNat_lt; rw [Rel, wrap64, UInt16.toNat_toUInt64]; congr 1 <;> omega)
  · rename_i c; exact fin _ _ _ hx (by have := c.toNat_lt; rw [Rel, wrap64, UInt32.toNat_toUInt64]; congr 1 <;> omega)
  · rename_i c; exact fin _ _ _ hx (by have := c.toNat_lt; rw [Rel, wrap64]; congr 1; omega)
  · exact fin _ _ _ hx (by rw [Rel, wrap64, toNat_ofInt64])
  · exact fin _ _ _ hx rfl
  · exact fin _ _ _ hx rfl
  · exact fin _ _ _ hx rfl
  · exact fin _ _ _ hx rfl
  · exact fin _ _ _ hx rfl
  · trivial
end
end Go.Sx
