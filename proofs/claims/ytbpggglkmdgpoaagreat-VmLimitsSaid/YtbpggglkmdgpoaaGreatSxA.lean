/-
  SxA: an engine of my own: symbolic values, symbolic memory, a runner over the model's code. No program in sight.
-/
import Derived.Orders
import Derived.Laws.Rows
import Derived.Laws.Tables
import Derived.Below
set_option linter.all false
set_option linter.unusedSimpArgs false
set_option linter.unusedVariables false
namespace Go.Sx
open Go

abbrev Hp := Nat → Option Obj

/-- What a cell of a partial heap holds. -/
def Hp.cell (H : Hp) (b off : Nat) : Option Value :=
  match H b with
  | some (.cells c _ _) => c[off]?
  | _ => none

/-- A symbolic value: words and numbers; pointers into blocks of the call's own (by key); slices and pointers that are only read (by content). -/
inductive SV where
  | v (x : Value)
  | int (n : Int)
  | w8 (x : UInt8)
  | w16 (x : UInt16)
  | w32 (x : UInt32)
  | w64 (x : UInt64)
  | bol (b : Bool)
  | p (k off : Nat)                       -- a pointer into own cells
  | pb (k off : Nat)                      -- a pointer into an own buffer
  | sc (k off n m : Nat)                  -- a slice of own cells: n elements, m of room
  | os (k lo n : Nat)                     -- a slice of an own buffer
  | rs (n : Nat) (cs : List SV)           -- a slice that is only read
  | rp (cs : List SV) (off : Nat)         -- a pointer that is only read
  | g (cs : List SV)                      -- a struct or an array by value
  | tup (xs : List SV)
  | fn (f : Fn) (xs ys : List SV)
  | ifc (t : TypeId) (x : SV)
deriving Inhabited

/-- What stands behind a key. -/
structure KE where
  blk : Nat
  pre : Nat      -- for a buffer: cells ahead of it
  cap : Nat      -- for a buffer: its elements at most
  esz : Nat

abbrev Env := Nat → Option KE

def atomV : Value → Bool
  | .agg _ | .tuple _ => false
  | _ => true

mutual
def Rel (H : Hp) (β : Env) : SV → Value → Prop
  | .v x, u => u = x
  | .int n, u => u = .int .i64 n
  | .w8 x, u => u = .int .u8 x.toNat
  | .w16 x, u => u = .int .u16 x.toNat
  | .w32 x, u => u = .int .u32 x.toNat
  | .w64 x, u => u = .int .u64 x.toNat
  | .bol b, u => u = .bool b
  | .p k off, u => ∃ e, β k = some e ∧ u = .pointer (some ⟨e.blk, off, none⟩)
  | .pb k off, u => ∃ e, β k = some e ∧ u = .pointer (some ⟨e.blk, e.pre + off, none⟩)
  | .sc k off n m, u => ∃ e, β k = some e ∧ ∃ a, u = .slice a n m ∧ n ≤ m ∧ (m = 0 ∨ a = some ⟨e.blk, off, none⟩)
  | .os k lo n, u => ∃ e, β k = some e ∧ ∃ a cap, u = .slice a n cap ∧ n ≤ cap ∧ lo + cap ≤ e.cap ∧
      (cap = 0 ∨ (a = some ⟨e.blk, e.pre + lo * e.esz, none⟩ ∧ lo + cap = e.cap))
  | .rs n cs, u => ∃ a cap, u = .slice a n cap ∧ n ≤ cap ∧
      ((n = 0 ∧ cs = []) ∨ ∃ b off vs, a = some ⟨b, off, none⟩ ∧ RelC H (fun _ => none) cs vs ∧ ∀ i x, vs[i]? = some x → H.cell b (off + i) = some x)
  | .rp cs o, u => ∃ b off vs, u = .pointer (some ⟨b, off + o, none⟩) ∧ RelC H (fun _ => none) cs vs ∧ ∀ i x, vs[i]? = some x → H.cell b (off + i) = some x
  | .g cs, u => ∃ vs : List Value, u = .agg vs.toArray ∧ RelC H β cs vs
  | .tup cs, u => ∃ vs : List Value, u = .tuple vs.toArray ∧ RelL H β cs vs
  | .fn f xs ys, u => ∃ vs us : List Value, u = .func f vs.toArray us.toArray ∧ RelL H β xs vs ∧ RelL H β ys us
  | .ifc t x, u => ∃ y, u = .iface t y ∧ Rel H β x y
def RelL (H : Hp) (β : Env) : List SV → List Value → Prop
  | [], us => us = []
  | x :: xs, us => ∃ u us', us = u :: us' ∧ Rel H β x u ∧ RelL H β xs us'
/-- Cells: each the value of one cell. -/
def RelC (H : Hp) (β : Env) : List SV → List Value → Prop
  | [], us => us = []
  | x :: xs, us => ∃ u us', us = u :: us' ∧ Rel H β x u ∧ atomV u = true ∧ RelC H β xs us'
end

/-- What an own block holds. -/
inductive Ent where
  | cells (ty : TypeId) (c : List SV)
  | buf (ty : TypeId) (esz : Nat) (c : List SV)
  | abs (φ : Nat → Hp → Prop)            -- a whole of own blocks, of which only a law is told

/-- The heap's part on some blocks. -/
noncomputable def Hp.on (S : Nat → Prop) (w : World) : Hp := fun b => open Classical in if S b then w.heap[b]? else none

abbrev Mem := List (Nat × Ent)
abbrev Slots := List (Nat × SV)

def EntOK (H : Hp) (β : Env) (own : Nat → Option Nat) (w : World) (k : Nat) : Ent → Prop
  | .cells ty c => ∃ e vs, β k = some e ∧ own e.blk = some k ∧ RelC H β c vs ∧ w.heap[e.blk]? = some (.cells vs.toArray ty (0, 0))
  | .buf ty esz c => ∃ e, β k = some e ∧ e.esz = esz ∧ 0 < esz ∧ c.length ≤ e.cap * esz ∧
      ((e.cap = 0 ∧ c = []) ∨
       ∃ prev vs junk : List Value, own e.blk = some k ∧ RelC H β c vs ∧ e.pre = prev.length ∧ vs.length + junk.length = e.cap * esz ∧
         w.heap[e.blk]? = some (.cells (prev ++ vs ++ junk).toArray ty (0, 0)) ∧ ∀ v ∈ prev ++ junk, atomV v = true)
  | .abs φ => ∃ e S, β k = some e ∧ (∀ b, S b → own b = some k) ∧ φ e.blk (Hp.on S w)

structure MemOK (H : Hp) (β : Env) (own : Nat → Option Nat) (M : Mem) (w : World) : Prop where
  ro : ∀ b o, H b = some o → own b = none ∧ w.heap[b]? = some o
  lt : ∀ b k, own b = some k → b < w.heap.size ∧ ∃ e, β k = some e
  ent : ∀ k e, (k, e) ∈ M → EntOK H β own w k e

/-- From one state of memory to a later one. -/
structure Later (H : Hp) (own : Nat → Option Nat) (w : World) (H' : Hp) (own' : Nat → Option Nat) (w' : World) : Prop where
  os : w'.os = w.os
  tape : w'.tape = w.tape
  output : w'.output = w.output
  size : w.heap.size ≤ w'.heap.size
  mono : ∀ b o, H b = some o → H' b = some o
  new : ∀ b o, H' b = some o → H b = some o ∨ own b ≠ none ∨ w.heap.size ≤ b
  fresh : ∀ b, own' b ≠ none → own b ≠ none ∨ w.heap.size ≤ b
  same : ∀ b, b < w.heap.size → own b = none → w'.heap[b]? = w.heap[b]?

/-- What a call comes to. -/
inductive Res where
  | ret (x : SV)
  | pan (x : SV)

/-- THE CONTRACT: arguments, own memory, how many of its keys stay what they are, what may come of it. -/
def Tri (P : Program) (f : FuncId) (args : List SV) (M : Mem) (kp : Nat) (R : Res → Mem → Prop) : Prop :=
  ∀ H β own w vals, MemOK H β own M w → (∀ k, (∃ e, (k, e) ∈ M) ∨ β k = none) → RelL H β args vals →
    Calls P f vals.toArray w fun e w' => ∃ H' β' own' r M', MemOK H' β' own' M' w' ∧ Later H own w H' own' w' ∧ (∀ k e, k < kp → β k = some e → β' k = some e) ∧ R r M' ∧
      match r with
      | .ret x => ∃ u, e = .returned u ∧ Rel H' β' x u
      | .pan x => ∃ u, e = .panicked [{ v := u, recovered := false }] ∧ Rel H' β' x u

/-- A call that only reads what it is given and hands back something new (or a part of it). -/
def Pure (P : Program) (f : FuncId) (args : List SV) (r : SV) : Prop :=
  Tri P f args [] 0 fun x M' => x = .ret r ∧ M' = []

/-! ### Types -/
structure Ty where
  d : TypeDesc
  size : Nat
  bytes : Nat
  zero : List SV

def Ty.agg (t : Ty) : Bool := match t.d with | .struct _ | .array _ _ => true | _ => false
def Ty.z0 (t : Ty) : SV := t.zero.headD (.v undef)

mutual
def plainB : SV → Value → Bool
  | .v (.int .i8 n), .int .i8 m => n == m
  | .v (.int .i16 n), .int .i16 m => n == m
  | .v (.int .i32 n), .int .i32 m => n == m
  | .v (.string s), .string t => s.data.toList == t.data.toList
  | .v (.pointer none), .pointer none => true
  | .v (.slice none 0 0), .slice none 0 0 => true
  | .v (.map none), .map none => true
  | .v .nilFunc, .nilFunc => true
  | .v .nilIface, .nilIface => true
  | .int n, .int .i64 m => n == m
  | .w8 x, .int .u8 m => (x.toNat : Int) == m
  | .w16 x, .int .u16 m => (x.toNat : Int) == m
  | .w32 x, .int .u32 m => (x.toNat : Int) == m
  | .w64 x, .int .u64 m => (x.toNat : Int) == m
  | .bol b, .bool c => b == c
  | _, _ => false
def plainLB : List SV → List Value → Bool
  | [], [] => true
  | x :: xs, u :: us => plainB x u && plainLB xs us
  | _, _ => false
end

/-- Does the table's row fit the program? (Closed: the kernel reckons it.) -/
def descB : TypeDesc → TypeDesc → Bool
  | .bool, .bool | .string, .string => true
  | .int a, .int b => a == b
  | .pointer a, .pointer b | .slice a, .slice b => a == b
  | .array n a, .array m b => n == m && a == b
  | .map k a, .map l b => k == l && a == b
  | .struct fs, .struct gs => fs.size == gs.size && (fs.toList.zip gs.toList).all fun (f, g) => f.type == g.type && f.offset == g.offset
  | .func .., .func .. => true
  | .interface _, .interface _ => true
  | .tuple .., .tuple .. => true
  | _, _ => false

def aggV : Value → Bool | .agg _ => true | _ => false
def plainZ (y : Ty) (z : Value) : Bool := plainLB y.zero z.cells.toList && (aggV z == y.agg)

def TyOK (P : Program) (T : TypeId → Option Ty) : Prop :=
  ∀ t y, T t = some y → ∃ d i z, P.underlying t = some d ∧ descB y.d d = true ∧ P.info? t = some i ∧ i.size = y.size ∧ i.bytes = y.bytes ∧
    i.zero = some z ∧ plainZ y z = true ∧ y.zero.length = y.size

/-! ### The runner -/
mutual
/-- A way through a drawn region: take what may be taken first (`reg`: it looks at no memory); or branch over all that are ready. -/
inductive Tr where
  | done
  | take (reg : Bool) (i : Nat) (t : Tr)
  | br (l : Brs)
inductive Brs where
  | nil
  | cons (i : Nat) (t : Tr) (l : Brs)
end

inductive It where
  | ops (all : Array Oper) (l : List Oper)
  | dtr (all : Array Oper) (t : Tr)
  | dop (all : Array Oper) (calm : Option Bool) (o : Oper) (t : Tr)
  | dbr (all : Array Oper) (l : Brs)
  | code (c : Code)
  | inBlock (id : Nat)
  | stop (X : Slots → Mem → Nat → Prop)
  | rnd (c : Code) (j : Nat)

def look : Slots → Nat → Option SV
  | [], _ => none
  | (i, x) :: l, t => if t = i then some x else look l t
def put (L : Slots) : Option Tmp → SV → Slots
  | none, _ => L
  | some d, x => (d, x) :: L
def mget : Mem → Nat → Option Ent
  | [], _ => none
  | (i, x) :: l, t => if t = i then some x else mget l t
def mset : Mem → Nat → Ent → Mem
  | [], _, _ => []
  | (i, x) :: l, t, e => if t = i then (i, e) :: mset l t e else (i, x) :: mset l t e
def mdel : Mem → Nat → Mem
  | [], _ => []
  | (i, x) :: l, t => if t = i then mdel l t else (i, x) :: mdel l t

/-- A constant of the text. -/
def cst : Value → SV
  | .int .i64 n => .int n
  | .int .u8 n => if 0 ≤ n ∧ n < 256 then .w8 (UInt8.ofNat n.toNat) else .v (.int .u8 n)
  | .int .u16 n => if 0 ≤ n ∧ n < 65536 then .w16 (UInt16.ofNat n.toNat) else .v (.int .u16 n)
  | .int .u32 n => if 0 ≤ n ∧ n < 4294967296 then .w32 (UInt32.ofNat n.toNat) else .v (.int .u32 n)
  | .int .u64 n => if 0 ≤ n ∧ n < 18446744073709551616 then .w64 (UInt64.ofNat n.toNat) else .v (.int .u64 n)
  | .bool b => .bol b
  | x => .v x

def ev (L : Slots) : Operand → Option SV
  | .tmp t => look L t
  | .const c => some (cst c)
  | .global _ => none
  | .func f => some (.fn (.func f) [] [])

def evs (L : Slots) : List Operand → Option (List SV)
  | [] => some []
  | x :: xs => match ev L x, evs L xs with
    | some s, some l => some (s :: l)
    | _, _ => none

inductive Out where
  | ok (s : SV)
  | okM (s : SV) (M : Mem) (nk : Nat)
  | cond (p : Prop) (r : Out)
  | any (f : Bool → Out)
  | asm (p : Prop) (r : Out)
  | stuck

/-- What the runner goes by. -/
structure Rx where
  P : Program
  T : TypeId → Option Ty
  Γ : FuncId → List SV → Option (Prop × SV)           -- calls that only read: under what, what comes back
  hard : FuncId → Option Bool                         -- functions that turn own memory (true: they only look at it):
  Δ : FuncId → List SV → Mem → Nat → (Res → Mem → Nat → Prop) → Prop   -- .. how
  fn : Func
  plan : Nat → Tr
  kp : Nat
  R : Res → Mem → Nat → Prop
  unr : Nat                                           -- so many rounds of a loop are walked (0: a loop stops the walk)
  dfl : Bool                                          -- does it defer calls?
  ds : List (FuncId × List SV)                        -- .. those that wait
  Λ : FuncId → List SV → Option SV → Mem → Nat → (Mem → Nat → Prop) → Prop   -- .. what they do
structure Cx extends Rx where
  H0 : Hp
  β0 : Env
  own0 : Nat → Option Nat
  w0 : World

/-- A spine laid bare. -/
def putK (L : Slots) (d : Option Tmp) (s : SV) (K : Slots → Prop) : Prop :=
  match d with
  | none => K L
  | some t => K ((t, s) :: L)
theorem putK_eq (L : Slots) (d : Option Tmp) (s : SV) (K : Slots → Prop) : putK L d s K = K (put L d s) := by cases d <;> rfl
def memK : Mem → (Mem → Prop) → Prop
  | [], K => K []
  | (i, e) :: l, K => memK l fun l' => K ((i, e) :: l')
theorem memK_eq : ∀ (M : Mem) (K : Mem → Prop), memK M K = K M
  | [], _ => rfl
  | (i, e) :: l, K => memK_eq l fun l' => K ((i, e) :: l')

def go1 (K : Slots → Mem → Nat → Prop) (S : Prop) (d : Option Tmp) (L : Slots) (M : Mem) (nk : Nat) : Out → Prop
  | .ok s => putK L d s fun L' => K L' M nk
  | .okM s M' nk' => putK L d s fun L' => memK M' fun M'' => K L' M'' nk'
  | .cond p r => p ∧ go1 K S d L M nk r
  | .any f => go1 K S d L M nk (f true) ∧ go1 K S d L M nk (f false)
  | .asm p r => p → go1 K S d L M nk r
  | .stuck => S


/-! ### Arithmetic -/
def sl8 (x : UInt8) (n : Nat) : UInt8 := UInt8.ofNat (x.toNat * 2 ^ n)
def sr8 (x : UInt8) (n : Nat) : UInt8 := UInt8.ofNat (x.toNat / 2 ^ n)
def sl16 (x : UInt16) (n : Nat) : UInt16 := UInt16.ofNat (x.toNat * 2 ^ n)
def sr16 (x : UInt16) (n : Nat) : UInt16 := UInt16.ofNat (x.toNat / 2 ^ n)
def sl32 (x : UInt32) (n : Nat) : UInt32 := UInt32.ofNat (x.toNat * 2 ^ n)
def sr32 (x : UInt32) (n : Nat) : UInt32 := UInt32.ofNat (x.toNat / 2 ^ n)
def sl64 (x : UInt64) (n : Nat) : UInt64 := UInt64.ofNat (x.toNat * 2 ^ n)
def sr64 (x : UInt64) (n : Nat) : UInt64 := UInt64.ofNat (x.toNat / 2 ^ n)
def wi (n : Int) : Int := IntKind.i64.wrap n
def bitsI (op : BinOp) (a b : Int) : Int :=
  match op with
  | .and => IntKind.i64.wrap (BitVec.ofInt 64 a &&& BitVec.ofInt 64 b).toNat
  | .or => IntKind.i64.wrap (BitVec.ofInt 64 a ||| BitVec.ofInt 64 b).toNat
  | .xor => IntKind.i64.wrap (BitVec.ofInt 64 a ^^^ BitVec.ofInt 64 b).toNat
  | _ => IntKind.i64.wrap (BitVec.ofInt 64 a &&& ~~~ BitVec.ofInt 64 b).toNat

/-- A number as an index or a count. -/
def idx : SV → Option Int
  | .int n => some n
  | .w8 x => some x.toNat
  | .w16 x => some x.toNat
  | .w32 x => some x.toNat
  | .w64 x => some x.toNat
  | _ => none

def shF (op : BinOp) (s : SV) (n : Nat) : Out :=
  match op, s with
  | .shl, .int a => .ok (.int (wi (a * 2 ^ min n 64)))
  | .shr, .int a => .ok (.int (a.fdiv (2 ^ min n 64)))
  | .shl, .w8 x => .ok (.w8 (sl8 x n))
  | .shr, .w8 x => .ok (.w8 (sr8 x n))
  | .shl, .w16 x => .ok (.w16 (sl16 x n))
  | .shr, .w16 x => .ok (.w16 (sr16 x n))
  | .shl, .w32 x => .ok (.w32 (sl32 x n))
  | .shr, .w32 x => .ok (.w32 (sr32 x n))
  | .shl, .w64 x => .ok (.w64 (sl64 x n))
  | .shr, .w64 x => .ok (.w64 (sr64 x n))
  | _, _ => .stuck

def binI (op : BinOp) (a b : Int) : Out :=
  match op with
  | .add => .ok (.int (wi (a + b)))
  | .sub => .ok (.int (wi (a - b)))
  | .mul => .ok (.int (wi (a * b)))
  | .quo => .cond (b ≠ 0) (.ok (.int (wi (a.tdiv b))))
  | .rem => .cond (b ≠ 0) (.ok (.int (a.tmod b)))
  | .and => .ok (.int (bitsI .and a b))
  | .or => .ok (.int (bitsI .or a b))
  | .xor => .ok (.int (bitsI .xor a b))
  | .andNot => .ok (.int (bitsI .andNot a b))
  | .eql => .ok (.bol (decide (a = b)))
  | .neq => .ok (.bol (decide (a ≠ b)))
  | .lss => .ok (.bol (decide (a < b)))
  | .leq => .ok (.bol (decide (a ≤ b)))
  | .gtr => .ok (.bol (decide (b < a)))
  | .geq => .ok (.bol (decide (b ≤ a)))
  | _ => .stuck
def bin8 (op : BinOp) (a b : UInt8) : Out :=
  match op with
  | .add => .ok (.w8 (a + b))
  | .sub => .ok (.w8 (a - b))
  | .mul => .ok (.w8 (a * b))
  | .quo => .cond (b ≠ 0) (.ok (.w8 (a / b)))
  | .rem => .cond (b ≠ 0) (.ok (.w8 (a % b)))
  | .and => .ok (.w8 (a &&& b))
  | .or => .ok (.w8 (a ||| b))
  | .xor => .ok (.w8 (a ^^^ b))
  | .andNot => .ok (.w8 (a &&& ~~~ b))
  | .eql => .ok (.bol (decide (a = b)))
  | .neq => .ok (.bol (decide (a ≠ b)))
  | .lss => .ok (.bol (decide (a < b)))
  | .leq => .ok (.bol (decide (a ≤ b)))
  | .gtr => .ok (.bol (decide (b < a)))
  | .geq => .ok (.bol (decide (b ≤ a)))
  | _ => .stuck
def bin16 (op : BinOp) (a b : UInt16) : Out :=
  match op with
  | .add => .ok (.w16 (a + b))
  | .sub => .ok (.w16 (a - b))
  | .mul => .ok (.w16 (a * b))
  | .quo => .cond (b ≠ 0) (.ok (.w16 (a / b)))
  | .rem => .cond (b ≠ 0) (.ok (.w16 (a % b)))
  | .and => .ok (.w16 (a &&& b))
  | .or => .ok (.w16 (a ||| b))
  | .xor => .ok (.w16 (a ^^^ b))
  | .andNot => .ok (.w16 (a &&& ~~~ b))
  | .eql => .ok (.bol (decide (a = b)))
  | .neq => .ok (.bol (decide (a ≠ b)))
  | .lss => .ok (.bol (decide (a < b)))
  | .leq => .ok (.bol (decide (a ≤ b)))
  | .gtr => .ok (.bol (decide (b < a)))
  | .geq => .ok (.bol (decide (b ≤ a)))
  | _ => .stuck
def bin32 (op : BinOp) (a b : UInt32) : Out :=
  match op with
  | .add => .ok (.w32 (a + b))
  | .sub => .ok (.w32 (a - b))
  | .mul => .ok (.w32 (a * b))
  | .quo => .cond (b ≠ 0) (.ok (.w32 (a / b)))
  | .rem => .cond (b ≠ 0) (.ok (.w32 (a % b)))
  | .and => .ok (.w32 (a &&& b))
  | .or => .ok (.w32 (a ||| b))
  | .xor => .ok (.w32 (a ^^^ b))
  | .andNot => .ok (.w32 (a &&& ~~~ b))
  | .eql => .ok (.bol (decide (a = b)))
  | .neq => .ok (.bol (decide (a ≠ b)))
  | .lss => .ok (.bol (decide (a < b)))
  | .leq => .ok (.bol (decide (a ≤ b)))
  | .gtr => .ok (.bol (decide (b < a)))
  | .geq => .ok (.bol (decide (b ≤ a)))
  | _ => .stuck
def bin64 (op : BinOp) (a b : UInt64) : Out :=
  match op with
  | .add => .ok (.w64 (a + b))
  | .sub => .ok (.w64 (a - b))
  | .mul => .ok (.w64 (a * b))
  | .quo => .cond (b ≠ 0) (.ok (.w64 (a / b)))
  | .rem => .cond (b ≠ 0) (.ok (.w64 (a % b)))
  | .and => .ok (.w64 (a &&& b))
  | .or => .ok (.w64 (a ||| b))
  | .xor => .ok (.w64 (a ^^^ b))
  | .andNot => .ok (.w64 (a &&& ~~~ b))
  | .eql => .ok (.bol (decide (a = b)))
  | .neq => .ok (.bol (decide (a ≠ b)))
  | .lss => .ok (.bol (decide (a < b)))
  | .leq => .ok (.bol (decide (a ≤ b)))
  | .gtr => .ok (.bol (decide (b < a)))
  | .geq => .ok (.bol (decide (b ≤ a)))
  | _ => .stuck

/-- Two values of a type of pointers, slices, functions or interfaces, one of them nil. -/
def eqN (d : TypeDesc) (a b : SV) : Option Bool :=
  match d, a, b with
  | .pointer _, .v (.pointer none), .v (.pointer none) => some true
  | .pointer _, .p _ _, .v (.pointer none) => some false
  | .pointer _, .pb _ _, .v (.pointer none) => some false
  | .pointer _, .rp _ _, .v (.pointer none) => some false
  | .slice _, .v (.slice none _ _), .v (.slice none _ _) => some true
  | .func _ _ _, .v .nilFunc, .v .nilFunc => some true
  | .func _ _ _, .fn _ _ _, .v .nilFunc => some false
  | .interface _, .ifc _ _, .v .nilIface => some false
  | _, _, _ => none

/-- How many elements a slice has that may be nil. -/
def slN : SV → Option Nat
  | .rs n _ => some n
  | .os _ _ n => some n
  | .sc _ _ n _ => some n
  | _ => none
def isNilS : SV → Bool
  | .v (.slice none _ _) => true
  | _ => false
def eqF (d : TypeDesc) (op : BinOp) (a b : SV) : Out :=
  match d, slN a, isNilS b with
  | .slice _, some n, true => match op with
    | .eql => .any fun t => .asm (t = true → n = 0) (.ok (.bol t))
    | .neq => .any fun t => .asm (t = false → n = 0) (.ok (.bol t))
    | _ => .stuck
  | _, _, _ => match op with
    | .eql => match eqN d a b with | some r => .ok (.bol r) | none => .stuck
    | .neq => match eqN d a b with | some r => .ok (.bol (!r)) | none => .stuck
    | _ => .stuck

def isW8 : SV → Bool | .w8 _ => true | _ => false
def toW8 : SV → UInt8 | .w8 x => x | _ => 0
def by8 (l : List SV) : List UInt8 := l.map toW8
/-- A string of known bytes. -/
def strV (l : List UInt8) : SV := .v (.string ⟨l.toArray⟩)
def isStr : Value → Option (List UInt8)
  | .string s => some s.data.toList
  | _ => none
def eqS (op : BinOp) (a b : List UInt8) : Out :=
  match op with
  | .eql => .ok (.bol (decide (a = b)))
  | .neq => .ok (.bol (!decide (a = b)))
  | _ => .stuck

def binW (y : Option Ty) (op : BinOp) (a b : SV) : Out :=
  match a, b with
  | .int x, .int y => binI op x y
  | .w8 x, .w8 y => bin8 op x y
  | .w16 x, .w16 y => bin16 op x y
  | .w32 x, .w32 y => bin32 op x y
  | .w64 x, .w64 y => bin64 op x y
  | .bol x, .bol z => match y with
    | some ⟨.bool, _, _, _⟩ => match op with
      | .eql => .ok (.bol (x == z))
      | .neq => .ok (.bol (!(x == z)))
      | _ => .stuck
    | _ => .stuck
  | .v (.string p), .v (.string q) => match y with
    | some ⟨.string, _, _, _⟩ => eqS op p.data.toList q.data.toList
    | _ => .stuck
  | x, z => match y with
    | some t => eqF t.d op x z
    | none => .stuck

def binF (y : Option Ty) (op : BinOp) (a b : SV) : Out :=
  match op with
  | .shl => match idx b with
    | some n => .cond (0 ≤ n) (shF .shl a n.toNat)
    | none => .stuck
  | .shr => match idx b with
    | some n => .cond (0 ≤ n) (shF .shr a n.toNat)
    | none => .stuck
  | op => binW y op a b

def unF (op : UnOp) (a : SV) : Out :=
  match op, a with
  | .not, .bol b => .ok (.bol (!b))
  | .neg, .int n => .ok (.int (wi (0 - n)))
  | .xor, .int n => .ok (.int (bitsI .xor (-1) n))
  | .xor, .w8 x => .ok (.w8 (~~~ x))
  | .xor, .w16 x => .ok (.w16 (~~~ x))
  | .xor, .w32 x => .ok (.w32 (~~~ x))
  | .xor, .w64 x => .ok (.w64 (~~~ x))
  | _, _ => .stuck

/-- From a number to a kind. -/
def convK (k : IntKind) (a : SV) : Out :=
  match k, a with
  | .i64, .int n => .ok (.int (wi n))
  | .i64, .w8 x => .ok (.int x.toNat)
  | .i64, .w16 x => .ok (.int x.toNat)
  | .i64, .w32 x => .ok (.int x.toNat)
  | .i64, .w64 x => .ok (.int (wi x.toNat))
  | .i64, .v (.int _ n) => .ok (.int (wi n))
  | .u8, .int n => .ok (.w8 (UInt8.ofInt n))
  | .u8, .w8 x => .ok (.w8 x)
  | .u8, .w16 x => .ok (.w8 x.toUInt8)
  | .u8, .w32 x => .ok (.w8 x.toUInt8)
  | .u8, .w64 x => .ok (.w8 x.toUInt8)
  | .u16, .int n => .ok (.w16 (UInt16.ofInt n))
  | .u16, .w8 x => .ok (.w16 x.toUInt16)
  | .u16, .w16 x => .ok (.w16 x)
  | .u16, .w32 x => .ok (.w16 x.toUInt16)
  | .u16, .w64 x => .ok (.w16 x.toUInt16)
  | .u32, .int n => .ok (.w32 (UInt32.ofInt n))
  | .u32, .w8 x => .ok (.w32 x.toUInt32)
  | .u32, .w16 x => .ok (.w32 x.toUInt32)
  | .u32, .w32 x => .ok (.w32 x)
  | .u32, .w64 x => .ok (.w32 x.toUInt32)
  | .u32, .v (.int _ n) => .ok (.w32 (UInt32.ofInt n))
  | .u64, .int n => .ok (.w64 (UInt64.ofInt n))
  | .u64, .w8 x => .ok (.w64 x.toUInt64)
  | .u64, .w16 x => .ok (.w64 x.toUInt64)
  | .u64, .w32 x => .ok (.w64 x.toUInt64)
  | .u64, .w64 x => .ok (.w64 x)
  | .u64, .v (.int _ n) => .ok (.w64 (UInt64.ofInt n))
  | .i32, .int n => .ok (.v (.int .i32 (IntKind.i32.wrap n)))
  | .i32, .w8 x => .ok (.v (.int .i32 (IntKind.i32.wrap x.toNat)))
  | .i32, .w32 x => .ok (.v (.int .i32 (IntKind.i32.wrap x.toNat)))
  | .i32, .w64 x => .ok (.v (.int .i32 (IntKind.i32.wrap x.toNat)))
  | .i32, .v (.int _ n) => .ok (.v (.int .i32 (IntKind.i32.wrap n)))
  | _, _ => .stuck

/-! ### Memory -/
def atomS : SV → Bool
  | .g _ | .tup _ => false
  | .v x => atomV x
  | _ => true
def cellsOf (s : SV) : Option (List SV) :=
  match s with
  | .g cs => some cs
  | s => if atomS s then some [s] else none

/-- A part of a row. -/
def slc (c : List SV) (off n : Nat) : List SV := (c.drop off).take n
/-- A part of a row, written over. -/
def spl (c : List SV) (off : Nat) (d : List SV) : List SV := if c.length = d.length then d else c.take off ++ d ++ c.drop (off + d.length)

def rd (y : Ty) (c : List SV) (off : Nat) : Out :=
  if y.agg then .cond (off + y.size ≤ c.length) (.ok (.g (slc c off y.size)))
  else .cond (off < c.length) (.ok (c.getD off y.z0))

def stLoad (y : Ty) (M : Mem) : SV → Out
  | .p k off => match mget M k with
    | some (.cells _ c) => rd y c off
    | _ => .stuck
  | .pb k off => match mget M k with
    | some (.buf _ _ c) => rd y c off
    | _ => .stuck
  | .rp c off => rd y c off
  | _ => .stuck

def wr (y : Ty) (c : List SV) (off : Nat) (d : List SV) (K : List SV → Out) : Out :=
  match d with
  | [x] => .cond (y.size = 1 ∧ off < c.length) (K (c.set off x))
  | d => .cond (d.length = y.size ∧ off + d.length ≤ c.length) (K (spl c off d))

def stStore (y : Ty) (M : Mem) (nk : Nat) (a s : SV) : Out :=
  match cellsOf s with
  | none => .stuck
  | some d => match a with
    | .p k off => match mget M k with
      | some (.cells t c) => wr y c off d fun c' => .okM (.v undef) (mset M k (.cells t c')) nk
      | _ => .stuck
    | .pb k off => match mget M k with
      | some (.buf t z c) => wr y c off d fun c' => .okM (.v undef) (mset M k (.buf t z c')) nk
      | _ => .stuck
    | _ => .stuck

def addP (a : SV) (n : Nat) : Option SV :=
  match a with
  | .p k off => some (.p k (off + n))
  | .pb k off => some (.pb k (off + n))
  | .rp c off => some (.rp c (off + n))
  | _ => none

def stField (T : TypeId → Option Ty) (y : Ty) (s : SV) (f : Nat) : Out :=
  match y.d, s with
  | .struct fs, .g cs => match fs[f]? with
    | some fd => match T fd.type with
      | some z => rd z cs fd.offset
      | none => .stuck
    | none => .stuck
  | _, _ => .stuck

def stFieldAddr (T : TypeId → Option Ty) (y : Ty) (s : SV) (f : Nat) : Out :=
  match y.d with
  | .struct fs => match fs[f]? with
    | some fd => match T fd.type with
      | some z => match addP s fd.offset with
        | some r => .cond (0 < z.size) (.ok r)
        | none => .stuck
      | none => .stuck
    | none => .stuck
  | _ => .stuck

def stIndexAddr (T : TypeId → Option Ty) (y : Ty) (M : Mem) (s i : SV) : Out :=
  match idx i with
  | none => .stuck
  | some j => match y.d with
    | .array n e => match T e with
      | some z => match addP s (j.toNat * z.size) with
        | some r => .cond (0 ≤ j ∧ j < n) (.ok r)
        | none => .stuck
      | none => .stuck
    | .slice e => match T e with
      | some z => match s with
        | .rs n c => .cond (0 ≤ j ∧ j < n) (.ok (.rp c (j.toNat * z.size)))
        | .os k lo n => match mget M k with
          | some (.buf _ zz _) => .cond (0 ≤ j ∧ j < n ∧ zz = z.size) (.ok (.pb k ((lo + j.toNat) * z.size)))
          | _ => .stuck
        | .sc k off n _ => .cond (0 ≤ j ∧ j < n) (.ok (.p k (off + j.toNat * z.size)))
        | _ => .stuck
      | none => .stuck
    | _ => .stuck

def stIndex (T : TypeId → Option Ty) (y : Ty) (s i : SV) : Out :=
  match idx i with
  | none => .stuck
  | some j => match y.d, s with
    | .array n e, .g cs => match T e with
      | some z => .cond (0 ≤ j ∧ j < n) (rd z cs (j.toNat * z.size))
      | none => .stuck
    | _, _ => .stuck

def evO (L : Slots) : Option Operand → Option (Option SV)
  | none => some none
  | some x => match ev L x with
    | some s => some (some s)
    | none => none

def bnd (d : Nat) : Option SV → Option Int
  | none => some d
  | some s => idx s

def stSlice (T : TypeId → Option Ty) (y : Ty) (M : Mem) (s : SV) (lo hi : Option SV) : Out :=
  match y.d with
  | .array n e => match T e, s, bnd 0 lo, bnd n hi with
    | some z, .p k off, some l, some h => .cond (0 ≤ l ∧ l ≤ h ∧ h ≤ n) (.ok (.sc k (off + l.toNat * z.size) (h.toNat - l.toNat) (n - l.toNat)))
    | _, _, _, _ => .stuck
  | .slice e => match T e with
    | some z => match s with
      | .rs n c => match bnd 0 lo, bnd n hi with
        | some l, some h => .cond (0 ≤ l ∧ l ≤ h ∧ h ≤ n ∧ l.toNat * z.size + (h.toNat - l.toNat) * z.size ≤ c.length) (.ok (.rs (h.toNat - l.toNat) (slc c (l.toNat * z.size) ((h.toNat - l.toNat) * z.size))))
        | _, _ => .stuck
      | .os k b n => match bnd 0 lo, bnd n hi with
        | some l, some h => match mget M k with
          | some (.buf _ zz _) => .cond (0 ≤ l ∧ l ≤ h ∧ h ≤ n ∧ zz = z.size) (.ok (.os k (b + l.toNat) (h.toNat - l.toNat)))
          | _ => .stuck
        | _, _ => .stuck
      | .sc k off n m => match bnd 0 lo, bnd n hi with
        | some l, some h => .cond (0 ≤ l ∧ l ≤ h ∧ h ≤ m) (.ok (.sc k (off + l.toNat * z.size) (h.toNat - l.toNat) (m - l.toNat)))
        | _, _ => .stuck
      | _ => .stuck
    | none => .stuck
  | _ => .stuck

/-- .. with its room bounded. -/
def stSlice3 (T : TypeId → Option Ty) (y : Ty) (s : SV) (lo : Option SV) (hi mx : SV) : Out :=
  match y.d with
  | .slice e => match T e with
    | some z => match s with
      | .sc k off n m => match bnd 0 lo, idx hi, idx mx with
        | some l, some h, some x => .cond (0 ≤ l ∧ l ≤ h ∧ h ≤ x ∧ x ≤ m) (.ok (.sc k (off + l.toNat * z.size) (h.toNat - l.toNat) (x.toNat - l.toNat)))
        | _, _, _ => .stuck
      | _ => .stuck
    | none => .stuck
  | _ => .stuck

/-- What a slice holds: how many elements, and their cells. -/
def cont (M : Mem) (esz : Nat) : SV → Option (Nat × List SV)
  | .rs n c => some (n, c)
  | .os k lo n => match mget M k with
    | some (.buf _ z c) => some (n, slc c (lo * z) (n * z))
    | _ => none
  | .sc k off n _ => match mget M k with
    | some (.cells _ c) => some (n, slc c off (n * esz))
    | _ => none
  | .v (.slice none 0 0) => some (0, [])
  | _ => none

/-- .. and that it is all known. -/
def contC (M : Mem) (esz : Nat) : SV → Prop
  | .os k lo n => match mget M k with
    | some (.buf _ z c) => lo * z + n * z ≤ c.length
    | _ => False
  | .sc k off n _ => match mget M k with
    | some (.cells _ c) => off + n * esz ≤ c.length
    | _ => False
  | _ => True

/-- Bytes to a string. -/
def stStr (y : Option Ty) (M : Mem) (s : SV) : Out :=
  match y, cont M 1 s with
  | some ⟨.int .u8, _, _, _⟩, some (n, c) => .cond (contC M 1 s ∧ c.length = n ∧ c.all isW8 = true) (.ok (strV (by8 c)))
  | _, _ => .stuck

def stLen (T : TypeId → Option Ty) (t : TypeId) (s : SV) : Out :=
  match T t with
  | some y => match y.d with
    | .slice _ => match s with
      | .rs n _ => .ok (.int n)
      | .os _ _ n => .ok (.int n)
      | .sc _ _ n _ => .ok (.int n)
      | .v (.slice none 0 0) => .ok (.int 0)
      | _ => .stuck
    | .string => match s with
      | .v (.string b) => .ok (.int b.size)
      | _ => .stuck
    | .array n _ => .ok (.int n)
    | _ => .stuck
  | none => .stuck

def keyOf : SV → Option Nat
  | .os k _ _ => some k
  | _ => none

def stAppend (T : TypeId → Option Ty) (t t2 : TypeId) (M : Mem) (nk : Nat) (x y : SV) : Out :=
  match T t, T t2 with
  | some ⟨.slice e, _, _, _⟩, some ⟨.slice _, _, _, _⟩ => match T e with
    | some z => match cont M z.size y with
      | some (m, ys) => match x with
        | .v (.slice none 0 0) => .cond (contC M z.size y ∧ 0 < z.size ∧ 0 < z.bytes ∧ z.bytes ≤ 1048576 ∧ m * z.bytes ≤ 70368744177664 ∧ ys.length = m * z.size)
            (.okM (.os nk 0 m) ((nk, .buf e z.size ys) :: M) (nk + 1))
        | .os k lo n => match mget M k with
          | some (.buf te zz c) => .cond (contC M z.size y ∧ te = e ∧ zz = z.size ∧ 0 < z.size ∧ 0 < z.bytes ∧ z.bytes ≤ 1048576 ∧ (n + m) * z.bytes ≤ 70368744177664 ∧ ys.length = m * z.size ∧ lo * zz + n * zz ≤ c.length)
              (.okM (.os nk 0 (n + m)) ((nk, .buf e z.size (slc c (lo * zz) (n * zz) ++ ys)) :: mdel M k) (nk + 1))
          | _ => .stuck
        | .sc k off n mx => match mget M k with
          | some (.cells te c) => .cond (contC M z.size y ∧ ys.length = m * z.size ∧ n + m ≤ mx ∧ off + (n + m) * z.size ≤ c.length)
              (.okM (.sc k off (n + m) mx) (mset M k (.cells te (spl c (off + n * z.size) ys))) nk)
          | _ => .stuck
        | _ => .stuck
      | none => .stuck
    | none => .stuck
  | _, _ => .stuck

def stClear (T : TypeId → Option Ty) (t : TypeId) (M : Mem) (nk : Nat) (x : SV) : Out :=
  match T t with
  | some ⟨.slice e, _, _, _⟩ => match T e with
    | some z => match x with
      | .sc k off n _ => match mget M k with
        | some (.cells ty c) => .cond (off + n * z.size ≤ c.length) (.okM (.tup []) (mset M k (.cells ty (spl c off (List.replicate n z.zero).flatten))) nk)
        | _ => .stuck
      | _ => .stuck
    | none => .stuck
  | _ => .stuck

def stCopy (T : TypeId → Option Ty) (t : TypeId) (M : Mem) (nk : Nat) (x y : SV) : Out :=
  match T t with
  | some ⟨.slice e, _, _, _⟩ => match T e with
    | some z => match cont M z.size y with
      | some (m, ys) => match x with
        | .sc k off n _ => match mget M k with
          | some (.cells ty c) => .cond (contC M z.size y ∧ ys.length = m * z.size ∧ off + min m n * z.size ≤ c.length)
              (.okM (.int (min m n)) (mset M k (.cells ty (spl c off (slc ys 0 (min m n * z.size))))) nk)
          | _ => .stuck
        | _ => .stuck
      | none => .stuck
    | none => .stuck
  | _ => .stuck

/-- Parts laid into a row of cells. -/
def fillS (place : Nat → Option (Nat × Nat)) (c : List SV) : List (Nat × SV) → Option (List SV)
  | [] => some c
  | (i, s) :: l => match place i, cellsOf s with
    | some (off, sz), some d => if d.length = sz ∧ off + sz ≤ c.length then fillS place (spl c off d) l else none
    | _, _ => none

def evP (L : Slots) : List (Nat × Operand) → Option (List (Nat × SV))
  | [] => some []
  | (i, x) :: l => match ev L x, evP L l with
    | some s, some r => some ((i, s) :: r)
    | _, _ => none

def placesT (T : TypeId → Option Ty) : List Field → Option (List (Nat × Nat))
  | [] => some []
  | f :: fs => match T f.type, placesT T fs with
    | some z, some l => some ((f.offset, z.size) :: l)
    | _, _ => none

def stBuild (T : TypeId → Option Ty) (y : Ty) (ps : List (Nat × SV)) : Out :=
  match y.d with
  | .struct fs => match placesT T fs.toList with
    | some pl => match fillS (fun i => pl[i]?) y.zero ps with
      | some c => .ok (.g c)
      | none => .stuck
    | none => .stuck
  | .array _ e => match T e with
    | some z => match fillS (fun i => some (i * z.size, z.size)) y.zero ps with
      | some c => .ok (.g c)
      | none => .stuck
    | none => .stuck
  | _ => .stuck

def stBuildSlice (T : TypeId → Option Ty) (y : Ty) (n : Nat) (M : Mem) (nk : Nat) (ps : List (Nat × SV)) : Out :=
  match y.d with
  | .slice e => match T e with
    | some z => match fillS (fun i => some (i * z.size, z.size)) (List.replicate n z.zero).flatten ps with
      | some c => .cond (0 < z.size ∧ n * z.size ≤ 2 ^ 24) (.okM (.os nk 0 n) ((nk, .buf e z.size c) :: M) (nk + 1))
      | none => .stuck
    | none => .stuck
  | _ => .stuck

def stMake (T : TypeId → Option Ty) (y : Ty) (M : Mem) (nk : Nat) (l c : SV) : Out :=
  match y.d with
  | .slice e => match T e with
    | some z => match l, c with
      | .int n, .int m => .cond (0 < z.size ∧ 0 ≤ n ∧ n ≤ m ∧ m ≤ 2 ^ 40 ∧ z.bytes ≤ 64) (.okM (.os nk 0 n.toNat) ((nk, .buf e z.size (List.replicate n.toNat z.zero).flatten) :: M) (nk + 1))
      | _, _ => .stuck
    | none => .stuck
  | _ => .stuck

mutual
/-- No own key in it. -/
def closed : SV → Prop
  | .p _ _ => False
  | .pb _ _ => False
  | .sc _ _ _ _ => False
  | .os _ _ _ => False
  | .g cs => closedL cs
  | .tup cs => closedL cs
  | .fn _ xs ys => closedL xs ∧ closedL ys
  | .ifc _ x => closed x
  | .v _ => True
  | .int _ => True
  | .w8 _ => True
  | .w16 _ => True
  | .w32 _ => True
  | .w64 _ => True
  | .bol _ => True
  | .rs _ _ => True
  | .rp _ _ => True
def closedL : List SV → Prop
  | [] => True
  | x :: xs => closed x ∧ closedL xs
end
mutual
/-- No address in it. -/
def flat : SV → Prop
  | .p _ _ => False
  | .pb _ _ => False
  | .sc _ _ _ _ => False
  | .os _ _ _ => False
  | .g cs => flatL cs
  | .tup cs => flatL cs
  | .fn _ xs ys => flatL xs ∧ flatL ys
  | .ifc _ x => flat x
  | .v _ => True
  | .int _ => True
  | .w8 _ => True
  | .w16 _ => True
  | .w32 _ => True
  | .w64 _ => True
  | .bol _ => True
  | .rs _ _ => False
  | .rp _ _ => False
def flatL : List SV → Prop
  | [] => True
  | x :: xs => flat x ∧ flatL xs
end

/-- A slice of slices. -/
def sl2 (T : TypeId → Option Ty) (t : TypeId) : Bool :=
  match T t with
  | some ⟨.slice e, _, _, _⟩ => match T e with
    | some ⟨.slice _, _, _, _⟩ => true
    | _ => false
  | _ => false
def opn (M : Mem) (x : SV) : SV :=
  match x with
  | .os k lo n => match cont M 0 (.os k lo n) with
    | some (m, c) => .rs m c
    | none => .os k lo n
  | x => x
def opnC (M : Mem) (x : SV) : Prop :=
  match x with
  | .os k lo n => contC M 0 (.os k lo n) ∧ match mget M k with
    | some (.buf _ z c) => closedL c ∧ 0 < z
    | _ => False
  | x => closed x
def opnCL (M : Mem) : List SV → Prop
  | [] => True
  | x :: l => opnC M x ∧ opnCL M l

/-- An own slice handed on to be read. -/
def lend (T : TypeId → Option Ty) (M : Mem) (t : TypeId) (s : SV) : Option SV :=
  match s with
  | .os _ _ _ => match sl2 T t with
    | true => match cont M 0 s with
      | some (n, c) => some (.rs n (c.map (opn M)))
      | none => none
    | false => match cont M 0 s with
      | some (n, c) => some (.rs n c)
      | none => none
  | .sc _ _ _ _ => match T t with
    | some ⟨.slice e, _, _, _⟩ => match T e with
      | some z => match cont M z.size s with
        | some (n, c) => some (.rs n c)
        | none => none
      | none => none
    | _ => none
  | .v (.slice none 0 0) => some (.rs 0 [])
  | s => some s

def lends (T : TypeId → Option Ty) (M : Mem) : List TypeId → List SV → Option (List SV)
  | t :: ts, s :: ss => match lend T M t s, lends T M ts ss with
    | some x, some l => some (x :: l)
    | _, _ => none
  | _, [] => some []
  | [], s :: ss => match lend T M 0 s, lends T M [] ss with
    | some x, some l => some (x :: l)
    | _, _ => none

def lendC (T : TypeId → Option Ty) (M : Mem) (t : TypeId) (s : SV) : Prop :=
  match s with
  | .os k _ n => contC M 0 s ∧ match mget M k with
    | some (.buf _ z c) => (closedL c ∨ (sl2 T t = true ∧ opnCL M c)) ∧ 0 < z
    | _ => False
  | .sc k _ n _ => match T t with
    | some ⟨.slice e, _, _, _⟩ => match T e with
      | some z => contC M z.size s ∧ 0 < z.size ∧ match mget M k with
        | some (.cells _ c) => closedL c
        | _ => False
      | none => False
    | _ => False
  | s => closed s

def lendsC (T : TypeId → Option Ty) (M : Mem) : List TypeId → List SV → Prop
  | t :: ts, s :: ss => lendC T M t s ∧ lendsC T M ts ss
  | _, [] => True
  | [], s :: ss => lendC T M 0 s ∧ lendsC T M [] ss

def anyOwn : List SV → Bool
  | [] => false
  | .os _ _ _ :: _ => true
  | .sc _ _ _ _ :: _ => true
  | _ :: l => anyOwn l

/-- A call of a function that turns own memory. -/
def hardK (h : FuncId → Option Bool) : Operand → Option Bool
  | .func f => h f
  | _ => none
/-- Whom a call enters, with what. -/
def callOf (L : Slots) (c : Call) : Option (FuncId × List SV) :=
  match c.callee with
  | .value f => match ev L f with
    | some (.fn (.func g) xs ys) => match evs L c.args.toList with
      | some as => some (g, xs ++ as ++ ys)
      | none => none
    | _ => none
  | _ => none

def inK (k : Nat) : List Nat → Bool
  | [] => false
  | x :: l => if k = x then true else inK k l
def onlyK (ks : List Nat) : Mem → Mem
  | [] => []
  | (k, e) :: M => match inK k ks with
    | true => (k, e) :: onlyK ks M
    | false => onlyK ks M
def dropK (ks : List Nat) : Mem → Mem
  | [] => []
  | (k, e) :: M => match inK k ks with
    | true => dropK ks M
    | false => (k, e) :: dropK ks M
def keyL : List SV → List Nat
  | [] => []
  | .os k _ _ :: l => k :: keyL l
  | _ :: l => keyL l
/-- The own blocks that arguments hand over. -/
def keysA (T : TypeId → Option Ty) (M : Mem) : List TypeId → List SV → List Nat
  | t :: ts, .os k lo n :: l => k :: match sl2 T t with
    | true => match cont M 0 (.os k lo n) with
      | some (_, c) => keyL c ++ keysA T M ts l
      | none => keysA T M ts l
    | false => keysA T M ts l
  | _ :: ts, .sc k _ _ _ :: l => k :: keysA T M ts l
  | _ :: ts, _ :: l => keysA T M ts l
  | _, _ => []
def flat1 : SV → Bool
  | .rs _ _ => false
  | .rp _ _ => false
  | .tup _ => false
  | .fn _ _ _ => false
  | .ifc _ _ => false
  | _ => true
def flatB : SV → Bool
  | .tup l => l.all flat1
  | s => flat1 s

def okC (f : Operand) (r : SV) (M : Mem) (nk : Nat) : Out :=
  match f with
  | .func _ => .ok r
  | _ => .okM r M nk

/-- A call that is handed own slices, which are only read from then on. -/
def lentK (E : Rx) (M : Mem) (nk : Nat) (c : Call) (g : FuncId) (as : List SV) (ks : List Nat) : Out :=
  match lends E.T (onlyK ks M) c.argTypes.toList as with
  | some as' => match E.Γ g as' with
    | some (p, r) => .cond (p ∧ lendsC E.T (onlyK ks M) c.argTypes.toList as ∧ closed r) (.okM r (dropK ks M) nk)
    | none => .stuck
  | none => .stuck

def stCall (E : Rx) (L : Slots) (M : Mem) (nk : Nat) (c : Call) : Out :=
  match c.callee with
  | .builtin b => match evs L c.args.toList with
    | none => .stuck
    | some as => match b, as with
      | .len, [x] => stLen E.T (c.argTypes.getD 0 0) x
      | .append, [x, y] => stAppend E.T (c.argTypes.getD 0 0) (c.argTypes.getD 1 0) M nk x y
      | .copy, [x, y] => stCopy E.T (c.argTypes.getD 0 0) M nk x y
      | .clear, [x] => stClear E.T (c.argTypes.getD 0 0) M nk x
      | .min, [.int a, .int b] => .ok (.int (if b < a then b else a))
      | .max, [.int a, .int b] => .ok (.int (if b > a then b else a))
      | _, _ => .stuck
  | .value f => match callOf L c with
    | some (g, as) => match E.hard g with
      | some _ => .stuck
      | none => match lends E.T M c.argTypes.toList as with
        | some as' => match E.Γ g as' with
          | some (p, r) => if anyOwn as then (match flatB r with
            | true => .cond (p ∧ lendsC E.T M c.argTypes.toList as ∧ flat r) (okC f r M nk)
            | false => lentK E M nk c g as (keysA E.T M c.argTypes.toList as)) else .cond (p ∧ closedL as' ∧ closed r) (okC f r M nk)
          | none => .stuck
        | none => .stuck
    | none => .stuck
  | _ => .stuck

def pickF (b : Bool) (x y : SV) : SV :=
  match x, y with
  | .bol a, .bol c => .bol (bif b then a else c)
  | x, y => bif b then x else y

/-- An interface's value and the literal nil. -/
def stNilI (y : Ty) (op : BinOp) (s : SV) : Out :=
  match y.d with
  | .interface _ => match op with
    | .eql => match s with
      | .ifc _ _ => .ok (.bol false)
      | .v x => match x with
        | .nilIface => .ok (.bol true)
        | _ => .stuck
      | _ => .stuck
    | .neq => match s with
      | .ifc _ _ => .ok (.bol true)
      | .v x => match x with
        | .nilIface => .ok (.bol false)
        | _ => .stuck
      | _ => .stuck
    | _ => .stuck
  | _ => .stuck
def Ty.nil (y : Ty) : SV := if y.agg then .g y.zero else y.z0
def stAssert (y : Ty) (t : TypeId) (ok : Bool) (s : SV) : Out :=
  match y.d with
  | .interface _ => .stuck
  | _ => match s with
    | .ifc t' x => if t' = t then (match ok with | true => .ok (.tup [x, .bol true]) | false => .ok x)
        else (match ok with | true => .ok (.tup [y.nil, .bol false]) | false => .stuck)
    | .v x => match x with
      | .nilIface => match ok with | true => .ok (.tup [y.nil, .bol false]) | false => .stuck
      | _ => .stuck
    | _ => .stuck

def stepR (E : Rx) (op : Op) (L : Slots) (M : Mem) (nk : Nat) : Out :=
  match op with
  | .move x => match ev L x with | some s => .ok s | none => .stuck
  | .assign x => match ev L x with | some s => .ok s | none => .stuck
  | .pick c a b => match ev L c with
    | some (.bol t) => match ev L a, ev L b with | some x, some y => .ok (pickF t x y) | _, _ => .stuck
    | _ => .stuck
  | .alloc t => match E.T t with
    | some y => .okM (.p nk 0) ((nk, .cells t y.zero) :: M) (nk + 1)
    | none => .stuck
  | .box t x => match ev L x with
    | some s => match cellsOf s with
      | some cs => .okM (.p nk 0) ((nk, .cells t cs) :: M) (nk + 1)
      | none => .stuck
    | none => .stuck
  | .load t x => match E.T t, ev L x with
    | some y, some s => stLoad y M s
    | _, _ => .stuck
  | .store t x v => match E.T t, ev L x, ev L v with
    | some y, some a, some s => stStore y M nk a s
    | _, _, _ => .stuck
  | .nilCheck x => match ev L x with
    | some s => match s with
      | .p _ _ => .ok s
      | .pb _ _ => .ok s
      | .rp _ _ => .ok s
      | _ => .stuck
    | none => .stuck
  | .binOp op t x (.const .nilIface) _ => match E.T t, ev L x with
    | some y, some s => stNilI y op s
    | _, _ => .stuck
  | .binOp op t x y _ => match ev L x, ev L y with
    | some a, some b => binF (E.T t) op a b
    | _, _ => .stuck
  | .unOp op _ x => match ev L x with
    | some a => unF op a
    | none => .stuck
  | .convert src dst x => match E.T src, E.T dst, ev L x with
    | some _, some ⟨.int k, _, _, _⟩, some a => convK k a
    | some ⟨.slice e, _, _, _⟩, some ⟨.string, _, _, _⟩, some a => stStr (E.T e) M a
    | _, _, _ => .stuck
  | .fieldAddr t x f => match E.T t, ev L x with
    | some y, some s => stFieldAddr E.T y s f
    | _, _ => .stuck
  | .field t x f => match E.T t, ev L x with
    | some y, some s => stField E.T y s f
    | _, _ => .stuck
  | .indexAddr t x i => match E.T t, ev L x, ev L i with
    | some y, some s, some j => stIndexAddr E.T y M s j
    | _, _, _ => .stuck
  | .index t x i => match E.T t, ev L x, ev L i with
    | some y, some s, some j => stIndex E.T y s j
    | _, _, _ => .stuck
  | .slice t x lo hi none => match E.T t, ev L x, evO L lo, evO L hi with
    | some y, some s, some l, some h => stSlice E.T y M s l h
    | _, _, _, _ => .stuck
  | .slice t x lo (some hi) (some mx) => match E.T t, ev L x, evO L lo, ev L hi, ev L mx with
    | some y, some s, some l, some h, some m => stSlice3 E.T y s l h m
    | _, _, _, _, _ => .stuck
  | .build t ps => match E.T t, evP L ps.toList with
    | some y, some l => stBuild E.T y l
    | _, _ => .stuck
  | .buildSlice t n ps => match E.T t, evP L ps.toList with
    | some y, some l => stBuildSlice E.T y n M nk l
    | _, _ => .stuck
  | .makeSlice t l c => match E.T t, ev L l, ev L c with
    | some y, some a, some b => stMake E.T y M nk a b
    | _, _, _ => .stuck
  | .extract t i => match ev L t with
    | some (.tup xs) => match xs[i]? with
      | some s => .ok s
      | none => .stuck
    | _ => .stuck
  | .makeFunc f xs ys => match evs L xs.toList, evs L ys.toList with
    | some a, some b => .ok (.fn f a b)
    | _, _ => .stuck
  | .makeInterface t x => match E.T t, ev L x with
    | some y, some s => match y.d with
      | .interface _ => .stuck
      | _ => .ok (.ifc t s)
    | _, _ => .stuck
  | .call c => stCall E L M nk c
  | .typeAssert x _ t ok => match E.T t, ev L x with
    | some y, some s => stAssert y t ok s
    | _, _ => .stuck
  | _ => .stuck

end Go.Sx
