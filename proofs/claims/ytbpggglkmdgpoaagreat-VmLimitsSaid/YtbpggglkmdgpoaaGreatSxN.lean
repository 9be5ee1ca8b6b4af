/-
  SxN: the doors.
-/
import Derived.Test.YtbpggglkmdgpoaaGreatSxM
set_option linter.all false
set_option linter.unusedSimpArgs false
set_option linter.unusedVariables false
namespace Go.Sx
open Go

def bodyB (hard : FuncId → Option Bool) (fn : Func) (plan : Nat → Tr) : Bool := match fn.body with
  | some c => codeB hard fn.ntmps plan c
  | none => false
def bodyOf (fn : Func) : Code := match fn.body with
  | some c => c
  | none => .skip
theorem bodyB_of {hard : FuncId → Option Bool} {fn : Func} {plan : Nat → Tr} (h : bodyB hard fn plan = true) : fn.body = some (bodyOf fn) ∧ codeB hard fn.ntmps plan (bodyOf fn) = true := by
  unfold bodyB at h
  unfold bodyOf
  split at h
  · rename_i c hc; simp [hc, h]
  · cases h

/-- What is known of a program. -/
structure Lib (P : Program) where
  tbl : List (Nat × Ty)
  ty : TyOK P (lookT tbl)
  ty0 : lookT tbl 0 = none
  mixed : P.follows .mixedOrders = true
  cs : List (Con P)
  ms : List (Met P)
  fs : List (Dfr P)
def Lib.addC {P : Program} (l : Lib P) (c : Con P) : Lib P := { l with cs := c :: l.cs }
def Lib.addM {P : Program} (l : Lib P) (c : Met P) : Lib P := { l with ms := c :: l.ms }
def Lib.addF {P : Program} (l : Lib P) (c : Dfr P) : Lib P := { l with fs := c :: l.fs }

/-- The runner's words for one body. -/
def rx {P : Program} (l : Lib P) (fn : Func) (plan : Nat → Tr) (unr : Nat) (dfl : Bool) (kp : Nat) (R : Res → Mem → Nat → Prop) : Rx :=
  ⟨P, lookT l.tbl, conG l.cs, metH l.ms, metD l.ms, fn, plan, kp, R, unr, dfl, [], dfrL l.fs⟩
theorem rx_ok {P : Program} (l : Lib P) (fn : Func) (plan : Nat → Tr) (unr : Nat) (dfl : Bool) (kp : Nat) (R : Res → Mem → Nat → Prop) : ROK (rx l fn plan unr dfl kp R) :=
  ⟨fun _ => rfl, dfrL_ok l.fs, l.ty, l.ty0, conG_ok l.cs, metD_ok l.ms, l.mixed⟩

/-- Entering. -/
theorem Tri.enter {P : Program} (l : Lib P) {f : FuncId} {fn : Func} (plan : Nat → Tr) (unr : Nat) (dfl : Bool) {args : List SV} {M : Mem} (kp : Nat) {R : Res → Mem → Prop} (nk n : Nat)
    (hf : P.funcs[f]? = some fn) (hb : bodyB (metH l.ms) fn plan = true) (hargs : args.length ≤ fn.ntmps) (hM : ∀ k e, (k, e) ∈ M → k < nk)
    (hr : run (rx l fn plan unr dfl kp fun r M _ => R r M) n [.code (bodyOf fn)] (slotsOf args 0) M nk) : Tri P f args M kp R :=
  Tri.of_run (E := rx l fn plan unr dfl kp fun r M _ => R r M) hf (bodyB_of hb).1 (rx_ok l fn plan unr dfl kp _) rfl (bodyB_of hb).2 hargs (fun _ _ _ h => h) hM hr

/-- A function that is walked anew at each call; so many keys of its own stay. -/
def Met.inl {P : Program} (l : Lib P) (f : FuncId) (fn : Func) (plan : Nat → Tr) (unr : Nat) (dfl : Bool) (own n : Nat)
    (hf : P.funcs[f]? = some fn) (hc : ∀ as w, (callFunc f as).run P w = .ok (.enter f as) w) (hb : bodyB (metH l.ms) fn plan = true) : Met P where
  f := f
  q := false
  D := fun args M nk Φ => fits fn.ntmps args (run (rx l fn plan unr dfl (nk + own) Φ) n [.code (bodyOf fn)] (slotsOf args 0) M nk)
  ok := ⟨hc, Meth.inl (fun nk Φ => rx l fn plan unr dfl (nk + own) Φ) (fun nk Φ => ⟨rfl, rfl, rfl, rfl, Nat.le_add_right _ _, (bodyB_of hb).2⟩) n hf (bodyB_of hb).1 (fun nk Φ => rx_ok l fn plan unr dfl _ Φ)⟩

def restOf (fn : Func) : Option (Nat × Array Oper × Nat × List Oper × Code) := fn.body.bind splitRec
/-- A function that is called as its caller ends, and recovers first. -/
def Dfr.inl {P : Program} (l : Lib P) (f : FuncId) (fn : Func) (plan : Nat → Tr) (n : Nat) {c c' : Code} {id d : Nat} {ops : Array Oper} {os : List Oper}
    (hf : P.funcs[f]? = some fn) (hc : ∀ as w, (callFunc f as).run P w = .ok (.enter f as) w) (hb : fn.body = some c) (hs : splitRec c = some (id, ops, d, os, c'))
    (hB : (codeB (metH l.ms) fn.ntmps plan c' && opsB fn.ntmps os) = true) (hd : d < fn.ntmps) : Dfr P where
  f := f
  D := fun args p M nk Φ => fits fn.ntmps args (run (rx l fn plan 0 false nk fun r M nk => match r with | .ret _ => Φ M nk | .pan _ => False) n [.ops ops os, .code c'] ((d, match p with | none => .v .nilIface | some s => s) :: slotsOf args 0) M nk)
  ok := MethD.inl (fun nk Φ => rx l fn plan 0 false nk Φ) hs (fun nk Φ => ⟨rfl, rfl, rfl, rfl, rfl, Nat.le_refl _, hB⟩) n hf hb (fun nk Φ => rx_ok l fn plan 0 false _ Φ) hc hd
end Go.Sx
