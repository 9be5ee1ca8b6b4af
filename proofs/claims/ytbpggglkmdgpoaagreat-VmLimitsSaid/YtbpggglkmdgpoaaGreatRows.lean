/-
  No cell of these rows narrows 'for every input' (looked for: loops, veiled, ifaces, maps, wideKeys, modest, calm, conditions, laid).
  DERIVED. THE GIVEN ROWS OF THIS SEAT. 5 by the template 'for every input the law returns true; each argument reads behind the call as it read before'; 0 by the template 'total and deterministic' (their statements: YtbpggglkmdgpoaaGreatTotals.lean).
  GIVEN WITH THE SEED: the statements are not yours to turn. If you find one false, say at which input.
  Laid BY PROGRAM, IN A SANDBOX (cutbox-rows.mjs): the forced cells as the released guide's own fill.sh prints them over the translation 977263f4b97865b6… (all of the seat's roots in one cut). By AI agents, Wed Nov 11 2026. No macro, syntax, notation, axiom, sorry.
-/
import Derived.Test.YtbpggglkmdgpoaaGreatChecked
import GoSem.Claim
import GoSem.ClaimJoined
import GoSem.ClaimMapViews
import Derived.JoinedTies
import Derived.KernelRfl
namespace Go.Proofs.YtbpggglkmdgpoaaGreat
/- THE CELL 'sum', in the pinned program and in every row, IS THE sha256 OF THE DUMP (.gsa) THAT YtbpggglkmdgpoaaGreatProg.lean LOADS. Nothing in Lean hashes anything: it is a label: what it is worth is what the hold of that sum in a sandbox is worth. -/
noncomputable def Tryz.pinned : Pinned := { name := "ytbpggglkmdgpoaagreat", sum := "977263f4b97865b6fdcb5f198c25316af9c3a0cbd96d8fed45309f85fdac129e", checked := Tryz.checked }
namespace Rows
def none {H : Type} : Left H := { results := [], args := [] }

/-- 'strongboxlaw13.VmRuns': WHATEVER THE INPUT: true; the input reads as it did. -/
def vmRunsSpec : ChangeSpec := { name := "vmRuns", fn := fun _ => fun
  | [d1, d2, d3] => { results := [.lit (.bool true)], args := [d1, d2, d3] }
  | _ => none }
def vmRunsRow : OpenClaim := { program := "ytbpggglkmdgpoaagreat", sum := "977263f4b97865b6fdcb5f198c25316af9c3a0cbd96d8fed45309f85fdac129e", func := "strongbox/strongboxlaw13.VmRuns", spec := "vmRuns", inPlace := ["math/bits.Sub64", "math/bits.Add64", "slices.overlaps[[]byte]"], unfollowed := true, recurses := true, apart := false }
def VmRunsSaid : Prop := vmRunsRow.holds Tryz.pinned (OpenSpec.ofChange vmRunsSpec)

/-- ITS FALSE NEIGHBOUR: 'it returns false'. Refute it at one input. -/
def vmRunsWrong : ChangeSpec := { name := "vmRuns", fn := fun _ => fun
  | [d1, d2, d3] => { results := [.lit (.bool false)], args := [d1, d2, d3] }
  | _ => none }
def VmRunsWrongFalsely : Prop := vmRunsRow.holds Tryz.pinned (OpenSpec.ofChange vmRunsWrong)

/-- 'strongboxlaw13.VmBelow': WHATEVER THE INPUT: true; the input reads as it did. -/
def vmBelowSpec : ChangeSpec := { name := "vmBelow", fn := fun _ => fun
  | [d1, d2, d3] => { results := [.lit (.bool true)], args := [d1, d2, d3] }
  | _ => none }
def vmBelowRow : OpenClaim := { program := "ytbpggglkmdgpoaagreat", sum := "977263f4b97865b6fdcb5f198c25316af9c3a0cbd96d8fed45309f85fdac129e", func := "strongbox/strongboxlaw13.VmBelow", spec := "vmBelow", inPlace := ["math/bits.Sub64", "math/bits.Add64", "slices.overlaps[[]byte]"], unfollowed := true, recurses := true, apart := false }
def VmBelowSaid : Prop := vmBelowRow.holds Tryz.pinned (OpenSpec.ofChange vmBelowSpec)

/-- ITS FALSE NEIGHBOUR: 'it returns false'. Refute it at one input. -/
def vmBelowWrong : ChangeSpec := { name := "vmBelow", fn := fun _ => fun
  | [d1, d2, d3] => { results := [.lit (.bool false)], args := [d1, d2, d3] }
  | _ => none }
def VmBelowWrongFalsely : Prop := vmBelowRow.holds Tryz.pinned (OpenSpec.ofChange vmBelowWrong)

/-- 'strongboxlaw13.VmLimits': WHATEVER THE INPUT: true; the input reads as it did. -/
def vmLimitsSpec : ChangeSpec := { name := "vmLimits", fn := fun _ => fun
  | [d1, d2] => { results := [.lit (.bool true)], args := [d1, d2] }
  | _ => none }
def vmLimitsRow : OpenClaim := { program := "ytbpggglkmdgpoaagreat", sum := "977263f4b97865b6fdcb5f198c25316af9c3a0cbd96d8fed45309f85fdac129e", func := "strongbox/strongboxlaw13.VmLimits", spec := "vmLimits", inPlace := ["math/bits.Sub64", "math/bits.Add64", "slices.overlaps[[]byte]"], unfollowed := true, recurses := true, apart := false }
def VmLimitsSaid : Prop := vmLimitsRow.holds Tryz.pinned (OpenSpec.ofChange vmLimitsSpec)

/-- ITS FALSE NEIGHBOUR: 'it returns false'. Refute it at one input. -/
def vmLimitsWrong : ChangeSpec := { name := "vmLimits", fn := fun _ => fun
  | [d1, d2] => { results := [.lit (.bool false)], args := [d1, d2] }
  | _ => none }
def VmLimitsWrongFalsely : Prop := vmLimitsRow.holds Tryz.pinned (OpenSpec.ofChange vmLimitsWrong)

/-- 'strongboxlaw13.VmMany': WHATEVER THE INPUT: true; the input reads as it did. -/
def vmManySpec : ChangeSpec := { name := "vmMany", fn := fun _ => fun
  | [d1, d2, d3] => { results := [.lit (.bool true)], args := [d1, d2, d3] }
  | _ => none }
def vmManyRow : OpenClaim := { program := "ytbpggglkmdgpoaagreat", sum := "977263f4b97865b6fdcb5f198c25316af9c3a0cbd96d8fed45309f85fdac129e", func := "strongbox/strongboxlaw13.VmMany", spec := "vmMany", inPlace := ["math/bits.Sub64", "math/bits.Add64", "slices.overlaps[[]byte]"], unfollowed := true, recurses := true, apart := false }
def VmManySaid : Prop := vmManyRow.holds Tryz.pinned (OpenSpec.ofChange vmManySpec)

/-- ITS FALSE NEIGHBOUR: 'it returns false'. Refute it at one input. -/
def vmManyWrong : ChangeSpec := { name := "vmMany", fn := fun _ => fun
  | [d1, d2, d3] => { results := [.lit (.bool false)], args := [d1, d2, d3] }
  | _ => none }
def VmManyWrongFalsely : Prop := vmManyRow.holds Tryz.pinned (OpenSpec.ofChange vmManyWrong)

/-- 'strongboxlaw13.VmSigns': WHATEVER THE INPUT: true; the input reads as it did. -/
def vmSignsSpec : ChangeSpec := { name := "vmSigns", fn := fun _ => fun
  | [d1, d2, d3] => { results := [.lit (.bool true)], args := [d1, d2, d3] }
  | _ => none }
def vmSignsRow : OpenClaim := { program := "ytbpggglkmdgpoaagreat", sum := "977263f4b97865b6fdcb5f198c25316af9c3a0cbd96d8fed45309f85fdac129e", func := "strongbox/strongboxlaw13.VmSigns", spec := "vmSigns", inPlace := ["math/bits.Sub64", "math/bits.Add64", "slices.overlaps[[]byte]"], unfollowed := true, recurses := true, apart := false }
def VmSignsSaid : Prop := vmSignsRow.holds Tryz.pinned (OpenSpec.ofChange vmSignsSpec)

/-- ITS FALSE NEIGHBOUR: 'it returns false'. Refute it at one input. -/
def vmSignsWrong : ChangeSpec := { name := "vmSigns", fn := fun _ => fun
  | [d1, d2, d3] => { results := [.lit (.bool false)], args := [d1, d2, d3] }
  | _ => none }
def VmSignsWrongFalsely : Prop := vmSignsRow.holds Tryz.pinned (OpenSpec.ofChange vmSignsWrong)

/- THE SECOND FORM. 'bulk': how many values and letters a reading holds, each counted each time it is reached (what is shared counts as often as it is met; a slice's spare places count too). A statement '..UptoSaid' is the law's where the arguments, and the package variables that the reading takes, are together of bulk at most 1048576: NARROWER than '..Said'. Prove '..Said' where nothing that the law and all that it calls make is longer than what came in: it says more and counts as full. Else prove '..UptoSaid'. A law counts once. -/
mutual
def uptoBulk {H : Type} : DataW H → Nat
  | .lit (.string bytes) => bytes.length + 1
  | .lit _ => 1
  | .nil => 1
  | .ptr d => uptoBulk d + 1
  | .slice elems spare => uptoBulkAll elems + uptoBulkAll spare + 1
  | .agg parts => uptoBulkAll parts + 1
  | .iface _ d => uptoBulk d + 1
  | .map entries => uptoBulkEntries entries + 1
  | .held _ => 1
def uptoBulkAll {H : Type} : List (DataW H) → Nat
  | [] => 0
  | d :: r => uptoBulk d + uptoBulkAll r
def uptoBulkEntries {H : Type} : List (Lit × DataW H) → Nat
  | [] => 0
  | x :: r => uptoBulkEntry x + uptoBulkEntries r
def uptoBulkEntry {H : Type} : Lit × DataW H → Nat
  | (.string bytes, d) => bytes.length + uptoBulk d + 1
  | (_, d) => uptoBulk d + 1
 end
def uptoSmall : (H : Type) → List (DataW H) → Bool := fun _ ds => decide (uptoBulkAll ds ≤ 1048576)
def OpenSpec.upto (s : _root_.Go.ChangeSpec) : _root_.Go.OpenSpec := { _root_.Go.OpenSpec.ofChange s with cond := some uptoSmall }

/-- 'strongboxlaw13.VmRuns', WHERE WHAT IT READS IS OF BULK AT MOST 1048576: true; the input reads as it did. -/
def vmRunsUptoRow : OpenClaim := { program := "ytbpggglkmdgpoaagreat", sum := "977263f4b97865b6fdcb5f198c25316af9c3a0cbd96d8fed45309f85fdac129e", func := "strongbox/strongboxlaw13.VmRuns", spec := "vmRuns", inPlace := ["math/bits.Sub64", "math/bits.Add64", "slices.overlaps[[]byte]"], unfollowed := true, recurses := true, apart := false, narrowed := true }
def VmRunsUptoSaid : Prop := vmRunsUptoRow.holds Tryz.pinned (OpenSpec.upto vmRunsSpec)

/-- 'strongboxlaw13.VmBelow', WHERE WHAT IT READS IS OF BULK AT MOST 1048576: true; the input reads as it did. -/
def vmBelowUptoRow : OpenClaim := { program := "ytbpggglkmdgpoaagreat", sum := "977263f4b97865b6fdcb5f198c25316af9c3a0cbd96d8fed45309f85fdac129e", func := "strongbox/strongboxlaw13.VmBelow", spec := "vmBelow", inPlace := ["math/bits.Sub64", "math/bits.Add64", "slices.overlaps[[]byte]"], unfollowed := true, recurses := true, apart := false, narrowed := true }
def VmBelowUptoSaid : Prop := vmBelowUptoRow.holds Tryz.pinned (OpenSpec.upto vmBelowSpec)

/-- 'strongboxlaw13.VmLimits', WHERE WHAT IT READS IS OF BULK AT MOST 1048576: true; the input reads as it did. -/
def vmLimitsUptoRow : OpenClaim := { program := "ytbpggglkmdgpoaagreat", sum := "977263f4b97865b6fdcb5f198c25316af9c3a0cbd96d8fed45309f85fdac129e", func := "strongbox/strongboxlaw13.VmLimits", spec := "vmLimits", inPlace := ["math/bits.Sub64", "math/bits.Add64", "slices.overlaps[[]byte]"], unfollowed := true, recurses := true, apart := false, narrowed := true }
def VmLimitsUptoSaid : Prop := vmLimitsUptoRow.holds Tryz.pinned (OpenSpec.upto vmLimitsSpec)

/-- 'strongboxlaw13.VmMany', WHERE WHAT IT READS IS OF BULK AT MOST 1048576: true; the input reads as it did. -/
def vmManyUptoRow : OpenClaim := { program := "ytbpggglkmdgpoaagreat", sum := "977263f4b97865b6fdcb5f198c25316af9c3a0cbd96d8fed45309f85fdac129e", func := "strongbox/strongboxlaw13.VmMany", spec := "vmMany", inPlace := ["math/bits.Sub64", "math/bits.Add64", "slices.overlaps[[]byte]"], unfollowed := true, recurses := true, apart := false, narrowed := true }
def VmManyUptoSaid : Prop := vmManyUptoRow.holds Tryz.pinned (OpenSpec.upto vmManySpec)

/-- 'strongboxlaw13.VmSigns', WHERE WHAT IT READS IS OF BULK AT MOST 1048576: true; the input reads as it did. -/
def vmSignsUptoRow : OpenClaim := { program := "ytbpggglkmdgpoaagreat", sum := "977263f4b97865b6fdcb5f198c25316af9c3a0cbd96d8fed45309f85fdac129e", func := "strongbox/strongboxlaw13.VmSigns", spec := "vmSigns", inPlace := ["math/bits.Sub64", "math/bits.Add64", "slices.overlaps[[]byte]"], unfollowed := true, recurses := true, apart := false, narrowed := true }
def VmSignsUptoSaid : Prop := vmSignsUptoRow.holds Tryz.pinned (OpenSpec.upto vmSignsSpec)

end Rows
end Go.Proofs.YtbpggglkmdgpoaaGreat
