/-
  No cell of these rows narrows 'for every input' (looked for: loops, veiled, ifaces, maps, wideKeys, modest, calm, conditions, laid).
  DERIVED. THE GIVEN ROWS OF THIS SEAT. 5 by the template 'for every input the law returns true; each argument reads behind the call as it read before'; 0 by the template 'total and deterministic' (their statements: YtmbippkpjdoojaaGreatTotals.lean).
  GIVEN WITH THE SEED: the statements are not yours to turn. If you find one false, say at which input.
  Laid BY PROGRAM, IN A SANDBOX (cutbox-rows.mjs): the forced cells as the released guide's own fill.sh prints them over the translation 991a3bbbe8ea5dd1… (all of the seat's roots in one cut). By AI agents, Wed Nov 11 2026. No macro, syntax, notation, axiom, sorry.
-/
import Derived.Test.YtmbippkpjdoojaaGreatChecked
import GoSem.Claim
import GoSem.ClaimJoined
import GoSem.ClaimMapViews
import Derived.JoinedTies
import Derived.KernelRfl
namespace Go.Proofs.YtmbippkpjdoojaaGreat
/- THE CELL 'sum', in the pinned program and in every row, IS THE sha256 OF THE DUMP (.gsa) THAT YtmbippkpjdoojaaGreatProg.lean LOADS. Nothing in Lean hashes anything: it is a label: what it is worth is what the hold of that sum in a sandbox is worth. -/
noncomputable def Tryz.pinned : Pinned := { name := "ytmbippkpjdoojaagreat", sum := "991a3bbbe8ea5dd129da6e9a17ddeee15d13b632772f234afeae333587234428", checked := Tryz.checked }
namespace Rows
def none {H : Type} : Left H := { results := [], args := [] }

/-- 'theodolitetop.WholeOrder': WHATEVER THE INPUT: true; the input reads as it did. -/
def wholeOrderSpec : ChangeSpec := { name := "wholeOrder", fn := fun _ => fun
  | [d1, d2, d3, d4, d5, d6] => { results := [.lit (.bool true)], args := [d1, d2, d3, d4, d5, d6] }
  | _ => none }
def wholeOrderRow : OpenClaim := { program := "ytmbippkpjdoojaagreat", sum := "991a3bbbe8ea5dd129da6e9a17ddeee15d13b632772f234afeae333587234428", func := "theodolite/theodolitetop.WholeOrder", spec := "wholeOrder", inPlace := ["slices.overlaps[theodolite/api.Pair]", "math/bits.Add64"], unfollowed := true, recurses := true, named := ["math/bits.divideError", "math/bits.overflowError"], plainKeys := false, apart := false }
def WholeOrderSaid : Prop := wholeOrderRow.holds Tryz.pinned (OpenSpec.ofChange wholeOrderSpec)

/-- ITS FALSE NEIGHBOUR: 'it returns false'. Refute it at one input. -/
def wholeOrderWrong : ChangeSpec := { name := "wholeOrder", fn := fun _ => fun
  | [d1, d2, d3, d4, d5, d6] => { results := [.lit (.bool false)], args := [d1, d2, d3, d4, d5, d6] }
  | _ => none }
def WholeOrderWrongFalsely : Prop := wholeOrderRow.holds Tryz.pinned (OpenSpec.ofChange wholeOrderWrong)

/-- 'theodolitetop.WholeFuse': WHATEVER THE INPUT: true; the input reads as it did. -/
def wholeFuseSpec : ChangeSpec := { name := "wholeFuse", fn := fun _ => fun
  | [d1, d2, d3, d4, d5, d6, d7] => { results := [.lit (.bool true)], args := [d1, d2, d3, d4, d5, d6, d7] }
  | _ => none }
def wholeFuseRow : OpenClaim := { program := "ytmbippkpjdoojaagreat", sum := "991a3bbbe8ea5dd129da6e9a17ddeee15d13b632772f234afeae333587234428", func := "theodolite/theodolitetop.WholeFuse", spec := "wholeFuse", inPlace := ["slices.overlaps[theodolite/api.Pair]", "math/bits.Add64"], unfollowed := true, recurses := true, named := ["math/bits.divideError", "math/bits.overflowError"], plainKeys := false, apart := false }
def WholeFuseSaid : Prop := wholeFuseRow.holds Tryz.pinned (OpenSpec.ofChange wholeFuseSpec)

/-- ITS FALSE NEIGHBOUR: 'it returns false'. Refute it at one input. -/
def wholeFuseWrong : ChangeSpec := { name := "wholeFuse", fn := fun _ => fun
  | [d1, d2, d3, d4, d5, d6, d7] => { results := [.lit (.bool false)], args := [d1, d2, d3, d4, d5, d6, d7] }
  | _ => none }
def WholeFuseWrongFalsely : Prop := wholeFuseRow.holds Tryz.pinned (OpenSpec.ofChange wholeFuseWrong)

/-- 'theodolitetop.WholeBursts': WHATEVER THE INPUT: true; the input reads as it did. -/
def wholeBurstsSpec : ChangeSpec := { name := "wholeBursts", fn := fun _ => fun
  | [d1, d2, d3, d4, d5] => { results := [.lit (.bool true)], args := [d1, d2, d3, d4, d5] }
  | _ => none }
def wholeBurstsRow : OpenClaim := { program := "ytmbippkpjdoojaagreat", sum := "991a3bbbe8ea5dd129da6e9a17ddeee15d13b632772f234afeae333587234428", func := "theodolite/theodolitetop.WholeBursts", spec := "wholeBursts", inPlace := ["slices.overlaps[theodolite/api.Pair]", "math/bits.Add64"], unfollowed := true, recurses := true, named := ["math/bits.divideError", "math/bits.overflowError"], plainKeys := false, apart := false }
def WholeBurstsSaid : Prop := wholeBurstsRow.holds Tryz.pinned (OpenSpec.ofChange wholeBurstsSpec)

/-- ITS FALSE NEIGHBOUR: 'it returns false'. Refute it at one input. -/
def wholeBurstsWrong : ChangeSpec := { name := "wholeBursts", fn := fun _ => fun
  | [d1, d2, d3, d4, d5] => { results := [.lit (.bool false)], args := [d1, d2, d3, d4, d5] }
  | _ => none }
def WholeBurstsWrongFalsely : Prop := wholeBurstsRow.holds Tryz.pinned (OpenSpec.ofChange wholeBurstsWrong)

/-- 'theodolitetop.WholeUpgrade': WHATEVER THE INPUT: true; the input reads as it did. -/
def wholeUpgradeSpec : ChangeSpec := { name := "wholeUpgrade", fn := fun _ => fun
  | [d1, d2] => { results := [.lit (.bool true)], args := [d1, d2] }
  | _ => none }
def wholeUpgradeRow : OpenClaim := { program := "ytmbippkpjdoojaagreat", sum := "991a3bbbe8ea5dd129da6e9a17ddeee15d13b632772f234afeae333587234428", func := "theodolite/theodolitetop.WholeUpgrade", spec := "wholeUpgrade", inPlace := ["slices.overlaps[theodolite/api.Pair]", "math/bits.Add64"], unfollowed := true, recurses := true, named := ["math/bits.divideError", "math/bits.overflowError"], plainKeys := false, apart := false }
def WholeUpgradeSaid : Prop := wholeUpgradeRow.holds Tryz.pinned (OpenSpec.ofChange wholeUpgradeSpec)

/-- ITS FALSE NEIGHBOUR: 'it returns false'. Refute it at one input. -/
def wholeUpgradeWrong : ChangeSpec := { name := "wholeUpgrade", fn := fun _ => fun
  | [d1, d2] => { results := [.lit (.bool false)], args := [d1, d2] }
  | _ => none }
def WholeUpgradeWrongFalsely : Prop := wholeUpgradeRow.holds Tryz.pinned (OpenSpec.ofChange wholeUpgradeWrong)

/-- 'theodolitetop.WholeSame': WHATEVER THE INPUT: true; the input reads as it did. -/
def wholeSameSpec : ChangeSpec := { name := "wholeSame", fn := fun _ => fun
  | [d] => { results := [.lit (.bool true)], args := [d] }
  | _ => none }
def wholeSameRow : OpenClaim := { program := "ytmbippkpjdoojaagreat", sum := "991a3bbbe8ea5dd129da6e9a17ddeee15d13b632772f234afeae333587234428", func := "theodolite/theodolitetop.WholeSame", spec := "wholeSame", inPlace := ["slices.overlaps[theodolite/api.Pair]", "math/bits.Add64"], unfollowed := true, recurses := true, named := ["math/bits.divideError", "math/bits.overflowError"], plainKeys := false, apart := false }
def WholeSameSaid : Prop := wholeSameRow.holds Tryz.pinned (OpenSpec.ofChange wholeSameSpec)

/-- ITS FALSE NEIGHBOUR: 'it returns false'. Refute it at one input. -/
def wholeSameWrong : ChangeSpec := { name := "wholeSame", fn := fun _ => fun
  | [d] => { results := [.lit (.bool false)], args := [d] }
  | _ => none }
def WholeSameWrongFalsely : Prop := wholeSameRow.holds Tryz.pinned (OpenSpec.ofChange wholeSameWrong)

/- THE SECOND FORM. 'bulk': how many values and letters a reading holds, each counted each time it is reached (what is shared counts as often as it is met; a slice's spare places count too). A statement '..UptoSaid' is the law's where the arguments, and the package variables that the reading takes, are together of bulk at most 1048576: NARROWER than '..Said'. Prove '..Said' where nothing that the law and all that it calls make is longer than what came in: it says more and counts as full. Else prove '..UptoSaid'. A law counts once. -/
mutual
def uptoBulk {H : Type} : DataW H → Nat
  | .lit (.string bytes) => bytes.length + 1
  | .lit _ => 1
  | .nil => 1
  | .ptr d => uptoBulk d + 1
  | .slice elems spare => uptoBulkAll elems + uptoBulkAll spare + 1
  | .agg parts => uptoBulkAll parts + 1
  | .iface _ d => uptoBulk d + 1
  | .map entries => uptoBulkEntries entries + 1
  | .held _ => 1
def uptoBulkAll {H : Type} : List (DataW H) → Nat
  | [] => 0
  | d :: r => uptoBulk d + uptoBulkAll r
def uptoBulkEntries {H : Type} : List (Lit × DataW H) → Nat
  | [] => 0
  | x :: r => uptoBulkEntry x + uptoBulkEntries r
def uptoBulkEntry {H : Type} : Lit × DataW H → Nat
  | (.string bytes, d) => bytes.length + uptoBulk d + 1
  | (_, d) => uptoBulk d + 1
 end
def uptoSmall : (H : Type) → List (DataW H) → Bool := fun _ ds => decide (uptoBulkAll ds ≤ 1048576)
def OpenSpec.upto (s : _root_.Go.ChangeSpec) : _root_.Go.OpenSpec := { _root_.Go.OpenSpec.ofChange s with cond := some uptoSmall }

/-- 'theodolitetop.WholeOrder', WHERE WHAT IT READS IS OF BULK AT MOST 1048576: true; the input reads as it did. -/
def wholeOrderUptoRow : OpenClaim := { program := "ytmbippkpjdoojaagreat", sum := "991a3bbbe8ea5dd129da6e9a17ddeee15d13b632772f234afeae333587234428", func := "theodolite/theodolitetop.WholeOrder", spec := "wholeOrder", inPlace := ["slices.overlaps[theodolite/api.Pair]", "math/bits.Add64"], unfollowed := true, recurses := true, named := ["math/bits.divideError", "math/bits.overflowError"], plainKeys := false, apart := false, narrowed := true }
def WholeOrderUptoSaid : Prop := wholeOrderUptoRow.holds Tryz.pinned (OpenSpec.upto wholeOrderSpec)

/-- 'theodolitetop.WholeFuse', WHERE WHAT IT READS IS OF BULK AT MOST 1048576: true; the input reads as it did. -/
def wholeFuseUptoRow : OpenClaim := { program := "ytmbippkpjdoojaagreat", sum := "991a3bbbe8ea5dd129da6e9a17ddeee15d13b632772f234afeae333587234428", func := "theodolite/theodolitetop.WholeFuse", spec := "wholeFuse", inPlace := ["slices.overlaps[theodolite/api.Pair]", "math/bits.Add64"], unfollowed := true, recurses := true, named := ["math/bits.divideError", "math/bits.overflowError"], plainKeys := false, apart := false, narrowed := true }
def WholeFuseUptoSaid : Prop := wholeFuseUptoRow.holds Tryz.pinned (OpenSpec.upto wholeFuseSpec)

/-- 'theodolitetop.WholeBursts', WHERE WHAT IT READS IS OF BULK AT MOST 1048576: true; the input reads as it did. -/
def wholeBurstsUptoRow : OpenClaim := { program := "ytmbippkpjdoojaagreat", sum := "991a3bbbe8ea5dd129da6e9a17ddeee15d13b632772f234afeae333587234428", func := "theodolite/theodolitetop.WholeBursts", spec := "wholeBursts", inPlace := ["slices.overlaps[theodolite/api.Pair]", "math/bits.Add64"], unfollowed := true, recurses := true, named := ["math/bits.divideError", "math/bits.overflowError"], plainKeys := false, apart := false, narrowed := true }
def WholeBurstsUptoSaid : Prop := wholeBurstsUptoRow.holds Tryz.pinned (OpenSpec.upto wholeBurstsSpec)

/-- 'theodolitetop.WholeUpgrade', WHERE WHAT IT READS IS OF BULK AT MOST 1048576: true; the input reads as it did. -/
def wholeUpgradeUptoRow : OpenClaim := { program := "ytmbippkpjdoojaagreat", sum := "991a3bbbe8ea5dd129da6e9a17ddeee15d13b632772f234afeae333587234428", func := "theodolite/theodolitetop.WholeUpgrade", spec := "wholeUpgrade", inPlace := ["slices.overlaps[theodolite/api.Pair]", "math/bits.Add64"], unfollowed := true, recurses := true, named := ["math/bits.divideError", "math/bits.overflowError"], plainKeys := false, apart := false, narrowed := true }
def WholeUpgradeUptoSaid : Prop := wholeUpgradeUptoRow.holds Tryz.pinned (OpenSpec.upto wholeUpgradeSpec)

/-- 'theodolitetop.WholeSame', WHERE WHAT IT READS IS OF BULK AT MOST 1048576: true; the input reads as it did. -/
def wholeSameUptoRow : OpenClaim := { program := "ytmbippkpjdoojaagreat", sum := "991a3bbbe8ea5dd129da6e9a17ddeee15d13b632772f234afeae333587234428", func := "theodolite/theodolitetop.WholeSame", spec := "wholeSame", inPlace := ["slices.overlaps[theodolite/api.Pair]", "math/bits.Add64"], unfollowed := true, recurses := true, named := ["math/bits.divideError", "math/bits.overflowError"], plainKeys := false, apart := false, narrowed := true }
def WholeSameUptoSaid : Prop := wholeSameUptoRow.holds Tryz.pinned (OpenSpec.upto wholeSameSpec)

end Rows
end Go.Proofs.YtmbippkpjdoojaaGreat
