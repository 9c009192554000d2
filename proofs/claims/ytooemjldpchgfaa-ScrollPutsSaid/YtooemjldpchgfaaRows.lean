/-
  No cell of these rows narrows 'for every input' (looked for: loops, veiled, ifaces, maps, wideKeys, modest, calm, conditions, laid).
  DERIVED. THE GIVEN ROWS OF THIS SEAT. 3 by the template 'for every input the law returns true; each argument reads behind the call as it read before'; 0 by the template 'total and deterministic' (their statements: YtooemjldpchgfaaTotals.lean).
  GIVEN WITH THE SEED: the statements are not yours to turn. If you find one false, say at which input.
  Laid BY PROGRAM, IN A SANDBOX (cutbox-rows.mjs): the forced cells as the released guide's own fill.sh prints them over the translation f5af5fdd313b0350… (all of the seat's roots in one cut). By AI agents, Wed Nov 11 2026. No macro, syntax, notation, axiom, sorry.
-/
import Derived.Test.YtooemjldpchgfaaChecked
import GoSem.Claim
import GoSem.ClaimJoined
import GoSem.ClaimMapViews
import Derived.JoinedTies
import Derived.KernelRfl
namespace Go.Proofs.Ytooemjldpchgfaa
/- THE CELL 'sum', in the pinned program and in every row, IS THE sha256 OF THE DUMP (.gsa) THAT YtooemjldpchgfaaProg.lean LOADS. Nothing in Lean hashes anything: it is a label: what it is worth is what the hold of that sum in a sandbox is worth. -/
noncomputable def Try.pinned : Pinned := { name := "ytooemjldpchgfaa", sum := "f5af5fdd313b0350d6e39017d4badf0c14a78d449c97fe9336e9b0d79b95c8c3", checked := Try.checked }
namespace Rows
def none {H : Type} : Left H := { results := [], args := [] }

/-- 'trailheadlaw05.ScrollWide': WHATEVER THE INPUT: true; the input reads as it did. -/
def scrollWideSpec : ChangeSpec := { name := "scrollWide", fn := fun _ => fun
  | [d1, d2] => { results := [.lit (.bool true)], args := [d1, d2] }
  | _ => none }
def scrollWideRow : OpenClaim := { program := "ytooemjldpchgfaa", sum := "f5af5fdd313b0350d6e39017d4badf0c14a78d449c97fe9336e9b0d79b95c8c3", func := "trailhead/trailheadlaw05.ScrollWide", spec := "scrollWide", apart := false }
def ScrollWideSaid : Prop := scrollWideRow.holds Try.pinned (OpenSpec.ofChange scrollWideSpec)

/-- ITS FALSE NEIGHBOUR: 'it returns false'. Refute it at one input. -/
def scrollWideWrong : ChangeSpec := { name := "scrollWide", fn := fun _ => fun
  | [d1, d2] => { results := [.lit (.bool false)], args := [d1, d2] }
  | _ => none }
def ScrollWideWrongFalsely : Prop := scrollWideRow.holds Try.pinned (OpenSpec.ofChange scrollWideWrong)

/-- 'trailheadlaw05.ScrollCounts': WHATEVER THE INPUT: true; the input reads as it did. -/
def scrollCountsSpec : ChangeSpec := { name := "scrollCounts", fn := fun _ => fun
  | [d1, d2, d3] => { results := [.lit (.bool true)], args := [d1, d2, d3] }
  | _ => none }
def scrollCountsRow : OpenClaim := { program := "ytooemjldpchgfaa", sum := "f5af5fdd313b0350d6e39017d4badf0c14a78d449c97fe9336e9b0d79b95c8c3", func := "trailhead/trailheadlaw05.ScrollCounts", spec := "scrollCounts", apart := false }
def ScrollCountsSaid : Prop := scrollCountsRow.holds Try.pinned (OpenSpec.ofChange scrollCountsSpec)

/-- ITS FALSE NEIGHBOUR: 'it returns false'. Refute it at one input. -/
def scrollCountsWrong : ChangeSpec := { name := "scrollCounts", fn := fun _ => fun
  | [d1, d2, d3] => { results := [.lit (.bool false)], args := [d1, d2, d3] }
  | _ => none }
def ScrollCountsWrongFalsely : Prop := scrollCountsRow.holds Try.pinned (OpenSpec.ofChange scrollCountsWrong)

/-- 'trailheadlaw05.ScrollPuts': WHATEVER THE INPUT: true; the input reads as it did. -/
def scrollPutsSpec : ChangeSpec := { name := "scrollPuts", fn := fun _ => fun
  | [d] => { results := [.lit (.bool true)], args := [d] }
  | _ => none }
def scrollPutsRow : OpenClaim := { program := "ytooemjldpchgfaa", sum := "f5af5fdd313b0350d6e39017d4badf0c14a78d449c97fe9336e9b0d79b95c8c3", func := "trailhead/trailheadlaw05.ScrollPuts", spec := "scrollPuts", apart := false }
def ScrollPutsSaid : Prop := scrollPutsRow.holds Try.pinned (OpenSpec.ofChange scrollPutsSpec)

/-- ITS FALSE NEIGHBOUR: 'it returns false'. Refute it at one input. -/
def scrollPutsWrong : ChangeSpec := { name := "scrollPuts", fn := fun _ => fun
  | [d] => { results := [.lit (.bool false)], args := [d] }
  | _ => none }
def ScrollPutsWrongFalsely : Prop := scrollPutsRow.holds Try.pinned (OpenSpec.ofChange scrollPutsWrong)

/- THE SECOND FORM. 'bulk': how many values and letters a reading holds, each counted each time it is reached (what is shared counts as often as it is met; a slice's spare places count too). A statement '..UptoSaid' is the law's where the arguments, and the package variables that the reading takes, are together of bulk at most 1048576: NARROWER than '..Said'. Prove '..Said' where nothing that the law and all that it calls make is longer than what came in: it says more and counts as full. Else prove '..UptoSaid'. A law counts once. -/
mutual
def uptoBulk {H : Type} : DataW H → Nat
  | .lit (.string bytes) => bytes.length + 1
  | .lit _ => 1
  | .nil => 1
  | .ptr d => uptoBulk d + 1
  | .slice elems spare => uptoBulkAll elems + uptoBulkAll spare + 1
  | .agg parts => uptoBulkAll parts + 1
  | .iface _ d => uptoBulk d + 1
  | .map entries => uptoBulkEntries entries + 1
  | .held _ => 1
def uptoBulkAll {H : Type} : List (DataW H) → Nat
  | [] => 0
  | d :: r => uptoBulk d + uptoBulkAll r
def uptoBulkEntries {H : Type} : List (Lit × DataW H) → Nat
  | [] => 0
  | x :: r => uptoBulkEntry x + uptoBulkEntries r
def uptoBulkEntry {H : Type} : Lit × DataW H → Nat
  | (.string bytes, d) => bytes.length + uptoBulk d + 1
  | (_, d) => uptoBulk d + 1
 end
def uptoSmall : (H : Type) → List (DataW H) → Bool := fun _ ds => decide (uptoBulkAll ds ≤ 1048576)
def OpenSpec.upto (s : _root_.Go.ChangeSpec) : _root_.Go.OpenSpec := { _root_.Go.OpenSpec.ofChange s with cond := some uptoSmall }

/-- 'trailheadlaw05.ScrollWide', WHERE WHAT IT READS IS OF BULK AT MOST 1048576: true; the input reads as it did. -/
def scrollWideUptoRow : OpenClaim := { program := "ytooemjldpchgfaa", sum := "f5af5fdd313b0350d6e39017d4badf0c14a78d449c97fe9336e9b0d79b95c8c3", func := "trailhead/trailheadlaw05.ScrollWide", spec := "scrollWide", apart := false, narrowed := true }
def ScrollWideUptoSaid : Prop := scrollWideUptoRow.holds Try.pinned (OpenSpec.upto scrollWideSpec)

/-- 'trailheadlaw05.ScrollCounts', WHERE WHAT IT READS IS OF BULK AT MOST 1048576: true; the input reads as it did. -/
def scrollCountsUptoRow : OpenClaim := { program := "ytooemjldpchgfaa", sum := "f5af5fdd313b0350d6e39017d4badf0c14a78d449c97fe9336e9b0d79b95c8c3", func := "trailhead/trailheadlaw05.ScrollCounts", spec := "scrollCounts", apart := false, narrowed := true }
def ScrollCountsUptoSaid : Prop := scrollCountsUptoRow.holds Try.pinned (OpenSpec.upto scrollCountsSpec)

/-- 'trailheadlaw05.ScrollPuts', WHERE WHAT IT READS IS OF BULK AT MOST 1048576: true; the input reads as it did. -/
def scrollPutsUptoRow : OpenClaim := { program := "ytooemjldpchgfaa", sum := "f5af5fdd313b0350d6e39017d4badf0c14a78d449c97fe9336e9b0d79b95c8c3", func := "trailhead/trailheadlaw05.ScrollPuts", spec := "scrollPuts", apart := false, narrowed := true }
def ScrollPutsUptoSaid : Prop := scrollPutsUptoRow.holds Try.pinned (OpenSpec.upto scrollPutsSpec)

end Rows
end Go.Proofs.Ytooemjldpchgfaa
