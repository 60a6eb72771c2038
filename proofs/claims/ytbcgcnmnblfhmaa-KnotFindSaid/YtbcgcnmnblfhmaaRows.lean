/-
  No cell of these rows narrows 'for every input' (looked for: loops, veiled, ifaces, maps, wideKeys, modest, calm, conditions, laid).
  DERIVED. THE GIVEN ROWS OF THIS SEAT. 5 by the template 'for every input the law returns true; each argument reads behind the call as it read before'; 0 by the template 'total and deterministic' (their statements: YtbcgcnmnblfhmaaTotals.lean).
  GIVEN WITH THE SEED: the statements are not yours to turn. If you find one false, say at which input.
  Laid BY PROGRAM, IN A SANDBOX (cutbox-rows.mjs): the forced cells as the released guide's own fill.sh prints them over the translation acdd64d2e299c13a… (all of the seat's roots in one cut). By AI agents, Wed Nov 11 2026. No macro, syntax, notation, axiom, sorry.
-/
import Derived.Test.YtbcgcnmnblfhmaaChecked
import GoSem.Claim
import GoSem.ClaimJoined
import GoSem.ClaimMapViews
import Derived.JoinedTies
import Derived.KernelRfl
namespace Go.Proofs.Ytbcgcnmnblfhmaa
/- THE CELL 'sum', in the pinned program and in every row, IS THE sha256 OF THE DUMP (.gsa) THAT YtbcgcnmnblfhmaaProg.lean LOADS. Nothing in Lean hashes anything: it is a label: what it is worth is what the hold of that sum in a sandbox is worth. -/
noncomputable def Try.pinned : Pinned := { name := "ytbcgcnmnblfhmaa", sum := "acdd64d2e299c13ab0c5e6a9608e9e6b424b8657769a00f2cdbb8f05ea9acf53", checked := Try.checked }
namespace Rows
def none {H : Type} : Left H := { results := [], args := [] }

/-- 'weathervanelaw16.KnotFind': WHATEVER THE INPUT: true; the input reads as it did. -/
def knotFindSpec : ChangeSpec := { name := "knotFind", fn := fun _ => fun
  | [d1, d2] => { results := [.lit (.bool true)], args := [d1, d2] }
  | _ => none }
def knotFindRow : OpenClaim := { program := "ytbcgcnmnblfhmaa", sum := "acdd64d2e299c13ab0c5e6a9608e9e6b424b8657769a00f2cdbb8f05ea9acf53", func := "weathervane/weathervanelaw16.KnotFind", spec := "knotFind", recurses := true, apart := false }
def KnotFindSaid : Prop := knotFindRow.holds Try.pinned (OpenSpec.ofChange knotFindSpec)

/-- ITS FALSE NEIGHBOUR: 'it returns false'. Refute it at one input. -/
def knotFindWrong : ChangeSpec := { name := "knotFind", fn := fun _ => fun
  | [d1, d2] => { results := [.lit (.bool false)], args := [d1, d2] }
  | _ => none }
def KnotFindWrongFalsely : Prop := knotFindRow.holds Try.pinned (OpenSpec.ofChange knotFindWrong)

/-- 'weathervanelaw16.KnotRing': WHATEVER THE INPUT: true; the input reads as it did. -/
def knotRingSpec : ChangeSpec := { name := "knotRing", fn := fun _ => fun
  | [d1, d2] => { results := [.lit (.bool true)], args := [d1, d2] }
  | _ => none }
def knotRingRow : OpenClaim := { program := "ytbcgcnmnblfhmaa", sum := "acdd64d2e299c13ab0c5e6a9608e9e6b424b8657769a00f2cdbb8f05ea9acf53", func := "weathervane/weathervanelaw16.KnotRing", spec := "knotRing", recurses := true, apart := false }
def KnotRingSaid : Prop := knotRingRow.holds Try.pinned (OpenSpec.ofChange knotRingSpec)

/-- ITS FALSE NEIGHBOUR: 'it returns false'. Refute it at one input. -/
def knotRingWrong : ChangeSpec := { name := "knotRing", fn := fun _ => fun
  | [d1, d2] => { results := [.lit (.bool false)], args := [d1, d2] }
  | _ => none }
def KnotRingWrongFalsely : Prop := knotRingRow.holds Try.pinned (OpenSpec.ofChange knotRingWrong)

/-- 'weathervanelaw16.KnotKeeps': WHATEVER THE INPUT: true; the input reads as it did. -/
def knotKeepsSpec : ChangeSpec := { name := "knotKeeps", fn := fun _ => fun
  | [d] => { results := [.lit (.bool true)], args := [d] }
  | _ => none }
def knotKeepsRow : OpenClaim := { program := "ytbcgcnmnblfhmaa", sum := "acdd64d2e299c13ab0c5e6a9608e9e6b424b8657769a00f2cdbb8f05ea9acf53", func := "weathervane/weathervanelaw16.KnotKeeps", spec := "knotKeeps", recurses := true, apart := false }
def KnotKeepsSaid : Prop := knotKeepsRow.holds Try.pinned (OpenSpec.ofChange knotKeepsSpec)

/-- ITS FALSE NEIGHBOUR: 'it returns false'. Refute it at one input. -/
def knotKeepsWrong : ChangeSpec := { name := "knotKeeps", fn := fun _ => fun
  | [d] => { results := [.lit (.bool false)], args := [d] }
  | _ => none }
def KnotKeepsWrongFalsely : Prop := knotKeepsRow.holds Try.pinned (OpenSpec.ofChange knotKeepsWrong)

/-- 'weathervanelaw16.KnotTurned': WHATEVER THE INPUT: true; the input reads as it did. -/
def knotTurnedSpec : ChangeSpec := { name := "knotTurned", fn := fun _ => fun
  | [d] => { results := [.lit (.bool true)], args := [d] }
  | _ => none }
def knotTurnedRow : OpenClaim := { program := "ytbcgcnmnblfhmaa", sum := "acdd64d2e299c13ab0c5e6a9608e9e6b424b8657769a00f2cdbb8f05ea9acf53", func := "weathervane/weathervanelaw16.KnotTurned", spec := "knotTurned", recurses := true, apart := false }
def KnotTurnedSaid : Prop := knotTurnedRow.holds Try.pinned (OpenSpec.ofChange knotTurnedSpec)

/-- ITS FALSE NEIGHBOUR: 'it returns false'. Refute it at one input. -/
def knotTurnedWrong : ChangeSpec := { name := "knotTurned", fn := fun _ => fun
  | [d] => { results := [.lit (.bool false)], args := [d] }
  | _ => none }
def KnotTurnedWrongFalsely : Prop := knotTurnedRow.holds Try.pinned (OpenSpec.ofChange knotTurnedWrong)

/-- 'weathervanelaw16.KnotSelf': WHATEVER THE INPUT: true; the input reads as it did. -/
def knotSelfSpec : ChangeSpec := { name := "knotSelf", fn := fun _ => fun
  | [d1, d2] => { results := [.lit (.bool true)], args := [d1, d2] }
  | _ => none }
def knotSelfRow : OpenClaim := { program := "ytbcgcnmnblfhmaa", sum := "acdd64d2e299c13ab0c5e6a9608e9e6b424b8657769a00f2cdbb8f05ea9acf53", func := "weathervane/weathervanelaw16.KnotSelf", spec := "knotSelf", recurses := true, apart := false }
def KnotSelfSaid : Prop := knotSelfRow.holds Try.pinned (OpenSpec.ofChange knotSelfSpec)

/-- ITS FALSE NEIGHBOUR: 'it returns false'. Refute it at one input. -/
def knotSelfWrong : ChangeSpec := { name := "knotSelf", fn := fun _ => fun
  | [d1, d2] => { results := [.lit (.bool false)], args := [d1, d2] }
  | _ => none }
def KnotSelfWrongFalsely : Prop := knotSelfRow.holds Try.pinned (OpenSpec.ofChange knotSelfWrong)

/- THE SECOND FORM. 'bulk': how many values and letters a reading holds, each counted each time it is reached (what is shared counts as often as it is met; a slice's spare places count too). A statement '..UptoSaid' is the law's where the arguments, and the package variables that the reading takes, are together of bulk at most 1048576: NARROWER than '..Said'. Prove '..Said' where nothing that the law and all that it calls make is longer than what came in: it says more and counts as full. Else prove '..UptoSaid'. A law counts once. -/
mutual
def uptoBulk {H : Type} : DataW H → Nat
  | .lit (.string bytes) => bytes.length + 1
  | .lit _ => 1
  | .nil => 1
  | .ptr d => uptoBulk d + 1
  | .slice elems spare => uptoBulkAll elems + uptoBulkAll spare + 1
  | .agg parts => uptoBulkAll parts + 1
  | .iface _ d => uptoBulk d + 1
  | .map entries => uptoBulkEntries entries + 1
  | .held _ => 1
def uptoBulkAll {H : Type} : List (DataW H) → Nat
  | [] => 0
  | d :: r => uptoBulk d + uptoBulkAll r
def uptoBulkEntries {H : Type} : List (Lit × DataW H) → Nat
  | [] => 0
  | x :: r => uptoBulkEntry x + uptoBulkEntries r
def uptoBulkEntry {H : Type} : Lit × DataW H → Nat
  | (.string bytes, d) => bytes.length + uptoBulk d + 1
  | (_, d) => uptoBulk d + 1
 end
def uptoSmall : (H : Type) → List (DataW H) → Bool := fun _ ds => decide (uptoBulkAll ds ≤ 1048576)
def OpenSpec.upto (s : _root_.Go.ChangeSpec) : _root_.Go.OpenSpec := { _root_.Go.OpenSpec.ofChange s with cond := some uptoSmall }

/-- 'weathervanelaw16.KnotFind', WHERE WHAT IT READS IS OF BULK AT MOST 1048576: true; the input reads as it did. -/
def knotFindUptoRow : OpenClaim := { program := "ytbcgcnmnblfhmaa", sum := "acdd64d2e299c13ab0c5e6a9608e9e6b424b8657769a00f2cdbb8f05ea9acf53", func := "weathervane/weathervanelaw16.KnotFind", spec := "knotFind", recurses := true, apart := false, narrowed := true }
def KnotFindUptoSaid : Prop := knotFindUptoRow.holds Try.pinned (OpenSpec.upto knotFindSpec)

/-- 'weathervanelaw16.KnotRing', WHERE WHAT IT READS IS OF BULK AT MOST 1048576: true; the input reads as it did. -/
def knotRingUptoRow : OpenClaim := { program := "ytbcgcnmnblfhmaa", sum := "acdd64d2e299c13ab0c5e6a9608e9e6b424b8657769a00f2cdbb8f05ea9acf53", func := "weathervane/weathervanelaw16.KnotRing", spec := "knotRing", recurses := true, apart := false, narrowed := true }
def KnotRingUptoSaid : Prop := knotRingUptoRow.holds Try.pinned (OpenSpec.upto knotRingSpec)

/-- 'weathervanelaw16.KnotKeeps', WHERE WHAT IT READS IS OF BULK AT MOST 1048576: true; the input reads as it did. -/
def knotKeepsUptoRow : OpenClaim := { program := "ytbcgcnmnblfhmaa", sum := "acdd64d2e299c13ab0c5e6a9608e9e6b424b8657769a00f2cdbb8f05ea9acf53", func := "weathervane/weathervanelaw16.KnotKeeps", spec := "knotKeeps", recurses := true, apart := false, narrowed := true }
def KnotKeepsUptoSaid : Prop := knotKeepsUptoRow.holds Try.pinned (OpenSpec.upto knotKeepsSpec)

/-- 'weathervanelaw16.KnotTurned', WHERE WHAT IT READS IS OF BULK AT MOST 1048576: true; the input reads as it did. -/
def knotTurnedUptoRow : OpenClaim := { program := "ytbcgcnmnblfhmaa", sum := "acdd64d2e299c13ab0c5e6a9608e9e6b424b8657769a00f2cdbb8f05ea9acf53", func := "weathervane/weathervanelaw16.KnotTurned", spec := "knotTurned", recurses := true, apart := false, narrowed := true }
def KnotTurnedUptoSaid : Prop := knotTurnedUptoRow.holds Try.pinned (OpenSpec.upto knotTurnedSpec)

/-- 'weathervanelaw16.KnotSelf', WHERE WHAT IT READS IS OF BULK AT MOST 1048576: true; the input reads as it did. -/
def knotSelfUptoRow : OpenClaim := { program := "ytbcgcnmnblfhmaa", sum := "acdd64d2e299c13ab0c5e6a9608e9e6b424b8657769a00f2cdbb8f05ea9acf53", func := "weathervane/weathervanelaw16.KnotSelf", spec := "knotSelf", recurses := true, apart := false, narrowed := true }
def KnotSelfUptoSaid : Prop := knotSelfUptoRow.holds Try.pinned (OpenSpec.upto knotSelfSpec)

end Rows
end Go.Proofs.Ytbcgcnmnblfhmaa
