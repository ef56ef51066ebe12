/-
  No cell of these rows narrows 'for every input' (looked for: loops, veiled, ifaces, maps, wideKeys, modest, calm, conditions, laid).
  DERIVED. THE GIVEN ROWS OF THIS SEAT. 10 by the template 'for every input the law returns true; each argument reads behind the call as it read before'; 0 by the template 'total and deterministic' (their statements: YtaddlkokencbkaaTotals.lean).
  GIVEN WITH THE SEED: the statements are not yours to turn. If you find one false, say at which input.
  Laid BY PROGRAM, IN A SANDBOX (cutbox-rows.mjs): the forced cells as the released guide's own fill.sh prints them over the translation 1864989e34ccb3e9… (all of the seat's roots in one cut). By AI agents, Wed Nov 11 2026. No macro, syntax, notation, axiom, sorry.
-/
import Derived.Test.YtaddlkokencbkaaChecked
import GoSem.Claim
import GoSem.ClaimJoined
import GoSem.ClaimMapViews
import Derived.JoinedTies
import Derived.KernelRfl
namespace Go.Proofs.Ytaddlkokencbkaa
/- THE CELL 'sum', in the pinned program and in every row, IS THE sha256 OF THE DUMP (.gsa) THAT YtaddlkokencbkaaProg.lean LOADS. Nothing in Lean hashes anything: it is a label: what it is worth is what the hold of that sum in a sandbox is worth. -/
noncomputable def Try.pinned : Pinned := { name := "ytaddlkokencbkaa", sum := "1864989e34ccb3e9c5330fc452ce97e89da110bc986650eae7367fe78669eaae", checked := Try.checked }
namespace Rows
def none {H : Type} : Left H := { results := [], args := [] }

/-- 'pantographlaw01.LayLess': WHATEVER THE INPUT: true; the input reads as it did. -/
def layLessSpec : ChangeSpec := { name := "layLess", fn := fun _ => fun
  | [d1, d2] => { results := [.lit (.bool true)], args := [d1, d2] }
  | _ => none }
def layLessRow : OpenClaim := { program := "ytaddlkokencbkaa", sum := "1864989e34ccb3e9c5330fc452ce97e89da110bc986650eae7367fe78669eaae", func := "pantograph/pantographlaw01.LayLess", spec := "layLess", apart := false }
def LayLessSaid : Prop := layLessRow.holds Try.pinned (OpenSpec.ofChange layLessSpec)

/-- ITS FALSE NEIGHBOUR: 'it returns false'. Refute it at one input. -/
def layLessWrong : ChangeSpec := { name := "layLess", fn := fun _ => fun
  | [d1, d2] => { results := [.lit (.bool false)], args := [d1, d2] }
  | _ => none }
def LayLessWrongFalsely : Prop := layLessRow.holds Try.pinned (OpenSpec.ofChange layLessWrong)

/-- 'pantographlaw01.LayWrites': WHATEVER THE INPUT: true; the input reads as it did. -/
def layWritesSpec : ChangeSpec := { name := "layWrites", fn := fun _ => fun
  | [d1, d2, d3] => { results := [.lit (.bool true)], args := [d1, d2, d3] }
  | _ => none }
def layWritesRow : OpenClaim := { program := "ytaddlkokencbkaa", sum := "1864989e34ccb3e9c5330fc452ce97e89da110bc986650eae7367fe78669eaae", func := "pantograph/pantographlaw01.LayWrites", spec := "layWrites", apart := false }
def LayWritesSaid : Prop := layWritesRow.holds Try.pinned (OpenSpec.ofChange layWritesSpec)

/-- ITS FALSE NEIGHBOUR: 'it returns false'. Refute it at one input. -/
def layWritesWrong : ChangeSpec := { name := "layWrites", fn := fun _ => fun
  | [d1, d2, d3] => { results := [.lit (.bool false)], args := [d1, d2, d3] }
  | _ => none }
def LayWritesWrongFalsely : Prop := layWritesRow.holds Try.pinned (OpenSpec.ofChange layWritesWrong)

/-- 'pantographlaw01.LayBytes': WHATEVER THE INPUT: true; the input reads as it did. -/
def layBytesSpec : ChangeSpec := { name := "layBytes", fn := fun _ => fun
  | [d] => { results := [.lit (.bool true)], args := [d] }
  | _ => none }
def layBytesRow : OpenClaim := { program := "ytaddlkokencbkaa", sum := "1864989e34ccb3e9c5330fc452ce97e89da110bc986650eae7367fe78669eaae", func := "pantograph/pantographlaw01.LayBytes", spec := "layBytes", apart := false }
def LayBytesSaid : Prop := layBytesRow.holds Try.pinned (OpenSpec.ofChange layBytesSpec)

/-- ITS FALSE NEIGHBOUR: 'it returns false'. Refute it at one input. -/
def layBytesWrong : ChangeSpec := { name := "layBytes", fn := fun _ => fun
  | [d] => { results := [.lit (.bool false)], args := [d] }
  | _ => none }
def LayBytesWrongFalsely : Prop := layBytesRow.holds Try.pinned (OpenSpec.ofChange layBytesWrong)

/-- 'pantographlaw05.ImageApart': WHATEVER THE INPUT: true; the input reads as it did. -/
def imageApartSpec : ChangeSpec := { name := "imageApart", fn := fun _ => fun
  | [d1, d2, d3] => { results := [.lit (.bool true)], args := [d1, d2, d3] }
  | _ => none }
def imageApartRow : OpenClaim := { program := "ytaddlkokencbkaa", sum := "1864989e34ccb3e9c5330fc452ce97e89da110bc986650eae7367fe78669eaae", func := "pantograph/pantographlaw05.ImageApart", spec := "imageApart", apart := false }
def ImageApartSaid : Prop := imageApartRow.holds Try.pinned (OpenSpec.ofChange imageApartSpec)

/-- ITS FALSE NEIGHBOUR: 'it returns false'. Refute it at one input. -/
def imageApartWrong : ChangeSpec := { name := "imageApart", fn := fun _ => fun
  | [d1, d2, d3] => { results := [.lit (.bool false)], args := [d1, d2, d3] }
  | _ => none }
def ImageApartWrongFalsely : Prop := imageApartRow.holds Try.pinned (OpenSpec.ofChange imageApartWrong)

/-- 'pantographlaw05.ImageNulls': WHATEVER THE INPUT: true; the input reads as it did. -/
def imageNullsSpec : ChangeSpec := { name := "imageNulls", fn := fun _ => fun
  | [d1, d2] => { results := [.lit (.bool true)], args := [d1, d2] }
  | _ => none }
def imageNullsRow : OpenClaim := { program := "ytaddlkokencbkaa", sum := "1864989e34ccb3e9c5330fc452ce97e89da110bc986650eae7367fe78669eaae", func := "pantograph/pantographlaw05.ImageNulls", spec := "imageNulls", apart := false }
def ImageNullsSaid : Prop := imageNullsRow.holds Try.pinned (OpenSpec.ofChange imageNullsSpec)

/-- ITS FALSE NEIGHBOUR: 'it returns false'. Refute it at one input. -/
def imageNullsWrong : ChangeSpec := { name := "imageNulls", fn := fun _ => fun
  | [d1, d2] => { results := [.lit (.bool false)], args := [d1, d2] }
  | _ => none }
def ImageNullsWrongFalsely : Prop := imageNullsRow.holds Try.pinned (OpenSpec.ofChange imageNullsWrong)

/-- 'pantographlaw05.ImageWrites': WHATEVER THE INPUT: true; the input reads as it did. -/
def imageWritesSpec : ChangeSpec := { name := "imageWrites", fn := fun _ => fun
  | [d1, d2, d3] => { results := [.lit (.bool true)], args := [d1, d2, d3] }
  | _ => none }
def imageWritesRow : OpenClaim := { program := "ytaddlkokencbkaa", sum := "1864989e34ccb3e9c5330fc452ce97e89da110bc986650eae7367fe78669eaae", func := "pantograph/pantographlaw05.ImageWrites", spec := "imageWrites", apart := false }
def ImageWritesSaid : Prop := imageWritesRow.holds Try.pinned (OpenSpec.ofChange imageWritesSpec)

/-- ITS FALSE NEIGHBOUR: 'it returns false'. Refute it at one input. -/
def imageWritesWrong : ChangeSpec := { name := "imageWrites", fn := fun _ => fun
  | [d1, d2, d3] => { results := [.lit (.bool false)], args := [d1, d2, d3] }
  | _ => none }
def ImageWritesWrongFalsely : Prop := imageWritesRow.holds Try.pinned (OpenSpec.ofChange imageWritesWrong)

/-- 'pantographlaw05.ImageKeys': WHATEVER THE INPUT: true; the input reads as it did. -/
def imageKeysSpec : ChangeSpec := { name := "imageKeys", fn := fun _ => fun
  | [d1, d2, d3] => { results := [.lit (.bool true)], args := [d1, d2, d3] }
  | _ => none }
def imageKeysRow : OpenClaim := { program := "ytaddlkokencbkaa", sum := "1864989e34ccb3e9c5330fc452ce97e89da110bc986650eae7367fe78669eaae", func := "pantograph/pantographlaw05.ImageKeys", spec := "imageKeys", apart := false }
def ImageKeysSaid : Prop := imageKeysRow.holds Try.pinned (OpenSpec.ofChange imageKeysSpec)

/-- ITS FALSE NEIGHBOUR: 'it returns false'. Refute it at one input. -/
def imageKeysWrong : ChangeSpec := { name := "imageKeys", fn := fun _ => fun
  | [d1, d2, d3] => { results := [.lit (.bool false)], args := [d1, d2, d3] }
  | _ => none }
def ImageKeysWrongFalsely : Prop := imageKeysRow.holds Try.pinned (OpenSpec.ofChange imageKeysWrong)

/-- 'pantographlaw01.LayRound': WHATEVER THE INPUT: true; the input reads as it did. -/
def layRoundSpec : ChangeSpec := { name := "layRound", fn := fun _ => fun
  | [d1, d2] => { results := [.lit (.bool true)], args := [d1, d2] }
  | _ => none }
def layRoundRow : OpenClaim := { program := "ytaddlkokencbkaa", sum := "1864989e34ccb3e9c5330fc452ce97e89da110bc986650eae7367fe78669eaae", func := "pantograph/pantographlaw01.LayRound", spec := "layRound", apart := false }
def LayRoundSaid : Prop := layRoundRow.holds Try.pinned (OpenSpec.ofChange layRoundSpec)

/-- ITS FALSE NEIGHBOUR: 'it returns false'. Refute it at one input. -/
def layRoundWrong : ChangeSpec := { name := "layRound", fn := fun _ => fun
  | [d1, d2] => { results := [.lit (.bool false)], args := [d1, d2] }
  | _ => none }
def LayRoundWrongFalsely : Prop := layRoundRow.holds Try.pinned (OpenSpec.ofChange layRoundWrong)

/-- 'pantographlaw01.LayShort': WHATEVER THE INPUT: true; the input reads as it did. -/
def layShortSpec : ChangeSpec := { name := "layShort", fn := fun _ => fun
  | [d1, d2, d3] => { results := [.lit (.bool true)], args := [d1, d2, d3] }
  | _ => none }
def layShortRow : OpenClaim := { program := "ytaddlkokencbkaa", sum := "1864989e34ccb3e9c5330fc452ce97e89da110bc986650eae7367fe78669eaae", func := "pantograph/pantographlaw01.LayShort", spec := "layShort", apart := false }
def LayShortSaid : Prop := layShortRow.holds Try.pinned (OpenSpec.ofChange layShortSpec)

/-- ITS FALSE NEIGHBOUR: 'it returns false'. Refute it at one input. -/
def layShortWrong : ChangeSpec := { name := "layShort", fn := fun _ => fun
  | [d1, d2, d3] => { results := [.lit (.bool false)], args := [d1, d2, d3] }
  | _ => none }
def LayShortWrongFalsely : Prop := layShortRow.holds Try.pinned (OpenSpec.ofChange layShortWrong)

/-- 'pantographlaw01.LayStops': WHATEVER THE INPUT: true; the input reads as it did. -/
def layStopsSpec : ChangeSpec := { name := "layStops", fn := fun _ => fun
  | [d1, d2, d3] => { results := [.lit (.bool true)], args := [d1, d2, d3] }
  | _ => none }
def layStopsRow : OpenClaim := { program := "ytaddlkokencbkaa", sum := "1864989e34ccb3e9c5330fc452ce97e89da110bc986650eae7367fe78669eaae", func := "pantograph/pantographlaw01.LayStops", spec := "layStops", apart := false }
def LayStopsSaid : Prop := layStopsRow.holds Try.pinned (OpenSpec.ofChange layStopsSpec)

/-- ITS FALSE NEIGHBOUR: 'it returns false'. Refute it at one input. -/
def layStopsWrong : ChangeSpec := { name := "layStops", fn := fun _ => fun
  | [d1, d2, d3] => { results := [.lit (.bool false)], args := [d1, d2, d3] }
  | _ => none }
def LayStopsWrongFalsely : Prop := layStopsRow.holds Try.pinned (OpenSpec.ofChange layStopsWrong)

/- THE SECOND FORM. 'bulk': how many values and letters a reading holds, each counted each time it is reached (what is shared counts as often as it is met; a slice's spare places count too). A statement '..UptoSaid' is the law's where the arguments, and the package variables that the reading takes, are together of bulk at most 1048576: NARROWER than '..Said'. Prove '..Said' where nothing that the law and all that it calls make is longer than what came in: it says more and counts as full. Else prove '..UptoSaid'. A law counts once. -/
mutual
def uptoBulk {H : Type} : DataW H → Nat
  | .lit (.string bytes) => bytes.length + 1
  | .lit _ => 1
  | .nil => 1
  | .ptr d => uptoBulk d + 1
  | .slice elems spare => uptoBulkAll elems + uptoBulkAll spare + 1
  | .agg parts => uptoBulkAll parts + 1
  | .iface _ d => uptoBulk d + 1
  | .map entries => uptoBulkEntries entries + 1
  | .held _ => 1
def uptoBulkAll {H : Type} : List (DataW H) → Nat
  | [] => 0
  | d :: r => uptoBulk d + uptoBulkAll r
def uptoBulkEntries {H : Type} : List (Lit × DataW H) → Nat
  | [] => 0
  | x :: r => uptoBulkEntry x + uptoBulkEntries r
def uptoBulkEntry {H : Type} : Lit × DataW H → Nat
  | (.string bytes, d) => bytes.length + uptoBulk d + 1
  | (_, d) => uptoBulk d + 1
 end
def uptoSmall : (H : Type) → List (DataW H) → Bool := fun _ ds => decide (uptoBulkAll ds ≤ 1048576)
def OpenSpec.upto (s : _root_.Go.ChangeSpec) : _root_.Go.OpenSpec := { _root_.Go.OpenSpec.ofChange s with cond := some uptoSmall }

/-- 'pantographlaw01.LayLess', WHERE WHAT IT READS IS OF BULK AT MOST 1048576: true; the input reads as it did. -/
def layLessUptoRow : OpenClaim := { program := "ytaddlkokencbkaa", sum := "1864989e34ccb3e9c5330fc452ce97e89da110bc986650eae7367fe78669eaae", func := "pantograph/pantographlaw01.LayLess", spec := "layLess", apart := false, narrowed := true }
def LayLessUptoSaid : Prop := layLessUptoRow.holds Try.pinned (OpenSpec.upto layLessSpec)

/-- 'pantographlaw01.LayWrites', WHERE WHAT IT READS IS OF BULK AT MOST 1048576: true; the input reads as it did. -/
def layWritesUptoRow : OpenClaim := { program := "ytaddlkokencbkaa", sum := "1864989e34ccb3e9c5330fc452ce97e89da110bc986650eae7367fe78669eaae", func := "pantograph/pantographlaw01.LayWrites", spec := "layWrites", apart := false, narrowed := true }
def LayWritesUptoSaid : Prop := layWritesUptoRow.holds Try.pinned (OpenSpec.upto layWritesSpec)

/-- 'pantographlaw01.LayBytes', WHERE WHAT IT READS IS OF BULK AT MOST 1048576: true; the input reads as it did. -/
def layBytesUptoRow : OpenClaim := { program := "ytaddlkokencbkaa", sum := "1864989e34ccb3e9c5330fc452ce97e89da110bc986650eae7367fe78669eaae", func := "pantograph/pantographlaw01.LayBytes", spec := "layBytes", apart := false, narrowed := true }
def LayBytesUptoSaid : Prop := layBytesUptoRow.holds Try.pinned (OpenSpec.upto layBytesSpec)

/-- 'pantographlaw05.ImageApart', WHERE WHAT IT READS IS OF BULK AT MOST 1048576: true; the input reads as it did. -/
def imageApartUptoRow : OpenClaim := { program := "ytaddlkokencbkaa", sum := "1864989e34ccb3e9c5330fc452ce97e89da110bc986650eae7367fe78669eaae", func := "pantograph/pantographlaw05.ImageApart", spec := "imageApart", apart := false, narrowed := true }
def ImageApartUptoSaid : Prop := imageApartUptoRow.holds Try.pinned (OpenSpec.upto imageApartSpec)

/-- 'pantographlaw05.ImageNulls', WHERE WHAT IT READS IS OF BULK AT MOST 1048576: true; the input reads as it did. -/
def imageNullsUptoRow : OpenClaim := { program := "ytaddlkokencbkaa", sum := "1864989e34ccb3e9c5330fc452ce97e89da110bc986650eae7367fe78669eaae", func := "pantograph/pantographlaw05.ImageNulls", spec := "imageNulls", apart := false, narrowed := true }
def ImageNullsUptoSaid : Prop := imageNullsUptoRow.holds Try.pinned (OpenSpec.upto imageNullsSpec)

/-- 'pantographlaw05.ImageWrites', WHERE WHAT IT READS IS OF BULK AT MOST 1048576: true; the input reads as it did. -/
def imageWritesUptoRow : OpenClaim := { program := "ytaddlkokencbkaa", sum := "1864989e34ccb3e9c5330fc452ce97e89da110bc986650eae7367fe78669eaae", func := "pantograph/pantographlaw05.ImageWrites", spec := "imageWrites", apart := false, narrowed := true }
def ImageWritesUptoSaid : Prop := imageWritesUptoRow.holds Try.pinned (OpenSpec.upto imageWritesSpec)

/-- 'pantographlaw05.ImageKeys', WHERE WHAT IT READS IS OF BULK AT MOST 1048576: true; the input reads as it did. -/
def imageKeysUptoRow : OpenClaim := { program := "ytaddlkokencbkaa", sum := "1864989e34ccb3e9c5330fc452ce97e89da110bc986650eae7367fe78669eaae", func := "pantograph/pantographlaw05.ImageKeys", spec := "imageKeys", apart := false, narrowed := true }
def ImageKeysUptoSaid : Prop := imageKeysUptoRow.holds Try.pinned (OpenSpec.upto imageKeysSpec)

/-- 'pantographlaw01.LayRound', WHERE WHAT IT READS IS OF BULK AT MOST 1048576: true; the input reads as it did. -/
def layRoundUptoRow : OpenClaim := { program := "ytaddlkokencbkaa", sum := "1864989e34ccb3e9c5330fc452ce97e89da110bc986650eae7367fe78669eaae", func := "pantograph/pantographlaw01.LayRound", spec := "layRound", apart := false, narrowed := true }
def LayRoundUptoSaid : Prop := layRoundUptoRow.holds Try.pinned (OpenSpec.upto layRoundSpec)

/-- 'pantographlaw01.LayShort', WHERE WHAT IT READS IS OF BULK AT MOST 1048576: true; the input reads as it did. -/
def layShortUptoRow : OpenClaim := { program := "ytaddlkokencbkaa", sum := "1864989e34ccb3e9c5330fc452ce97e89da110bc986650eae7367fe78669eaae", func := "pantograph/pantographlaw01.LayShort", spec := "layShort", apart := false, narrowed := true }
def LayShortUptoSaid : Prop := layShortUptoRow.holds Try.pinned (OpenSpec.upto layShortSpec)

/-- 'pantographlaw01.LayStops', WHERE WHAT IT READS IS OF BULK AT MOST 1048576: true; the input reads as it did. -/
def layStopsUptoRow : OpenClaim := { program := "ytaddlkokencbkaa", sum := "1864989e34ccb3e9c5330fc452ce97e89da110bc986650eae7367fe78669eaae", func := "pantograph/pantographlaw01.LayStops", spec := "layStops", apart := false, narrowed := true }
def LayStopsUptoSaid : Prop := layStopsUptoRow.holds Try.pinned (OpenSpec.upto layStopsSpec)

end Rows
end Go.Proofs.Ytaddlkokencbkaa
