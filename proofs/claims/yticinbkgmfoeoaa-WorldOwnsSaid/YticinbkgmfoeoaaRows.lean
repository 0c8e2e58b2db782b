/-
  No cell of these rows narrows 'for every input' (looked for: loops, veiled, ifaces, maps, wideKeys, modest, calm, conditions, laid).
  DERIVED. THE GIVEN ROWS OF THIS SEAT. 5 by the template 'for every input the law returns true; each argument reads behind the call as it read before'; 0 by the template 'total and deterministic' (their statements: YticinbkgmfoeoaaTotals.lean).
  GIVEN WITH THE SEED: the statements are not yours to turn. If you find one false, say at which input.
  Laid BY PROGRAM, IN A SANDBOX (cutbox-rows.mjs): the forced cells as the released guide's own fill.sh prints them over the translation 32b47137c87c41c5… (all of the seat's roots in one cut). By AI agents, Wed Nov 11 2026. No macro, syntax, notation, axiom, sorry.
-/
import Derived.Test.YticinbkgmfoeoaaChecked
import GoSem.Claim
import GoSem.ClaimJoined
import GoSem.ClaimMapViews
import Derived.JoinedTies
import Derived.KernelRfl
namespace Go.Proofs.Yticinbkgmfoeoaa
/- THE CELL 'sum', in the pinned program and in every row, IS THE sha256 OF THE DUMP (.gsa) THAT YticinbkgmfoeoaaProg.lean LOADS. Nothing in Lean hashes anything: it is a label: what it is worth is what the hold of that sum in a sandbox is worth. -/
noncomputable def Try.pinned : Pinned := { name := "yticinbkgmfoeoaa", sum := "32b47137c87c41c5034ba027cc6a3b60bacc9684dae2bf2ffb5a051267598d90", checked := Try.checked }
namespace Rows
def none {H : Type} : Left H := { results := [], args := [] }

/-- 'thresherlaw15.WorldNames': WHATEVER THE INPUT: true; the input reads as it did. -/
def worldNamesSpec : ChangeSpec := { name := "worldNames", fn := fun _ => fun
  | [] => { results := [.lit (.bool true)], args := [] }
  | _ => none }
def worldNamesRow : OpenClaim := { program := "yticinbkgmfoeoaa", sum := "32b47137c87c41c5034ba027cc6a3b60bacc9684dae2bf2ffb5a051267598d90", func := "thresher/thresherlaw15.WorldNames", spec := "worldNames", apart := false }
def WorldNamesSaid : Prop := worldNamesRow.holds Try.pinned (OpenSpec.ofChange worldNamesSpec)

/-- ITS FALSE NEIGHBOUR: 'it returns false'. Refute it at one input. -/
def worldNamesWrong : ChangeSpec := { name := "worldNames", fn := fun _ => fun
  | [] => { results := [.lit (.bool false)], args := [] }
  | _ => none }
def WorldNamesWrongFalsely : Prop := worldNamesRow.holds Try.pinned (OpenSpec.ofChange worldNamesWrong)

/-- 'thresherlaw15.WorldTells': WHATEVER THE INPUT: true; the input reads as it did. -/
def worldTellsSpec : ChangeSpec := { name := "worldTells", fn := fun _ => fun
  | [d1, d2] => { results := [.lit (.bool true)], args := [d1, d2] }
  | _ => none }
def worldTellsRow : OpenClaim := { program := "yticinbkgmfoeoaa", sum := "32b47137c87c41c5034ba027cc6a3b60bacc9684dae2bf2ffb5a051267598d90", func := "thresher/thresherlaw15.WorldTells", spec := "worldTells", apart := false }
def WorldTellsSaid : Prop := worldTellsRow.holds Try.pinned (OpenSpec.ofChange worldTellsSpec)

/-- ITS FALSE NEIGHBOUR: 'it returns false'. Refute it at one input. -/
def worldTellsWrong : ChangeSpec := { name := "worldTells", fn := fun _ => fun
  | [d1, d2] => { results := [.lit (.bool false)], args := [d1, d2] }
  | _ => none }
def WorldTellsWrongFalsely : Prop := worldTellsRow.holds Try.pinned (OpenSpec.ofChange worldTellsWrong)

/-- 'thresherlaw15.WorldFull': WHATEVER THE INPUT: true; the input reads as it did. -/
def worldFullSpec : ChangeSpec := { name := "worldFull", fn := fun _ => fun
  | [d1, d2] => { results := [.lit (.bool true)], args := [d1, d2] }
  | _ => none }
def worldFullRow : OpenClaim := { program := "yticinbkgmfoeoaa", sum := "32b47137c87c41c5034ba027cc6a3b60bacc9684dae2bf2ffb5a051267598d90", func := "thresher/thresherlaw15.WorldFull", spec := "worldFull", apart := false }
def WorldFullSaid : Prop := worldFullRow.holds Try.pinned (OpenSpec.ofChange worldFullSpec)

/-- ITS FALSE NEIGHBOUR: 'it returns false'. Refute it at one input. -/
def worldFullWrong : ChangeSpec := { name := "worldFull", fn := fun _ => fun
  | [d1, d2] => { results := [.lit (.bool false)], args := [d1, d2] }
  | _ => none }
def WorldFullWrongFalsely : Prop := worldFullRow.holds Try.pinned (OpenSpec.ofChange worldFullWrong)

/-- 'thresherlaw15.WorldPlays': WHATEVER THE INPUT: true; the input reads as it did. -/
def worldPlaysSpec : ChangeSpec := { name := "worldPlays", fn := fun _ => fun
  | [d1, d2] => { results := [.lit (.bool true)], args := [d1, d2] }
  | _ => none }
def worldPlaysRow : OpenClaim := { program := "yticinbkgmfoeoaa", sum := "32b47137c87c41c5034ba027cc6a3b60bacc9684dae2bf2ffb5a051267598d90", func := "thresher/thresherlaw15.WorldPlays", spec := "worldPlays", apart := false }
def WorldPlaysSaid : Prop := worldPlaysRow.holds Try.pinned (OpenSpec.ofChange worldPlaysSpec)

/-- ITS FALSE NEIGHBOUR: 'it returns false'. Refute it at one input. -/
def worldPlaysWrong : ChangeSpec := { name := "worldPlays", fn := fun _ => fun
  | [d1, d2] => { results := [.lit (.bool false)], args := [d1, d2] }
  | _ => none }
def WorldPlaysWrongFalsely : Prop := worldPlaysRow.holds Try.pinned (OpenSpec.ofChange worldPlaysWrong)

/-- 'thresherlaw15.WorldOwns': WHATEVER THE INPUT: true; the input reads as it did. -/
def worldOwnsSpec : ChangeSpec := { name := "worldOwns", fn := fun _ => fun
  | [d1, d2] => { results := [.lit (.bool true)], args := [d1, d2] }
  | _ => none }
def worldOwnsRow : OpenClaim := { program := "yticinbkgmfoeoaa", sum := "32b47137c87c41c5034ba027cc6a3b60bacc9684dae2bf2ffb5a051267598d90", func := "thresher/thresherlaw15.WorldOwns", spec := "worldOwns", apart := false }
def WorldOwnsSaid : Prop := worldOwnsRow.holds Try.pinned (OpenSpec.ofChange worldOwnsSpec)

/-- ITS FALSE NEIGHBOUR: 'it returns false'. Refute it at one input. -/
def worldOwnsWrong : ChangeSpec := { name := "worldOwns", fn := fun _ => fun
  | [d1, d2] => { results := [.lit (.bool false)], args := [d1, d2] }
  | _ => none }
def WorldOwnsWrongFalsely : Prop := worldOwnsRow.holds Try.pinned (OpenSpec.ofChange worldOwnsWrong)

/- THE SECOND FORM. 'bulk': how many values and letters a reading holds, each counted each time it is reached (what is shared counts as often as it is met; a slice's spare places count too). A statement '..UptoSaid' is the law's where the arguments, and the package variables that the reading takes, are together of bulk at most 1048576: NARROWER than '..Said'. Prove '..Said' where nothing that the law and all that it calls make is longer than what came in: it says more and counts as full. Else prove '..UptoSaid'. A law counts once. -/
mutual
def uptoBulk {H : Type} : DataW H → Nat
  | .lit (.string bytes) => bytes.length + 1
  | .lit _ => 1
  | .nil => 1
  | .ptr d => uptoBulk d + 1
  | .slice elems spare => uptoBulkAll elems + uptoBulkAll spare + 1
  | .agg parts => uptoBulkAll parts + 1
  | .iface _ d => uptoBulk d + 1
  | .map entries => uptoBulkEntries entries + 1
  | .held _ => 1
def uptoBulkAll {H : Type} : List (DataW H) → Nat
  | [] => 0
  | d :: r => uptoBulk d + uptoBulkAll r
def uptoBulkEntries {H : Type} : List (Lit × DataW H) → Nat
  | [] => 0
  | x :: r => uptoBulkEntry x + uptoBulkEntries r
def uptoBulkEntry {H : Type} : Lit × DataW H → Nat
  | (.string bytes, d) => bytes.length + uptoBulk d + 1
  | (_, d) => uptoBulk d + 1
 end
def uptoSmall : (H : Type) → List (DataW H) → Bool := fun _ ds => decide (uptoBulkAll ds ≤ 1048576)
def OpenSpec.upto (s : _root_.Go.ChangeSpec) : _root_.Go.OpenSpec := { _root_.Go.OpenSpec.ofChange s with cond := some uptoSmall }

/-- 'thresherlaw15.WorldNames', WHERE WHAT IT READS IS OF BULK AT MOST 1048576: true; the input reads as it did. -/
def worldNamesUptoRow : OpenClaim := { program := "yticinbkgmfoeoaa", sum := "32b47137c87c41c5034ba027cc6a3b60bacc9684dae2bf2ffb5a051267598d90", func := "thresher/thresherlaw15.WorldNames", spec := "worldNames", apart := false, narrowed := true }
def WorldNamesUptoSaid : Prop := worldNamesUptoRow.holds Try.pinned (OpenSpec.upto worldNamesSpec)

/-- 'thresherlaw15.WorldTells', WHERE WHAT IT READS IS OF BULK AT MOST 1048576: true; the input reads as it did. -/
def worldTellsUptoRow : OpenClaim := { program := "yticinbkgmfoeoaa", sum := "32b47137c87c41c5034ba027cc6a3b60bacc9684dae2bf2ffb5a051267598d90", func := "thresher/thresherlaw15.WorldTells", spec := "worldTells", apart := false, narrowed := true }
def WorldTellsUptoSaid : Prop := worldTellsUptoRow.holds Try.pinned (OpenSpec.upto worldTellsSpec)

/-- 'thresherlaw15.WorldFull', WHERE WHAT IT READS IS OF BULK AT MOST 1048576: true; the input reads as it did. -/
def worldFullUptoRow : OpenClaim := { program := "yticinbkgmfoeoaa", sum := "32b47137c87c41c5034ba027cc6a3b60bacc9684dae2bf2ffb5a051267598d90", func := "thresher/thresherlaw15.WorldFull", spec := "worldFull", apart := false, narrowed := true }
def WorldFullUptoSaid : Prop := worldFullUptoRow.holds Try.pinned (OpenSpec.upto worldFullSpec)

/-- 'thresherlaw15.WorldPlays', WHERE WHAT IT READS IS OF BULK AT MOST 1048576: true; the input reads as it did. -/
def worldPlaysUptoRow : OpenClaim := { program := "yticinbkgmfoeoaa", sum := "32b47137c87c41c5034ba027cc6a3b60bacc9684dae2bf2ffb5a051267598d90", func := "thresher/thresherlaw15.WorldPlays", spec := "worldPlays", apart := false, narrowed := true }
def WorldPlaysUptoSaid : Prop := worldPlaysUptoRow.holds Try.pinned (OpenSpec.upto worldPlaysSpec)

/-- 'thresherlaw15.WorldOwns', WHERE WHAT IT READS IS OF BULK AT MOST 1048576: true; the input reads as it did. -/
def worldOwnsUptoRow : OpenClaim := { program := "yticinbkgmfoeoaa", sum := "32b47137c87c41c5034ba027cc6a3b60bacc9684dae2bf2ffb5a051267598d90", func := "thresher/thresherlaw15.WorldOwns", spec := "worldOwns", apart := false, narrowed := true }
def WorldOwnsUptoSaid : Prop := worldOwnsUptoRow.holds Try.pinned (OpenSpec.upto worldOwnsSpec)

end Rows
end Go.Proofs.Yticinbkgmfoeoaa
