/-
  No cell of these rows narrows 'for every input' (looked for: loops, veiled, ifaces, maps, wideKeys, modest, calm, conditions, laid).
  DERIVED. THE GIVEN ROWS OF THIS SEAT. 4 by the template 'for every input the law returns true; each argument reads behind the call as it read before'; 0 by the template 'total and deterministic' (their statements: YtbkfnmmfjpaifaaTotals.lean).
  GIVEN WITH THE SEED: the statements are not yours to turn. If you find one false, say at which input.
  Laid BY PROGRAM, IN A SANDBOX (cutbox-rows.mjs): the forced cells as the released guide's own fill.sh prints them over the translation 98cc8f26273fb4d0… (all of the seat's roots in one cut). By AI agents, Wed Nov 11 2026. No macro, syntax, notation, axiom, sorry.
-/
import Derived.Test.YtbkfnmmfjpaifaaChecked
import GoSem.Claim
import GoSem.ClaimJoined
import GoSem.ClaimMapViews
import Derived.JoinedTies
import Derived.KernelRfl
namespace Go.Proofs.Ytbkfnmmfjpaifaa
/- THE CELL 'sum', in the pinned program and in every row, IS THE sha256 OF THE DUMP (.gsa) THAT YtbkfnmmfjpaifaaProg.lean LOADS. Nothing in Lean hashes anything: it is a label: what it is worth is what the hold of that sum in a sandbox is worth. -/
noncomputable def Try.pinned : Pinned := { name := "ytbkfnmmfjpaifaa", sum := "98cc8f26273fb4d03e3dcb53365d9beb81909ffee1d602b3bfdcd6287961aaae", checked := Try.checked }
namespace Rows
def none {H : Type} : Left H := { results := [], args := [] }

/-- 'thresherlaw14.DiceRolls': WHATEVER THE INPUT: true; the input reads as it did. -/
def diceRollsSpec : ChangeSpec := { name := "diceRolls", fn := fun _ => fun
  | [d1, d2] => { results := [.lit (.bool true)], args := [d1, d2] }
  | _ => none }
def diceRollsRow : OpenClaim := { program := "ytbkfnmmfjpaifaa", sum := "98cc8f26273fb4d03e3dcb53365d9beb81909ffee1d602b3bfdcd6287961aaae", func := "thresher/thresherlaw14.DiceRolls", spec := "diceRolls", inPlace := ["math.Float64bits", "math.Float64frombits"], unfollowed := true, recurses := true, apart := false }
def DiceRollsSaid : Prop := diceRollsRow.holds Try.pinned (OpenSpec.ofChange diceRollsSpec)

/-- ITS FALSE NEIGHBOUR: 'it returns false'. Refute it at one input. -/
def diceRollsWrong : ChangeSpec := { name := "diceRolls", fn := fun _ => fun
  | [d1, d2] => { results := [.lit (.bool false)], args := [d1, d2] }
  | _ => none }
def DiceRollsWrongFalsely : Prop := diceRollsRow.holds Try.pinned (OpenSpec.ofChange diceRollsWrong)

/-- 'thresherlaw14.DiceApart': WHATEVER THE INPUT: true; the input reads as it did. -/
def diceApartSpec : ChangeSpec := { name := "diceApart", fn := fun _ => fun
  | [d1, d2] => { results := [.lit (.bool true)], args := [d1, d2] }
  | _ => none }
def diceApartRow : OpenClaim := { program := "ytbkfnmmfjpaifaa", sum := "98cc8f26273fb4d03e3dcb53365d9beb81909ffee1d602b3bfdcd6287961aaae", func := "thresher/thresherlaw14.DiceApart", spec := "diceApart", inPlace := ["math.Float64bits", "math.Float64frombits"], unfollowed := true, recurses := true, apart := false }
def DiceApartSaid : Prop := diceApartRow.holds Try.pinned (OpenSpec.ofChange diceApartSpec)

/-- ITS FALSE NEIGHBOUR: 'it returns false'. Refute it at one input. -/
def diceApartWrong : ChangeSpec := { name := "diceApart", fn := fun _ => fun
  | [d1, d2] => { results := [.lit (.bool false)], args := [d1, d2] }
  | _ => none }
def DiceApartWrongFalsely : Prop := diceApartRow.holds Try.pinned (OpenSpec.ofChange diceApartWrong)

/-- 'thresherlaw14.DiceLogic': WHATEVER THE INPUT: true; the input reads as it did. -/
def diceLogicSpec : ChangeSpec := { name := "diceLogic", fn := fun _ => fun
  | [d1, d2] => { results := [.lit (.bool true)], args := [d1, d2] }
  | _ => none }
def diceLogicRow : OpenClaim := { program := "ytbkfnmmfjpaifaa", sum := "98cc8f26273fb4d03e3dcb53365d9beb81909ffee1d602b3bfdcd6287961aaae", func := "thresher/thresherlaw14.DiceLogic", spec := "diceLogic", inPlace := ["math.Float64bits", "math.Float64frombits"], unfollowed := true, recurses := true, apart := false }
def DiceLogicSaid : Prop := diceLogicRow.holds Try.pinned (OpenSpec.ofChange diceLogicSpec)

/-- ITS FALSE NEIGHBOUR: 'it returns false'. Refute it at one input. -/
def diceLogicWrong : ChangeSpec := { name := "diceLogic", fn := fun _ => fun
  | [d1, d2] => { results := [.lit (.bool false)], args := [d1, d2] }
  | _ => none }
def DiceLogicWrongFalsely : Prop := diceLogicRow.holds Try.pinned (OpenSpec.ofChange diceLogicWrong)

/-- 'thresherlaw14.DiceBits': WHATEVER THE INPUT: true; the input reads as it did. -/
def diceBitsSpec : ChangeSpec := { name := "diceBits", fn := fun _ => fun
  | [d1, d2] => { results := [.lit (.bool true)], args := [d1, d2] }
  | _ => none }
def diceBitsRow : OpenClaim := { program := "ytbkfnmmfjpaifaa", sum := "98cc8f26273fb4d03e3dcb53365d9beb81909ffee1d602b3bfdcd6287961aaae", func := "thresher/thresherlaw14.DiceBits", spec := "diceBits", inPlace := ["math.Float64bits", "math.Float64frombits"], unfollowed := true, recurses := true, apart := false }
def DiceBitsSaid : Prop := diceBitsRow.holds Try.pinned (OpenSpec.ofChange diceBitsSpec)

/-- ITS FALSE NEIGHBOUR: 'it returns false'. Refute it at one input. -/
def diceBitsWrong : ChangeSpec := { name := "diceBits", fn := fun _ => fun
  | [d1, d2] => { results := [.lit (.bool false)], args := [d1, d2] }
  | _ => none }
def DiceBitsWrongFalsely : Prop := diceBitsRow.holds Try.pinned (OpenSpec.ofChange diceBitsWrong)

/- THE SECOND FORM. 'bulk': how many values and letters a reading holds, each counted each time it is reached (what is shared counts as often as it is met; a slice's spare places count too). A statement '..UptoSaid' is the law's where the arguments, and the package variables that the reading takes, are together of bulk at most 1048576: NARROWER than '..Said'. Prove '..Said' where nothing that the law and all that it calls make is longer than what came in: it says more and counts as full. Else prove '..UptoSaid'. A law counts once. -/
mutual
def uptoBulk {H : Type} : DataW H → Nat
  | .lit (.string bytes) => bytes.length + 1
  | .lit _ => 1
  | .nil => 1
  | .ptr d => uptoBulk d + 1
  | .slice elems spare => uptoBulkAll elems + uptoBulkAll spare + 1
  | .agg parts => uptoBulkAll parts + 1
  | .iface _ d => uptoBulk d + 1
  | .map entries => uptoBulkEntries entries + 1
  | .held _ => 1
def uptoBulkAll {H : Type} : List (DataW H) → Nat
  | [] => 0
  | d :: r => uptoBulk d + uptoBulkAll r
def uptoBulkEntries {H : Type} : List (Lit × DataW H) → Nat
  | [] => 0
  | x :: r => uptoBulkEntry x + uptoBulkEntries r
def uptoBulkEntry {H : Type} : Lit × DataW H → Nat
  | (.string bytes, d) => bytes.length + uptoBulk d + 1
  | (_, d) => uptoBulk d + 1
 end
def uptoSmall : (H : Type) → List (DataW H) → Bool := fun _ ds => decide (uptoBulkAll ds ≤ 1048576)
def OpenSpec.upto (s : _root_.Go.ChangeSpec) : _root_.Go.OpenSpec := { _root_.Go.OpenSpec.ofChange s with cond := some uptoSmall }

/-- 'thresherlaw14.DiceRolls', WHERE WHAT IT READS IS OF BULK AT MOST 1048576: true; the input reads as it did. -/
def diceRollsUptoRow : OpenClaim := { program := "ytbkfnmmfjpaifaa", sum := "98cc8f26273fb4d03e3dcb53365d9beb81909ffee1d602b3bfdcd6287961aaae", func := "thresher/thresherlaw14.DiceRolls", spec := "diceRolls", inPlace := ["math.Float64bits", "math.Float64frombits"], unfollowed := true, recurses := true, apart := false, narrowed := true }
def DiceRollsUptoSaid : Prop := diceRollsUptoRow.holds Try.pinned (OpenSpec.upto diceRollsSpec)

/-- 'thresherlaw14.DiceApart', WHERE WHAT IT READS IS OF BULK AT MOST 1048576: true; the input reads as it did. -/
def diceApartUptoRow : OpenClaim := { program := "ytbkfnmmfjpaifaa", sum := "98cc8f26273fb4d03e3dcb53365d9beb81909ffee1d602b3bfdcd6287961aaae", func := "thresher/thresherlaw14.DiceApart", spec := "diceApart", inPlace := ["math.Float64bits", "math.Float64frombits"], unfollowed := true, recurses := true, apart := false, narrowed := true }
def DiceApartUptoSaid : Prop := diceApartUptoRow.holds Try.pinned (OpenSpec.upto diceApartSpec)

/-- 'thresherlaw14.DiceLogic', WHERE WHAT IT READS IS OF BULK AT MOST 1048576: true; the input reads as it did. -/
def diceLogicUptoRow : OpenClaim := { program := "ytbkfnmmfjpaifaa", sum := "98cc8f26273fb4d03e3dcb53365d9beb81909ffee1d602b3bfdcd6287961aaae", func := "thresher/thresherlaw14.DiceLogic", spec := "diceLogic", inPlace := ["math.Float64bits", "math.Float64frombits"], unfollowed := true, recurses := true, apart := false, narrowed := true }
def DiceLogicUptoSaid : Prop := diceLogicUptoRow.holds Try.pinned (OpenSpec.upto diceLogicSpec)

/-- 'thresherlaw14.DiceBits', WHERE WHAT IT READS IS OF BULK AT MOST 1048576: true; the input reads as it did. -/
def diceBitsUptoRow : OpenClaim := { program := "ytbkfnmmfjpaifaa", sum := "98cc8f26273fb4d03e3dcb53365d9beb81909ffee1d602b3bfdcd6287961aaae", func := "thresher/thresherlaw14.DiceBits", spec := "diceBits", inPlace := ["math.Float64bits", "math.Float64frombits"], unfollowed := true, recurses := true, apart := false, narrowed := true }
def DiceBitsUptoSaid : Prop := diceBitsUptoRow.holds Try.pinned (OpenSpec.upto diceBitsSpec)

end Rows
end Go.Proofs.Ytbkfnmmfjpaifaa
