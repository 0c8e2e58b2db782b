/-
  No cell of these rows narrows 'for every input' (looked for: loops, veiled, ifaces, maps, wideKeys, modest, calm, conditions, laid).
  DERIVED. THE GIVEN ROWS OF THIS SEAT. 4 by the template 'for every input the law returns true; each argument reads behind the call as it read before'; 0 by the template 'total and deterministic' (their statements: YtbpaiocbgbpiaaaTotals.lean).
  GIVEN WITH THE SEED: the statements are not yours to turn. If you find one false, say at which input.
  Laid BY PROGRAM, IN A SANDBOX (cutbox-rows.mjs): the forced cells as the released guide's own fill.sh prints them over the translation 19ba7aa8c02de261… (all of the seat's roots in one cut). By AI agents, Wed Nov 11 2026. No macro, syntax, notation, axiom, sorry.
-/
import Derived.Test.YtbpaiocbgbpiaaaChecked
import GoSem.Claim
import GoSem.ClaimJoined
import GoSem.ClaimMapViews
import Derived.JoinedTies
import Derived.KernelRfl
namespace Go.Proofs.Ytbpaiocbgbpiaaa
/- THE CELL 'sum', in the pinned program and in every row, IS THE sha256 OF THE DUMP (.gsa) THAT YtbpaiocbgbpiaaaProg.lean LOADS. Nothing in Lean hashes anything: it is a label: what it is worth is what the hold of that sum in a sandbox is worth. -/
noncomputable def Try.pinned : Pinned := { name := "ytbpaiocbgbpiaaa", sum := "19ba7aa8c02de261f2e43f8a4d694379c33f7ac1c03b15d6af5846b6e80ce9ca", checked := Try.checked }
namespace Rows
def none {H : Type} : Left H := { results := [], args := [] }

/-- 'thresherlaw24.FrameBinds': WHATEVER THE INPUT: true; the input reads as it did. -/
def frameBindsSpec : ChangeSpec := { name := "frameBinds", fn := fun _ => fun
  | [d1, d2] => { results := [.lit (.bool true)], args := [d1, d2] }
  | _ => none }
def frameBindsRow : OpenClaim := { program := "ytbpaiocbgbpiaaa", sum := "19ba7aa8c02de261f2e43f8a4d694379c33f7ac1c03b15d6af5846b6e80ce9ca", func := "thresher/thresherlaw24.FrameBinds", spec := "frameBinds", recurses := true, apart := false }
def FrameBindsSaid : Prop := frameBindsRow.holds Try.pinned (OpenSpec.ofChange frameBindsSpec)

/-- ITS FALSE NEIGHBOUR: 'it returns false'. Refute it at one input. -/
def frameBindsWrong : ChangeSpec := { name := "frameBinds", fn := fun _ => fun
  | [d1, d2] => { results := [.lit (.bool false)], args := [d1, d2] }
  | _ => none }
def FrameBindsWrongFalsely : Prop := frameBindsRow.holds Try.pinned (OpenSpec.ofChange frameBindsWrong)

/-- 'thresherlaw24.FrameHides': WHATEVER THE INPUT: true; the input reads as it did. -/
def frameHidesSpec : ChangeSpec := { name := "frameHides", fn := fun _ => fun
  | [d] => { results := [.lit (.bool true)], args := [d] }
  | _ => none }
def frameHidesRow : OpenClaim := { program := "ytbpaiocbgbpiaaa", sum := "19ba7aa8c02de261f2e43f8a4d694379c33f7ac1c03b15d6af5846b6e80ce9ca", func := "thresher/thresherlaw24.FrameHides", spec := "frameHides", recurses := true, apart := false }
def FrameHidesSaid : Prop := frameHidesRow.holds Try.pinned (OpenSpec.ofChange frameHidesSpec)

/-- ITS FALSE NEIGHBOUR: 'it returns false'. Refute it at one input. -/
def frameHidesWrong : ChangeSpec := { name := "frameHides", fn := fun _ => fun
  | [d] => { results := [.lit (.bool false)], args := [d] }
  | _ => none }
def FrameHidesWrongFalsely : Prop := frameHidesRow.holds Try.pinned (OpenSpec.ofChange frameHidesWrong)

/-- 'thresherlaw24.FrameNil': WHATEVER THE INPUT: true; the input reads as it did. -/
def frameNilSpec : ChangeSpec := { name := "frameNil", fn := fun _ => fun
  | [d] => { results := [.lit (.bool true)], args := [d] }
  | _ => none }
def frameNilRow : OpenClaim := { program := "ytbpaiocbgbpiaaa", sum := "19ba7aa8c02de261f2e43f8a4d694379c33f7ac1c03b15d6af5846b6e80ce9ca", func := "thresher/thresherlaw24.FrameNil", spec := "frameNil", inPlace := ["math.Float64bits"], recurses := true, apart := false }
def FrameNilSaid : Prop := frameNilRow.holds Try.pinned (OpenSpec.ofChange frameNilSpec)

/-- ITS FALSE NEIGHBOUR: 'it returns false'. Refute it at one input. -/
def frameNilWrong : ChangeSpec := { name := "frameNil", fn := fun _ => fun
  | [d] => { results := [.lit (.bool false)], args := [d] }
  | _ => none }
def FrameNilWrongFalsely : Prop := frameNilRow.holds Try.pinned (OpenSpec.ofChange frameNilWrong)

/-- 'thresherlaw24.FramePlays': WHATEVER THE INPUT: true; the input reads as it did. -/
def framePlaysSpec : ChangeSpec := { name := "framePlays", fn := fun _ => fun
  | [d] => { results := [.lit (.bool true)], args := [d] }
  | _ => none }
def framePlaysRow : OpenClaim := { program := "ytbpaiocbgbpiaaa", sum := "19ba7aa8c02de261f2e43f8a4d694379c33f7ac1c03b15d6af5846b6e80ce9ca", func := "thresher/thresherlaw24.FramePlays", spec := "framePlays", inPlace := ["math.Float64bits", "math.Float64frombits"], recurses := true, apart := false }
def FramePlaysSaid : Prop := framePlaysRow.holds Try.pinned (OpenSpec.ofChange framePlaysSpec)

/-- ITS FALSE NEIGHBOUR: 'it returns false'. Refute it at one input. -/
def framePlaysWrong : ChangeSpec := { name := "framePlays", fn := fun _ => fun
  | [d] => { results := [.lit (.bool false)], args := [d] }
  | _ => none }
def FramePlaysWrongFalsely : Prop := framePlaysRow.holds Try.pinned (OpenSpec.ofChange framePlaysWrong)

/- THE SECOND FORM. 'bulk': how many values and letters a reading holds, each counted each time it is reached (what is shared counts as often as it is met; a slice's spare places count too). A statement '..UptoSaid' is the law's where the arguments, and the package variables that the reading takes, are together of bulk at most 1048576: NARROWER than '..Said'. Prove '..Said' where nothing that the law and all that it calls make is longer than what came in: it says more and counts as full. Else prove '..UptoSaid'. A law counts once. -/
mutual
def uptoBulk {H : Type} : DataW H → Nat
  | .lit (.string bytes) => bytes.length + 1
  | .lit _ => 1
  | .nil => 1
  | .ptr d => uptoBulk d + 1
  | .slice elems spare => uptoBulkAll elems + uptoBulkAll spare + 1
  | .agg parts => uptoBulkAll parts + 1
  | .iface _ d => uptoBulk d + 1
  | .map entries => uptoBulkEntries entries + 1
  | .held _ => 1
def uptoBulkAll {H : Type} : List (DataW H) → Nat
  | [] => 0
  | d :: r => uptoBulk d + uptoBulkAll r
def uptoBulkEntries {H : Type} : List (Lit × DataW H) → Nat
  | [] => 0
  | x :: r => uptoBulkEntry x + uptoBulkEntries r
def uptoBulkEntry {H : Type} : Lit × DataW H → Nat
  | (.string bytes, d) => bytes.length + uptoBulk d + 1
  | (_, d) => uptoBulk d + 1
 end
def uptoSmall : (H : Type) → List (DataW H) → Bool := fun _ ds => decide (uptoBulkAll ds ≤ 1048576)
def OpenSpec.upto (s : _root_.Go.ChangeSpec) : _root_.Go.OpenSpec := { _root_.Go.OpenSpec.ofChange s with cond := some uptoSmall }

/-- 'thresherlaw24.FrameBinds', WHERE WHAT IT READS IS OF BULK AT MOST 1048576: true; the input reads as it did. -/
def frameBindsUptoRow : OpenClaim := { program := "ytbpaiocbgbpiaaa", sum := "19ba7aa8c02de261f2e43f8a4d694379c33f7ac1c03b15d6af5846b6e80ce9ca", func := "thresher/thresherlaw24.FrameBinds", spec := "frameBinds", recurses := true, apart := false, narrowed := true }
def FrameBindsUptoSaid : Prop := frameBindsUptoRow.holds Try.pinned (OpenSpec.upto frameBindsSpec)

/-- 'thresherlaw24.FrameHides', WHERE WHAT IT READS IS OF BULK AT MOST 1048576: true; the input reads as it did. -/
def frameHidesUptoRow : OpenClaim := { program := "ytbpaiocbgbpiaaa", sum := "19ba7aa8c02de261f2e43f8a4d694379c33f7ac1c03b15d6af5846b6e80ce9ca", func := "thresher/thresherlaw24.FrameHides", spec := "frameHides", recurses := true, apart := false, narrowed := true }
def FrameHidesUptoSaid : Prop := frameHidesUptoRow.holds Try.pinned (OpenSpec.upto frameHidesSpec)

/-- 'thresherlaw24.FrameNil', WHERE WHAT IT READS IS OF BULK AT MOST 1048576: true; the input reads as it did. -/
def frameNilUptoRow : OpenClaim := { program := "ytbpaiocbgbpiaaa", sum := "19ba7aa8c02de261f2e43f8a4d694379c33f7ac1c03b15d6af5846b6e80ce9ca", func := "thresher/thresherlaw24.FrameNil", spec := "frameNil", inPlace := ["math.Float64bits"], recurses := true, apart := false, narrowed := true }
def FrameNilUptoSaid : Prop := frameNilUptoRow.holds Try.pinned (OpenSpec.upto frameNilSpec)

/-- 'thresherlaw24.FramePlays', WHERE WHAT IT READS IS OF BULK AT MOST 1048576: true; the input reads as it did. -/
def framePlaysUptoRow : OpenClaim := { program := "ytbpaiocbgbpiaaa", sum := "19ba7aa8c02de261f2e43f8a4d694379c33f7ac1c03b15d6af5846b6e80ce9ca", func := "thresher/thresherlaw24.FramePlays", spec := "framePlays", inPlace := ["math.Float64bits", "math.Float64frombits"], recurses := true, apart := false, narrowed := true }
def FramePlaysUptoSaid : Prop := framePlaysUptoRow.holds Try.pinned (OpenSpec.upto framePlaysSpec)

end Rows
end Go.Proofs.Ytbpaiocbgbpiaaa
