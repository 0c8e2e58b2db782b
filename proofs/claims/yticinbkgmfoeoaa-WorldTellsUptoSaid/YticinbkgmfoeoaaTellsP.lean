/- What WorldTells does, in plain words: its acts. -/
import Derived.Test.YticinbkgmfoeoaaWdWE
namespace Go.Proofs.Yticinbkgmfoeoaa
open Go.RowKit
set_option linter.unusedVariables false

/-- The acts after these chunks. -/
def tA (nm : ByteArray) (xs : List ByteArray) : List AT := if xs = [] then [] else (2, nm, ⟨#[]⟩) :: xs.flatMap (fun x => [(5, nm, x), (1, ⟨#[]⟩, x)])
def tO (nm : ByteArray) (xs : List ByteArray) : List ST := if xs = [] then [] else [(false, nm)]
/-- The acts with one chunk written to the file alone. -/
def tB (nm : ByteArray) (xs : List ByteArray) (x : ByteArray) : List AT := if xs = [] then [(2, nm, ⟨#[]⟩), (5, nm, x)] else tA nm xs ++ [(5, nm, x)]
theorem tA_snoc (nm : ByteArray) (xs : List ByteArray) (x : ByteArray) : tA nm (xs ++ [x]) = tB nm xs x ++ [(1, ⟨#[]⟩, x)] := by
  unfold tA tB
  cases xs with
  | nil => simp
  | cons y xs => simp [tA]
theorem tO_snoc (nm : ByteArray) (xs : List ByteArray) (x : ByteArray) : tO nm (xs ++ [x]) = [(false, nm)] := by
  unfold tO
  rw [if_neg (by simp)]
theorem wr_two (nm : ByteArray) (xs : List ByteArray) (x : ByteArray) (sz : Int) (h : ¬ 16384 - sz < (x.size : Int)) : wrS (tO nm xs) (tA nm xs) sz 2 nm x = (0, [(false, nm)], tB nm xs x, sz + x.size) := by
  unfold wrS
  rw [if_neg (by omega), if_neg h, if_neg (by omega)]
  cases xs with
  | nil => simp [tO, tA, tB, hasS, kO, kP]
  | cons y xs => simp [tO, tB, hasS, kP]
theorem wr_one (nm dt : ByteArray) (op : List ST) (ac : List AT) (sz : Int) (h : ¬ 16384 - sz < (dt.size : Int)) : wrS op ac sz 1 nm dt = (0, op, ac ++ [(1, ⟨#[]⟩, dt)], sz + dt.size) := by
  unfold wrS
  rw [if_neg (by omega), if_neg h, if_pos rfl]

end Go.Proofs.Yticinbkgmfoeoaa
