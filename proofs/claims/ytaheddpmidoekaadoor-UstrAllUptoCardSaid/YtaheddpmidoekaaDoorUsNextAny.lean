/- 'Next' at any place, of the program and of the document. -/
import Derived.Test.YtaheddpmidoekaaDoorUsFixed
namespace Go.Proofs.YtaheddpmidoekaaDoor
open Go.RowKit
set_option linter.unusedVariables false

theorem next_any (s : ByteArray) (a : Int) (m : Bool) (w : World) (hs : s.size ≤ maxLen) (hT : Tab w) :
    Calls Tryd.prog 12 #[.string s, .int .i64 a, .bool m] w fun e w' => e = .returned (.tuple #[.int .i64 ((nextC s a m).1 : Int), .int .i64 ((nextC s a m).2 : Int)]) ∧ Below w.heap.size w w' := by
  unfold nextC
  by_cases h : 0 ≤ a ∧ a < s.size
  · rw [if_pos h]
    obtain ⟨i, rfl⟩ := Int.eq_ofNat_of_zero_le h.1
    rw [show ((i : Int)).toNat = i from rfl]
    exact next_in s i m w hs (by omega) hT
  · rw [if_neg h]
    refine (next_out s a m w hs (by omega)).mono ?_
    rintro e w' ⟨rfl, rfl⟩
    exact ⟨rfl, Below.refl _ _⟩
theorem rnext_any (s : ByteArray) (a : Int) (m : Bool) (w : World) (hs : s.size ≤ maxLen) :
    Calls Tryd.prog 13 #[.string s, .int .i64 a, .bool m] w fun e w' => e = .returned (.tuple #[.int .i64 ((nextC s a m).1 : Int), .int .i64 ((nextC s a m).2 : Int)]) ∧ w = w' := by
  unfold nextC
  by_cases h : 0 ≤ a ∧ a < s.size
  · rw [if_pos h]
    obtain ⟨i, rfl⟩ := Int.eq_ofNat_of_zero_le h.1
    rw [show ((i : Int)).toNat = i from rfl]
    exact rnext_in s i m w hs (by omega)
  · rw [if_neg h]
    refine (rnext_out s a m w hs (by omega)).mono ?_
    rintro e w' ⟨rfl, rfl⟩
    exact ⟨rfl, rfl⟩

end Go.Proofs.YtaheddpmidoekaaDoor
