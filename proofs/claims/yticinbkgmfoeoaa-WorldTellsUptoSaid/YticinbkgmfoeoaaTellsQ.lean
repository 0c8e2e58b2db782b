/- What WorldTells compares, in plain words. -/
import Derived.Test.YticinbkgmfoeoaaTellsP
namespace Go.Proofs.Yticinbkgmfoeoaa
open Go.RowKit
set_option linter.unusedVariables false

/-- All the bytes of these chunks, one behind the other. -/
def joinB (xs : List ByteArray) : ByteArray := xs.foldl (· ++ ·) ⟨#[]⟩
def sumB (xs : List ByteArray) : Nat := (xs.map ByteArray.size).sum
theorem joinB_snoc (xs : List ByteArray) (x : ByteArray) : joinB (xs ++ [x]) = joinB xs ++ x := by simp [joinB]
theorem sumB_snoc (xs : List ByteArray) (x : ByteArray) : sumB (xs ++ [x]) = sumB xs + x.size := by simp [sumB]
theorem joinB_size (xs : List ByteArray) : (joinB xs).size = sumB xs := by
  suffices h : ∀ (a : ByteArray), (xs.foldl (· ++ ·) a).size = a.size + sumB xs by
    have := h ⟨#[]⟩
    unfold joinB
    rw [this]
    simp [ByteArray.size]
  induction xs with
  | nil => intro a; simp [sumB]
  | cons x xs ih =>
    intro a
    rw [List.foldl_cons, ih, ByteArray.size_append]
    simp [sumB]
    omega
/-- What the acts of kind 5 under this name, and of kind 1 under none, hold. -/
def told (k : Int) (nm : ByteArray) (l : List AT) : List ByteArray := (l.filter (fun a => decide (a.1 = k ∧ a.2.1 = nm))).map (fun a => a.2.2)
theorem told_snoc (k : Int) (nm : ByteArray) (l : List AT) (a : AT) : told k nm (l ++ [a]) = if a.1 = k ∧ a.2.1 = nm then told k nm l ++ [a.2.2] else told k nm l := by
  unfold told
  rw [List.filter_append, List.map_append]
  by_cases h : a.1 = k ∧ a.2.1 = nm
  · rw [if_pos h]
    have h1 := h.1
    have h2 := h.2
    simp [h1, h2]
  · rw [if_neg h]
    simp [h]
theorem told_two (nm : ByteArray) (xs : List ByteArray) : told 5 nm (tA nm xs) = xs := by
  unfold tA
  split
  · next h => subst h; rfl
  · next h =>
    clear h
    unfold told
    rw [List.filter_cons, if_neg (by simp)]
    induction xs with
    | nil => rfl
    | cons x xs ih => simp at ih ⊢; exact ih
theorem told_one (nm : ByteArray) (xs : List ByteArray) : told 1 ⟨#[]⟩ (tA nm xs) = xs := by
  unfold tA
  split
  · next h => subst h; rfl
  · next h =>
    clear h
    unfold told
    rw [List.filter_cons, if_neg (by simp)]
    induction xs with
    | nil => rfl
    | cons x xs ih => simp at ih ⊢; exact ih

end Go.Proofs.Yticinbkgmfoeoaa
