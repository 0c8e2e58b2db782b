/- In byte mode every byte is a character; the texts of the characters are as long as the string. Plain Lean. -/
import Derived.Test.YtaheddpmidoekaaDoorUsTile
namespace Go.Proofs.YtaheddpmidoekaaDoor
open Go.RowKit
set_option linter.unusedVariables false

/-- The widths of the characters at these places, together. -/
def sumP (s : ByteArray) : List Nat → Nat
  | [] => 0
  | j :: l => (chr s j false).2 + sumP s l
theorem sumP_snoc (s : ByteArray) : ∀ (l : List Nat) (x : Nat), sumP s (l ++ [x]) = sumP s l + (chr s x false).2
  | [], x => by simp [sumP]
  | j :: l, x => by
    rw [List.cons_append]
    show _ + sumP s (l ++ [x]) = _ + sumP s l + _
    rw [sumP_snoc s l x]; omega
theorem sumP_rest (s : ByteArray) : ∀ f i, s.size - i ≤ f → i ≤ s.size → sumP s (rest s false i) = s.size - i
  | 0, i, h, hi => by rw [rest_end (by omega)]; show 0 = _; omega
  | f + 1, i, h, hi => by
    by_cases hlt : i < s.size
    · have hw := chr_wide s i false hlt
      rw [rest_step hlt]
      show _ + sumP s _ = _
      rw [sumP_rest s f _ (by omega) (by omega)]; omega
    · rw [rest_end (by omega)]; show 0 = _; omega
theorem text_size (s : ByteArray) (j : Nat) (h : j < s.size) : (textB ((chr s j false).1 : Int)).size = (chr s j false).2 := by
  have hw := chr_wide s j false h
  have := extract_enc s j false h
  unfold encL at this
  simp only [Bool.false_eq_true, if_false] at this
  have h2 := congrArg List.length this
  rw [ext_list _ _ _ hw.2.1] at h2
  have h3 : (textB ((chr s j false).1 : Int)).size = (textB ((chr s j false).1 : Int)).data.toList.length := by simp
  rw [h3, ← h2]
  simp
  omega
theorem chr_four (s : ByteArray) (j : Nat) (h : j < s.size) : (chr s j false).2 ≤ 4 := by
  rcases shape s j h with ⟨_, e⟩ | ⟨_, _, _, e⟩ | ⟨_, _, _, _, _, e⟩ | ⟨_, _, _, _, _, _, e⟩ | ⟨_, _, e⟩ <;> rw [e] <;> simp
theorem sumP_four (s : ByteArray) : ∀ (l : List (Pl s)), sumP s (pls l) ≤ 4 * l.length
  | [] => by simp [pls, sumP]
  | x :: l => by
    have h1 := chr_four s x.1 x.2
    have h2 := sumP_four s l
    show (chr s x.1 false).2 + sumP s (pls l) ≤ 4 * (l.length + 1)
    omega

theorem byte_rest (s : ByteArray) : ∀ (j i : Nat), i + j < s.size → (rest s true i)[j]? = some (i + j)
  | 0, i, h => by rw [rest_step (by omega)]; simp
  | j + 1, i, h => by
    have e : (chr s i true).2 = 1 := by unfold chr; rw [if_pos rfl]
    rw [rest_step (by omega), e, List.getElem?_cons_succ, byte_rest s j (i + 1) (by omega)]
    congr 1; omega
theorem byte_len (s : ByteArray) : ∀ f i, s.size - i ≤ f → (rest s true i).length = s.size - i
  | 0, i, h => by rw [rest_end (by omega)]; simp; omega
  | f + 1, i, h => by
    by_cases hlt : i < s.size
    · have e : (chr s i true).2 = 1 := by unfold chr; rw [if_pos rfl]
      rw [rest_step hlt, e, List.length_cons, byte_len s f (i + 1) (by omega)]; omega
    · rw [rest_end (by omega)]; simp; omega
theorem byte_places (s : ByteArray) : (places s true).length = s.size := byte_len s s.size 0 (by omega)
theorem byte_whole (s : ByteArray) : subV s true 1 ((s.size : Int) + 1) = s := by
  obtain ⟨q, C⟩ := cut s true ((s.size : Int) + 1) (by omega) (by rw [byte_places]; omega)
  have hq := C.eq (by rw [byte_places]; omega)
  have h1 := C.cat
  have hb : (subV s true ((s.size : Int) + 1) (((places s true).length : Int) + 1)) = ⟨#[]⟩ := by
    have hz := C.bsize
    generalize subV s true ((s.size : Int) + 1) (((places s true).length : Int) + 1) = b at *
    cases b with
    | mk d => congr 1; exact Array.eq_empty_of_size_eq_zero (by have : d.size = s.size - q := hz; omega)
  rw [hb] at h1
  exact (ByteArray.append_empty).symm.trans h1
theorem byte_index (s t : ByteArray) : (t.size = 0 → idxV (s ++ t) t true = 0) ∧ (t.size ≠ 0 → 1 ≤ idxV (s ++ t) t true ∧ idxV (s ++ t) t true ≤ s.size + 1) := by
  refine ⟨fun h => if_pos h, fun h => ?_⟩
  have hz : (s ++ t).size = s.size + t.size := ByteArray.size_append
  have hp : (places (s ++ t) true)[s.size]? = some s.size := by
    have := byte_rest (s ++ t) s.size 0 (by omega)
    rw [Nat.zero_add] at this; exact this
  have := idxL_le (s ++ t) t (places (s ++ t) true) s.size s.size 0 hp ⟨by omega, by
    rw [← hz]
    have := ByteArray.extract_append_eq_right (a := s) (b := t) (i := s.size) (j := (s ++ t).size) rfl hz
    exact this⟩
  have h4 : idxV (s ++ t) t true = idxL (s ++ t) t (places (s ++ t) true) 0 := if_neg h
  rw [h4]; omega

end Go.Proofs.YtaheddpmidoekaaDoor
