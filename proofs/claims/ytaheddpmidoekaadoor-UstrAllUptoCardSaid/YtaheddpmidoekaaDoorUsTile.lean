/- A string cut between two characters: the parts, their lengths, the place of the second. Plain Lean. -/
import Derived.Test.YtaheddpmidoekaaDoorUsLaw3
import Derived.Test.YtaheddpmidoekaaDoorUsIndex
import Derived.Test.YtaheddpmidoekaaDoorUsLaw1
namespace Go.Proofs.YtaheddpmidoekaaDoor
open Go.RowKit
set_option linter.unusedVariables false

theorem idxL_le (s t : ByteArray) : ∀ (l : List Nat) (j x k : Nat), l[j]? = some x → pre s x t → k + 1 ≤ idxL s t l k ∧ idxL s t l k ≤ k + j + 1
  | [], j, x, k, h, _ => by simp at h
  | y :: l, 0, x, k, h, hp => by
    simp at h; subst h
    show k + 1 ≤ (if pre s y t then _ else _) ∧ (if pre s y t then _ else _) ≤ _
    rw [if_pos hp]; omega
  | y :: l, j + 1, x, k, h, hp => by
    simp at h
    have ih := idxL_le s t l j x (k + 1) h hp
    show k + 1 ≤ (if pre s y t then _ else _) ∧ (if pre s y t then _ else _) ≤ _
    split <;> omega

/-- What the cut gives. -/
structure Cut (s : ByteArray) (m : Bool) (n : Int) (a b : ByteArray) (q : Nat) : Prop where
  size : a.size = q
  bsize : b.size = s.size - q
  le : q ≤ s.size
  cat : a ++ b = s
  pv : placeV s m n = ((q : Int), true)
  la : ((places a m).length : Int) = n - 1
  lb : ((places b m).length : Int) = (places s m).length + 1 - n
  lt : n ≤ (places s m).length → q < s.size
  eq : ((places s m).length : Int) < n → q = s.size
  ib : b.size = 0 → idxV s b m = 0
  ic : b.size ≠ 0 → 1 ≤ idxV s b m ∧ (idxV s b m : Int) ≤ n
theorem cut (s : ByteArray) (m : Bool) (n : Int) (h1 : 1 ≤ n) (h2 : n ≤ ((places s m).length : Int) + 1) : ∃ q : Nat, Cut s m n (subV s m 1 n) (subV s m n (((places s m).length : Int) + 1)) q := by
  obtain ⟨j, hj⟩ : ∃ j : Nat, n = (j : Int) + 1 := ⟨(n - 1).toNat, by omega⟩
  subst hj
  have hsl := starts_len s m
  have hjl : j ≤ (places s m).length := by omega
  have aj : (starts s m)[j]? = some ((starts s m).getD j 0) := by rw [List.getD_eq_getElem?_getD, List.getElem?_eq_getElem (by omega)]; rfl
  have hpl := (rest_pair s m s.size 0 (by omega) (by omega)).2
  have hlast : (starts s m)[(places s m).length]? = some s.size := by unfold starts; rw [List.getElem?_append_right (Nat.le_refl _)]; simp
  have hz := starts_zero s m
  have hq : (starts s m).getD j 0 ≤ s.size := (hpl _ (List.mem_of_getElem? aj)).2
  have hd0 : (starts s m).getD 0 0 = 0 := by rw [List.getD_eq_getElem?_getD, hz]; rfl
  have hdl : (starts s m).getD (places s m).length 0 = s.size := by rw [List.getD_eq_getElem?_getD, hlast]; rfl
  have hpv : placeV s m ((j : Int) + 1) = ((((starts s m).getD j 0 : Nat) : Int), true) := by
    unfold placeV; rw [if_pos (by omega), show ((j : Int) + 1 - 1).toNat = j by omega]
  have hlt : j < (places s m).length → (starts s m).getD j 0 < s.size := by
    intro h
    have h' : (places s m)[j]? = some ((starts s m).getD j 0) := by
      rw [← aj]; unfold starts; rw [List.getElem?_append_left h]
    exact rest_lt s m s.size 0 (by omega) _ (List.mem_of_getElem? h')
  have hpp : j < (places s m).length → (places s m)[j]? = some ((starts s m).getD j 0) := by
    intro h
    rw [← aj]; unfold starts; rw [List.getElem?_append_left h]
  have heq : j = (places s m).length → (starts s m).getD j 0 = s.size := by rintro rfl; exact hdl
  have ha : subV s m 1 ((j : Int) + 1) = s.extract 0 ((starts s m).getD j 0) := by
    unfold subV
    by_cases h0 : j = 0
    · subst h0
      rw [if_pos (by omega), hd0, ext_empty _ _ _ (Nat.le_refl _)]
    · rw [if_neg (by omega), show (max (1 : Int) 1 - 1).toNat = 0 by omega, hd0, hsl, show (min ((j : Int) + 1) (((places s m).length + 1 : Nat) : Int) - 1).toNat = j by omega]
  have hb : subV s m ((j : Int) + 1) (((places s m).length : Int) + 1) = s.extract ((starts s m).getD j 0) s.size := by
    unfold subV
    by_cases h0 : j = (places s m).length
    · rw [if_pos (by rw [hsl]; omega), heq h0, ext_empty _ _ _ (Nat.le_refl _)]
    · rw [if_neg (by rw [hsl]; omega), show (max ((j : Int) + 1) 1 - 1).toNat = j by omega, hsl, show (min (((places s m).length : Int) + 1) (((places s m).length + 1 : Nat) : Int) - 1).toNat = (places s m).length by omega, hdl]
  have hr := rest_drop s m j 0 ((starts s m).getD j 0) (Nat.zero_le _) aj
  have hp := rest_pre s m ((starts s m).getD j 0) hq j 0 (Nat.zero_le _) aj
  have ht := rest_tail s ((starts s m).getD j 0) m hq _ 0 (Nat.le_refl _)
  rw [ha, hb]
  generalize (starts s m).getD j 0 = q at *
  have e : (s.extract q s.size).size = s.size - q := by rw [ByteArray.size_extract]; omega
  have e2 : s.extract 0 q ++ s.extract q s.size = s := by
    rw [ByteArray.extract_append_extract]
    rw [show min 0 q = 0 by omega, show max q s.size = s.size by omega]
    exact ByteArray.extract_zero_size
  refine ⟨q, pre_size s q hq, e, hq, e2, hpv, ?_, ?_, fun h => hlt (by omega), fun h => heq (by omega), fun h => if_pos h, fun h => ?_⟩
  · show ((rest (s.extract 0 q) m 0).length : Int) = _
    rw [hp]; omega
  · show ((rest (s.extract q s.size) m 0).length : Int) = _
    have : (places s m).length = j + (rest s m q).length := hr
    rw [ht, this, Nat.add_zero]; omega
  · have hj' : j < (places s m).length := by
      rcases Nat.lt_or_ge j (places s m).length with h3 | h3
      · exact h3
      · have := heq (by omega); omega
    have := idxL_le s (s.extract q s.size) (places s m) j q 0 (hpp hj') ⟨by omega, by rw [e, show q + (s.size - q) = s.size by omega]⟩
    have h4 : idxV s (s.extract q s.size) m = idxL s (s.extract q s.size) (places s m) 0 := if_neg h
    rw [h4]; omega

/-- The character at the cut and its bytes. -/
theorem cut_text (s : ByteArray) (q : Nat) (h : q < s.size) : (textB ((nextC s q false).1 : Int)) = s.extract q (q + (nextC s q false).2) := by
  have e : nextC s q false = chr s q false := by unfold nextC; rw [if_pos (by omega)]; rfl
  rw [e]
  have := extract_enc s q false h
  unfold encL at this
  simp only [Bool.false_eq_true, if_false] at this
  cases hx : textB ((chr s q false).1 : Int)
  cases hy : s.extract q (q + (chr s q false).2)
  rw [hx, hy] at this
  congr 1
  apply Array.toList_inj.1
  exact this.symm
theorem cut_wide (s : ByteArray) (q : Nat) (m : Bool) (h : q < s.size) : (nextC s q m).2 + q ≤ s.size ∧ 1 ≤ (nextC s q m).2 ∧ (nextC s q m).1 < 1114368 := by
  have e : nextC s q m = chr s q m := by unfold nextC; rw [if_pos (by omega)]; rfl
  rw [e]
  have := chr_wide s q m h
  omega
theorem cut_out (s : ByteArray) (m : Bool) : nextC s s.size m = (0, 0) := by unfold nextC; rw [if_neg (by omega)]

end Go.Proofs.YtaheddpmidoekaaDoor
