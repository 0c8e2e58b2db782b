/- A string cut between two characters: both parts have the characters that they had. Plain Lean. -/
import Derived.Test.YtaheddpmidoekaaDoorUsSub
namespace Go.Proofs.YtaheddpmidoekaaDoor
open Go.RowKit
set_option linter.unusedVariables false

theorem chr_tail (s : ByteArray) (q i : Nat) (m : Bool) : chr (s.extract q s.size) i m = chr s (q + i) m := by
  unfold chr
  rw [bt_tail, Lib.tail_decode]
theorem rest_tail (s : ByteArray) (q : Nat) (m : Bool) (hq : q ≤ s.size) : ∀ f i, s.size - q - i ≤ f → (rest (s.extract q s.size) m i).length = (rest s m (q + i)).length
  | 0, i, h => by
    rw [rest_end (by rw [Lib.tail_size]; omega), rest_end (by omega)]
  | f + 1, i, h => by
    by_cases hlt : q + i < s.size
    · have hw := chr_wide s (q + i) m hlt
      rw [rest_step (by rw [Lib.tail_size]; omega), rest_step hlt, List.length_cons, List.length_cons, chr_tail, rest_tail s q m hq f _ (by omega), Nat.add_assoc]
    · rw [rest_end (by rw [Lib.tail_size]; omega), rest_end (by omega)]
theorem rest_drop (s : ByteArray) (m : Bool) : ∀ (j i q : Nat), i ≤ s.size → (rest s m i ++ [s.size])[j]? = some q → (rest s m i).length = j + (rest s m q).length
  | 0, i, q, hi, h => by
    by_cases hlt : i < s.size
    · rw [rest_step hlt] at h
      simp at h; subst h; simp
    · rw [rest_end (by omega)] at h ⊢
      simp at h; subst h
      rw [rest_end (Nat.le_refl _)]; simp
  | j + 1, i, q, hi, h => by
    by_cases hlt : i < s.size
    · have hw := chr_wide s i m hlt
      rw [rest_step hlt] at h ⊢
      rw [List.cons_append, List.getElem?_cons_succ] at h
      have := rest_drop s m j _ q (by omega) h
      rw [List.length_cons, this]; omega
    · rw [rest_end (by omega)] at h
      simp at h

theorem bt_pre (s : ByteArray) (q k : Nat) (hq : q ≤ s.size) : bt (s.extract 0 q) k = if k < q then bt s k else 0 := by
  rw [bt_list, ext_list _ _ _ hq, Nat.sub_zero, List.drop_zero, List.getElem?_take]
  split
  · rw [bt_list]
  · rfl
theorem pre_size (s : ByteArray) (q : Nat) (hq : q ≤ s.size) : (s.extract 0 q).size = q := by rw [ByteArray.size_extract]; omega
theorem chr_pre (s : ByteArray) (q i : Nat) (m : Bool) (hq : q ≤ s.size) (hi : i < q) (h : i + (chr s i m).2 ≤ q) : chr (s.extract 0 q) i m = chr s i m := by
  have hz := pre_size s q hq
  have B := fun k => bt_pre s q k hq
  cases m with
  | true => unfold chr; rw [if_pos rfl, if_pos rfl, B, if_pos hi]
  | false =>
    have h0 := bt_lt s i
    have h1' := bt_lt s (i + 1)
    have h2' := bt_lt s (i + 2)
    have h3' := bt_lt s (i + 3)
    have b0 := B i
    have b1 := B (i + 1)
    have b2 := B (i + 2)
    have b3 := B (i + 3)
    rw [if_pos hi] at b0
    have hsh := shape s i (by omega)
    rw [chr_size _ i (by rw [hz]; exact hi)]
    rcases hsh with ⟨hb, e⟩ | ⟨hb, h1, hn, e⟩ | ⟨hb, h1, h2, hn, hc, e⟩ | ⟨hb, h1, h2, h3, hn, hc, e⟩ | ⟨hb, hzz, e⟩
    · rw [show sizeAt (s.extract 0 q) i = (1, bt (s.extract 0 q) i) from size_ascii _ _ _ _ _ (by omega), e, b0]; rfl
    · rw [e] at h ⊢; simp only [] at h
      rw [if_pos (by omega)] at b1
      have e2 : sizeAt (s.extract 0 q) i = _ := size_two ((s.extract 0 q).size - i) (bt (s.extract 0 q) i) (bt (s.extract 0 q) (i + 1)) (bt (s.extract 0 q) (i + 2)) (bt (s.extract 0 q) (i + 3)) (by omega) (by omega)
      rw [hz, b0, b1, if_pos (by omega)] at e2
      rw [e2, if_neg (by simp)]
    · rw [e] at h hc ⊢; simp only [] at h hc
      rw [if_pos (by omega)] at b1 b2
      have e2 : sizeAt (s.extract 0 q) i = _ := size_three ((s.extract 0 q).size - i) (bt (s.extract 0 q) i) (bt (s.extract 0 q) (i + 1)) (bt (s.extract 0 q) (i + 2)) (bt (s.extract 0 q) (i + 3)) (by omega) (by omega) (by omega)
      rw [hz, b0, b1, b2, if_pos (by omega)] at e2
      rw [e2, if_neg (by simp)]
    · rw [e] at h hc ⊢; simp only [] at h hc
      rw [if_pos (by omega)] at b1 b2 b3
      have e2 : sizeAt (s.extract 0 q) i = _ := size_four ((s.extract 0 q).size - i) (bt (s.extract 0 q) i) (bt (s.extract 0 q) (i + 1)) (bt (s.extract 0 q) (i + 2)) (bt (s.extract 0 q) (i + 3)) (by omega) (by omega) (by omega) (by omega)
      rw [hz, b0, b1, b2, b3, if_pos (by omega)] at e2
      rw [e2, if_neg (by simp)]
    · rw [e]
      have e2 : sizeAt (s.extract 0 q) i = (0, 0) := by
        unfold sizeAt at hzz ⊢
        rw [hz, b0, b1, b2, b3]
        by_cases c1 : 194 ≤ bt s i ∧ bt s i ≤ 223
        · rw [size_two _ _ _ _ _ c1 h1'] at hzz
          rw [size_two _ _ _ _ _ c1 (by split <;> omega)]
          split at hzz
          · simp at hzz
          · rw [if_neg]
            rintro ⟨g1, g2⟩
            rw [if_pos (by omega)] at g2
            omega
        · by_cases c2 : 224 ≤ bt s i ∧ bt s i ≤ 239
          · rw [size_three _ _ _ _ _ c2 h1' h2'] at hzz
            rw [size_three _ _ _ _ _ c2 (by split <;> omega) (by split <;> omega)]
            split at hzz
            · simp at hzz
            · rename_i hn
              rw [if_neg]
              rintro ⟨g1, g2, g3, g4⟩
              rw [if_pos (show i + 1 < q by omega)] at g2 g4
              rw [if_pos (show i + 2 < q by omega)] at g3 g4
              exact hn ⟨by omega, g2, g3, g4⟩
          · by_cases c3 : 240 ≤ bt s i ∧ bt s i ≤ 244
            · rw [size_four _ _ _ _ _ c3 h1' h2' h3'] at hzz
              rw [size_four _ _ _ _ _ c3 (by split <;> omega) (by split <;> omega) (by split <;> omega)]
              split at hzz
              · simp at hzz
              · rename_i hn
                rw [if_neg]
                rintro ⟨g1, g2, g3, g4, g5⟩
                rw [if_pos (show i + 1 < q by omega)] at g2 g5
                rw [if_pos (show i + 2 < q by omega)] at g3 g5
                rw [if_pos (show i + 3 < q by omega)] at g4 g5
                exact hn ⟨by omega, g2, g3, g4, g5⟩
            · exact size_none _ _ _ _ _ h0 (by omega) (by split <;> omega) (by split <;> omega) (by split <;> omega)
      rw [e2, b0]; rfl

theorem rest_pre (s : ByteArray) (m : Bool) (q : Nat) (hq : q ≤ s.size) : ∀ (j i : Nat), i ≤ s.size → (rest s m i ++ [s.size])[j]? = some q → (rest (s.extract 0 q) m i).length = j
  | 0, i, hi, h => by
    have : q = i := by
      by_cases hlt : i < s.size
      · rw [rest_step hlt] at h; simp at h; exact h.symm
      · rw [rest_end (by omega)] at h; simp at h; omega
    subst this
    rw [rest_end (by rw [pre_size s q hq]; exact Nat.le_refl _)]; rfl
  | j + 1, i, hi, h => by
    by_cases hlt : i < s.size
    · have hw := chr_wide s i m hlt
      rw [rest_step hlt, List.cons_append, List.getElem?_cons_succ] at h
      have hb := (rest_pair s m s.size (i + (chr s i m).2) (by omega) (by omega)).2 q (List.mem_of_getElem? h)
      have ih := rest_pre s m q hq j _ (by omega) h
      rw [rest_step (by rw [pre_size s q hq]; omega), List.length_cons, chr_pre s q i m hq (by omega) hb.1, ih]
    · rw [rest_end (by omega)] at h
      simp at h

theorem starts_zero (s : ByteArray) (m : Bool) : (starts s m)[0]? = some 0 := by
  unfold starts places
  by_cases h : 0 < s.size
  · rw [rest_step h]; rfl
  · have hz : s.size = 0 := by omega
    rw [rest_end (by omega), hz]; rfl

end Go.Proofs.YtaheddpmidoekaaDoor
