/- The characters of a string and their bytes: what is decoded is what is encoded; a string with its letters changed has its characters at the same places. Plain Lean. -/
import Derived.Test.YtaheddpmidoekaaDoorUsMapP
namespace Go.Proofs.YtaheddpmidoekaaDoor
open Go.RowKit
set_option linter.unusedVariables false

/-- The bytes of a code, in either mode. -/
def encL (c : Int) (m : Bool) : List UInt8 := if m = true then [UInt8.ofNat c.toNat] else (textB c).data.toList

theorem bt_list (s : ByteArray) (k : Nat) : bt s k = ((s.data.toList[k]?).getD 0).toNat := by
  unfold bt
  by_cases h : k < s.size
  · have h' : k < s.data.toList.length := by simpa using h
    rw [List.getElem?_eq_getElem h']
    cases s with
    | mk d =>
      have h2 : k < d.size := h
      show (d[k]!).toNat = (d.toList[k]).toNat
      rw [getElem!_pos d k h2, Array.getElem_toList]
  · have h' : s.data.toList.length ≤ k := by simpa using h
    rw [List.getElem?_eq_none h']
    cases s with
    | mk d =>
      have h2 : d.size ≤ k := by simpa using h'
      show (d[k]!).toNat = 0
      rw [getElem!_neg d k (by omega)]
      rfl
theorem bt_drop {t : ByteArray} {i : Nat} {l : List UInt8} (h : t.data.toList.drop i = l) (j : Nat) : bt t (i + j) = ((l[j]?).getD 0).toNat := by
  rw [bt_list, ← h, List.getElem?_drop]
theorem bt_end (s : ByteArray) (k : Nat) (h : s.size ≤ k) : bt s k = 0 := by
  rw [bt_list, List.getElem?_eq_none (by simpa using h)]; rfl

theorem ext_list (s : ByteArray) (i j : Nat) (hj : j ≤ s.size) : (s.extract i j).data.toList = (s.data.toList.drop i).take (j - i) := by
  simp [ByteArray.data_extract, Array.toList_extract]
theorem take_bytes (s : ByteArray) : ∀ (k i : Nat), i + k ≤ s.size → (s.data.toList.drop i).take k = (List.range k).map (fun j => UInt8.ofNat (bt s (i + j)))
  | 0, i, h => by simp
  | k + 1, i, h => by
    have hi : i < s.data.toList.length := by simp; omega
    rw [List.drop_eq_getElem_cons hi, List.take_succ_cons, take_bytes s k (i + 1) (by omega), List.range_succ_eq_map, List.map_cons, List.map_map]
    congr 1
    · rw [bt_list, Nat.add_zero, List.getElem?_eq_getElem hi]; simp
    · apply List.map_congr_left; intro j _; simp only [Function.comp]; congr 2; omega

/-- The shapes of a character. -/
def Shape (s : ByteArray) (i : Nat) (p : Nat × Nat) : Prop :=
  (bt s i < 128 ∧ p = (bt s i, 1)) ∨
  ((194 ≤ bt s i ∧ bt s i ≤ 223) ∧ (128 ≤ bt s (i + 1) ∧ bt s (i + 1) ≤ 191) ∧ i + 2 ≤ s.size ∧ p = (64 * (bt s i % 32) + bt s (i + 1) - 128, 2)) ∨
  ((224 ≤ bt s i ∧ bt s i ≤ 239) ∧ (128 ≤ bt s (i + 1) ∧ bt s (i + 1) ≤ 191) ∧ (128 ≤ bt s (i + 2) ∧ bt s (i + 2) ≤ 191) ∧ i + 3 ≤ s.size ∧ (2048 ≤ p.1 ∧ ¬ (55296 ≤ p.1 ∧ p.1 ≤ 57343)) ∧
    p = (64 * (64 * (bt s i % 16) + bt s (i + 1) - 128) + bt s (i + 2) - 128, 3)) ∨
  ((240 ≤ bt s i ∧ bt s i ≤ 244) ∧ (128 ≤ bt s (i + 1) ∧ bt s (i + 1) ≤ 191) ∧ (128 ≤ bt s (i + 2) ∧ bt s (i + 2) ≤ 191) ∧ (128 ≤ bt s (i + 3) ∧ bt s (i + 3) ≤ 191) ∧ i + 4 ≤ s.size ∧ (65536 ≤ p.1 ∧ p.1 ≤ 1114111) ∧
    p = (64 * (64 * (64 * (bt s i % 8) + bt s (i + 1) - 128) + bt s (i + 2) - 128) + bt s (i + 3) - 128, 4)) ∨
  (128 ≤ bt s i ∧ sizeAt s i = (0, 0) ∧ p = (1114112 + bt s i, 1))

theorem shape (s : ByteArray) (i : Nat) (h : i < s.size) : Shape s i (chr s i false) := by
  have h0 := bt_lt s i
  have h1 := bt_lt s (i + 1)
  have h2 := bt_lt s (i + 2)
  have h3 := bt_lt s (i + 3)
  rw [chr_size s i h]
  unfold Shape
  by_cases c0 : bt s i < 128
  · left
    have : sizeAt s i = (1, bt s i) := size_ascii _ _ _ _ _ c0
    rw [this]; exact ⟨c0, by simp⟩
  · by_cases c1 : 194 ≤ bt s i ∧ bt s i ≤ 223
    · have e : sizeAt s i = _ := size_two (s.size - i) (bt s i) (bt s (i + 1)) (bt s (i + 2)) (bt s (i + 3)) c1 h1
      split at e
      · rename_i hc
        right; left
        rw [e]
        exact ⟨c1, hc.2, by omega, by simp⟩
      · right; right; right; right
        exact ⟨by omega, e, by rw [e]; simp⟩
    · by_cases c2 : 224 ≤ bt s i ∧ bt s i ≤ 239
      · have e : sizeAt s i = _ := size_three (s.size - i) (bt s i) (bt s (i + 1)) (bt s (i + 2)) (bt s (i + 3)) c2 h1 h2
        split at e
        · rename_i hc
          right; right; left
          rw [e]
          exact ⟨c2, hc.2.1, hc.2.2.1, by omega, by simpa using hc.2.2.2, by simp⟩
        · right; right; right; right
          exact ⟨by omega, e, by rw [e]; simp⟩
      · by_cases c3 : 240 ≤ bt s i ∧ bt s i ≤ 244
        · have e : sizeAt s i = _ := size_four (s.size - i) (bt s i) (bt s (i + 1)) (bt s (i + 2)) (bt s (i + 3)) c3 h1 h2 h3
          split at e
          · rename_i hc
            right; right; right; left
            rw [e]
            exact ⟨c3, hc.2.1, hc.2.2.1, hc.2.2.2.1, by omega, by simpa using hc.2.2.2.2, by simp⟩
          · right; right; right; right
            exact ⟨by omega, e, by rw [e]; simp⟩
        · right; right; right; right
          have e : sizeAt s i = (0, 0) := size_none _ _ _ _ _ h0 (by omega) h1 h2 h3
          exact ⟨by omega, e, by rw [e]; simp⟩

theorem text1 (b : Nat) (h : b < 128) : (textB (b : Int)).data.toList = [UInt8.ofNat b] := by
  unfold textB
  rw [if_neg (by omega), if_neg (by omega), enc1 _ (by omega)]
  simp [strOfNums]
theorem text2 (c : Nat) (h : 128 ≤ c ∧ c < 2048) : (textB (c : Int)).data.toList = [UInt8.ofNat (192 + c / 64), UInt8.ofNat (128 + c % 64)] := by
  unfold textB
  rw [if_neg (by omega), if_neg (by omega), enc2 _ (by omega)]
  simp only [strOfNums, List.map_cons, List.map_nil]
  rw [show (192 + (c : Int) / 64).toNat = 192 + c / 64 by omega, show (128 + (c : Int) % 64).toNat = 128 + c % 64 by omega]
theorem text3 (c : Nat) (h : 2048 ≤ c ∧ c < 65536 ∧ ¬ (55296 ≤ c ∧ c ≤ 57343)) : (textB (c : Int)).data.toList = [UInt8.ofNat (224 + c / 4096), UInt8.ofNat (128 + c / 64 % 64), UInt8.ofNat (128 + c % 64)] := by
  unfold textB
  rw [if_neg (by omega), if_neg (by omega), enc3 _ (by omega)]
  simp only [strOfNums, List.map_cons, List.map_nil]
  rw [show (224 + (c : Int) / 4096).toNat = 224 + c / 4096 by omega, show (128 + (c : Int) / 64 % 64).toNat = 128 + c / 64 % 64 by omega, show (128 + (c : Int) % 64).toNat = 128 + c % 64 by omega]
theorem text4 (c : Nat) (h : 65536 ≤ c ∧ c ≤ 1114111) : (textB (c : Int)).data.toList = [UInt8.ofNat (240 + c / 262144), UInt8.ofNat (128 + c / 4096 % 64), UInt8.ofNat (128 + c / 64 % 64), UInt8.ofNat (128 + c % 64)] := by
  unfold textB
  rw [if_neg (by omega), if_neg (by omega), enc4 _ (by omega)]
  simp only [strOfNums, List.map_cons, List.map_nil]
  rw [show (240 + (c : Int) / 262144).toNat = 240 + c / 262144 by omega, show (128 + (c : Int) / 4096 % 64).toNat = 128 + c / 4096 % 64 by omega, show (128 + (c : Int) / 64 % 64).toNat = 128 + c / 64 % 64 by omega, show (128 + (c : Int) % 64).toNat = 128 + c % 64 by omega]
theorem textX (b : Nat) (h : b < 256) : (textB ((1114112 + b : Nat) : Int)).data.toList = [UInt8.ofNat b] := by
  unfold textB
  rw [if_pos (by omega), show (((1114112 + b : Nat) : Int) - 1114112).toNat = b by omega]

/-- What stands at a place is what its code encodes. -/
theorem extract_enc (s : ByteArray) (i : Nat) (m : Bool) (h : i < s.size) : (s.extract i (i + (chr s i m).2)).data.toList = encL ((chr s i m).1 : Int) m := by
  have hw := chr_wide s i m h
  rw [ext_list _ _ _ hw.2.1, show i + (chr s i m).2 - i = (chr s i m).2 by omega, take_bytes s _ i hw.2.1]
  cases m with
  | true => simp [chr, encL]
  | false =>
    have h0 := bt_lt s i
    unfold encL
    rw [if_neg (by simp)]
    rcases shape s i h with ⟨hb, e⟩ | ⟨hb, h1, hn, e⟩ | ⟨hb, h1, h2, hn, hc, e⟩ | ⟨hb, h1, h2, h3, hn, hc, e⟩ | ⟨hb, hz, e⟩
    · rw [e]; simp only []; rw [text1 _ hb]; simp
    · rw [e]; simp only []; rw [text2 _ (by omega)]
      simp only [List.range_succ, List.range_zero, List.nil_append, List.cons_append, List.map_cons, List.map_nil, Nat.add_zero]
      rw [show 192 + (64 * (bt s i % 32) + bt s (i + 1) - 128) / 64 = bt s i by omega, show 128 + (64 * (bt s i % 32) + bt s (i + 1) - 128) % 64 = bt s (i + 1) by omega]
    · rw [e] at hc; simp only [] at hc
      rw [e]; simp only []; rw [text3 _ (by omega)]
      simp only [List.range_succ, List.range_zero, List.nil_append, List.cons_append, List.map_cons, List.map_nil, Nat.add_zero]
      rw [show 224 + (64 * (64 * (bt s i % 16) + bt s (i + 1) - 128) + bt s (i + 2) - 128) / 4096 = bt s i by omega, show 128 + (64 * (64 * (bt s i % 16) + bt s (i + 1) - 128) + bt s (i + 2) - 128) / 64 % 64 = bt s (i + 1) by omega, show 128 + (64 * (64 * (bt s i % 16) + bt s (i + 1) - 128) + bt s (i + 2) - 128) % 64 = bt s (i + 2) by omega]
    · rw [e] at hc; simp only [] at hc
      rw [e]; simp only []; rw [text4 _ (by omega)]
      simp only [List.range_succ, List.range_zero, List.nil_append, List.cons_append, List.map_cons, List.map_nil, Nat.add_zero]
      rw [show 240 + (64 * (64 * (64 * (bt s i % 8) + bt s (i + 1) - 128) + bt s (i + 2) - 128) + bt s (i + 3) - 128) / 262144 = bt s i by omega, show 128 + (64 * (64 * (64 * (bt s i % 8) + bt s (i + 1) - 128) + bt s (i + 2) - 128) + bt s (i + 3) - 128) / 4096 % 64 = bt s (i + 1) by omega, show 128 + (64 * (64 * (64 * (bt s i % 8) + bt s (i + 1) - 128) + bt s (i + 2) - 128) + bt s (i + 3) - 128) / 64 % 64 = bt s (i + 2) by omega, show 128 + (64 * (64 * (64 * (bt s i % 8) + bt s (i + 1) - 128) + bt s (i + 2) - 128) + bt s (i + 3) - 128) % 64 = bt s (i + 3) by omega]
    · rw [e]; simp only []; rw [textX _ h0]; simp

/-- So 'piece' is the new code's bytes. -/
theorem piece_enc (g : Int → Bool → Int) (s : ByteArray) (m : Bool) (i : Nat) (h : i < s.size) : piece g s m i = encL (g ((chr s i m).1 : Int) m) m := by
  unfold piece
  split
  · rename_i e; rw [e]; exact extract_enc s i m h
  · unfold encL; rfl

end Go.Proofs.YtaheddpmidoekaaDoor
