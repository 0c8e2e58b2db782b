/- The characters of a string, as plain functions of its bytes. No program in sight. -/
import Derived.WalkKit
import Derived.WalkLawsBesides
import Derived.WalkSpells
import Derived.Lib.Hide
import Derived.Lib.RuneCountTail
import Derived.Lib.TrimU
import Derived.Shelf.Unicode.DecodeSlow
namespace Go.Proofs.YtaheddpmidoekaaDoor
open Go.RowKit
set_option linter.unusedVariables false

/-- Byte k; 0 behind the end. -/
def bt (s : ByteArray) (k : Nat) : Nat := (s.get! k).toNat
theorem bt_lt (s : ByteArray) (k : Nat) : bt s k < 256 := UInt8.toNat_lt _
theorem bt_get (s : ByteArray) : ∀ (k : Nat) (h : k < s.size), (s[k]'h).toNat = bt s k := fun k h => by
  unfold bt
  cases s with
  | mk d => exact congrArg UInt8.toNat (getElem!_pos d k h).symm

/-- The character at place i: its code, its width; m: bytes are counted. -/
def chr (s : ByteArray) (i : Nat) (m : Bool) : Nat × Nat :=
  if m = true then (bt s i, 1)
  else if (Utf8.decode s i).1 = 65533 ∧ (Utf8.decode s i).2 = 1 then (1114112 + bt s i, 1) else Utf8.decode s i

theorem decode_wide (s : ByteArray) (i : Nat) (h : i < s.size) : 1 ≤ (Utf8.decode s i).2 ∧ i + (Utf8.decode s i).2 ≤ s.size ∧ (Utf8.decode s i).1 ≤ 1114111 := by
  refine ⟨Lib.width_pos s i, ?_, Lib.rune_le s i⟩
  rw [Lib.decode_at]
  unfold Lib.decodeN
  repeat' split
  all_goals (simp only; omega)

theorem chr_wide (s : ByteArray) (i : Nat) (m : Bool) (h : i < s.size) : 1 ≤ (chr s i m).2 ∧ i + (chr s i m).2 ≤ s.size ∧ (chr s i m).1 < 1114368 := by
  have hd := decode_wide s i h
  have hb := bt_lt s i
  unfold chr
  split
  · exact ⟨by simp, by simp; omega, by simp; omega⟩
  · split
    · exact ⟨by simp, by simp; omega, by simp; omega⟩
    · exact ⟨hd.1, hd.2.1, by have := hd.2.2; omega⟩

/-- The answer of 'Next' at any place. -/
def nextC (s : ByteArray) (a : Int) (m : Bool) : Nat × Nat := if 0 ≤ a ∧ a < s.size then chr s a.toNat m else (0, 0)

/-- The document's 'size' of the bytes that a string begins with: its width (0: none), its rune. -/
def sizeN (n b0 b1 b2 b3 : Nat) : Nat × Nat :=
  if (Lib.decodeN n b0 b1 b2 b3).1 = 65533 ∧ (Lib.decodeN n b0 b1 b2 b3).2 = 1 then (0, 0) else ((Lib.decodeN n b0 b1 b2 b3).2, (Lib.decodeN n b0 b1 b2 b3).1)

theorem bt_tail (s : ByteArray) (i k : Nat) : bt (s.extract i s.size) k = bt s (i + k) := by
  unfold bt; rw [Lib.tail_get!]

/-- 'size(s[i:])'. -/
def sizeAt (s : ByteArray) (i : Nat) : Nat × Nat := sizeN (s.size - i) (bt s i) (bt s (i + 1)) (bt s (i + 2)) (bt s (i + 3))
theorem chr_size (s : ByteArray) (i : Nat) (h : i < s.size) : chr s i false = if (sizeAt s i).1 = 0 then (1114112 + bt s i, 1) else ((sizeAt s i).2, (sizeAt s i).1) := by
  have hd := decode_wide s i h
  unfold chr sizeAt sizeN
  rw [Lib.decode_at] at *
  unfold bt at *
  generalize Lib.decodeN (s.size - i) (s.get! i).toNat (s.get! (i + 1)).toNat (s.get! (i + 2)).toNat (s.get! (i + 3)).toNat = d at *
  rw [if_neg (by simp)]
  by_cases hc : d.1 = 65533 ∧ d.2 = 1
  · simp [hc]
  · rw [if_neg hc, if_neg hc, if_neg (by simp; omega)]

/-! ### the steps of 'size' -/
theorem size_ascii (n b0 b1 b2 b3 : Nat) (h : b0 < 128) : sizeN n b0 b1 b2 b3 = (1, b0) := by
  have : Lib.decodeN n b0 b1 b2 b3 = (b0, 1) := by unfold Lib.decodeN; rw [if_pos h]
  unfold sizeN; rw [this, if_neg (by simp; omega)]
theorem size_none (n b0 b1 b2 b3 : Nat) (hb : b0 < 256) (h : (128 ≤ b0 ∧ b0 < 194) ∨ 244 < b0) (h1 : b1 < 256) (h2 : b2 < 256) (h3 : b3 < 256) : sizeN n b0 b1 b2 b3 = (0, 0) := by
  have : Lib.decodeN n b0 b1 b2 b3 = (65533, 1) := by
    unfold Lib.decodeN
    repeat' split
    all_goals first | rfl | (exfalso; omega)
  unfold sizeN; rw [this, if_pos (by simp)]
theorem size_two (n b0 b1 b2 b3 : Nat) (h : 194 ≤ b0 ∧ b0 ≤ 223) (h1 : b1 < 256) :
    sizeN n b0 b1 b2 b3 = if 2 ≤ n ∧ 128 ≤ b1 ∧ b1 ≤ 191 then (2, 64 * (b0 % 32) + b1 - 128) else (0, 0) := by
  have : Lib.decodeN n b0 b1 b2 b3 = if 2 ≤ n ∧ 128 ≤ b1 ∧ b1 ≤ 191 then (64 * (b0 % 32) + b1 - 128, 2) else (65533, 1) := by
    unfold Lib.decodeN
    rw [if_neg (by omega)]
    by_cases hc : 2 ≤ n ∧ 128 ≤ b1 ∧ b1 ≤ 191
    · have e : b0 % 32 * 64 + b1 % 64 = 64 * (b0 % 32) + b1 - 128 := by omega
      rw [if_pos hc, if_pos (by omega), if_pos (by omega), e]
    · rw [if_neg hc, if_neg (by omega), if_neg (by omega), if_neg (by omega)]
  unfold sizeN; rw [this]
  by_cases hc : 2 ≤ n ∧ 128 ≤ b1 ∧ b1 ≤ 191
  · simp [hc]
  · simp [hc]
theorem size_three (n b0 b1 b2 b3 : Nat) (h : 224 ≤ b0 ∧ b0 ≤ 239) (h1 : b1 < 256) (h2 : b2 < 256) :
    sizeN n b0 b1 b2 b3 = if 3 ≤ n ∧ (128 ≤ b1 ∧ b1 ≤ 191) ∧ (128 ≤ b2 ∧ b2 ≤ 191) ∧ 2048 ≤ 64 * (64 * (b0 % 16) + b1 - 128) + b2 - 128 ∧ ¬ (55296 ≤ 64 * (64 * (b0 % 16) + b1 - 128) + b2 - 128 ∧ 64 * (64 * (b0 % 16) + b1 - 128) + b2 - 128 ≤ 57343)
      then (3, 64 * (64 * (b0 % 16) + b1 - 128) + b2 - 128) else (0, 0) := by
  have : Lib.decodeN n b0 b1 b2 b3 = if 3 ≤ n ∧ (128 ≤ b1 ∧ b1 ≤ 191) ∧ (128 ≤ b2 ∧ b2 ≤ 191) ∧ 2048 ≤ 64 * (64 * (b0 % 16) + b1 - 128) + b2 - 128 ∧ ¬ (55296 ≤ 64 * (64 * (b0 % 16) + b1 - 128) + b2 - 128 ∧ 64 * (64 * (b0 % 16) + b1 - 128) + b2 - 128 ≤ 57343)
      then (64 * (64 * (b0 % 16) + b1 - 128) + b2 - 128, 3) else (65533, 1) := by
    unfold Lib.decodeN
    rw [if_neg (by omega), if_neg (by omega)]
    by_cases hc : 3 ≤ n ∧ (128 ≤ b1 ∧ b1 ≤ 191) ∧ (128 ≤ b2 ∧ b2 ≤ 191)
    · obtain ⟨c1, c2, c3⟩ := hc
      have e : b0 % 16 * 4096 + b1 % 64 * 64 + b2 % 64 = 64 * (64 * (b0 % 16) + b1 - 128) + b2 - 128 := by omega
      rw [if_pos (by omega), e]
      generalize 64 * (64 * (b0 % 16) + b1 - 128) + b2 - 128 = r at *
      have hr : r ≤ 1114111 := by omega
      by_cases hx : 2048 ≤ r ∧ ¬ (55296 ≤ r ∧ r ≤ 57343)
      · rw [if_pos (by omega), if_pos (by omega)]
      · rw [if_neg (by omega), if_neg (by omega)]
    · rw [if_neg (by omega), if_neg (by omega), if_neg (by omega)]
  unfold sizeN; rw [this]
  split <;> simp
theorem size_four (n b0 b1 b2 b3 : Nat) (h : 240 ≤ b0 ∧ b0 ≤ 244) (h1 : b1 < 256) (h2 : b2 < 256) (h3 : b3 < 256) :
    sizeN n b0 b1 b2 b3 = if 4 ≤ n ∧ (128 ≤ b1 ∧ b1 ≤ 191) ∧ (128 ≤ b2 ∧ b2 ≤ 191) ∧ (128 ≤ b3 ∧ b3 ≤ 191) ∧ 65536 ≤ 64 * (64 * (64 * (b0 % 8) + b1 - 128) + b2 - 128) + b3 - 128 ∧ 64 * (64 * (64 * (b0 % 8) + b1 - 128) + b2 - 128) + b3 - 128 ≤ 1114111
      then (4, 64 * (64 * (64 * (b0 % 8) + b1 - 128) + b2 - 128) + b3 - 128) else (0, 0) := by
  have : Lib.decodeN n b0 b1 b2 b3 = if 4 ≤ n ∧ (128 ≤ b1 ∧ b1 ≤ 191) ∧ (128 ≤ b2 ∧ b2 ≤ 191) ∧ (128 ≤ b3 ∧ b3 ≤ 191) ∧ 65536 ≤ 64 * (64 * (64 * (b0 % 8) + b1 - 128) + b2 - 128) + b3 - 128 ∧ 64 * (64 * (64 * (b0 % 8) + b1 - 128) + b2 - 128) + b3 - 128 ≤ 1114111
      then (64 * (64 * (64 * (b0 % 8) + b1 - 128) + b2 - 128) + b3 - 128, 4) else (65533, 1) := by
    unfold Lib.decodeN
    rw [if_neg (by omega), if_neg (by omega), if_neg (by omega)]
    by_cases hc : 4 ≤ n ∧ (128 ≤ b1 ∧ b1 ≤ 191) ∧ (128 ≤ b2 ∧ b2 ≤ 191) ∧ (128 ≤ b3 ∧ b3 ≤ 191)
    · obtain ⟨c1, c2, c3, c4⟩ := hc
      have e : b0 % 8 * 262144 + b1 % 64 * 4096 + b2 % 64 * 64 + b3 % 64 = 64 * (64 * (64 * (b0 % 8) + b1 - 128) + b2 - 128) + b3 - 128 := by omega
      rw [if_pos (by omega), e]
      generalize 64 * (64 * (64 * (b0 % 8) + b1 - 128) + b2 - 128) + b3 - 128 = r at *
      by_cases hx : 65536 ≤ r ∧ r ≤ 1114111
      · rw [if_pos (by omega), if_pos (by omega)]
      · rw [if_neg (by omega), if_neg (by omega)]
    · rw [if_neg (by omega), if_neg (by omega)]
  unfold sizeN; rw [this]
  split <;> simp

end Go.Proofs.YtaheddpmidoekaaDoor
