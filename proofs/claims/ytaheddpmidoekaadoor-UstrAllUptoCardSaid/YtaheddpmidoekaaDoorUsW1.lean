/- The walks of 'Next', of the program and of the document; of the document's 'size'. -/
import Derived.Test.YtaheddpmidoekaaDoorUsPlain
import Derived.Test.YtaheddpmidoekaaDoorShelf
import Derived.Test.YtaheddpmidoekaaDoorRows
namespace Go.Proofs.YtaheddpmidoekaaDoor
open Go.RowKit
set_option linter.unusedVariables false

/-- The library's two tables lie in the blocks 0 and 1. -/
def Tab (w : World) : Prop := Lib.Utf8Tabs 0 1 w ∧ 2 ≤ w.heap.size
theorem Tab.below {w w' : World} {B : Nat} (h : Tab w) (hb : Below B w w') (hB : 2 ≤ B) : Tab w' := by
  refine ⟨⟨fun c hc => ?_, fun i hi => ⟨?_, ?_⟩⟩, Nat.le_trans h.2 hb.size⟩
  · exact (hb.cell (p := ⟨_, c, none⟩) (by simp; omega)).trans (h.1.1 c hc)
  · exact (hb.cell (p := ⟨_, 2 * i, none⟩) (by simp; omega)).trans (h.1.2 i hi).1
  · exact (hb.cell (p := ⟨_, 2 * i + 1, none⟩) (by simp; omega)).trans (h.1.2 i hi).2

theorem decode_pair (s : ByteArray) (h : s.size ≠ 0) : Lib.decodeGo s = Utf8.decode s 0 := by unfold Lib.decodeGo; rw [if_neg h]

set_option maxHeartbeats 400000 in
theorem decode_any (s : ByteArray) (w : World) (h0 : 0 < s.size) (hs : s.size ≤ maxLen) (hT : Tab w) :
    Calls Tryd.prog 31 #[.string s] w fun e w' => e = .returned (.tuple #[.int .i32 ((Utf8.decode s 0).1 : Int), .int .i64 ((Utf8.decode s 0).2 : Int)]) ∧ Below w.heap.size w w' := by
  have hg := bt_get s 0 h0
  have hne : s.toList.isEmpty = false := by
    rw [Lib.toList_data]
    cases hd : s.data.toList with
    | nil => have : s.size = 0 := by rw [Lib.size_eq, hd]; rfl
             omega
    | cons => rfl
  have hH := Lib.hid hT
  clear hT
  by_cases h128 : bt s 0 < 128
  · have hd : Utf8.decode s 0 = (bt s 0, 1) := by
      rw [Lib.decode_at]; unfold Lib.decodeN; exact if_pos h128
    rw [hd]
    have hi : (bt s 0 : Int) < 128 := by omega
    clear hd
    generalize bt s 0 = b at *
    go_enter Tryd.func31, Tryd.ntmps31
    go_wp2_with fail
    go_ret2
    exact ⟨rfl, Below.refl _ _⟩
  · have hi : ¬ (bt s 0 : Int) < 128 := by omega
    have hsl := Lib.hid (fun w (h : Tab w) => Tryd.utf8_decodeRuneInStringSlow s w h.1)
    rw [decode_pair s (by omega)] at hsl
    generalize bt s 0 = b at *
    go_enter Tryd.func31, Tryd.ntmps31
    go_wp2_with fail
    refine (hsl.out _ hH.out).mono ?_
    rintro e w1 ⟨rfl, hb⟩
    go_wp2_with fail
    go_ret2
    exact ⟨rfl, hb⟩

set_option maxHeartbeats 400000 in
theorem next_out (s : ByteArray) (a : Int) (m : Bool) (w : World) (hs : s.size ≤ maxLen) (h : a < 0 ∨ (s.size : Int) ≤ a) :
    Calls Tryd.prog 12 #[.string s, .int .i64 a, .bool m] w fun e w' => e = .returned (.tuple #[.int .i64 0, .int .i64 0]) ∧ w = w' := by
  by_cases h0 : a < 0
  · go_enter Tryd.func12, Tryd.ntmps12
    go_wp2_with fail
    go_ret2
    exact ⟨rfl, rfl⟩
  · have h1 : (s.size : Int) ≤ a := by omega
    go_enter Tryd.func12, Tryd.ntmps12
    go_wp2_with fail
    go_ret2
    exact ⟨rfl, rfl⟩

set_option maxHeartbeats 400000 in
theorem next_in (s : ByteArray) (i : Nat) (m : Bool) (w : World) (hs : s.size ≤ maxLen) (h : i < s.size) (hT : Tab w) :
    Calls Tryd.prog 12 #[.string s, .int .i64 (i : Int), .bool m] w fun e w' => e = .returned (.tuple #[.int .i64 ((chr s i m).1 : Int), .int .i64 ((chr s i m).2 : Int)]) ∧ Below w.heap.size w w' := by
  have hs' := hs
  unfold maxLen at hs
  have hg := bt_get s i h
  have hH := Lib.hid hT
  clear hT
  have hb := bt_lt s i
  cases m with
  | true =>
    rw [show chr s i true = (bt s i, 1) from rfl]
    generalize bt s i = b at *
    go_enter Tryd.func12, Tryd.ntmps12
    go_wp2_with fail
    go_ret2
    exact ⟨rfl, Below.refl _ _⟩
  | false =>
    have hc : chr s i false = if (Utf8.decode s i).1 = 65533 ∧ (Utf8.decode s i).2 = 1 then (1114112 + bt s i, 1) else Utf8.decode s i := rfl
    have hd := Lib.hid (decode_any (s.extract i s.size) w (by rw [Lib.tail_size]; omega) (by rw [Lib.tail_size]; unfold maxLen; omega))
    rw [Lib.tail_decode, Nat.add_zero] at hd
    have hw := decode_wide s i h
    rw [hc]
    clear hc
    generalize bt s i = b at *
    generalize Utf8.decode s i = p at *
    obtain ⟨r, n⟩ := p
    dsimp only at hw hd ⊢
    by_cases h1 : r = 65533
    · subst h1
      by_cases h2 : n = 1
      · subst h2
        rw [if_pos (by simp)]
        go_enter Tryd.func12, Tryd.ntmps12
        go_wp2_with fail
        refine (hd.out hH.out).mono ?_
        rintro e w1 ⟨rfl, hbl⟩
        go_wp2_with fail
        go_ret2
        exact ⟨by simp, hbl⟩
      · rw [if_neg (by simp [h2])]
        have h2' : ((n : Int) == 1) = false := by rw [beq_eq_false_iff_ne]; omega
        go_enter Tryd.func12, Tryd.ntmps12
        go_wp2_with fail
        refine (hd.out hH.out).mono ?_
        rintro e w1 ⟨rfl, hbl⟩
        go_wp2_with fail
        go_ret2
        exact ⟨by simp, hbl⟩
    · rw [if_neg (by simp [h1])]
      have h1' : ((r : Int) == 65533) = false := by rw [beq_eq_false_iff_ne]; omega
      go_enter Tryd.func12, Tryd.ntmps12
      go_wp2_with fail
      refine (hd.out hH.out).mono ?_
      rintro e w1 ⟨rfl, hbl⟩
      go_wp2_with fail
      go_ret2
      exact ⟨by simp, hbl⟩

end Go.Proofs.YtaheddpmidoekaaDoor
