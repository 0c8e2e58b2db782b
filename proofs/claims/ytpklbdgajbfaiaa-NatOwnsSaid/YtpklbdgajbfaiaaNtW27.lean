/- Shl's other answers; the law's comparison of two lists of limbs. -/
import Derived.Test.YtpklbdgajbfaiaaNtW26
namespace Go.Proofs.Ytpklbdgajbfaiaa
open Go.RowKit
set_option linter.unusedVariables false

set_option maxHeartbeats 4000000 in
theorem nshl_neg (A : Option Addr) (c B x : Nat) (k : Int) (w : World) (hr : Rw .u32 w B A (dg 4294967296 x)) (hx : x < 2 ^ 8192) (hk : k < 0) :
    Calls Try.prog 14 #[.slice A (dg 4294967296 x).length c, .int .i64 k] w fun e w' => e = .returned (.tuple #[.slice none 0 0, .int .i64 1]) ∧ w = w' := by
  have HV1 := valid_any A c B _ w hr (by have := fit_len.2 hx; unfold maxLen; omega)
  rw [okL_dg hx] at HV1
  generalize (dg 4294967296 x).length = n1 at *
  replace HV1 := Lib.hid HV1
  clear hr hx
  go_enter Try.func14, Try.ntmps14
  go_wp2_with fail
  refine HV1.out.mono ?_
  rintro e w' ⟨he, hw⟩
  subst he
  subst hw
  dsimp only
  go_wp2_with fail
  go_ret2
  exact ⟨rfl, rfl⟩
set_option maxHeartbeats 4000000 in
theorem nshl_none (A : Option Addr) (c : Nat) (k : Int) (w : World) (hk : 0 ≤ k) :
    Calls Try.prog 14 #[.slice A 0 c, .int .i64 k] w fun e w' => e = .returned (.tuple #[.slice none 0 0, .int .i64 0]) ∧ w = w' := by
  have HV1 := valid_any A c 0 [] w (Rw.nil _ _ _ _) (by unfold maxLen; decide)
  rw [show okL [] = true from rfl] at HV1
  have h0 : ¬ k < 0 := by omega
  replace HV1 := Lib.hid HV1
  go_enter Try.func14, Try.ntmps14
  go_wp2_with fail
  refine HV1.out.mono ?_
  rintro e w' ⟨he, hw⟩
  subst he
  subst hw
  dsimp only
  go_wp2_with fail
  go_ret2
  exact ⟨rfl, rfl⟩
set_option maxHeartbeats 4000000 in
theorem nshl_far (A : Option Addr) (c B x : Nat) (k : Int) (w : World) (hr : Rw .u32 w B A (dg 4294967296 x)) (hx : x < 2 ^ 8192) (hn : (dg 4294967296 x).length ≠ 0) (hk : 8192 < k) :
    Calls Try.prog 14 #[.slice A (dg 4294967296 x).length c, .int .i64 k] w fun e w' => e = .returned (.tuple #[.slice none 0 0, .int .i64 3]) ∧ w = w' := by
  have HV1 := valid_any A c B _ w hr (by have := fit_len.2 hx; unfold maxLen; omega)
  rw [okL_dg hx] at HV1
  generalize (dg 4294967296 x).length = n1 at *
  have h0 : ¬ k < 0 := by omega
  have y2 : ((n1 : Int) == 0) = false := by rw [beq_eq_false_iff_ne]; omega
  replace HV1 := Lib.hid HV1
  clear hr hx hn
  go_enter Try.func14, Try.ntmps14
  go_wp2_with fail
  refine HV1.out.mono ?_
  rintro e w' ⟨he, hw⟩
  subst he
  subst hw
  dsimp only
  go_wp2_with fail
  go_ret2
  exact ⟨rfl, rfl⟩

theorem npow_far (K k : Nat) (h : K < k) : ¬ (2 : Nat) ^ k < 2 ^ K := Nat.not_lt.2 (Nat.pow_le_pow_right (by omega) (Nat.le_of_lt h))
theorem two_fit (k : Nat) (h : 8192 < k) : ¬ (2 : Nat) ^ k < 2 ^ 8192 := npow_far 8192 k h
theorem npos_pow (K : Nat) : 0 < 2 ^ K := Nat.two_pow_pos K
/-- Times a power of two: whatever the power. -/
theorem nshl_told (A : Option Addr) (c x k : Nat) (w : World) (hr : Rw .u32 w w.heap.size A (dg 4294967296 x)) (hx : x < 2 ^ 8192) :
    Calls Try.prog 14 #[.slice A (dg 4294967296 x).length c, .int .i64 (k : Int)] w (Told (x * 2 ^ k) true w) := by
  by_cases hn : (dg 4294967296 x).length = 0
  · have h0 : x = 0 := by rw [← vb_dg (b := 4294967296) (by omega) x, List.eq_nil_of_length_eq_zero hn]; rfl
    rw [hn]
    refine (nshl_none A c k w (by omega)).mono ?_
    rintro e w' ⟨rfl, rfl⟩
    rw [h0, Nat.zero_mul]
    exact ⟨none, 0, 0, 0, rfl, .inr ⟨rfl, .inl ⟨npos_pow 8192, by rw [dg_zero]; rfl, rfl, by rw [dg_zero]; exact Rw.nil _ _ _ _⟩⟩, Below.refl _ _⟩
  · by_cases hk : k ≤ 8192
    · exact (nshl_any A c w.heap.size x k w hr (Nat.le_refl _) hx hn hk).mono fun e w' h => told_is h
    · refine (nshl_far A c w.heap.size x k w hr hx hn (by omega)).mono ?_
      rintro e w' ⟨rfl, rfl⟩
      have hx0 : 0 < x := by
        rcases Nat.eq_zero_or_pos x with h | h
        · rw [h, dg_zero] at hn; exact absurd rfl hn
        · exact h
      refine ⟨none, 0, 0, 3, rfl, .inr ⟨rfl, .inr ⟨fun h => two_fit k (by omega) (Nat.lt_of_le_of_lt (Nat.le_mul_of_pos_left _ hx0) h), rfl, rfl⟩⟩, Below.refl _ _⟩

set_option maxHeartbeats 4000000 in
theorem same_yes (A : Option Addr) (c : Nat) (A2 : Option Addr) (c2 : Nat) (l : List Nat) (w : World) (hr : Rw .u32 w w.heap.size A l) (hr2 : Rw .u32 w w.heap.size A2 l) (hl : l.length ≤ maxLen) :
    Calls Try.prog 15 #[.slice A l.length c, .slice A2 l.length c2] w fun e w' => e = .returned (.bool true) ∧ Below w.heap.size w w' := by
  unfold maxLen at hl
  go_enter Try.func15, Try.ntmps15
  go_wp2_with fail
  go_loopw [13] (fun v13 wr => ∃ i : Nat, v13 = .int .i64 (i : Int) ∧ i ≤ l.length ∧ Below w.heap.size w wr) (fun v13 _ => l.length - (intOf v13).toNat)
  case atStart => exact ⟨0, rfl, Nat.zero_le _, Below.refl _ _⟩
  case round =>
    obtain ⟨i, rfl, hi, hb⟩ := hrel
    by_cases hlt : i < l.length
    · obtain ⟨b1, o1, rfl, _, hc1⟩ := (hr.below hb).at_ hlt
      obtain ⟨b2, o2, rfl, _, hc2⟩ := (hr2.below hb).at_ hlt
      generalize l.getD i 0 = d at *
      have i1 : (i : Int) < (l.length : Int) := by omega
      have i0 : (0 : Int) ≤ (i : Int) := by omega
      clear hr hr2
      go_wp2_with fail
      go_region_with (fail)
      all_goals
        go_wp2_with fail
        go_roundw
        case rel => exact ⟨i + 1, by go_num, by omega, ⟨hb.os, hb.tape, hb.output, hb.size, hb.block⟩⟩
        case measure => simp [intOf]; omega
    · have i1 : ¬ (i : Int) < (l.length : Int) := by omega
      clear hr hr2
      go_wp2_with fail
      go_ret
      exact ⟨rfl, hb⟩

end Go.Proofs.Ytpklbdgajbfaiaa
