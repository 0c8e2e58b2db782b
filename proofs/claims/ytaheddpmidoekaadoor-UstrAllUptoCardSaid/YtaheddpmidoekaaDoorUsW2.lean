/- The walks of the document's 'size' and 'Next'. -/
import Derived.Test.YtaheddpmidoekaaDoorUsW1
import Derived.LoopN
namespace Go.Proofs.YtaheddpmidoekaaDoor
open Go.RowKit
set_option linter.unusedVariables false

/-- What 'size' answers; behind a name, so that the walk does not look into it. -/
def SizeIs (p : Nat × Nat) (w : World) (e : Ending) (w' : World) : Prop := e = .returned (.tuple #[.int .i64 (p.1 : Int), .int .i64 (p.2 : Int)]) ∧ w = w'
theorem SizeIs.mk {p : Nat × Nat} {w : World} {a b : Int} (h : a = (p.1 : Int)) (h' : b = (p.2 : Int)) : SizeIs p w (.returned (.tuple #[.int .i64 a, .int .i64 b])) w := by
  subst h; subst h'; exact ⟨rfl, rfl⟩
/-- The rune so far, j bytes behind the first one. -/
def ra (s : ByteArray) (r0 : Nat) : Nat → Nat
  | 0 => r0
  | j + 1 => 64 * ra s r0 j + bt s (j + 1) - 128

theorem szr (P : Ending → Prop) {a b c d : Int} (h : a = c) (h' : b = d) (hp : P (.returned (.tuple #[.int .i64 a, .int .i64 b]))) : P (.returned (.tuple #[.int .i64 c, .int .i64 d])) := by
  subst h; subst h'; exact hp

set_option maxRecDepth 100000 in
set_option maxHeartbeats 800000 in
theorem size_lo (s : ByteArray) (w : World) (hs : s.size ≤ maxLen) (h0 : 0 < s.size) (hb : bt s 0 < 194 ∨ 244 < bt s 0) :
    Calls Tryd.prog 32 #[.string s] w fun e w' => e = .returned (.tuple #[.int .i64 ((sizeAt s 0).1 : Int), .int .i64 ((sizeAt s 0).2 : Int)]) ∧ w = w' := by
  have hg := bt_get s 0 h0
  have hb' := bt_lt s 0
  unfold sizeAt
  simp only [Nat.zero_add]
  by_cases h1 : bt s 0 < 128
  · rw [size_ascii _ _ _ _ _ h1]
    have hi : (bt s 0 : Int) < 128 := by omega
    generalize bt s 0 = b at *
    go_enter Tryd.func32, Tryd.ntmps32
    go_wp2_with fail
    go_ret2
    exact ⟨rfl, rfl⟩
  · rw [size_none _ _ _ _ _ hb' (by omega) (bt_lt _ _) (bt_lt _ _) (bt_lt _ _)]
    have hi : ¬ (bt s 0 : Int) < 128 := by omega
    generalize bt s 0 = b at *
    by_cases h2 : b < 194
    · have h3 : ¬ (194 : Int) ≤ b := by omega
      have h4 : ¬ (224 : Int) ≤ b := by omega
      have h5 : ¬ (240 : Int) ≤ b := by omega
      go_enter Tryd.func32, Tryd.ntmps32
      go_wp2_with fail
      go_ret2
      exact ⟨rfl, rfl⟩
    · have h3 : ¬ (b : Int) ≤ 223 := by omega
      have h4 : ¬ (b : Int) ≤ 239 := by omega
      have h5 : ¬ (b : Int) ≤ 244 := by omega
      go_enter Tryd.func32, Tryd.ntmps32
      go_wp2_with fail
      go_ret2
      exact ⟨rfl, rfl⟩

set_option maxRecDepth 100000 in
set_option maxHeartbeats 2000000 in
theorem size_2 (s : ByteArray) (w : World) (hs : s.size ≤ maxLen) (h0 : 0 < s.size) (hb : 194 ≤ bt s 0 ∧ bt s 0 ≤ 223) :
    Calls Tryd.prog 32 #[.string s] w (SizeIs (sizeAt s 0) w) := by
  have hg := bt_get s 0 h0
  have hp := size_two s.size (bt s 0) (bt s 1) (bt s 2) (bt s 3) hb (bt_lt _ _)
  have hpp : sizeAt s 0 = sizeN s.size (bt s 0) (bt s 1) (bt s 2) (bt s 3) := by unfold sizeAt; simp only [Nat.zero_add, Nat.sub_zero]
  rw [← hpp] at hp
  clear hpp
  have hra : ra s (bt s 0 % 32) 1 = 64 * (bt s 0 % 32) + bt s 1 - 128 := rfl
  rw [← hra] at hp
  have HP := Lib.hid hp
  clear hp hra
  generalize sizeAt s 0 = p at *
  unfold maxLen at hs
  have i1 : ¬ (bt s 0 : Int) < 128 := by omega
  have i2 : (194 : Int) ≤ (bt s 0 : Int) := by omega
  have i3 : (bt s 0 : Int) ≤ 223 := by omega
  obtain ⟨r0, hr0⟩ : ∃ r0, r0 = bt s 0 % 32 := ⟨_, rfl⟩
  have hr1 : r0 < 32 := by omega
  have hr2 : ((bt s 0 : Int) % 32) = (r0 : Int) := by omega
  rw [← hr0] at HP
  have HR0 := Lib.hid hr0
  clear hr0
  obtain ⟨b, hbe⟩ : ∃ b, b = bt s 0 := ⟨_, rfl⟩
  rw [← hbe] at *
  clear hbe
  by_cases hn : 2 ≤ s.size
  · have hn' : ¬ (s.size : Int) < 2 := by omega
    go_enter Tryd.func32, Tryd.ntmps32
    go_wp2_with fail
    go_loop [6, 8] (fun v6 v8 => ∃ j : Nat, j + 1 ≤ 2 ∧ v8 = .int .i64 ((j + 1 : Nat) : Int) ∧ v6 = .int .i64 (ra s r0 j : Int) ∧ (∀ i, 1 ≤ i → i ≤ j → 128 ≤ bt s i ∧ bt s i ≤ 191) ∧
        (j = 0 → ra s r0 j < 32) ∧ (j = 1 → ra s r0 j < 32 * 64) ∧ (j = 2 → ra s r0 j < 32 * 4096) ∧ (j = 3 → ra s r0 j < 32 * 262144))
      (fun _ v8 => 2 - (intOf v8).toNat)
    case atStart => exact ⟨0, by omega, rfl, rfl, fun i _ _ => by omega, fun _ => hr1, fun h => by omega, fun h => by omega, fun h => by omega⟩
    case round =>
      obtain ⟨j, hj, rfl, rfl, hcont, q0, q1, q2, q3⟩ := hrel
      have hrb : ra s r0 j < 8388608 := by omega
      have H := Lib.hid (And.intro hcont (And.intro q0 (And.intro q1 (And.intro q2 q3))))
      clear hcont q0 q1 q2 q3
      by_cases hlt : j + 1 < 2
      · have hgj := bt_get s (j + 1) (by omega)
        have hcl := bt_lt s (j + 1)
        have hstep : ra s r0 (j + 1) = 64 * ra s r0 j + bt s (j + 1) - 128 := rfl
        have HS := Lib.hid hstep
        clear hstep
        obtain ⟨c, hce⟩ : ∃ c, c = bt s (j + 1) := ⟨_, rfl⟩
        have hce' := Lib.hid hce
        rw [← hce] at hgj hcl HS
        clear hce
        obtain ⟨r, hre⟩ : ∃ r, r = ra s r0 j := ⟨_, rfl⟩
        have hre' := Lib.hid hre
        rw [← hre] at hrb HS H ⊢
        clear hre
        by_cases hc : 128 ≤ c ∧ c ≤ 191
        · have hc1 : ¬ (c : Int) < 128 := by omega
          have hc2 : ¬ (191 : Int) < (c : Int) := by omega
          go_wp2_with fail
          go_round
          case rel =>
            obtain ⟨hcont, q0, q1, q2, q3⟩ := H.out
            have hs1 := HS.out
            refine ⟨j + 1, by omega, by go_num, ?_, fun i hi1 hi2 => ?_, fun h => by omega, fun h => by omega, fun h => by omega, fun h => by omega⟩
            · rw [hs1]
              refine congrArg (Value.int .i64) ?_
              omega
            · rcases Nat.lt_or_ge i (j + 1) with hl | hl
              · exact hcont i hi1 (by omega)
              · obtain rfl : i = j + 1 := by omega
                rw [← hce'.out]; exact hc
          case measure => simp [intOf]; omega
        · have hne : p = (0, 0) := by
            rw [HP.out, if_neg]
            have := hce'.out
            have hj3 : j = 0 ∨ j = 1 ∨ j = 2 := by omega
            rcases hj3 with rfl | rfl | rfl <;> simp only [Nat.zero_add, Nat.reduceAdd] at * <;> omega
          clear HP
          subst hne
          by_cases hc1 : (c : Int) < 128
          · go_wp2_with fail
            go_ret2
            exact SizeIs.mk rfl rfl
          · have hc2 : (191 : Int) < (c : Int) := by omega
            go_wp2_with fail
            go_ret2
            exact SizeIs.mk rfl rfl
      · obtain rfl : j = 1 := by omega
        obtain ⟨hcont, _⟩ := H.out
        have k1 := hcont 1
        have k2 := hcont 2
        have k3 := hcont 3
        clear hcont H
        obtain ⟨r, hre⟩ : ∃ r, r = ra s r0 1 := ⟨_, rfl⟩
        rw [← hre] at HP hrb ⊢
        have HRV : Hid (r = 64 * r0 + bt s 1 - 128) := hre
        clear hre
        have K := Lib.hid (And.intro k1 (And.intro k2 k3))
        clear k1 k2 k3
        go_wp2_with fail
        all_goals go_ret2
        all_goals
          obtain ⟨k1, k2, k3⟩ := K.out
          have hp := HP.out
          first
            | (rw [if_pos (by omega)] at hp; subst hp; exact SizeIs.mk rfl rfl)
            | (rw [if_neg (by omega)] at hp; subst hp; exact SizeIs.mk rfl rfl)
            | (exfalso; have h1 := HRV.out; have h2 := HR0.out; omega)
  · have hne : p = (0, 0) := by rw [HP.out, if_neg]; omega
    clear HP
    subst hne
    have hn' : (s.size : Int) < 2 := by omega
    go_enter Tryd.func32, Tryd.ntmps32
    go_wp2_with fail
    go_ret2
    exact SizeIs.mk rfl rfl

set_option maxRecDepth 100000 in
set_option maxHeartbeats 2000000 in
theorem size_3 (s : ByteArray) (w : World) (hs : s.size ≤ maxLen) (h0 : 0 < s.size) (hb : 224 ≤ bt s 0 ∧ bt s 0 ≤ 239) :
    Calls Tryd.prog 32 #[.string s] w (SizeIs (sizeAt s 0) w) := by
  have hg := bt_get s 0 h0
  have hp := size_three s.size (bt s 0) (bt s 1) (bt s 2) (bt s 3) hb (bt_lt _ _) (bt_lt _ _)
  have hpp : sizeAt s 0 = sizeN s.size (bt s 0) (bt s 1) (bt s 2) (bt s 3) := by unfold sizeAt; simp only [Nat.zero_add, Nat.sub_zero]
  rw [← hpp] at hp
  clear hpp
  have hra : ra s (bt s 0 % 16) 2 = 64 * (64 * (bt s 0 % 16) + bt s 1 - 128) + bt s 2 - 128 := rfl
  rw [← hra] at hp
  have HP := Lib.hid hp
  clear hp hra
  generalize sizeAt s 0 = p at *
  unfold maxLen at hs
  have i1 : ¬ (bt s 0 : Int) < 128 := by omega
  have i2 : (224 : Int) ≤ (bt s 0 : Int) := by omega
  have i3 : (bt s 0 : Int) ≤ 239 := by omega
  obtain ⟨r0, hr0⟩ : ∃ r0, r0 = bt s 0 % 16 := ⟨_, rfl⟩
  have hr1 : r0 < 16 := by omega
  have hr2 : ((bt s 0 : Int) % 16) = (r0 : Int) := by omega
  rw [← hr0] at HP
  have HR0 := Lib.hid hr0
  clear hr0
  obtain ⟨b, hbe⟩ : ∃ b, b = bt s 0 := ⟨_, rfl⟩
  rw [← hbe] at *
  clear hbe
  by_cases hn : 3 ≤ s.size
  · have hn' : ¬ (s.size : Int) < 3 := by omega
    go_enter Tryd.func32, Tryd.ntmps32
    go_wp2_with fail
    go_loop [6, 8] (fun v6 v8 => ∃ j : Nat, j + 1 ≤ 3 ∧ v8 = .int .i64 ((j + 1 : Nat) : Int) ∧ v6 = .int .i64 (ra s r0 j : Int) ∧ (∀ i, 1 ≤ i → i ≤ j → 128 ≤ bt s i ∧ bt s i ≤ 191) ∧
        (j = 0 → ra s r0 j < 16) ∧ (j = 1 → ra s r0 j < 16 * 64) ∧ (j = 2 → ra s r0 j < 16 * 4096) ∧ (j = 3 → ra s r0 j < 16 * 262144))
      (fun _ v8 => 3 - (intOf v8).toNat)
    case atStart => exact ⟨0, by omega, rfl, rfl, fun i _ _ => by omega, fun _ => hr1, fun h => by omega, fun h => by omega, fun h => by omega⟩
    case round =>
      obtain ⟨j, hj, rfl, rfl, hcont, q0, q1, q2, q3⟩ := hrel
      have hrb : ra s r0 j < 8388608 := by omega
      have H := Lib.hid (And.intro hcont (And.intro q0 (And.intro q1 (And.intro q2 q3))))
      clear hcont q0 q1 q2 q3
      by_cases hlt : j + 1 < 3
      · have hgj := bt_get s (j + 1) (by omega)
        have hcl := bt_lt s (j + 1)
        have hstep : ra s r0 (j + 1) = 64 * ra s r0 j + bt s (j + 1) - 128 := rfl
        have HS := Lib.hid hstep
        clear hstep
        obtain ⟨c, hce⟩ : ∃ c, c = bt s (j + 1) := ⟨_, rfl⟩
        have hce' := Lib.hid hce
        rw [← hce] at hgj hcl HS
        clear hce
        obtain ⟨r, hre⟩ : ∃ r, r = ra s r0 j := ⟨_, rfl⟩
        have hre' := Lib.hid hre
        rw [← hre] at hrb HS H ⊢
        clear hre
        by_cases hc : 128 ≤ c ∧ c ≤ 191
        · have hc1 : ¬ (c : Int) < 128 := by omega
          have hc2 : ¬ (191 : Int) < (c : Int) := by omega
          go_wp2_with fail
          go_round
          case rel =>
            obtain ⟨hcont, q0, q1, q2, q3⟩ := H.out
            have hs1 := HS.out
            refine ⟨j + 1, by omega, by go_num, ?_, fun i hi1 hi2 => ?_, fun h => by omega, fun h => by omega, fun h => by omega, fun h => by omega⟩
            · rw [hs1]
              refine congrArg (Value.int .i64) ?_
              omega
            · rcases Nat.lt_or_ge i (j + 1) with hl | hl
              · exact hcont i hi1 (by omega)
              · obtain rfl : i = j + 1 := by omega
                rw [← hce'.out]; exact hc
          case measure => simp [intOf]; omega
        · have hne : p = (0, 0) := by
            rw [HP.out, if_neg]
            have := hce'.out
            have hj3 : j = 0 ∨ j = 1 ∨ j = 2 := by omega
            rcases hj3 with rfl | rfl | rfl <;> simp only [Nat.zero_add, Nat.reduceAdd] at * <;> omega
          clear HP
          subst hne
          by_cases hc1 : (c : Int) < 128
          · go_wp2_with fail
            go_ret2
            exact SizeIs.mk rfl rfl
          · have hc2 : (191 : Int) < (c : Int) := by omega
            go_wp2_with fail
            go_ret2
            exact SizeIs.mk rfl rfl
      · obtain rfl : j = 2 := by omega
        obtain ⟨hcont, _⟩ := H.out
        have k1 := hcont 1
        have k2 := hcont 2
        have k3 := hcont 3
        clear hcont H
        obtain ⟨r, hre⟩ : ∃ r, r = ra s r0 2 := ⟨_, rfl⟩
        rw [← hre] at HP hrb ⊢
        have HRV : Hid (r = 64 * (64 * r0 + bt s 1 - 128) + bt s 2 - 128) := hre
        clear hre
        have K := Lib.hid (And.intro k1 (And.intro k2 k3))
        clear k1 k2 k3
        go_wp2_with fail
        all_goals go_ret2
        all_goals
          obtain ⟨k1, k2, k3⟩ := K.out
          have hp := HP.out
          first
            | (rw [if_pos (by omega)] at hp; subst hp; exact SizeIs.mk rfl rfl)
            | (rw [if_neg (by omega)] at hp; subst hp; exact SizeIs.mk rfl rfl)
            | (exfalso; have h1 := HRV.out; have h2 := HR0.out; omega)
  · have hne : p = (0, 0) := by rw [HP.out, if_neg]; omega
    clear HP
    subst hne
    have hn' : (s.size : Int) < 3 := by omega
    go_enter Tryd.func32, Tryd.ntmps32
    go_wp2_with fail
    go_ret2
    exact SizeIs.mk rfl rfl

set_option maxRecDepth 100000 in
set_option maxHeartbeats 2000000 in
theorem size_4 (s : ByteArray) (w : World) (hs : s.size ≤ maxLen) (h0 : 0 < s.size) (hb : 240 ≤ bt s 0 ∧ bt s 0 ≤ 244) :
    Calls Tryd.prog 32 #[.string s] w (SizeIs (sizeAt s 0) w) := by
  have hg := bt_get s 0 h0
  have hp := size_four s.size (bt s 0) (bt s 1) (bt s 2) (bt s 3) hb (bt_lt _ _) (bt_lt _ _) (bt_lt _ _)
  have hpp : sizeAt s 0 = sizeN s.size (bt s 0) (bt s 1) (bt s 2) (bt s 3) := by unfold sizeAt; simp only [Nat.zero_add, Nat.sub_zero]
  rw [← hpp] at hp
  clear hpp
  have hra : ra s (bt s 0 % 8) 3 = 64 * (64 * (64 * (bt s 0 % 8) + bt s 1 - 128) + bt s 2 - 128) + bt s 3 - 128 := rfl
  rw [← hra] at hp
  have HP := Lib.hid hp
  clear hp hra
  generalize sizeAt s 0 = p at *
  unfold maxLen at hs
  have i1 : ¬ (bt s 0 : Int) < 128 := by omega
  have i2 : (240 : Int) ≤ (bt s 0 : Int) := by omega
  have i3 : (bt s 0 : Int) ≤ 244 := by omega
  obtain ⟨r0, hr0⟩ : ∃ r0, r0 = bt s 0 % 8 := ⟨_, rfl⟩
  have hr1 : r0 < 8 := by omega
  have hr2 : ((bt s 0 : Int) % 8) = (r0 : Int) := by omega
  rw [← hr0] at HP
  have HR0 := Lib.hid hr0
  clear hr0
  obtain ⟨b, hbe⟩ : ∃ b, b = bt s 0 := ⟨_, rfl⟩
  rw [← hbe] at *
  clear hbe
  by_cases hn : 4 ≤ s.size
  · have hn' : ¬ (s.size : Int) < 4 := by omega
    go_enter Tryd.func32, Tryd.ntmps32
    go_wp2_with fail
    go_loop [6, 8] (fun v6 v8 => ∃ j : Nat, j + 1 ≤ 4 ∧ v8 = .int .i64 ((j + 1 : Nat) : Int) ∧ v6 = .int .i64 (ra s r0 j : Int) ∧ (∀ i, 1 ≤ i → i ≤ j → 128 ≤ bt s i ∧ bt s i ≤ 191) ∧
        (j = 0 → ra s r0 j < 8) ∧ (j = 1 → ra s r0 j < 8 * 64) ∧ (j = 2 → ra s r0 j < 8 * 4096) ∧ (j = 3 → ra s r0 j < 8 * 262144))
      (fun _ v8 => 4 - (intOf v8).toNat)
    case atStart => exact ⟨0, by omega, rfl, rfl, fun i _ _ => by omega, fun _ => hr1, fun h => by omega, fun h => by omega, fun h => by omega⟩
    case round =>
      obtain ⟨j, hj, rfl, rfl, hcont, q0, q1, q2, q3⟩ := hrel
      have hrb : ra s r0 j < 8388608 := by omega
      have H := Lib.hid (And.intro hcont (And.intro q0 (And.intro q1 (And.intro q2 q3))))
      clear hcont q0 q1 q2 q3
      by_cases hlt : j + 1 < 4
      · have hgj := bt_get s (j + 1) (by omega)
        have hcl := bt_lt s (j + 1)
        have hstep : ra s r0 (j + 1) = 64 * ra s r0 j + bt s (j + 1) - 128 := rfl
        have HS := Lib.hid hstep
        clear hstep
        obtain ⟨c, hce⟩ : ∃ c, c = bt s (j + 1) := ⟨_, rfl⟩
        have hce' := Lib.hid hce
        rw [← hce] at hgj hcl HS
        clear hce
        obtain ⟨r, hre⟩ : ∃ r, r = ra s r0 j := ⟨_, rfl⟩
        have hre' := Lib.hid hre
        rw [← hre] at hrb HS H ⊢
        clear hre
        by_cases hc : 128 ≤ c ∧ c ≤ 191
        · have hc1 : ¬ (c : Int) < 128 := by omega
          have hc2 : ¬ (191 : Int) < (c : Int) := by omega
          go_wp2_with fail
          go_round
          case rel =>
            obtain ⟨hcont, q0, q1, q2, q3⟩ := H.out
            have hs1 := HS.out
            refine ⟨j + 1, by omega, by go_num, ?_, fun i hi1 hi2 => ?_, fun h => by omega, fun h => by omega, fun h => by omega, fun h => by omega⟩
            · rw [hs1]
              refine congrArg (Value.int .i64) ?_
              omega
            · rcases Nat.lt_or_ge i (j + 1) with hl | hl
              · exact hcont i hi1 (by omega)
              · obtain rfl : i = j + 1 := by omega
                rw [← hce'.out]; exact hc
          case measure => simp [intOf]; omega
        · have hne : p = (0, 0) := by
            rw [HP.out, if_neg]
            have := hce'.out
            have hj3 : j = 0 ∨ j = 1 ∨ j = 2 := by omega
            rcases hj3 with rfl | rfl | rfl <;> simp only [Nat.zero_add, Nat.reduceAdd] at * <;> omega
          clear HP
          subst hne
          by_cases hc1 : (c : Int) < 128
          · go_wp2_with fail
            go_ret2
            exact SizeIs.mk rfl rfl
          · have hc2 : (191 : Int) < (c : Int) := by omega
            go_wp2_with fail
            go_ret2
            exact SizeIs.mk rfl rfl
      · obtain rfl : j = 3 := by omega
        obtain ⟨hcont, _⟩ := H.out
        have k1 := hcont 1
        have k2 := hcont 2
        have k3 := hcont 3
        clear hcont H
        obtain ⟨r, hre⟩ : ∃ r, r = ra s r0 3 := ⟨_, rfl⟩
        rw [← hre] at HP hrb ⊢
        have HRV : Hid (r = 64 * (64 * (64 * r0 + bt s 1 - 128) + bt s 2 - 128) + bt s 3 - 128) := hre
        clear hre
        have K := Lib.hid (And.intro k1 (And.intro k2 k3))
        clear k1 k2 k3
        go_wp2_with fail
        all_goals go_ret2
        all_goals
          obtain ⟨k1, k2, k3⟩ := K.out
          have hp := HP.out
          first
            | (rw [if_pos (by omega)] at hp; subst hp; exact SizeIs.mk rfl rfl)
            | (rw [if_neg (by omega)] at hp; subst hp; exact SizeIs.mk rfl rfl)
            | (exfalso; have h1 := HRV.out; have h2 := HR0.out; omega)
  · have hne : p = (0, 0) := by rw [HP.out, if_neg]; omega
    clear HP
    subst hne
    have hn' : (s.size : Int) < 4 := by omega
    go_enter Tryd.func32, Tryd.ntmps32
    go_wp2_with fail
    go_ret2
    exact SizeIs.mk rfl rfl

end Go.Proofs.YtaheddpmidoekaaDoor
