/- The walks of 'Fold' and 'capital', of the program and of the document. -/
import Derived.Test.YtaheddpmidoekaaDoorUsW3
namespace Go.Proofs.YtaheddpmidoekaaDoor
open Go.RowKit
set_option linter.unusedVariables false

/-- The small letter of a code. -/
def foldC (c : Int) (m : Bool) : Int := if (65 ≤ c ∧ c ≤ 90) ∨ (m = false ∧ 192 ≤ c ∧ c ≤ 222 ∧ c ≠ 215) then c + 32 else c
/-- The capital of a code. -/
def capC (c : Int) (m : Bool) : Int := if (97 ≤ c ∧ c ≤ 122) ∨ (m = false ∧ 224 ≤ c ∧ c ≤ 254 ∧ c ≠ 247) then c - 32 else c

set_option maxHeartbeats 800000 in
theorem fold_any (c : Int) (m : Bool) (w : World) :
    Calls Tryd.prog 21 #[.int .i64 c, .bool m] w fun e w' => e = .returned (.int .i64 (foldC c m)) ∧ w = w' := by
  by_cases h1 : 65 ≤ c
  · by_cases h2 : c ≤ 90
    · rw [show foldC c m = c + 32 from if_pos (.inl ⟨h1, h2⟩)]
      go_enter Tryd.func21, Tryd.ntmps21
      go_wp2_with fail
      go_ret
      exact ⟨rfl, rfl⟩
    · cases m with
      | true =>
        rw [show foldC c true = c from if_neg (by simp; omega)]
        go_enter Tryd.func21, Tryd.ntmps21
        go_wp2_with fail
        go_ret
        exact ⟨rfl, rfl⟩
      | false =>
        by_cases h3 : 192 ≤ c
        · by_cases h4 : c ≤ 222
          · by_cases h5 : c = 215
            · subst h5
              rw [show foldC 215 false = 215 from by decide]
              go_enter Tryd.func21, Tryd.ntmps21
              go_wp2_with fail
              go_ret
              exact ⟨rfl, rfl⟩
            · rw [show foldC c false = c + 32 from if_pos (.inr ⟨rfl, h3, h4, h5⟩)]
              have h5' : (c != 215) = true := by rw [bne_iff_ne]; exact h5
              go_enter Tryd.func21, Tryd.ntmps21
              go_wp2_with fail
              go_ret
              exact ⟨rfl, rfl⟩
          · rw [show foldC c false = c from if_neg (by simp; omega)]
            go_enter Tryd.func21, Tryd.ntmps21
            go_wp2_with fail
            go_ret
            exact ⟨rfl, rfl⟩
        · rw [show foldC c false = c from if_neg (by simp; omega)]
          go_enter Tryd.func21, Tryd.ntmps21
          go_wp2_with fail
          go_ret
          exact ⟨rfl, rfl⟩
  · have h3 : ¬ 192 ≤ c := by omega
    rw [show foldC c m = c from if_neg (by simp; omega)]
    cases m <;>
    · go_enter Tryd.func21, Tryd.ntmps21
      go_wp2_with fail
      go_ret
      exact ⟨rfl, rfl⟩

theorem cap_yes (c : Int) (m : Bool) (h : 97 ≤ c) (h2 : c ≤ 1114367) : capC c m = if foldC (c - 32) m = c then c - 32 else c := by
  unfold capC foldC
  cases m <;> simp <;> (repeat' split) <;> omega

set_option maxHeartbeats 800000 in
theorem cap_any (c : Int) (m : Bool) (w : World) (h0 : 0 ≤ c) (h1 : c ≤ 1114367) :
    Calls Tryd.prog 36 #[.int .i64 c, .bool m] w fun e w' => e = .returned (.int .i64 (capC c m)) ∧ w = w' := by
  by_cases h : 97 ≤ c
  · rw [cap_yes c m h h1]
    have hf := Lib.hid (fold_any (c - 32) m w)
    generalize foldC (c - 32) m = d at *
    by_cases hd : d = c
    · subst hd
      rw [if_pos rfl]
      go_enter Tryd.func36, Tryd.ntmps36
      go_wp2_with fail
      refine hf.out.mono ?_
      rintro e w1 ⟨rfl, rfl⟩
      go_wp2_with fail
      go_ret
      exact ⟨rfl, rfl⟩
    · rw [if_neg hd]
      have hd' : (d == c) = false := by rw [beq_eq_false_iff_ne]; exact hd
      go_enter Tryd.func36, Tryd.ntmps36
      go_wp2_with fail
      refine hf.out.mono ?_
      rintro e w1 ⟨rfl, rfl⟩
      go_wp2_with fail
      go_ret
      exact ⟨rfl, rfl⟩
  · have hn : ¬ 65 ≤ c - 32 := by omega
    rw [show capC c m = c from if_neg (by simp; omega)]
    go_enter Tryd.func36, Tryd.ntmps36
    go_wp2_with fail
    go_ret
    exact ⟨rfl, rfl⟩

set_option maxHeartbeats 800000 in
theorem rfold_any (c : Int) (m : Bool) (w : World) :
    Calls Tryd.prog 22 #[.int .i64 c, .bool m] w fun e w' => e = .returned (.int .i64 (foldC c m)) ∧ w = w' := by
  by_cases h1 : 65 ≤ c ∧ c ≤ 90
  · rw [show foldC c m = c + 32 from if_pos (.inl h1)]
    have h2 := h1.1
    have h3 := h1.2
    · go_enter Tryd.func22, Tryd.ntmps22
      go_wp2_with fail
      go_ret
      exact ⟨rfl, rfl⟩
  · have h2 : 65 ≤ c → ¬ c ≤ 90 := fun h => by omega
    cases m with
    | true =>
      rw [show foldC c true = c from if_neg (by simp; omega)]
      by_cases h4 : 65 ≤ c
      · have h5 := h2 h4
        clear h2
        go_enter Tryd.func22, Tryd.ntmps22
        go_wp2_with fail
        go_ret
        exact ⟨rfl, rfl⟩
      · clear h2
        go_enter Tryd.func22, Tryd.ntmps22
        go_wp2_with fail
        go_ret
        exact ⟨rfl, rfl⟩
    | false =>
      by_cases h6 : 192 ≤ c ∧ c ≤ 222 ∧ c ≠ 215
      · rw [show foldC c false = c + 32 from if_pos (.inr ⟨rfl, h6⟩)]
        have k1 := h6.1
        have k2 := h6.2.1
        have k3 : (c != 215) = true := by rw [bne_iff_ne]; exact h6.2.2
        have k4 : 65 ≤ c := by omega
        have k5 : ¬ c ≤ 90 := by omega
        clear h2 h1 h6
        go_enter Tryd.func22, Tryd.ntmps22
        go_wp2_with fail
        go_ret
        exact ⟨rfl, rfl⟩
      · rw [show foldC c false = c from if_neg (by simp; omega)]
        by_cases h4 : 65 ≤ c
        · have h5 := h2 h4
          clear h2
          by_cases h7 : 192 ≤ c
          · by_cases h8 : c ≤ 222
            · obtain rfl : c = 215 := by omega
              clear h6 h1
              go_enter Tryd.func22, Tryd.ntmps22
              go_wp2_with fail
              go_ret
              exact ⟨rfl, rfl⟩
            · clear h6 h1
              go_enter Tryd.func22, Tryd.ntmps22
              go_wp2_with fail
              go_ret
              exact ⟨rfl, rfl⟩
          · clear h6 h1
            go_enter Tryd.func22, Tryd.ntmps22
            go_wp2_with fail
            go_ret
            exact ⟨rfl, rfl⟩
        · have h7 : ¬ 192 ≤ c := by omega
          clear h2 h6 h1
          go_enter Tryd.func22, Tryd.ntmps22
          go_wp2_with fail
          go_ret
          exact ⟨rfl, rfl⟩

set_option maxHeartbeats 800000 in
theorem rcap_any (c : Int) (m : Bool) (w : World) :
    Calls Tryd.prog 35 #[.int .i64 c, .bool m] w fun e w' => e = .returned (.int .i64 (capC c m)) ∧ w = w' := by
  by_cases h1 : 97 ≤ c ∧ c ≤ 122
  · rw [show capC c m = c - 32 from if_pos (.inl h1)]
    have h2 := h1.1
    have h3 := h1.2
    · go_enter Tryd.func35, Tryd.ntmps35
      go_wp2_with fail
      go_ret
      exact ⟨rfl, rfl⟩
  · have h2 : 97 ≤ c → ¬ c ≤ 122 := fun h => by omega
    cases m with
    | true =>
      rw [show capC c true = c from if_neg (by simp; omega)]
      by_cases h4 : 97 ≤ c
      · have h5 := h2 h4
        clear h2
        go_enter Tryd.func35, Tryd.ntmps35
        go_wp2_with fail
        go_ret
        exact ⟨rfl, rfl⟩
      · clear h2
        go_enter Tryd.func35, Tryd.ntmps35
        go_wp2_with fail
        go_ret
        exact ⟨rfl, rfl⟩
    | false =>
      by_cases h6 : 224 ≤ c ∧ c ≤ 254 ∧ c ≠ 247
      · rw [show capC c false = c - 32 from if_pos (.inr ⟨rfl, h6⟩)]
        have k1 := h6.1
        have k2 := h6.2.1
        have k3 : (c != 247) = true := by rw [bne_iff_ne]; exact h6.2.2
        have k4 : 97 ≤ c := by omega
        have k5 : ¬ c ≤ 122 := by omega
        clear h2 h1 h6
        go_enter Tryd.func35, Tryd.ntmps35
        go_wp2_with fail
        go_ret
        exact ⟨rfl, rfl⟩
      · rw [show capC c false = c from if_neg (by simp; omega)]
        by_cases h4 : 97 ≤ c
        · have h5 := h2 h4
          clear h2
          by_cases h7 : 224 ≤ c
          · by_cases h8 : c ≤ 254
            · obtain rfl : c = 247 := by omega
              clear h6 h1
              go_enter Tryd.func35, Tryd.ntmps35
              go_wp2_with fail
              go_ret
              exact ⟨rfl, rfl⟩
            · clear h6 h1
              go_enter Tryd.func35, Tryd.ntmps35
              go_wp2_with fail
              go_ret
              exact ⟨rfl, rfl⟩
          · clear h6 h1
            go_enter Tryd.func35, Tryd.ntmps35
            go_wp2_with fail
            go_ret
            exact ⟨rfl, rfl⟩
        · have h7 : ¬ 224 ≤ c := by omega
          clear h2 h6 h1
          go_enter Tryd.func35, Tryd.ntmps35
          go_wp2_with fail
          go_ret
          exact ⟨rfl, rfl⟩

end Go.Proofs.YtaheddpmidoekaaDoor
