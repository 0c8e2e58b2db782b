/- What is refused because it is no natural. -/
import Derived.Test.YtpklbdgajbfaiaaNtW19
namespace Go.Proofs.Ytpklbdgajbfaiaa
open Go.RowKit
set_option linter.unusedVariables false

theorem nadd_bad (A : Option Addr) (c B : Nat) (l1 : List Nat) (A2 : Option Addr) (c2 : Nat) (l2 : List Nat) (w : World) (hr : Rw .u32 w B A l1) (hr2 : Rw .u32 w B A2 l2) (hl1 : l1.length ≤ 1000000) (hl2 : l2.length ≤ 1000000)
    (h : okL l1 = false ∨ okL l2 = false) :
    Calls Try.prog 10 #[.slice A l1.length c, .slice A2 l2.length c2] w fun e w' => e = .returned (.tuple #[.slice none 0 0, .int .i64 30]) ∧ w = w' := by
  have HV1 := valid_any A c B l1 w hr (by unfold maxLen; omega)
  have HV2 := valid_any A2 c2 B l2 w hr2 (by unfold maxLen; omega)
  generalize l1.length = n1 at *
  generalize l2.length = n2 at *
  by_cases h1 : okL l1 = true
  · have h2 : okL l2 = false := by
      rcases h with h | h
      · rw [h1] at h; cases h
      · exact h
    rw [h1] at HV1
    rw [h2] at HV2
    replace HV1 := Lib.hid HV1
    replace HV2 := Lib.hid HV2
    clear hr hr2 h h1 h2
    go_enter Try.func10, Try.ntmps10
    go_wp2_with fail
    refine HV1.out.mono ?_
    rintro e w' ⟨he, hw⟩
    subst he
    subst hw
    dsimp only
    go_wp2_with fail
    refine HV2.out.mono ?_
    rintro e w' ⟨he, hw⟩
    subst he
    subst hw
    dsimp only
    go_wp2_with fail
    go_ret2
    exact ⟨rfl, rfl⟩
  · have h1 : okL l1 = false := by simpa using h1
    rw [h1] at HV1
    replace HV1 := Lib.hid HV1
    clear hr hr2 h h1 HV2
    go_enter Try.func10, Try.ntmps10
    go_wp2_with fail
    refine HV1.out.mono ?_
    rintro e w' ⟨he, hw⟩
    subst he
    subst hw
    dsimp only
    go_wp2_with fail
    go_ret2
    exact ⟨rfl, rfl⟩

theorem nmul_bad (A : Option Addr) (c B : Nat) (l1 : List Nat) (A2 : Option Addr) (c2 : Nat) (l2 : List Nat) (w : World) (hr : Rw .u32 w B A l1) (hr2 : Rw .u32 w B A2 l2) (hl1 : l1.length ≤ 1000000) (hl2 : l2.length ≤ 1000000)
    (h : okL l1 = false ∨ okL l2 = false) :
    Calls Try.prog 12 #[.slice A l1.length c, .slice A2 l2.length c2] w fun e w' => e = .returned (.tuple #[.slice none 0 0, .int .i64 30]) ∧ w = w' := by
  have HV1 := valid_any A c B l1 w hr (by unfold maxLen; omega)
  have HV2 := valid_any A2 c2 B l2 w hr2 (by unfold maxLen; omega)
  generalize l1.length = n1 at *
  generalize l2.length = n2 at *
  by_cases h1 : okL l1 = true
  · have h2 : okL l2 = false := by
      rcases h with h | h
      · rw [h1] at h; cases h
      · exact h
    rw [h1] at HV1
    rw [h2] at HV2
    replace HV1 := Lib.hid HV1
    replace HV2 := Lib.hid HV2
    clear hr hr2 h h1 h2
    go_enter Try.func12, Try.ntmps12
    go_wp2_with fail
    refine HV1.out.mono ?_
    rintro e w' ⟨he, hw⟩
    subst he
    subst hw
    dsimp only
    go_wp2_with fail
    refine HV2.out.mono ?_
    rintro e w' ⟨he, hw⟩
    subst he
    subst hw
    dsimp only
    go_wp2_with fail
    go_ret2
    exact ⟨rfl, rfl⟩
  · have h1 : okL l1 = false := by simpa using h1
    rw [h1] at HV1
    replace HV1 := Lib.hid HV1
    clear hr hr2 h h1 HV2
    go_enter Try.func12, Try.ntmps12
    go_wp2_with fail
    refine HV1.out.mono ?_
    rintro e w' ⟨he, hw⟩
    subst he
    subst hw
    dsimp only
    go_wp2_with fail
    go_ret2
    exact ⟨rfl, rfl⟩

theorem nsub_bad (A : Option Addr) (c B : Nat) (l1 : List Nat) (A2 : Option Addr) (c2 : Nat) (l2 : List Nat) (w : World) (hr : Rw .u32 w B A l1) (hr2 : Rw .u32 w B A2 l2) (hl1 : l1.length ≤ 1000000) (hl2 : l2.length ≤ 1000000)
    (h : okL l1 = false ∨ okL l2 = false) :
    Calls Try.prog 11 #[.slice A l1.length c, .slice A2 l2.length c2] w fun e w' => e = .returned (.tuple #[.slice none 0 0, .int .i64 30]) ∧ w = w' := by
  have HV1 := valid_any A c B l1 w hr (by unfold maxLen; omega)
  have HV2 := valid_any A2 c2 B l2 w hr2 (by unfold maxLen; omega)
  generalize l1.length = n1 at *
  generalize l2.length = n2 at *
  by_cases h1 : okL l1 = true
  · have h2 : okL l2 = false := by
      rcases h with h | h
      · rw [h1] at h; cases h
      · exact h
    rw [h1] at HV1
    rw [h2] at HV2
    replace HV1 := Lib.hid HV1
    replace HV2 := Lib.hid HV2
    clear hr hr2 h h1 h2
    go_enter Try.func11, Try.ntmps11
    go_wp2_with fail
    refine HV1.out.mono ?_
    rintro e w' ⟨he, hw⟩
    subst he
    subst hw
    dsimp only
    go_wp2_with fail
    refine HV2.out.mono ?_
    rintro e w' ⟨he, hw⟩
    subst he
    subst hw
    dsimp only
    go_wp2_with fail
    go_ret2
    exact ⟨rfl, rfl⟩
  · have h1 : okL l1 = false := by simpa using h1
    rw [h1] at HV1
    replace HV1 := Lib.hid HV1
    clear hr hr2 h h1 HV2
    go_enter Try.func11, Try.ntmps11
    go_wp2_with fail
    refine HV1.out.mono ?_
    rintro e w' ⟨he, hw⟩
    subst he
    subst hw
    dsimp only
    go_wp2_with fail
    go_ret2
    exact ⟨rfl, rfl⟩

theorem ndiv_bad (A : Option Addr) (c B : Nat) (l1 : List Nat) (A2 : Option Addr) (c2 : Nat) (l2 : List Nat) (w : World) (hr : Rw .u32 w B A l1) (hr2 : Rw .u32 w B A2 l2) (hl1 : l1.length ≤ 1000000) (hl2 : l2.length ≤ 1000000)
    (h : okL l1 = false ∨ okL l2 = false) :
    Calls Try.prog 13 #[.slice A l1.length c, .slice A2 l2.length c2] w fun e w' => e = .returned (.tuple #[.slice none 0 0, .slice none 0 0, .int .i64 30]) ∧ w = w' := by
  have HV1 := valid_any A c B l1 w hr (by unfold maxLen; omega)
  have HV2 := valid_any A2 c2 B l2 w hr2 (by unfold maxLen; omega)
  generalize l1.length = n1 at *
  generalize l2.length = n2 at *
  by_cases h1 : okL l1 = true
  · have h2 : okL l2 = false := by
      rcases h with h | h
      · rw [h1] at h; cases h
      · exact h
    rw [h1] at HV1
    rw [h2] at HV2
    replace HV1 := Lib.hid HV1
    replace HV2 := Lib.hid HV2
    clear hr hr2 h h1 h2
    go_enter Try.func13, Try.ntmps13
    go_wp2_with fail
    refine HV1.out.mono ?_
    rintro e w' ⟨he, hw⟩
    subst he
    subst hw
    dsimp only
    go_wp2_with fail
    refine HV2.out.mono ?_
    rintro e w' ⟨he, hw⟩
    subst he
    subst hw
    dsimp only
    go_wp2_with fail
    go_ret3
    exact ⟨rfl, rfl⟩
  · have h1 : okL l1 = false := by simpa using h1
    rw [h1] at HV1
    replace HV1 := Lib.hid HV1
    clear hr hr2 h h1 HV2
    go_enter Try.func13, Try.ntmps13
    go_wp2_with fail
    refine HV1.out.mono ?_
    rintro e w' ⟨he, hw⟩
    subst he
    subst hw
    dsimp only
    go_wp2_with fail
    go_ret3
    exact ⟨rfl, rfl⟩

theorem nshl_bad (A : Option Addr) (c B : Nat) (l1 : List Nat) (k : Int) (w : World) (hr : Rw .u32 w B A l1) (hl1 : l1.length ≤ 1000000) (h1 : okL l1 = false) :
    Calls Try.prog 14 #[.slice A l1.length c, .int .i64 k] w fun e w' => e = .returned (.tuple #[.slice none 0 0, .int .i64 30]) ∧ w = w' := by
  have HV1 := valid_any A c B l1 w hr (by unfold maxLen; omega)
  generalize l1.length = n1 at *
  rw [h1] at HV1
  replace HV1 := Lib.hid HV1
  clear hr h1
  go_enter Try.func14, Try.ntmps14
  go_wp2_with fail
  refine HV1.out.mono ?_
  rintro e w' ⟨he, hw⟩
  subst he
  subst hw
  dsimp only
  go_wp2_with fail
  go_ret2
  exact ⟨rfl, rfl⟩

theorem ntext_bad (A : Option Addr) (c B : Nat) (l1 : List Nat) (w : World) (hr : Rw .u32 w B A l1) (hl1 : l1.length ≤ 1000000) (h1 : okL l1 = false) :
    Calls Try.prog 21 #[.slice A l1.length c] w fun e w' => e = .returned (.tuple #[.string ⟨#[]⟩, .int .i64 30]) ∧ w = w' := by
  have HV1 := valid_any A c B l1 w hr (by unfold maxLen; omega)
  generalize l1.length = n1 at *
  rw [h1] at HV1
  replace HV1 := Lib.hid HV1
  clear hr h1
  go_enter Try.func21, Try.ntmps21
  go_wp2_with fail
  refine HV1.out.mono ?_
  rintro e w' ⟨he, hw⟩
  subst he
  subst hw
  dsimp only
  go_wp2_with fail
  go_ret2
  exact ⟨rfl, rfl⟩

end Go.Proofs.Ytpklbdgajbfaiaa
