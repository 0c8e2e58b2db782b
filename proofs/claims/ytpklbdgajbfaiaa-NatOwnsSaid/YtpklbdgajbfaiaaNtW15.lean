/- How many bits a natural has, walked. -/
import Derived.Test.YtpklbdgajbfaiaaNtW14
import Derived.Test.YtpklbdgajbfaiaaShelf
namespace Go.Proofs.Ytpklbdgajbfaiaa
open Go.RowKit
set_option linter.unusedVariables false

theorem blen_lt : ∀ f x, x < 2 ^ f → x < 2 ^ Lib.bitLenAux f x
  | 0, x, h => by simpa [Lib.bitLenAux] using h
  | f + 1, x, h => by
    simp only [Lib.bitLenAux]
    by_cases h0 : x = 0
    · rw [if_pos h0, h0]; exact Nat.two_pow_pos _
    · rw [if_neg h0]
      have := blen_lt f (x / 2) (by rw [Nat.pow_succ] at h; omega)
      rw [Nat.add_comm, Nat.pow_succ]; omega
theorem blen_ge : ∀ f x, x < 2 ^ f → x ≠ 0 → 1 ≤ Lib.bitLenAux f x ∧ 2 ^ (Lib.bitLenAux f x - 1) ≤ x
  | 0, x, h, h0 => by simp at h; omega
  | f + 1, x, h, h0 => by
    simp only [Lib.bitLenAux]
    rw [if_neg h0]
    refine ⟨by omega, ?_⟩
    rw [show 1 + Lib.bitLenAux f (x / 2) - 1 = Lib.bitLenAux f (x / 2) by omega]
    by_cases h1 : x / 2 = 0
    · rw [h1]
      have : Lib.bitLenAux f 0 = 0 := by cases f <;> simp [Lib.bitLenAux]
      rw [this]; simp; omega
    · have := blen_ge f (x / 2) (by rw [Nat.pow_succ] at h; omega) h1
      obtain ⟨g, hg⟩ : ∃ g, Lib.bitLenAux f (x / 2) = g + 1 := ⟨Lib.bitLenAux f (x / 2) - 1, by omega⟩
      rw [hg] at this ⊢
      rw [Nat.pow_succ]
      have h2 : 2 ^ g ≤ x / 2 := this.2
      omega
/-- How many bits. -/
def nbits (l : List Nat) : Nat := if l.length = 0 then 0 else 32 * (l.length - 1) + Lib.bitLen (l.getD (l.length - 1) 0)
theorem top_bits {x : Nat} (hx : x < 4294967296) (h0 : x ≠ 0) : 1 ≤ Lib.bitLen x ∧ Lib.bitLen x ≤ 32 ∧ 2 ^ (Lib.bitLen x - 1) ≤ x ∧ x < 2 ^ Lib.bitLen x := by
  have h1 := blen_lt 64 x (by omega)
  have h2 := blen_ge 64 x (by omega) h0
  exact ⟨h2.1, Lib.bitLen_le x 32 (by omega) (by omega), h2.2, h1⟩

theorem bits_any (A : Option Addr) (c B : Nat) (l : List Nat) (w : World) (hr : Rw .u32 w B A l) (hlo : Lo 4294967296 l) (hl : l.length ≤ 1000000) :
    Calls Try.prog 27 #[.slice A l.length c] w fun e w' => e = .returned (.int .i64 (nbits l : Int)) ∧ w = w' := by
  unfold nbits
  by_cases h0 : l.length = 0
  · rw [if_pos h0, h0]
    clear hr
    go_enter Try.func27, Try.ntmps27
    go_wp2_with fail
    go_ret
    exact ⟨rfl, rfl⟩
  · rw [if_neg h0]
    obtain ⟨b, off, rfl, _, hcell⟩ := hr.at_ (i := l.length - 1) (by omega)
    have hx := lo_getD (b := 4294967296) (by omega) hlo (l.length - 1)
    generalize l.getD (l.length - 1) 0 = x at *
    clear hr
    obtain ⟨n, hn⟩ : ∃ n, l.length = n + 1 := ⟨l.length - 1, by omega⟩
    rw [hn] at hl hcell ⊢
    clear hn h0
    rw [show n + 1 - 1 = n by omega] at hcell ⊢
    have t2 : ((n : Int) + 1 == 0) = false := by rw [beq_eq_false_iff_ne]; omega
    have HL := Lib.hid (fun w => show Calls Try.prog 43 #[.int .u32 (x : Int)] w fun e w' => e = .returned (.int .i64 (Lib.bitLen x : Int)) ∧ w' = w from Try.bits_Len32 (x : Int) w (by omega) (by omega))
    have hb := Lib.bitLen_le x 32 (by omega) (by omega)
    generalize Lib.bitLen x = t at *
    go_enter Try.func27, Try.ntmps27
    go_wp2_with fail
    refine (HL.out _).mono ?_
    rintro e wx ⟨he, hw⟩
    subst he
    subst hw
    dsimp only
    go_wp2_with fail
    go_ret
    exact ⟨by push_cast; rfl, rfl⟩

end Go.Proofs.Ytpklbdgajbfaiaa
