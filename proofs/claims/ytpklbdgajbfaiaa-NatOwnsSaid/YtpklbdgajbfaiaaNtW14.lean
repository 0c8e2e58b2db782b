/- The natural of a word; the bits of a word, walked. -/
import Derived.Test.YtpklbdgajbfaiaaNtW13
namespace Go.Proofs.Ytpklbdgajbfaiaa
open Go.RowKit
set_option linter.unusedVariables false

theorem dg_two {n : Nat} (h : n < 18446744073709551616) : vb 4294967296 [n % 4294967296, n / 4294967296] = n := by
  show n % 4294967296 + 4294967296 * (n / 4294967296 + 4294967296 * 0) = n
  omega
theorem from_any (n : Nat) (w : World) (h : n < 18446744073709551616) :
    Calls Try.prog 26 #[.int .u64 (n : Int)] w fun e w' => ∃ A c, e = .returned (.slice A (dg 4294967296 n).length c) ∧ Fr w.heap.size w' A c (dg 4294967296 n) ∧ Below w.heap.size w w' := by
  have hb : Below w.heap.size w (w.alloc (.cells #[.int .u32 ((n % 4294967296 : Nat) : Int), .int .u32 ((n / 4294967296 : Nat) : Int)] 24)) := (Below.refl _ w).alloc (Nat.le_refl _) _
  have hf : Fr w.heap.size (w.alloc (.cells #[.int .u32 ((n % 4294967296 : Nat) : Int), .int .u32 ((n / 4294967296 : Nat) : Int)] 24)) (some ⟨w.heap.size, 0, none⟩) 2 [n % 4294967296, n / 4294967296] :=
    ⟨Nat.le_refl _, by unfold maxLen; omega, fun _ => ⟨w.heap.size, #[.int .u32 ((n % 4294967296 : Nat) : Int), .int .u32 ((n / 4294967296 : Nat) : Int)], rfl, Nat.le_refl _, heap_alloc_new w _, Nat.le_refl _, rfl⟩⟩
  have hlo : Lo 4294967296 [n % 4294967296, n / 4294967296] := fun x hx => by
    simp at hx
    rcases hx with rfl | rfl <;> omega
  have HT := trim_any (some ⟨w.heap.size, 0, none⟩) 2 _ _ _ hf.rw hf.1 hf.2.1
  have hft := hf.trim
  have ht := trimL_dg (b := 4294967296) (by omega) _ hlo
  rw [dg_two h] at ht
  rw [ht] at HT hft
  replace HT := Lib.hid HT
  have e1 : (n : Int) % 4294967296 = ((n % 4294967296 : Nat) : Int) := by omega
  have e2 : (n : Int) / 4294967296 = ((n / 4294967296 : Nat) : Int) := by omega
  have e3 : ((n / 4294967296 : Nat) : Int) % 4294967296 = ((n / 4294967296 : Nat) : Int) := by omega
  have n0 : (n : Int) < 18446744073709551616 := by omega
  generalize n % 4294967296 = a at *
  generalize n / 4294967296 = b at *
  clear hf hlo ht
  go_enter Try.func26, Try.ntmps26
  go_wp2_with fail
  refine HT.out.mono ?_
  rintro e wx ⟨he, hw⟩
  subst he
  subst hw
  dsimp only
  go_wp2_with fail
  go_ret
  exact ⟨_, _, rfl, hft, hb⟩

end Go.Proofs.Ytpklbdgajbfaiaa
