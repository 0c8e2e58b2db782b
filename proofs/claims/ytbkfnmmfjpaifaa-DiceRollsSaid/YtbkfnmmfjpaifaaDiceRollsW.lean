/- The walk of 'DiceRolls'. -/
import Derived.Test.YtbkfnmmfjpaifaaDiceW3
import Derived.Test.YtbkfnmmfjpaifaaMem
namespace Go.Proofs.Ytbkfnmmfjpaifaa
open Go.RowKit Flt
set_option linter.unusedVariables false

theorem ord_lt0 {b q : Nat} (h : IsV b q) : (FloatKind.f64.format.order b 0 == some .lt) = false := by
  have : FloatKind.f64.format.order b 0 = some (compare q 0) := h.order isV_zero
  rw [this]
  rcases Nat.eq_zero_or_pos q with rfl | hq
  · decide
  · rw [Nat.compare_eq_gt.2 hq]; decide
theorem ord_ge1 {n : Nat} (h : n < 281474976710656) : (FloatKind.f64.format.order (diceW n) 4607182418800017408 == some .gt || FloatKind.f64.format.order (diceW n) 4607182418800017408 == some .eq) = false := by
  have : FloatKind.f64.format.order (diceW n) 4607182418800017408 = some .lt := diceW_lt_one h
  rw [this]; decide

set_option maxHeartbeats 1000000 in
theorem rolls_walk (A : Option Addr) (len cap : Nat) (zs : List Int) (n : Int) (w : World) (hr : RowI .u64 w w.heap.size A len zs) (hlen : len ≤ maxLen) :
    Calls Try.prog 3 #[.slice A len cap, .int .i64 n] w fun r w' => r = .returned (.bool true) ∧ Below w.heap.size w w' := by
  unfold maxLen at hlen
  have HR := Lib.hid hr
  clear hr
  by_cases h100 : 100 < (len : Int)
  · go_enter Try.func3, Try.ntmps3
    go_wp2_with fail
    refine (fixed_any w).mono ?_
    rintro e w1 ⟨rfl, hb⟩
    go_wp2_with fail
    go_ret
    exact ⟨rfl, hb⟩
  · go_enter Try.func3, Try.ntmps3
    go_wp2_with fail
    refine (fixed_any w).mono ?_
    rintro e w1 ⟨rfl, hb⟩
    go_wp2_with fail
    refine (new_any 0 w1 (by decide)).mono ?_
    rintro e w2 ⟨rfl, hD, hb2, hs2⟩
    have hB := hb.trans (hb2.mono hb.size)
    have hg := hb.size
    obtain ⟨g, hgd⟩ : ∃ g, g = w1.heap.size := ⟨_, rfl⟩
    rw [← hgd] at hD hg ⊢
    clear hgd hs2 hb2 hb
    go_wp2_with fail
    refine (state_any 0 w2 (by decide)).mono ?_
    rintro e w3 ⟨rfl, rfl⟩
    go_wp2_with fail
    go_loopw [6, 24] (fun v6 v24 wr => ∃ st sd k : Nat, k ≤ len ∧ v6 = .int .i64 (st : Int) ∧ st < 281474976710656 ∧ v24 = .int .i64 (k : Int) ∧ Dice wr g sd st ∧ Below w.heap.size w wr)
      (fun _ v24 _ => len - (intOf v24).toNat)
    case atStart => exact ⟨_, _, 0, Nat.zero_le _, rfl, seedOf_lt 0, rfl, hD, hB⟩
    case round =>
      obtain ⟨st, sd, k, hk, rfl, hst, rfl, hDr, hBr⟩ := hrel
      clear hD hB
      by_cases hlt : k < len
      · obtain ⟨b, off, rfl, hbB, hcw⟩ := HR.out.at_ hlt
        have hwf := wf_u64_bounds (HR.out.wf hlt)
        generalize zs.getD k 0 = z at *
        obtain ⟨zn, rfl⟩ := Int.eq_ofNat_of_zero_le hwf.1
        have hzn : zn < 18446744073709551616 := by omega
        have hcell : wr.cell? ⟨b, off + k, none⟩ = some (.int .u64 (zn : Int)) := (hBr.cell (p := ⟨b, off + k, none⟩) hbB).trans hcw
        clear hwf
        obtain ⟨wo, rfl⟩ : ∃ wo : World, wo = wr := ⟨_, rfl⟩
        go_wp2_with fail
        go_loopw [6, 9] (fun v6 v9 wi => ∃ su j : Nat, v6 = .int .i64 (su : Int) ∧ su < 281474976710656 ∧ v9 = .int .i64 (j : Int) ∧ j ≤ 20 ∧ Dice wi g sd su ∧ Below w.heap.size w wi)
          (fun _ v9 _ => 20 - (intOf v9).toNat)
        case atStart => exact ⟨_, 0, rfl, hst, rfl, by omega, hDr, hBr⟩
        case round =>
          obtain ⟨su, j, rfl, hsu, rfl, hj, hDi, hBi⟩ := hrel
          clear hDr hBr hcell hcw
          have hnx := nx_lt su
          by_cases hgo : (j : Int) < n ∧ j < 20
          · obtain ⟨hjn, hj20⟩ := hgo
            have hj20' : (j : Int) < 20 := by omega
            have hfo : floatOfInt .f64 (nx su : Int) = natW (nx su) := floatOfInt_nat (by omega)
            have hq := fun w => run_div48 (nx su) (by omega) w
            have hV := isV_diceW (n := nx su) (by omega)
            have o1 := ord_self hV
            have o2 := ord_lt0 hV
            have o3 := ord_ge1 hnx
            clear hV
            go_wp2_with fail
            refine (step_any su _ hsu).mono ?_
            rintro e wx ⟨rfl, rfl⟩
            go_wp2_with fail
            refine (next_any _ _ _ _ hDi).mono ?_
            rintro e wx ⟨rfl, rfl⟩
            have hD2 := hDi.set1 (nx su)
            have hB2 := hBi.setCell (p := ⟨g, 1, none⟩) hg (.int .u64 (nx su : Int))
            go_wp2_with fail
            go_roundw
            case rel => exact ⟨nx su, j + 1, rfl, hnx, by go_num, by omega, hD2, hB2⟩
            case measure => simp [intOf]; omega
          · by_cases hjn : (j : Int) < n
            all_goals
              have hj20' : (j : Int) < n → ¬ (j : Int) < 20 := fun _ => by omega
              clear hgo
              have hfb := f64frombits (zn : Int)
              go_wp2_with fail
              refine (reseed_any _ _ _ _ _ hDi hzn).mono ?_
              rintro e wx ⟨rfl, rfl⟩
              have hD2 := (hDi.set0 zn).set1 (seedOf zn)
              have hB2 := (hBi.setCell (p := ⟨g, 0, none⟩) hg (.float .f64 zn)).setCell (p := ⟨g, 1, none⟩) hg (.int .u64 (seedOf zn : Int))
              go_wp2_with fail
              refine (state_any zn _ hzn).mono ?_
              rintro e wx ⟨rfl, rfl⟩
              go_wp2_with fail
              refine (seed_any _ _ _ _ hD2).mono ?_
              rintro e wx ⟨rfl, rfl⟩
              go_wp2_with fail
              refine (same_self zn _).mono ?_
              rintro e wx ⟨rfl, rfl⟩
              go_wp2_with fail
              go_roundw
              case rel => exact ⟨seedOf zn, zn, k + 1, by omega, rfl, seedOf_lt zn, by go_num, hD2, hB2⟩
              case measure => simp [intOf]; omega
      · have oz : (FloatKind.f64.format.order 0 0 == some .eq) = true := by decide +kernel
        go_wp2_with fail
        refine (reseed_nil _ _).mono ?_
        rintro e wx ⟨rfl, rfl⟩
        go_wp2_with fail
        refine (seed_nil _).mono ?_
        rintro e wx ⟨rfl, rfl⟩
        go_wp2_with fail
        refine (next_nil _).mono ?_
        rintro e wx ⟨rfl, rfl⟩
        go_wp2_with fail
        go_ret
        exact ⟨rfl, hBr⟩

end Go.Proofs.Ytbkfnmmfjpaifaa
