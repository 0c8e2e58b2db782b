/- The walk of 'DiceApart'. -/
import Derived.Test.YtbkfnmmfjpaifaaDiceW3
import Derived.Test.YtbkfnmmfjpaifaaMem
import Derived.Deep.RegionHeld3
namespace Go.Proofs.Ytbkfnmmfjpaifaa
open Go.RowKit Flt
set_option linter.unusedVariables false

/-- The state behind so many calls. -/
def iter (s : Nat) : Nat → Nat
  | 0 => s
  | k + 1 => nx (iter s k)
/-- What so many calls answer. -/
def told (s k : Nat) : List Value := (List.range k).map fun i => Value.float .f64 (diceW (iter s (i + 1)))
theorem told_len (s k : Nat) : (told s k).length = k := by simp [told]
theorem told_succ (s k : Nat) : told s (k + 1) = told s k ++ [.float .f64 (diceW (nx (iter s k)))] := by simp [told, List.range_succ, iter]
theorem told_at (s k j : Nat) (h : j < k) : (told s k)[j]? = some (.float .f64 (diceW (nx (iter s j)))) := by simp [told, iter, h]

theorem info_f64 : (Try.prog.info? 26).map (fun i => (i.zero, i.size, i.bytes)) = some (some (.float .f64 0), 1, 8) := by kernel_rfl

set_option maxHeartbeats 1000000 in
theorem apart_walk (x : Nat) (n : Int) (w : World) (hx : x < 18446744073709551616) :
    Calls Try.prog 4 #[.int .u64 (x : Int), .int .i64 n] w fun r w' => r = .returned (.bool true) ∧ Below w.heap.size w w' := by
  obtain ⟨i0, hi, hz0, hz1, hz2⟩ := info_parts info_f64
  have hfb := f64frombits (x : Int)
  go_enter Try.func4, Try.ntmps4
  go_wp2_with fail
  refine (fixed_any w).mono ?_
  rintro e w1 ⟨rfl, hb⟩
  go_wp2_with fail
  refine (new_any x w1 hx).mono ?_
  rintro e w2 ⟨rfl, hD, hb2, hs2⟩
  have hB := hb.trans (hb2.mono hb.size)
  have hg := hb.size
  obtain ⟨g, hgd⟩ : ∃ g, g = w1.heap.size := ⟨_, rfl⟩
  rw [← hgd] at hD hg hs2 ⊢
  clear hgd hb2 hb
  go_wp2_with fail
  refine (new_any x w2 hx).mono ?_
  rintro e w3 ⟨rfl, hE, hb3, hs3⟩
  have hB3 := hB.trans (hb3.mono hB.size)
  have hgh : g < w2.heap.size := by omega
  obtain ⟨h, hhd⟩ : ∃ h, h = w2.heap.size := ⟨_, rfl⟩
  have hD3 : Dice w3 g x (seedOf x) := (hb3.block g hgh).trans hD
  rw [← hhd] at hE hgh hs3 ⊢
  clear hhd hb3 hB hs2 hD hs3
  have hseed := seedOf_lt x
  go_wp2_with fail
  go_loopw [8, 9] (fun v8 v9 wr => ∃ k : Nat, v9 = .int .i64 (k : Int) ∧ k ≤ 50 ∧ wr.ownsRow w.heap.size 26 1 v8 k (told (seedOf x) k) ∧ v8.ownBlock ≠ some g ∧ v8.ownBlock ≠ some h ∧
      Dice wr g x (iter (seedOf x) k) ∧ Dice wr h x (seedOf x) ∧ Below w.heap.size w wr)
    (fun _ v9 _ => 50 - (intOf v9).toNat)
  case atStart => exact ⟨0, rfl, by omega, World.ownsRow_nil _ _ _ _, by simp [Value.ownBlock], by simp [Value.ownBlock], hD3, hE, hB3⟩
  case round =>
    obtain ⟨k, rfl, hk, hown, hne1, hne2, hDr, hEr, hBr⟩ := hrel
    clear hD3 hE hB3
    by_cases hgo : (k : Int) < n ∧ (k : Int) < 50
    · obtain ⟨hkn, hk50⟩ := hgo
      go_wp2_with fail
      refine (next_any _ _ _ _ hDr).mono ?_
      rintro e wx ⟨rfl, rfl⟩
      have hown1 := own_far hown (p := ⟨g, 1, none⟩) hne1 (.int .u64 (nx (iter (seedOf x) k) : Int))
      have hD1 := hDr.set1 (nx (iter (seedOf x) k))
      have hE1 := hEr.far (p := ⟨g, 1, none⟩) (by simp; omega) (.int .u64 (nx (iter (seedOf x) k) : Int))
      have hB1 := hBr.setCell (p := ⟨g, 1, none⟩) hg (.int .u64 (nx (iter (seedOf x) k) : Int))
      have hgl := hDr.lt
      have hhl := hEr.lt
      have hsz0 : (wr.setCell ⟨g, 1, none⟩ (.int .u64 (nx (iter (seedOf x) k) : Int))).heap.size = wr.heap.size := by simp [World.setCell]
      have hsz := Lib.hid hsz0
      clear hsz0
      go_wp2_with (at_builtin; refine wpList_append1 35 26 (.tmp 34) (.tmp 37) rfl rfl w.heap.size Try.underlying35 info_f64 rfl rfl hown1 rfl hsz.out rfl (by unfold maxLen; omega) (by omega) (by have := hB1.size; simp [World.setCell] at this ⊢; omega) ?_; intro v' w5 hown' hgrow hat; clear hown hDr hEr hBr)
      go_roundw
      case rel =>
        refine ⟨k + 1, by go_num, by omega, by rw [told_succ]; exact hown', ?_, ?_, grown_block hgrow hD1 hne1, grown_block hgrow hE1 hne2, hB1.grown hgrow hB1.size fun r hr => (hown1.lt r hr).1⟩
        · rcases hat with e | e <;> rw [e]
          · exact hne1
          · simp; omega
        · rcases hat with e | e <;> rw [e]
          · exact hne2
          · simp; omega
      case measure => simp [intOf]; omega
    · by_cases hkn : (k : Int) < n
      all_goals
        have hk50 : (k : Int) < n → ¬ (k : Int) < 50 := fun _ => by omega
        clear hgo
        obtain ⟨A, c, rfl, hkc, hcm, _, hform⟩ := own_form hown
        go_wp2_with fail
        obtain ⟨wo, rfl⟩ : ∃ wo : World, wo = wr := ⟨_, rfl⟩
        go_loopw [41] (fun v41 wi => ∃ j : Nat, v41 = .int .i64 (j : Int) ∧ j ≤ k ∧ wi.ownsRow w.heap.size 26 1 (.slice A k c) k (told (seedOf x) k) ∧ Dice wi g x (iter (seedOf x) k) ∧ Dice wi h x (iter (seedOf x) j) ∧ Below w.heap.size w wi)
          (fun v41 _ => k - (intOf v41).toNat)
        case atStart => exact ⟨0, rfl, by omega, hown, hDr, hEr, hBr⟩
        case round =>
          obtain ⟨j, rfl, hj, hown2, hDj, hEj, hBj⟩ := hrel
          clear hDr hEr hBr hown hform
          by_cases hjk : j < k
          · obtain ⟨gl, rfl, hbl, hgl, hcl, _⟩ := own_at hown2 (told_at _ _ _ hjk)
            have hne : ¬ h = gl := fun e => hne2 (by rw [e]; rfl)
            have hj0 : (0 : Int) ≤ (j : Int) := Int.natCast_nonneg _
            have hj1 : (j : Int) < (k : Int) := by omega
            have o1 := ord_self (isV_diceW (n := nx (iter (seedOf x) j)) (by have := nx_lt (iter (seedOf x) j); omega))
            go_wp2_with fail
            go_region_held3 (fun w' => w'.cell? ⟨gl, j, none⟩ = some (.float .f64 (diceW (nx (iter (seedOf x) j)))))
              (first | go_keep | (rw [World.cell?_setCell_other _ _ _ _ (by simp [hne])]; assumption))
              (first | (go_at_call 11; refine (next_any h x (iter (seedOf x) j) _ ?_).mono ?_; exact hEj; rintro e wx ⟨rfl, rfl⟩))
            go_wp2_with fail
            go_roundw
            case rel =>
              refine ⟨j + 1, by go_num, by omega, (own_far hown2 (p := ⟨h, 1, none⟩) hne2 _).drew, hDj.far (p := ⟨h, 1, none⟩) (by simp; omega) _, hEj.set1 _, (hBj.setCell (p := ⟨h, 1, none⟩) (by simp; omega) _).drew⟩
            case measure => simp [intOf]; omega
          · go_wp2_with fail
            refine (seed_any _ _ _ _ hDj).mono ?_
            rintro e wx ⟨rfl, rfl⟩
            go_wp2_with fail
            refine (same_self x _).mono ?_
            rintro e wx ⟨rfl, rfl⟩
            go_wp2_with fail
            go_ret
            exact ⟨rfl, hBj⟩

end Go.Proofs.Ytbkfnmmfjpaifaa
