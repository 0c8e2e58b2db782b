/- 'A call's parameter hides the variable of all of its name', walked. -/
import Derived.Test.YtbpaiocbgbpiaaaFrWF
import Derived.Test.YtbpaiocbgbpiaaaFrHidP
import Derived.Lib.MinMax
import Derived.WalkSmall
namespace Go.Proofs.Ytbpaiocbgbpiaaa
open Go.RowKit
set_option linter.unusedVariables false
set_option linter.unusedSimpArgs false

theorem box4 (w : World) (x0 x1 x2 x3 : Value) (e : TypeId) : (w.alloc (.cells #[x0, x1, x2, x3] e)).cell? ⟨w.heap.size, 0, none⟩ = some x0 ∧ (w.alloc (.cells #[x0, x1, x2, x3] e)).cell? ⟨w.heap.size, 1, none⟩ = some x1 ∧ (w.alloc (.cells #[x0, x1, x2, x3] e)).cell? ⟨w.heap.size, 2, none⟩ = some x2 ∧ (w.alloc (.cells #[x0, x1, x2, x3] e)).cell? ⟨w.heap.size, 3, none⟩ = some x3 := by
  refine ⟨?_, ?_, ?_, ?_⟩ <;> simp
set_option maxRecDepth 20000 in
set_option maxHeartbeats 16000000 in
theorem hides_any (nm a b : ByteArray) (d : Int) (W : World) (hs : nm.size ≤ maxLen) (ha : a.size ≤ 140737488351232) (hb : b.size ≤ 140737488351232) :
    Calls Try.prog 4 #[.agg #[.string nm, .string a, .string b, .int .i64 d]] W fun e w' => e = .returned (.bool true) ∧ Below W.heap.size W w' := by
  have HF := Lib.hid (fixed_any (W.alloc (.cells #[.string nm, .string a, .string b, .int .i64 d] 45)))
  have hb0 : Below W.heap.size W (W.alloc (.cells #[.string nm, .string a, .string b, .int .i64 d] 45)) := (Below.refl _ W).alloc (Nat.le_refl _) _
  have hbx := box4 W (.string nm) (.string a) (.string b) (.int .i64 d) 45
  have HX := Lib.hid (And.intro hb0 hbx)
  clear hb0 hbx
  go_enter Try.func4, Try.ntmps4
  go_wp2_with fail
  refine HF.out.mono ?_
  rintro e w1 ⟨rfl, hb1⟩
  obtain ⟨hb0, x0, x1, x2, x3⟩ := HX.out
  replace x0 := (hb1.cell (lt_of_cell x0)).trans x0
  replace x1 := (hb1.cell (lt_of_cell x1)).trans x1
  replace x2 := (hb1.cell (lt_of_cell x2)).trans x2
  replace x3 := (hb1.cell (lt_of_cell x3)).trans x3
  have HB1 := Lib.hid (hb0.trans (hb1.mono hb0.size))
  clear hb1 hb0 HX HF
  go_wp2_with fail
  go_quiet (fail)
  clear x0 x1 x2 x3
  go_wp2_with fail
  generalize hw2 : w1.drewN nq = w2
  have HW2 := Lib.hid hw2
  clear hw2
  refine (new_any w2).mono ?_
  rintro e w3 ⟨G, rfl, hL, hq⟩
  have HL := Lib.hid hL
  clear hL hq
  have hD1 : 1 ≤ min (max d 1) 24 := by omega
  have hD2 : min (max d 1) 24 ≤ 24 := by omega
  have HD := Lib.hid (And.intro hD1 hD2)
  clear hD1 hD2
  go_wp2_with fail
  obtain ⟨hD1, hD2⟩ := HD.out
  clear HD
  generalize min (max d 1) 24 = D at *
  obtain ⟨K, rfl⟩ : ∃ K : Nat, D = (K : Int) := ⟨D.toNat, by omega⟩
  have HK := Lib.hid (And.intro (show 1 ≤ K by omega) (show K ≤ 24 by omega))
  clear hD1 hD2
  refine (text_any _ _).mono ?_
  rintro e w4 ⟨rfl, hb4⟩
  have HC := Lib.hid (law_set (HL.out.more hb4) nm hs (by decide) 2 0 a (setS_hid0 nm (2, 0, a) (2, 0, b ++ a)) rfl rfl)
  clear hb4
  go_wp2_with fail
  refine HC.out.mono ?_
  rintro e w5 ⟨G1, rfl, hL1, hK1⟩
  have HL1 := Lib.hid (And.intro hL1 hK1.F)
  clear hL1 hK1 HC
  go_wp2_with fail
  go_loopw [8] (fun v8 wr => ∃ (k : Nat) (G' : GH), v8 = .int .i64 (k : Int) ∧ k ≤ K ∧ LawSt w2.heap.size w2 G' (hidP nm (2, 0, a) (2, 0, b ++ a) k k) wr ∧ G'.F = G.F) (fun v8 _ => K - (intOf v8).toNat)
  case atStart => exact ⟨0, G1, rfl, Nat.zero_le _, HL1.out.1, HL1.out.2⟩
  case round =>
    obtain ⟨k, G', rfl, hk, hL', hF'⟩ := hrel
    by_cases hlt : k < K
    · have i1 : (k : Int) < (K : Int) := by omega
      have i0 : (0 : Int) ≤ (k : Int) := by omega
      have i3 : (k : Int) < 24 := by have := HK.out.2; omega
      have hbA : Below wr.heap.size wr (wr.alloc (.cells #[.string nm] 9)) := (Below.refl _ wr).alloc (Nat.le_refl _) _
      have hA : (wr.alloc (.cells #[.string nm] 9)).heap[wr.heap.size]? = some (.cells #[.string nm] 9 (0, 0)) := heap_alloc_new _ _
      have hlA : wr.heap.size < (wr.alloc (.cells #[.string nm] 9)).heap.size := by simp
      have HA := Lib.hid (And.intro hbA (And.intro hA (And.intro hlA (And.intro hL' (And.intro hF' hlt)))))
      clear hbA hA hlA hL' hF' hk hlt
      go_wp2_with fail
      refine (text_any _ _).mono ?_
      rintro e wa ⟨rfl, hba⟩
      have hcall : Calls Try.prog 9 #[.pointer (some ⟨G.F, 0, none⟩), .slice (some ⟨wr.heap.size, 0, none⟩) 1 1, .slice (some ⟨wa.heap.size, 0, none⟩) 1 1] (wa.alloc (.cells #[.pointer none, .string ⟨#[]⟩, .int .i64 2, .float .f64 0, .string b] 34))
          fun e w' => ∃ G2, e = .returned (.int .i64 0) ∧ LawSt w2.heap.size w2 G2 (hidQ nm (2, 0, a) (2, 0, b ++ a) (2, 0, b) k) w' ∧ Keeps G' G2 := by
        obtain ⟨hbA, hA, hlA, hL', hF', hlt⟩ := HA.out
        have hb3 : Below wa.heap.size wa (wa.alloc (.cells #[.pointer none, .string ⟨#[]⟩, .int .i64 2, .float .f64 0, .string b] 34)) := (Below.refl _ wa).alloc (Nat.le_refl _) _
        have hsz := hba.size
        exact law_push ((hL'.more hbA).more hba |>.more hb3) [nm] [(0, ⟨#[]⟩, (2, 0, b))] (by rw [hidP_len]; simp; omega) rfl rfl (RowA.of_block ((hb3.block _ (by omega)).trans ((hba.block _ hlA).trans hA)) rfl rfl) (RowA.of_block (heap_alloc_new _ _) rfl rfl)
          (own_new hL' (Nat.le_refl _)) (own_new hL' (by omega)) (by intro p hp; simp at hp; subst hp; exact hs) (by intro x hx; simp at hx; subst hx; exact ⟨Nat.zero_le _, Nat.zero_le _⟩) (pushS_hid nm (2, 0, a) (2, 0, b ++ a) (by omega) b) rfl hF'
      have HCp := Lib.hid hcall
      clear hba hcall
      go_wp2_with fail
      refine HCp.out.mono ?_
      rintro e wb ⟨G2, rfl, hL2, hK2⟩
      have HCg := Lib.hid (law_get hL2 nm hs (by rw [hidQ_len]; omega) (getS_hidQ nm (2, 0, a) (2, 0, b ++ a) (2, 0, b) k) rfl (hK2.F.trans HA.out.2.2.2.2.1))
      have HF2 := Lib.hid (hK2.F.trans HA.out.2.2.2.2.1)
      clear hL2 hK2 HCp
      go_wp2_with fail
      refine HCg.out.mono ?_
      rintro e wc ⟨G3, rfl, hL3, hK3⟩
      dsimp only
      have HL3 := Lib.hid (And.intro hL3 (hK3.F.trans HF2.out))
      clear hL3 hK3 HCg HF2
      go_wp2_with fail
      refine (text_any _ _).mono ?_
      rintro e wd ⟨rfl, hbd⟩
      have hbc : Below wc.heap.size wc (wc.alloc (.cells #[.int .i64 2, .float .f64 0, .string b] 32)) := (Below.refl _ wc).alloc (Nat.le_refl _) _
      have HCs := Lib.hid (law_set ((HL3.out.1.more hbc).more hbd) nm hs (by rw [hidQ_len]; have := HA.out.2.2.2.2.2; have := HK.out.2; omega) 2 0 (b ++ a) (setS_hidQ nm (2, 0, a) (2, 0, b ++ a) (2, 0, b) k) rfl HL3.out.2)
      clear hbd hbc
      go_wp2_with fail
      refine HCs.out.mono ?_
      rintro e we ⟨G4, rfl, hL4, hK4⟩
      have HL4 := Lib.hid (And.intro hL4 (hK4.F.trans HL3.out.2))
      clear hL4 hK4 HCs HL3
      go_wp2_with fail
      go_roundw
      case rel => exact ⟨k + 1, G4, by go_num, HA.out.2.2.2.2.2, HL4.out.1, HL4.out.2⟩
      case measure =>
        have := HA.out.2.2.2.2.2
        simp [intOf]; omega
    · obtain rfl : k = K := by omega
      have HL5 := Lib.hid (And.intro hL' hF')
      have i2 : (k : Int) ≤ 24 := by have := HK.out.2; omega
      clear hL' hF' hk hlt
      go_wp2_with fail
      go_loopw [11] (fun v11 wr => ∃ (m : Nat) (G' : GH), v11 = .int .i64 (m : Int) ∧ m ≤ k ∧ LawSt w2.heap.size w2 G' (hidP nm (2, 0, a) (2, 0, b ++ a) k (k - m)) wr ∧ G'.F = G.F) (fun v11 _ => k - (intOf v11).toNat)
      case atStart => exact ⟨0, G', rfl, Nat.zero_le _, HL5.out.1, HL5.out.2⟩
      case round =>
        obtain ⟨m, G6, rfl, hm, hL', hF'⟩ := hrel
        by_cases hlt : m < k
        · have j1 : (m : Int) < (k : Int) := by omega
          have j0 : (0 : Int) ≤ (m : Int) := by omega
          obtain ⟨j, hj⟩ : ∃ j, k - m = j + 1 := ⟨k - m - 1, by omega⟩
          have hgt := getS_hidP nm (2, 0, a) (2, 0, b ++ a) (n := k) (m := k - m) (by omega)
          rw [if_neg (by omega)] at hgt
          rw [hj] at hgt hL'
          have hLT : k - (m + 1) = j ∧ m < k := ⟨by omega, hlt⟩
          have HCg := Lib.hid (law_get hL' nm hs (by rw [hidP_len]; omega) hgt rfl hF')
          have HM := Lib.hid (And.intro hLT hF')
          clear hL' hF' hm hlt hj hgt hLT
          go_wp2_with fail
          refine HCg.out.mono ?_
          rintro e wa ⟨G7, rfl, hL7, hK7⟩
          dsimp only
          have hbc : Below wa.heap.size wa (wa.alloc (.cells #[.int .i64 2, .float .f64 0, .string (b ++ a)] 32)) := (Below.refl _ wa).alloc (Nat.le_refl _) _
          have HCp := Lib.hid (law_pop (hL7.more hbc) (popS_hid nm (2, 0, a) (2, 0, b ++ a) k j) rfl (hK7.F.trans HM.out.2))
          have HF7 := Lib.hid (hK7.F.trans HM.out.2)
          clear hL7 hK7 hbc HCg
          go_wp2_with fail
          refine HCp.out.mono ?_
          rintro e wb ⟨G8, rfl, hL8, hK8⟩
          have HL8 := Lib.hid (And.intro hL8 (hK8.F.trans HF7.out))
          clear hL8 hK8 HCp
          go_wp2_with fail
          go_roundw
          case rel => exact ⟨m + 1, G8, by go_num, HM.out.1.2, by rw [HM.out.1.1]; exact HL8.out.1, HL8.out.2⟩
          case measure =>
            have := HM.out.1.2
            simp [intOf]; omega
        · obtain rfl : m = k := by omega
          rw [Nat.sub_self] at hL'
          have hgt := getS_hidP nm (2, 0, a) (2, 0, b ++ a) (Nat.zero_le m)
          rw [if_pos rfl] at hgt
          have HCg := Lib.hid (law_get hL' nm hs (by rw [hidP_len]; omega) hgt (ri := 0) rfl hF')
          have HF := Lib.hid hF'
          clear hL' hF' hm hlt
          go_wp2_with fail
          refine HCg.out.mono ?_
          rintro e wa ⟨G7, rfl, hL7, hK7⟩
          dsimp only
          have hbc : Below wa.heap.size wa (wa.alloc (.cells #[.int .i64 2, .float .f64 0, .string a] 32)) := (Below.refl _ wa).alloc (Nat.le_refl _) _
          have hL8 := hL7.more hbc
          have HD := Lib.hid (law_depth hL8 (ri := 0) rfl (hK7.F.trans HF.out))
          have HE := Lib.hid ((HB1.out.trans (by rw [← HW2.out]; exact (below_drewN (Below.refl _ w1) nq).mono HB1.out.size)).trans (hL8.bl.mono (by rw [← HW2.out]; exact HB1.out.size)))
          clear hL7 hK7 hbc hL8 HCg
          go_wp2_with fail
          refine HD.out.mono ?_
          rintro e wb ⟨rfl, rfl⟩
          go_wp2_with fail
          go_ret
          exact ⟨rfl, HE.out⟩
end Go.Proofs.Ytbpaiocbgbpiaaa
