/- DiceBits, walked. -/
import Derived.Test.YtbkfnmmfjpaifaaOpR
namespace Go.Proofs.Ytbkfnmmfjpaifaa
open Go.RowKit Flt
set_option linter.unusedVariables false
set_option linter.unusedSimpArgs false

/-- What the k-th of the six answers is. -/
def ansO (x y : Nat) (n : Nat) : Option Nat :=
  if n = 0 then two (fun a b => some (a &&& b)) (wordB x) (wordB y)
  else if n = 1 then two (fun a b => some (a ||| b)) (wordB x) (wordB y)
  else if n = 2 then two (fun a b => some (a ^^^ b)) (wordB x) (wordB y)
  else if n = 3 then two (fun a b => if 52 < b then none else some (a * 2 ^ b % 9007199254740992)) (wordB x) (wordB y)
  else if n = 4 then two (fun a b => if 52 < b then none else some (a / 2 ^ b)) (wordB x) (wordB y)
  else two (fun a b => some (9007199254740991 - a)) (wordB x) (some 0)
theorem bits_n (x y n : Nat) (hn : n < 6) (hx : x < 18446744073709551616) (hy : y < 18446744073709551616) (w : World) :
    Calls Try.prog 22 #[.int .i64 ((n : Int) + 1), .float .f64 x, .float .f64 y] w fun e w' => e = .returned (.tuple #[.float .f64 (resF (ansO x y n)), .int .i64 (resE (ansO x y n))]) ∧ Below w.heap.size w w' := by
  have h : n = 0 ∨ n = 1 ∨ n = 2 ∨ n = 3 ∨ n = 4 ∨ n = 5 := by omega
  rcases h with rfl | rfl | rfl | rfl | rfl | rfl
  · exact rbits1 x y w hx hy
  · exact rbits2 x y w hx hy
  · exact rbits3 x y w hx hy
  · exact rbits4 x y w hx hy
  · exact rbits5 x y w hx hy
  · exact rbits6 x y w hx hy
theorem six_cells (w : World) (T U : TypeId) (F : Nat → Nat) (E : Nat → Int) (n : Nat) (hn : n < 6) :
    ((w.alloc (.cells #[.float .f64 (F 0), .float .f64 (F 1), .float .f64 (F 2), .float .f64 (F 3), .float .f64 (F 4), .float .f64 (F 5)] T)).alloc (.cells #[.int .i64 (E 0), .int .i64 (E 1), .int .i64 (E 2), .int .i64 (E 3), .int .i64 (E 4), .int .i64 (E 5)] U)).cell? ⟨w.heap.size, 0 + n, none⟩ = some (.float .f64 (F n)) ∧
    ((w.alloc (.cells #[.float .f64 (F 0), .float .f64 (F 1), .float .f64 (F 2), .float .f64 (F 3), .float .f64 (F 4), .float .f64 (F 5)] T)).alloc (.cells #[.int .i64 (E 0), .int .i64 (E 1), .int .i64 (E 2), .int .i64 (E 3), .int .i64 (E 4), .int .i64 (E 5)] U)).cell? ⟨w.heap.size + 1, 0 + n, none⟩ = some (.int .i64 (E n)) := by
  have h : n = 0 ∨ n = 1 ∨ n = 2 ∨ n = 3 ∨ n = 4 ∨ n = 5 := by omega
  constructor
  · rw [World.cell?_alloc_lt _ _ _ (by simp)]
    rw [World.cell?_alloc_new]
    rcases h with rfl | rfl | rfl | rfl | rfl | rfl <;> rfl
  · have e : w.heap.size + 1 = (w.alloc (.cells #[.float .f64 (F 0), .float .f64 (F 1), .float .f64 (F 2), .float .f64 (F 3), .float .f64 (F 4), .float .f64 (F 5)] T)).heap.size := by simp
    rw [e, World.cell?_alloc_new]
    rcases h with rfl | rfl | rfl | rfl | rfl | rfl <;> rfl

set_option maxRecDepth 20000 in
set_option maxHeartbeats 8000000 in
theorem dicebits_any (x y : Nat) (w : World) (hx : x < 18446744073709551616) (hy : y < 18446744073709551616) :
    Calls Try.prog 6 #[.int .u64 (x : Int), .int .u64 (y : Int)] w fun e w' => e = .returned (.bool true) ∧ Below w.heap.size w w' := by
  have HF := Lib.hid (fixed_any w)
  have hfx := rf_from (x : Int)
  have hfy := rf_from (y : Int)
  have H1 := Lib.hid (fun w => and_all x y w hx hy)
  have H2 := Lib.hid (fun w => or_all x y w hx hy)
  have H3 := Lib.hid (fun w => xor_all x y w hx hy)
  have H4 := Lib.hid (fun w => left_all x y w hx hy)
  have H5 := Lib.hid (fun w => right_all x y w hx hy)
  have H6 := Lib.hid (fun w => not_all x w hx)
  have HB := Lib.hid (fun n (hn : n < 6) w => bits_n x y n hn hx hy w)
  have e0 : resF (ansO x y 0) = resF (two (fun a b => some (a &&& b)) (wordB x) (wordB y)) ∧ resE (ansO x y 0) = resE (two (fun a b => some (a &&& b)) (wordB x) (wordB y)) := ⟨rfl, rfl⟩
  have e1 : resF (ansO x y 1) = resF (two (fun a b => some (a ||| b)) (wordB x) (wordB y)) ∧ resE (ansO x y 1) = resE (two (fun a b => some (a ||| b)) (wordB x) (wordB y)) := ⟨rfl, rfl⟩
  have e2 : resF (ansO x y 2) = resF (two (fun a b => some (a ^^^ b)) (wordB x) (wordB y)) ∧ resE (ansO x y 2) = resE (two (fun a b => some (a ^^^ b)) (wordB x) (wordB y)) := ⟨rfl, rfl⟩
  have e3 : resF (ansO x y 3) = resF (two (fun a b => if 52 < b then none else some (a * 2 ^ b % 9007199254740992)) (wordB x) (wordB y)) ∧ resE (ansO x y 3) = resE (two (fun a b => if 52 < b then none else some (a * 2 ^ b % 9007199254740992)) (wordB x) (wordB y)) := ⟨rfl, rfl⟩
  have e4 : resF (ansO x y 4) = resF (two (fun a b => if 52 < b then none else some (a / 2 ^ b)) (wordB x) (wordB y)) ∧ resE (ansO x y 4) = resE (two (fun a b => if 52 < b then none else some (a / 2 ^ b)) (wordB x) (wordB y)) := ⟨rfl, rfl⟩
  have e5 : resF (ansO x y 5) = resF (two (fun a b => some (9007199254740991 - a)) (wordB x) (some 0)) ∧ resE (ansO x y 5) = resE (two (fun a b => some (9007199254740991 - a)) (wordB x) (some 0)) := ⟨rfl, rfl⟩
  rw [← e0.1, ← e0.2] at H1
  rw [← e1.1, ← e1.2] at H2
  rw [← e2.1, ← e2.2] at H3
  rw [← e3.1, ← e3.2] at H4
  rw [← e4.1, ← e4.2] at H5
  rw [← e5.1, ← e5.2] at H6
  clear e0 e1 e2 e3 e4 e5 hx hy
  obtain ⟨F, hF⟩ : ∃ F : Nat → Nat, F = fun n => resF (ansO x y n) := ⟨_, rfl⟩
  obtain ⟨E, hE⟩ : ∃ E : Nat → Int, E = fun n => resE (ansO x y n) := ⟨_, rfl⟩
  have eF : ∀ n, resF (ansO x y n) = F n := fun n => by rw [hF]
  have eE : ∀ n, resE (ansO x y n) = E n := fun n => by rw [hE]
  simp only [eF, eE] at H1 H2 H3 H4 H5 H6 HB
  clear hF hE eF eE
  go_enter Try.func6, Try.ntmps6
  go_wp2_with fail
  refine HF.out.mono ?_
  rintro e w1 ⟨rfl, hb1⟩
  have HB1 := Lib.hid hb1
  clear hb1 HF
  go_wp2_with fail
  refine (H1.out w1).mono ?_
  rintro e w' ⟨rfl, hw⟩
  subst hw
  go_wp2_with fail
  refine (H2.out w1).mono ?_
  rintro e w' ⟨rfl, hw⟩
  subst hw
  go_wp2_with fail
  refine (H3.out w1).mono ?_
  rintro e w' ⟨rfl, hw⟩
  subst hw
  go_wp2_with fail
  refine (H4.out w1).mono ?_
  rintro e w' ⟨rfl, hw⟩
  subst hw
  go_wp2_with fail
  refine (H5.out w1).mono ?_
  rintro e w' ⟨rfl, hw⟩
  subst hw
  go_wp2_with fail
  refine (H6.out w1).mono ?_
  rintro e w' ⟨rfl, hw⟩
  subst hw
  clear H1 H2 H3 H4 H5 H6
  go_wp2_with fail
  have hc := fun n hn => six_cells w1 26 37 F E n hn
  have hbW : Below w1.heap.size w1 ((w1.alloc (.cells #[.float .f64 (F 0), .float .f64 (F 1), .float .f64 (F 2), .float .f64 (F 3), .float .f64 (F 4), .float .f64 (F 5)] 26)).alloc (.cells #[.int .i64 (E 0), .int .i64 (E 1), .int .i64 (E 2), .int .i64 (E 3), .int .i64 (E 4), .int .i64 (E 5)] 37)) :=
    ((Below.refl _ w1).alloc (Nat.le_refl _) _).alloc (by simp) _
  generalize (w1.alloc (.cells #[.float .f64 (F 0), .float .f64 (F 1), .float .f64 (F 2), .float .f64 (F 3), .float .f64 (F 4), .float .f64 (F 5)] 26)).alloc (.cells #[.int .i64 (E 0), .int .i64 (E 1), .int .i64 (E 2), .int .i64 (E 3), .int .i64 (E 4), .int .i64 (E 5)] 37) = w0 at *
  have HC := Lib.hid hc
  have HBW := Lib.hid (HB1.out.trans (hbW.mono HB1.out.size))
  clear hc hbW hfx hfy
  generalize w1.heap.size + 1 = g2 at *
  generalize w1.heap.size = g1 at *
  go_loopw [21] (fun v21 wr => ∃ n : Nat, v21 = .int .i64 (n : Int) ∧ n ≤ 6 ∧ Below w0.heap.size w0 wr) (fun v21 _ => 6 - (intOf v21).toNat)
  case atStart => exact ⟨0, rfl, Nat.zero_le _, Below.refl _ _⟩
  case round =>
    obtain ⟨n, rfl, hn, hbr⟩ := hrel
    by_cases hlt : n < 6
    · have i1 : (n : Int) < 6 := by omega
      have i0 : (0 : Int) ≤ (n : Int) := by omega
      have HBi := Lib.hid (HB.out n hlt wr)
      obtain ⟨c1, c2⟩ := HC.out n hlt
      rw [Nat.zero_add] at c1 c2
      replace c1 := (hbr.cell (lt_of_cell c1)).trans c1
      replace c2 := (hbr.cell (lt_of_cell c2)).trans c2
      have HL := Lib.hid (And.intro hlt hbr)
      have hEE : (E n != E n) = false := by simp
      generalize F n = f at *
      generalize E n = m at *
      clear hlt hn hbr
      go_wp2_with fail
      refine HBi.out.mono ?_
      rintro e w2 ⟨rfl, hb2⟩
      replace c1 := (hb2.cell (lt_of_cell c1)).trans c1
      replace c2 := (hb2.cell (lt_of_cell c2)).trans c2
      have HB2 := Lib.hid (HL.out.2.trans (hb2.mono HL.out.2.size))
      clear hb2
      go_wp2_with fail
      refine (same_self f w2).mono ?_
      rintro e w3 ⟨rfl, hw⟩
      subst hw
      go_wp2_with fail
      go_roundw
      case rel => exact ⟨n + 1, by go_num, HL.out.1, HB2.out⟩
      case measure => have := HL.out.1; simp [intOf]; omega
    · have i1 : ¬ (n : Int) < 6 := by omega
      have HB3 := Lib.hid (HBW.out.trans (hbr.mono HBW.out.size))
      clear hbr hlt hn
      go_wp2_with fail
      go_ret
      exact ⟨rfl, HB3.out⟩
end Go.Proofs.Ytbkfnmmfjpaifaa
