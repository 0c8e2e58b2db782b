/- The walks of the dice: Next, Reseed, Seed, New, and the document's State, Step, Same. -/
import Derived.Test.YtbkfnmmfjpaifaaDicePlain
import Derived.Test.YtbkfnmmfjpaifaaRows
import Derived.WalkKit
import Derived.WalkLawsBesides
import Derived.WalkSpells
import Derived.Lib.Hide
import Derived.Laws.FloatArith
namespace Go.Proofs.Ytbkfnmmfjpaifaa
open Go.RowKit Flt
set_option linter.unusedVariables false

theorem f64bits (b : Nat) (w : World) : (callFunc 23 #[.float .f64 b]).run Try.prog w = .ok (.value (.int .u64 (b : Int))) w := by kernel_rfl
theorem f64frombits (n : Int) (w : World) : (callFunc 12 #[.int .u64 n]).run Try.prog w = .ok (.value (.float .f64 n.toNat)) w := by kernel_rfl

/-- The walk's law on a store of a float: the library has none. -/
@[go_sem] theorem run_store_float {P : Program} (w : World) (a : Addr) (m : Mode) (k : FloatKind) (b : Nat) : (store a (.float k b) m).run P w = stored P w a (.float k b) m := run_store P w a _ m rfl

/-- The dice at block g: its seed's bits, its state. -/
def Dice (w : World) (g sd st : Nat) : Prop := w.heap[g]? = some (.cells #[.float .f64 sd, .int .u64 (st : Int)] 47 (0, 0))

section
variable {w w' : World} {g sd st : Nat}
theorem Dice.lt (h : Dice w g sd st) : g < w.heap.size := by
  rcases Nat.lt_or_ge g w.heap.size with hlt | hge
  · exact hlt
  · unfold Dice at h; rw [Array.getElem?_eq_none hge] at h; cases h
theorem Dice.c0 (h : Dice w g sd st) : w.cell? ⟨g, 0, none⟩ = some (.float .f64 sd) := cell_of_row w g 0 _ _ (0, 0) h
theorem Dice.c1 (h : Dice w g sd st) : w.cell? ⟨g, 1, none⟩ = some (.int .u64 (st : Int)) := cell_of_row w g 1 _ _ (0, 0) h
theorem Dice.frozen (h : Dice w g sd st) (i : Nat) : w.frozen? ⟨g, i, none⟩ = false := by unfold Dice at h; simp [World.frozen?, h]
theorem Dice.set1 (h : Dice w g sd st) (n : Nat) : Dice (w.setCell ⟨g, 1, none⟩ (.int .u64 (n : Int))) g sd n := by
  unfold Dice at h ⊢; simp [World.setCell, Array.getElem?_modify, h]
theorem Dice.set0 (h : Dice w g sd st) (n : Nat) : Dice (w.setCell ⟨g, 0, none⟩ (.float .f64 n)) g n st := by
  unfold Dice at h ⊢; simp [World.setCell, Array.getElem?_modify, h]
theorem Dice.far (h : Dice w g sd st) {p : Addr} (hp : g ≠ p.block) (u : Value) : Dice (w.setCell p u) g sd st := (Below.heap_setCell w p u g hp).trans h
theorem Dice.alloc (h : Dice w g sd st) (o : Obj) : Dice (w.alloc o) g sd st := (Below.heap_alloc w o g h.lt).trans h
end

/-- 'x / 2^48' of a whole number, as the walk asks it. -/
theorem run_div48 (n : Nat) (h : n < 9007199254740992) (w : World) :
    (binOp .quo 26 (.float .f64 (natW n)) (.float .f64 4823355200913801216)).run Try.prog w = .ok (.float .f64 (diceW n)) w :=
  run_float_arith w .quo _ .f64 _ _ _ (div_diceW h)

set_option maxHeartbeats 400000 in
theorem next_any (g sd st : Nat) (w : World) (hD : Dice w g sd st) :
    Calls Try.prog 11 #[.pointer (some ⟨g, 0, none⟩)] w fun e w' => e = .returned (.float .f64 (diceW (nx st))) ∧ w' = w.setCell ⟨g, 1, none⟩ (.int .u64 (nx st : Int)) := by
  have h1 := hD.c1
  have hf := hD.frozen 1
  have hb := nx_bits st
  have hl := nx_lt st
  have hi : floatOfInt .f64 (nx st : Int) = natW (nx st) := floatOfInt_nat (by omega)
  have hq := fun w => run_div48 (nx st) (by omega) w
  clear hl hD
  go_enter Try.func11, Try.ntmps11
  go_wp2
  go_ret
  exact ⟨rfl, rfl⟩

set_option maxHeartbeats 400000 in
theorem next_nil (w : World) :
    Calls Try.prog 11 #[.pointer none] w fun e w' => e = .returned (.float .f64 0) ∧ w' = w := by
  go_enter Try.func11, Try.ntmps11
  go_wp2
  go_ret
  exact ⟨rfl, rfl⟩

set_option maxHeartbeats 400000 in
theorem seed_any (g sd st : Nat) (w : World) (hD : Dice w g sd st) :
    Calls Try.prog 15 #[.pointer (some ⟨g, 0, none⟩)] w fun e w' => e = .returned (.float .f64 sd) ∧ w' = w := by
  have h0 := hD.c0
  clear hD
  go_enter Try.func15, Try.ntmps15
  go_wp2
  go_ret
  exact ⟨rfl, rfl⟩

set_option maxHeartbeats 400000 in
theorem seed_nil (w : World) :
    Calls Try.prog 15 #[.pointer none] w fun e w' => e = .returned (.float .f64 0) ∧ w' = w := by
  go_enter Try.func15, Try.ntmps15
  go_wp2
  go_ret
  exact ⟨rfl, rfl⟩

set_option maxHeartbeats 400000 in
theorem reseed_any (g sd st b : Nat) (w : World) (hD : Dice w g sd st) (hb : b < 18446744073709551616) :
    Calls Try.prog 13 #[.pointer (some ⟨g, 0, none⟩), .float .f64 b] w fun e w' => e = .returned (.tuple #[]) ∧
      w' = (w.setCell ⟨g, 0, none⟩ (.float .f64 b)).setCell ⟨g, 1, none⟩ (.int .u64 (seedOf b : Int)) := by
  have h0 := hD.c0
  have h1 := hD.c1
  have f0 := hD.frozen 0
  have f1 := hD.frozen 1
  have hbits := f64bits b
  have hs := seed_bits b hb
  clear hD hb
  have h00 : bits .and .u64 (bits .xor .u64 0 0) 281474976710655 = 0 := by decide +kernel
  have h1' : (w.setCell ⟨g, 0, none⟩ (.float .f64 b)).cell? ⟨g, 1, none⟩ = some (.int .u64 (st : Int)) := by rw [World.cell?_setCell_other _ _ _ _ (by simp)]; exact h1
  by_cases hn : nan b = true
  · have hn' : (FloatKind.f64.format.order b b != some .eq) = true := hn
    have hsd : seedOf b = 0 := by rw [seedOf, if_pos hn]
    rw [hsd]
    clear hn hs hsd
    go_enter Try.func13, Try.ntmps13
    go_wp2
    go_end0
    exact ⟨rfl, rfl⟩
  · have hn' : (FloatKind.f64.format.order b b != some .eq) = false := by simpa [nan] using hn
    have hsd : seedOf b = (b ^^^ b / 65536) % 281474976710656 := by rw [seedOf, if_neg hn]
    rw [hsd]
    clear hn hsd
    generalize (b ^^^ b / 65536) % 281474976710656 = q at hs ⊢
    go_enter Try.func13, Try.ntmps13
    go_wp2
    go_end0
    exact ⟨rfl, rfl⟩

set_option maxHeartbeats 400000 in
theorem reseed_nil (b : Nat) (w : World) :
    Calls Try.prog 13 #[.pointer none, .float .f64 b] w fun e w' => e = .returned (.tuple #[]) ∧ w' = w := by
  go_enter Try.func13, Try.ntmps13
  go_wp2
  first | go_end0 | refine bodyPost_ret (results_none rfl _ _ _) rfl ?_
  exact ⟨rfl, rfl⟩

set_option maxHeartbeats 400000 in
/-- A new dice lies in the next block. -/
theorem new_any (b : Nat) (w : World) (hb : b < 18446744073709551616) :
    Calls Try.prog 8 #[.float .f64 b] w fun e w' => e = .returned (.pointer (some ⟨w.heap.size, 0, none⟩)) ∧
      Dice w' w.heap.size b (seedOf b) ∧ Below w.heap.size w w' ∧ w'.heap.size = w.heap.size + 1 := by
  have hD : Dice (w.alloc (.cells #[.float .f64 0, .int .u64 0] 47)) w.heap.size 0 0 := heap_alloc_new w _
  go_enter Try.func8, Try.ntmps8
  go_wp2_with fail
  refine (reseed_any _ _ _ b _ hD hb).mono ?_
  rintro e w' ⟨rfl, rfl⟩
  go_wp2_with fail
  go_ret
  exact ⟨rfl, heap_alloc_new w _, (Below.refl _ w).alloc (Nat.le_refl _) _, by simp⟩

set_option maxHeartbeats 400000 in
theorem state_any (b : Nat) (w : World) (hb : b < 18446744073709551616) :
    Calls Try.prog 9 #[.float .f64 b] w fun e w' => e = .returned (.int .i64 (seedOf b : Int)) ∧ w = w' := by
  have hbits := f64bits b
  have hs : bits .xor .u64 (b : Int) ((b : Int) / 65536) = ((b ^^^ b / 65536 : Nat) : Int) := xorShift_u64 b 65536 hb
  have hlt := seedOf_lt b
  by_cases hn : nan b = true
  · have hn' : (FloatKind.f64.format.order b b != some .eq) = true := hn
    have hsd : seedOf b = 0 := by rw [seedOf, if_pos hn]
    rw [hsd]
    clear hn hs hsd hlt
    go_enter Try.func9, Try.ntmps9
    go_wp2
    go_ret
    exact ⟨rfl, rfl⟩
  · have hn' : (FloatKind.f64.format.order b b != some .eq) = false := by simpa [nan] using hn
    have hsd : seedOf b = (b ^^^ b / 65536) % 281474976710656 := by rw [seedOf, if_neg hn]
    rw [hsd]
    clear hn hsd hlt
    generalize (b ^^^ b / 65536) = q at hs ⊢
    go_enter Try.func9, Try.ntmps9
    go_wp2
    go_ret
    exact ⟨by simp, rfl⟩

set_option maxHeartbeats 400000 in
theorem step_any (s : Nat) (w : World) (hs : s < 281474976710656) :
    Calls Try.prog 10 #[.int .i64 (s : Int)] w fun e w' => e = .returned (.int .i64 (nx s : Int)) ∧ w = w' := by
  have hp := Lib.hid (step_plain s hs)
  have hs' : (s : Int) < 281474976710656 := by omega
  go_enter Try.func10, Try.ntmps10
  go_wp2
  go_ret
  exact ⟨congrArg (fun n => Ending.returned (.int .i64 n)) hp.out, rfl⟩

/-- 'the same bits, all NaNs being one'. -/
theorem same_self (b : Nat) (w : World) :
    Calls Try.prog 14 #[.float .f64 b, .float .f64 b] w fun e w' => e = .returned (.bool true) ∧ w = w' := by
  have hbits := f64bits b
  by_cases hn : nan b = true
  · have hn' : (FloatKind.f64.format.order b b != some .eq) = true := hn
    clear hn
    go_enter Try.func14, Try.ntmps14
    go_wp2
    go_ret
    exact ⟨rfl, rfl⟩
  · have hn' : (FloatKind.f64.format.order b b != some .eq) = false := by simpa [nan] using hn
    clear hn
    go_enter Try.func14, Try.ntmps14
    go_wp2
    go_ret
    exact ⟨by simp, rfl⟩

end Go.Proofs.Ytbkfnmmfjpaifaa
