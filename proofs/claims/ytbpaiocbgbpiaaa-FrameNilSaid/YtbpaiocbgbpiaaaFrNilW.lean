/- 'Frames that are nil refuse every call', walked. -/
import Derived.Test.YtbpaiocbgbpiaaaFrWF
import Derived.WalkLawsBesides
import Derived.WalkSpells
import Derived.Laws.FloatArith
namespace Go.Proofs.Ytbpaiocbgbpiaaa
open Go.RowKit
set_option linter.unusedVariables false
set_option linter.unusedSimpArgs false

theorem f64bits (b : Nat) (w : World) : (callFunc 43 #[.float .f64 b]).run Try.prog w = .ok (.value (.int .u64 (b : Int))) w := by kernel_rfl
/-- Is the word one of a NaN? -/
def nan (b : Nat) : Bool := FloatKind.f64.format.order b b != some .eq
set_option maxHeartbeats 4000000 in
theorem fsame_self (b : Nat) (w : World) :
    Calls Try.prog 33 #[.float .f64 b, .float .f64 b] w fun e w' => e = .returned (.bool true) ∧ w = w' := by
  have hbits := f64bits b
  by_cases hn : nan b = true
  · have hn' : (FloatKind.f64.format.order b b != some .eq) = true := hn
    clear hn
    go_enter Try.func33, Try.ntmps33
    go_wp2
    go_ret
    exact ⟨rfl, rfl⟩
  · have hn' : (FloatKind.f64.format.order b b != some .eq) = false := by simpa [nan] using hn
    clear hn
    go_enter Try.func33, Try.ntmps33
    go_wp2
    go_ret
    exact ⟨by simp, rfl⟩
set_option maxHeartbeats 4000000 in
theorem csame_self (x : Int) (y : Nat) (z : ByteArray) (w : World) :
    Calls Try.prog 19 #[.agg #[.int .i64 x, .float .f64 y, .string z], .agg #[.int .i64 x, .float .f64 y, .string z]] w fun e w' => e = .returned (.bool true) ∧ Below w.heap.size w w' := by
  go_enter Try.func19, Try.ntmps19
  go_wp2_with fail
  refine (fsame_self y _).mono ?_
  rintro e w1 ⟨rfl, rfl⟩
  go_wp2_with fail
  go_ret
  exact ⟨rfl, ((Below.refl _ w).alloc (Nat.le_refl _) _).alloc (by simp) _⟩
set_option maxRecDepth 20000 in
set_option maxHeartbeats 16000000 in
theorem nil_any (nm : ByteArray) (W : World) :
    Calls Try.prog 5 #[.string nm] W fun e w' => e = .returned (.bool true) ∧ Below W.heap.size W w' := by
  have HF := Lib.hid (fixed_any W)
  go_enter Try.func5, Try.ntmps5
  go_wp2_with fail
  refine HF.out.mono ?_
  rintro e w1 ⟨rfl, hb1⟩
  have HB1 := Lib.hid hb1
  clear hb1 HF
  go_wp2_with fail
  refine (get_nil nm _).mono ?_
  rintro e w2 ⟨rfl, hb2⟩
  have HB2 := Lib.hid (HB1.out.trans (hb2.mono HB1.out.size))
  clear hb2 HB1
  simp only [cellV, noCell]
  go_wp2_with fail
  refine (array_nil nm _).mono ?_
  rintro e w3 ⟨rfl, rfl⟩
  go_wp2_with fail
  refine (csame_self _ _ _ _).mono ?_
  rintro e w4 ⟨rfl, hb4⟩
  have hbx : (w2.alloc (.cells #[.int .i64 0, .float .f64 0, .string ⟨#[]⟩] 32)).heap[w2.heap.size]? = some (.cells #[.int .i64 0, .float .f64 0, .string ⟨#[]⟩] 32 (0, 0)) := heap_alloc_new _ _
  have hst := (hb4.block _ (by simp)).trans hbx
  have d0 : w4.cell? ⟨w2.heap.size, 0, none⟩ = some (.int .i64 0) := cell_of_row w4 _ 0 _ _ _ hst
  have d1 : w4.cell? ⟨w2.heap.size, 1, none⟩ = some (.float .f64 0) := cell_of_row w4 _ 1 _ _ _ hst
  have d2 : w4.cell? ⟨w2.heap.size, 2, none⟩ = some (.string ⟨#[]⟩) := cell_of_row w4 _ 2 _ _ _ hst
  have hB4 : Below W.heap.size W w4 := (HB2.out.alloc HB2.out.size _).trans (hb4.mono (by have := HB2.out.size; simp; omega))
  have HB4 := Lib.hid hB4
  clear hbx hst hb4 hB4 HB2
  go_wp2_with fail
  refine (set_nil nm _ _ _ _).mono ?_
  rintro e w5 ⟨rfl, hb5⟩
  have hB5 := (HB4.out.trans (hb5.mono HB4.out.size))
  have HB5 := Lib.hid (hB5.alloc hB5.size (.cells #[.string nm] 9))
  clear hb5 hB5 HB4 d0 d1 d2
  go_wp2_with fail
  refine (push_nil _ _ _ _ _ _ _).mono ?_
  rintro e w6 ⟨rfl, rfl⟩
  go_wp2_with fail
  refine (pop_nil _).mono ?_
  rintro e w7 ⟨rfl, rfl⟩
  go_wp2_with fail
  refine (kind_nil nm _).mono ?_
  rintro e w8 ⟨rfl, rfl⟩
  go_wp2_with fail
  refine (depth_nil _).mono ?_
  rintro e w9 ⟨rfl, rfl⟩
  go_wp2_with fail
  go_ret
  exact ⟨rfl, HB5.out⟩
end Go.Proofs.Ytbpaiocbgbpiaaa
