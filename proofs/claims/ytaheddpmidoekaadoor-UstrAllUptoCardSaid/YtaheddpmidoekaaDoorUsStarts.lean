/- The walk of the document's 'Starts': the places of the characters, and the end. -/
import Derived.Test.YtaheddpmidoekaaDoorUsNextAny
import Derived.Test.YtaheddpmidoekaaDoorMem
namespace Go.Proofs.YtaheddpmidoekaaDoor
open Go.RowKit
set_option linter.unusedVariables false

def ints (l : List Nat) : List Value := l.map fun (z : Nat) => Value.int .i64 (z : Int)
theorem ints_snoc (l : List Nat) (i : Nat) : ints (l ++ [i]) = ints l ++ [.int .i64 (i : Int)] := by simp [ints]
theorem ints_len (l : List Nat) : (ints l).length = l.length := by simp [ints]
theorem int_info : (Tryd.prog.info? 3).map (fun i => (i.zero, i.size, i.bytes)) = some (some (.int .i64 0), 1, 8) := by kernel_rfl
/-- The places, and the end. -/
def starts (s : ByteArray) (m : Bool) : List Nat := places s m ++ [s.size]

set_option maxHeartbeats 1000000 in
theorem starts_any (s : ByteArray) (m : Bool) (w : World) (hs : s.size ≤ 4398046511104) :
    Calls Tryd.prog 16 #[.string s, .bool m] w fun e w' => ∃ v, e = .returned v ∧ w'.ownsRow w.heap.size 3 1 v (starts s m).length (ints (starts s m)) ∧ Below w.heap.size w w' := by
  have hs' : s.size ≤ maxLen := by unfold maxLen; omega
  go_enter Tryd.func16, Tryd.ntmps16
  go_wp2_with fail
  go_loopw [5, 6] (fun v5 v6 wr => ∃ (pre : List Nat) (i : Nat), v6 = .int .i64 (i : Int) ∧ i ≤ s.size ∧ pre ++ rest s m i = places s m ∧ pre.length ≤ i ∧ wr.ownsRow w.heap.size 3 1 v5 pre.length (ints pre) ∧ Below w.heap.size w wr)
    (fun _ v6 _ => s.size - (intOf v6).toNat)
  case atStart => exact ⟨[], 0, rfl, Nat.zero_le _, rfl, Nat.le_refl _, ⟨rfl, .inl ⟨rfl, rfl⟩⟩, Below.refl _ _⟩
  case round =>
    obtain ⟨pre, i, rfl, hi, hpl, hpi, hown, hB⟩ := hrel
    have hgz := hB.size
    by_cases hlt : i < s.size
    · have hw := chr_wide s i m hlt
      have HS := Lib.hid (rest_step (m := m) hlt)
      have HN := Lib.hid (fun w => rnext_in s i m w hs' hlt)
      have HP := Lib.hid hpl
      clear hpl
      generalize chr s i m = p at *
      obtain ⟨c, d⟩ := p
      dsimp only at hw HN HS
      go_wp2_with (at_builtin; refine wpList_append1 29 3 (.tmp 13) (.tmp 15) rfl rfl w.heap.size Tryd.underlying29 int_info rfl rfl hown rfl rfl rfl (by unfold maxLen; omega) (by omega) hgz ?_; intro v' w' hown' hgrow _)
      have hB' : Below w.heap.size w w' := hB.grown hgrow hgz (fun k hk => (hown.lt k hk).1)
      rw [← ints_snoc] at hown'
      go_wp2_with fail
      refine (HN.out _).mono ?_
      rintro e w2 ⟨rfl, rfl⟩
      go_wp2_with fail
      go_roundw
      case rel =>
        refine ⟨pre ++ [i], i + d, by go_num, by omega, ?_, by simp; omega, by simpa using hown', hB'⟩
        rw [List.append_assoc, ← HP.out, HS.out]; rfl
      case measure => simp [intOf]; omega
    · obtain rfl : i = s.size := by omega
      rw [rest_end (Nat.le_refl _), List.append_nil] at hpl
      go_wp2_with (at_builtin; refine wpList_append1 29 3 (.tmp 27) (.tmp 29) rfl rfl w.heap.size Tryd.underlying29 int_info rfl rfl hown rfl rfl rfl (by unfold maxLen; omega) (by omega) hgz ?_; intro v' w' hown' hgrow _)
      have hB' : Below w.heap.size w w' := hB.grown hgrow hgz (fun k hk => (hown.lt k hk).1)
      rw [← ints_snoc, hpl] at hown'
      obtain ⟨A, c, rfl, _⟩ := own_form hown'
      go_wp2_with fail
      go_ret
      refine ⟨_, rfl, ?_, hB'⟩
      have : (starts s m).length = (places s m).length + 1 := by simp [starts]
      rw [this]
      exact hown'

end Go.Proofs.YtaheddpmidoekaaDoor
