/- The walks of the document's 'Len', 'Place' and 'Sub'. -/
import Derived.Test.YtaheddpmidoekaaDoorUsPlace
import Derived.Deep.QuietTactic
import Derived.BigQuiet
namespace Go.Proofs.YtaheddpmidoekaaDoor
open Go.RowKit
set_option linter.unusedVariables false

set_option maxHeartbeats 1000000 in
theorem rlen_any (s : ByteArray) (m : Bool) (w : World) (hs : s.size ≤ 4398046511104) :
    Calls Tryd.prog 28 #[.string s, .bool m] w fun e w' => e = .returned (.int .i64 ((places s m).length : Int)) ∧ Below w.heap.size w w' := by
  have hpz := places_len s m
  have hsl := starts_len s m
  go_enter Tryd.func28, Tryd.ntmps28
  go_wp2_with fail
  refine (starts_any s m w hs).mono ?_
  rintro e w1 ⟨v, rfl, hL, hB⟩
  rw [hsl] at hL
  obtain ⟨A, cp, rfl, hc1, hc2, _⟩ := own_form hL
  go_wp2_with fail
  go_ret
  exact ⟨rfl, hB⟩

set_option maxHeartbeats 1000000 in
theorem rplace_any (s : ByteArray) (n : Int) (m : Bool) (w : World) (hs : s.size ≤ 4398046511104) (hn : -9223372036854775808 ≤ n ∧ n ≤ 9223372036854775807) :
    Calls Tryd.prog 27 #[.string s, .int .i64 n, .bool m] w fun e w' => e = .returned (.tuple #[.int .i64 (placeV s m n).1, .bool (placeV s m n).2]) ∧ Below w.heap.size w w' := by
  have hpz := places_len s m
  have hsl := starts_len s m
  have hv := Eq.refl (placeV s m n)
  conv at hv => rhs; unfold placeV
  rw [hsl] at hv
  by_cases h1 : n < 1
  · rw [if_neg (by omega)] at hv
    rw [hv]
    go_enter Tryd.func27, Tryd.ntmps27
    go_wp2_with fail
    refine (starts_any s m w hs).mono ?_
    rintro e w1 ⟨v, rfl, hL, hB⟩
    rw [hsl] at hL
    obtain ⟨A, cp, rfl, hc1, hc2, _⟩ := own_form hL
    clear hv
    go_wp2_with fail
    go_ret2
    exact ⟨rfl, hB⟩
  · by_cases h2 : ((places s m).length : Int) + 1 < n
    · rw [if_neg (by omega)] at hv
      rw [hv]
      go_enter Tryd.func27, Tryd.ntmps27
      go_wp2_with fail
      refine (starts_any s m w hs).mono ?_
      rintro e w1 ⟨v, rfl, hL, hB⟩
      rw [hsl] at hL
      obtain ⟨A, cp, rfl, hc1, hc2, _⟩ := own_form hL
      clear hv
      go_wp2_with fail
      go_ret2
      exact ⟨rfl, hB⟩
    · rw [if_pos (by omega)] at hv
      rw [hv]
      obtain ⟨j, rfl⟩ : ∃ j : Nat, n = (j : Int) + 1 := ⟨(n - 1).toNat, by omega⟩
      rw [show ((j : Int) + 1 - 1).toNat = j by omega] at hv ⊢
      have hj : j < (starts s m).length := by omega
      have hja : (starts s m)[j]? = some ((starts s m).getD j 0) := by rw [List.getD_eq_getElem?_getD, List.getElem?_eq_getElem hj]; rfl
      generalize (starts s m).getD j 0 = p at *
      go_enter Tryd.func27, Tryd.ntmps27
      go_wp2_with fail
      refine (starts_any s m w hs).mono ?_
      rintro e w1 ⟨v, rfl, hL, hB⟩
      rw [hsl] at hL
      obtain ⟨A, cp, rfl, hc1, hc2, _⟩ := own_form hL
      obtain ⟨g, rfl, _, _, ce, _⟩ := own_at hL (ints_at hja)
      have hjn : (j : Int) < ((places s m).length : Int) + 1 := by omega
      clear hv hja
      go_wp2_with fail
      go_ret2
      exact ⟨rfl, hB⟩

/-- The part between two characters. -/
def subV (s : ByteArray) (m : Bool) (a b : Int) : ByteArray :=
  if min b ((starts s m).length : Int) ≤ max a 1 then ⟨#[]⟩
  else s.extract ((starts s m).getD (max a 1 - 1).toNat 0) ((starts s m).getD (min b ((starts s m).length : Int) - 1).toNat 0)

end Go.Proofs.YtaheddpmidoekaaDoor
