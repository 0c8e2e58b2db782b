/- The walk of the document's 'Sub'. -/
import Derived.Test.YtaheddpmidoekaaDoorUsRplace
namespace Go.Proofs.YtaheddpmidoekaaDoor
open Go.RowKit
set_option linter.unusedVariables false

theorem rest_pair (s : ByteArray) (m : Bool) : ∀ f i, s.size - i ≤ f → i ≤ s.size → (rest s m i ++ [s.size]).Pairwise (· ≤ ·) ∧ ∀ x ∈ rest s m i ++ [s.size], i ≤ x ∧ x ≤ s.size
  | 0, i, h, hi => by rw [rest_end (by omega)]; simp; omega
  | f + 1, i, h, hi => by
    by_cases hlt : i < s.size
    · have hw := chr_wide s i m hlt
      obtain ⟨h1, h2⟩ := rest_pair s m f (i + (chr s i m).2) (by omega) (by omega)
      rw [rest_step hlt, List.cons_append]
      refine ⟨List.pairwise_cons.2 ⟨fun x hx => by have := h2 x hx; omega, h1⟩, fun x hx => ?_⟩
      rcases List.mem_cons.1 hx with rfl | hx
      · exact ⟨Nat.le_refl _, by omega⟩
      · have := h2 x hx; omega
    · rw [rest_end (by omega)]; simp; omega
theorem starts_mono (s : ByteArray) (m : Bool) {i j p q : Nat} (hij : i < j) (hi : (starts s m)[i]? = some p) (hj : (starts s m)[j]? = some q) : p ≤ q ∧ q ≤ s.size := by
  obtain ⟨h1, h2⟩ := rest_pair s m s.size 0 (by omega) (by omega)
  obtain ⟨li, ei⟩ := List.getElem?_eq_some_iff.1 hi
  obtain ⟨lj, ej⟩ := List.getElem?_eq_some_iff.1 hj
  have := List.pairwise_iff_getElem.1 h1 i j li lj hij
  refine ⟨?_, (h2 q (by rw [← ej]; exact List.getElem_mem lj)).2⟩
  rw [← ei, ← ej]; exact this

set_option maxHeartbeats 2000000 in
set_option maxRecDepth 100000 in
theorem rsub_any (s : ByteArray) (a b : Int) (m : Bool) (w : World) (hs : s.size ≤ 4398046511104) :
    Calls Tryd.prog 29 #[.string s, .int .i64 a, .int .i64 b, .bool m] w fun e w' => e = .returned (.string (subV s m a b)) ∧ Below w.heap.size w w' := by
  have hpz := places_len s m
  have hsl := starts_len s m
  have hv := Eq.refl (subV s m a b)
  conv at hv => rhs; unfold subV
  by_cases h1 : min b ((starts s m).length : Int) ≤ max a 1
  · rw [if_pos h1] at hv
    rw [hv]
    rw [hsl] at h1
    have h1' : max a 1 ≥ min b (((places s m).length : Int) + 1) := by simpa using h1
    clear h1
    go_enter Tryd.func29, Tryd.ntmps29
    go_wp2_with fail
    refine (starts_any s m w hs).mono ?_
    rintro e w1 ⟨v, rfl, hL, hB⟩
    rw [hsl] at hL
    obtain ⟨A, cp, rfl, hc1, hc2, _⟩ := own_form hL
    clear hv
    go_wp2_with fail
    go_ret
    exact ⟨rfl, hB⟩
  · rw [if_neg h1] at hv
    rw [hv]
    rw [hsl] at h1
    have hx1 : (1 : Int) ≤ max a 1 := Int.le_max_right a 1
    obtain ⟨i, hi⟩ : ∃ i : Nat, max a 1 = (i : Int) + 1 := ⟨(max a 1 - 1).toNat, by omega⟩
    obtain ⟨j, hj⟩ : ∃ j : Nat, min b (((places s m).length : Int) + 1) = (j : Int) + 1 := ⟨(min b (((places s m).length : Int) + 1) - 1).toNat, by omega⟩
    have hjn : j ≤ (places s m).length := by have := Int.min_le_right b (((places s m).length : Int) + 1); omega
    have hij : i < j := by omega
    rw [hsl, show ((((places s m).length + 1 : Nat)) : Int) = ((places s m).length : Int) + 1 by omega, hi, hj, show ((i : Int) + 1 - 1).toNat = i by omega, show ((j : Int) + 1 - 1).toNat = j by omega]
    rw [hsl, show ((((places s m).length + 1 : Nat)) : Int) = ((places s m).length : Int) + 1 by omega, hi, hj, show ((i : Int) + 1 - 1).toNat = i by omega, show ((j : Int) + 1 - 1).toNat = j by omega] at hv
    have ai : (starts s m)[i]? = some ((starts s m).getD i 0) := by rw [List.getD_eq_getElem?_getD, List.getElem?_eq_getElem (by omega)]; rfl
    have aj : (starts s m)[j]? = some ((starts s m).getD j 0) := by rw [List.getD_eq_getElem?_getD, List.getElem?_eq_getElem (by omega)]; rfl
    have hmo := starts_mono s m hij ai aj
    generalize (starts s m).getD i 0 = p at *
    generalize (starts s m).getD j 0 = q at *
    clear hv
    go_enter Tryd.func29, Tryd.ntmps29
    go_wp2_with fail
    refine (starts_any s m w hs).mono ?_
    rintro e w1 ⟨v, rfl, hL, hB⟩
    rw [hsl] at hL
    obtain ⟨A, cp, rfl, hc1, hc2, _⟩ := own_form hL
    obtain ⟨g, rfl, _, _, ci, _⟩ := own_at hL (ints_at ai)
    obtain ⟨g', hgg, _, _, cj, _⟩ := own_at hL (ints_at aj)
    simp only [Option.some.injEq, Addr.mk.injEq] at hgg
    obtain ⟨rfl, _⟩ := hgg
    generalize (places s m).length = n at *
    have h1' : ¬ min b ((n : Int) + 1) ≤ max a 1 := by omega
    clear h1
    go_wp2_with fail
    have g1 : (i : Int) < (n : Int) + 1 := by omega
    have g2 : (j : Int) < (n : Int) + 1 := by omega
    have g3 : (p : Int) ≤ (q : Int) := by omega
    have g4 : (q : Int) ≤ (s.size : Int) := by omega
    go_quiet (fail)
    go_wp2_with fail
    go_ret
    exact ⟨rfl, hB.os, hB.tape, hB.output, hB.size, hB.block⟩

end Go.Proofs.YtaheddpmidoekaaDoor
