/- The document's example, walked. -/
import Derived.Test.YtpklbdgajbfaiaaNtW22
namespace Go.Proofs.Ytpklbdgajbfaiaa
open Go.RowKit
set_option linter.unusedVariables false

theorem dg_of {l : List Nat} {x : Nat} (hlo : Lo 4294967296 l) (ht : trimL l = l) (hv : vb 4294967296 l = x) : dg 4294967296 x = l := by
  rw [← hv, ← trimL_dg (by omega) l hlo, ht]
theorem lo_of {l : List Nat} (h : l.all (· < 4294967296) = true) : Lo 4294967296 l := fun x hx => by
  have := List.all_eq_true.1 h x hx; simpa using this
theorem dg_a : dg 4294967296 18446744073709551616 = [0, 0, 1] := dg_of (lo_of (by decide)) (by decide) (by decide)
theorem dg_b : dg 4294967296 12884901888 = [0, 3] := dg_of (lo_of (by decide)) (by decide) (by decide)
theorem dg_q : dg 4294967296 (18446744073709551616 / 12884901888) = [1431655765] := dg_of (lo_of (by decide)) (by decide) (by decide)
theorem dg_r : dg 4294967296 (18446744073709551616 % 12884901888) = [0, 1] := dg_of (lo_of (by decide)) (by decide) (by decide)
theorem dg10_of {l : List Nat} {x : Nat} (hlo : l.all (· < 10) = true) (ht : trimL l = l) (hv : vb 10 l = x) : dg 10 x = l := by
  rw [← hv, ← trimL_dg (b := 10) (by omega) l (fun x hx => by have := List.all_eq_true.1 hlo x hx; simpa using this), ht]
theorem decT_a : decT 18446744073709551616 = [49, 56, 52, 52, 54, 55, 52, 52, 48, 55, 51, 55, 48, 57, 53, 53, 49, 54, 49, 54] := by
  unfold decT
  rw [if_neg (by decide), dg10_of (l := [6, 1, 6, 1, 5, 5, 9, 0, 7, 3, 7, 0, 4, 4, 7, 6, 4, 4, 8, 1]) (by decide) (by decide) (by decide)]
  decide

set_option maxRecDepth 100000 in
set_option maxHeartbeats 8000000 in
theorem fixed_any (w : World) : Calls Try.prog 9 #[] w fun e w' => e = .returned (.bool true) ∧ Below w.heap.size w w' := by
  have HP := fun w => parse_ok ⟨#[49, 56, 52, 52, 54, 55, 52, 52, 48, 55, 51, 55, 48, 57, 53, 53, 49, 54, 49, 54]⟩ w (by decide) (by decide) (by unfold isDig; decide) (by rw [show decV [49, 56, 52, 52, 54, 55, 52, 52, 48, 55, 51, 55, 48, 57, 53, 53, 49, 54, 49, 54] = 18446744073709551616 by decide, dg_a]; decide)
  have HP2 : ∀ w, Calls Try.prog 23 #[.string ⟨#[49, 56, 52, 52, 54, 55, 52, 52, 48, 55, 51, 55, 48, 57, 53, 53, 49, 54, 49, 54]⟩] w (NatOk 18446744073709551616 w) := HP
  clear HP
  unfold NatOk at HP2
  rw [dg_a] at HP2
  replace HP2 := Lib.hid HP2
  go_enter Try.func9, Try.ntmps9
  go_wp2_with fail
  refine (HP2.out w).mono ?_
  rintro e w1 ⟨⟨A, c, rfl, hf⟩, hB1⟩
  have HD := fun (w' : World) (A2 : Option Addr) (c2 : Nat) (hb : Below w1.heap.size w1 w') (h : Rw .u32 w' w'.heap.size A2 (dg 4294967296 12884901888)) => ndiv_long A c w'.heap.size 18446744073709551616 A2 c2 12884901888 w' (by rw [dg_a]; exact (hf.below hb).rw) h (Nat.le_refl _) (by rw [dg_a]; decide) (by rw [dg_b]; decide) (by rw [dg_b]; decide)
  unfold DivAns at HD
  rw [dg_a, dg_b, dg_q, dg_r] at HD
  have HT := fun (w' : World) (hb : Below w1.heap.size w1 w') => ntext_ok A c w'.heap.size 18446744073709551616 w' (by rw [dg_a]; exact (hf.below hb).rw) (Nat.le_refl _) (by rw [dg_a]; decide) (fun h => by obtain ⟨g, cur, e, _⟩ := hf.2.2 (by have := hf.1; simp at this; omega); rw [h] at e; cases e)
  rw [dg_a, decT_a] at HT
  replace HD := Lib.hid HD
  replace HT := Lib.hid HT
  replace hf := Lib.hid hf
  simp only [List.length_cons, List.length_nil, Nat.zero_add, Nat.reduceAdd] at HD HT ⊢
  go_wp2_with fail
  have hb1a : Below w1.heap.size w1 (w1.alloc (.cells #[.int .u32 0, .int .u32 3] 24)) := (Below.refl _ w1).alloc (Nat.le_refl _) _
  have hfb : Fr w1.heap.size (w1.alloc (.cells #[.int .u32 0, .int .u32 3] 24)) (some ⟨w1.heap.size, 0, none⟩) 2 [0, 3] :=
    ⟨Nat.le_refl _, by unfold maxLen; omega, fun _ => ⟨w1.heap.size, #[.int .u32 0, .int .u32 3], rfl, Nat.le_refl _, heap_alloc_new w1 _, Nat.le_refl _, rfl⟩⟩
  refine (HD.out _ _ _ hb1a hfb.rw).mono ?_
  rintro e w2 ⟨m, A3, c3, A4, c4, rfl, hfq, hfr, hm, hAm, hB2⟩
  have hB12 : Below w1.heap.size w1 w2 := hb1a.trans (hB2.mono hb1a.size)
  have hb2 : Below w.heap.size w w2 := hB1.trans (hB12.mono hB1.size)
  have HB := Lib.hid (And.intro hB12 (And.intro hb2 (And.intro hfq hfr)))
  clear hB1 hb1a hfb hfq hfr hAm hm hB12 hb2
  go_wp2_with fail
  obtain ⟨hB12, hb2, hfq, hfr⟩ := HB.out
  refine (HT.out w2 hB12).mono ?_
  rintro e w3 ⟨rfl, hB3⟩
  have hbf : Below w.heap.size w w3 := hb2.trans (hB3.mono hb2.size)
  obtain ⟨b1, o1, rfl, _, hc1⟩ := ((hf.out.below (hB12.trans (hB3.mono hB12.size))).rw).at_ (i := 2) (by decide)
  obtain ⟨b2, o2, rfl, _, hc2⟩ := ((hfq.below hB3).rw).at_ (i := 0) (by decide)
  obtain ⟨b3, o3, rfl, _, hc3⟩ := ((hfr.below hB3).rw).at_ (i := 1) (by decide)
  replace hc1 : w3.cell? ⟨b1, o1 + 2, none⟩ = some (.int .u32 1) := hc1
  replace hc2 : w3.cell? ⟨b2, o2, none⟩ = some (.int .u32 1431655765) := hc2
  replace hc3 : w3.cell? ⟨b3, o3 + 1, none⟩ = some (.int .u32 1) := hc3
  have hbf := Lib.hid hbf
  clear HB hB12 hb2 hB3 hfq hfr
  go_wp2_with fail
  go_ret
  exact ⟨rfl, hbf.out⟩

end Go.Proofs.Ytpklbdgajbfaiaa
