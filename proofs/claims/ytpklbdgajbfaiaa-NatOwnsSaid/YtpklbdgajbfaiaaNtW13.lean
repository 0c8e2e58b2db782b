/- A division by a single limb, walked. -/
import Derived.Test.YtpklbdgajbfaiaaNtW12
import Derived.Laws.Bits64b
namespace Go.Proofs.Ytpklbdgajbfaiaa
open Go.RowKit
set_option linter.unusedVariables false

theorem div32_walk (h l y : Nat) (w : World) (hh : h < y) (hl : l < 4294967296) (hy : y < 4294967296) :
    Calls Try.prog 45 #[.int .u32 (h : Int), .int .u32 (l : Int), .int .u32 (y : Int)] w fun e w' => e = .returned (.tuple #[.int .u32 (((h * 4294967296 + l) / y : Nat) : Int), .int .u32 (((h * 4294967296 + l) % y : Nat) : Int)]) ∧ ∃ n, w' = w.drewN n := by
  have y0 : ((y : Int) == 0) = false := by rw [beq_eq_false_iff_ne]; omega
  have yh : ¬ (y : Int) ≤ (h : Int) := by omega
  have y1 : ¬ (y : Int) = 0 := by omega
  obtain ⟨n, hn⟩ : ∃ n, n = h * 4294967296 + l := ⟨_, rfl⟩
  have hor : bits .or .u64 ((h : Int) * 4294967296) (l : Int) = (n : Int) := by
    have e := bits_or_u64_nat (h * 4294967296) l (by omega) (by omega)
    rw [nat_join 32 (h * 4294967296) l (by omega) hl, ← hn] at e
    have c : ((h * 4294967296 : Nat) : Int) = (h : Int) * 4294967296 := by omega
    rw [c] at e; exact e
  rw [← hn]
  have hny : n < y * 4294967296 := by
    have : (h + 1) * 4294967296 ≤ y * 4294967296 := Nat.mul_le_mul_right _ hh
    omega
  have hq1 : n / y < 4294967296 := Nat.div_lt_of_lt_mul hny
  have hr1 : n % y < y := Nat.mod_lt _ (by omega)
  have eq : (n : Int) / (y : Int) = ((n / y : Nat) : Int) := by omega
  have er : (n : Int) % (y : Int) = ((n % y : Nat) : Int) := by omega
  have n0 : n < 18446744073709551616 := by omega
  clear hn hny
  generalize n / y = q at *
  generalize n % y = r at *
  have hq2 : (q : Int) % 4294967296 = (q : Int) := by omega
  have hr2 : (r : Int) % 4294967296 = (r : Int) := by omega
  go_enter Try.func45, Try.ntmps45
  go_wp2_with fail
  go_quiet (fail)
  go_wp2_with fail
  go_ret2
  exact ⟨rfl, _, rfl⟩

theorem take_set_eq {l p : List Nat} {k d : Nat} (h : p.take (k + 1) = l.take (k + 1)) : (p.set k d).take k = l.take k := by
  rw [List.take_set_of_le (Nat.le_refl _)]
  have := congrArg (List.take k) h
  simpa [List.take_take] using this
theorem getD_take {l p : List Nat} {k : Nat} (h : p.take (k + 1) = l.take (k + 1)) : p.getD k 0 = l.getD k 0 := by
  have := congrArg (fun x => x[k]?) h
  simp only [List.getElem?_take, Nat.lt_succ_self, if_true] at this
  rw [List.getD_eq_getElem?_getD, List.getD_eq_getElem?_getD, this]
theorem small_step (l p : List Nat) (k d left q r : Nat) (hk : k < l.length) (hpl : p.length = l.length) (hv : vb 4294967296 (p.drop (k + 1)) * d + left = vb 4294967296 (l.drop (k + 1))) (hq : q * d + r = left * 4294967296 + l.getD k 0) :
    vb 4294967296 ((p.set k q).drop k) * d + r = vb 4294967296 (l.drop k) := by
  rw [vb_drop _ _ hk, vb_drop _ _ (by rw [List.length_set]; omega), set_drop, ← hv, List.getD_eq_getElem?_getD, List.getElem?_set_self (by omega)]
  show (q + 4294967296 * vb 4294967296 (p.drop (k + 1))) * d + r = _
  rw [Nat.add_mul, Nat.mul_add, Nat.mul_assoc]
  omega

set_option maxHeartbeats 4000000 in
theorem small_div (g ca base : Nat) (l : List Nat) (d : Nat) (w : World) (hown : w.ownsRow base 24 1 (.slice (some ⟨g, 0, none⟩) l.length ca) l.length (cellsN .u32 l))
    (hbw : base ≤ w.heap.size) (hlo : Lo 4294967296 l) (hl : l.length ≤ 1000000) (hd0 : 0 < d) (hd : d < 4294967296) :
    Calls Try.prog 35 #[.slice (some ⟨g, 0, none⟩) l.length ca, .int .u32 (d : Int)] w fun e w' => e = .returned (.int .u32 ((vb 4294967296 l % d : Nat) : Int)) ∧
      ∃ p : List Nat, p.length = l.length ∧ Lo 4294967296 p ∧ vb 4294967296 p = vb 4294967296 l / d ∧ w'.ownsRow base 24 1 (.slice (some ⟨g, 0, none⟩) l.length ca) l.length (cellsN .u32 p) ∧ Below base w w' ∧ w.grownBy w' (some g) := by
  have hg := (hown.lt g rfl).1
  go_enter Try.func35, Try.ntmps35
  go_wp2_with fail
  go_loopw [5, 6] (fun v5 v6 wr => ∃ (k left : Nat) (p : List Nat), v5 = .int .u32 (left : Int) ∧ v6 = .int .i64 ((k : Int) - 1) ∧ left < d ∧ k ≤ l.length ∧ p.length = l.length ∧ Lo 4294967296 p ∧ p.take k = l.take k ∧
      vb 4294967296 (p.drop k) * d + left = vb 4294967296 (l.drop k) ∧ wr.ownsRow base 24 1 (.slice (some ⟨g, 0, none⟩) l.length ca) l.length (cellsN .u32 p) ∧ Below base w wr ∧ w.grownBy wr (some g))
    (fun _ v6 _ => (intOf v6 + 1).toNat)
  case atStart => exact ⟨l.length, 0, l, rfl, by go_num, hd0, Nat.le_refl _, rfl, hlo, rfl, by simp [vb], hown, Below.refl _ _, World.grownBy_refl' w (some g)⟩
  case round =>
    obtain ⟨k, left, p, rfl, rfl, hleft, hk, hpl, hpo, hpt, hval, hop, hBr, hGr⟩ := hrel
    cases k with
    | zero =>
      have HX := Lib.hid (And.intro hval hop)
      clear hval hop hown
      go_wp2_with fail
      go_ret
      obtain ⟨hval, hop⟩ := HX.out
      rw [List.drop_zero, List.drop_zero] at hval
      have e1 : vb 4294967296 l % d = left := by rw [← hval, Nat.mul_comm, Nat.mul_add_mod, Nat.mod_eq_of_lt hleft]
      have e2 : vb 4294967296 l / d = vb 4294967296 p := by rw [← hval, Nat.mul_comm, Nat.mul_add_div hd0, Nat.div_eq_of_lt hleft, Nat.add_zero]
      rw [e1]
      exact ⟨rfl, p, hpl, hpo, e2.symm, hop, hBr, hGr⟩
    | succ k =>
      have hcp : wr.cell? ⟨g, k, none⟩ = some (.int .u32 ((p.getD k 0 : Nat) : Int)) := (hop.cellAt k (by omega)).trans (cellsN_at (by omega))
      have hfp : wr.frozen? ⟨g, k, none⟩ = false := hop.frozenAt k
      rw [getD_take hpt] at hcp
      have hx := lo_getD (b := 4294967296) (by omega) hlo k
      have hst := fun q r h => small_step l p k d left q r (by omega) hpl hval h
      have HS := fun w => div32_walk left (l.getD k 0) d w hleft hx hd
      generalize l.getD k 0 = x at *
      have hny : left * 4294967296 + x < d * 4294967296 := by
        have : (left + 1) * 4294967296 ≤ d * 4294967296 := Nat.mul_le_mul_right _ hleft
        omega
      have hq1 : (left * 4294967296 + x) / d < 4294967296 := Nat.div_lt_of_lt_mul hny
      have hr1 : (left * 4294967296 + x) % d < d := Nat.mod_lt _ hd0
      have hqr := Nat.mod_add_div (left * 4294967296 + x) d
      have hst2 := hst ((left * 4294967296 + x) / d) ((left * 4294967296 + x) % d) (by rw [Nat.mul_comm]; omega)
      generalize (left * 4294967296 + x) / d = q at *
      generalize (left * 4294967296 + x) % d = r at *
      have HX := Lib.hid (And.intro hst2 (And.intro hop hpt))
      replace HS := Lib.hid HS
      have hk1 : (((k + 1 : Nat) : Int) - 1) = (k : Int) := by omega
      rw [hk1]
      have i0 : (0 : Int) ≤ (k : Int) := by omega
      have i1 : (k : Int) < (l.length : Int) := by omega
      clear hst hst2 hop hpt hval hown hqr hny
      go_wp2_with fail
      refine (HS.out _).mono ?_
      rintro e w' ⟨he, n, hw⟩
      subst he
      subst hw
      dsimp only
      go_wp2_with fail
      obtain ⟨hst2, hop, hpt⟩ := HX.out
      have hs := World.ownsRow.stored (w := wr.drewN n) hop k (.int .u32 (q : Int))
      rw [cellsN_set] at hs
      refine ⟨⟨k, r, p.set k q, rfl, by go_num, hr1, by omega, by rw [List.length_set]; exact hpl, lo_set hpo hq1 k, take_set_eq hpt, hst2, hs.1, (quiet_below hBr n).setCell (p := ⟨g, k, none⟩) hg _, hGr.trans ⟨hs.2.os, hs.2.tape, hs.2.output, hs.2.size, hs.2.block⟩⟩, by simp [intOf]⟩

end Go.Proofs.Ytpklbdgajbfaiaa
