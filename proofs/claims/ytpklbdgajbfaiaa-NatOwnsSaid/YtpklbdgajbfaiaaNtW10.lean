/- The program's 'less', walked: one natural taken from another, in place. -/
import Derived.Test.YtpklbdgajbfaiaaNtW9
namespace Go.Proofs.Ytpklbdgajbfaiaa
open Go.RowKit
set_option linter.unusedVariables false

theorem World.grownBy_refl' (w : World) (row : Option Nat) : w.grownBy w row := ⟨rfl, rfl, rfl, Nat.le_refl _, fun _ _ _ => rfl⟩
theorem set_take (l : List Nat) (i d : Nat) (h : i < l.length) : (l.set i d).take (i + 1) = l.take i ++ [d] := by
  rw [List.take_succ_eq_append_getElem (by simpa using h), List.take_set_of_le (Nat.le_refl _)]
  simp
theorem set_drop (l : List Nat) (i d : Nat) : (l.set i d).drop (i + 1) = l.drop (i + 1) := by
  rw [List.drop_set_of_lt (by omega)]
theorem getD_drop {l r : List Nat} {i : Nat} (h : l.drop i = r.drop i) : l.getD i 0 = r.getD i 0 := by
  have := congrArg (fun x => x[0]?) h
  simp only [List.getElem?_drop, Nat.add_zero] at this
  rw [List.getD_eq_getElem?_getD, List.getD_eq_getElem?_getD, this]
theorem drop_more {l r : List Nat} {i : Nat} (h : l.drop i = r.drop i) : l.drop (i + 1) = r.drop (i + 1) := by
  have := congrArg (List.drop 1) h
  simpa [List.drop_drop, Nat.add_comm] using this
/-- One word less. -/
theorem less_step (b : Nat) (l p r : List Nat) (i d k k' : Nat) (hi : i < p.length) (hv : vb b (p.take i) + vb b (r.take i) = vb b (l.take i) + b ^ i * k) (hd : d + r.getD i 0 + k = l.getD i 0 + b * k') :
    vb b ((p.set i d).take (i + 1)) + vb b (r.take (i + 1)) = vb b (l.take (i + 1)) + b ^ (i + 1) * k' := by
  rw [set_take p i d hi, vb_snoc, List.length_take, Nat.min_eq_left (Nat.le_of_lt hi), vb_take, vb_take, Nat.pow_succ]
  have e : b ^ i * (d + r.getD i 0 + k) = b ^ i * (l.getD i 0 + b * k') := by rw [hd]
  rw [Nat.mul_add, Nat.mul_add, Nat.mul_add, ← Nat.mul_assoc] at e
  omega

set_option maxHeartbeats 4000000 in
theorem less_any (g ca base B : Nat) (l : List Nat) (A2 : Option Addr) (c2 : Nat) (r : List Nat) (w : World) (hown : w.ownsRow base 24 1 (.slice (some ⟨g, 0, none⟩) l.length ca) l.length (cellsN .u32 l)) (hr : Rw .u32 w B A2 r)
    (hB : B ≤ base) (hbw : base ≤ w.heap.size) (hlo : Lo 4294967296 l) (hlr : Lo 4294967296 r) (hln : r.length ≤ l.length) (hl : l.length ≤ 1000000) (hle : vb 4294967296 r ≤ vb 4294967296 l) :
    Calls Try.prog 34 #[.slice (some ⟨g, 0, none⟩) l.length ca, .slice A2 r.length c2] w fun e w' => e = .returned (.tuple #[]) ∧
      ∃ p : List Nat, p.length = l.length ∧ Lo 4294967296 p ∧ vb 4294967296 p = vb 4294967296 l - vb 4294967296 r ∧ w'.ownsRow base 24 1 (.slice (some ⟨g, 0, none⟩) l.length ca) l.length (cellsN .u32 p) ∧ Below base w w' ∧ w.grownBy w' (some g) := by
  have hg := (hown.lt g rfl).1
  go_enter Try.func34, Try.ntmps34
  go_wp2_with fail
  go_loopw [4, 9] (fun v4 v9 wr => ∃ (i k : Nat) (p : List Nat), v4 = .int .u32 (k : Int) ∧ v9 = .int .i64 (i : Int) ∧ k ≤ 1 ∧ i ≤ l.length ∧ p.length = l.length ∧ Lo 4294967296 p ∧ p.drop i = l.drop i ∧
      vb 4294967296 (p.take i) + vb 4294967296 (r.take i) = vb 4294967296 (l.take i) + 4294967296 ^ i * k ∧ wr.ownsRow base 24 1 (.slice (some ⟨g, 0, none⟩) l.length ca) l.length (cellsN .u32 p) ∧ Below base w wr ∧ w.grownBy wr (some g))
    (fun _ v9 _ => l.length - (intOf v9).toNat)
  case atStart => exact ⟨0, 0, l, rfl, rfl, by omega, Nat.zero_le _, rfl, hlo, rfl, by simp [vb], hown, Below.refl _ _, World.grownBy_refl' w (some g)⟩
  case round =>
    obtain ⟨i, k, p, rfl, rfl, hk, hi, hpl, hpo, hpd, hval, hop, hBr, hGr⟩ := hrel
    by_cases hlt : i < l.length
    · have hcp : wr.cell? ⟨g, i, none⟩ = some (.int .u32 ((p.getD i 0 : Nat) : Int)) := (hop.cellAt i (by omega)).trans (cellsN_at (by omega))
      have hfp : wr.frozen? ⟨g, i, none⟩ = false := hop.frozenAt i
      rw [getD_drop hpd] at hcp
      have hx := lo_getD (b := 4294967296) (by omega) hlo i
      have hy := lo_getD (b := 4294967296) (by omega) hlr i
      have hst := fun d k' h => less_step 4294967296 l p r i d k k' (by omega) hval h
      have hpd2 := drop_more hpd
      have i1 : (i : Int) < (l.length : Int) := by omega
      have i0 : (0 : Int) ≤ (i : Int) := by omega
      have HS := Lib.hid (fun w => sub32_walk (l.getD i 0) (r.getD i 0) k w hx hy hk)
      by_cases hlr2 : i < r.length
      · obtain ⟨b2, o2, rfl, _, hc2⟩ := (hr.below (hBr.mono hB)).at_ hlr2
        have i2 : (i : Int) < (r.length : Int) := by omega
        generalize l.getD i 0 = x at *
        generalize r.getD i 0 = y at *
        obtain ⟨d, hd⟩ : ∃ d, d = (x + 8589934592 - y - k) % 4294967296 := ⟨_, rfl⟩
        obtain ⟨k', hk'⟩ : ∃ k' : Nat, k' = if x < y + k then 1 else 0 := ⟨_, rfl⟩
        have hdd : d + y + k = x + 4294967296 * k' := by rw [hk']; split <;> omega
        have hk1 : k' ≤ 1 := by rw [hk']; split <;> omega
        have hdl : d < 4294967296 := by omega
        rw [← hd, ← hk'] at HS
        clear hd hk'
        have HX := Lib.hid (And.intro hst (And.intro hval (And.intro hpd2 (And.intro hop hpd))))
        clear hst hval hpd2 hop hpd hown hr
        go_wp2_with fail
        refine (HS.out _).mono ?_
        rintro e w' ⟨he, hw⟩
        subst he
        subst hw
        dsimp only
        go_wp2_with fail
        have hs := HX.out.2.2.2.1.stored i (.int .u32 (d : Int))
        rw [cellsN_set] at hs
        refine ⟨⟨i + 1, k', p.set i d, by go_num, by go_num, hk1, by omega, by rw [List.length_set]; exact hpl, lo_set hpo hdl i, by rw [set_drop]; exact HX.out.2.2.1, HX.out.1 d k' hdd, hs.1, hBr.setCell (p := ⟨g, i, none⟩) hg _, hGr.trans hs.2⟩, ?_⟩
        simp [intOf]; omega
      · have z2 : r.getD i 0 = 0 := by rw [List.getD_eq_getElem?_getD, List.getElem?_eq_none (by omega)]; rfl
        have i2 : ¬ (i : Int) < (r.length : Int) := by omega
        generalize l.getD i 0 = x at *
        generalize r.getD i 0 = y at *
        obtain ⟨d, hd⟩ : ∃ d, d = (x + 8589934592 - y - k) % 4294967296 := ⟨_, rfl⟩
        obtain ⟨k', hk'⟩ : ∃ k' : Nat, k' = if x < y + k then 1 else 0 := ⟨_, rfl⟩
        have hdd : d + y + k = x + 4294967296 * k' := by rw [hk']; split <;> omega
        have hk1 : k' ≤ 1 := by rw [hk']; split <;> omega
        have hdl : d < 4294967296 := by omega
        rw [← hd, ← hk'] at HS
        clear hd hk'
        subst z2
        have HS := Lib.hid (fun w => show Calls Try.prog 44 #[.int .u32 (x : Int), .int .u32 0, .int .u32 (k : Int)] w fun e w' => e = .returned (.tuple #[.int .u32 (d : Int), .int .u32 (k' : Int)]) ∧ w = w' from HS.out w)
        have HX := Lib.hid (And.intro hst (And.intro hval (And.intro hpd2 (And.intro hop hpd))))
        clear hst hval hpd2 hop hpd hown hr
        go_wp2_with fail
        refine (HS.out _).mono ?_
        rintro e w' ⟨he, hw⟩
        subst he
        subst hw
        dsimp only
        go_wp2_with fail
        have hs := HX.out.2.2.2.1.stored i (.int .u32 (d : Int))
        rw [cellsN_set] at hs
        refine ⟨⟨i + 1, k', p.set i d, by go_num, by go_num, hk1, by omega, by rw [List.length_set]; exact hpl, lo_set hpo hdl i, by rw [set_drop]; exact HX.out.2.2.1, HX.out.1 d k' hdd, hs.1, hBr.setCell (p := ⟨g, i, none⟩) hg _, hGr.trans hs.2⟩, ?_⟩
        simp [intOf]; omega
    · have hil : i = l.length := by omega
      have i1 : ¬ (i : Int) < (l.length : Int) := by omega
      have HX := Lib.hid (And.intro hval hop)
      clear hval hop hown hr hpd
      go_wp2_with fail
      go_end0
      obtain ⟨hval, hop⟩ := HX.out
      subst hil
      rw [List.take_of_length_le (by omega), List.take_of_length_le (by omega), List.take_of_length_le (Nat.le_refl _)] at hval
      have hlt := vb_lt 4294967296 (by omega) p hpo
      rw [hpl] at hlt
      refine ⟨rfl, p, hpl, hpo, ?_, hop, hBr, hGr⟩
      rcases Nat.eq_zero_or_pos k with rfl | hk0
      · omega
      · have : k = 1 := by omega
        subst this
        omega

end Go.Proofs.Ytpklbdgajbfaiaa
