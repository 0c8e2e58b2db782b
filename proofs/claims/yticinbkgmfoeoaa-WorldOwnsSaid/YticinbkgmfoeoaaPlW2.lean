/- One call on both worlds: walked. -/
import Derived.Test.YticinbkgmfoeoaaPlW1
namespace Go.Proofs.Yticinbkgmfoeoaa
open Go.RowKit
set_option linter.unusedVariables false

section
variable {W0 w w1 : World} {lo g m : Nat} {fv cv sv ev kv : Value} {fs : List FT} {cl : List CT} {CL : List CM} {sl : List ByteArray} {E : List (ByteArray × ByteArray)} {K : List Int} {X : Nat → Prop} {n2 : Nat} {asked : List ByteArray} {t : Nat} {op : List ST} {ac : List AT} {size : Int}

set_option maxRecDepth 20000 in
set_option maxHeartbeats 8000000 in
theorem step_end (h : Even W0 lo g m fv cv sv ev kv fs CL sl E K X w1 n2 asked t op ac size w) (ho : op.length ≤ 8) (ha : ac.length ≤ 20000) (h0 : 0 ≤ size) (h1 : size ≤ 16384) (to : Int) (nm dt : ByteArray) :
    Calls Try.prog 17 #[.pointer (some ⟨g, 0, none⟩), .pointer (some ⟨m, 0, none⟩), .agg #[.int .i64 6, .int .i64 to, .string nm, .string dt]] w (Evn W0 lo g m fv cv sv ev kv fs CL sl E K n2 asked t ac) := by
  have hb1 : Below w.heap.size w (w.alloc (.cells #[.int .i64 6, .int .i64 to, .string nm, .string dt] 43)) := (Below.refl _ w).alloc (Nat.le_refl _) _
  have H := Lib.hid (BW.below h hb1)
  have HN := Lib.hid (And.intro ho (And.intro ha (And.intro h0 h1)))
  clear h hb1 ho ha h0 h1
  go_enter Try.func17, Try.ntmps17
  go_wp2_with fail
  obtain ⟨D, hM, hN⟩ := H.out.open
  refine (mwd_end hM (Nat.le_trans HN.out.2.1 (by omega)) HN.out.1).mono ?_
  rintro e w2 ⟨rfl, h2, h3, h4⟩
  have H2 := Lib.hid (hN h2 h3 h4)
  clear hM hN h2 h3 h4 H
  go_wp2_with fail
  obtain ⟨qa, qo, qc, hR, hb, hm, hN⟩ := H2.out.openR
  refine (r_end hR (Nat.le_trans HN.out.2.1 (by omega)) HN.out.1).mono ?_
  rintro e w3 ⟨rfl, h5⟩
  have H3 := Lib.hid (hN h5)
  clear hR hb hm hN h5 H2
  go_wp2_with fail
  go_ret
  obtain ⟨ho, ha, h0, h1⟩ := HN.out
  exact ⟨rfl, n2, asked, t, [], _, size, by omega, by omega, by omega, by simp, by simp [shutS]; omega, h0, h1, H3.out.forget⟩

set_option maxRecDepth 20000 in
set_option maxHeartbeats 8000000 in
theorem step_input (h : Even W0 lo g m fv cv sv ev kv fs CL sl E K X w1 n2 asked t op ac size w) (hS : ScriptIs W0 fv cv sv ev kv fs cl CL sl E K) (hn2 : n2 ≤ 2932031008000) (hq : asked.length ≤ 900) (ht : t ≤ 900) (ho : op.length ≤ 8) (ha : ac.length ≤ 20000) (h0 : 0 ≤ size) (h1 : size ≤ 16384) (to : Int) (nm dt : ByteArray) (hnm : nm.size ≤ maxLen) :
    Calls Try.prog 17 #[.pointer (some ⟨g, 0, none⟩), .pointer (some ⟨m, 0, none⟩), .agg #[.int .i64 1, .int .i64 to, .string nm, .string dt]] w (Evn W0 lo g m fv cv sv ev kv fs CL sl E K n2 asked t ac) := by
  have hb1 : Below w.heap.size w (w.alloc (.cells #[.int .i64 1, .int .i64 to, .string nm, .string dt] 43)) := (Below.refl _ w).alloc (Nat.le_refl _) _
  have H := Lib.hid (BW.below h hb1)
  have HN := Lib.hid (And.intro hS (And.intro hn2 (And.intro hq (And.intro ht (And.intro ho (And.intro ha (And.intro h0 (And.intro h1 hnm))))))))
  have HC := Lib.hid (op_box w 1 to nm dt 43)
  clear h hb1 hS hn2 hq ht ho ha h0 h1 hnm
  go_enter Try.func17, Try.ntmps17
  go_wp2_with fail
  have hl := std_len (b := 8796093022208) (fun f hf => (HN.out.1.hf1 f hf).2.1) HN.out.1.hsl nm
  obtain ⟨D, hM, _⟩ := H.out.open
  refine (mwd_input hM nm HN.out.2.2.2.2.2.2.2.2 hl).mono ?_
  rintro e w2 ⟨v, rfl, hv, hb2⟩
  have hc2 := (hb2.cell (lt_of_cell HC.out.2.2.1)).trans HC.out.2.2.1
  have H2 := Lib.hid (BW.below H.out hb2)
  have HV := Lib.hid (RowT.of_own hv).1.a
  obtain ⟨A1, c1, rfl⟩ := own_shape hv
  have HL := Lib.hid hl
  clear hM hb2 hv H hl HC
  go_wp2_with fail
  obtain ⟨qa, qo, qc, hR, hb, hm, _⟩ := H2.out.openR
  refine (r_input hR HN.out.1 hb nm).mono ?_
  rintro e w3 ⟨v, rfl, hv, hw⟩
  subst hw
  obtain ⟨A2, c2, rfl⟩ := hv.shape
  have HV2 := Lib.hid hv
  clear hR hb hm hv hc2
  generalize stdL (fileL fs) sl 2 nm = R at *
  generalize hB : R.isSome = B at *
  clear hB
  go_wp2_with fail
  refine (same_strs A1 A2 c1 c2 _ _ w3 HV.out HV2.out HL.out).mono ?_
  rintro e w4 ⟨rfl, hb4⟩
  have H4 := Lib.hid (BW.below H2.out hb4)
  clear hb4
  rw [decide_eq_true rfl]
  go_wp2_with fail
  go_ret
  obtain ⟨hS, hn2, hq, ht, ho, ha, h0, h1, hnm⟩ := HN.out
  exact ⟨rfl, n2, asked, t, op, ac, size, by omega, by omega, by omega, ho, by omega, h0, h1, H4.out.forget⟩

set_option maxRecDepth 20000 in
set_option maxHeartbeats 8000000 in
theorem step_run (h : Even W0 lo g m fv cv sv ev kv fs CL sl E K X w1 n2 asked t op ac size w) (hS : ScriptIs W0 fv cv sv ev kv fs cl CL sl E K) (hn2 : n2 ≤ 2932031008000) (hq : asked.length ≤ 900) (ht : t ≤ 900) (ho : op.length ≤ 8) (ha : ac.length ≤ 20000) (h0 : 0 ≤ size) (h1 : size ≤ 16384) (to : Int) (nm dt : ByteArray) (hnm : nm.size ≤ maxLen) :
    Calls Try.prog 17 #[.pointer (some ⟨g, 0, none⟩), .pointer (some ⟨m, 0, none⟩), .agg #[.int .i64 2, .int .i64 to, .string nm, .string dt]] w (Evn W0 lo g m fv cv sv ev kv fs CL sl E K n2 asked t ac) := by
  have hb1 : Below w.heap.size w (w.alloc (.cells #[.int .i64 2, .int .i64 to, .string nm, .string dt] 43)) := (Below.refl _ w).alloc (Nat.le_refl _) _
  have H := Lib.hid (BW.fresh h hb1 (Nat.le_refl _) (by simp))
  have HN := Lib.hid (And.intro hS (And.intro hn2 (And.intro hq (And.intro ht (And.intro ho (And.intro ha (And.intro h0 (And.intro h1 hnm))))))))
  have HC := Lib.hid (op_box w 2 to nm dt 43)
  clear h hb1 hS hn2 hq ht ho ha h0 h1 hnm
  go_enter Try.func17, Try.ntmps17
  go_wp2_with fail
  have hcl : CL.length ≤ 2932031007402 := by rw [← HN.out.1.hcm.1]; exact HN.out.1.hcl
  have hl := next_small (CL := CL) (fun y hy => (HN.out.1.hcm2 y hy).1) nm (cntA asked nm)
  obtain ⟨D, hM, hN⟩ := H.out.open
  refine (mwd_run hM (Nat.le_trans HN.out.2.2.2.2.2.1 (by omega)) nm HN.out.2.2.2.2.2.2.2.2 (Nat.lt_of_le_of_lt HN.out.2.1 (by unfold maxLen; omega)) (Nat.le_trans (cmd_small _ _ _) hcl) hl).mono ?_
  rintro e w2 ⟨v, rfl, hv, n2', hn2', h2, h3, h4⟩
  rw [tailF_asked] at h2
  have hq2 := hN h2 h3 h4
  have hc2 := hq2.stands rfl HC.out.2.2.1
  have H2 := Lib.hid hq2
  have HV := Lib.hid hv
  have HL := Lib.hid (And.intro hl hn2')
  obtain ⟨qa0, qo0, qc0, hR0, _⟩ := H.out.openR
  have HM := Lib.hid hR0.mlt
  clear hM hN hv hl hcl h2 h3 h4 hq2 hR0 H HC hn2'
  obtain ⟨A1, c1, rfl⟩ := own_shape HV.out
  go_wp2_with fail
  obtain ⟨qa, qo, qc, hR, hb, hm, hN⟩ := H2.out.openR
  refine (r_run hR HN.out.1 hb hm (Nat.le_trans HN.out.2.2.1 (by omega)) (Nat.le_trans HN.out.2.2.2.2.2.1 (by omega)) nm).mono ?_
  rintro e w3 ⟨v, rfl, hv, h5⟩
  obtain ⟨A2, c2, rfl⟩ := hv.shape
  have hvo := own_turn HV.out h5.choose_spec.choose_spec.choose_spec.2.1 (fun j e x => by have h9 := HM.out; have h8 := (HV.out.lt j e).1; omega)
  have HV1 := Lib.hid (RowT.of_own hvo).1.a
  have HV2 := Lib.hid hv
  have H3 := Lib.hid (hN h5)
  clear hR hb hm hN h5 hv hvo hc2 HV HM H2
  generalize nextM ((cmdF CL nm).drop (cntA asked nm)) = R at *
  go_wp2_with fail
  refine (same_strs A1 A2 c1 c2 _ _ w3 HV1.out HV2.out HL.out.1).mono ?_
  rintro e w4 ⟨rfl, hb4⟩
  have H4 := Lib.hid (BW.below H3.out hb4)
  clear hb4
  rw [decide_eq_true rfl]
  go_wp2_with fail
  go_ret
  obtain ⟨hS, hn2, hq, ht, ho, ha, h0, h1, hnm⟩ := HN.out
  exact ⟨rfl, n2', asked ++ [nm], t, op, _, size, HL.out.2, by simp, by omega, ho, by simp, h0, h1, H4.out.forget⟩

set_option maxRecDepth 20000 in
set_option maxHeartbeats 8000000 in
theorem step_clock (h : Even W0 lo g m fv cv sv ev kv fs CL sl E K X w1 n2 asked t op ac size w) (hS : ScriptIs W0 fv cv sv ev kv fs cl CL sl E K) (hn2 : n2 ≤ 2932031008000) (hq : asked.length ≤ 900) (ht : t ≤ 900) (ho : op.length ≤ 8) (ha : ac.length ≤ 20000) (h0 : 0 ≤ size) (h1 : size ≤ 16384) (to : Int) (nm dt : ByteArray) (hnm : nm.size ≤ maxLen) :
    Calls Try.prog 17 #[.pointer (some ⟨g, 0, none⟩), .pointer (some ⟨m, 0, none⟩), .agg #[.int .i64 7, .int .i64 to, .string nm, .string dt]] w (Evn W0 lo g m fv cv sv ev kv fs CL sl E K n2 asked t ac) := by
  have hb1 : Below w.heap.size w (w.alloc (.cells #[.int .i64 7, .int .i64 to, .string nm, .string dt] 43)) := (Below.refl _ w).alloc (Nat.le_refl _) _
  have H := Lib.hid (BW.below h hb1)
  have HN := Lib.hid (And.intro hS (And.intro hn2 (And.intro hq (And.intro ht (And.intro ho (And.intro ha (And.intro h0 (And.intro h1 hnm))))))))
  clear h hb1 hS hn2 hq ht ho ha h0 h1 hnm
  go_enter Try.func17, Try.ntmps17
  go_wp2_with fail
  obtain ⟨D, hM, hN⟩ := H.out.open
  refine (mwd_clock hM (Nat.le_trans (clkL_len _ _) (Nat.le_trans HN.out.1.hcn (by unfold maxLen; omega)))).mono ?_
  rintro e w2 ⟨rfl, h2, h3, h4⟩
  rw [clkL_tick] at h2
  have H2 := Lib.hid (hN h2 h3 h4)
  clear hM hN h2 h3 h4 H
  rw [clkL_head]
  go_wp2_with fail
  obtain ⟨qa, qo, qc, hR, hb, hm, hN⟩ := H2.out.openR
  refine (r_clock hR HN.out.1.hkv.1 hb hm (Nat.le_trans HN.out.2.2.2.1 (by omega)) HN.out.1.hcn).mono ?_
  rintro e w3 ⟨rfl, h5⟩
  have H3 := Lib.hid (hN h5)
  clear hR hb hm hN h5 H2
  generalize tickK K t = q at *
  go_wp2_with fail
  go_ret
  obtain ⟨hS, hn2, hq, ht, ho, ha, h0, h1, hnm⟩ := HN.out
  exact ⟨rfl, n2, asked, _, op, ac, size, by omega, by omega, by split <;> omega, ho, by omega, h0, h1, H3.out.forget⟩

set_option maxRecDepth 20000 in
set_option maxHeartbeats 8000000 in
theorem step_system (h : Even W0 lo g m fv cv sv ev kv fs CL sl E K X w1 n2 asked t op ac size w) (hS : ScriptIs W0 fv cv sv ev kv fs cl CL sl E K) (hn2 : n2 ≤ 2932031008000) (hq : asked.length ≤ 900) (ht : t ≤ 900) (ho : op.length ≤ 8) (ha : ac.length ≤ 20000) (h0 : 0 ≤ size) (h1 : size ≤ 16384) (to : Int) (nm dt : ByteArray) (hnm : nm.size ≤ maxLen) :
    Calls Try.prog 17 #[.pointer (some ⟨g, 0, none⟩), .pointer (some ⟨m, 0, none⟩), .agg #[.int .i64 3, .int .i64 to, .string nm, .string dt]] w (Evn W0 lo g m fv cv sv ev kv fs CL sl E K n2 asked t ac) := by
  have hb1 : Below w.heap.size w (w.alloc (.cells #[.int .i64 3, .int .i64 to, .string nm, .string dt] 43)) := (Below.refl _ w).alloc (Nat.le_refl _) _
  have hq1 := BW.fresh h hb1 (Nat.le_refl _) (by simp)
  have hq2 := hq1.below (Below.refl _ _).drew
  have HN := Lib.hid (And.intro hS (And.intro hn2 (And.intro hq (And.intro ht (And.intro ho (And.intro ha (And.intro h0 (And.intro h1 hnm))))))))
  obtain ⟨k0, k1, k2, k3⟩ := op_box w 3 to nm dt 43
  generalize hWB : w.alloc (.cells #[.int .i64 3, .int .i64 to, .string nm, .string dt] 43) = WB at hq1 hq2 k0 k1 k2 k3
  have hcl : CL.length ≤ 2932031007402 := by rw [← hS.hcm.1]; exact hS.hcl
  obtain ⟨q, hqq⟩ : ∃ q, (nextM ((cmdF CL nm).drop (cntA asked nm))).2.2 = q := ⟨_, rfl⟩
  have HP := Lib.hid (show Calls Try.prog 26 #[.pointer (some ⟨g, 0, none⟩), .string nm] WB.drew (fun e w' => e = .returned (.int .i64 q) ∧ w'.cell? ⟨w.heap.size, 2, none⟩ = some (.string nm) ∧
      Hid (∃ n2', n2' ≤ n2 + 1 ∧ BW W0 lo g m fv cv sv ev kv E (stdL (fileL fs) sl 2) (fun j => j = w.heap.size) WB n2' (fun x => (cmdF CL x).drop (cntA (asked ++ [nm]) x)) (clkL K t) op (ac ++ [(10, nm, ⟨#[]⟩)]) size asked t op ac size w')) from by
    obtain ⟨D, hM, hN⟩ := hq2.open
    refine (mwd_system hM (Nat.le_trans ha (by omega)) nm hnm (Nat.lt_of_le_of_lt hn2 (by unfold maxLen; omega)) (Nat.le_trans (cmd_small _ _ _) hcl)).mono ?_
    rintro e w2 ⟨rfl, n2', hn2', h2, h3, h4⟩
    rw [tailF_asked] at h2
    have hf := hN h2 h3 h4
    exact ⟨by rw [hqq], hf.stands rfl k2, Lib.hid ⟨n2', hn2', hf⟩⟩)
  have HM := Lib.hid (show ∀ (w2 : World), w2.cell? ⟨w.heap.size, 2, none⟩ = some (.string nm) →
      Hid (∃ n2', n2' ≤ n2 + 1 ∧ BW W0 lo g m fv cv sv ev kv E (stdL (fileL fs) sl 2) (fun j => j = w.heap.size) WB n2' (fun x => (cmdF CL x).drop (cntA (asked ++ [nm]) x)) (clkL K t) op (ac ++ [(10, nm, ⟨#[]⟩)]) size asked t op ac size w2) →
      Calls Try.prog 36 #[.pointer (some ⟨m, 0, none⟩), .string nm] w2 (fun e w' => e = .returned (.int .i64 q) ∧ w'.cell? ⟨w.heap.size, 2, none⟩ = some (.string nm) ∧
        Hid (∃ n2', n2' ≤ n2 + 1 ∧ Even W0 lo g m fv cv sv ev kv fs CL sl E K (fun j => j = w.heap.size) WB n2' (asked ++ [nm]) t op (ac ++ [(10, nm, ⟨#[]⟩)]) size w')) from by
    intro w2 _ hH
    obtain ⟨n2', hn2', hB2⟩ := hH.out
    obtain ⟨qa, qo, qc, hR, hb, hm, hN⟩ := hB2.openR
    refine (r_system hR hS hb hm (Nat.le_trans hq (by omega)) (Nat.le_trans ha (by omega)) nm).mono ?_
    rintro e w3 ⟨rfl, h5⟩
    have hf := hN h5
    exact ⟨by rw [hqq], hf.stands rfl k2, Lib.hid ⟨n2', hn2', hf⟩⟩)
  clear hcl hqq k1 k3
  clear hq1 hq2 h hb1 hS hn2 hq ht ho ha h0 h1 hnm k0
  subst hWB
  go_enter Try.func17, Try.ntmps17
  go_wp2_with fail
  go_region_held3 (fun W => W.cell? ⟨w.heap.size, 2, none⟩ = some (.string nm))
    (first | (exact k2) | (go_split_ands; assumption))
    (first
      | (go_at_call 26; refine (HP.out).mono ?_; rintro e wx ⟨rfl, hcx, hbx⟩)
      | (go_at_call 36; refine (HM.out _ (by go_split_ands; assumption) (by go_split_ands; assumption)).mono ?_; rintro e wx ⟨rfl, hcx, hby⟩))
  go_wp2_with fail
  go_split_ands
  go_ret
  obtain ⟨hS, hn2, hq, ht, ho, ha, h0, h1, hnm⟩ := HN.out
  have hfin : Hid (∃ n2', n2' ≤ n2 + 1 ∧ Even W0 lo g m fv cv sv ev kv fs CL sl E K (fun j => j = w.heap.size) (w.alloc (.cells #[.int .i64 3, .int .i64 to, .string nm, .string dt] 43)) n2' (asked ++ [nm]) t op (ac ++ [(10, nm, ⟨#[]⟩)]) size wx) := by assumption
  obtain ⟨n2', hn2', hf⟩ := hfin.out
  exact ⟨rfl, n2', asked ++ [nm], t, op, _, size, hn2', by simp, by omega, ho, by simp, h0, h1, hf.forget⟩

set_option maxRecDepth 20000 in
set_option maxHeartbeats 8000000 in
theorem step_write (h : Even W0 lo g m fv cv sv ev kv fs CL sl E K X w1 n2 asked t op ac size w) (hS : ScriptIs W0 fv cv sv ev kv fs cl CL sl E K) (hn2 : n2 ≤ 2932031008000) (hq : asked.length ≤ 900) (ht : t ≤ 900) (ho : op.length ≤ 8) (ha : ac.length ≤ 20000) (h0 : 0 ≤ size) (h1 : size ≤ 16384) (to : Int) (nm dt : ByteArray) (hnm : nm.size ≤ maxLen) :
    Calls Try.prog 17 #[.pointer (some ⟨g, 0, none⟩), .pointer (some ⟨m, 0, none⟩), .agg #[.int .i64 4, .int .i64 to, .string nm, .string dt]] w (Evn W0 lo g m fv cv sv ev kv fs CL sl E K n2 asked t ac) := by
  have hb1 : Below w.heap.size w (w.alloc (.cells #[.int .i64 4, .int .i64 to, .string nm, .string dt] 43)) := (Below.refl _ w).alloc (Nat.le_refl _) _
  have hq1 := BW.fresh h hb1 (Nat.le_refl _) (by simp)
  have hq2 := hq1.below (Below.refl _ _).drew
  have HN := Lib.hid (And.intro hS (And.intro hn2 (And.intro hq (And.intro ht (And.intro ho (And.intro ha (And.intro h0 (And.intro h1 hnm))))))))
  obtain ⟨k0, k1, k2, k3⟩ := op_box w 4 to nm dt 43
  generalize hWB : w.alloc (.cells #[.int .i64 4, .int .i64 to, .string nm, .string dt] 43) = WB at hq1 hq2 k0 k1 k2 k3
  have hsm := wr_small to nm dt (ac := ac) ho h0 h1
  obtain ⟨R, hRR⟩ : ∃ R, wrS op ac size to nm dt = R := ⟨_, rfl⟩
  have HP := Lib.hid (show Calls Try.prog 10 #[.pointer (some ⟨g, 0, none⟩), .int .i64 to, .string nm, .string dt] WB.drew (fun e w' => e = .returned (.int .i64 R.1) ∧ (w'.cell? ⟨w.heap.size, 1, none⟩ = some (.int .i64 to) ∧ w'.cell? ⟨w.heap.size, 2, none⟩ = some (.string nm) ∧ w'.cell? ⟨w.heap.size, 3, none⟩ = some (.string dt)) ∧
      Hid (BW W0 lo g m fv cv sv ev kv E (stdL (fileL fs) sl 2) (fun j => j = w.heap.size) WB n2 (fun x => (cmdF CL x).drop (cntA asked x)) (clkL K t) R.2.1 R.2.2.1 R.2.2.2 asked t op ac size w')) from by
    obtain ⟨D, hM, hN⟩ := hq2.open
    refine (mwd_write hM (Nat.le_trans ha (by omega)) ho h0 h1 to nm dt).mono ?_
    rintro e w2 ⟨rfl, h2, h3, h4⟩
    rw [hRR] at h2
    have hf := hN h2 h3 h4
    exact ⟨by rw [hRR], ⟨hf.stands rfl k1, hf.stands rfl k2, hf.stands rfl k3⟩, Lib.hid hf⟩)
  have HM := Lib.hid (show ∀ (w2 : World), w2.cell? ⟨w.heap.size, 2, none⟩ = some (.string nm) →
      Hid (BW W0 lo g m fv cv sv ev kv E (stdL (fileL fs) sl 2) (fun j => j = w.heap.size) WB n2 (fun x => (cmdF CL x).drop (cntA asked x)) (clkL K t) R.2.1 R.2.2.1 R.2.2.2 asked t op ac size w2) →
      Calls Try.prog 37 #[.pointer (some ⟨m, 0, none⟩), .int .i64 to, .string nm, .string dt] w2 (fun e w' => e = .returned (.int .i64 R.1) ∧ (w'.cell? ⟨w.heap.size, 1, none⟩ = some (.int .i64 to) ∧ w'.cell? ⟨w.heap.size, 2, none⟩ = some (.string nm) ∧ w'.cell? ⟨w.heap.size, 3, none⟩ = some (.string dt)) ∧
        Hid (Even W0 lo g m fv cv sv ev kv fs CL sl E K (fun j => j = w.heap.size) WB n2 asked t R.2.1 R.2.2.1 R.2.2.2 w')) from by
    intro w2 _ hH
    obtain ⟨qa, qo, qc, hR, hb, hm, hN⟩ := hH.out.openR
    refine (r_write hR (Nat.le_trans ha (by omega)) ho h0 h1 to nm dt).mono ?_
    rintro e w3 ⟨rfl, h5⟩
    rw [hRR] at h5
    have hf := hN h5
    exact ⟨by rw [hRR], ⟨hf.stands rfl k1, hf.stands rfl k2, hf.stands rfl k3⟩, Lib.hid hf⟩)
  rw [hRR] at hsm
  have HR := Lib.hid hsm
  clear hRR hsm
  obtain ⟨r0, r1, r2, r3⟩ := R
  clear hq1 hq2 h hb1 hS hn2 hq ht ho ha h0 h1 hnm k0
  subst hWB
  go_enter Try.func17, Try.ntmps17
  go_wp2_with fail
  go_region_held3 (fun W => W.cell? ⟨w.heap.size, 1, none⟩ = some (.int .i64 to) ∧ W.cell? ⟨w.heap.size, 2, none⟩ = some (.string nm) ∧ W.cell? ⟨w.heap.size, 3, none⟩ = some (.string dt))
    (first | (exact ⟨k1, k2, k3⟩) | (go_split_ands; (refine ⟨?_, ?_, ?_⟩ <;> assumption)))
    (first
      | (go_at_call 10; refine (HP.out).mono ?_; rintro e wx ⟨rfl, hcx, hbx⟩)
      | (go_at_call 37; refine (HM.out _ (by go_split_ands; assumption) (by go_split_ands; assumption)).mono ?_; rintro e wx ⟨rfl, hcx, hby⟩))
  go_wp2_with fail
  go_split_ands
  go_ret
  obtain ⟨hS, hn2, hq, ht, ho, ha, h0, h1, hnm⟩ := HN.out
  have hfin : Hid (Even W0 lo g m fv cv sv ev kv fs CL sl E K (fun j => j = w.heap.size) (w.alloc (.cells #[.int .i64 4, .int .i64 to, .string nm, .string dt] 43)) n2 asked t r1 r2 r3 wx) := by assumption
  obtain ⟨b1, b2, b3, b4⟩ := HR.out
  exact ⟨rfl, n2, asked, t, _, _, _, by omega, by omega, by omega, b1, by omega, b3, b4, hfin.out.forget⟩

set_option maxRecDepth 20000 in
set_option maxHeartbeats 8000000 in
theorem step_close (h : Even W0 lo g m fv cv sv ev kv fs CL sl E K X w1 n2 asked t op ac size w) (hS : ScriptIs W0 fv cv sv ev kv fs cl CL sl E K) (hn2 : n2 ≤ 2932031008000) (hq : asked.length ≤ 900) (ht : t ≤ 900) (ho : op.length ≤ 8) (ha : ac.length ≤ 20000) (h0 : 0 ≤ size) (h1 : size ≤ 16384) (to : Int) (nm dt : ByteArray) (hnm : nm.size ≤ maxLen) :
    Calls Try.prog 17 #[.pointer (some ⟨g, 0, none⟩), .pointer (some ⟨m, 0, none⟩), .agg #[.int .i64 5, .int .i64 to, .string nm, .string dt]] w (Evn W0 lo g m fv cv sv ev kv fs CL sl E K n2 asked t ac) := by
  have hb1 : Below w.heap.size w (w.alloc (.cells #[.int .i64 5, .int .i64 to, .string nm, .string dt] 43)) := (Below.refl _ w).alloc (Nat.le_refl _) _
  have hq1 := BW.fresh h hb1 (Nat.le_refl _) (by simp)
  have hq2 := hq1.below (Below.refl _ _).drew
  have HN := Lib.hid (And.intro hS (And.intro hn2 (And.intro hq (And.intro ht (And.intro ho (And.intro ha (And.intro h0 (And.intro h1 hnm))))))))
  obtain ⟨k0, k1, k2, k3⟩ := op_box w 5 to nm dt 43
  generalize hWB : w.alloc (.cells #[.int .i64 5, .int .i64 to, .string nm, .string dt] 43) = WB at hq1 hq2 k0 k1 k2 k3
  obtain ⟨q, hqq⟩ : ∃ q : Int, (if (keepS op nm).length = op.length then -1 else 0) = q := ⟨_, rfl⟩
  have HP := Lib.hid (show Calls Try.prog 12 #[.pointer (some ⟨g, 0, none⟩), .string nm] WB.drew (fun e w' => e = .returned (.int .i64 q) ∧ w'.cell? ⟨w.heap.size, 2, none⟩ = some (.string nm) ∧
      Hid (BW W0 lo g m fv cv sv ev kv E (stdL (fileL fs) sl 2) (fun j => j = w.heap.size) WB n2 (fun x => (cmdF CL x).drop (cntA asked x)) (clkL K t) (keepS op nm) (ac ++ shutS (goneS op nm)) size asked t op ac size w')) from by
    obtain ⟨D, hM, hN⟩ := hq2.open
    refine (mwd_close hM (Nat.le_trans ha (by omega)) ho nm).mono ?_
    rintro e w2 ⟨rfl, h2, h3, h4⟩
    have hf := hN h2 h3 h4
    exact ⟨by rw [hqq], hf.stands rfl k2, Lib.hid hf⟩)
  have HM := Lib.hid (show ∀ (w2 : World), w2.cell? ⟨w.heap.size, 2, none⟩ = some (.string nm) →
      Hid (BW W0 lo g m fv cv sv ev kv E (stdL (fileL fs) sl 2) (fun j => j = w.heap.size) WB n2 (fun x => (cmdF CL x).drop (cntA asked x)) (clkL K t) (keepS op nm) (ac ++ shutS (goneS op nm)) size asked t op ac size w2) →
      Calls Try.prog 38 #[.pointer (some ⟨m, 0, none⟩), .string nm] w2 (fun e w' => e = .returned (.int .i64 q) ∧ w'.cell? ⟨w.heap.size, 2, none⟩ = some (.string nm) ∧
        Hid (Even W0 lo g m fv cv sv ev kv fs CL sl E K (fun j => j = w.heap.size) WB n2 asked t (keepS op nm) (ac ++ shutS (goneS op nm)) size w')) from by
    intro w2 _ hH
    obtain ⟨qa, qo, qc, hR, hb, hm, hN⟩ := hH.out.openR
    refine (r_close hR (Nat.le_trans ha (by omega)) ho nm).mono ?_
    rintro e w3 ⟨rfl, h5⟩
    have hf := hN h5
    exact ⟨by rw [hqq], hf.stands rfl k2, Lib.hid hf⟩)
  clear hqq k1 k3
  clear hq1 hq2 h hb1 hS hn2 hq ht ho ha h0 h1 hnm k0
  subst hWB
  go_enter Try.func17, Try.ntmps17
  go_wp2_with fail
  go_region_held3 (fun W => W.cell? ⟨w.heap.size, 2, none⟩ = some (.string nm))
    (first | (exact k2) | (go_split_ands; assumption))
    (first
      | (go_at_call 12; refine (HP.out).mono ?_; rintro e wx ⟨rfl, hcx, hbx⟩)
      | (go_at_call 38; refine (HM.out _ (by go_split_ands; assumption) (by go_split_ands; assumption)).mono ?_; rintro e wx ⟨rfl, hcx, hby⟩))
  go_wp2_with fail
  go_split_ands
  go_ret
  obtain ⟨hS, hn2, hq, ht, ho, ha, h0, h1, hnm⟩ := HN.out
  have hfin : Hid (Even W0 lo g m fv cv sv ev kv fs CL sl E K (fun j => j = w.heap.size) (w.alloc (.cells #[.int .i64 5, .int .i64 to, .string nm, .string dt] 43)) n2 asked t (keepS op nm) (ac ++ shutS (goneS op nm)) size wx) := by assumption
  have a1 : (keepS op nm).length ≤ op.length := List.length_filter_le _ _
  have a2 : (shutS (goneS op nm)).length ≤ op.length := by unfold shutS; rw [List.length_map]; exact List.length_filter_le _ _
  exact ⟨rfl, n2, asked, t, _, _, _, by omega, by omega, by omega, by omega, by rw [List.length_append]; omega, h0, h1, hfin.out.forget⟩

set_option maxRecDepth 20000 in
set_option maxHeartbeats 8000000 in
theorem step_none (h : Even W0 lo g m fv cv sv ev kv fs CL sl E K X w1 n2 asked t op ac size w) (ho : op.length ≤ 8) (h0 : 0 ≤ size) (h1 : size ≤ 16384) (k to : Int) (nm dt : ByteArray) (j1 : ¬ k = 1) (j2 : ¬ k = 2) (j3 : ¬ k = 3) (j4 : ¬ k = 4) (j5 : ¬ k = 5) (j6 : ¬ k = 6) (j7 : ¬ k = 7) :
    Calls Try.prog 17 #[.pointer (some ⟨g, 0, none⟩), .pointer (some ⟨m, 0, none⟩), .agg #[.int .i64 k, .int .i64 to, .string nm, .string dt]] w (Evn W0 lo g m fv cv sv ev kv fs CL sl E K n2 asked t ac) := by
  have hb1 : Below w.heap.size w (w.alloc (.cells #[.int .i64 k, .int .i64 to, .string nm, .string dt] 43)) := (Below.refl _ w).alloc (Nat.le_refl _) _
  have H := Lib.hid (BW.below h hb1)
  clear h hb1
  have b1 : (k == 1) = false := by simpa using j1
  have b2 : (k == 2) = false := by simpa using j2
  have b3 : (k == 3) = false := by simpa using j3
  have b4 : (k == 4) = false := by simpa using j4
  have b5 : (k == 5) = false := by simpa using j5
  have b6 : (k == 6) = false := by simpa using j6
  have b7 : (k == 7) = false := by simpa using j7
  go_enter Try.func17, Try.ntmps17
  go_wp2_with fail
  go_ret
  exact ⟨rfl, n2, asked, t, op, ac, size, by omega, by omega, by omega, ho, by omega, h0, h1, H.out.forget⟩
theorem step_any (h : Even W0 lo g m fv cv sv ev kv fs CL sl E K X w1 n2 asked t op ac size w) (hS : ScriptIs W0 fv cv sv ev kv fs cl CL sl E K) (hn2 : n2 ≤ 2932031008000) (hq : asked.length ≤ 900) (ht : t ≤ 900) (ho : op.length ≤ 8) (ha : ac.length ≤ 20000) (h0 : 0 ≤ size) (h1 : size ≤ 16384) (k to : Int) (nm dt : ByteArray) (hnm : nm.size ≤ maxLen) :
    Calls Try.prog 17 #[.pointer (some ⟨g, 0, none⟩), .pointer (some ⟨m, 0, none⟩), .agg #[.int .i64 k, .int .i64 to, .string nm, .string dt]] w (Evn W0 lo g m fv cv sv ev kv fs CL sl E K n2 asked t ac) := by
  by_cases j1 : k = 1
  · subst j1; exact step_input h hS hn2 hq ht ho ha h0 h1 to nm dt hnm
  by_cases j2 : k = 2
  · subst j2; exact step_run h hS hn2 hq ht ho ha h0 h1 to nm dt hnm
  by_cases j3 : k = 3
  · subst j3; exact step_system h hS hn2 hq ht ho ha h0 h1 to nm dt hnm
  by_cases j4 : k = 4
  · subst j4; exact step_write h hS hn2 hq ht ho ha h0 h1 to nm dt hnm
  by_cases j5 : k = 5
  · subst j5; exact step_close h hS hn2 hq ht ho ha h0 h1 to nm dt hnm
  by_cases j6 : k = 6
  · subst j6; exact step_end h ho ha h0 h1 to nm dt
  by_cases j7 : k = 7
  · subst j7; exact step_clock h hS hn2 hq ht ho ha h0 h1 to nm dt hnm
  exact step_none h ho h0 h1 k to nm dt j1 j2 j3 j4 j5 j6 j7
end
end Go.Proofs.Yticinbkgmfoeoaa
