/- WorldPlays, walked. -/
import Derived.Test.YticinbkgmfoeoaaPlW3
import Derived.Test.YticinbkgmfoeoaaFullW
namespace Go.Proofs.Yticinbkgmfoeoaa
open Go.RowKit
set_option linter.unusedVariables false

/-- The state between two calls. -/
def PL (W0 : World) (lo g m : Nat) (fv cv sv ev kv : Value) (fs : List FT) (CL : List CM) (sl : List ByteArray) (E : List (ByteArray × ByteArray)) (K : List Int) (n2 i : Nat) (ac : List AT) (w : World) : Prop :=
  ∃ n2' asked t op size, n2' ≤ n2 + i ∧ asked.length ≤ i ∧ t ≤ i ∧ op.length ≤ 8 ∧ ac.length ≤ 20 * i ∧ 0 ≤ size ∧ size ≤ 16384 ∧ Even W0 lo g m fv cv sv ev kv fs CL sl E K (fun _ => False) W0 n2' asked t op ac size w
theorem even_start {W0 w3 : World} {lo g n2 : Nat} {fv cv sv ev kv : Value} {fs : List FT} {CL : List CM} {sl : List ByteArray} {E : List (ByteArray × ByteArray)} {K : List Int} (hM : MW lo g n2 E (stdL (fileL fs) sl 2) (cmdF CL) K [] [] 0 w3) (hb : Below W0.heap.size W0 w3) (hl : W0.heap.size ≤ lo) :
    PL W0 lo g w3.heap.size fv cv sv ev kv fs CL sl E K n2 0 [] (w3.alloc (.cells #[fv, cv, sv, ev, kv, .slice none 0 0, .int .i64 0, .slice none 0 0, .slice none 0 0, .int .i64 0] 51)) := by
  have hal : Below w3.heap.size w3 (w3.alloc (.cells #[fv, cv, sv, ev, kv, .slice none 0 0, .int .i64 0, .slice none 0 0, .slice none 0 0, .int .i64 0] 51)) := (Below.refl _ w3).alloc (Nat.le_refl _) _
  refine ⟨n2, [], 0, [], 0, by omega, by simp, by omega, by simp, by simp, by omega, by omega, fun j => j = w3.heap.size, .slice none 0 0, .slice none 0 0, .slice none 0 0, ?_, ⟨alloc_at _ _, RowT.of_own (own_none 0 _ _), RowT.of_own (own_none 0 _ _), RowT.of_own (own_none 0 _ _)⟩, rfl, fun j hj => ?_, fun j hj => hj.elim, hb.trans (hal.mono hb.size), hl, hb.size⟩
  · have h := hM.d.below (D' := fun j => j = w3.heap.size) hal (fun j hj => ⟨by rw [hj]; simp, .inr (by omega)⟩)
    have e : (fun nm => (cmdF CL nm).drop (cntA [] nm)) = cmdF CL := funext fun nm => by simp [cntA]
    rw [e, clkL_zero]
    exact h
  · rcases hj with hj | hj | hj <;> cases hj

set_option maxRecDepth 20000 in
set_option maxHeartbeats 8000000 in
theorem plays_any (fv cv sv ev kv : Value) (fs : List FT) (cl : List CT) (CL : List CM) (sl : List ByteArray) (E : List (ByteArray × ByteArray)) (K : List Int) (A : Option Addr) (c : Nat) (l : List OT) (w : World)
    (hS : ScriptIs w fv cv sv ev kv fs cl CL sl E K) (hr : RowA w 4 (.slice A l.length c) l.length (l.flatMap opC)) (hq : ∀ z ∈ l, z.2.2.1.size ≤ maxLen ∧ z.2.2.2.size ≤ maxLen) :
    Calls Try.prog 6 #[.agg #[fv, cv, sv, ev, kv], .slice A l.length c] w fun e w' => e = .returned (.bool true) ∧ Below w.heap.size w w' := by
  obtain ⟨A3, c3, rfl⟩ := hS.hfv.1.shape
  obtain ⟨A4, c4, rfl⟩ := hS.hcv.1.shape
  obtain ⟨A5, c5, rfl⟩ := hS.hsv.1.shape
  obtain ⟨A6, c6, rfl⟩ := hS.hev.1.shape
  obtain ⟨A7, c7, rfl⟩ := hS.hkv.1.shape
  have hb0 : Below w.heap.size w (w.alloc (.cells #[.slice A3 fs.length c3, .slice A4 cl.length c4, .slice A5 sl.length c5, .slice A6 E.length c6, .slice A7 K.length c7] 31)) := (Below.refl _ w).alloc (Nat.le_refl _) _
  have hbox := box5 w (.slice A3 fs.length c3) (.slice A4 cl.length c4) (.slice A5 sl.length c5) (.slice A6 E.length c6) (.slice A7 K.length c7) 31
  have HF := Lib.hid (fixed_any (w.alloc (.cells #[.slice A3 fs.length c3, .slice A4 cl.length c4, .slice A5 sl.length c5, .slice A6 E.length c6, .slice A7 K.length c7] 31)))
  have HB0 := Lib.hid hb0
  have HX := Lib.hid hbox
  have H0 := Lib.hid (And.intro hS (And.intro hr hq))
  clear hS hr hb0 hbox hq
  go_enter Try.func6, Try.ntmps6
  go_wp2_with fail
  refine HF.out.mono ?_
  rintro e w1 ⟨rfl, hb1⟩
  obtain ⟨x0, x1, x2, x3, x4⟩ := HX.out
  replace x0 := (hb1.cell (lt_of_cell x0)).trans x0
  replace x1 := (hb1.cell (lt_of_cell x1)).trans x1
  replace x2 := (hb1.cell (lt_of_cell x2)).trans x2
  replace x3 := (hb1.cell (lt_of_cell x3)).trans x3
  replace x4 := (hb1.cell (lt_of_cell x4)).trans x4
  have HX3 := Lib.hid x3
  have hB1 := HB0.out.trans (hb1.mono HB0.out.size)
  have HB1 := Lib.hid hB1
  clear hb1 HB0 HX
  by_cases hl : 300 < l.length
  · have g1 : (300 : Int) < (l.length : Int) := by omega
    clear x0 x1 x2 x3 x4 hB1
    go_wp2_with fail
    go_ret
    exact ⟨rfl, HB1.out⟩
  · have g1 : ¬ (300 : Int) < (l.length : Int) := by omega
    have hS1 := H0.out.1.below hB1
    have HC := Lib.hid (copy_of hS1)
    have HS1 := Lib.hid hS1
    have HL := Lib.hid hl
    clear hS1 hB1 hl
    go_wp2_with fail
    refine HC.out.mono ?_
    rintro e w2 ⟨vF, vC, y1, y2, y3, yf, yc, rfl, hO, hb2⟩
    have hS2 := hO.script HS1.out
    have HN := mw_newB (w := w2) (hfv := hS2.hfv) (hfn := hS2.hfn) (hf1 := hS2.hf1) (hcv := hS2.hcv) (hcl := hS2.hcl) (hcm := hS2.hcm) (hcm2 := hS2.hcm2) (hsv := hS2.hsv) (hsl := hS2.hsl) (hev := hS2.hev) (hpn := hS2.hpn) (hkv := hS2.hkv) (hcn := hS2.hcn)
    rw [hO.files, cmdZ_len hO.lenC] at HN
    replace HN := Lib.hid HN
    replace x0 := (hb2.cell (lt_of_cell x0)).trans x0
    replace x1 := (hb2.cell (lt_of_cell x1)).trans x1
    replace x2 := (hb2.cell (lt_of_cell x2)).trans x2
    replace x3 := (hb2.cell (lt_of_cell x3)).trans x3
    replace x4 := (hb2.cell (lt_of_cell x4)).trans x4
    have HB2 := Lib.hid hb2
    clear hO hS2 hb2
    go_wp2_with fail
    refine HN.out.mono ?_
    rintro e w3 ⟨g, n2, rfl, hn2, hM, hb3⟩
    replace x0 := (hb3.cell (lt_of_cell x0)).trans x0
    replace x1 := (hb3.cell (lt_of_cell x1)).trans x1
    replace x2 := (hb3.cell (lt_of_cell x2)).trans x2
    replace x3 := (hb3.cell (lt_of_cell x3)).trans x3
    replace x4 := (hb3.cell (lt_of_cell x4)).trans x4
    have HP := Lib.hid (even_start (W0 := w1) (fv := .slice A3 fs.length c3) (cv := .slice A4 cl.length c4) (sv := .slice A5 sl.length c5) (ev := .slice A6 E.length c6) (kv := .slice A7 K.length c7) hM (HB2.out.trans (hb3.mono HB2.out.size)) HB2.out.size)
    have HN2 := Lib.hid (Nat.le_trans hn2 HS1.out.hcl)
    have HB3 := Lib.hid hb3
    clear hM hb3 hn2 HN HC
    go_wp2_with fail
    generalize hw4 : w3.alloc _ = w4
    rw [hw4] at HP
    have HW4 := Lib.hid hw4
    have x5 : w4.cell? ⟨w.heap.size, 3, none⟩ = some (.slice A6 E.length c6) := by
      rw [← hw4]
      exact (((Below.refl _ w3).alloc (Nat.le_refl _) _).cell (lt_of_cell x3)).trans x3
    have hw13 : Below w1.heap.size w1 w3 := HB2.out.trans (HB3.out.mono HB2.out.size)
    have h34 : Below w3.heap.size w3 w4 := by rw [← hw4]; exact (Below.refl _ w3).alloc (Nat.le_refl _) _
    have hev4 : w1.heap.size ≤ w4.heap.size := Nat.le_trans hw13.size h34.size
    have HXX := Lib.hid x5
    generalize hm : w3.heap.size = m at *
    clear x0 x1 x2 x3 x4 x5 hw4 hm HB3 HB2 hw13 h34 HW4
    go_wp2_with fail
    go_loopw [24] (fun v24 wr => ∃ (i : Nat) (ac : List AT), v24 = .int .i64 (i : Int) ∧ i ≤ l.length ∧ PL w1 w2.heap.size g m (.slice A3 fs.length c3) (.slice A4 cl.length c4) (.slice A5 sl.length c5) (.slice A6 E.length c6) (.slice A7 K.length c7) fs CL sl E K n2 i ac wr) (fun v24 _ => l.length - (intOf v24).toNat)
    case atStart => exact ⟨0, [], rfl, Nat.zero_le _, HP.out⟩
    case round =>
      clear HP
      obtain ⟨i, ac, rfl, hi, hP⟩ := hrel
      by_cases hlt : i < l.length
      · have i1 : (i : Int) < (l.length : Int) := by omega
        have i0 : (0 : Int) ≤ (i : Int) := by omega
        obtain ⟨n2', asked, t, op, size, b1, b2, b3, b4, b5, b6, b7, hE⟩ := hP
        obtain ⟨b, off, rfl, e0, e1, e2, e3⟩ := op_lies H0.out.2.1 hlt
        have hbl := HB1.out.trans (hE.w0.mono HB1.out.size)
        have hsz := (H0.out.2.2 _ (List.getElem_mem hlt)).1
        replace e0 := (hbl.cell (lt_of_cell e0)).trans e0
        replace e1 := (hbl.cell (lt_of_cell e1)).trans e1
        replace e2 := (hbl.cell (lt_of_cell e2)).trans e2
        replace e3 := (hbl.cell (lt_of_cell e3)).trans e3
        generalize l[i] = o at *
        obtain ⟨k, to, nm, dt⟩ := o
        dsimp only at e0 e1 e2 e3 hsz
        have hb3 : Below wr.heap.size wr (wr.alloc (.cells #[.int .i64 k, .int .i64 to, .string nm, .string dt] 43)) := (Below.refl _ wr).alloc (Nat.le_refl _) _
        have hl300 := HL.out
        have HST := Lib.hid (step_any (BW.below hE hb3) HS1.out (by have := HN2.out; omega) (by omega) (by omega) b4 (by omega) b6 b7 k to nm dt hsz)
        have HBS := Lib.hid (And.intro b1 (And.intro b2 (And.intro b3 (And.intro b5 hlt))))
        clear hE hbl b1 b2 b3 b4 b5 b6 b7 hb3 hsz hl300 hi hlt
        go_wp2_with fail
        refine HST.out.mono ?_
        rintro e w5 ⟨rfl, n2'', asked', t', op', ac', size', d1, d2, d3, d4, d5, d6, d7, hE⟩
        obtain ⟨b1, b2, b3, b5, hlt⟩ := HBS.out
        have HE := Lib.hid (show PL w1 w2.heap.size g m (.slice A3 fs.length c3) (.slice A4 cl.length c4) (.slice A5 sl.length c5) (.slice A6 E.length c6) (.slice A7 K.length c7) fs CL sl E K n2 (i + 1) ac' w5 from ⟨n2'', asked', t', op', size', by omega, by omega, by omega, d4, by omega, d6, d7, hE⟩)
        clear hE d1 d2 d3 d4 d5 d6 d7 b1 b2 b3 b5 HBS hlt
        go_wp2_with fail
        go_roundw
        case rel => exact ⟨i + 1, ac', by go_num, by omega, HE.out⟩
        case measure => simp [intOf]; omega
      · have i1 : ¬ (i : Int) < (l.length : Int) := by omega
        obtain ⟨n2', asked, t, op, size, b1, b2, b3, b4, b5, b6, b7, hE⟩ := hP
        obtain ⟨qa, qo, qc, hR, hw0, _, _⟩ := hE.openR
        obtain ⟨_, _, _, _, c8, _, _⟩ := r_cells hR.hd
        obtain ⟨Aq, cq, rfl⟩ := hR.c.1.a.shape
        have y3 := (hw0.cell (lt_of_cell HX3.out)).trans HX3.out
        have hac : ac.length ≤ 6000 := by have := HL.out; omega
        have HA := Lib.hid (fun (W : World) (hb : Below wr.heap.size wr W) => show Calls Try.prog 11 #[.pointer (some ⟨g, 0, none⟩)] W (fun e w' => ∃ A c, e = .returned (.slice A ac.length c) ∧ RowC w' w'.heap.size 3 (.slice A ac.length c) ac.length (ac.flatMap actC) ∧ Below wr.heap.size wr w') from by
          obtain ⟨D, hM, _⟩ := (BW.below hE hb).open
          refine (mwd_acts hM (by omega)).mono ?_
          rintro e w2 ⟨v, rfl, hv, hb2⟩
          obtain ⟨A, c, rfl⟩ := own_shape hv
          exact ⟨A, c, rfl, RowC.of_own hv, hb.trans (hb2.mono hb.size)⟩)
        have HSa := Lib.hid (fun (W : World) (A : Option Addr) (c : Nat) (hb : Below wr.heap.size wr W) (hv : RowC W W.heap.size 3 (.slice A ac.length c) ac.length (ac.flatMap actC)) => show Calls Try.prog 18 #[.slice A ac.length c, .slice Aq ac.length cq] W (fun e w' => e = .returned (.bool true) ∧ Below wr.heap.size wr w') from by
          refine (same_any A Aq c cq ac ac W hv (hR.c.below hb).1 (by omega) (by omega)).mono ?_
          rintro e w2 ⟨rfl, hb2⟩
          exact ⟨by rw [decide_eq_true rfl], hb.trans (hb2.mono hb.size)⟩)
        have HEn := Lib.hid (fun (W : World) (hb : Below wr.heap.size wr W) => show Calls Try.prog 20 #[.pointer (some ⟨g, 0, none⟩)] W (fun e w' => ∃ A c, e = .returned (.slice A E.length c) ∧ RowA w' 2 (.slice A E.length c) E.length (E.flatMap pairC) ∧ Below wr.heap.size wr w') from by
          obtain ⟨D, hM, _⟩ := (BW.below hE hb).open
          refine (mw_env hM.m HS1.out.hpn).mono ?_
          rintro e w2 ⟨v, rfl, hv, hb2⟩
          obtain ⟨A, c, rfl⟩ := own_shape hv
          exact ⟨A, c, rfl, (RowC.of_own hv).a, hb.trans (hb2.mono hb.size)⟩)
        have HSp := Lib.hid (fun (W : World) (A : Option Addr) (c : Nat) (hb : Below wr.heap.size wr W) (hv : RowA W 2 (.slice A E.length c) E.length (E.flatMap pairC)) => show Calls Try.prog 19 #[.slice A E.length c, .slice A6 E.length c6] W (fun e w' => e = .returned (.bool true) ∧ Below wr.heap.size wr w') from by
          refine (same_pairs A A6 c c6 E E W hv (HS1.out.hev.1.below (hw0.trans (hb.mono hw0.size))) HS1.out.hpn).mono ?_
          rintro e w2 ⟨rfl, hb2⟩
          exact ⟨by rw [decide_eq_true rfl], hb.trans (hb2.mono hb.size)⟩)
        have HK := Lib.hid (fun (W : World) (hb : Below wr.heap.size wr W) => show W.cell? ⟨m, 8, none⟩ = some (.slice Aq ac.length cq) ∧ W.cell? ⟨w.heap.size, 3, none⟩ = some (.slice A6 E.length c6) ∧ Below wr.heap.size wr W from
          ⟨(hb.cell (lt_of_cell c8)).trans c8, (hb.cell (lt_of_cell y3)).trans y3, hb⟩)
        have HFB := Lib.hid (HB1.out.trans (hw0.mono HB1.out.size))
        have hdr : Below wr.heap.size wr wr.drew := (Below.refl _ wr).drew
        clear hE hR hw0 c8 y3 b1 b2 b3 b4 b5 b6 b7 hac hi hlt HS1 HX3 HXX HN2 HB1 HL H0 HF
        go_wp2_with fail
        go_region_held3 (fun W => W.cell? ⟨m, 8, none⟩ = some (.slice Aq ac.length cq) ∧ W.cell? ⟨w.heap.size, 3, none⟩ = some (.slice A6 E.length c6) ∧ Below wr.heap.size wr W)
          (first | (exact HK.out _ hdr) | (go_split_ands; exact HK.out _ (by assumption)))
          (first
            | (go_at_call 11; go_split_ands; refine (HA.out _ (by assumption)).mono ?_; rintro e wx ⟨Ax, cx, rfl, hvx, hbx⟩)
            | (go_at_call 18; go_split_ands; refine (HSa.out _ Ax cx (by assumption) hvx).mono ?_; rintro e wy ⟨rfl, hby⟩)
            | (go_at_call 20; go_split_ands; refine (HEn.out _ (by assumption)).mono ?_; rintro e wz ⟨Az, cz, rfl, hvz, hbz⟩)
            | (go_at_call 19; go_split_ands; refine (HSp.out _ Az cz (by assumption) hvz).mono ?_; rintro e wu ⟨rfl, hbu⟩))
        go_wp2_with fail
        go_split_ands
        go_ret
        exact ⟨rfl, HFB.out.trans (Below.mono (by assumption) HFB.out.size)⟩
end Go.Proofs.Yticinbkgmfoeoaa
