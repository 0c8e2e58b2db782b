/- WorldFull, walked. -/
import Derived.Test.YticinbkgmfoeoaaFullB
import Derived.Test.YticinbkgmfoeoaaWdWE
import Derived.Test.YticinbkgmfoeoaaWdWF
namespace Go.Proofs.Yticinbkgmfoeoaa
open Go.RowKit
set_option linter.unusedVariables false

theorem box5 (w : World) (x0 x1 x2 x3 x4 : Value) (e : TypeId) : (w.alloc (.cells #[x0, x1, x2, x3, x4] e)).cell? ⟨w.heap.size, 0, none⟩ = some x0 ∧ (w.alloc (.cells #[x0, x1, x2, x3, x4] e)).cell? ⟨w.heap.size, 1, none⟩ = some x1 ∧ (w.alloc (.cells #[x0, x1, x2, x3, x4] e)).cell? ⟨w.heap.size, 2, none⟩ = some x2 ∧ (w.alloc (.cells #[x0, x1, x2, x3, x4] e)).cell? ⟨w.heap.size, 3, none⟩ = some x3 ∧ (w.alloc (.cells #[x0, x1, x2, x3, x4] e)).cell? ⟨w.heap.size, 4, none⟩ = some x4 := by
  refine ⟨?_, ?_, ?_, ?_, ?_⟩ <;> simp
theorem box4 (w : World) (x0 x1 x2 x3 : Value) (e : TypeId) : (w.alloc (.cells #[x0, x1, x2, x3] e)).cell? ⟨w.heap.size, 0, none⟩ = some x0 ∧ (w.alloc (.cells #[x0, x1, x2, x3] e)).cell? ⟨w.heap.size, 1, none⟩ = some x1 ∧ (w.alloc (.cells #[x0, x1, x2, x3] e)).cell? ⟨w.heap.size, 2, none⟩ = some x2 ∧ (w.alloc (.cells #[x0, x1, x2, x3] e)).cell? ⟨w.heap.size, 3, none⟩ = some x3 := by
  refine ⟨?_, ?_, ?_, ?_⟩ <;> simp
theorem box3 (w : World) (x0 x1 x2 : Value) (e : TypeId) : (w.alloc (.cells #[x0, x1, x2] e)).cell? ⟨w.heap.size, 0, none⟩ = some x0 ∧ (w.alloc (.cells #[x0, x1, x2] e)).cell? ⟨w.heap.size, 1, none⟩ = some x1 ∧ (w.alloc (.cells #[x0, x1, x2] e)).cell? ⟨w.heap.size, 2, none⟩ = some x2 := by
  refine ⟨?_, ?_, ?_⟩ <;> simp
/-- The state between two calls of the law's first loop. -/
structure FL (w : World) (lo g n2 : Nat) (E : List (ByteArray × ByteArray)) (L : ByteArray → Option (List ByteArray)) (F : ByteArray → List CM) (K : List Int) (i : Nat) (op : List ST) (ac : List AT) (size : Int) (wr : World) : Prop where
  full : Full op ac size
  len : ac.length ≤ 10 * i
  mw : MW lo g n2 E L F K op ac size wr
  bl : Below w.heap.size w wr
theorem gone_len (op : List ST) (nm : ByteArray) : (goneS op nm).length ≤ op.length := List.length_filter_le _ _

set_option maxRecDepth 20000 in
set_option maxHeartbeats 8000000 in
theorem full_any (fv cv sv ev kv : Value) (fs : List FT) (cl : List CT) (CL : List CM) (sl : List ByteArray) (E : List (ByteArray × ByteArray)) (K : List Int) (A : Option Addr) (c : Nat) (l : List OT) (w : World)
    (hS : ScriptIs w fv cv sv ev kv fs cl CL sl E K) (hr : RowA w 4 (.slice A l.length c) l.length (l.flatMap opC)) :
    Calls Try.prog 5 #[.agg #[fv, cv, sv, ev, kv], .slice A l.length c] w fun e w' => e = .returned (.bool true) ∧ Below w.heap.size w w' := by
  obtain ⟨A3, c3, rfl⟩ := hS.hfv.1.shape
  obtain ⟨A4, c4, rfl⟩ := hS.hcv.1.shape
  obtain ⟨A5, c5, rfl⟩ := hS.hsv.1.shape
  obtain ⟨A6, c6, rfl⟩ := hS.hev.1.shape
  obtain ⟨A7, c7, rfl⟩ := hS.hkv.1.shape
  have hb0 : Below w.heap.size w (w.alloc (.cells #[.slice A3 fs.length c3, .slice A4 cl.length c4, .slice A5 sl.length c5, .slice A6 E.length c6, .slice A7 K.length c7] 31)) := (Below.refl _ w).alloc (Nat.le_refl _) _
  have hbox := box5 w (.slice A3 fs.length c3) (.slice A4 cl.length c4) (.slice A5 sl.length c5) (.slice A6 E.length c6) (.slice A7 K.length c7) 31
  have HF := Lib.hid (fixed_any (w.alloc (.cells #[.slice A3 fs.length c3, .slice A4 cl.length c4, .slice A5 sl.length c5, .slice A6 E.length c6, .slice A7 K.length c7] 31)))
  have HB0 := Lib.hid hb0
  have HX := Lib.hid hbox
  have H0 := Lib.hid (And.intro hS hr)
  clear hS hr hb0 hbox
  go_enter Try.func5, Try.ntmps5
  go_wp2_with fail
  refine HF.out.mono ?_
  rintro e w1 ⟨rfl, hb1⟩
  obtain ⟨x0, x1, x2, x3, x4⟩ := HX.out
  replace x0 := (hb1.cell (lt_of_cell x0)).trans x0
  replace x1 := (hb1.cell (lt_of_cell x1)).trans x1
  replace x2 := (hb1.cell (lt_of_cell x2)).trans x2
  replace x3 := (hb1.cell (lt_of_cell x3)).trans x3
  replace x4 := (hb1.cell (lt_of_cell x4)).trans x4
  have hB1 := HB0.out.trans (hb1.mono HB0.out.size)
  have HB1 := Lib.hid hB1
  clear hb1 HB0 HX
  by_cases hl : 300 < l.length
  · have g1 : (300 : Int) < (l.length : Int) := by omega
    clear x0 x1 x2 x3 x4 hB1
    go_wp2_with fail
    go_ret
    exact ⟨rfl, HB1.out⟩
  · have g1 : ¬ (300 : Int) < (l.length : Int) := by omega
    have hS1 := H0.out.1.below hB1
    have HN := Lib.hid (mw_newB (w := w1) (hfv := hS1.hfv) (hfn := hS1.hfn) (hf1 := hS1.hf1) (hcv := hS1.hcv) (hcl := hS1.hcl) (hcm := hS1.hcm) (hcm2 := hS1.hcm2) (hsv := hS1.hsv) (hsl := hS1.hsl) (hev := hS1.hev) (hpn := hS1.hpn) (hkv := hS1.hkv) (hcn := hS1.hcn))
    clear hS1 hB1
    go_wp2_with fail
    refine HN.out.mono ?_
    rintro e w2 ⟨g, n2, rfl, hn2, hM, hb2⟩
    have hsz1 := HB1.out.size
    have hFL : FL w w1.heap.size g n2 E (stdL (fileL fs) sl 2) (cmdF CL) K 0 [] [] 0 w2 := ⟨Full.nil, Nat.le_refl _, hM, HB1.out.trans (hb2.mono hsz1)⟩
    generalize stdL (fileL fs) sl 2 = L at *
    generalize cmdF CL = F at *
    clear hM hb2 hn2 x0 x1 x2 x3 x4 HN
    go_wp2_with fail
    go_loopw [24] (fun v24 wr => ∃ (i : Nat) (op : List ST) (ac : List AT) (size : Int), v24 = .int .i64 (i : Int) ∧ i ≤ l.length ∧ FL w w1.heap.size g n2 E L F K i op ac size wr) (fun v24 _ => l.length - (intOf v24).toNat)
    case atStart => exact ⟨0, [], [], 0, rfl, Nat.zero_le _, hFL⟩
    case round =>
      clear hFL
      obtain ⟨i, op, ac, size, rfl, hi, hFL⟩ := hrel
      by_cases hlt : i < l.length
      · have i1 : (i : Int) < (l.length : Int) := by omega
        have i0 : (0 : Int) ≤ (i : Int) := by omega
        obtain ⟨b, off, rfl, e0, e1, e2, e3⟩ := op_lies H0.out.2 hlt
        replace e0 := (hFL.bl.cell (lt_of_cell e0)).trans e0
        replace e1 := (hFL.bl.cell (lt_of_cell e1)).trans e1
        replace e2 := (hFL.bl.cell (lt_of_cell e2)).trans e2
        replace e3 := (hFL.bl.cell (lt_of_cell e3)).trans e3
        generalize l[i] = o at *
        obtain ⟨k, to, nm, dt⟩ := o
        dsimp only at e0 e1 e2 e3
        have hb3 : Below wr.heap.size wr (wr.alloc (.cells #[.int .i64 k, .int .i64 to, .string nm, .string dt] 43)) := (Below.refl _ wr).alloc (Nat.le_refl _) _
        obtain ⟨y0, y1, y2, y3⟩ := box4 wr (.int .i64 k) (.int .i64 to) (.string nm) (.string dt) 43
        have hMD := hFL.mw.d.below (D' := fun j => j = wr.heap.size) hb3 (fun j hj => ⟨by rw [hj]; simp, .inr (by omega)⟩)
        have hlen := hFL.len
        have hff := hFL.full
        obtain ⟨hfw, hlw⟩ := hff.write to nm dt
        have hW := mwd_write hMD (by omega) hff.few hff.nn hff.le to nm dt
        generalize wrS op ac size to nm dt = R at *
        obtain ⟨r0, op2, ac2, size2⟩ := R
        dsimp only at hfw hlw hW
        have HW := Lib.hid hW
        have HK := Lib.hid (And.intro hfw (And.intro hFL.bl (And.intro hb3 (And.intro y0 y2))))
        clear hW hfw hff hMD hFL hb3 y0 y2 y1 y3
        go_wp2_with fail
        refine HW.out.mono ?_
        rintro e w3 ⟨rfl, hM3, hb4, hst⟩
        obtain ⟨hfw, hbl, hb3, y0, y2⟩ := HK.out
        replace y0 := hst.cell rfl y0
        replace y2 := hst.cell rfl y2
        have hB3 : Below w.heap.size w w3 := (hbl.trans (hb3.mono hbl.size)).trans (hb4.mono hsz1)
        clear hst hb4 hb3 hbl
        by_cases hk : k = 5
        · subst hk
          have hC := mwd_close hM3 (by omega) hfw.few nm
          have hgl := gone_len op2 nm
          have hfew := hfw.few
          have hfc := hfw.close nm
          generalize (if (keepS op2 nm).length = op2.length then (-1 : Int) else 0) = r1 at *
          have hlc : (ac2 ++ shutS (goneS op2 nm)).length ≤ 10 * (i + 1) := by simp [shutS]; omega
          have HC := Lib.hid hC
          have HK2 := Lib.hid (And.intro hfc (And.intro hB3 hlc))
          clear hC hfw hM3 hB3 HK HW hfc hlc hgl
          go_wp2_with fail
          refine HC.out.mono ?_
          rintro e w4 ⟨rfl, hM4, hb5, _⟩
          have H4 := Lib.hid (And.intro hM4 hb5)
          clear hM4 hb5
          go_wp2_with fail
          go_roundw
          case rel =>
            obtain ⟨hfc, hB3, hlc⟩ := HK2.out
            obtain ⟨hM4, hb5⟩ := H4.out
            exact ⟨i + 1, _, _, _, by go_num, by omega, ⟨hfc, hlc, hM4.m, hB3.trans (hb5.mono hsz1)⟩⟩
          case measure => simp [intOf]; omega
        · have hkn : (k == 5) = false := by rw [beq_eq_false_iff_ne]; exact hk
          have HK2 := Lib.hid (And.intro hfw (And.intro hB3 hM3))
          clear hfw hB3 hM3 HK HW hk
          go_wp2_with fail
          go_roundw
          case rel =>
            obtain ⟨hfw, hB3, hM3⟩ := HK2.out
            exact ⟨i + 1, _, _, _, by go_num, by omega, ⟨hfw, by omega, hM3.m, hB3⟩⟩
          case measure => simp [intOf]; omega
      · obtain rfl : i = l.length := by omega
        have hff := hFL.full
        have hfe := hff.end
        have hlen := hFL.len
        have hlT : (ac ++ shutS op).length ≤ 4000 := by
          have := hff.few
          simp [shutS]; omega
        have HE := Lib.hid (mw_end hFL.mw (by omega) hff.few)
        have HK := Lib.hid (And.intro hFL.bl hfe)
        clear hff hfe hlen hFL
        generalize ac ++ shutS op = T at *
        go_wp2_with fail
        refine HE.out.mono ?_
        rintro e w3 ⟨rfl, hM3, hb3⟩
        have HA := Lib.hid (mw_acts hM3 (by omega))
        have HK1 := Lib.hid (HK.out.1.trans (hb3.mono hsz1))
        clear hM3 hb3 HE
        go_wp2_with fail
        refine HA.out.mono ?_
        rintro e w5 ⟨v, rfl, hown, hb5⟩
        obtain ⟨A8, c8, rfl⟩ := own_shape hown
        have HR := Lib.hid (RowC.of_own hown)
        have HK5 := Lib.hid (HK1.out.trans (hb5.mono HK1.out.size))
        clear hown hb5 HA
        have hrun := HK.out.2.run
        have hgood := HK.out.2.good
        have hsz := HK.out.2.le
        have hs0 := HK.out.2.nn
        have HT := Lib.hid (And.intro hrun hgood)
        have hTn : (runF T).2.2 ≤ 16384 := by rw [hrun]; dsimp only; omega
        have HTn := Lib.hid hTn
        clear hrun hgood hTn hsz hs0
        go_wp2_with fail
        go_loopw [8, 9, 10, 49] (fun v8 v9 v10 v49 wr => ∃ (j : Nat), v8 = .int .i64 ((runF (T.take j)).2.2 : Int) ∧ v49 = .int .i64 (j : Int) ∧ j ≤ T.length ∧ (runF (T.take j)).1.length + (runF (T.take j)).2.1.length ≤ 8 ∧ Sees w5.heap.size wr v9 v10 (runF (T.take j)).1 (runF (T.take j)).2.1 ∧ Below w5.heap.size w5 wr)
          (fun _ _ _ v49 _ => T.length - (intOf v49).toNat)
        case atStart => exact ⟨0, rfl, rfl, Nat.zero_le _, by simp [runF], ⟨own_none _ _ _, own_none _ _ _, fun j h => by cases h⟩, Below.refl _ _⟩
        case round =>
          obtain ⟨j, rfl, rfl, hj, hle, hsee, hb⟩ := hrel
          by_cases hjl : j < T.length
          · have i1 : (j : Int) < (T.length : Int) := by omega
            have i0 : (0 : Int) ≤ (j : Int) := by omega
            obtain ⟨b, off, rfl, d0, d1, d2⟩ := act_lies HR.out hjl
            replace d0 := (hb.cell (lt_of_cell d0)).trans d0
            replace d1 := (hb.cell (lt_of_cell d1)).trans d1
            replace d2 := (hb.cell (lt_of_cell d2)).trans d2
            have htk : T.take (j + 1) = T.take j ++ [T[j]] := List.take_succ_eq_append_getElem hjl
            have hrs : runF (T.take (j + 1)) = stepF (runF (T.take j)) T[j] := by rw [htk, runF_snoc]
            have hok := HT.out.2 j hjl
            have hby := Nat.le_trans (runF_bytes T (j + 1)) HTn.out
            rw [hrs] at hby
            clear htk
            generalize T[j] = x at *
            obtain ⟨k, nm, dt⟩ := x
            dsimp only at d0 d1 d2
            generalize hs : runF (T.take j) = s at *
            obtain ⟨f, ps, n⟩ := s
            dsimp only at hle hsee ⊢
            have hz : n + dt.size ≤ 16384 := hby
            obtain ⟨o1, o2, o3⟩ := hok
            have hb2 : Below wr.heap.size wr (wr.alloc (.cells #[.int .i64 k, .string nm, .string dt] 39)) := (Below.refl _ wr).alloc (Nat.le_refl _) _
            have hsee2 := hsee.below hb2
            have hB2 := hb.trans (hb2.mono hb.size)
            have hwb := hB2.size
            obtain ⟨A9, c9, rfl⟩ := own_shape hsee.a
            obtain ⟨A10, c10, rfl⟩ := own_shape hsee.b
            clear hsee hb hb2 hby
            by_cases q2 : k = 2
            · subst q2
              have hst : (stepF (f, ps, n) (2, nm, dt)) = (f ++ [nm], ps, n + dt.size) := by unfold stepF; rfl
              rw [hst] at hrs o3
              have hle2 : f.length + 1 + ps.length ≤ 8 := by have := o3; simp at this; omega
              have hown := hsee2.a
              have HX := Lib.hid (And.intro hrs (And.intro o3 (And.intro hsee2 hB2)))
              clear hrs o1 o2 o3 hsee2 hB2 hst hs
              go_wp2_with (at_builtin; refine wpList_appendS 23 9 (.tmp 63) (.tmp 66) rfl rfl w5.heap.size Try.underlying23 strn_info rfl (by decide) rfl hown rfl (by simp) rfl (by intro u hu; simp only [List.mem_cons, List.not_mem_nil, or_false] at hu; rcases hu with rfl; rfl) (by unfold maxLen; omega) (by omega) hwb ?_; intro v' w' hown' hgrow hloc; obtain ⟨A', c', rfl⟩ := own_shape hown')
              obtain ⟨hrs, o3, hsee2, hB2⟩ := HX.out
              refine ⟨⟨j + 1, ?_, by go_num, by omega, ?_, ?_, (Turn.of_below hB2 _).trans (Turn.of_grown hgrow) (fun j x => x) (fun j _ x => x) |>.below (Nat.le_refl _) (fun j hj => (hsee2.a.lt j hj).1)⟩, by simp [intOf]; omega⟩
              · rw [hrs]; push_cast; rfl
              · rw [hrs]; exact o3
              · rw [hrs]; exact (hsee2.grown (l1' := f ++ [nm]) (by rw [List.map_append, List.length_append]; exact hown') hgrow (hloc.imp (fun e => e) (fun e => e.trans (by simp))))
            · have b2 : (k == 2) = false := by rw [beq_eq_false_iff_ne]; exact q2
              by_cases q3 : k = 3
              · subst q3
                have hst : (stepF (f, ps, n) (3, nm, dt)) = (f ++ [nm], ps, n + dt.size) := by unfold stepF; rfl
                rw [hst] at hrs o3
                have hle2 : f.length + 1 + ps.length ≤ 8 := by have := o3; simp at this; omega
                have hown := hsee2.a
                have HX := Lib.hid (And.intro hrs (And.intro o3 (And.intro hsee2 hB2)))
                clear hrs o1 o2 o3 hsee2 hB2 hst hs
                go_wp2_with (at_builtin; refine wpList_appendS 23 9 (.tmp 63) (.tmp 66) rfl rfl w5.heap.size Try.underlying23 strn_info rfl (by decide) rfl hown rfl (by simp) rfl (by intro u hu; simp only [List.mem_cons, List.not_mem_nil, or_false] at hu; rcases hu with rfl; rfl) (by unfold maxLen; omega) (by omega) hwb ?_; intro v' w' hown' hgrow hloc; obtain ⟨A', c', rfl⟩ := own_shape hown')
                obtain ⟨hrs, o3, hsee2, hB2⟩ := HX.out
                refine ⟨⟨j + 1, ?_, by go_num, by omega, ?_, ?_, (Turn.of_below hB2 _).trans (Turn.of_grown hgrow) (fun j x => x) (fun j _ x => x) |>.below (Nat.le_refl _) (fun j hj => (hsee2.a.lt j hj).1)⟩, by simp [intOf]; omega⟩
                · rw [hrs]; push_cast; rfl
                · rw [hrs]; exact o3
                · rw [hrs]; exact (hsee2.grown (l1' := f ++ [nm]) (by rw [List.map_append, List.length_append]; exact hown') hgrow (hloc.imp (fun e => e) (fun e => e.trans (by simp))))
              · have b3 : (k == 3) = false := by rw [beq_eq_false_iff_ne]; exact q3
                by_cases q4 : k = 4
                · subst q4
                  have hst : (stepF (f, ps, n) (4, nm, dt)) = (f, ps ++ [nm], n + dt.size) := by unfold stepF; rfl
                  rw [hst] at hrs o3
                  have hle2 : f.length + (ps.length + 1) ≤ 8 := by have := o3; simp at this; omega
                  have hown := hsee2.b
                  have HX := Lib.hid (And.intro hrs (And.intro o3 (And.intro hsee2 hB2)))
                  clear hrs o1 o2 o3 hsee2 hB2 hst hs
                  go_wp2_with (at_builtin; refine wpList_appendS 23 9 (.tmp 70) (.tmp 73) rfl rfl w5.heap.size Try.underlying23 strn_info rfl (by decide) rfl hown rfl (by simp) rfl (by intro u hu; simp only [List.mem_cons, List.not_mem_nil, or_false] at hu; rcases hu with rfl; rfl) (by unfold maxLen; omega) (by omega) hwb ?_; intro v' w' hown' hgrow hloc; obtain ⟨A', c', rfl⟩ := own_shape hown')
                  obtain ⟨hrs, o3, hsee2, hB2⟩ := HX.out
                  refine ⟨⟨j + 1, ?_, by go_num, by omega, ?_, ?_, (Turn.of_below hB2 _).trans (Turn.of_grown hgrow) (fun j x => x) (fun j _ x => x) |>.below (Nat.le_refl _) (fun j hj => (hsee2.b.lt j hj).1)⟩, by simp [intOf]; omega⟩
                  · rw [hrs]; push_cast; rfl
                  · rw [hrs]; exact o3
                  · rw [hrs]; exact ((hsee2.swap.grown (l1' := ps ++ [nm]) (by rw [List.map_append, List.length_append]; exact hown') hgrow (hloc.imp (fun e => e) (fun e => e.trans (by simp)))).swap)
                · have b4 : (k == 4) = false := by rw [beq_eq_false_iff_ne]; exact q4
                  by_cases q5 : k = 5
                  · subst q5
                    have hst : (stepF (f, ps, n) (5, nm, dt)) = (f, ps, n + dt.size) := by unfold stepF; rfl
                    rw [hst] at hrs o3
                    have hH := has_any A9 c9 f nm _ (RowA.of_own hsee2.a) (by omega)
                    rw [hasB_iff.2 (o1 rfl)] at hH
                    have HH := Lib.hid hH
                    have HX := Lib.hid (And.intro hrs (And.intro o3 (And.intro hsee2 hB2)))
                    clear hrs o1 o2 o3 hsee2 hB2 hst hs hH
                    go_wp2_with fail
                    refine HH.out.mono ?_
                    rintro e w6 ⟨rfl, rfl⟩
                    go_wp2_with fail
                    go_roundw
                    case rel =>
                      obtain ⟨hrs, o3, hsee2, hB2⟩ := HX.out
                      refine ⟨j + 1, ?_, by go_num, by omega, ?_, ?_, hB2⟩
                      · rw [hrs]; push_cast; rfl
                      · rw [hrs]; exact o3
                      · rw [hrs]; exact hsee2
                    case measure => simp [intOf]; omega
                  · have b5 : (k == 5) = false := by rw [beq_eq_false_iff_ne]; exact q5
                    by_cases q6 : k = 6
                    · subst q6
                      have hst : (stepF (f, ps, n) (6, nm, dt)) = (f, ps, n + dt.size) := by unfold stepF; rfl
                      rw [hst] at hrs o3
                      have hH := has_any A10 c10 ps nm _ (RowA.of_own hsee2.b) (by omega)
                      rw [hasB_iff.2 (o2 rfl)] at hH
                      have HH := Lib.hid hH
                      have HX := Lib.hid (And.intro hrs (And.intro o3 (And.intro hsee2 hB2)))
                      clear hrs o1 o2 o3 hsee2 hB2 hst hs hH
                      go_wp2_with fail
                      refine HH.out.mono ?_
                      rintro e w6 ⟨rfl, rfl⟩
                      go_wp2_with fail
                      go_roundw
                      case rel =>
                        obtain ⟨hrs, o3, hsee2, hB2⟩ := HX.out
                        refine ⟨j + 1, ?_, by go_num, by omega, ?_, ?_, hB2⟩
                        · rw [hrs]; push_cast; rfl
                        · rw [hrs]; exact o3
                        · rw [hrs]; exact hsee2
                      case measure => simp [intOf]; omega
                    · have b6 : (k == 6) = false := by rw [beq_eq_false_iff_ne]; exact q6
                      by_cases q7 : k = 7
                      · subst q7
                        have hst : (stepF (f, ps, n) (7, nm, dt)) = (lessF f nm, ps, n + dt.size) := by unfold stepF; rfl
                        rw [hst] at hrs o3
                        have HH := Lib.hid (without_any A9 c9 f nm _ (RowA.of_own hsee2.a) (by omega))
                        have HX := Lib.hid (And.intro hrs (And.intro o3 (And.intro hsee2 hB2)))
                        have hl6 := lessF_len f nm
                        clear hrs o1 o2 o3 hsee2 hB2 hst hs
                        go_wp2_with fail
                        refine HH.out.mono ?_
                        rintro e w6 ⟨v6, rfl, hown6, hb6⟩
                        obtain ⟨A6', c6', rfl⟩ := own_shape hown6
                        have H6 := Lib.hid (And.intro hown6 hb6)
                        clear hown6 hb6 HH
                        go_wp2_with fail
                        go_roundw
                        case rel =>
                          obtain ⟨hown6, hb6⟩ := H6.out
                          obtain ⟨hrs, o3, hsee2, hB2⟩ := HX.out
                          refine ⟨j + 1, ?_, by go_num, by omega, ?_, ?_, hB2.trans (hb6.mono hwb)⟩
                          · rw [hrs]; push_cast; rfl
                          · rw [hrs]; exact o3
                          · rw [hrs]; exact hsee2.fresh hown6 hb6 hwb
                        case measure => simp [intOf]; omega
                      · have b7 : (k == 7) = false := by rw [beq_eq_false_iff_ne]; exact q7
                        by_cases q8 : k = 8
                        · subst q8
                          have hst : (stepF (f, ps, n) (8, nm, dt)) = (f, lessF ps nm, n + dt.size) := by unfold stepF; rfl
                          rw [hst] at hrs o3
                          have HH := Lib.hid (without_any A10 c10 ps nm _ (RowA.of_own hsee2.b) (by omega))
                          have HX := Lib.hid (And.intro hrs (And.intro o3 (And.intro hsee2 hB2)))
                          have hl6 := lessF_len ps nm
                          clear hrs o1 o2 o3 hsee2 hB2 hst hs
                          go_wp2_with fail
                          refine HH.out.mono ?_
                          rintro e w6 ⟨v6, rfl, hown6, hb6⟩
                          obtain ⟨A6', c6', rfl⟩ := own_shape hown6
                          have H6 := Lib.hid (And.intro hown6 hb6)
                          clear hown6 hb6 HH
                          go_wp2_with fail
                          go_roundw
                          case rel =>
                            obtain ⟨hown6, hb6⟩ := H6.out
                            obtain ⟨hrs, o3, hsee2, hB2⟩ := HX.out
                            refine ⟨j + 1, ?_, by go_num, by omega, ?_, ?_, hB2.trans (hb6.mono hwb)⟩
                            · rw [hrs]; push_cast; rfl
                            · rw [hrs]; exact o3
                            · rw [hrs]; exact (hsee2.swap.fresh hown6 hb6 hwb).swap
                          case measure => simp [intOf]; omega
                        · have b8 : (k == 8) = false := by rw [beq_eq_false_iff_ne]; exact q8
                          have hst : (stepF (f, ps, n) (k, nm, dt)) = (f, ps, n + dt.size) := by unfold stepF; dsimp only; rw [if_neg (by omega), if_neg (by omega), if_neg (by omega), if_neg (by omega)]
                          rw [hst] at hrs o3
                          have HX := Lib.hid (And.intro hrs (And.intro o3 (And.intro hsee2 hB2)))
                          clear hrs o1 o2 o3 hsee2 hB2 hst hs q2 q3 q4 q5 q6 q7 q8
                          go_wp2_with fail
                          go_roundw
                          case rel =>
                            obtain ⟨hrs, o3, hsee2, hB2⟩ := HX.out
                            refine ⟨j + 1, ?_, by go_num, by omega, ?_, ?_, hB2⟩
                            · rw [hrs]; push_cast; rfl
                            · rw [hrs]; exact o3
                            · rw [hrs]; exact hsee2
                          case measure => simp [intOf]; omega
          · obtain rfl : j = T.length := by omega
            rw [List.take_length] at hle hsee ⊢
            rw [HT.out.1] at hsee hle ⊢
            have hTn := HTn.out
            rw [HT.out.1] at hTn
            dsimp only at hsee hle hTn ⊢
            have e1 : opF [] = [] := rfl
            have e2 : opP [] = [] := rfl
            rw [e1, e2] at hsee
            obtain ⟨A9, c9, rfl⟩ := own_shape hsee.a
            obtain ⟨A10, c10, rfl⟩ := own_shape hsee.b
            have HB := Lib.hid (HK5.out.trans (hb.mono HK5.out.size))
            clear hsee hb hle e1 e2
            go_wp2_with fail
            go_ret
            exact ⟨rfl, HB.out⟩

end Go.Proofs.Yticinbkgmfoeoaa
