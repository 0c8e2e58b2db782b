/- WorldOwns, walked. -/
import Derived.Test.YticinbkgmfoeoaaOwW1
namespace Go.Proofs.Yticinbkgmfoeoaa
open Go.RowKit
set_option linter.unusedVariables false

set_option maxRecDepth 20000 in
set_option maxHeartbeats 8000000 in
theorem owns_any (fv cv sv ev kv : Value) (fs : List FT) (cl : List CT) (CL : List CM) (sl : List ByteArray) (E : List (ByteArray × ByteArray)) (K : List Int) (k to : Int) (nm dt : ByteArray) (w : World)
    (hS : ScriptIs w fv cv sv ev kv fs cl CL sl E K) (hnm : nm.size ≤ maxLen) :
    Calls Try.prog 7 #[.agg #[fv, cv, sv, ev, kv], .agg #[.int .i64 k, .int .i64 to, .string nm, .string dt]] w fun e w' => e = .returned (.bool true) ∧ Below w.heap.size w w' := by
  obtain ⟨A3, c3, rfl⟩ := hS.hfv.1.shape
  obtain ⟨A4, c4, rfl⟩ := hS.hcv.1.shape
  obtain ⟨A5, c5, rfl⟩ := hS.hsv.1.shape
  obtain ⟨A6, c6, rfl⟩ := hS.hev.1.shape
  obtain ⟨A7, c7, rfl⟩ := hS.hkv.1.shape
  have hbA : Below w.heap.size w (w.alloc (.cells #[.slice A3 fs.length c3, .slice A4 cl.length c4, .slice A5 sl.length c5, .slice A6 E.length c6, .slice A7 K.length c7] 31)) := (Below.refl _ w).alloc (Nat.le_refl _) _
  have hbox := box5 w (.slice A3 fs.length c3) (.slice A4 cl.length c4) (.slice A5 sl.length c5) (.slice A6 E.length c6) (.slice A7 K.length c7) 31
  have hop := op_box (w.alloc (.cells #[.slice A3 fs.length c3, .slice A4 cl.length c4, .slice A5 sl.length c5, .slice A6 E.length c6, .slice A7 K.length c7] 31)) k to nm dt 43
  have hbB : Below (w.alloc (.cells #[.slice A3 fs.length c3, .slice A4 cl.length c4, .slice A5 sl.length c5, .slice A6 E.length c6, .slice A7 K.length c7] 31)).heap.size (w.alloc (.cells #[.slice A3 fs.length c3, .slice A4 cl.length c4, .slice A5 sl.length c5, .slice A6 E.length c6, .slice A7 K.length c7] 31)) ((w.alloc (.cells #[.slice A3 fs.length c3, .slice A4 cl.length c4, .slice A5 sl.length c5, .slice A6 E.length c6, .slice A7 K.length c7] 31)).alloc (.cells #[.int .i64 k, .int .i64 to, .string nm, .string dt] 43)) := (Below.refl _ _).alloc (Nat.le_refl _) _
  have HX := Lib.hid (And.intro hbox hop)
  have HB0 := Lib.hid (And.intro hbA hbB)
  have H0 := Lib.hid (And.intro hS hnm)
  clear hS hbA hbB hbox hop hnm
  go_enter Try.func7, Try.ntmps7
  go_wp2_with fail
  generalize hwA : w.alloc (.cells #[.slice A3 fs.length c3, .slice A4 cl.length c4, .slice A5 sl.length c5, .slice A6 E.length c6, .slice A7 K.length c7] 31) = wA at *
  have hsA : wA.heap.size = w.heap.size + 1 := by rw [← hwA]; simp
  generalize hwB : wA.alloc (.cells #[.int .i64 k, .int .i64 to, .string nm, .string dt] 43) = wB at *
  rw [hsA] at HX HB0
  have HF := Lib.hid (fixed_any wB)
  clear hwA hwB
  refine HF.out.mono ?_
  rintro e w1 ⟨rfl, hb1⟩
  obtain ⟨hbA, hbB⟩ := HB0.out
  rw [← hsA] at hbB
  have hB1 : Below w.heap.size w w1 := hbA.trans ((hbB.trans (hb1.mono hbB.size)).mono hbA.size)
  have hbA1 : Below wA.heap.size wA w1 := hbB.trans (hb1.mono hbB.size)
  obtain ⟨⟨x0, x1, x2, x3, x4⟩, o0, o1, o2, o3⟩ := HX.out
  replace x0 := (hbA1.cell (lt_of_cell x0)).trans x0
  replace x1 := (hbA1.cell (lt_of_cell x1)).trans x1
  replace x2 := (hbA1.cell (lt_of_cell x2)).trans x2
  replace x3 := (hbA1.cell (lt_of_cell x3)).trans x3
  replace x4 := (hbA1.cell (lt_of_cell x4)).trans x4
  replace o0 := (hb1.cell (lt_of_cell o0)).trans o0
  replace o1 := (hb1.cell (lt_of_cell o1)).trans o1
  replace o2 := (hb1.cell (lt_of_cell o2)).trans o2
  replace o3 := (hb1.cell (lt_of_cell o3)).trans o3
  have hS1 := H0.out.1.below hB1
  have HC := Lib.hid (copy_of hS1)
  have HS1 := Lib.hid hS1
  have HB1 := Lib.hid hB1
  have HXO := Lib.hid (And.intro (And.intro x0 (And.intro x1 (And.intro x2 (And.intro x3 x4)))) (And.intro o0 (And.intro o1 (And.intro o2 o3))))
  clear hS1 hB1 hbA hbB hb1 hbA1 o0 o1 o2 o3 HX HB0 HF hsA
  generalize hb3 : w.heap.size + 1 = b3 at *
  clear hb3
  go_wp2_with fail
  refine HC.out.mono ?_
  rintro e w2 ⟨vF, vC, y1, y2, y3, yf, yc, rfl, hO, hb2⟩
  obtain ⟨AF, cF, rfl⟩ := own_shape hO.rowF
  obtain ⟨AC, cC, rfl⟩ := own_shape hO.rowC
  obtain ⟨A1, d1, rfl⟩ := hO.r1.1
  obtain ⟨A2, d2, rfl⟩ := hO.r2.1
  obtain ⟨A3', d3, rfl⟩ := hO.r3.1
  have hlm := HS1.out.hcm.1
  have hS2 := hO.script HS1.out
  have hal : Below w2.heap.size w2 (w2.alloc (.cells #[.slice AF fs.length cF, .slice AC cl.length cC, .slice A1 sl.length d1, .slice A2 E.length d2, .slice A3' K.length d3] 31)) := (Below.refl _ w2).alloc (Nat.le_refl _) _
  have hbx2 := box5 w2 (.slice AF fs.length cF) (.slice AC cl.length cC) (.slice A1 sl.length d1) (.slice A2 E.length d2) (.slice A3' K.length d3) 31
  have hS3 := hS2.below hal
  have HN := new_own (w := w2.alloc (.cells #[.slice AF fs.length cF, .slice AC cl.length cC, .slice A1 sl.length d1, .slice A2 E.length d2, .slice A3' K.length d3] 31)) (hfv := hS3.hfv) (hfn := hS3.hfn) (hf1 := hS3.hf1) (hcv := hS3.hcv) (hcl := hS3.hcl) (hcm := hS3.hcm) (hcm2 := hS3.hcm2) (hsv := hS3.hsv) (hsl := hS3.hsl) (hev := hS3.hev) (hpn := hS3.hpn) (hp1 := pairC_one E) (hkv := hS3.hkv) (hcn := hS3.hcn) (hc1 := int_one K)
  rw [hO.files, cmdZ_len hO.lenC] at HN
  replace HN := Lib.hid HN
  have HO := Lib.hid hO
  have HB2 := Lib.hid hb2
  have HAL := Lib.hid hal
  have HBX := Lib.hid hbx2
  have HLM := Lib.hid hlm
  clear hO hS2 hS3 hb2 hal hbx2 hlm x0 x1 x2 x3 x4
  go_wp2_with fail
  refine HN.out.mono ?_
  rintro e w3 ⟨g, m1, m2, n1, n2, v16, v19, files, cmds, scr, rfl, hNS, -, hn2, hCH⟩
  generalize hw2a : w2.alloc (.cells #[.slice AF fs.length cF, .slice AC cl.length cC, .slice A1 sl.length d1, .slice A2 E.length d2, .slice A3' K.length d3] 31) = w2a at *
  have hb23 : Below w2.heap.size w2 w3 := HAL.out.trans (hNS.below.mono HAL.out.size)
  have hsa : w2a.heap.size = w2.heap.size + 1 := by rw [← hw2a]; simp
  obtain ⟨⟨x0, x1, x2, x3, x4⟩, o0, o1, o2, o3⟩ := HXO.out
  have hb13 : Below w1.heap.size w1 w3 := HB2.out.trans (hb23.mono HB2.out.size)
  replace x0 := (hb13.cell (lt_of_cell x0)).trans x0
  replace x1 := (hb13.cell (lt_of_cell x1)).trans x1
  replace x2 := (hb13.cell (lt_of_cell x2)).trans x2
  replace x3 := (hb13.cell (lt_of_cell x3)).trans x3
  replace x4 := (hb13.cell (lt_of_cell x4)).trans x4
  obtain ⟨s0, s1, s2, s3, s4⟩ := HBX.out
  replace s0 := (hNS.below.cell (lt_of_cell s0)).trans s0
  replace s1 := (hNS.below.cell (lt_of_cell s1)).trans s1
  replace s2 := (hNS.below.cell (lt_of_cell s2)).trans s2
  replace s3 := (hNS.below.cell (lt_of_cell s3)).trans s3
  replace s4 := (hNS.below.cell (lt_of_cell s4)).trans s4
  have h34 : Below w3.heap.size w3 (w3.alloc (.cells #[.slice A3 fs.length c3, .slice A4 cl.length c4, .slice A5 sl.length c5, .slice A6 E.length c6, .slice A7 K.length c7, .slice none 0 0, .int .i64 0, .slice none 0 0, .slice none 0 0, .int .i64 0] 51)) := (Below.refl _ w3).alloc (Nat.le_refl _) _
  have HNS := Lib.hid (And.intro hNS (And.intro hn2 hCH))
  have HB13 := Lib.hid hb13
  have HB23 := Lib.hid hb23
  have HSA := Lib.hid hsa
  clear hNS hn2 hCH hw2a hb23 hsa hb13 HN HAL HBX HC
  generalize hw4 : w3.alloc (.cells #[.slice A3 fs.length c3, .slice A4 cl.length c4, .slice A5 sl.length c5, .slice A6 E.length c6, .slice A7 K.length c7, .slice none 0 0, .int .i64 0, .slice none 0 0, .slice none 0 0, .int .i64 0] 51) = w4 at h34
  replace s0 := (h34.cell (lt_of_cell s0)).trans s0
  replace s1 := (h34.cell (lt_of_cell s1)).trans s1
  replace s2 := (h34.cell (lt_of_cell s2)).trans s2
  replace s3 := (h34.cell (lt_of_cell s3)).trans s3
  replace s4 := (h34.cell (lt_of_cell s4)).trans s4
  have s0' := s0
  rw [← hw4] at s0'
  have hb24 : Below w2.heap.size w2 w4 := HB23.out.trans (h34.mono HB23.out.size)
  have hPl := (HO.out.places HLM.out hb24).2.2.2.2.2
  have HPL := Lib.hid hPl
  have HSS := Lib.hid (And.intro s0 (And.intro s1 (And.intro s2 (And.intro s3 s4))))
  have HB14 := Lib.hid (HB13.out.trans (h34.mono HB13.out.size))
  have HW4 := Lib.hid hw4
  have HLO := Lib.hid HB2.out.size
  clear hPl hb24 h34 s0 s1 s2 s3 s4 hw4 HB13 HB2
  go_wp2_with fail
  rw [HW4.out]
  clear s0' x0 x1 x2 x3 x4
  generalize hm : w3.heap.size = m at *
  have HM := Lib.hid hm
  generalize hhi : w2.heap.size = hi at *
  generalize hlo1 : w1.heap.size = lo1 at HPL HLO
  have HHI := Lib.hid (And.intro hhi hlo1)
  clear hm hhi hlo1
  have HM0 := Lib.hid (Mut.refl (OverF lo1 hi 0) w4)
  -- the files
  go_loopw [44] (fun v44 wr => ∃ i : Nat, v44 = .int .i64 (i : Int) ∧ i ≤ fs.length ∧ Mut (OverF lo1 hi i) w4 wr) (fun v44 _ => fs.length - (intOf v44).toNat)
  case atStart => exact ⟨0, rfl, Nat.zero_le _, HM0.out⟩
  case round =>
    clear HM0
    obtain ⟨i, rfl, hi', hM⟩ := hrel
    by_cases hlt : i < fs.length
    · have i1 : (i : Int) < (fs.length : Int) := by omega
      have i0 : (0 : Int) ≤ (i : Int) := by omega
      have i9 : (i : Int) ≤ 3518437208883 := by have := HS1.out.hfn; omega
      obtain ⟨b, off, cs, A, mm, c, e1, hoff, q1, q2, q3, q4, hs, hall⟩ := HPL.out.file hlt
      have q4' : mm ≤ 8796093022208 := Nat.le_trans q4 (HS1.out.hf1 _ (List.getElem_mem hlt)).2.1
      obtain ⟨_, p2, _, _⟩ := hall wr hM
      have s0 := hM.far (fun T k hp => Nat.lt_irrefl _ hp.2.1) HSS.out.1
      have HMM := Lib.hid hM
      have HALL := Lib.hid hall
      have HSH := Lib.hid hs
      have HQ := Lib.hid (And.intro hoff (And.intro q1 (And.intro q2 (And.intro q3 hlt))))
      rw [e1] at s0
      have HE1 := Lib.hid e1
      have HQ4 := Lib.hid q4'
      clear hM hall hs hoff q1 q2 q3 q4 q4' hi' hlt e1
      go_wp2_with fail
      go_loopw [54] (fun v54 wq => ∃ j : Nat, v54 = .int .i64 (j : Int) ∧ j ≤ mm ∧ Mut (OverF lo1 hi i) w4 wq) (fun v54 _ => mm - (intOf v54).toNat)
      case atStart => exact ⟨0, rfl, Nat.zero_le _, HMM.out⟩
      case round =>
        clear s0 p2
        obtain ⟨j, rfl, hj, hM⟩ := hrel
        obtain ⟨⟨x5, p1⟩, p2, p3, p4⟩ := HALL.out _ hM
        have s0 := hM.far (fun T k hp => Nat.lt_irrefl _ hp.2.1) HSS.out.1
        rw [HE1.out] at s0
        by_cases hjl : j < mm
        · have j1 : (j : Int) < (mm : Int) := by omega
          have j0 : (0 : Int) ≤ (j : Int) := by omega
          have j9 : (j : Int) ≤ 8796093022208 := by have := HQ4.out; omega
          obtain ⟨b2, off2, cs2, e2, r1, r2, r3, hat⟩ := HSH.out.at1 hjl
          obtain ⟨⟨x6, r4⟩, r5⟩ := hat _ _ hM
          have hM2 := Lib.hid (hM.set r3 (k := off2 + j) ⟨r1, r2, .inl rfl⟩ (.string ⟨#[63]⟩))
          rw [e2] at p2
          have HJ := Lib.hid hjl
          clear hat r1 r2 r3 p1 p3 p4 hM hj hjl e2
          go_wp2_with fail
          go_roundw
          case rel => exact ⟨j + 1, by go_num, HJ.out, hM2.out⟩
          case measure => have := HJ.out; simp [intOf]; omega
        · have j1 : ¬ (j : Int) < (mm : Int) := by omega
          obtain ⟨hoff, q1, q2, q3, hlt⟩ := HQ.out
          have hM2 := Lib.hid (((hM.mono (Q := OverF lo1 hi (i + 1)) (fun j T k hp => ⟨hp.1, hp.2.1, hp.2.2.imp id (fun h => ⟨h.1, by omega⟩)⟩)).set q3 (k := off + i * 2) ⟨q1, q2, .inr ⟨rfl, by omega⟩⟩ (.string ⟨#[]⟩)).set q3 (k := off + i * 2 + 1) ⟨q1, q2, .inr ⟨rfl, by omega⟩⟩ (.slice none 0 0))
          clear hM hj hjl hoff q1 q2 q3 hlt
          go_wp2_with fail
          go_roundw
          case rel => exact ⟨i + 1, by go_num, HQ.out.2.2.2.2, hM2.out⟩
          case measure => have := HQ.out.2.2.2.2; simp [intOf]; omega
    · have i1 : ¬ (i : Int) < (fs.length : Int) := by omega
      have hMc := hM.mono (Q := OverC lo1 hi 0) (fun j T k hp => ⟨hp.1, hp.2.1, hp.2.2.imp id (fun h => .inl h.1)⟩)
      have s1 := hMc.far (fun T k hp => Nat.lt_irrefl _ hp.2.1) HSS.out.2.1
      have HMc := Lib.hid hMc
      clear hM hMc hi'
      go_wp2_with fail
      clear i1 hlt
      -- the commands
      go_loopw [75] (fun v75 wr => ∃ i : Nat, v75 = .int .i64 (i : Int) ∧ i ≤ cl.length ∧ Mut (OverC lo1 hi i) w4 wr) (fun v75 _ => cl.length - (intOf v75).toNat)
      case atStart => exact ⟨0, rfl, Nat.zero_le _, HMc.out⟩
      case round =>
        clear HMc s1
        obtain ⟨i, rfl, hi', hM⟩ := hrel
        by_cases hlt : i < cl.length
        · have i1 : (i : Int) < (cl.length : Int) := by omega
          have i0 : (0 : Int) ≤ (i : Int) := by omega
          have i9 : (i : Int) ≤ 2932031007402 := by have := HS1.out.hcl; omega
          have hltM : i < CL.length := by rw [← HLM.out]; exact hlt
          obtain ⟨b, off, cs, A, mm, c, e1, hoff, q1, q2, q3, q4, hs, hall⟩ := HPL.out.cmd hlt hltM
          have q4' : mm ≤ 8796093022208 := Nat.le_trans q4 (HS1.out.hcm2 _ (List.getElem_mem hltM)).1
          obtain ⟨_, p2, _, _⟩ := hall wr hM
          have s0 := hM.far (fun T k hp => Nat.lt_irrefl _ hp.2.1) HSS.out.2.1
          have HMM := Lib.hid hM
          have HALL := Lib.hid hall
          have HSH := Lib.hid hs
          have HQ := Lib.hid (And.intro hoff (And.intro q1 (And.intro q2 (And.intro q3 hlt))))
          rw [e1] at s0
          have HE1 := Lib.hid e1
          have HQ4 := Lib.hid q4'
          clear hM hall hs hoff q1 q2 q3 q4 q4' hi' hlt hltM e1
          go_wp2_with fail
          go_loopw [85] (fun v85 wq => ∃ j : Nat, v85 = .int .i64 (j : Int) ∧ j ≤ mm ∧ Mut (OverC lo1 hi i) w4 wq) (fun v85 _ => mm - (intOf v85).toNat)
          case atStart => exact ⟨0, rfl, Nat.zero_le _, HMM.out⟩
          case round =>
            clear s0 p2
            obtain ⟨j, rfl, hj, hM⟩ := hrel
            obtain ⟨⟨x5, p1⟩, p2, ⟨x7, p3⟩, p4, p5, p6⟩ := HALL.out _ hM
            have s0 := hM.far (fun T k hp => Nat.lt_irrefl _ hp.2.1) HSS.out.2.1
            rw [HE1.out] at s0
            by_cases hjl : j < mm
            · have j1 : (j : Int) < (mm : Int) := by omega
              have j0 : (0 : Int) ≤ (j : Int) := by omega
              have j9 : (j : Int) ≤ 8796093022208 := by have := HQ4.out; omega
              obtain ⟨b2, off2, cs2, e2, r1, r2, r3, hat⟩ := HSH.out.at1 hjl
              obtain ⟨⟨x6, r4⟩, r5⟩ := hat _ _ hM
              have hM2 := Lib.hid (hM.set r3 (k := off2 + j) ⟨r1, r2, .inl rfl⟩ (.string ⟨#[63]⟩))
              rw [e2] at p2
              have HJ := Lib.hid hjl
              clear hat r1 r2 r3 p1 p3 p4 p5 p6 hM hj hjl e2
              go_wp2_with fail
              go_roundw
              case rel => exact ⟨j + 1, by go_num, HJ.out, hM2.out⟩
              case measure => have := HJ.out; simp [intOf]; omega
            · have j1 : ¬ (j : Int) < (mm : Int) := by omega
              obtain ⟨hoff, q1, q2, q3, hlt⟩ := HQ.out
              have hM2 := Lib.hid ((((hM.mono (Q := OverC lo1 hi (i + 1)) (fun j T k hp => ⟨hp.1, hp.2.1, hp.2.2.imp id (fun h => h.imp id (fun h => ⟨h.1, by omega⟩))⟩)).set q3 (k := off + i * 3) ⟨q1, q2, .inr (.inr ⟨rfl, by omega⟩)⟩ (.string ⟨#[]⟩)).set q3 (k := off + i * 3 + 1) ⟨q1, q2, .inr (.inr ⟨rfl, by omega⟩)⟩ (.slice none 0 0)).set q3 (k := off + i * 3 + 2) ⟨q1, q2, .inr (.inr ⟨rfl, by omega⟩)⟩ (.int .i64 0))
              clear hM hj hjl hoff q1 q2 q3 hlt
              go_wp2_with fail
              go_roundw
              case rel => exact ⟨i + 1, by go_num, HQ.out.2.2.2.2, hM2.out⟩
              case measure => have := HQ.out.2.2.2.2; simp [intOf]; omega
        · have i1 : ¬ (i : Int) < (cl.length : Int) := by omega
          have hMc := hM.mono (Q := OverA lo1 hi) (fun j T k hp => ⟨hp.1, hp.2.1⟩)
          have s1 := hMc.far (fun T k hp => Nat.lt_irrefl _ hp.2) HSS.out.2.2.1
          have HMc := Lib.hid hMc
          clear hM hMc hi'
          go_wp2_with fail
          clear i1 hlt
          go_loopw [106] (fun v106 wr => ∃ i : Nat, v106 = .int .i64 (i : Int) ∧ i ≤ sl.length ∧ Mut (OverA lo1 hi) w4 wr) (fun v106 _ => sl.length - (intOf v106).toNat)
          case atStart => exact ⟨0, rfl, Nat.zero_le _, HMc.out⟩
          case round =>
            clear HMc s1
            obtain ⟨i, rfl, hi', hM⟩ := hrel
            by_cases hlt : i < sl.length
            · have i1 : (i : Int) < (sl.length : Int) := by omega
              have i0 : (0 : Int) ≤ (i : Int) := by omega
              have i9 : (i : Int) ≤ 8796093022208 := by have := HS1.out.hsl; omega
              have s0 := hM.far (fun T k hp => Nat.lt_irrefl _ hp.2) HSS.out.2.2.1
              obtain ⟨b2, off2, cs2, e2, r1, r2, r3, hat⟩ := HPL.out.rowS.at1 hlt
              obtain ⟨⟨x6, r4⟩, r5⟩ := hat _ _ hM
              have hM2 := Lib.hid (hM.set r3 (k := off2 + i) ⟨r1, r2⟩ (.string ⟨#[63]⟩))
              rw [e2] at s0
              have HJ := Lib.hid hlt
              clear hat r1 r2 r3 hM hi' hlt e2
              go_wp2_with fail
              go_roundw
              case rel => exact ⟨i + 1, by go_num, HJ.out, hM2.out⟩
              case measure => have := HJ.out; simp [intOf]; omega
            · have i1 : ¬ (i : Int) < (sl.length : Int) := by omega
              have hMc := hM
              have s1 := hMc.far (fun T k hp => Nat.lt_irrefl _ hp.2) HSS.out.2.2.2.1
              have HMc := Lib.hid hMc
              clear hM hMc hi'
              go_wp2_with fail
              clear i1 hlt
              go_loopw [117] (fun v117 wr => ∃ i : Nat, v117 = .int .i64 (i : Int) ∧ i ≤ E.length ∧ Mut (OverA lo1 hi) w4 wr) (fun v117 _ => E.length - (intOf v117).toNat)
              case atStart => exact ⟨0, rfl, Nat.zero_le _, HMc.out⟩
              case round =>
                clear HMc s1
                obtain ⟨i, rfl, hi', hM⟩ := hrel
                by_cases hlt : i < E.length
                · have i1 : (i : Int) < (E.length : Int) := by omega
                  have i0 : (0 : Int) ≤ (i : Int) := by omega
                  have i9 : (i : Int) ≤ 4398046511104 := by have := HS1.out.hpn; omega
                  have s0 := hM.far (fun T k hp => Nat.lt_irrefl _ hp.2) HSS.out.2.2.2.1
                  obtain ⟨b2, off2, cs2, e2, r1, r2, r3, hat⟩ := HPL.out.rowE.at2 hlt
                  obtain ⟨⟨x6, r4⟩, ⟨x7, r5⟩, r6, r7⟩ := hat _ _ hM
                  have hM2 := Lib.hid ((hM.set r3 (k := off2 + i * 2) ⟨r1, r2⟩ (.string ⟨#[]⟩)).set r3 (k := off2 + i * 2 + 1) ⟨r1, r2⟩ (.string ⟨#[]⟩))
                  rw [e2] at s0
                  have HJ := Lib.hid hlt
                  clear hat r1 r2 r3 hM hi' hlt e2
                  go_wp2_with fail
                  go_roundw
                  case rel => exact ⟨i + 1, by go_num, HJ.out, hM2.out⟩
                  case measure => have := HJ.out; simp [intOf]; omega
                · have i1 : ¬ (i : Int) < (E.length : Int) := by omega
                  have hMc := hM
                  have s1 := hMc.far (fun T k hp => Nat.lt_irrefl _ hp.2) HSS.out.2.2.2.2
                  have HMc := Lib.hid hMc
                  clear hM hMc hi'
                  go_wp2_with fail
                  clear i1 hlt
                  go_loopw [129] (fun v129 wr => ∃ i : Nat, v129 = .int .i64 (i : Int) ∧ i ≤ K.length ∧ Mut (OverA lo1 hi) w4 wr) (fun v129 _ => K.length - (intOf v129).toNat)
                  case atStart => exact ⟨0, rfl, Nat.zero_le _, HMc.out⟩
                  case round =>
                    clear HMc s1
                    obtain ⟨i, rfl, hi', hM⟩ := hrel
                    by_cases hlt : i < K.length
                    · have i1 : (i : Int) < (K.length : Int) := by omega
                      have i0 : (0 : Int) ≤ (i : Int) := by omega
                      have i9 : (i : Int) ≤ 17592186044416 := by have := HS1.out.hcn; omega
                      have s0 := hM.far (fun T k hp => Nat.lt_irrefl _ hp.2) HSS.out.2.2.2.2
                      obtain ⟨b2, off2, cs2, e2, r1, r2, r3, hat⟩ := HPL.out.rowK.at1 hlt
                      obtain ⟨⟨x6, r4⟩, r5⟩ := hat _ _ hM
                      have hM2 := Lib.hid (hM.set r3 (k := off2 + i) ⟨r1, r2⟩ (.int .i64 (-1)))
                      rw [e2] at s0
                      have HJ := Lib.hid hlt
                      clear hat r1 r2 r3 hM hi' hlt e2
                      go_wp2_with fail
                      go_roundw
                      case rel => exact ⟨i + 1, by go_num, HJ.out, hM2.out⟩
                      case measure => have := HJ.out; simp [intOf]; omega
                    · have i1 : ¬ (i : Int) < (K.length : Int) := by omega
                      have hE0 := own_start (W0 := w1) (fv := .slice A3 fs.length c3) (cv := .slice A4 cl.length c4) (sv := .slice A5 sl.length c5) (ev := .slice A6 E.length c6) (kv := .slice A7 K.length c7) HNS.out.1 HNS.out.2.2 (by have := HSA.out; have := HHI.out; have := HLO.out; omega) (P := OverA lo1 hi) (W' := wr) (by rw [HW4.out]; exact hM) (fun j T k hp => ⟨by have := HHI.out; have := hp.1; omega, by have := HSA.out; have := HHI.out; have := hp.2; omega⟩) (HB14.out.trans ((hM.below (B := w1.heap.size) (fun j T k hp => by have := HHI.out; have := hp.1; omega)).mono (Nat.le_refl _)))
                      rw [HM.out] at hE0
                      have hn2' : n2 ≤ 2932031007402 := Nat.le_trans HNS.out.2.1 HS1.out.hcl
                      generalize w2a.heap.size = lo at hE0
                      have HE0 := Lib.hid hE0
                      have HN2 := Lib.hid hn2'
                      have hbw := hE0.w0
                      obtain ⟨⟨x0, x1, x2, x3, x4⟩, o0, o1, o2, o3⟩ := HXO.out
                      replace x3 := (hbw.cell (lt_of_cell x3)).trans x3
                      replace o0 := (hbw.cell (lt_of_cell o0)).trans o0
                      replace o1 := (hbw.cell (lt_of_cell o1)).trans o1
                      replace o2 := (hbw.cell (lt_of_cell o2)).trans o2
                      replace o3 := (hbw.cell (lt_of_cell o3)).trans o3
                      have HO4 := Lib.hid (And.intro x3 (And.intro o0 (And.intro o1 (And.intro o2 o3))))
                      have HBW := Lib.hid hbw
                      generalize hwb : wr = wb at *
                      clear hwb hM hE0 hbw hn2' x0 x1 x2 x3 x4 o0 o1 o2 o3 HNS HSA HHI HLO HM HW4 HB14 HPL HSS hi' HB23 HO HXO HLM
                      have hR8 := std_len (b := 8796093022208) (fun f hf => (HS1.out.hf1 f hf).2.1) HS1.out.hsl nm
                      have HR8 := Lib.hid hR8
                      clear hR8
                      go_wp2_with fail
                      go_loopw [15] (fun v15 wz => ∃ r : Nat, v15 = .int .i64 (r : Int) ∧ r ≤ 2 ∧ Below wb.heap.size wb wz) (fun v15 _ => 2 - (intOf v15).toNat)
                      case atStart => exact ⟨0, rfl, Nat.zero_le _, Below.refl _ _⟩
                      case round =>
                        clear i1 hlt
                        obtain ⟨r, rfl, hr, hbz⟩ := hrel
                        by_cases hlt : r < 2
                        · have i1 : (r : Int) < 2 := by omega
                          have i0 : (0 : Int) ≤ (r : Int) := by omega
                          obtain ⟨x3, o0, o1, o2, o3⟩ := HO4.out
                          replace o2 := (hbz.cell (lt_of_cell o2)).trans o2
                          have hE := BW.below HE0.out hbz
                          have HE := Lib.hid hE
                          have HBZ := Lib.hid hbz
                          have HLT := Lib.hid hlt
                          obtain ⟨D, hM, -⟩ := hE.open
                          have HIn := Lib.hid (mwd_input hM nm H0.out.2 HR8.out)
                          clear x3 o0 o1 o3 hbz hE hM hlt hr D
                          go_wp2_with fail
                          refine HIn.out.mono ?_
                          rintro e wa ⟨v, rfl, hva, hba⟩
                          obtain ⟨B1, e1, rfl⟩ := own_shape hva
                          replace o2 := (hba.cell (lt_of_cell o2)).trans o2
                          have hE := BW.below HE.out hba
                          obtain ⟨qa, qo, qc, hR, hbr, hmr, _⟩ := hE.openR
                          have HRi := Lib.hid (r_input hR HS1.out hbr nm)
                          have HEn := Lib.hid (mw_env hE.open.choose_spec.1.m HS1.out.hpn)
                          have HE1 := Lib.hid hE
                          have HVA := Lib.hid hva
                          have HBA := Lib.hid hba
                          clear hE hR hbr hmr hva hba HIn
                          generalize stdL (fileL fs) sl 2 nm = R at *
                          generalize hB : R.isSome = B at *
                          clear hB
                          go_wp2_with fail
                          refine HRi.out.mono ?_
                          rintro e wa' ⟨v, rfl, hv, hw⟩
                          subst hw
                          obtain ⟨B2, e2, rfl⟩ := hv.shape
                          have HV2 := Lib.hid hv
                          clear hv HRi o2
                          go_wp2_with fail
                          refine HEn.out.mono ?_
                          rintro e wc ⟨v, rfl, hvc, hbc⟩
                          obtain ⟨B3, e3, rfl⟩ := own_shape hvc
                          have hSs := same_strs B1 B2 e1 e2 _ _ wc (((RowC.of_own HVA.out).a).below hbc) (HV2.out.below hbc) HR8.out
                          rw [decide_eq_true rfl] at hSs
                          have HSs := Lib.hid hSs
                          have HVC := Lib.hid hvc
                          have HBC := Lib.hid hbc
                          obtain ⟨x3, _, _, _, _⟩ := HO4.out
                          replace x3 := (HBZ.out.cell (lt_of_cell x3)).trans x3
                          replace x3 := (HBA.out.cell (lt_of_cell x3)).trans x3
                          replace x3 := (hbc.cell (lt_of_cell x3)).trans x3
                          clear hvc hbc hSs HEn
                          go_wp2_with fail
                          refine HSs.out.mono ?_
                          rintro e wd ⟨rfl, hbd⟩
                          have hE := BW.below (BW.below HE1.out HBC.out) hbd
                          have hSp := same_pairs B3 A6 e3 c6 E E wd (((RowC.of_own HVC.out).a).below hbd) (HS1.out.hev.1.below hE.w0) HS1.out.hpn
                          rw [decide_eq_true rfl] at hSp
                          have HSp := Lib.hid hSp
                          have HBD := Lib.hid hbd
                          replace x3 := (hbd.cell (lt_of_cell x3)).trans x3
                          clear hbd hE hSp HSs
                          go_wp2_with fail
                          refine HSp.out.mono ?_
                          rintro e we ⟨rfl, hbe⟩
                          have hbae : Below wa'.heap.size wa' we := HBC.out.trans ((HBD.out.trans (hbe.mono HBD.out.size)).mono HBC.out.size)
                          have hbce : Below wc.heap.size wc we := HBD.out.trans (hbe.mono HBD.out.size)
                          have hs1 : Shp we wb.heap.size we.heap.size 9 1 B1 (R.getD []).length := ((Shp.of_own HVA.out).same (fun j _ hj => hbae.block j hj)).wide HBZ.out.size hbae.size
                          have hs2 : Shp we wb.heap.size we.heap.size 61 2 B3 E.length := ((Shp.of_own HVC.out).same (fun j _ hj => hbce.block j hj)).wide (Nat.le_trans HBZ.out.size HBA.out.size) hbce.size
                          have HS12 := Lib.hid (And.intro hs1 hs2)
                          have HBE := Lib.hid (HBZ.out.trans ((HBA.out.trans (hbae.mono HBA.out.size)).mono HBZ.out.size))
                          have HM0 := Lib.hid (Mut.refl (OverA wb.heap.size we.heap.size) we)
                          clear hs1 hs2 hbae hbce hbe x3 HSp HVA HVC HV2 HBA HBC HBD HE1 HE
                          go_wp2_with fail
                          go_loopw [170] (fun v170 wq => ∃ j : Nat, v170 = .int .i64 (j : Int) ∧ j ≤ (R.getD []).length ∧ Mut (OverA wb.heap.size we.heap.size) we wq) (fun v170 _ => (R.getD []).length - (intOf v170).toNat)
                          case atStart => exact ⟨0, rfl, Nat.zero_le _, HM0.out⟩
                          case round =>
                            clear HM0
                            obtain ⟨j, rfl, hj, hM⟩ := hrel
                            by_cases hjl : j < (R.getD []).length
                            · have j1 : (j : Int) < ((R.getD []).length : Int) := by omega
                              have j0 : (0 : Int) ≤ (j : Int) := by omega
                              have j9 : (j : Int) ≤ 8796093022208 := by have := HR8.out; omega
                              obtain ⟨b2, off2, cs2, rfl, r1, r2, r3, hat⟩ := HS12.out.1.at1 hjl
                              obtain ⟨⟨x6, r4⟩, r5⟩ := hat _ _ hM
                              have hM2 := Lib.hid (hM.set r3 (k := off2 + j) ⟨r1, r2⟩ (.string ⟨#[33]⟩))
                              have HJ := Lib.hid hjl
                              clear hat r1 r2 r3 hM hj hjl
                              go_wp2_with fail
                              go_roundw
                              case rel => exact ⟨j + 1, by go_num, HJ.out, hM2.out⟩
                              case measure => have := HJ.out; simp [intOf]; omega
                            · have j1 : ¬ (j : Int) < ((R.getD []).length : Int) := by omega
                              have HM0 := Lib.hid hM
                              clear hM hj
                              go_wp2_with fail
                              clear j1 hjl
                              go_loopw [179] (fun v179 wq => ∃ j : Nat, v179 = .int .i64 (j : Int) ∧ j ≤ E.length ∧ Mut (OverA wb.heap.size we.heap.size) we wq) (fun v179 _ => E.length - (intOf v179).toNat)
                              case atStart => exact ⟨0, rfl, Nat.zero_le _, HM0.out⟩
                              case round =>
                                clear HM0
                                obtain ⟨j, rfl, hj, hM⟩ := hrel
                                by_cases hjl : j < E.length
                                · have j1 : (j : Int) < (E.length : Int) := by omega
                                  have j0 : (0 : Int) ≤ (j : Int) := by omega
                                  have j9 : (j : Int) ≤ 4398046511104 := by have := HS1.out.hpn; omega
                                  obtain ⟨b2, off2, cs2, rfl, r1, r2, r3, hat⟩ := HS12.out.2.at2 hjl
                                  obtain ⟨⟨x6, r4⟩, ⟨x7, r5⟩, r6, r7⟩ := hat _ _ hM
                                  have hM2 := Lib.hid ((hM.set r3 (k := off2 + j * 2) ⟨r1, r2⟩ (.string ⟨#[]⟩)).set r3 (k := off2 + j * 2 + 1) ⟨r1, r2⟩ (.string ⟨#[]⟩))
                                  have HJ := Lib.hid hjl
                                  clear hat r1 r2 r3 hM hj hjl
                                  go_wp2_with fail
                                  go_roundw
                                  case rel => exact ⟨j + 1, by go_num, HJ.out, hM2.out⟩
                                  case measure => have := HJ.out; simp [intOf]; omega
                                · have j1 : ¬ (j : Int) < (E.length : Int) := by omega
                                  have HF2 := Lib.hid (HBE.out.trans (hM.below (B := wb.heap.size) (fun j T k hp => hp.1)))
                                  clear hM hj
                                  go_wp2_with fail
                                  go_roundw
                                  case rel => exact ⟨r + 1, by go_num, HLT.out, HF2.out⟩
                                  case measure => have := HLT.out; simp [intOf]; omega
                        · have i1 : ¬ (r : Int) < 2 := by omega
                          obtain ⟨x3, o0, o1, o2, o3⟩ := HO4.out
                          replace o0 := (hbz.cell (lt_of_cell o0)).trans o0
                          replace o1 := (hbz.cell (lt_of_cell o1)).trans o1
                          replace o2 := (hbz.cell (lt_of_cell o2)).trans o2
                          replace o3 := (hbz.cell (lt_of_cell o3)).trans o3
                          have hE := BW.below HE0.out hbz
                          have hst := step_any hE HS1.out (by have := HN2.out; omega) (by simp) (by omega) (by simp) (by simp) (by omega) (by omega) k to nm dt H0.out.2
                          have HST := Lib.hid hst
                          have HBZ := Lib.hid hbz
                          clear hE hst hbz hr x3
                          go_wp2_with fail
                          refine HST.out.mono ?_
                          rintro e w5 ⟨rfl, n2', asked', t', op', ac', size', d1', d2', d3', d4', d5', d6', d7', hE⟩
                          have hst := step_any hE HS1.out (by have := HN2.out; omega) (by simp at d2'; omega) (by omega) d4' (by simp at d5'; omega) d6' d7' 7 0 ⟨#[]⟩ ⟨#[]⟩ (by decide)
                          have HST2 := Lib.hid hst
                          have HAC := Lib.hid d5'
                          clear hE hst d1' d2' d3' d4' d5' d6' d7' o0 o1 o2 o3 HST
                          go_wp2_with fail
                          refine HST2.out.mono ?_
                          rintro e w6 ⟨rfl, n2'', asked'', t'', op'', ac, size'', d1', d2', d3', d4', d5', d6', d7', hE⟩
                          have hac : ac.length ≤ 40 := by have := HAC.out; simp at this; omega
                          have hA := hE.open.choose_spec.1
                          have HA := Lib.hid (mwd_acts hA (by omega))
                          have HE6 := Lib.hid hE
                          have HAC2 := Lib.hid hac
                          clear hA hE hac d1' d2' d3' d4' d5' d6' d7' HST2 HAC
                          go_wp2_with fail
                          refine HA.out.mono ?_
                          rintro e w7 ⟨v, rfl, hv7, hb7⟩
                          obtain ⟨B4, e4, rfl⟩ := own_shape hv7
                          have HS4 := Lib.hid ((Shp.of_own hv7))
                          have HB7 := Lib.hid hb7
                          have HM0 := Lib.hid (Mut.refl (OverA w6.heap.size w7.heap.size) w7)
                          clear hv7 hb7 HA i1 hlt
                          go_wp2_with fail
                          go_loopw [203] (fun v203 wq => ∃ j : Nat, v203 = .int .i64 (j : Int) ∧ j ≤ ac.length ∧ Mut (OverA w6.heap.size w7.heap.size) w7 wq) (fun v203 _ => ac.length - (intOf v203).toNat)
                          case atStart => exact ⟨0, rfl, Nat.zero_le _, HM0.out⟩
                          case round =>
                            clear HM0
                            obtain ⟨j, rfl, hj, hM⟩ := hrel
                            by_cases hjl : j < ac.length
                            · have j1 : (j : Int) < (ac.length : Int) := by omega
                              have j0 : (0 : Int) ≤ (j : Int) := by omega
                              have j9 : (j : Int) ≤ 40 := by have := HAC2.out; omega
                              obtain ⟨b2, off2, cs2, rfl, r1, r2, r3, hat⟩ := HS4.out.at3 hjl
                              obtain ⟨⟨x6, r4⟩, ⟨x7, r5⟩, ⟨x8, r6⟩, r7, r8, r9⟩ := hat _ _ hM
                              have hM2 := Lib.hid (((hM.set r3 (k := off2 + j * 3) ⟨r1, r2⟩ (.int .i64 0)).set r3 (k := off2 + j * 3 + 1) ⟨r1, r2⟩ (.string ⟨#[]⟩)).set r3 (k := off2 + j * 3 + 2) ⟨r1, r2⟩ (.string ⟨#[]⟩))
                              have HJ := Lib.hid hjl
                              clear hat r1 r2 r3 hM hj hjl
                              go_wp2_with fail
                              go_roundw
                              case rel => exact ⟨j + 1, by go_num, HJ.out, hM2.out⟩
                              case measure => have := HJ.out; simp [intOf]; omega
                            · have j1 : ¬ (j : Int) < (ac.length : Int) := by omega
                              have hb6 : Below w6.heap.size w6 wr := HB7.out.trans ((hM.below (B := w6.heap.size) (fun j T k hp => hp.1)))
                              have HB6 := Lib.hid hb6
                              clear hM hj hb6
                              go_wp2_with fail
                              clear j1 hjl
                              refine (input_none ⟨#[]⟩ wr).mono ?_
                              rintro e wx ⟨rfl, hw⟩
                              subst hw
                              go_wp2_with fail
                              refine (run_none ⟨#[120]⟩ wr).mono ?_
                              rintro e wx ⟨rfl, hw⟩
                              subst hw
                              go_wp2_with fail
                              refine (end_none wr).mono ?_
                              rintro e wx ⟨rfl, hw⟩
                              subst hw
                              have hE := BW.below HE6.out HB6.out
                              obtain ⟨qa, qo, qc, hR, hw0, _, _⟩ := hE.openR
                              obtain ⟨_, _, _, _, c8, _, _⟩ := r_cells hR.hd
                              obtain ⟨Aq, cq, rfl⟩ := hR.c.1.a.shape
                              have hac := HAC2.out
                              have HA := Lib.hid (fun (W : World) (hb : Below wr.heap.size wr W) => show Calls Try.prog 11 #[.pointer (some ⟨g, 0, none⟩)] W (fun e w' => ∃ A c, e = .returned (.slice A ac.length c) ∧ RowC w' w'.heap.size 3 (.slice A ac.length c) ac.length (ac.flatMap actC) ∧ Below wr.heap.size wr w') from by
                                obtain ⟨D, hM, _⟩ := (BW.below hE hb).open
                                refine (mwd_acts hM (by omega)).mono ?_
                                rintro e w2 ⟨v, rfl, hv, hb2⟩
                                obtain ⟨A, c, rfl⟩ := own_shape hv
                                exact ⟨A, c, rfl, RowC.of_own hv, hb.trans (hb2.mono hb.size)⟩)
                              have HSa := Lib.hid (fun (W : World) (A : Option Addr) (c : Nat) (hb : Below wr.heap.size wr W) (hv : RowC W W.heap.size 3 (.slice A ac.length c) ac.length (ac.flatMap actC)) => show Calls Try.prog 18 #[.slice A ac.length c, .slice Aq ac.length cq] W (fun e w' => e = .returned (.bool true) ∧ Below wr.heap.size wr w') from by
                                refine (same_any A Aq c cq ac ac W hv (hR.c.below hb).1 (by omega) (by omega)).mono ?_
                                rintro e w2 ⟨rfl, hb2⟩
                                exact ⟨by rw [decide_eq_true rfl], hb.trans (hb2.mono hb.size)⟩)
                              have HCl := Lib.hid (fun (W : World) (hb : Below wr.heap.size wr W) => show Calls Try.prog 25 #[.pointer none] W (fun e w' => e = .returned (.int .i64 0) ∧ Below wr.heap.size wr w') from by
                                refine (clock_none W).mono ?_
                                rintro e w2 ⟨rfl, hb2⟩
                                exact ⟨rfl, hb.trans (hb2.mono hb.size)⟩)
                              have HK := Lib.hid (fun (W : World) (hb : Below wr.heap.size wr W) => show W.cell? ⟨m, 8, none⟩ = some (.slice Aq ac.length cq) ∧ Below wr.heap.size wr W from
                                ⟨(hb.cell (lt_of_cell c8)).trans c8, hb⟩)
                              have HFB := Lib.hid (HB1.out.trans (hw0.mono HB1.out.size))
                              have hdr : Below wr.heap.size wr wr.drew := (Below.refl _ wr).drew
                              clear hE hR hw0 c8 hac HS1 HE6 HB6 HS4 HB7 HAC2 HN2 HBZ HE0 HO4 HBW HR8 H0 HB1
                              go_wp2_with fail
                              go_region_held3 (fun W => W.cell? ⟨m, 8, none⟩ = some (.slice Aq ac.length cq) ∧ Below wr.heap.size wr W)
                                (first | (exact HK.out _ hdr) | (go_split_ands; exact HK.out _ (by assumption)))
                                (first
                                  | (go_at_call 11; go_split_ands; refine (HA.out _ (by assumption)).mono ?_; rintro e wx ⟨Ax, cx, rfl, hvx, hbx⟩)
                                  | (go_at_call 11; go_split_ands; refine (acts_none _).mono ?_; rintro e wy ⟨rfl, hy⟩; subst hy)
                                  | (go_at_call 18; go_split_ands; refine (HSa.out _ Ax cx (by assumption) hvx).mono ?_; rintro e wy ⟨rfl, hby⟩)
                                  | (go_at_call 20; go_split_ands; refine (env_none _).mono ?_; rintro e wz ⟨rfl, hz⟩; subst hz)
                                  | (go_at_call 25; go_split_ands; refine (HCl.out _ (by assumption)).mono ?_; rintro e wc ⟨rfl, hbc⟩)
                                  | (go_at_call 26; go_split_ands; refine (system_none _ _).mono ?_; rintro e wz ⟨rfl, hz⟩; subst hz)
                                  | (go_at_call 10; go_split_ands; refine (write_none _ _ _ _).mono ?_; rintro e wz ⟨rfl, hz⟩; subst hz)
                                  | (go_at_call 12; go_split_ands; refine (close_none _ _).mono ?_; rintro e wz ⟨rfl, hz⟩; subst hz))
                              go_wp2_with fail
                              go_split_ands
                              go_ret
                              exact ⟨rfl, HFB.out.trans (Below.mono (by assumption) HFB.out.size)⟩
end Go.Proofs.Yticinbkgmfoeoaa
