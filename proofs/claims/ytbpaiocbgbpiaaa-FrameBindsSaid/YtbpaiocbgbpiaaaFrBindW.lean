/- 'It becomes an array for all of them when the innermost makes it one', walked. -/
import Derived.Test.YtbpaiocbgbpiaaaFrWF
import Derived.Test.YtbpaiocbgbpiaaaFrBindP
import Derived.Lib.MinMax
import Derived.WalkSmall
import Derived.LaidEqlPtr
namespace Go.Proofs.Ytbpaiocbgbpiaaa
open Go.RowKit
set_option linter.unusedVariables false
set_option linter.unusedSimpArgs false

theorem arr_info : (Try.prog.info? 101).isSome = true := by kernel_rfl
theorem ptr_same (b : Nat) (w : World) : (binOp .eql 28 (.pointer (some ⟨b, 0, none⟩)) (.pointer (some ⟨b, 0, none⟩))).run Try.prog w = .ok (.bool true) w := by
  obtain ⟨j, hj⟩ := Option.isSome_iff_exists.1 arr_info
  exact run_eql_ptr_same w _ Try.underlying28 hj
theorem ptr_not (b : Nat) (w : World) : (binOp .neq 28 (.pointer (some ⟨b, 0, none⟩)) (.pointer (some ⟨b, 0, none⟩))).run Try.prog w = .ok (.bool false) w := by
  obtain ⟨j, hj⟩ := Option.isSome_iff_exists.1 arr_info
  have h : ∀ d : Nat, (Op.equalIn (d + 1) 28 (.pointer (some ⟨b, 0, none⟩)) (.pointer (some ⟨b, 0, none⟩))).run Try.prog w = .ok true w := fun d => by
    simp [Op.equalIn, run_underlying Try.underlying28, sizeOf, typeInfo, hj, run_sameAddr_same]
  simp only [binOp]
  simp [Op.equal, Op.maxDepth, h 9999]
/-- So many calls have been made. -/
def Made (st : FS) (j at_ : Nat) : Prop := (j = 0 ∧ st = FS.new) ∨ (1 ≤ j ∧ BS st j j at_ 0 ∧ st.sl.length = j + 1)
def nmB (j : Nat) : ByteArray := if j = 0 then bX else bP
theorem Made.push {st : FS} {j at_ : Nat} (h : Made st j at_) (hj : j < 24) (ha : 1 ≤ at_) : ∃ st', pushS st [bP] [(0, nmB j, noCell)] = (st', 0) ∧ BS st' (j + 1) (j + 1) (if j < at_ then j + 2 else at_) 0 ∧ st'.sl.length = j + 2 := by
  rcases h with ⟨rfl, rfl⟩ | ⟨h1, h2, h3⟩
  · rw [if_pos (by omega)]
    exact BS.first
  · unfold nmB
    rw [if_neg (by omega)]
    exact h2.push h1 hj h3
theorem Made.len {st : FS} {j at_ : Nat} (h : Made st j at_) : st.sl.length ≤ j + 1 := by
  rcases h with ⟨rfl, rfl⟩ | ⟨h1, h2, h3⟩
  · decide
  · omega
set_option maxRecDepth 20000 in
set_option maxHeartbeats 16000000 in
theorem binds_any (n a : Int) (W : World) :
    Calls Try.prog 3 #[.int .i64 n, .int .i64 a] W fun e w' => e = .returned (.bool true) ∧ Below W.heap.size W w' := by
  have HF := Lib.hid (fixed_any W)
  go_enter Try.func3, Try.ntmps3
  go_wp2_with fail
  refine HF.out.mono ?_
  rintro e w1 ⟨rfl, hb1⟩
  have HB1 := Lib.hid hb1
  clear hb1 HF
  go_wp2_with fail
  have hN1 : 1 ≤ min (max n 1) 24 := by omega
  have hN2 : min (max n 1) 24 ≤ 24 := by omega
  have hT1 : 1 ≤ min (max a 1) (min (max n 1) 24 + 1) := by omega
  have hT2 : min (max a 1) (min (max n 1) 24 + 1) ≤ min (max n 1) 24 + 1 := by omega
  generalize min (max a 1) (min (max n 1) 24 + 1) = T at *
  generalize min (max n 1) 24 = N at *
  obtain ⟨N, rfl⟩ : ∃ K : Nat, N = (K : Int) := ⟨N.toNat, by omega⟩
  obtain ⟨T, rfl⟩ : ∃ K : Nat, T = (K : Int) := ⟨T.toNat, by omega⟩
  have HK := Lib.hid (And.intro (show 1 ≤ N by omega) (And.intro (show N ≤ 24 by omega) (And.intro (show 1 ≤ T by omega) (show T ≤ N + 1 by omega))))
  clear hN1 hN2 hT1 hT2
  refine (new_any w1).mono ?_
  rintro e w2 ⟨G, rfl, hL, hq⟩
  have HL := Lib.hid (And.intro hL hq)
  clear hL hq
  go_wp2_with fail
  go_loopw [6, 7] (fun v6 v7 wr => ∃ (j : Nat) (G' : GH) (st : FS), v6 = .string (nmB j) ∧ v7 = .int .i64 ((j : Int) + 1) ∧ j ≤ N ∧ LawSt w1.heap.size w1 G' st wr ∧ G'.F = G.F ∧ G'.q = 0 ∧ Made st j T) (fun v6 v7 _ => N + 1 - (intOf v7).toNat)
  case atStart => exact ⟨0, G, FS.new, rfl, rfl, Nat.zero_le _, HL.out.1, rfl, HL.out.2, .inl ⟨rfl, rfl⟩⟩
  case round =>
    obtain ⟨j, G', st, rfl, rfl, hj, hL', hF', hq', hM⟩ := hrel
    by_cases hlt : j < N
    · have i1 : (j : Int) + 1 ≤ (N : Int) := by omega
      have i0 : (0 : Int) ≤ (j : Int) := by omega
      have i3 : (j : Int) < 24 := by have := HK.out.2.1; omega
      obtain ⟨st1, hp1, hB1, hl1⟩ := hM.push (by omega) HK.out.2.2.1
      have hml := hM.len
      have hnm : (nmB j).size ≤ maxLen := by unfold nmB; split <;> decide
      have hne0 : True := trivial
      generalize hnj : nmB j = nm at *
      have hbA : Below wr.heap.size wr (wr.alloc (.cells #[.string ⟨#[112]⟩] 9)) := (Below.refl _ wr).alloc (Nat.le_refl _) _
      have hA : (wr.alloc (.cells #[.string ⟨#[112]⟩] 9)).heap[wr.heap.size]? = some (.cells #[.string ⟨#[112]⟩] 9 (0, 0)) := heap_alloc_new _ _
      have hb3 : Below (wr.alloc (.cells #[.string ⟨#[112]⟩] 9)).heap.size (wr.alloc (.cells #[.string ⟨#[112]⟩] 9)) ((wr.alloc (.cells #[.string ⟨#[112]⟩] 9)).alloc (.cells #[.pointer none, .string nm, .int .i64 0, .float .f64 0, .string ⟨#[]⟩] 34)) := (Below.refl _ _).alloc (Nat.le_refl _) _
      have hcall : Calls Try.prog 9 #[.pointer (some ⟨G.F, 0, none⟩), .slice (some ⟨wr.heap.size, 0, none⟩) 1 1, .slice (some ⟨wr.heap.size + 1, 0, none⟩) 1 1] ((wr.alloc (.cells #[.string ⟨#[112]⟩] 9)).alloc (.cells #[.pointer none, .string nm, .int .i64 0, .float .f64 0, .string ⟨#[]⟩] 34))
          fun e w' => ∃ G2, e = .returned (.int .i64 0) ∧ LawSt w1.heap.size w1 G2 st1 w' ∧ Keeps G' G2 :=
        law_push ((hL'.more hbA).more hb3) [⟨#[112]⟩] [(0, nm, noCell)] (by simp; omega) rfl rfl (RowA.of_block ((hb3.block _ (by simp)).trans hA) rfl rfl) (RowA.of_block (heap_alloc2_new _ _ _) rfl rfl)
          (own_new hL' (Nat.le_refl _)) (own_new hL' (by omega)) (by decide) (by intro x hx; simp at hx; subst hx; exact ⟨Nat.zero_le _, hnm⟩) hp1 rfl hF'
      have HCp := Lib.hid hcall
      clear hcall hb3 hA hbA hne0 hnm hml hp1 hM hL' hj hnj
      by_cases hgt : T < j + 1
      · rw [if_neg (by omega)] at hB1
        have hk1 : kindS st1 bP = (st1, 1) := by
          have := hB1.kindP (Nat.le_add_left 1 j) (Nat.le_refl _)
          rw [if_neg (by omega)] at this
          exact this
        have i4 : (T : Int) < (j : Int) + 1 := by omega
        have hneb : ((j : Int) + 1 == (T : Int)) = false := by rw [beq_eq_false_iff_ne]; omega
        have HM := Lib.hid (And.intro hB1 (And.intro hl1 (And.intro hlt (And.intro hF' (And.intro hq' hk1)))))
        clear hB1 hl1 hlt hF' hq' hgt hk1
        go_wp2_with fail
        refine HCp.out.mono ?_
        rintro e wb ⟨G2, rfl, hL2, hK2⟩
        have HCk := Lib.hid (law_kind hL2 bP (by decide) (by rw [HM.out.2.1]; omega) HM.out.2.2.2.2.2 (ri := 1) rfl (hK2.F.trans HM.out.2.2.2.1))
        have HK2 := Lib.hid (And.intro (hK2.F.trans HM.out.2.2.2.1) (hK2.q.trans HM.out.2.2.2.2.1))
        clear hL2 hK2 HCp
        go_wp2_with fail
        refine HCk.out.mono ?_
        rintro e wc ⟨G3, rfl, hL3, hK3⟩
        have HL3 := Lib.hid (And.intro hL3 (And.intro (hK3.F.trans HK2.out.1) (hK3.q.trans HK2.out.2)))
        clear hL3 hK3 HCk
        go_wp2_with fail
        go_roundw
        case rel => exact ⟨j + 1, G3, st1, by unfold nmB; rw [if_neg (by omega)], by go_num, HM.out.2.2.1, HL3.out.1, HL3.out.2.1, HL3.out.2.2, .inr ⟨by omega, HM.out.1, HM.out.2.1⟩⟩
        case measure =>
          have := HM.out.2.2.1
          simp [intOf]; omega
      · rw [if_pos (by omega)] at hB1
        have hk1 : kindS st1 bP = (st1, 0) := by
          have := hB1.kindP (Nat.le_add_left 1 j) (Nat.le_refl _)
          rw [if_pos (by omega)] at this
          exact this
        have i4 : ¬ (T : Int) < (j : Int) + 1 := by omega
        by_cases heq : j + 1 = T
        · have hneb : ((j : Int) + 1 == (T : Int)) = true := by rw [beq_iff_eq]; omega
          obtain ⟨st2, hs2, hB2, hl2⟩ := hB1.set (Nat.le_add_left 1 j) hl1
          have HM := Lib.hid (And.intro hB2 (And.intro hl2 (And.intro hlt (And.intro hF' (And.intro hq' (And.intro hk1 (And.intro hl1 (And.intro hs2 heq))))))))
          clear hB1 hl1 hlt hF' hq' hgt hk1 hB2 hl2 hs2 heq
          go_wp2_with fail
          refine HCp.out.mono ?_
          rintro e wb ⟨G2, rfl, hL2, hK2⟩
          have HCk := Lib.hid (law_kind hL2 bP (by decide) (by rw [HM.out.2.2.2.2.2.2.1]; omega) HM.out.2.2.2.2.2.1 (ri := 0) rfl (hK2.F.trans HM.out.2.2.2.1))
          have HK2 := Lib.hid (And.intro (hK2.F.trans HM.out.2.2.2.1) (hK2.q.trans HM.out.2.2.2.2.1))
          clear hL2 hK2 HCp
          go_wp2_with fail
          refine HCk.out.mono ?_
          rintro e wc ⟨G3, rfl, hL3, hK3⟩
          have HL3 := Lib.hid (And.intro hL3 (And.intro (hK3.F.trans HK2.out.1) (hK3.q.trans HK2.out.2)))
          clear hL3 hK3 HCk
          go_wp2_with fail
          refine (of_any _ _).mono ?_
          rintro e wd ⟨rfl, hbd⟩
          have HCs := Lib.hid (law_set (HL3.out.1.more hbd) bP (by decide) (by rw [HM.out.2.2.2.2.2.2.1]; omega) 1 4619567317775286272 ⟨#[]⟩ HM.out.2.2.2.2.2.2.2.1 (ri := 0) rfl HL3.out.2.1)
          clear hbd
          go_wp2_with fail
          refine HCs.out.mono ?_
          rintro e we ⟨G4, rfl, hL4, hK4⟩
          have HL4 := Lib.hid (And.intro hL4 (And.intro (hK4.F.trans HL3.out.2.1) (hK4.q.trans HL3.out.2.2)))
          clear hL4 hK4 HCs
          go_wp2_with fail
          go_roundw
          case rel => exact ⟨j + 1, G4, st2, by unfold nmB; rw [if_neg (by omega)], by go_num, HM.out.2.2.1, HL4.out.1, HL4.out.2.1, HL4.out.2.2, .inr ⟨by omega, by have := HM.out.1; rw [HM.out.2.2.2.2.2.2.2.2] at this ⊢; exact this, HM.out.2.1⟩⟩
          case measure =>
            have := HM.out.2.2.1
            simp [intOf]; omega
        · have hneb : ((j : Int) + 1 == (T : Int)) = false := by rw [beq_eq_false_iff_ne]; omega
          have hB2 : BS st1 (j + 1) (j + 1) T 0 := hB1.far (by omega) (by omega)
          have HM := Lib.hid (And.intro hB2 (And.intro hl1 (And.intro hlt (And.intro hF' (And.intro hq' hk1)))))
          clear hB1 hl1 hlt hF' hq' hgt hk1 hB2 heq
          go_wp2_with fail
          refine HCp.out.mono ?_
          rintro e wb ⟨G2, rfl, hL2, hK2⟩
          have HCk := Lib.hid (law_kind hL2 bP (by decide) (by rw [HM.out.2.1]; omega) HM.out.2.2.2.2.2 (ri := 0) rfl (hK2.F.trans HM.out.2.2.2.1))
          have HK2 := Lib.hid (And.intro (hK2.F.trans HM.out.2.2.2.1) (hK2.q.trans HM.out.2.2.2.2.1))
          clear hL2 hK2 HCp
          go_wp2_with fail
          refine HCk.out.mono ?_
          rintro e wc ⟨G3, rfl, hL3, hK3⟩
          have HL3 := Lib.hid (And.intro hL3 (And.intro (hK3.F.trans HK2.out.1) (hK3.q.trans HK2.out.2)))
          clear hL3 hK3 HCk
          go_wp2_with fail
          go_roundw
          case rel => exact ⟨j + 1, G3, st1, by unfold nmB; rw [if_neg (by omega)], by go_num, HM.out.2.2.1, HL3.out.1, HL3.out.2.1, HL3.out.2.2, .inr ⟨by omega, HM.out.1, HM.out.2.1⟩⟩
          case measure =>
            have := HM.out.2.2.1
            simp [intOf]; omega
    · obtain ⟨hN1, hN2, hT1, hT2⟩ := HK.out
      obtain rfl : j = N := by omega
      have hB0 : BS st j j T 0 ∧ st.sl.length = j + 1 := by
        rcases hM with ⟨h1, _⟩ | ⟨_, h2⟩
        · omega
        · exact h2
      have hj1 : (j : Int) ≤ 24 := by omega
      have hbA : Below wr.heap.size wr (wr.alloc (.cells #[.string ⟨#[112]⟩] 9)) := (Below.refl _ wr).alloc (Nat.le_refl _) _
      have hA : (wr.alloc (.cells #[.string ⟨#[112]⟩] 9)).heap[wr.heap.size]? = some (.cells #[.string ⟨#[112]⟩] 9 (0, 0)) := heap_alloc_new _ _
      have hb3 : Below (wr.alloc (.cells #[.string ⟨#[112]⟩] 9)).heap.size (wr.alloc (.cells #[.string ⟨#[112]⟩] 9)) ((wr.alloc (.cells #[.string ⟨#[112]⟩] 9)).alloc (.cells #[.pointer none, .string ⟨#[112]⟩, .int .i64 0, .float .f64 0, .string ⟨#[]⟩] 34)) := (Below.refl _ _).alloc (Nat.le_refl _) _
      have hcall : ∀ (st1 : FS) (r : Nat) (ri : Int), (r : Int) = ri → pushS st [bP] [(0, bP, noCell)] = (st1, r) → Calls Try.prog 9 #[.pointer (some ⟨G.F, 0, none⟩), .slice (some ⟨wr.heap.size, 0, none⟩) 1 1, .slice (some ⟨wr.heap.size + 1, 0, none⟩) 1 1] ((wr.alloc (.cells #[.string ⟨#[112]⟩] 9)).alloc (.cells #[.pointer none, .string ⟨#[112]⟩, .int .i64 0, .float .f64 0, .string ⟨#[]⟩] 34))
          fun e w' => ∃ G2, e = .returned (.int .i64 ri) ∧ LawSt w1.heap.size w1 G2 st1 w' ∧ Keeps G' G2 := fun st1 r ri hri hp1 =>
        law_push ((hL'.more hbA).more hb3) [⟨#[112]⟩] [(0, bP, noCell)] (by rw [hB0.2]; simp; omega) rfl rfl (RowA.of_block ((hb3.block _ (by simp)).trans hA) rfl rfl) (RowA.of_block (heap_alloc2_new _ _ _) rfl rfl)
          (own_new hL' (Nat.le_refl _)) (own_new hL' (by omega)) (by decide) (by intro x hx; simp at hx; subst hx; exact ⟨Nat.zero_le _, by decide⟩) hp1 hri hF'
      have HCp := Lib.hid hcall
      have HM := Lib.hid (And.intro hB0 (And.intro hF' hq'))
      clear hcall hb3 hA hbA hM hL' hF' hq' hj hlt hB0 hN1 hN2 hT1 hT2
      by_cases h24 : j = 24
      · subst h24
        have HC4 := Lib.hid (HCp.out st 4 4 rfl HM.out.1.1.many)
        clear HCp
        go_wp2_with fail
        refine HC4.out.mono ?_
        rintro e wb ⟨G5, rfl, hL5, hK5⟩
        have HS := Lib.hid (And.intro HM.out.1.1 (And.intro hL5 (And.intro (hK5.F.trans HM.out.2.1) (hK5.q.trans HM.out.2.2))))
        clear hL5 hK5 HC4
        go_wp2_with fail
        by_cases hTN : T ≤ 24
        · have j1 : (T : Int) ≤ (24 : Int) := by omega
          have HCa := Lib.hid (law_arr HS.out.2.1 bP (by decide) (by have := HS.out.1.le; omega) (HS.out.1.arrNo HK.out.1 (Nat.le_refl _) hTN) (ri := 80) rfl HS.out.2.2.1)
          clear hTN
          refine HCa.out.mono ?_
          rintro e wd ⟨G6, rfl, hL6, hK6⟩
          simp only [arP]
          have HCk := Lib.hid (law_kind hL6 bX (by decide) (by have := HS.out.1.le; omega) HS.out.1.kindX (ri := 0) rfl (hK6.F.trans HS.out.2.2.1))
          have HF6 := Lib.hid (hK6.F.trans HS.out.2.2.1)
          clear hL6 hK6 HCa
          go_wp2_with fail
          refine HCk.out.mono ?_
          rintro e we ⟨G7, rfl, hL7, hK7⟩
          have HCd := Lib.hid (law_depth hL7 (ri := (24 : Int)) (by rw [HS.out.1.ca, hidC_len]; rfl) (hK7.F.trans HF6.out))
          have HE := Lib.hid (HB1.out.trans (hL7.bl.mono HB1.out.size))
          clear hL7 hK7 HCk
          go_wp2_with fail
          refine HCd.out.mono ?_
          rintro e wf ⟨rfl, rfl⟩
          go_wp2_with fail
          go_ret
          exact ⟨rfl, HE.out⟩
        · have j1 : ¬ (T : Int) ≤ (24 : Int) := by omega
          have hjT : 24 < T := by omega
          have HJT := Lib.hid hjT
          obtain ⟨S1, hs1, hB1'⟩ := HS.out.1.arr1 HK.out.1 (Nat.le_refl _) hjT
          have HCa := Lib.hid (law_arr HS.out.2.1 bP (by decide) (by have := HS.out.1.le; omega) hs1 (ri := 0) rfl HS.out.2.2.1)
          have HB := Lib.hid hB1'
          clear hTN hjT hs1 hB1'
          refine HCa.out.mono ?_
          rintro e wd ⟨G6, rfl, hL6, hK6⟩
          obtain ⟨ba, mba, ksa, a1, a2, a3, a4, a5⟩ := hL6.arr (k := 0) (by rw [HB.out.n]; decide)
          rw [a4]
          have hpe := ptr_same ba
          have hpn := ptr_not ba
          have HL6 := Lib.hid (And.intro hL6 (And.intro a1 (And.intro a2 (And.intro a3 (And.intro (hK6.F.trans HS.out.2.2.1) (hK6.q.trans HS.out.2.2.2))))))
          clear hL6 hK6 a1 a2 a3 a4 a5 HCa
          go_wp2_with fail
          refine (of_any _ _).mono ?_
          rintro e we ⟨rfl, hbe⟩
          have hset : Calls Try.prog 16 #[.pointer (some ⟨ba, 0, none⟩), .string ⟨#[107]⟩, .agg #[.int .i64 1, .float .f64 4607182418800017408, .string ⟨#[]⟩]] we fun e w' => ∃ G7, e = .returned (.int .i64 0) ∧ LawSt w1.heap.size w1 G7 S1 w' ∧ G7.F = G.F ∧ G7.ab[0]? = some ba := by
            obtain ⟨hL6, a1, a2, a3, a6, a7⟩ := HL6.out
            have hL7 := hL6.more hbe
            have hA := hL7.fr.ars 0 ba mba ksa a1 a2 a3
            refine (hA.set (by rw [a7]; decide) ⟨#[107]⟩ (by decide) 1 4607182418800017408 ⟨#[]⟩).mono ?_
            rintro e w' ⟨rfl, hA', hT'⟩
            exact ⟨_, rfl, hL7.aset a1 a2 a3 hA' hT', a6, a1⟩
          have HSet := Lib.hid hset
          clear hset hbe
          go_wp2_with fail
          refine HSet.out.mono ?_
          rintro e wf ⟨G7, rfl, hL7, hF7, hb7⟩
          have HL7 := Lib.hid (And.intro hL7 (And.intro hF7 hb7))
          clear hL7 hF7 hb7 HSet
          go_wp2_with fail
          go_loopw [11] (fun v11 wr => ∃ (m : Nat) (G' : GH) (S' : FS), v11 = .int .i64 (m : Int) ∧ m ≤ 24 ∧ LawSt w1.heap.size w1 G' S' wr ∧ G'.F = G.F ∧ G'.ab[0]? = some ba ∧ BS S' 24 m T 1) (fun v11 _ => (intOf v11).toNat)
          case atStart => exact ⟨24, G7, S1, rfl, Nat.le_refl _, HL7.out.1, HL7.out.2.1, HL7.out.2.2, HB.out⟩
          case round =>
            obtain ⟨m, G8, S8, rfl, hm, hL8, hF8, hb8, hB8⟩ := hrel
            by_cases hm0 : 1 ≤ m
            · obtain ⟨q, rfl⟩ : ∃ q, m = q + 1 := ⟨m - 1, by omega⟩
              have m1 : (1 : Int) ≤ ((q + 1 : Nat) : Int) := by omega
              have m0 : (0 : Int) ≤ (q : Int) := by omega
              have m2 : (q : Int) < 24 := by omega
              have hle := hB8.le
              have HCa := Lib.hid (law_arr hL8 bP (by decide) (by omega) (hB8.arrP hm0 hm HJT.out) (ri := 0) rfl hF8)
              have HM := Lib.hid (And.intro hB8 (And.intro hF8 (And.intro hb8 hm)))
              clear hL8 hF8 hb8 hB8 hm hm0 hle
              push_cast at m1 ⊢
              go_wp2_with fail
              refine HCa.out.mono ?_
              rintro e wg ⟨G9, rfl, hL9, hK9⟩
              have hp9 : arP G9.ab 1 = .pointer (some ⟨ba, 0, none⟩) := by
                have := get_pre hK9.ab HM.out.2.2.1
                simp only [arP]
                rw [List.getD_eq_getElem?_getD, this]
                rfl
              rw [hp9]
              obtain ⟨S9, hs9, hB9⟩ := HM.out.1.pop
              have HCp := Lib.hid (law_pop hL9 hs9 (ri := 0) rfl (hK9.F.trans HM.out.2.1))
              have HK9 := Lib.hid (And.intro (hK9.F.trans HM.out.2.1) (And.intro (get_pre hK9.ab HM.out.2.2.1) hB9))
              clear hL9 hK9 hp9 hs9 hB9 HCa
              go_wp2_with fail
              refine HCp.out.mono ?_
              rintro e wh ⟨G10, rfl, hL10, hK10⟩
              have HL10 := Lib.hid (And.intro hL10 (And.intro (hK10.F.trans HK9.out.1) (get_pre hK10.ab HK9.out.2.1)))
              clear hL10 hK10 HCp
              go_wp2_with fail
              go_roundw
              case rel => exact ⟨q, G10, S9, by go_num, by have := HM.out.2.2.2; omega, HL10.out.1, HL10.out.2.1, HL10.out.2.2, HK9.out.2.2⟩
              case measure => simp [intOf]
            · obtain rfl : m = 0 := by omega
              have hle := hB8.le
              have HCa := Lib.hid (law_arr hL8 bX (by decide) (by omega) (hB8.arrX HJT.out) (ri := 0) rfl hF8)
              have HM := Lib.hid (And.intro hB8 (And.intro hF8 hb8))
              clear hL8 hF8 hb8 hB8 hm hm0 hle
              go_wp2_with fail
              refine HCa.out.mono ?_
              rintro e wg ⟨G9, rfl, hL9, hK9⟩
              have hp9 : arP G9.ab 1 = .pointer (some ⟨ba, 0, none⟩) := by
                have := get_pre hK9.ab HM.out.2.2
                simp only [arP]
                rw [List.getD_eq_getElem?_getD, this]
                rfl
              rw [hp9]
              have HCp := Lib.hid (law_pop hL9 HM.out.1.popE (ri := 1) rfl (hK9.F.trans HM.out.2.1))
              have HK9 := Lib.hid (hK9.F.trans HM.out.2.1)
              clear hL9 hK9 hp9 HCa
              go_wp2_with fail
              refine HCp.out.mono ?_
              rintro e wh ⟨G10, rfl, hL10, hK10⟩
              obtain ⟨S10, hs10⟩ := HM.out.1.kindEnd
              have HCk := Lib.hid (law_kind hL10 bP (by decide) (by have := HM.out.1.le; omega) hs10 (ri := 0) rfl (hK10.F.trans HK9.out))
              clear hL10 hK10 HCp hs10
              go_wp2_with fail
              refine HCk.out.mono ?_
              rintro e wi ⟨G11, rfl, hL11, hK11⟩
              have HE := Lib.hid (HB1.out.trans (hL11.bl.mono HB1.out.size))
              clear hL11 hK11 HCk
              go_wp2_with fail
              go_ret
              exact ⟨rfl, HE.out⟩
      · obtain ⟨st1, hp1, hB1', hl1⟩ := HM.out.1.1.push HK.out.1 (by have := HK.out.2.1; omega) HM.out.1.2
        obtain ⟨st2, hp2, hB2'⟩ := hB1'.pop
        have hB3 : BS st2 j j T 0 := by
          by_cases hjT : j < T
          · rw [if_pos hjT] at hB2'
            exact hB2'.less.far (by omega) hjT
          · rw [if_neg hjT] at hB2'
            exact hB2'.less
        have g1 : (j : Int) < 24 := by omega
        have g2 : ((j : Int) == 24) = false := by rw [beq_eq_false_iff_ne]; omega
        have HC4 := Lib.hid (HCp.out st1 0 0 rfl hp1)
        have HP := Lib.hid (And.intro hp2 hB3)
        clear HCp h24 hp1 hB1' hl1 hp2 hB2' hB3
        go_wp2_with fail
        refine HC4.out.mono ?_
        rintro e wb ⟨G4, rfl, hL4, hK4⟩
        have HCq := Lib.hid (law_pop hL4 HP.out.1 (ri := 0) rfl (hK4.F.trans HM.out.2.1))
        have HK4 := Lib.hid (And.intro (hK4.F.trans HM.out.2.1) (hK4.q.trans HM.out.2.2))
        clear hL4 hK4 HC4
        go_wp2_with fail
        refine HCq.out.mono ?_
        rintro e wc ⟨G5, rfl, hL5, hK5⟩
        have HS := Lib.hid (And.intro HP.out.2 (And.intro hL5 (And.intro (hK5.F.trans HK4.out.1) (hK5.q.trans HK4.out.2))))
        clear hL5 hK5 HCq
        go_wp2_with fail
        by_cases hTN : T ≤ j
        · have j1 : (T : Int) ≤ (j : Int) := by omega
          have HCa := Lib.hid (law_arr HS.out.2.1 bP (by decide) (by have := HS.out.1.le; omega) (HS.out.1.arrNo HK.out.1 (Nat.le_refl _) hTN) (ri := 80) rfl HS.out.2.2.1)
          clear hTN
          refine HCa.out.mono ?_
          rintro e wd ⟨G6, rfl, hL6, hK6⟩
          simp only [arP]
          have HCk := Lib.hid (law_kind hL6 bX (by decide) (by have := HS.out.1.le; omega) HS.out.1.kindX (ri := 0) rfl (hK6.F.trans HS.out.2.2.1))
          have HF6 := Lib.hid (hK6.F.trans HS.out.2.2.1)
          clear hL6 hK6 HCa
          go_wp2_with fail
          refine HCk.out.mono ?_
          rintro e we ⟨G7, rfl, hL7, hK7⟩
          have HCd := Lib.hid (law_depth hL7 (ri := (j : Int)) (by rw [HS.out.1.ca, hidC_len]) (hK7.F.trans HF6.out))
          have HE := Lib.hid (HB1.out.trans (hL7.bl.mono HB1.out.size))
          clear hL7 hK7 HCk
          go_wp2_with fail
          refine HCd.out.mono ?_
          rintro e wf ⟨rfl, rfl⟩
          go_wp2_with fail
          go_ret
          exact ⟨rfl, HE.out⟩
        · have j1 : ¬ (T : Int) ≤ (j : Int) := by omega
          have hjT : j < T := by omega
          have HJT := Lib.hid hjT
          obtain ⟨S1, hs1, hB1'⟩ := HS.out.1.arr1 HK.out.1 (Nat.le_refl _) hjT
          have HCa := Lib.hid (law_arr HS.out.2.1 bP (by decide) (by have := HS.out.1.le; omega) hs1 (ri := 0) rfl HS.out.2.2.1)
          have HB := Lib.hid hB1'
          clear hTN hjT hs1 hB1'
          refine HCa.out.mono ?_
          rintro e wd ⟨G6, rfl, hL6, hK6⟩
          obtain ⟨ba, mba, ksa, a1, a2, a3, a4, a5⟩ := hL6.arr (k := 0) (by rw [HB.out.n]; decide)
          rw [a4]
          have hpe := ptr_same ba
          have hpn := ptr_not ba
          have HL6 := Lib.hid (And.intro hL6 (And.intro a1 (And.intro a2 (And.intro a3 (And.intro (hK6.F.trans HS.out.2.2.1) (hK6.q.trans HS.out.2.2.2))))))
          clear hL6 hK6 a1 a2 a3 a4 a5 HCa
          go_wp2_with fail
          refine (of_any _ _).mono ?_
          rintro e we ⟨rfl, hbe⟩
          have hset : Calls Try.prog 16 #[.pointer (some ⟨ba, 0, none⟩), .string ⟨#[107]⟩, .agg #[.int .i64 1, .float .f64 4607182418800017408, .string ⟨#[]⟩]] we fun e w' => ∃ G7, e = .returned (.int .i64 0) ∧ LawSt w1.heap.size w1 G7 S1 w' ∧ G7.F = G.F ∧ G7.ab[0]? = some ba := by
            obtain ⟨hL6, a1, a2, a3, a6, a7⟩ := HL6.out
            have hL7 := hL6.more hbe
            have hA := hL7.fr.ars 0 ba mba ksa a1 a2 a3
            refine (hA.set (by rw [a7]; decide) ⟨#[107]⟩ (by decide) 1 4607182418800017408 ⟨#[]⟩).mono ?_
            rintro e w' ⟨rfl, hA', hT'⟩
            exact ⟨_, rfl, hL7.aset a1 a2 a3 hA' hT', a6, a1⟩
          have HSet := Lib.hid hset
          clear hset hbe
          go_wp2_with fail
          refine HSet.out.mono ?_
          rintro e wf ⟨G7, rfl, hL7, hF7, hb7⟩
          have HL7 := Lib.hid (And.intro hL7 (And.intro hF7 hb7))
          clear hL7 hF7 hb7 HSet
          go_wp2_with fail
          go_loopw [11] (fun v11 wr => ∃ (m : Nat) (G' : GH) (S' : FS), v11 = .int .i64 (m : Int) ∧ m ≤ j ∧ LawSt w1.heap.size w1 G' S' wr ∧ G'.F = G.F ∧ G'.ab[0]? = some ba ∧ BS S' j m T 1) (fun v11 _ => (intOf v11).toNat)
          case atStart => exact ⟨j, G7, S1, rfl, Nat.le_refl _, HL7.out.1, HL7.out.2.1, HL7.out.2.2, HB.out⟩
          case round =>
            obtain ⟨m, G8, S8, rfl, hm, hL8, hF8, hb8, hB8⟩ := hrel
            by_cases hm0 : 1 ≤ m
            · obtain ⟨q, rfl⟩ : ∃ q, m = q + 1 := ⟨m - 1, by omega⟩
              have m1 : (1 : Int) ≤ ((q + 1 : Nat) : Int) := by omega
              have m0 : (0 : Int) ≤ (q : Int) := by omega
              have m2 : (q : Int) < 24 := by omega
              have hle := hB8.le
              have HCa := Lib.hid (law_arr hL8 bP (by decide) (by omega) (hB8.arrP hm0 hm HJT.out) (ri := 0) rfl hF8)
              have HM := Lib.hid (And.intro hB8 (And.intro hF8 (And.intro hb8 hm)))
              clear hL8 hF8 hb8 hB8 hm hm0 hle
              push_cast at m1 ⊢
              go_wp2_with fail
              refine HCa.out.mono ?_
              rintro e wg ⟨G9, rfl, hL9, hK9⟩
              have hp9 : arP G9.ab 1 = .pointer (some ⟨ba, 0, none⟩) := by
                have := get_pre hK9.ab HM.out.2.2.1
                simp only [arP]
                rw [List.getD_eq_getElem?_getD, this]
                rfl
              rw [hp9]
              obtain ⟨S9, hs9, hB9⟩ := HM.out.1.pop
              have HCp := Lib.hid (law_pop hL9 hs9 (ri := 0) rfl (hK9.F.trans HM.out.2.1))
              have HK9 := Lib.hid (And.intro (hK9.F.trans HM.out.2.1) (And.intro (get_pre hK9.ab HM.out.2.2.1) hB9))
              clear hL9 hK9 hp9 hs9 hB9 HCa
              go_wp2_with fail
              refine HCp.out.mono ?_
              rintro e wh ⟨G10, rfl, hL10, hK10⟩
              have HL10 := Lib.hid (And.intro hL10 (And.intro (hK10.F.trans HK9.out.1) (get_pre hK10.ab HK9.out.2.1)))
              clear hL10 hK10 HCp
              go_wp2_with fail
              go_roundw
              case rel => exact ⟨q, G10, S9, by go_num, by have := HM.out.2.2.2; omega, HL10.out.1, HL10.out.2.1, HL10.out.2.2, HK9.out.2.2⟩
              case measure => simp [intOf]
            · obtain rfl : m = 0 := by omega
              have hle := hB8.le
              have HCa := Lib.hid (law_arr hL8 bX (by decide) (by omega) (hB8.arrX HJT.out) (ri := 0) rfl hF8)
              have HM := Lib.hid (And.intro hB8 (And.intro hF8 hb8))
              clear hL8 hF8 hb8 hB8 hm hm0 hle
              go_wp2_with fail
              refine HCa.out.mono ?_
              rintro e wg ⟨G9, rfl, hL9, hK9⟩
              have hp9 : arP G9.ab 1 = .pointer (some ⟨ba, 0, none⟩) := by
                have := get_pre hK9.ab HM.out.2.2
                simp only [arP]
                rw [List.getD_eq_getElem?_getD, this]
                rfl
              rw [hp9]
              have HCp := Lib.hid (law_pop hL9 HM.out.1.popE (ri := 1) rfl (hK9.F.trans HM.out.2.1))
              have HK9 := Lib.hid (hK9.F.trans HM.out.2.1)
              clear hL9 hK9 hp9 HCa
              go_wp2_with fail
              refine HCp.out.mono ?_
              rintro e wh ⟨G10, rfl, hL10, hK10⟩
              obtain ⟨S10, hs10⟩ := HM.out.1.kindEnd
              have HCk := Lib.hid (law_kind hL10 bP (by decide) (by have := HM.out.1.le; omega) hs10 (ri := 0) rfl (hK10.F.trans HK9.out))
              clear hL10 hK10 HCp hs10
              go_wp2_with fail
              refine HCk.out.mono ?_
              rintro e wi ⟨G11, rfl, hL11, hK11⟩
              have HE := Lib.hid (HB1.out.trans (hL11.bl.mono HB1.out.size))
              clear hL11 hK11 HCk
              go_wp2_with fail
              go_ret
              exact ⟨rfl, HE.out⟩
end Go.Proofs.Ytbpaiocbgbpiaaa
