/- The program's Parse: whatever digits, whatever else. -/
import Derived.Test.YtpklbdgajbfaiaaNtW27
namespace Go.Proofs.Ytpklbdgajbfaiaa
open Go.RowKit
set_option linter.unusedVariables false

set_option maxRecDepth 20000 in
set_option maxHeartbeats 4000000 in
theorem parse_any (s : ByteArray) (w : World) (hs0 : s.size ≠ 0) (hs : s.size ≤ 1048576) (hd : ∀ c ∈ s.data.toList, isDig c) :
    Calls Try.prog 23 #[.string s] w (NatIs (decV s.data.toList) w) := by
  have hcv := conv_bytes s w
  have hcv2 := conv_bytes s (Lib.bytesWorld w 5 s)
  have hlen : s.data.toList.length = s.size := by simp
  have hB1 := bytes_below w 5 s
  have hcell1 := fun j hj => Lib.bytesWorld_cell w 5 s j hj
  have hB2 := bytes_below (Lib.bytesWorld w 5 s) 5 s
  have hcell2 := fun j hj => Lib.bytesWorld_cell (Lib.bytesWorld w 5 s) 5 s j hj
  have hz1 := Lib.bytesWorld_size w 5 s
  have hz2 := Lib.bytesWorld_size (Lib.bytesWorld w 5 s) 5 s
  have hse : s.toList.isEmpty = false := by
    rw [Lib.toList_data]
    cases hx : s.data.toList with
    | nil => rw [hx] at hlen; simp at hlen; omega
    | cons => rfl
  generalize Lib.bytesWorld (Lib.bytesWorld w 5 s) 5 s = W2 at *
  generalize Lib.bytesWorld w 5 s = W1 at *
  generalize grownCap w s.size 0 5 = cap1 at *
  generalize grownCap W1 s.size 0 5 = cap2 at *
  have hdi : ∀ i, i < s.size → isDig (s.data.toList.getD i 0) := fun i hi => by
    rw [List.getD_eq_getElem?_getD, List.getElem?_eq_getElem (by omega)]
    exact hd _ (List.getElem_mem (by omega))
  have HC2 := Lib.hid (fun (j : Nat) (hj : j < s.size) (wx : World) (hb : Below W2.heap.size W2 wx) => (Below.cell (p := ⟨W1.heap.size, j, none⟩) hb (by show W1.heap.size < W2.heap.size; omega)).trans (hcell2 j hj))
  have HBB := Lib.hid (hB1.trans (hB2.mono hB1.size))
  have HZ := Lib.hid (And.intro hz1 hz2)
  clear hz1 hz2 hd
  go_enter Try.func23, Try.ntmps23
  go_wp2_with fail
  go_loopw [16] (fun v16 wr => ∃ i : Nat, v16 = .int .i64 (i : Int) ∧ i ≤ s.size ∧ wr = W1) (fun v16 _ => s.size - (intOf v16).toNat)
  case atStart => exact ⟨0, rfl, Nat.zero_le _, rfl⟩
  case round =>
    obtain ⟨i, rfl, hi, rfl⟩ := hrel
    by_cases hlt : i < s.size
    · have hc := hcell1 i hlt
      have hdd := hdi i hlt
      unfold isDig at hdd
      have i1 : (i : Int) < (s.size : Int) := by omega
      generalize (s.data.toList.getD i 0).toNat = x at *
      have x1 : ¬ (x : Int) < 48 := by omega
      have x2 : ¬ 57 < (x : Int) := by omega
      clear hcell1 hcell2 hdi
      go_wp2_with fail
      go_roundw
      case rel => exact ⟨i + 1, by go_num, by omega, trivial⟩
      case measure => simp [intOf]; omega
    · have i1 : ¬ (i : Int) < (s.size : Int) := by omega
      clear hcell1
      go_wp2_with fail
      go_loopw [4, 30] (fun v4 v30 wx => ∃ i : Nat, v30 = .int .i64 (i : Int) ∧ i ≤ s.size ∧ (dg 4294967296 (decV (s.data.toList.take i))).length ≤ 256 ∧ wx.ownsRow W2.heap.size 24 1 v4 (dg 4294967296 (decV (s.data.toList.take i))).length (cellsN .u32 (dg 4294967296 (decV (s.data.toList.take i)))) ∧ Below W2.heap.size W2 wx)
        (fun _ v30 _ => s.size - (intOf v30).toNat)
      case atStart => exact ⟨0, rfl, Nat.zero_le _, Nat.zero_le _, ⟨rfl, .inl ⟨rfl, rfl⟩⟩, Below.refl _ _⟩
      case round =>
        clear i1 hlt hi
        obtain ⟨i, rfl, hi, hl0, hown, hB⟩ := hrel
        have hgz := hB.size
        by_cases hlt : i < s.size
        · have hc := HC2.out i hlt _ hB
          have hdd := hdi i hlt
          unfold isDig at hdd
          have hdt := decV_take s.data.toList (i := i) (by omega)
          have hmo1 := decV_mono s.data.toList (i + 1)
          generalize (s.data.toList.getD i 0).toNat = x at *
          have hvo := vb_dg (b := 4294967296) (by omega) (decV (s.data.toList.take i))
          have hoo := dg_lo (b := 4294967296) (by omega) (decV (s.data.toList.take i))
          have HD := Lib.hid (And.intro hdt hvo)
          generalize ho : dg 4294967296 (decV (s.data.toList.take i)) = o at *
          have HO := Lib.hid ho
          have i1 : (i : Int) < (s.size : Int) := by omega
          have x3 : ((x : Int) - 48) % 256 = (x : Int) - 48 := by omega
          have x4 : (x : Int) - 48 = ((x - 48 : Nat) : Int) := by omega
          generalize hxd : x - 48 = d at *
          have hd9 : d ≤ 9 := by omega
          obtain ⟨A0, c0, rfl, hc1, hc2, _⟩ := own_form hown
          have HM1 := Lib.hid hmo1
          clear hcell2 hdi hmo1 hdt hvo ho hxd
          obtain ⟨wq, rfl⟩ : ∃ wq : World, wq = wr := ⟨_, rfl⟩
          go_wp2_with fail
          go_loopw [9, 39] (fun v9 v39 wy => ∃ (j k : Nat) (p : List Nat), v9 = .int .u64 (k : Int) ∧ v39 = .int .i64 (j : Int) ∧ k ≤ 9 ∧ j ≤ o.length ∧ p.length = o.length ∧ Lo 4294967296 p ∧ p.drop j = o.drop j ∧
              vb 4294967296 (p.take j) + 4294967296 ^ j * k = 10 * vb 4294967296 (o.take j) + d ∧ wy.ownsRow W2.heap.size 24 1 (.slice A0 o.length c0) o.length (cellsN .u32 p) ∧ Below W2.heap.size W2 wy)
            (fun _ v39 _ => o.length - (intOf v39).toNat)
          case atStart => exact ⟨0, d, o, rfl, rfl, hd9, Nat.zero_le _, rfl, hoo, rfl, by simp [vb], hown, hB⟩
          case round =>
            obtain ⟨j, k, p, rfl, rfl, hk, hj, hpl, hpo, hpd, hval, hop, hBy⟩ := hrel
            by_cases hjl : j < o.length
            · obtain ⟨g, rfl, hg1, hg2, hcp, hfp⟩ := own_at hop (cellsN_at (k := .u32) (show j < p.length by omega))
              rw [getD_drop hpd] at hcp
              have hx := lo_getD (b := 4294967296) (by omega) hoo j
              have hst := ten_step o p j (k + o.getD j 0 * 10) k d (by omega) hval rfl
              have hpd2 := drop_more hpd
              generalize o.getD j 0 = y at *
              obtain ⟨q, hq⟩ : ∃ q, q = k + y * 10 := ⟨_, rfl⟩
              rw [← hq] at hst
              have eq : (k : Int) + (y : Int) * 10 = (q : Int) := by omega
              have hq9 : q / 4294967296 ≤ 9 := by omega
              have j1 : (j : Int) < (o.length : Int) := by omega
              have j0 : (0 : Int) ≤ (j : Int) := by omega
              have HX := Lib.hid (And.intro hst (And.intro hpd2 (And.intro hop (And.intro eq hpd))))
              clear hst hpd2 hop hown hq eq hpd hval
              go_wp2_with fail
              obtain ⟨hst, hpd2, hop, eq, _⟩ := HX.out
              rw [eq, show ((q : Int) % 4294967296) = ((q % 4294967296 : Nat) : Int) by omega]
              have hs := hop.stored j (.int .u32 ((q % 4294967296 : Nat) : Int))
              rw [cellsN_set] at hs
              refine ⟨⟨j + 1, q / 4294967296, p.set j (q % 4294967296), by go_num, by go_num, hq9, by omega, by rw [List.length_set]; exact hpl, lo_set hpo (by omega) j, by rw [set_drop]; exact hpd2, hst, hs.1, hBy.setCell (p := ⟨g, j, none⟩) hg1 _⟩, by simp [intOf]; omega⟩
            · have hjo : j = o.length := by omega
              have j1 : ¬ (j : Int) < (o.length : Int) := by omega
              rw [hjo, List.take_of_length_le (by omega), List.take_of_length_le (Nat.le_refl _)] at hval
              have hgz2 := hBy.size
              have hnew : decV (s.data.toList.take (i + 1)) = vb 4294967296 (p ++ [k]) := by rw [vb_snoc, hpl, hval, HD.out.1, ← HD.out.2]
              by_cases hk0 : k = 0
              · have hnp : dg 4294967296 (decV (s.data.toList.take (i + 1))) = p := by
                  rw [hnew, vb_snoc, hk0, Nat.mul_zero, Nat.add_zero]
                  refine canon_len hpo ?_
                  rw [hpl, ← HO.out]
                  refine dg_mono (by omega) ?_
                  have h2 : vb 4294967296 (p ++ [k]) = vb 4294967296 p := by rw [vb_snoc, hk0]; simp
                  rw [← h2, ← hnew, HD.out.1]; omega
                have o1 : ¬ 256 < (o.length : Int) := by omega
                have HX := Lib.hid (And.intro hnp hop)
                subst hk0
                clear hnp hop hown hnew hval hpd hoo
                go_wp2_with fail
                refine ⟨⟨i + 1, by go_num, by omega, ?_, ?_, hBy⟩, by simp [intOf]; omega⟩
                · rw [HX.out.1, hpl]; exact hl0
                · rw [HX.out.1, hpl]
                  exact HX.out.2
              · have hps := lo_snoc hpo (show k < 4294967296 by omega)
                have hnp : dg 4294967296 (decV (s.data.toList.take (i + 1))) = p ++ [k] := by rw [hnew]; exact canon_snoc hps hk0
                have hll : (p ++ [k]).length = o.length + 1 := by rw [List.length_append, hpl]; rfl
                have k0 : (0 : Int) < (k : Int) := by omega
                have HX := Lib.hid (And.intro hnp hll)
                clear hnp hnew hval hpd hoo hll
                by_cases ho1 : o.length + 1 ≤ 256
                · have o1 : ¬ 256 < (o.length : Int) + 1 := by omega
                  go_wp2_with (at_builtin; refine wpList_append1 22 24 (.tmp 60) (.tmp 63) rfl rfl W2.heap.size Try.underlying22 uint_info rfl rfl hop rfl rfl rfl (by unfold maxLen; omega) (by omega) hgz2 ?_; intro v' w' hown' hgrow _; obtain ⟨A1, c1, rfl, _⟩ := own_form hown')
                  rw [← cellsN_snoc] at hown'
                  have HOW := Lib.hid hown'
                  have HBY := Lib.hid (hBy.grown hgrow hgz2 (fun k hk => (hop.lt k hk).1))
                  clear hown' hgrow hop hown
                  go_wp2_with fail
                  refine ⟨⟨i + 1, by go_num, by omega, ?_, ?_, HBY.out⟩, by simp [intOf]; omega⟩
                  · rw [HX.out.1, HX.out.2]; exact ho1
                  · rw [HX.out.1, HX.out.2]
                    exact HOW.out
                · have o1 : 256 < (o.length : Int) + 1 := by omega
                  go_wp2_with (at_builtin; refine wpList_append1 22 24 (.tmp 60) (.tmp 63) rfl rfl W2.heap.size Try.underlying22 uint_info rfl rfl hop rfl rfl rfl (by unfold maxLen; omega) (by omega) hgz2 ?_; intro v' w' hown' hgrow _; obtain ⟨A1, c1, rfl, _⟩ := own_form hown')
                  rw [← cellsN_snoc] at hown'
                  have HOW := Lib.hid hown'
                  have HBY := Lib.hid (hBy.grown hgrow hgz2 (fun k hk => (hop.lt k hk).1))
                  clear hown' hgrow hop hown
                  go_wp2_with fail
                  go_ret2
                  refine ⟨.inr ⟨fun hx => ?_, rfl⟩, HBB.out.trans (HBY.out.mono HBB.out.size)⟩
                  have h1 := fit_len.2 (Nat.lt_of_le_of_lt HM1.out hx)
                  rw [HX.out.1, HX.out.2] at h1
                  exact ho1 h1
        · have i1 : ¬ (i : Int) < (s.size : Int) := by omega
          rw [List.take_of_length_le (by omega)] at hown
          rw [List.take_of_length_le (by omega)] at hl0
          generalize ho : dg 4294967296 (decV s.data.toList) = o at *
          have HO := Lib.hid ho
          clear ho
          obtain ⟨A0, c0, rfl, hc1, hc2, _⟩ := own_form hown
          have hf : Fr W2.heap.size wr A0 c0 o := Fr.of_own hown
          have HC := Lib.hid (clip_any A0 o.length c0 wr hf.1 hf.2.1 (fun h => by obtain ⟨g, cur, e, _⟩ := hf.2.2 h; exact ⟨g, e⟩))
          have hfc := hf.clip
          clear hcell2 hdi hown hf
          go_wp2_with fail
          refine HC.out.mono ?_
          rintro e wx ⟨he, hw⟩
          subst he
          subst hw
          dsimp only
          go_wp2_with fail
          go_ret2
          have hzz := HBB.out.size
          have ho := HO.out
          subst ho
          exact ⟨.inl ⟨fit_len.1 hl0, _, _, rfl, hfc.more hzz⟩, HBB.out.trans (hB.mono hzz)⟩

/-- The first byte that is no digit. -/
theorem first_bad {l : List UInt8} (h : ¬ ∀ c ∈ l, isDig c) : ∃ j, j < l.length ∧ ¬ isDig (l.getD j 0) ∧ ∀ i, i < j → isDig (l.getD i 0) := by
  induction l with
  | nil => exact absurd (fun c hc => by cases hc) h
  | cons x l ih =>
    by_cases hx : isDig x
    · obtain ⟨j, hj, hb, hi⟩ := ih (fun hl => h (fun c hc => by
        rcases List.mem_cons.1 hc with rfl | hc
        · exact hx
        · exact hl c hc))
      refine ⟨j + 1, by simp; omega, by simpa using hb, fun i hi2 => ?_⟩
      cases i with
      | zero => simpa using hx
      | succ i => simpa using hi i (by omega)
    · exact ⟨0, by simp, by simpa using hx, fun i hi => by omega⟩
theorem parse_empty (w : World) :
    Calls Try.prog 23 #[.string ⟨#[]⟩] w fun e w' => e = .returned (.tuple #[.slice none 0 0, .int .i64 30]) ∧ w = w' := by
  go_enter Try.func23, Try.ntmps23
  go_wp2_with fail
  go_ret2
  exact ⟨rfl, rfl⟩
set_option maxRecDepth 20000 in
set_option maxHeartbeats 4000000 in
theorem parse_bad (s : ByteArray) (w : World) (hs : s.size ≤ 1048576) (hd : ¬ ∀ c ∈ s.data.toList, isDig c) :
    Calls Try.prog 23 #[.string s] w fun e w' => e = .returned (.tuple #[.slice none 0 0, .int .i64 30]) ∧ Below w.heap.size w w' := by
  have hcv := conv_bytes s w
  have hlen : s.data.toList.length = s.size := by simp
  have hB1 := bytes_below w 5 s
  have hcell1 := fun j hj => Lib.bytesWorld_cell w 5 s j hj
  obtain ⟨j, hj, hb, hdi⟩ := first_bad hd
  have hse : s.toList.isEmpty = false := by
    rw [Lib.toList_data]
    cases hx : s.data.toList with
    | nil => rw [hx] at hj; simp at hj
    | cons => rfl
  generalize Lib.bytesWorld w 5 s = W1 at *
  generalize grownCap w s.size 0 5 = cap1 at *
  clear hd
  go_enter Try.func23, Try.ntmps23
  go_wp2_with fail
  go_loopw [16] (fun v16 wr => ∃ i : Nat, v16 = .int .i64 (i : Int) ∧ i ≤ j ∧ wr = W1) (fun v16 _ => s.size - (intOf v16).toNat)
  case atStart => exact ⟨0, rfl, Nat.zero_le _, rfl⟩
  case round =>
    obtain ⟨i, rfl, hi, rfl⟩ := hrel
    have hc := hcell1 i (by omega)
    have i1 : (i : Int) < (s.size : Int) := by omega
    by_cases hlt : i < j
    · have hdd := hdi i hlt
      unfold isDig at hdd
      generalize (s.data.toList.getD i 0).toNat = x at *
      have x1 : ¬ (x : Int) < 48 := by omega
      have x2 : ¬ 57 < (x : Int) := by omega
      clear hcell1 hdi hb
      go_wp2_with fail
      go_roundw
      case rel => exact ⟨i + 1, by go_num, by omega, trivial⟩
      case measure => simp [intOf]; omega
    · obtain rfl : i = j := by omega
      unfold isDig at hb
      generalize (s.data.toList.getD i 0).toNat = x at *
      clear hcell1 hdi
      by_cases x1 : (x : Int) < 48
      · clear hb
        go_wp2_with fail
        go_ret2
        exact ⟨rfl, hB1⟩
      · have x2 : 57 < (x : Int) := by omega
        clear hb
        go_wp2_with fail
        go_ret2
        exact ⟨rfl, hB1⟩
/-- The program's Parse. -/
def digits (l : List UInt8) : Prop := l.length ≠ 0 ∧ ∀ c ∈ l, isDig c
theorem parse_told (s : ByteArray) (w : World) (hs : s.size ≤ 1048576) (f : Bool) (hf : f = true ↔ digits s.data.toList) :
    Calls Try.prog 23 #[.string s] w (Told (decV s.data.toList) f w) := by
  cases f
  · have h : ¬ digits s.data.toList := fun h => by have := hf.2 h; cases this
    by_cases h0 : s.size = 0
    · have hs0 : s = ⟨#[]⟩ := by
        cases s with
        | mk d => congr 1; exact Array.eq_empty_of_size_eq_zero h0
      subst hs0
      refine (parse_empty w).mono ?_
      rintro e w' ⟨rfl, rfl⟩
      exact ⟨_, _, _, _, rfl, .inl ⟨rfl, rfl, rfl⟩, Below.refl _ _⟩
    · refine (parse_bad s w hs (fun h2 => h ⟨by simpa using h0, h2⟩)).mono ?_
      rintro e w' ⟨rfl, hb⟩
      exact ⟨_, _, _, _, rfl, .inl ⟨rfl, rfl, rfl⟩, hb⟩
  · have h := hf.1 rfl
    exact (parse_any s w (by simpa using h.1) hs h.2).mono fun e w' h => told_is h

end Go.Proofs.Ytpklbdgajbfaiaa
