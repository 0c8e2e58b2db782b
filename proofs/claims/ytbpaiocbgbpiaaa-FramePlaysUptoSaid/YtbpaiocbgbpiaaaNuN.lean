/- The document's Numeral, walked. -/
import Derived.Test.YtbpaiocbgbpiaaaNuS
namespace Go.Proofs.Ytbpaiocbgbpiaaa
open Go.RowKit
set_option linter.unusedVariables false
set_option linter.unusedSimpArgs false

def bytesV (l : List UInt8) : List Value := l.map fun x => (.int .u8 (x.toNat : Int) : Value)
theorem own_form0 {w : World} {base n : Nat} {e : TypeId} {v : Value} {xs : List Value} (h : w.ownsRow base e 1 v n xs) (hn : 0 < n) : ∃ g cap, v = .slice (some ⟨g, 0, none⟩) n cap ∧ n ≤ cap ∧ cap ≤ maxLen := by
  rcases h.2 with ⟨_, e⟩ | ⟨g, cap, cur, e, _, _, h3, h4, _⟩
  · omega
  · exact ⟨g, cap, e, h3, h4⟩
theorem bytesV_snoc (l : List UInt8) (x : UInt8) : bytesV (l ++ [x]) = bytesV l ++ [.int .u8 (x.toNat : Int)] := by simp [bytesV]
set_option maxRecDepth 20000 in
set_option maxHeartbeats 20000000 in
theorem numeral_any (s : ByteArray) (frm : Nat) (w : World) (hf : frm ≤ s.size) (hs : s.size ≤ 1048576) :
    Calls Try.prog 48 #[.string s, .int .i64 (frm : Int)] w fun e w' => e = .returned (.tuple #[.float .f64 (numR s frm).1, .int .i64 ((numR s frm).2 : Int)]) ∧ Below w.heap.size w w' := by
  have s1 : (s.size : Int) ≤ 1048576 := by omega
  have f0 : (0 : Int) ≤ (frm : Int) := by omega
  have f1 : (frm : Int) ≤ 1048576 := by omega
  go_enter Try.func48, Try.ntmps48
  go_wp2_with fail
  go_loopw [6, 8, 9] (fun v6 v8 v9 wr => ∃ k : Nat, v6 = .int .i64 (k : Int) ∧ v8 = .bool (decide (frm < k)) ∧ frm ≤ k ∧ k ≤ dE s frm ∧ wr.ownsRow w.heap.size 5 1 v9 (seg s frm k).length (bytesV (seg s frm k)) ∧ Below w.heap.size w wr) (fun v6 _ _ _ => s.size - (intOf v6).toNat)
  case atStart => exact ⟨frm, rfl, by rw [decide_eq_false (Nat.lt_irrefl _)], Nat.le_refl _, dE_ge _ _, by rw [seg_nil]; exact ⟨rfl, .inl ⟨rfl, rfl⟩⟩, Below.refl _ _⟩
  case round =>
    obtain ⟨k, rfl, rfl, hk1, hk2, hown, hB⟩ := hrel
    have hde := dE_le hf
    have hst := dE_step hk1 hk2 hf
    have k0 : (0 : Int) ≤ (k : Int) := by omega
    have k1 : (k : Int) ≤ 1048576 := by omega
    have hgz := hB.size
    have HI := Lib.hid (isdig_any s k wr (by omega) (by omega))
    have hsl := seg_len (s := s) (i := frm) (k := k) (by omega)
    cases hb : isD s k with
    | true =>
      have hlt := hst.1 hb
      have hks : k < s.size := by omega
      have hg := bD_get s k hks
      have hsg := seg_succ hk1 hks
      have hcb : (s.data.toList.getD k 0).toNat = bD s k := rfl
      have hv := bytesV_snoc (seg s frm k) (s.data.toList.getD k 0)
      have hl1 : (seg s frm (k + 1)).length = (seg s frm k).length + 1 := by rw [hsg]; simp
      rw [hcb, ← hsg] at hv
      rw [hb] at HI
      have ks1 : (k : Int) < (s.size : Int) := by omega
      generalize bD s k = x at *
      have hsl1 : (seg s frm k).length ≤ 1048576 := by omega
      have HK := Lib.hid (And.intro hlt (And.intro hk1 (And.intro hks (And.intro hv (And.intro hl1 hB)))))
      have HOW := Lib.hid hown
      generalize (seg s frm k).length = n at *
      generalize bytesV (seg s frm k) = bv at *
      clear hst hk1 hk2 hlt hsg hcb hv hl1 hb hde hsl hB hown
      go_wp2_with fail
      refine HI.out.mono ?_
      rintro e wi ⟨rfl, hw⟩
      subst hw
      have hown := HOW.out
      go_wp2_with (at_builtin; refine wpList_append1 109 5 (.tmp 17) (.tmp 21) rfl rfl w.heap.size Try.underlying109 u8_info rfl rfl hown rfl rfl rfl (by unfold maxLen; omega) (by omega) hgz ?_; intro v' w' hown' hgrow _)
      refine ⟨⟨k + 1, by go_num, by rw [decide_eq_true (by have := HK.out.2.1; omega)], by have := HK.out.2.1; omega, HK.out.1, by rw [HK.out.2.2.2.1, HK.out.2.2.2.2.1]; exact hown', HK.out.2.2.2.2.2.grown hgrow hgz (fun k hk => (hown.lt k hk).1)⟩, by have := HK.out.2.2.1; simp [intOf]; omega⟩
    | false =>
      obtain rfl := hst.2 hb
      rw [hb] at HI
      have hseg := seg_dig (s := s) (i := frm) (Nat.le_refl (dE s frm))
      clear hst hb hk2
      have HNR := Lib.hid (show numR s frm = if dotAt s frm (dE s frm) then (valF (seg s frm (dE s frm) ++ seg s (dE s frm + 1) (dE s (dE s frm + 1))) (numTail s (dE s (dE s frm + 1)) (-((dE s (dE s frm + 1) - (dE s frm + 1) : Nat) : Int))).1, (numTail s (dE s (dE s frm + 1)) (-((dE s (dE s frm + 1) - (dE s frm + 1) : Nat) : Int))).2) else if frm < dE s frm then (valF (seg s frm (dE s frm)) (numTail s (dE s frm) 0).1, (numTail s (dE s frm) 0).2) else (0, frm) from rfl)
      generalize seg s frm (dE s frm) = AL at *
      generalize dE s frm = I at *
      have HHI := Lib.hid (And.intro hk1 hde)
      have HBw := Lib.hid hB
      have HOw := Lib.hid (And.intro hown (And.intro hseg hsl))
      clear hown hseg hsl hB hk1
      by_cases hsome : frm < I
      · have hsd : decide (frm < I) = true := decide_eq_true hsome
        rw [hsd]
        by_cases c1 : I < s.size ∧ bD s I = 46
        · obtain ⟨J, HJ⟩ : ∃ J, Hid (J = I + 1) := ⟨_, Lib.hid rfl⟩
          have kJ : (I : Int) + 1 = (J : Int) := by have := HJ.out; omega
          have J0 : (0 : Int) ≤ (J : Int) := by omega
          have J9 : (J : Int) ≤ 1048577 := by omega
          have cc : I < s.size := c1.1
          have gg : (I : Int) < (s.size : Int) := by omega
          have hgI := bD_get s I cc
          have hdot : dotAt s frm I := ⟨cc, c1.2, .inl hsome⟩
          have z46 : ((bD s I : Int) == 46) = true := by rw [beq_iff_eq]; have := c1.2; omega

          have HN0 := Lib.hid (show numR s frm = (valF (AL ++ seg s (I + 1) (dE s (I + 1))) (numTail s (dE s (I + 1)) (-((dE s (I + 1) - (I + 1) : Nat) : Int))).1, (numTail s (dE s (I + 1)) (-((dE s (I + 1) - (I + 1) : Nat) : Int))).2) by rw [HNR.out, if_pos hdot])
          have hJs : J ≤ s.size := by have := HJ.out; omega
          have HJs := Lib.hid hJs
          have hfl : frm < I ∨ J < dE s J := by
            rcases hdot.2.2 with h | h
            · exact .inl h
            · refine .inr ((dE_step (Nat.le_refl J) (dE_ge s J) hJs).1 ?_)
              rw [HJ.out]; exact h
          have HFL := Lib.hid hfl
          have HAL := Lib.hid (show wr.ownsRow w.heap.size 5 1 u9 (AL ++ seg s J J).length (bytesV (AL ++ seg s J J)) ∧ (∀ x ∈ AL, isDig x) ∧ AL.length ≤ 1048576 from by
            obtain ⟨hown, hseg, hsl⟩ := HOw.out
            rw [seg_nil, List.append_nil]
            exact ⟨hown, hseg, by omega⟩)
          clear hdot hJs hfl
          clear c1
          go_wp2_with fail
          refine HI.out.mono ?_
          rintro e wi ⟨rfl, hw⟩
          subst hw
          go_wp2_with fail
          go_loopw [6, 7, 8, 9] (fun v6 v7 v8 v9 wz => ∃ (j : Nat) (x : Int), v6 = .int .i64 (j : Int) ∧ v7 = .int .i64 x ∧ x = (J : Int) - (j : Int) ∧ v8 = .bool (decide (frm < I ∨ J < j)) ∧ J ≤ j ∧ j ≤ dE s J ∧ wz.ownsRow w.heap.size 5 1 v9 (AL ++ seg s J j).length (bytesV (AL ++ seg s J j)) ∧ Below w.heap.size w wz) (fun v6 _ _ _ _ => s.size - (intOf v6).toNat)
          case atStart => exact ⟨J, 0, rfl, rfl, by omega, by rw [decide_eq_true (Or.inl hsome)], Nat.le_refl _, dE_ge _ _, HAL.out.1, HBw.out⟩
          case round =>
            obtain ⟨j, x, rfl, rfl, hx, rfl, hj1, hj2, hown, hB⟩ := hrel
            have hde2 := dE_le HJs.out
            have hst := dE_step hj1 hj2 HJs.out
            have k0 : (0 : Int) ≤ (j : Int) := by omega
            have k1 : (j : Int) ≤ 1048576 := by omega
            have x1 : -1048577 ≤ x := by have := HJs.out; omega
            have x2 : x ≤ 1048577 := by omega
            have hgz := hB.size
            have HI := Lib.hid (isdig_any s j wr (by omega) (by omega))
            have hsl2 := seg_len (s := s) (i := J) (k := j) (by omega)
            have hall : (AL ++ seg s J j).length ≤ 2097152 := by rw [List.length_append]; have := HAL.out.2.2; omega
            cases hb : isD s j with
            | true =>
              have hlt := hst.1 hb
              have hks : j < s.size := by omega
              have hg := bD_get s j hks
              have hsg : AL ++ seg s J (j + 1) = (AL ++ seg s J j) ++ [s.data.toList.getD j 0] := by rw [seg_succ hj1 hks, List.append_assoc]
              have hcb : (s.data.toList.getD j 0).toNat = bD s j := rfl
              have hv := bytesV_snoc (AL ++ seg s J j) (s.data.toList.getD j 0)
              have hl1 : (AL ++ seg s J (j + 1)).length = (AL ++ seg s J j).length + 1 := by rw [hsg, List.length_append, List.length_singleton]
              rw [hcb, ← hsg] at hv
              rw [hb] at HI
              have ks1 : (j : Int) < (s.size : Int) := by omega
              generalize bD s j = xx at *
              have HK := Lib.hid (And.intro hlt (And.intro hj1 (And.intro hks (And.intro hv (And.intro hl1 (And.intro hB hx))))))
              have HOW := Lib.hid hown
              generalize (AL ++ seg s J j).length = n at *
              generalize bytesV (AL ++ seg s J j) = bv at *
              clear hst hj1 hj2 hlt hsg hcb hv hl1 hb hde2 hsl2 hB hown hx
              go_wp2_with fail
              refine HI.out.mono ?_
              rintro e wi ⟨rfl, hw⟩
              subst hw
              have hown := HOW.out
              go_wp2_with (at_builtin; refine wpList_append1 109 5 (.tmp 49) (.tmp 53) rfl rfl w.heap.size Try.underlying109 u8_info rfl rfl hown rfl rfl rfl (by unfold maxLen; omega) (by omega) hgz ?_; intro v' w' hown' hgrow _)
              refine ⟨⟨j + 1, x - 1, by go_num, rfl, by have := HK.out.2.2.2.2.2.2; omega, by rw [decide_eq_true (by have := HK.out.2.1; omega)], by have := HK.out.2.1; omega, HK.out.1, by rw [HK.out.2.2.2.1, HK.out.2.2.2.2.1]; exact hown', HK.out.2.2.2.2.2.1.grown hgrow hgz (fun k hk => (hown.lt k hk).1)⟩, by have := HK.out.2.2.1; simp [intOf]; omega⟩
            | false =>
              obtain rfl := hst.2 hb
              rw [hb] at HI
              have hsd2 := seg_dig (s := s) (i := J) (Nat.le_refl (dE s J))
              have hfd : decide (frm < I ∨ J < dE s J) = true := decide_eq_true HFL.out
              rw [hfd]
              have HN := Lib.hid (show numR s frm = (valF (AL ++ seg s J (dE s J)) (numTail s (dE s J) x).1, (numTail s (dE s J) x).2) by
                rw [HN0.out, ← HJ.out]
                have : x = -((dE s J - J : Nat) : Int) := by omega
                rw [this])
              have hdig2 : ∀ c ∈ AL ++ seg s J (dE s J), isDig c := fun c hc => by
                rcases List.mem_append.1 hc with h | h
                · exact HAL.out.2.1 c h
                · exact hsd2 c h
              have hal0 : 0 < (AL ++ seg s J (dE s J)).length := by
                rw [List.length_append]
                rcases HFL.out with h | h
                · obtain ⟨_, _, hsl⟩ := HOw.out
                  omega
                · omega
              generalize AL ++ seg s J (dE s J) = AL2 at *
              generalize dE s J = I2 at *
              obtain ⟨g, cap, rfl, hcap1, hcap2⟩ := own_form0 hown hal0
              have HO := Lib.hid (show BytesAt wr g 0 AL2 ∧ AL2.length ≤ cap ∧ cap ≤ maxLen ∧ AL2.length ≤ 2097152 ∧ ∀ x ∈ AL2, isDig x from ⟨bytes_own hown, hcap1, hcap2, hall, hdig2⟩)
              have HX : Hid ((-2097152 : Int) ≤ x ∧ x ≤ 2097152) := Lib.hid ⟨by omega, by omega⟩
              have HBw := Lib.hid hB
              clear hst hb hj1 hj2 hsd2 hfd hdig2 hal0 hall hown hB hsl2 hcap1 hcap2 hx hgI gg cc
              by_cases cc : I2 < s.size
              · have gg : (I2 : Int) < (s.size : Int) := by omega
                have hgI := bD_get s I2 cc
                go_wp2_with fail
                refine HI.out.mono ?_
                rintro e wi ⟨rfl, hw⟩
                subst hw
                have I0 : (0 : Int) ≤ (I2 : Int) := by omega
                have I1 : (I2 : Int) ≤ 1048576 := by omega
                obtain ⟨K1, K2, HKK⟩ : ∃ K1 K2, Hid (K1 = I2 + 1 ∧ K2 = K1 + 1) := ⟨_, _, Lib.hid ⟨rfl, rfl⟩⟩

                by_cases c2 : bD s I2 = 101
                · have he : I2 < s.size ∧ (bD s I2 = 101 ∨ bD s I2 = 69) := ⟨cc, .inl c2⟩
                  have z1 : ((bD s I2 : Int) == 101) = true := by rw [beq_iff_eq]; omega
                  clear c2
                  have hK1 : K1 = I2 + 1 := HKK.out.1
                  have hK2 : K2 = K1 + 1 := HKK.out.2
                  have kI : (I2 : Int) + 1 = (K1 : Int) := by omega
                  have kI2 : (K1 : Int) + 1 = (K2 : Int) := by omega
                  have K10 : (0 : Int) ≤ (K1 : Int) := by omega
                  have K11 : (K1 : Int) ≤ 1048577 := by omega
                  have K21 : (K2 : Int) ≤ 1048578 := by omega
                  by_cases d1 : K1 < s.size
                  · have d1i : (K1 : Int) < (s.size : Int) := by omega
                    have hg2 := bD_get s K1 d1
                    have hx2 : bD s K1 = bD s K1 := rfl
                    by_cases p : bD s K1 = 43
                    · have hsg : sgAt s (I2 + 1) := by rw [← hK1]; exact ⟨d1, .inl p⟩
                      have hx45 : bD s (I2 + 1) = 43 := by rw [← hK1]; exact p
                      have y1 : ((bD s K1 : Int) == 43) = true := by rw [beq_iff_eq]; omega
                      have y2 : ((bD s K1 : Int) == 45) = false := by rw [beq_eq_false_iff_ne]; omega
                      clear hx2 p
                      generalize hq : bD s K1 = x2 at hg2 y1 y2
                      clear hq
                      have HI2 := Lib.hid (isdig_any s K2 wr (by omega) (by omega))
                      have HE := Lib.hid he
                      have HSG := Lib.hid hsg
                      have HX45 := Lib.hid hx45
                      clear hx45
                      clear he hsg hK1 hK2
                      cases hdk : isD s K2 with
                      | false =>
                        rw [hdk] at HI2
                        have HT := Lib.hid (show (numTail s I2 x).1 = x ∧ (numTail s I2 x).2 = I2 by
                          have he := HE.out
                          have hsg := HSG.out
                          have hx45 := HX45.out
                          obtain ⟨hK1, hK2⟩ := HKK.out
                          subst hK2; subst hK1
                          unfold numTail
                          rw [if_pos he, if_pos hsg, if_neg (by rw [hdk]; decide)]
                          exact ⟨rfl, rfl⟩)
                        obtain ⟨xb1, xb2⟩ := HX.out
                        clear hdk
                        go_wp2_with fail
                        refine HI2.out.mono ?_
                        rintro e wi ⟨rfl, hw⟩
                        subst hw
                        go_wp2_with fail
                        refine (value_any g 0 cap AL2 _ _ HO.out.1 HO.out.2.1 HO.out.2.2.1 HO.out.2.2.2.1 HO.out.2.2.2.2 (by omega) (by omega)).mono ?_
                        rintro e wv ⟨rfl, hbv⟩
                        go_wp2_with fail
                        go_ret2
                        rw [HN.out]
                        dsimp only
                        rw [HT.out.1, HT.out.2]
                        refine ⟨?_, HBw.out.trans (hbv.mono HBw.out.size)⟩
                        first | rfl | (congr 4; omega) | (simp)
                      | true =>
                        rw [hdk] at HI2
                        have HT := Lib.hid (show (numTail s I2 x).1 = x + (eN (seg s K2 (dE s K2)) : Int) ∧ (numTail s I2 x).2 = dE s K2 by
                          have he := HE.out
                          have hsg := HSG.out
                          have hx45 := HX45.out
                          obtain ⟨hK1, hK2⟩ := HKK.out
                          subst hK2; subst hK1
                          unfold numTail
                          rw [if_pos he, if_pos hsg, if_pos hdk, if_neg (by intro q; rw [q] at hx45; omega)]
                          exact ⟨rfl, rfl⟩)
                        have hKs : K2 ≤ s.size := by
                          have := of_decide_eq_true (show decide (K2 < s.size ∧ 48 ≤ bD s K2 ∧ bD s K2 ≤ 57) = true from hdk)
                          omega
                        have HKs := Lib.hid hKs
                        clear hdk hKs
                        go_wp2_with fail
                        refine HI2.out.mono ?_
                        rintro e wi ⟨rfl, hw⟩
                        subst hw
                        go_wp2_with fail
                        go_loopw [10, 12] (fun v10 v12 wz => ∃ k : Nat, v10 = .int .i64 (k : Int) ∧ v12 = .int .i64 (eN (seg s K2 k) : Int) ∧ K2 ≤ k ∧ k ≤ dE s K2 ∧ wr = wz) (fun v10 _ _ => s.size - (intOf v10).toNat)
                        case atStart => exact ⟨K2, rfl, by rw [seg_nil]; rfl, Nat.le_refl _, dE_ge _ _, rfl⟩
                        case round =>
                          obtain ⟨k, rfl, rfl, hk1, hk2, rfl⟩ := hrel
                          have hde := dE_le HKs.out
                          have hst := dE_step hk1 hk2 HKs.out
                          have hksz : k ≤ s.size := by omega
                          have k0 : (0 : Int) ≤ (k : Int) := by omega
                          have k1 : (k : Int) ≤ 1048576 := by omega
                          have HI := Lib.hid (isdig_any s k wr (by omega) (by omega))
                          have hen := eN_le (seg s K2 k)
                          have hen1 : (eN (seg s K2 k) : Int) ≤ 100000 := by omega
                          have hen0 : (0 : Int) ≤ (eN (seg s K2 k) : Int) := by omega
                          cases hb : isD s k with
                          | true =>
                            have hlt := hst.1 hb
                            have hks : k < s.size := by omega
                            have hg := bD_get s k hks
                            have hsg := seg_succ hk1 hks
                            have hdd := of_decide_eq_true (show decide (k < s.size ∧ 48 ≤ bD s k ∧ bD s k ≤ 57) = true from hb)
                            have hcb : (s.data.toList.getD k 0).toNat = bD s k := rfl
                            have hnew := eN_snoc (seg s K2 k) (s.data.toList.getD k 0)
                            rw [hcb, ← hsg] at hnew
                            have ks1 : (k : Int) < (s.size : Int) := by omega
                            rw [hb] at HI
                            generalize bD s k = x at *
                            obtain ⟨d, hd⟩ : ∃ d, d = x - 48 := ⟨_, rfl⟩
                            have x3 : ((x : Int) - 48) % 256 = (d : Int) := by omega
                            have x4 : (x : Int) - 48 = (d : Int) := by omega
                            have d9 : (d : Int) ≤ 9 := by omega
                            have d0 : (0 : Int) ≤ (d : Int) := by omega
                            rw [← hd] at hnew
                            generalize eN (seg s K2 k) = n at *
                            have hmn : min (10 * (n : Int) + (d : Int)) 100000 = ((min (10 * n + d) 100000 : Nat) : Int) := by omega
                            generalize min (10 * n + d) 100000 = mm at *
                            have HK := Lib.hid (And.intro hlt (And.intro hk1 (And.intro hnew hks)))
                            clear hst hk1 hk2 hksz hlt hsg hdd hcb hnew hb hde hd hen
                            go_wp2_with fail
                            refine HI.out.mono ?_
                            rintro e wi ⟨rfl, hw⟩
                            subst hw
                            go_wp2_with fail
                            go_roundw
                            case rel => exact ⟨k + 1, by go_num, by rw [HK.out.2.2.1], by have := HK.out.2.1; omega, HK.out.1, trivial⟩
                            case measure => have := HK.out.2.2.2; simp [intOf]; omega
                          | false =>
                            obtain rfl := hst.2 hb
                            rw [hb] at HI
                            generalize eN (seg s K2 (dE s K2)) = n at *
                            generalize dE s K2 = kk at *
                            clear hst hk1 hk2 hksz hb hde hen
                            obtain ⟨xb1, xb2⟩ := HX.out
                            go_wp2_with fail
                            refine HI.out.mono ?_
                            rintro e wi ⟨rfl, hw⟩
                            subst hw
                            go_wp2_with fail
                            refine (value_any g 0 cap AL2 _ _ HO.out.1 HO.out.2.1 HO.out.2.2.1 HO.out.2.2.2.1 HO.out.2.2.2.2 (by omega) (by omega)).mono ?_
                            rintro e wv ⟨rfl, hbv⟩
                            go_wp2_with fail
                            go_ret2
                            rw [HN.out]
                            dsimp only
                            rw [HT.out.1, HT.out.2]
                            refine ⟨?_, HBw.out.trans (hbv.mono HBw.out.size)⟩
                            first | rfl | (congr 4; omega) | (simp)
                    · have y1 : ((bD s K1 : Int) == 43) = false := by rw [beq_eq_false_iff_ne]; omega
                      by_cases q : bD s K1 = 45
                      · have hsg : sgAt s (I2 + 1) := by rw [← hK1]; exact ⟨d1, .inr q⟩
                        have hx45 : bD s (I2 + 1) = 45 := by rw [← hK1]; exact q
                        have y2 : ((bD s K1 : Int) == 45) = true := by rw [beq_iff_eq]; omega
                        clear hx2 p q
                        generalize hq : bD s K1 = x2 at hg2 y1 y2
                        clear hq
                        have HI2 := Lib.hid (isdig_any s K2 wr (by omega) (by omega))
                        have HE := Lib.hid he
                        have HSG := Lib.hid hsg
                        have HX45 := Lib.hid hx45
                        clear hx45
                        clear he hsg hK1 hK2
                        cases hdk : isD s K2 with
                        | false =>
                          rw [hdk] at HI2
                          have HT := Lib.hid (show (numTail s I2 x).1 = x ∧ (numTail s I2 x).2 = I2 by
                            have he := HE.out
                            have hsg := HSG.out
                            have hx45 := HX45.out
                            obtain ⟨hK1, hK2⟩ := HKK.out
                            subst hK2; subst hK1
                            unfold numTail
                            rw [if_pos he, if_pos hsg, if_neg (by rw [hdk]; decide)]
                            exact ⟨rfl, rfl⟩)
                          obtain ⟨xb1, xb2⟩ := HX.out
                          clear hdk
                          go_wp2_with fail
                          refine HI2.out.mono ?_
                          rintro e wi ⟨rfl, hw⟩
                          subst hw
                          go_wp2_with fail
                          refine (value_any g 0 cap AL2 _ _ HO.out.1 HO.out.2.1 HO.out.2.2.1 HO.out.2.2.2.1 HO.out.2.2.2.2 (by omega) (by omega)).mono ?_
                          rintro e wv ⟨rfl, hbv⟩
                          go_wp2_with fail
                          go_ret2
                          rw [HN.out]
                          dsimp only
                          rw [HT.out.1, HT.out.2]
                          refine ⟨?_, HBw.out.trans (hbv.mono HBw.out.size)⟩
                          first | rfl | (congr 4; omega) | (simp)
                        | true =>
                          rw [hdk] at HI2
                          have HT := Lib.hid (show (numTail s I2 x).1 = x + -(eN (seg s K2 (dE s K2)) : Int) ∧ (numTail s I2 x).2 = dE s K2 by
                            have he := HE.out
                            have hsg := HSG.out
                            have hx45 := HX45.out
                            obtain ⟨hK1, hK2⟩ := HKK.out
                            subst hK2; subst hK1
                            unfold numTail
                            rw [if_pos he, if_pos hsg, if_pos hdk, if_pos hx45]
                            exact ⟨rfl, rfl⟩)
                          have hKs : K2 ≤ s.size := by
                            have := of_decide_eq_true (show decide (K2 < s.size ∧ 48 ≤ bD s K2 ∧ bD s K2 ≤ 57) = true from hdk)
                            omega
                          have HKs := Lib.hid hKs
                          clear hdk hKs
                          go_wp2_with fail
                          refine HI2.out.mono ?_
                          rintro e wi ⟨rfl, hw⟩
                          subst hw
                          go_wp2_with fail
                          go_loopw [10, 12] (fun v10 v12 wz => ∃ k : Nat, v10 = .int .i64 (k : Int) ∧ v12 = .int .i64 (eN (seg s K2 k) : Int) ∧ K2 ≤ k ∧ k ≤ dE s K2 ∧ wr = wz) (fun v10 _ _ => s.size - (intOf v10).toNat)
                          case atStart => exact ⟨K2, rfl, by rw [seg_nil]; rfl, Nat.le_refl _, dE_ge _ _, rfl⟩
                          case round =>
                            obtain ⟨k, rfl, rfl, hk1, hk2, rfl⟩ := hrel
                            have hde := dE_le HKs.out
                            have hst := dE_step hk1 hk2 HKs.out
                            have hksz : k ≤ s.size := by omega
                            have k0 : (0 : Int) ≤ (k : Int) := by omega
                            have k1 : (k : Int) ≤ 1048576 := by omega
                            have HI := Lib.hid (isdig_any s k wr (by omega) (by omega))
                            have hen := eN_le (seg s K2 k)
                            have hen1 : (eN (seg s K2 k) : Int) ≤ 100000 := by omega
                            have hen0 : (0 : Int) ≤ (eN (seg s K2 k) : Int) := by omega
                            cases hb : isD s k with
                            | true =>
                              have hlt := hst.1 hb
                              have hks : k < s.size := by omega
                              have hg := bD_get s k hks
                              have hsg := seg_succ hk1 hks
                              have hdd := of_decide_eq_true (show decide (k < s.size ∧ 48 ≤ bD s k ∧ bD s k ≤ 57) = true from hb)
                              have hcb : (s.data.toList.getD k 0).toNat = bD s k := rfl
                              have hnew := eN_snoc (seg s K2 k) (s.data.toList.getD k 0)
                              rw [hcb, ← hsg] at hnew
                              have ks1 : (k : Int) < (s.size : Int) := by omega
                              rw [hb] at HI
                              generalize bD s k = x at *
                              obtain ⟨d, hd⟩ : ∃ d, d = x - 48 := ⟨_, rfl⟩
                              have x3 : ((x : Int) - 48) % 256 = (d : Int) := by omega
                              have x4 : (x : Int) - 48 = (d : Int) := by omega
                              have d9 : (d : Int) ≤ 9 := by omega
                              have d0 : (0 : Int) ≤ (d : Int) := by omega
                              rw [← hd] at hnew
                              generalize eN (seg s K2 k) = n at *
                              have hmn : min (10 * (n : Int) + (d : Int)) 100000 = ((min (10 * n + d) 100000 : Nat) : Int) := by omega
                              generalize min (10 * n + d) 100000 = mm at *
                              have HK := Lib.hid (And.intro hlt (And.intro hk1 (And.intro hnew hks)))
                              clear hst hk1 hk2 hksz hlt hsg hdd hcb hnew hb hde hd hen
                              go_wp2_with fail
                              refine HI.out.mono ?_
                              rintro e wi ⟨rfl, hw⟩
                              subst hw
                              go_wp2_with fail
                              go_roundw
                              case rel => exact ⟨k + 1, by go_num, by rw [HK.out.2.2.1], by have := HK.out.2.1; omega, HK.out.1, trivial⟩
                              case measure => have := HK.out.2.2.2; simp [intOf]; omega
                            | false =>
                              obtain rfl := hst.2 hb
                              rw [hb] at HI
                              generalize eN (seg s K2 (dE s K2)) = n at *
                              generalize dE s K2 = kk at *
                              clear hst hk1 hk2 hksz hb hde hen
                              obtain ⟨xb1, xb2⟩ := HX.out
                              go_wp2_with fail
                              refine HI.out.mono ?_
                              rintro e wi ⟨rfl, hw⟩
                              subst hw
                              go_wp2_with fail
                              refine (value_any g 0 cap AL2 _ _ HO.out.1 HO.out.2.1 HO.out.2.2.1 HO.out.2.2.2.1 HO.out.2.2.2.2 (by omega) (by omega)).mono ?_
                              rintro e wv ⟨rfl, hbv⟩
                              go_wp2_with fail
                              go_ret2
                              rw [HN.out]
                              dsimp only
                              rw [HT.out.1, HT.out.2]
                              refine ⟨?_, HBw.out.trans (hbv.mono HBw.out.size)⟩
                              first | rfl | (congr 4; omega) | (simp)
                      · have hsg : ¬ sgAt s (I2 + 1) := by
                          rw [← hK1]
                          rintro ⟨_, h⟩
                          rcases h with h | h
                          · exact p h
                          · exact q h
                        have y2 : ((bD s K1 : Int) == 45) = false := by rw [beq_eq_false_iff_ne]; omega
                        clear hx2 p q
                        generalize hq : bD s K1 = x2 at hg2 y1 y2
                        clear hq
                        have HI2 := Lib.hid (isdig_any s K1 wr (by omega) (by omega))
                        have HE := Lib.hid he
                        have HSG := Lib.hid hsg
                        clear he hsg hK1 hK2
                        cases hdk : isD s K1 with
                        | false =>
                          rw [hdk] at HI2
                          have HT := Lib.hid (show (numTail s I2 x).1 = x ∧ (numTail s I2 x).2 = I2 by
                            have he := HE.out
                            have hsg := HSG.out
                            obtain ⟨hK1, hK2⟩ := HKK.out
                            subst hK1
                            unfold numTail
                            rw [if_pos he, if_neg hsg, if_neg (by rw [hdk]; decide)]
                            exact ⟨rfl, rfl⟩)
                          obtain ⟨xb1, xb2⟩ := HX.out
                          clear hdk
                          go_wp2_with fail
                          refine HI2.out.mono ?_
                          rintro e wi ⟨rfl, hw⟩
                          subst hw
                          go_wp2_with fail
                          refine (value_any g 0 cap AL2 _ _ HO.out.1 HO.out.2.1 HO.out.2.2.1 HO.out.2.2.2.1 HO.out.2.2.2.2 (by omega) (by omega)).mono ?_
                          rintro e wv ⟨rfl, hbv⟩
                          go_wp2_with fail
                          go_ret2
                          rw [HN.out]
                          dsimp only
                          rw [HT.out.1, HT.out.2]
                          refine ⟨?_, HBw.out.trans (hbv.mono HBw.out.size)⟩
                          first | rfl | (congr 4; omega) | (simp)
                        | true =>
                          rw [hdk] at HI2
                          have HT := Lib.hid (show (numTail s I2 x).1 = x + (eN (seg s K1 (dE s K1)) : Int) ∧ (numTail s I2 x).2 = dE s K1 by
                            have he := HE.out
                            have hsg := HSG.out
                            obtain ⟨hK1, hK2⟩ := HKK.out
                            subst hK1
                            unfold numTail
                            rw [if_pos he, if_neg hsg, if_pos hdk]
                            exact ⟨rfl, rfl⟩)
                          have hKs : K1 ≤ s.size := by
                            have := of_decide_eq_true (show decide (K1 < s.size ∧ 48 ≤ bD s K1 ∧ bD s K1 ≤ 57) = true from hdk)
                            omega
                          have HKs := Lib.hid hKs
                          clear hdk hKs
                          go_wp2_with fail
                          refine HI2.out.mono ?_
                          rintro e wi ⟨rfl, hw⟩
                          subst hw
                          go_wp2_with fail
                          go_loopw [10, 12] (fun v10 v12 wz => ∃ k : Nat, v10 = .int .i64 (k : Int) ∧ v12 = .int .i64 (eN (seg s K1 k) : Int) ∧ K1 ≤ k ∧ k ≤ dE s K1 ∧ wr = wz) (fun v10 _ _ => s.size - (intOf v10).toNat)
                          case atStart => exact ⟨K1, rfl, by rw [seg_nil]; rfl, Nat.le_refl _, dE_ge _ _, rfl⟩
                          case round =>
                            obtain ⟨k, rfl, rfl, hk1, hk2, rfl⟩ := hrel
                            have hde := dE_le HKs.out
                            have hst := dE_step hk1 hk2 HKs.out
                            have hksz : k ≤ s.size := by omega
                            have k0 : (0 : Int) ≤ (k : Int) := by omega
                            have k1 : (k : Int) ≤ 1048576 := by omega
                            have HI := Lib.hid (isdig_any s k wr (by omega) (by omega))
                            have hen := eN_le (seg s K1 k)
                            have hen1 : (eN (seg s K1 k) : Int) ≤ 100000 := by omega
                            have hen0 : (0 : Int) ≤ (eN (seg s K1 k) : Int) := by omega
                            cases hb : isD s k with
                            | true =>
                              have hlt := hst.1 hb
                              have hks : k < s.size := by omega
                              have hg := bD_get s k hks
                              have hsg := seg_succ hk1 hks
                              have hdd := of_decide_eq_true (show decide (k < s.size ∧ 48 ≤ bD s k ∧ bD s k ≤ 57) = true from hb)
                              have hcb : (s.data.toList.getD k 0).toNat = bD s k := rfl
                              have hnew := eN_snoc (seg s K1 k) (s.data.toList.getD k 0)
                              rw [hcb, ← hsg] at hnew
                              have ks1 : (k : Int) < (s.size : Int) := by omega
                              rw [hb] at HI
                              generalize bD s k = x at *
                              obtain ⟨d, hd⟩ : ∃ d, d = x - 48 := ⟨_, rfl⟩
                              have x3 : ((x : Int) - 48) % 256 = (d : Int) := by omega
                              have x4 : (x : Int) - 48 = (d : Int) := by omega
                              have d9 : (d : Int) ≤ 9 := by omega
                              have d0 : (0 : Int) ≤ (d : Int) := by omega
                              rw [← hd] at hnew
                              generalize eN (seg s K1 k) = n at *
                              have hmn : min (10 * (n : Int) + (d : Int)) 100000 = ((min (10 * n + d) 100000 : Nat) : Int) := by omega
                              generalize min (10 * n + d) 100000 = mm at *
                              have HK := Lib.hid (And.intro hlt (And.intro hk1 (And.intro hnew hks)))
                              clear hst hk1 hk2 hksz hlt hsg hdd hcb hnew hb hde hd hen
                              go_wp2_with fail
                              refine HI.out.mono ?_
                              rintro e wi ⟨rfl, hw⟩
                              subst hw
                              go_wp2_with fail
                              go_roundw
                              case rel => exact ⟨k + 1, by go_num, by rw [HK.out.2.2.1], by have := HK.out.2.1; omega, HK.out.1, trivial⟩
                              case measure => have := HK.out.2.2.2; simp [intOf]; omega
                            | false =>
                              obtain rfl := hst.2 hb
                              rw [hb] at HI
                              generalize eN (seg s K1 (dE s K1)) = n at *
                              generalize dE s K1 = kk at *
                              clear hst hk1 hk2 hksz hb hde hen
                              obtain ⟨xb1, xb2⟩ := HX.out
                              go_wp2_with fail
                              refine HI.out.mono ?_
                              rintro e wi ⟨rfl, hw⟩
                              subst hw
                              go_wp2_with fail
                              refine (value_any g 0 cap AL2 _ _ HO.out.1 HO.out.2.1 HO.out.2.2.1 HO.out.2.2.2.1 HO.out.2.2.2.2 (by omega) (by omega)).mono ?_
                              rintro e wv ⟨rfl, hbv⟩
                              go_wp2_with fail
                              go_ret2
                              rw [HN.out]
                              dsimp only
                              rw [HT.out.1, HT.out.2]
                              refine ⟨?_, HBw.out.trans (hbv.mono HBw.out.size)⟩
                              first | rfl | (congr 4; omega) | (simp)
                  · have d1i : ¬ (K1 : Int) < (s.size : Int) := by omega
                    have hsg : ¬ sgAt s (I2 + 1) := by rw [← hK1]; exact fun h => d1 h.1
                    have HI2 := Lib.hid (isdig_any s K1 wr (by omega) (by omega))
                    have HE := Lib.hid he
                    have HSG := Lib.hid hsg
                    clear he hsg hK1 hK2
                    cases hdk : isD s K1 with
                    | false =>
                      rw [hdk] at HI2
                      have HT := Lib.hid (show (numTail s I2 x).1 = x ∧ (numTail s I2 x).2 = I2 by
                        have he := HE.out
                        have hsg := HSG.out
                        obtain ⟨hK1, hK2⟩ := HKK.out
                        subst hK1
                        unfold numTail
                        rw [if_pos he, if_neg hsg, if_neg (by rw [hdk]; decide)]
                        exact ⟨rfl, rfl⟩)
                      obtain ⟨xb1, xb2⟩ := HX.out
                      clear hdk
                      go_wp2_with fail
                      refine HI2.out.mono ?_
                      rintro e wi ⟨rfl, hw⟩
                      subst hw
                      go_wp2_with fail
                      refine (value_any g 0 cap AL2 _ _ HO.out.1 HO.out.2.1 HO.out.2.2.1 HO.out.2.2.2.1 HO.out.2.2.2.2 (by omega) (by omega)).mono ?_
                      rintro e wv ⟨rfl, hbv⟩
                      go_wp2_with fail
                      go_ret2
                      rw [HN.out]
                      dsimp only
                      rw [HT.out.1, HT.out.2]
                      refine ⟨?_, HBw.out.trans (hbv.mono HBw.out.size)⟩
                      first | rfl | (congr 4; omega) | (simp)
                    | true =>
                      rw [hdk] at HI2
                      have HT := Lib.hid (show (numTail s I2 x).1 = x + (eN (seg s K1 (dE s K1)) : Int) ∧ (numTail s I2 x).2 = dE s K1 by
                        have he := HE.out
                        have hsg := HSG.out
                        obtain ⟨hK1, hK2⟩ := HKK.out
                        subst hK1
                        unfold numTail
                        rw [if_pos he, if_neg hsg, if_pos hdk]
                        exact ⟨rfl, rfl⟩)
                      have hKs : K1 ≤ s.size := by
                        have := of_decide_eq_true (show decide (K1 < s.size ∧ 48 ≤ bD s K1 ∧ bD s K1 ≤ 57) = true from hdk)
                        omega
                      have HKs := Lib.hid hKs
                      clear hdk hKs
                      go_wp2_with fail
                      refine HI2.out.mono ?_
                      rintro e wi ⟨rfl, hw⟩
                      subst hw
                      go_wp2_with fail
                      go_loopw [10, 12] (fun v10 v12 wz => ∃ k : Nat, v10 = .int .i64 (k : Int) ∧ v12 = .int .i64 (eN (seg s K1 k) : Int) ∧ K1 ≤ k ∧ k ≤ dE s K1 ∧ wr = wz) (fun v10 _ _ => s.size - (intOf v10).toNat)
                      case atStart => exact ⟨K1, rfl, by rw [seg_nil]; rfl, Nat.le_refl _, dE_ge _ _, rfl⟩
                      case round =>
                        obtain ⟨k, rfl, rfl, hk1, hk2, rfl⟩ := hrel
                        have hde := dE_le HKs.out
                        have hst := dE_step hk1 hk2 HKs.out
                        have hksz : k ≤ s.size := by omega
                        have k0 : (0 : Int) ≤ (k : Int) := by omega
                        have k1 : (k : Int) ≤ 1048576 := by omega
                        have HI := Lib.hid (isdig_any s k wr (by omega) (by omega))
                        have hen := eN_le (seg s K1 k)
                        have hen1 : (eN (seg s K1 k) : Int) ≤ 100000 := by omega
                        have hen0 : (0 : Int) ≤ (eN (seg s K1 k) : Int) := by omega
                        cases hb : isD s k with
                        | true =>
                          have hlt := hst.1 hb
                          have hks : k < s.size := by omega
                          have hg := bD_get s k hks
                          have hsg := seg_succ hk1 hks
                          have hdd := of_decide_eq_true (show decide (k < s.size ∧ 48 ≤ bD s k ∧ bD s k ≤ 57) = true from hb)
                          have hcb : (s.data.toList.getD k 0).toNat = bD s k := rfl
                          have hnew := eN_snoc (seg s K1 k) (s.data.toList.getD k 0)
                          rw [hcb, ← hsg] at hnew
                          have ks1 : (k : Int) < (s.size : Int) := by omega
                          rw [hb] at HI
                          generalize bD s k = x at *
                          obtain ⟨d, hd⟩ : ∃ d, d = x - 48 := ⟨_, rfl⟩
                          have x3 : ((x : Int) - 48) % 256 = (d : Int) := by omega
                          have x4 : (x : Int) - 48 = (d : Int) := by omega
                          have d9 : (d : Int) ≤ 9 := by omega
                          have d0 : (0 : Int) ≤ (d : Int) := by omega
                          rw [← hd] at hnew
                          generalize eN (seg s K1 k) = n at *
                          have hmn : min (10 * (n : Int) + (d : Int)) 100000 = ((min (10 * n + d) 100000 : Nat) : Int) := by omega
                          generalize min (10 * n + d) 100000 = mm at *
                          have HK := Lib.hid (And.intro hlt (And.intro hk1 (And.intro hnew hks)))
                          clear hst hk1 hk2 hksz hlt hsg hdd hcb hnew hb hde hd hen
                          go_wp2_with fail
                          refine HI.out.mono ?_
                          rintro e wi ⟨rfl, hw⟩
                          subst hw
                          go_wp2_with fail
                          go_roundw
                          case rel => exact ⟨k + 1, by go_num, by rw [HK.out.2.2.1], by have := HK.out.2.1; omega, HK.out.1, trivial⟩
                          case measure => have := HK.out.2.2.2; simp [intOf]; omega
                        | false =>
                          obtain rfl := hst.2 hb
                          rw [hb] at HI
                          generalize eN (seg s K1 (dE s K1)) = n at *
                          generalize dE s K1 = kk at *
                          clear hst hk1 hk2 hksz hb hde hen
                          obtain ⟨xb1, xb2⟩ := HX.out
                          go_wp2_with fail
                          refine HI.out.mono ?_
                          rintro e wi ⟨rfl, hw⟩
                          subst hw
                          go_wp2_with fail
                          refine (value_any g 0 cap AL2 _ _ HO.out.1 HO.out.2.1 HO.out.2.2.1 HO.out.2.2.2.1 HO.out.2.2.2.2 (by omega) (by omega)).mono ?_
                          rintro e wv ⟨rfl, hbv⟩
                          go_wp2_with fail
                          go_ret2
                          rw [HN.out]
                          dsimp only
                          rw [HT.out.1, HT.out.2]
                          refine ⟨?_, HBw.out.trans (hbv.mono HBw.out.size)⟩
                          first | rfl | (congr 4; omega) | (simp)
                · have z1 : ((bD s I2 : Int) == 101) = false := by rw [beq_eq_false_iff_ne]; omega
                  by_cases c3 : bD s I2 = 69
                  · have he : I2 < s.size ∧ (bD s I2 = 101 ∨ bD s I2 = 69) := ⟨cc, .inr c3⟩
                    have z2 : ((bD s I2 : Int) == 69) = true := by rw [beq_iff_eq]; omega
                    clear c2 c3
                    have hK1 : K1 = I2 + 1 := HKK.out.1
                    have hK2 : K2 = K1 + 1 := HKK.out.2
                    have kI : (I2 : Int) + 1 = (K1 : Int) := by omega
                    have kI2 : (K1 : Int) + 1 = (K2 : Int) := by omega
                    have K10 : (0 : Int) ≤ (K1 : Int) := by omega
                    have K11 : (K1 : Int) ≤ 1048577 := by omega
                    have K21 : (K2 : Int) ≤ 1048578 := by omega
                    by_cases d1 : K1 < s.size
                    · have d1i : (K1 : Int) < (s.size : Int) := by omega
                      have hg2 := bD_get s K1 d1
                      have hx2 : bD s K1 = bD s K1 := rfl
                      by_cases p : bD s K1 = 43
                      · have hsg : sgAt s (I2 + 1) := by rw [← hK1]; exact ⟨d1, .inl p⟩
                        have hx45 : bD s (I2 + 1) = 43 := by rw [← hK1]; exact p
                        have y1 : ((bD s K1 : Int) == 43) = true := by rw [beq_iff_eq]; omega
                        have y2 : ((bD s K1 : Int) == 45) = false := by rw [beq_eq_false_iff_ne]; omega
                        clear hx2 p
                        generalize hq : bD s K1 = x2 at hg2 y1 y2
                        clear hq
                        have HI2 := Lib.hid (isdig_any s K2 wr (by omega) (by omega))
                        have HE := Lib.hid he
                        have HSG := Lib.hid hsg
                        have HX45 := Lib.hid hx45
                        clear hx45
                        clear he hsg hK1 hK2
                        cases hdk : isD s K2 with
                        | false =>
                          rw [hdk] at HI2
                          have HT := Lib.hid (show (numTail s I2 x).1 = x ∧ (numTail s I2 x).2 = I2 by
                            have he := HE.out
                            have hsg := HSG.out
                            have hx45 := HX45.out
                            obtain ⟨hK1, hK2⟩ := HKK.out
                            subst hK2; subst hK1
                            unfold numTail
                            rw [if_pos he, if_pos hsg, if_neg (by rw [hdk]; decide)]
                            exact ⟨rfl, rfl⟩)
                          obtain ⟨xb1, xb2⟩ := HX.out
                          clear hdk
                          go_wp2_with fail
                          refine HI2.out.mono ?_
                          rintro e wi ⟨rfl, hw⟩
                          subst hw
                          go_wp2_with fail
                          refine (value_any g 0 cap AL2 _ _ HO.out.1 HO.out.2.1 HO.out.2.2.1 HO.out.2.2.2.1 HO.out.2.2.2.2 (by omega) (by omega)).mono ?_
                          rintro e wv ⟨rfl, hbv⟩
                          go_wp2_with fail
                          go_ret2
                          rw [HN.out]
                          dsimp only
                          rw [HT.out.1, HT.out.2]
                          refine ⟨?_, HBw.out.trans (hbv.mono HBw.out.size)⟩
                          first | rfl | (congr 4; omega) | (simp)
                        | true =>
                          rw [hdk] at HI2
                          have HT := Lib.hid (show (numTail s I2 x).1 = x + (eN (seg s K2 (dE s K2)) : Int) ∧ (numTail s I2 x).2 = dE s K2 by
                            have he := HE.out
                            have hsg := HSG.out
                            have hx45 := HX45.out
                            obtain ⟨hK1, hK2⟩ := HKK.out
                            subst hK2; subst hK1
                            unfold numTail
                            rw [if_pos he, if_pos hsg, if_pos hdk, if_neg (by intro q; rw [q] at hx45; omega)]
                            exact ⟨rfl, rfl⟩)
                          have hKs : K2 ≤ s.size := by
                            have := of_decide_eq_true (show decide (K2 < s.size ∧ 48 ≤ bD s K2 ∧ bD s K2 ≤ 57) = true from hdk)
                            omega
                          have HKs := Lib.hid hKs
                          clear hdk hKs
                          go_wp2_with fail
                          refine HI2.out.mono ?_
                          rintro e wi ⟨rfl, hw⟩
                          subst hw
                          go_wp2_with fail
                          go_loopw [10, 12] (fun v10 v12 wz => ∃ k : Nat, v10 = .int .i64 (k : Int) ∧ v12 = .int .i64 (eN (seg s K2 k) : Int) ∧ K2 ≤ k ∧ k ≤ dE s K2 ∧ wr = wz) (fun v10 _ _ => s.size - (intOf v10).toNat)
                          case atStart => exact ⟨K2, rfl, by rw [seg_nil]; rfl, Nat.le_refl _, dE_ge _ _, rfl⟩
                          case round =>
                            obtain ⟨k, rfl, rfl, hk1, hk2, rfl⟩ := hrel
                            have hde := dE_le HKs.out
                            have hst := dE_step hk1 hk2 HKs.out
                            have hksz : k ≤ s.size := by omega
                            have k0 : (0 : Int) ≤ (k : Int) := by omega
                            have k1 : (k : Int) ≤ 1048576 := by omega
                            have HI := Lib.hid (isdig_any s k wr (by omega) (by omega))
                            have hen := eN_le (seg s K2 k)
                            have hen1 : (eN (seg s K2 k) : Int) ≤ 100000 := by omega
                            have hen0 : (0 : Int) ≤ (eN (seg s K2 k) : Int) := by omega
                            cases hb : isD s k with
                            | true =>
                              have hlt := hst.1 hb
                              have hks : k < s.size := by omega
                              have hg := bD_get s k hks
                              have hsg := seg_succ hk1 hks
                              have hdd := of_decide_eq_true (show decide (k < s.size ∧ 48 ≤ bD s k ∧ bD s k ≤ 57) = true from hb)
                              have hcb : (s.data.toList.getD k 0).toNat = bD s k := rfl
                              have hnew := eN_snoc (seg s K2 k) (s.data.toList.getD k 0)
                              rw [hcb, ← hsg] at hnew
                              have ks1 : (k : Int) < (s.size : Int) := by omega
                              rw [hb] at HI
                              generalize bD s k = x at *
                              obtain ⟨d, hd⟩ : ∃ d, d = x - 48 := ⟨_, rfl⟩
                              have x3 : ((x : Int) - 48) % 256 = (d : Int) := by omega
                              have x4 : (x : Int) - 48 = (d : Int) := by omega
                              have d9 : (d : Int) ≤ 9 := by omega
                              have d0 : (0 : Int) ≤ (d : Int) := by omega
                              rw [← hd] at hnew
                              generalize eN (seg s K2 k) = n at *
                              have hmn : min (10 * (n : Int) + (d : Int)) 100000 = ((min (10 * n + d) 100000 : Nat) : Int) := by omega
                              generalize min (10 * n + d) 100000 = mm at *
                              have HK := Lib.hid (And.intro hlt (And.intro hk1 (And.intro hnew hks)))
                              clear hst hk1 hk2 hksz hlt hsg hdd hcb hnew hb hde hd hen
                              go_wp2_with fail
                              refine HI.out.mono ?_
                              rintro e wi ⟨rfl, hw⟩
                              subst hw
                              go_wp2_with fail
                              go_roundw
                              case rel => exact ⟨k + 1, by go_num, by rw [HK.out.2.2.1], by have := HK.out.2.1; omega, HK.out.1, trivial⟩
                              case measure => have := HK.out.2.2.2; simp [intOf]; omega
                            | false =>
                              obtain rfl := hst.2 hb
                              rw [hb] at HI
                              generalize eN (seg s K2 (dE s K2)) = n at *
                              generalize dE s K2 = kk at *
                              clear hst hk1 hk2 hksz hb hde hen
                              obtain ⟨xb1, xb2⟩ := HX.out
                              go_wp2_with fail
                              refine HI.out.mono ?_
                              rintro e wi ⟨rfl, hw⟩
                              subst hw
                              go_wp2_with fail
                              refine (value_any g 0 cap AL2 _ _ HO.out.1 HO.out.2.1 HO.out.2.2.1 HO.out.2.2.2.1 HO.out.2.2.2.2 (by omega) (by omega)).mono ?_
                              rintro e wv ⟨rfl, hbv⟩
                              go_wp2_with fail
                              go_ret2
                              rw [HN.out]
                              dsimp only
                              rw [HT.out.1, HT.out.2]
                              refine ⟨?_, HBw.out.trans (hbv.mono HBw.out.size)⟩
                              first | rfl | (congr 4; omega) | (simp)
                      · have y1 : ((bD s K1 : Int) == 43) = false := by rw [beq_eq_false_iff_ne]; omega
                        by_cases q : bD s K1 = 45
                        · have hsg : sgAt s (I2 + 1) := by rw [← hK1]; exact ⟨d1, .inr q⟩
                          have hx45 : bD s (I2 + 1) = 45 := by rw [← hK1]; exact q
                          have y2 : ((bD s K1 : Int) == 45) = true := by rw [beq_iff_eq]; omega
                          clear hx2 p q
                          generalize hq : bD s K1 = x2 at hg2 y1 y2
                          clear hq
                          have HI2 := Lib.hid (isdig_any s K2 wr (by omega) (by omega))
                          have HE := Lib.hid he
                          have HSG := Lib.hid hsg
                          have HX45 := Lib.hid hx45
                          clear hx45
                          clear he hsg hK1 hK2
                          cases hdk : isD s K2 with
                          | false =>
                            rw [hdk] at HI2
                            have HT := Lib.hid (show (numTail s I2 x).1 = x ∧ (numTail s I2 x).2 = I2 by
                              have he := HE.out
                              have hsg := HSG.out
                              have hx45 := HX45.out
                              obtain ⟨hK1, hK2⟩ := HKK.out
                              subst hK2; subst hK1
                              unfold numTail
                              rw [if_pos he, if_pos hsg, if_neg (by rw [hdk]; decide)]
                              exact ⟨rfl, rfl⟩)
                            obtain ⟨xb1, xb2⟩ := HX.out
                            clear hdk
                            go_wp2_with fail
                            refine HI2.out.mono ?_
                            rintro e wi ⟨rfl, hw⟩
                            subst hw
                            go_wp2_with fail
                            refine (value_any g 0 cap AL2 _ _ HO.out.1 HO.out.2.1 HO.out.2.2.1 HO.out.2.2.2.1 HO.out.2.2.2.2 (by omega) (by omega)).mono ?_
                            rintro e wv ⟨rfl, hbv⟩
                            go_wp2_with fail
                            go_ret2
                            rw [HN.out]
                            dsimp only
                            rw [HT.out.1, HT.out.2]
                            refine ⟨?_, HBw.out.trans (hbv.mono HBw.out.size)⟩
                            first | rfl | (congr 4; omega) | (simp)
                          | true =>
                            rw [hdk] at HI2
                            have HT := Lib.hid (show (numTail s I2 x).1 = x + -(eN (seg s K2 (dE s K2)) : Int) ∧ (numTail s I2 x).2 = dE s K2 by
                              have he := HE.out
                              have hsg := HSG.out
                              have hx45 := HX45.out
                              obtain ⟨hK1, hK2⟩ := HKK.out
                              subst hK2; subst hK1
                              unfold numTail
                              rw [if_pos he, if_pos hsg, if_pos hdk, if_pos hx45]
                              exact ⟨rfl, rfl⟩)
                            have hKs : K2 ≤ s.size := by
                              have := of_decide_eq_true (show decide (K2 < s.size ∧ 48 ≤ bD s K2 ∧ bD s K2 ≤ 57) = true from hdk)
                              omega
                            have HKs := Lib.hid hKs
                            clear hdk hKs
                            go_wp2_with fail
                            refine HI2.out.mono ?_
                            rintro e wi ⟨rfl, hw⟩
                            subst hw
                            go_wp2_with fail
                            go_loopw [10, 12] (fun v10 v12 wz => ∃ k : Nat, v10 = .int .i64 (k : Int) ∧ v12 = .int .i64 (eN (seg s K2 k) : Int) ∧ K2 ≤ k ∧ k ≤ dE s K2 ∧ wr = wz) (fun v10 _ _ => s.size - (intOf v10).toNat)
                            case atStart => exact ⟨K2, rfl, by rw [seg_nil]; rfl, Nat.le_refl _, dE_ge _ _, rfl⟩
                            case round =>
                              obtain ⟨k, rfl, rfl, hk1, hk2, rfl⟩ := hrel
                              have hde := dE_le HKs.out
                              have hst := dE_step hk1 hk2 HKs.out
                              have hksz : k ≤ s.size := by omega
                              have k0 : (0 : Int) ≤ (k : Int) := by omega
                              have k1 : (k : Int) ≤ 1048576 := by omega
                              have HI := Lib.hid (isdig_any s k wr (by omega) (by omega))
                              have hen := eN_le (seg s K2 k)
                              have hen1 : (eN (seg s K2 k) : Int) ≤ 100000 := by omega
                              have hen0 : (0 : Int) ≤ (eN (seg s K2 k) : Int) := by omega
                              cases hb : isD s k with
                              | true =>
                                have hlt := hst.1 hb
                                have hks : k < s.size := by omega
                                have hg := bD_get s k hks
                                have hsg := seg_succ hk1 hks
                                have hdd := of_decide_eq_true (show decide (k < s.size ∧ 48 ≤ bD s k ∧ bD s k ≤ 57) = true from hb)
                                have hcb : (s.data.toList.getD k 0).toNat = bD s k := rfl
                                have hnew := eN_snoc (seg s K2 k) (s.data.toList.getD k 0)
                                rw [hcb, ← hsg] at hnew
                                have ks1 : (k : Int) < (s.size : Int) := by omega
                                rw [hb] at HI
                                generalize bD s k = x at *
                                obtain ⟨d, hd⟩ : ∃ d, d = x - 48 := ⟨_, rfl⟩
                                have x3 : ((x : Int) - 48) % 256 = (d : Int) := by omega
                                have x4 : (x : Int) - 48 = (d : Int) := by omega
                                have d9 : (d : Int) ≤ 9 := by omega
                                have d0 : (0 : Int) ≤ (d : Int) := by omega
                                rw [← hd] at hnew
                                generalize eN (seg s K2 k) = n at *
                                have hmn : min (10 * (n : Int) + (d : Int)) 100000 = ((min (10 * n + d) 100000 : Nat) : Int) := by omega
                                generalize min (10 * n + d) 100000 = mm at *
                                have HK := Lib.hid (And.intro hlt (And.intro hk1 (And.intro hnew hks)))
                                clear hst hk1 hk2 hksz hlt hsg hdd hcb hnew hb hde hd hen
                                go_wp2_with fail
                                refine HI.out.mono ?_
                                rintro e wi ⟨rfl, hw⟩
                                subst hw
                                go_wp2_with fail
                                go_roundw
                                case rel => exact ⟨k + 1, by go_num, by rw [HK.out.2.2.1], by have := HK.out.2.1; omega, HK.out.1, trivial⟩
                                case measure => have := HK.out.2.2.2; simp [intOf]; omega
                              | false =>
                                obtain rfl := hst.2 hb
                                rw [hb] at HI
                                generalize eN (seg s K2 (dE s K2)) = n at *
                                generalize dE s K2 = kk at *
                                clear hst hk1 hk2 hksz hb hde hen
                                obtain ⟨xb1, xb2⟩ := HX.out
                                go_wp2_with fail
                                refine HI.out.mono ?_
                                rintro e wi ⟨rfl, hw⟩
                                subst hw
                                go_wp2_with fail
                                refine (value_any g 0 cap AL2 _ _ HO.out.1 HO.out.2.1 HO.out.2.2.1 HO.out.2.2.2.1 HO.out.2.2.2.2 (by omega) (by omega)).mono ?_
                                rintro e wv ⟨rfl, hbv⟩
                                go_wp2_with fail
                                go_ret2
                                rw [HN.out]
                                dsimp only
                                rw [HT.out.1, HT.out.2]
                                refine ⟨?_, HBw.out.trans (hbv.mono HBw.out.size)⟩
                                first | rfl | (congr 4; omega) | (simp)
                        · have hsg : ¬ sgAt s (I2 + 1) := by
                            rw [← hK1]
                            rintro ⟨_, h⟩
                            rcases h with h | h
                            · exact p h
                            · exact q h
                          have y2 : ((bD s K1 : Int) == 45) = false := by rw [beq_eq_false_iff_ne]; omega
                          clear hx2 p q
                          generalize hq : bD s K1 = x2 at hg2 y1 y2
                          clear hq
                          have HI2 := Lib.hid (isdig_any s K1 wr (by omega) (by omega))
                          have HE := Lib.hid he
                          have HSG := Lib.hid hsg
                          clear he hsg hK1 hK2
                          cases hdk : isD s K1 with
                          | false =>
                            rw [hdk] at HI2
                            have HT := Lib.hid (show (numTail s I2 x).1 = x ∧ (numTail s I2 x).2 = I2 by
                              have he := HE.out
                              have hsg := HSG.out
                              obtain ⟨hK1, hK2⟩ := HKK.out
                              subst hK1
                              unfold numTail
                              rw [if_pos he, if_neg hsg, if_neg (by rw [hdk]; decide)]
                              exact ⟨rfl, rfl⟩)
                            obtain ⟨xb1, xb2⟩ := HX.out
                            clear hdk
                            go_wp2_with fail
                            refine HI2.out.mono ?_
                            rintro e wi ⟨rfl, hw⟩
                            subst hw
                            go_wp2_with fail
                            refine (value_any g 0 cap AL2 _ _ HO.out.1 HO.out.2.1 HO.out.2.2.1 HO.out.2.2.2.1 HO.out.2.2.2.2 (by omega) (by omega)).mono ?_
                            rintro e wv ⟨rfl, hbv⟩
                            go_wp2_with fail
                            go_ret2
                            rw [HN.out]
                            dsimp only
                            rw [HT.out.1, HT.out.2]
                            refine ⟨?_, HBw.out.trans (hbv.mono HBw.out.size)⟩
                            first | rfl | (congr 4; omega) | (simp)
                          | true =>
                            rw [hdk] at HI2
                            have HT := Lib.hid (show (numTail s I2 x).1 = x + (eN (seg s K1 (dE s K1)) : Int) ∧ (numTail s I2 x).2 = dE s K1 by
                              have he := HE.out
                              have hsg := HSG.out
                              obtain ⟨hK1, hK2⟩ := HKK.out
                              subst hK1
                              unfold numTail
                              rw [if_pos he, if_neg hsg, if_pos hdk]
                              exact ⟨rfl, rfl⟩)
                            have hKs : K1 ≤ s.size := by
                              have := of_decide_eq_true (show decide (K1 < s.size ∧ 48 ≤ bD s K1 ∧ bD s K1 ≤ 57) = true from hdk)
                              omega
                            have HKs := Lib.hid hKs
                            clear hdk hKs
                            go_wp2_with fail
                            refine HI2.out.mono ?_
                            rintro e wi ⟨rfl, hw⟩
                            subst hw
                            go_wp2_with fail
                            go_loopw [10, 12] (fun v10 v12 wz => ∃ k : Nat, v10 = .int .i64 (k : Int) ∧ v12 = .int .i64 (eN (seg s K1 k) : Int) ∧ K1 ≤ k ∧ k ≤ dE s K1 ∧ wr = wz) (fun v10 _ _ => s.size - (intOf v10).toNat)
                            case atStart => exact ⟨K1, rfl, by rw [seg_nil]; rfl, Nat.le_refl _, dE_ge _ _, rfl⟩
                            case round =>
                              obtain ⟨k, rfl, rfl, hk1, hk2, rfl⟩ := hrel
                              have hde := dE_le HKs.out
                              have hst := dE_step hk1 hk2 HKs.out
                              have hksz : k ≤ s.size := by omega
                              have k0 : (0 : Int) ≤ (k : Int) := by omega
                              have k1 : (k : Int) ≤ 1048576 := by omega
                              have HI := Lib.hid (isdig_any s k wr (by omega) (by omega))
                              have hen := eN_le (seg s K1 k)
                              have hen1 : (eN (seg s K1 k) : Int) ≤ 100000 := by omega
                              have hen0 : (0 : Int) ≤ (eN (seg s K1 k) : Int) := by omega
                              cases hb : isD s k with
                              | true =>
                                have hlt := hst.1 hb
                                have hks : k < s.size := by omega
                                have hg := bD_get s k hks
                                have hsg := seg_succ hk1 hks
                                have hdd := of_decide_eq_true (show decide (k < s.size ∧ 48 ≤ bD s k ∧ bD s k ≤ 57) = true from hb)
                                have hcb : (s.data.toList.getD k 0).toNat = bD s k := rfl
                                have hnew := eN_snoc (seg s K1 k) (s.data.toList.getD k 0)
                                rw [hcb, ← hsg] at hnew
                                have ks1 : (k : Int) < (s.size : Int) := by omega
                                rw [hb] at HI
                                generalize bD s k = x at *
                                obtain ⟨d, hd⟩ : ∃ d, d = x - 48 := ⟨_, rfl⟩
                                have x3 : ((x : Int) - 48) % 256 = (d : Int) := by omega
                                have x4 : (x : Int) - 48 = (d : Int) := by omega
                                have d9 : (d : Int) ≤ 9 := by omega
                                have d0 : (0 : Int) ≤ (d : Int) := by omega
                                rw [← hd] at hnew
                                generalize eN (seg s K1 k) = n at *
                                have hmn : min (10 * (n : Int) + (d : Int)) 100000 = ((min (10 * n + d) 100000 : Nat) : Int) := by omega
                                generalize min (10 * n + d) 100000 = mm at *
                                have HK := Lib.hid (And.intro hlt (And.intro hk1 (And.intro hnew hks)))
                                clear hst hk1 hk2 hksz hlt hsg hdd hcb hnew hb hde hd hen
                                go_wp2_with fail
                                refine HI.out.mono ?_
                                rintro e wi ⟨rfl, hw⟩
                                subst hw
                                go_wp2_with fail
                                go_roundw
                                case rel => exact ⟨k + 1, by go_num, by rw [HK.out.2.2.1], by have := HK.out.2.1; omega, HK.out.1, trivial⟩
                                case measure => have := HK.out.2.2.2; simp [intOf]; omega
                              | false =>
                                obtain rfl := hst.2 hb
                                rw [hb] at HI
                                generalize eN (seg s K1 (dE s K1)) = n at *
                                generalize dE s K1 = kk at *
                                clear hst hk1 hk2 hksz hb hde hen
                                obtain ⟨xb1, xb2⟩ := HX.out
                                go_wp2_with fail
                                refine HI.out.mono ?_
                                rintro e wi ⟨rfl, hw⟩
                                subst hw
                                go_wp2_with fail
                                refine (value_any g 0 cap AL2 _ _ HO.out.1 HO.out.2.1 HO.out.2.2.1 HO.out.2.2.2.1 HO.out.2.2.2.2 (by omega) (by omega)).mono ?_
                                rintro e wv ⟨rfl, hbv⟩
                                go_wp2_with fail
                                go_ret2
                                rw [HN.out]
                                dsimp only
                                rw [HT.out.1, HT.out.2]
                                refine ⟨?_, HBw.out.trans (hbv.mono HBw.out.size)⟩
                                first | rfl | (congr 4; omega) | (simp)
                    · have d1i : ¬ (K1 : Int) < (s.size : Int) := by omega
                      have hsg : ¬ sgAt s (I2 + 1) := by rw [← hK1]; exact fun h => d1 h.1
                      have HI2 := Lib.hid (isdig_any s K1 wr (by omega) (by omega))
                      have HE := Lib.hid he
                      have HSG := Lib.hid hsg
                      clear he hsg hK1 hK2
                      cases hdk : isD s K1 with
                      | false =>
                        rw [hdk] at HI2
                        have HT := Lib.hid (show (numTail s I2 x).1 = x ∧ (numTail s I2 x).2 = I2 by
                          have he := HE.out
                          have hsg := HSG.out
                          obtain ⟨hK1, hK2⟩ := HKK.out
                          subst hK1
                          unfold numTail
                          rw [if_pos he, if_neg hsg, if_neg (by rw [hdk]; decide)]
                          exact ⟨rfl, rfl⟩)
                        obtain ⟨xb1, xb2⟩ := HX.out
                        clear hdk
                        go_wp2_with fail
                        refine HI2.out.mono ?_
                        rintro e wi ⟨rfl, hw⟩
                        subst hw
                        go_wp2_with fail
                        refine (value_any g 0 cap AL2 _ _ HO.out.1 HO.out.2.1 HO.out.2.2.1 HO.out.2.2.2.1 HO.out.2.2.2.2 (by omega) (by omega)).mono ?_
                        rintro e wv ⟨rfl, hbv⟩
                        go_wp2_with fail
                        go_ret2
                        rw [HN.out]
                        dsimp only
                        rw [HT.out.1, HT.out.2]
                        refine ⟨?_, HBw.out.trans (hbv.mono HBw.out.size)⟩
                        first | rfl | (congr 4; omega) | (simp)
                      | true =>
                        rw [hdk] at HI2
                        have HT := Lib.hid (show (numTail s I2 x).1 = x + (eN (seg s K1 (dE s K1)) : Int) ∧ (numTail s I2 x).2 = dE s K1 by
                          have he := HE.out
                          have hsg := HSG.out
                          obtain ⟨hK1, hK2⟩ := HKK.out
                          subst hK1
                          unfold numTail
                          rw [if_pos he, if_neg hsg, if_pos hdk]
                          exact ⟨rfl, rfl⟩)
                        have hKs : K1 ≤ s.size := by
                          have := of_decide_eq_true (show decide (K1 < s.size ∧ 48 ≤ bD s K1 ∧ bD s K1 ≤ 57) = true from hdk)
                          omega
                        have HKs := Lib.hid hKs
                        clear hdk hKs
                        go_wp2_with fail
                        refine HI2.out.mono ?_
                        rintro e wi ⟨rfl, hw⟩
                        subst hw
                        go_wp2_with fail
                        go_loopw [10, 12] (fun v10 v12 wz => ∃ k : Nat, v10 = .int .i64 (k : Int) ∧ v12 = .int .i64 (eN (seg s K1 k) : Int) ∧ K1 ≤ k ∧ k ≤ dE s K1 ∧ wr = wz) (fun v10 _ _ => s.size - (intOf v10).toNat)
                        case atStart => exact ⟨K1, rfl, by rw [seg_nil]; rfl, Nat.le_refl _, dE_ge _ _, rfl⟩
                        case round =>
                          obtain ⟨k, rfl, rfl, hk1, hk2, rfl⟩ := hrel
                          have hde := dE_le HKs.out
                          have hst := dE_step hk1 hk2 HKs.out
                          have hksz : k ≤ s.size := by omega
                          have k0 : (0 : Int) ≤ (k : Int) := by omega
                          have k1 : (k : Int) ≤ 1048576 := by omega
                          have HI := Lib.hid (isdig_any s k wr (by omega) (by omega))
                          have hen := eN_le (seg s K1 k)
                          have hen1 : (eN (seg s K1 k) : Int) ≤ 100000 := by omega
                          have hen0 : (0 : Int) ≤ (eN (seg s K1 k) : Int) := by omega
                          cases hb : isD s k with
                          | true =>
                            have hlt := hst.1 hb
                            have hks : k < s.size := by omega
                            have hg := bD_get s k hks
                            have hsg := seg_succ hk1 hks
                            have hdd := of_decide_eq_true (show decide (k < s.size ∧ 48 ≤ bD s k ∧ bD s k ≤ 57) = true from hb)
                            have hcb : (s.data.toList.getD k 0).toNat = bD s k := rfl
                            have hnew := eN_snoc (seg s K1 k) (s.data.toList.getD k 0)
                            rw [hcb, ← hsg] at hnew
                            have ks1 : (k : Int) < (s.size : Int) := by omega
                            rw [hb] at HI
                            generalize bD s k = x at *
                            obtain ⟨d, hd⟩ : ∃ d, d = x - 48 := ⟨_, rfl⟩
                            have x3 : ((x : Int) - 48) % 256 = (d : Int) := by omega
                            have x4 : (x : Int) - 48 = (d : Int) := by omega
                            have d9 : (d : Int) ≤ 9 := by omega
                            have d0 : (0 : Int) ≤ (d : Int) := by omega
                            rw [← hd] at hnew
                            generalize eN (seg s K1 k) = n at *
                            have hmn : min (10 * (n : Int) + (d : Int)) 100000 = ((min (10 * n + d) 100000 : Nat) : Int) := by omega
                            generalize min (10 * n + d) 100000 = mm at *
                            have HK := Lib.hid (And.intro hlt (And.intro hk1 (And.intro hnew hks)))
                            clear hst hk1 hk2 hksz hlt hsg hdd hcb hnew hb hde hd hen
                            go_wp2_with fail
                            refine HI.out.mono ?_
                            rintro e wi ⟨rfl, hw⟩
                            subst hw
                            go_wp2_with fail
                            go_roundw
                            case rel => exact ⟨k + 1, by go_num, by rw [HK.out.2.2.1], by have := HK.out.2.1; omega, HK.out.1, trivial⟩
                            case measure => have := HK.out.2.2.2; simp [intOf]; omega
                          | false =>
                            obtain rfl := hst.2 hb
                            rw [hb] at HI
                            generalize eN (seg s K1 (dE s K1)) = n at *
                            generalize dE s K1 = kk at *
                            clear hst hk1 hk2 hksz hb hde hen
                            obtain ⟨xb1, xb2⟩ := HX.out
                            go_wp2_with fail
                            refine HI.out.mono ?_
                            rintro e wi ⟨rfl, hw⟩
                            subst hw
                            go_wp2_with fail
                            refine (value_any g 0 cap AL2 _ _ HO.out.1 HO.out.2.1 HO.out.2.2.1 HO.out.2.2.2.1 HO.out.2.2.2.2 (by omega) (by omega)).mono ?_
                            rintro e wv ⟨rfl, hbv⟩
                            go_wp2_with fail
                            go_ret2
                            rw [HN.out]
                            dsimp only
                            rw [HT.out.1, HT.out.2]
                            refine ⟨?_, HBw.out.trans (hbv.mono HBw.out.size)⟩
                            first | rfl | (congr 4; omega) | (simp)
                  · have z2 : ((bD s I2 : Int) == 69) = false := by rw [beq_eq_false_iff_ne]; omega
                    have HT := Lib.hid (show (numTail s I2 x).1 = x ∧ (numTail s I2 x).2 = I2 by
                      unfold numTail
                      rw [if_neg (by rintro ⟨_, h⟩; exact h.elim c2 c3)]
                      exact ⟨rfl, rfl⟩)
                    obtain ⟨xb1, xb2⟩ := HX.out
                    go_wp2_with fail

                    refine (value_any g 0 cap AL2 _ _ HO.out.1 HO.out.2.1 HO.out.2.2.1 HO.out.2.2.2.1 HO.out.2.2.2.2 (by omega) (by omega)).mono ?_
                    rintro e wv ⟨rfl, hbv⟩
                    go_wp2_with fail
                    go_ret2
                    rw [HN.out]
                    dsimp only
                    rw [HT.out.1, HT.out.2]
                    refine ⟨?_, HBw.out.trans (hbv.mono HBw.out.size)⟩
                    first | rfl | (congr 4; omega) | (simp)
              · have gg : ¬ (I2 : Int) < (s.size : Int) := by omega
                go_wp2_with fail
                refine HI.out.mono ?_
                rintro e wi ⟨rfl, hw⟩
                subst hw
                have I0 : (0 : Int) ≤ (I2 : Int) := by omega
                have I1 : (I2 : Int) ≤ 1048576 := by omega
                obtain ⟨K1, K2, HKK⟩ : ∃ K1 K2, Hid (K1 = I2 + 1 ∧ K2 = K1 + 1) := ⟨_, _, Lib.hid ⟨rfl, rfl⟩⟩

                have HT := Lib.hid (show (numTail s I2 x).1 = x ∧ (numTail s I2 x).2 = I2 by
                  unfold numTail
                  rw [if_neg (fun h => cc h.1)]
                  exact ⟨rfl, rfl⟩)
                obtain ⟨xb1, xb2⟩ := HX.out
                go_wp2_with fail

                refine (value_any g 0 cap AL2 _ _ HO.out.1 HO.out.2.1 HO.out.2.2.1 HO.out.2.2.2.1 HO.out.2.2.2.2 (by omega) (by omega)).mono ?_
                rintro e wv ⟨rfl, hbv⟩
                go_wp2_with fail
                go_ret2
                rw [HN.out]
                dsimp only
                rw [HT.out.1, HT.out.2]
                refine ⟨?_, HBw.out.trans (hbv.mono HBw.out.size)⟩
                first | rfl | (congr 4; omega) | (simp)
        · have HN := Lib.hid (show numR s frm = (valF AL (numTail s I 0).1, (numTail s I 0).2) by rw [HNR.out, if_neg (fun h => c1 ⟨h.1, h.2.1⟩), if_pos hsome])
          obtain ⟨hown, hseg, hsl⟩ := HOw.out
          have hal0 : 0 < AL.length := by omega
          obtain ⟨g, cap, rfl, hcap1, hcap2⟩ := own_form0 hown hal0
          have HO := Lib.hid (show BytesAt wr g 0 AL ∧ AL.length ≤ cap ∧ cap ≤ maxLen ∧ AL.length ≤ 2097152 ∧ ∀ x ∈ AL, isDig x from ⟨bytes_own hown, hcap1, hcap2, by omega, hseg⟩)
          have HX : Hid ((-2097152 : Int) ≤ 0 ∧ (0 : Int) ≤ 2097152) := Lib.hid ⟨by omega, by omega⟩
          by_cases cc : I < s.size
          · have gg : (I : Int) < (s.size : Int) := by omega
            have hgI := bD_get s I cc
            have z46 : ((bD s I : Int) == 46) = false := by rw [beq_eq_false_iff_ne]; intro h; exact c1 ⟨cc, by omega⟩
            clear hown hseg hsl hal0 hcap1 hcap2 hsome c1
            go_wp2_with fail
            refine HI.out.mono ?_
            rintro e wi ⟨rfl, hw⟩
            subst hw
            have I0 : (0 : Int) ≤ (I : Int) := by omega
            have I1 : (I : Int) ≤ 1048576 := by omega
            obtain ⟨K1, K2, HKK⟩ : ∃ K1 K2, Hid (K1 = I + 1 ∧ K2 = K1 + 1) := ⟨_, _, Lib.hid ⟨rfl, rfl⟩⟩

            by_cases c2 : bD s I = 101
            · have he : I < s.size ∧ (bD s I = 101 ∨ bD s I = 69) := ⟨cc, .inl c2⟩
              have z1 : ((bD s I : Int) == 101) = true := by rw [beq_iff_eq]; omega
              clear c2
              have hK1 : K1 = I + 1 := HKK.out.1
              have hK2 : K2 = K1 + 1 := HKK.out.2
              have kI : (I : Int) + 1 = (K1 : Int) := by omega
              have kI2 : (K1 : Int) + 1 = (K2 : Int) := by omega
              have K10 : (0 : Int) ≤ (K1 : Int) := by omega
              have K11 : (K1 : Int) ≤ 1048577 := by omega
              have K21 : (K2 : Int) ≤ 1048578 := by omega
              by_cases d1 : K1 < s.size
              · have d1i : (K1 : Int) < (s.size : Int) := by omega
                have hg2 := bD_get s K1 d1
                have hx2 : bD s K1 = bD s K1 := rfl
                by_cases p : bD s K1 = 43
                · have hsg : sgAt s (I + 1) := by rw [← hK1]; exact ⟨d1, .inl p⟩
                  have hx45 : bD s (I + 1) = 43 := by rw [← hK1]; exact p
                  have y1 : ((bD s K1 : Int) == 43) = true := by rw [beq_iff_eq]; omega
                  have y2 : ((bD s K1 : Int) == 45) = false := by rw [beq_eq_false_iff_ne]; omega
                  clear hx2 p
                  generalize hq : bD s K1 = x2 at hg2 y1 y2
                  clear hq
                  have HI2 := Lib.hid (isdig_any s K2 wr (by omega) (by omega))
                  have HE := Lib.hid he
                  have HSG := Lib.hid hsg
                  have HX45 := Lib.hid hx45
                  clear hx45
                  clear he hsg hK1 hK2
                  cases hdk : isD s K2 with
                  | false =>
                    rw [hdk] at HI2
                    have HT := Lib.hid (show (numTail s I 0).1 = 0 ∧ (numTail s I 0).2 = I by
                      have he := HE.out
                      have hsg := HSG.out
                      have hx45 := HX45.out
                      obtain ⟨hK1, hK2⟩ := HKK.out
                      subst hK2; subst hK1
                      unfold numTail
                      rw [if_pos he, if_pos hsg, if_neg (by rw [hdk]; decide)]
                      exact ⟨rfl, rfl⟩)
                    obtain ⟨xb1, xb2⟩ := HX.out
                    clear hdk
                    go_wp2_with fail
                    refine HI2.out.mono ?_
                    rintro e wi ⟨rfl, hw⟩
                    subst hw
                    go_wp2_with fail
                    refine (value_any g 0 cap AL _ _ HO.out.1 HO.out.2.1 HO.out.2.2.1 HO.out.2.2.2.1 HO.out.2.2.2.2 (by omega) (by omega)).mono ?_
                    rintro e wv ⟨rfl, hbv⟩
                    go_wp2_with fail
                    go_ret2
                    rw [HN.out]
                    dsimp only
                    rw [HT.out.1, HT.out.2]
                    refine ⟨?_, HBw.out.trans (hbv.mono HBw.out.size)⟩
                    first | rfl | (congr 4; omega) | (simp)
                  | true =>
                    rw [hdk] at HI2
                    have HT := Lib.hid (show (numTail s I 0).1 = 0 + (eN (seg s K2 (dE s K2)) : Int) ∧ (numTail s I 0).2 = dE s K2 by
                      have he := HE.out
                      have hsg := HSG.out
                      have hx45 := HX45.out
                      obtain ⟨hK1, hK2⟩ := HKK.out
                      subst hK2; subst hK1
                      unfold numTail
                      rw [if_pos he, if_pos hsg, if_pos hdk, if_neg (by intro q; rw [q] at hx45; omega)]
                      exact ⟨rfl, rfl⟩)
                    have hKs : K2 ≤ s.size := by
                      have := of_decide_eq_true (show decide (K2 < s.size ∧ 48 ≤ bD s K2 ∧ bD s K2 ≤ 57) = true from hdk)
                      omega
                    have HKs := Lib.hid hKs
                    clear hdk hKs
                    go_wp2_with fail
                    refine HI2.out.mono ?_
                    rintro e wi ⟨rfl, hw⟩
                    subst hw
                    go_wp2_with fail
                    go_loopw [10, 12] (fun v10 v12 wz => ∃ k : Nat, v10 = .int .i64 (k : Int) ∧ v12 = .int .i64 (eN (seg s K2 k) : Int) ∧ K2 ≤ k ∧ k ≤ dE s K2 ∧ wr = wz) (fun v10 _ _ => s.size - (intOf v10).toNat)
                    case atStart => exact ⟨K2, rfl, by rw [seg_nil]; rfl, Nat.le_refl _, dE_ge _ _, rfl⟩
                    case round =>
                      obtain ⟨k, rfl, rfl, hk1, hk2, rfl⟩ := hrel
                      have hde := dE_le HKs.out
                      have hst := dE_step hk1 hk2 HKs.out
                      have hksz : k ≤ s.size := by omega
                      have k0 : (0 : Int) ≤ (k : Int) := by omega
                      have k1 : (k : Int) ≤ 1048576 := by omega
                      have HI := Lib.hid (isdig_any s k wr (by omega) (by omega))
                      have hen := eN_le (seg s K2 k)
                      have hen1 : (eN (seg s K2 k) : Int) ≤ 100000 := by omega
                      have hen0 : (0 : Int) ≤ (eN (seg s K2 k) : Int) := by omega
                      cases hb : isD s k with
                      | true =>
                        have hlt := hst.1 hb
                        have hks : k < s.size := by omega
                        have hg := bD_get s k hks
                        have hsg := seg_succ hk1 hks
                        have hdd := of_decide_eq_true (show decide (k < s.size ∧ 48 ≤ bD s k ∧ bD s k ≤ 57) = true from hb)
                        have hcb : (s.data.toList.getD k 0).toNat = bD s k := rfl
                        have hnew := eN_snoc (seg s K2 k) (s.data.toList.getD k 0)
                        rw [hcb, ← hsg] at hnew
                        have ks1 : (k : Int) < (s.size : Int) := by omega
                        rw [hb] at HI
                        generalize bD s k = x at *
                        obtain ⟨d, hd⟩ : ∃ d, d = x - 48 := ⟨_, rfl⟩
                        have x3 : ((x : Int) - 48) % 256 = (d : Int) := by omega
                        have x4 : (x : Int) - 48 = (d : Int) := by omega
                        have d9 : (d : Int) ≤ 9 := by omega
                        have d0 : (0 : Int) ≤ (d : Int) := by omega
                        rw [← hd] at hnew
                        generalize eN (seg s K2 k) = n at *
                        have hmn : min (10 * (n : Int) + (d : Int)) 100000 = ((min (10 * n + d) 100000 : Nat) : Int) := by omega
                        generalize min (10 * n + d) 100000 = mm at *
                        have HK := Lib.hid (And.intro hlt (And.intro hk1 (And.intro hnew hks)))
                        clear hst hk1 hk2 hksz hlt hsg hdd hcb hnew hb hde hd hen
                        go_wp2_with fail
                        refine HI.out.mono ?_
                        rintro e wi ⟨rfl, hw⟩
                        subst hw
                        go_wp2_with fail
                        go_roundw
                        case rel => exact ⟨k + 1, by go_num, by rw [HK.out.2.2.1], by have := HK.out.2.1; omega, HK.out.1, trivial⟩
                        case measure => have := HK.out.2.2.2; simp [intOf]; omega
                      | false =>
                        obtain rfl := hst.2 hb
                        rw [hb] at HI
                        generalize eN (seg s K2 (dE s K2)) = n at *
                        generalize dE s K2 = kk at *
                        clear hst hk1 hk2 hksz hb hde hen
                        obtain ⟨xb1, xb2⟩ := HX.out
                        go_wp2_with fail
                        refine HI.out.mono ?_
                        rintro e wi ⟨rfl, hw⟩
                        subst hw
                        go_wp2_with fail
                        refine (value_any g 0 cap AL _ _ HO.out.1 HO.out.2.1 HO.out.2.2.1 HO.out.2.2.2.1 HO.out.2.2.2.2 (by omega) (by omega)).mono ?_
                        rintro e wv ⟨rfl, hbv⟩
                        go_wp2_with fail
                        go_ret2
                        rw [HN.out]
                        dsimp only
                        rw [HT.out.1, HT.out.2]
                        refine ⟨?_, HBw.out.trans (hbv.mono HBw.out.size)⟩
                        first | rfl | (congr 4; omega) | (simp)
                · have y1 : ((bD s K1 : Int) == 43) = false := by rw [beq_eq_false_iff_ne]; omega
                  by_cases q : bD s K1 = 45
                  · have hsg : sgAt s (I + 1) := by rw [← hK1]; exact ⟨d1, .inr q⟩
                    have hx45 : bD s (I + 1) = 45 := by rw [← hK1]; exact q
                    have y2 : ((bD s K1 : Int) == 45) = true := by rw [beq_iff_eq]; omega
                    clear hx2 p q
                    generalize hq : bD s K1 = x2 at hg2 y1 y2
                    clear hq
                    have HI2 := Lib.hid (isdig_any s K2 wr (by omega) (by omega))
                    have HE := Lib.hid he
                    have HSG := Lib.hid hsg
                    have HX45 := Lib.hid hx45
                    clear hx45
                    clear he hsg hK1 hK2
                    cases hdk : isD s K2 with
                    | false =>
                      rw [hdk] at HI2
                      have HT := Lib.hid (show (numTail s I 0).1 = 0 ∧ (numTail s I 0).2 = I by
                        have he := HE.out
                        have hsg := HSG.out
                        have hx45 := HX45.out
                        obtain ⟨hK1, hK2⟩ := HKK.out
                        subst hK2; subst hK1
                        unfold numTail
                        rw [if_pos he, if_pos hsg, if_neg (by rw [hdk]; decide)]
                        exact ⟨rfl, rfl⟩)
                      obtain ⟨xb1, xb2⟩ := HX.out
                      clear hdk
                      go_wp2_with fail
                      refine HI2.out.mono ?_
                      rintro e wi ⟨rfl, hw⟩
                      subst hw
                      go_wp2_with fail
                      refine (value_any g 0 cap AL _ _ HO.out.1 HO.out.2.1 HO.out.2.2.1 HO.out.2.2.2.1 HO.out.2.2.2.2 (by omega) (by omega)).mono ?_
                      rintro e wv ⟨rfl, hbv⟩
                      go_wp2_with fail
                      go_ret2
                      rw [HN.out]
                      dsimp only
                      rw [HT.out.1, HT.out.2]
                      refine ⟨?_, HBw.out.trans (hbv.mono HBw.out.size)⟩
                      first | rfl | (congr 4; omega) | (simp)
                    | true =>
                      rw [hdk] at HI2
                      have HT := Lib.hid (show (numTail s I 0).1 = 0 + -(eN (seg s K2 (dE s K2)) : Int) ∧ (numTail s I 0).2 = dE s K2 by
                        have he := HE.out
                        have hsg := HSG.out
                        have hx45 := HX45.out
                        obtain ⟨hK1, hK2⟩ := HKK.out
                        subst hK2; subst hK1
                        unfold numTail
                        rw [if_pos he, if_pos hsg, if_pos hdk, if_pos hx45]
                        exact ⟨rfl, rfl⟩)
                      have hKs : K2 ≤ s.size := by
                        have := of_decide_eq_true (show decide (K2 < s.size ∧ 48 ≤ bD s K2 ∧ bD s K2 ≤ 57) = true from hdk)
                        omega
                      have HKs := Lib.hid hKs
                      clear hdk hKs
                      go_wp2_with fail
                      refine HI2.out.mono ?_
                      rintro e wi ⟨rfl, hw⟩
                      subst hw
                      go_wp2_with fail
                      go_loopw [10, 12] (fun v10 v12 wz => ∃ k : Nat, v10 = .int .i64 (k : Int) ∧ v12 = .int .i64 (eN (seg s K2 k) : Int) ∧ K2 ≤ k ∧ k ≤ dE s K2 ∧ wr = wz) (fun v10 _ _ => s.size - (intOf v10).toNat)
                      case atStart => exact ⟨K2, rfl, by rw [seg_nil]; rfl, Nat.le_refl _, dE_ge _ _, rfl⟩
                      case round =>
                        obtain ⟨k, rfl, rfl, hk1, hk2, rfl⟩ := hrel
                        have hde := dE_le HKs.out
                        have hst := dE_step hk1 hk2 HKs.out
                        have hksz : k ≤ s.size := by omega
                        have k0 : (0 : Int) ≤ (k : Int) := by omega
                        have k1 : (k : Int) ≤ 1048576 := by omega
                        have HI := Lib.hid (isdig_any s k wr (by omega) (by omega))
                        have hen := eN_le (seg s K2 k)
                        have hen1 : (eN (seg s K2 k) : Int) ≤ 100000 := by omega
                        have hen0 : (0 : Int) ≤ (eN (seg s K2 k) : Int) := by omega
                        cases hb : isD s k with
                        | true =>
                          have hlt := hst.1 hb
                          have hks : k < s.size := by omega
                          have hg := bD_get s k hks
                          have hsg := seg_succ hk1 hks
                          have hdd := of_decide_eq_true (show decide (k < s.size ∧ 48 ≤ bD s k ∧ bD s k ≤ 57) = true from hb)
                          have hcb : (s.data.toList.getD k 0).toNat = bD s k := rfl
                          have hnew := eN_snoc (seg s K2 k) (s.data.toList.getD k 0)
                          rw [hcb, ← hsg] at hnew
                          have ks1 : (k : Int) < (s.size : Int) := by omega
                          rw [hb] at HI
                          generalize bD s k = x at *
                          obtain ⟨d, hd⟩ : ∃ d, d = x - 48 := ⟨_, rfl⟩
                          have x3 : ((x : Int) - 48) % 256 = (d : Int) := by omega
                          have x4 : (x : Int) - 48 = (d : Int) := by omega
                          have d9 : (d : Int) ≤ 9 := by omega
                          have d0 : (0 : Int) ≤ (d : Int) := by omega
                          rw [← hd] at hnew
                          generalize eN (seg s K2 k) = n at *
                          have hmn : min (10 * (n : Int) + (d : Int)) 100000 = ((min (10 * n + d) 100000 : Nat) : Int) := by omega
                          generalize min (10 * n + d) 100000 = mm at *
                          have HK := Lib.hid (And.intro hlt (And.intro hk1 (And.intro hnew hks)))
                          clear hst hk1 hk2 hksz hlt hsg hdd hcb hnew hb hde hd hen
                          go_wp2_with fail
                          refine HI.out.mono ?_
                          rintro e wi ⟨rfl, hw⟩
                          subst hw
                          go_wp2_with fail
                          go_roundw
                          case rel => exact ⟨k + 1, by go_num, by rw [HK.out.2.2.1], by have := HK.out.2.1; omega, HK.out.1, trivial⟩
                          case measure => have := HK.out.2.2.2; simp [intOf]; omega
                        | false =>
                          obtain rfl := hst.2 hb
                          rw [hb] at HI
                          generalize eN (seg s K2 (dE s K2)) = n at *
                          generalize dE s K2 = kk at *
                          clear hst hk1 hk2 hksz hb hde hen
                          obtain ⟨xb1, xb2⟩ := HX.out
                          go_wp2_with fail
                          refine HI.out.mono ?_
                          rintro e wi ⟨rfl, hw⟩
                          subst hw
                          go_wp2_with fail
                          refine (value_any g 0 cap AL _ _ HO.out.1 HO.out.2.1 HO.out.2.2.1 HO.out.2.2.2.1 HO.out.2.2.2.2 (by omega) (by omega)).mono ?_
                          rintro e wv ⟨rfl, hbv⟩
                          go_wp2_with fail
                          go_ret2
                          rw [HN.out]
                          dsimp only
                          rw [HT.out.1, HT.out.2]
                          refine ⟨?_, HBw.out.trans (hbv.mono HBw.out.size)⟩
                          first | rfl | (congr 4; omega) | (simp)
                  · have hsg : ¬ sgAt s (I + 1) := by
                      rw [← hK1]
                      rintro ⟨_, h⟩
                      rcases h with h | h
                      · exact p h
                      · exact q h
                    have y2 : ((bD s K1 : Int) == 45) = false := by rw [beq_eq_false_iff_ne]; omega
                    clear hx2 p q
                    generalize hq : bD s K1 = x2 at hg2 y1 y2
                    clear hq
                    have HI2 := Lib.hid (isdig_any s K1 wr (by omega) (by omega))
                    have HE := Lib.hid he
                    have HSG := Lib.hid hsg
                    clear he hsg hK1 hK2
                    cases hdk : isD s K1 with
                    | false =>
                      rw [hdk] at HI2
                      have HT := Lib.hid (show (numTail s I 0).1 = 0 ∧ (numTail s I 0).2 = I by
                        have he := HE.out
                        have hsg := HSG.out
                        obtain ⟨hK1, hK2⟩ := HKK.out
                        subst hK1
                        unfold numTail
                        rw [if_pos he, if_neg hsg, if_neg (by rw [hdk]; decide)]
                        exact ⟨rfl, rfl⟩)
                      obtain ⟨xb1, xb2⟩ := HX.out
                      clear hdk
                      go_wp2_with fail
                      refine HI2.out.mono ?_
                      rintro e wi ⟨rfl, hw⟩
                      subst hw
                      go_wp2_with fail
                      refine (value_any g 0 cap AL _ _ HO.out.1 HO.out.2.1 HO.out.2.2.1 HO.out.2.2.2.1 HO.out.2.2.2.2 (by omega) (by omega)).mono ?_
                      rintro e wv ⟨rfl, hbv⟩
                      go_wp2_with fail
                      go_ret2
                      rw [HN.out]
                      dsimp only
                      rw [HT.out.1, HT.out.2]
                      refine ⟨?_, HBw.out.trans (hbv.mono HBw.out.size)⟩
                      first | rfl | (congr 4; omega) | (simp)
                    | true =>
                      rw [hdk] at HI2
                      have HT := Lib.hid (show (numTail s I 0).1 = 0 + (eN (seg s K1 (dE s K1)) : Int) ∧ (numTail s I 0).2 = dE s K1 by
                        have he := HE.out
                        have hsg := HSG.out
                        obtain ⟨hK1, hK2⟩ := HKK.out
                        subst hK1
                        unfold numTail
                        rw [if_pos he, if_neg hsg, if_pos hdk]
                        exact ⟨rfl, rfl⟩)
                      have hKs : K1 ≤ s.size := by
                        have := of_decide_eq_true (show decide (K1 < s.size ∧ 48 ≤ bD s K1 ∧ bD s K1 ≤ 57) = true from hdk)
                        omega
                      have HKs := Lib.hid hKs
                      clear hdk hKs
                      go_wp2_with fail
                      refine HI2.out.mono ?_
                      rintro e wi ⟨rfl, hw⟩
                      subst hw
                      go_wp2_with fail
                      go_loopw [10, 12] (fun v10 v12 wz => ∃ k : Nat, v10 = .int .i64 (k : Int) ∧ v12 = .int .i64 (eN (seg s K1 k) : Int) ∧ K1 ≤ k ∧ k ≤ dE s K1 ∧ wr = wz) (fun v10 _ _ => s.size - (intOf v10).toNat)
                      case atStart => exact ⟨K1, rfl, by rw [seg_nil]; rfl, Nat.le_refl _, dE_ge _ _, rfl⟩
                      case round =>
                        obtain ⟨k, rfl, rfl, hk1, hk2, rfl⟩ := hrel
                        have hde := dE_le HKs.out
                        have hst := dE_step hk1 hk2 HKs.out
                        have hksz : k ≤ s.size := by omega
                        have k0 : (0 : Int) ≤ (k : Int) := by omega
                        have k1 : (k : Int) ≤ 1048576 := by omega
                        have HI := Lib.hid (isdig_any s k wr (by omega) (by omega))
                        have hen := eN_le (seg s K1 k)
                        have hen1 : (eN (seg s K1 k) : Int) ≤ 100000 := by omega
                        have hen0 : (0 : Int) ≤ (eN (seg s K1 k) : Int) := by omega
                        cases hb : isD s k with
                        | true =>
                          have hlt := hst.1 hb
                          have hks : k < s.size := by omega
                          have hg := bD_get s k hks
                          have hsg := seg_succ hk1 hks
                          have hdd := of_decide_eq_true (show decide (k < s.size ∧ 48 ≤ bD s k ∧ bD s k ≤ 57) = true from hb)
                          have hcb : (s.data.toList.getD k 0).toNat = bD s k := rfl
                          have hnew := eN_snoc (seg s K1 k) (s.data.toList.getD k 0)
                          rw [hcb, ← hsg] at hnew
                          have ks1 : (k : Int) < (s.size : Int) := by omega
                          rw [hb] at HI
                          generalize bD s k = x at *
                          obtain ⟨d, hd⟩ : ∃ d, d = x - 48 := ⟨_, rfl⟩
                          have x3 : ((x : Int) - 48) % 256 = (d : Int) := by omega
                          have x4 : (x : Int) - 48 = (d : Int) := by omega
                          have d9 : (d : Int) ≤ 9 := by omega
                          have d0 : (0 : Int) ≤ (d : Int) := by omega
                          rw [← hd] at hnew
                          generalize eN (seg s K1 k) = n at *
                          have hmn : min (10 * (n : Int) + (d : Int)) 100000 = ((min (10 * n + d) 100000 : Nat) : Int) := by omega
                          generalize min (10 * n + d) 100000 = mm at *
                          have HK := Lib.hid (And.intro hlt (And.intro hk1 (And.intro hnew hks)))
                          clear hst hk1 hk2 hksz hlt hsg hdd hcb hnew hb hde hd hen
                          go_wp2_with fail
                          refine HI.out.mono ?_
                          rintro e wi ⟨rfl, hw⟩
                          subst hw
                          go_wp2_with fail
                          go_roundw
                          case rel => exact ⟨k + 1, by go_num, by rw [HK.out.2.2.1], by have := HK.out.2.1; omega, HK.out.1, trivial⟩
                          case measure => have := HK.out.2.2.2; simp [intOf]; omega
                        | false =>
                          obtain rfl := hst.2 hb
                          rw [hb] at HI
                          generalize eN (seg s K1 (dE s K1)) = n at *
                          generalize dE s K1 = kk at *
                          clear hst hk1 hk2 hksz hb hde hen
                          obtain ⟨xb1, xb2⟩ := HX.out
                          go_wp2_with fail
                          refine HI.out.mono ?_
                          rintro e wi ⟨rfl, hw⟩
                          subst hw
                          go_wp2_with fail
                          refine (value_any g 0 cap AL _ _ HO.out.1 HO.out.2.1 HO.out.2.2.1 HO.out.2.2.2.1 HO.out.2.2.2.2 (by omega) (by omega)).mono ?_
                          rintro e wv ⟨rfl, hbv⟩
                          go_wp2_with fail
                          go_ret2
                          rw [HN.out]
                          dsimp only
                          rw [HT.out.1, HT.out.2]
                          refine ⟨?_, HBw.out.trans (hbv.mono HBw.out.size)⟩
                          first | rfl | (congr 4; omega) | (simp)
              · have d1i : ¬ (K1 : Int) < (s.size : Int) := by omega
                have hsg : ¬ sgAt s (I + 1) := by rw [← hK1]; exact fun h => d1 h.1
                have HI2 := Lib.hid (isdig_any s K1 wr (by omega) (by omega))
                have HE := Lib.hid he
                have HSG := Lib.hid hsg
                clear he hsg hK1 hK2
                cases hdk : isD s K1 with
                | false =>
                  rw [hdk] at HI2
                  have HT := Lib.hid (show (numTail s I 0).1 = 0 ∧ (numTail s I 0).2 = I by
                    have he := HE.out
                    have hsg := HSG.out
                    obtain ⟨hK1, hK2⟩ := HKK.out
                    subst hK1
                    unfold numTail
                    rw [if_pos he, if_neg hsg, if_neg (by rw [hdk]; decide)]
                    exact ⟨rfl, rfl⟩)
                  obtain ⟨xb1, xb2⟩ := HX.out
                  clear hdk
                  go_wp2_with fail
                  refine HI2.out.mono ?_
                  rintro e wi ⟨rfl, hw⟩
                  subst hw
                  go_wp2_with fail
                  refine (value_any g 0 cap AL _ _ HO.out.1 HO.out.2.1 HO.out.2.2.1 HO.out.2.2.2.1 HO.out.2.2.2.2 (by omega) (by omega)).mono ?_
                  rintro e wv ⟨rfl, hbv⟩
                  go_wp2_with fail
                  go_ret2
                  rw [HN.out]
                  dsimp only
                  rw [HT.out.1, HT.out.2]
                  refine ⟨?_, HBw.out.trans (hbv.mono HBw.out.size)⟩
                  first | rfl | (congr 4; omega) | (simp)
                | true =>
                  rw [hdk] at HI2
                  have HT := Lib.hid (show (numTail s I 0).1 = 0 + (eN (seg s K1 (dE s K1)) : Int) ∧ (numTail s I 0).2 = dE s K1 by
                    have he := HE.out
                    have hsg := HSG.out
                    obtain ⟨hK1, hK2⟩ := HKK.out
                    subst hK1
                    unfold numTail
                    rw [if_pos he, if_neg hsg, if_pos hdk]
                    exact ⟨rfl, rfl⟩)
                  have hKs : K1 ≤ s.size := by
                    have := of_decide_eq_true (show decide (K1 < s.size ∧ 48 ≤ bD s K1 ∧ bD s K1 ≤ 57) = true from hdk)
                    omega
                  have HKs := Lib.hid hKs
                  clear hdk hKs
                  go_wp2_with fail
                  refine HI2.out.mono ?_
                  rintro e wi ⟨rfl, hw⟩
                  subst hw
                  go_wp2_with fail
                  go_loopw [10, 12] (fun v10 v12 wz => ∃ k : Nat, v10 = .int .i64 (k : Int) ∧ v12 = .int .i64 (eN (seg s K1 k) : Int) ∧ K1 ≤ k ∧ k ≤ dE s K1 ∧ wr = wz) (fun v10 _ _ => s.size - (intOf v10).toNat)
                  case atStart => exact ⟨K1, rfl, by rw [seg_nil]; rfl, Nat.le_refl _, dE_ge _ _, rfl⟩
                  case round =>
                    obtain ⟨k, rfl, rfl, hk1, hk2, rfl⟩ := hrel
                    have hde := dE_le HKs.out
                    have hst := dE_step hk1 hk2 HKs.out
                    have hksz : k ≤ s.size := by omega
                    have k0 : (0 : Int) ≤ (k : Int) := by omega
                    have k1 : (k : Int) ≤ 1048576 := by omega
                    have HI := Lib.hid (isdig_any s k wr (by omega) (by omega))
                    have hen := eN_le (seg s K1 k)
                    have hen1 : (eN (seg s K1 k) : Int) ≤ 100000 := by omega
                    have hen0 : (0 : Int) ≤ (eN (seg s K1 k) : Int) := by omega
                    cases hb : isD s k with
                    | true =>
                      have hlt := hst.1 hb
                      have hks : k < s.size := by omega
                      have hg := bD_get s k hks
                      have hsg := seg_succ hk1 hks
                      have hdd := of_decide_eq_true (show decide (k < s.size ∧ 48 ≤ bD s k ∧ bD s k ≤ 57) = true from hb)
                      have hcb : (s.data.toList.getD k 0).toNat = bD s k := rfl
                      have hnew := eN_snoc (seg s K1 k) (s.data.toList.getD k 0)
                      rw [hcb, ← hsg] at hnew
                      have ks1 : (k : Int) < (s.size : Int) := by omega
                      rw [hb] at HI
                      generalize bD s k = x at *
                      obtain ⟨d, hd⟩ : ∃ d, d = x - 48 := ⟨_, rfl⟩
                      have x3 : ((x : Int) - 48) % 256 = (d : Int) := by omega
                      have x4 : (x : Int) - 48 = (d : Int) := by omega
                      have d9 : (d : Int) ≤ 9 := by omega
                      have d0 : (0 : Int) ≤ (d : Int) := by omega
                      rw [← hd] at hnew
                      generalize eN (seg s K1 k) = n at *
                      have hmn : min (10 * (n : Int) + (d : Int)) 100000 = ((min (10 * n + d) 100000 : Nat) : Int) := by omega
                      generalize min (10 * n + d) 100000 = mm at *
                      have HK := Lib.hid (And.intro hlt (And.intro hk1 (And.intro hnew hks)))
                      clear hst hk1 hk2 hksz hlt hsg hdd hcb hnew hb hde hd hen
                      go_wp2_with fail
                      refine HI.out.mono ?_
                      rintro e wi ⟨rfl, hw⟩
                      subst hw
                      go_wp2_with fail
                      go_roundw
                      case rel => exact ⟨k + 1, by go_num, by rw [HK.out.2.2.1], by have := HK.out.2.1; omega, HK.out.1, trivial⟩
                      case measure => have := HK.out.2.2.2; simp [intOf]; omega
                    | false =>
                      obtain rfl := hst.2 hb
                      rw [hb] at HI
                      generalize eN (seg s K1 (dE s K1)) = n at *
                      generalize dE s K1 = kk at *
                      clear hst hk1 hk2 hksz hb hde hen
                      obtain ⟨xb1, xb2⟩ := HX.out
                      go_wp2_with fail
                      refine HI.out.mono ?_
                      rintro e wi ⟨rfl, hw⟩
                      subst hw
                      go_wp2_with fail
                      refine (value_any g 0 cap AL _ _ HO.out.1 HO.out.2.1 HO.out.2.2.1 HO.out.2.2.2.1 HO.out.2.2.2.2 (by omega) (by omega)).mono ?_
                      rintro e wv ⟨rfl, hbv⟩
                      go_wp2_with fail
                      go_ret2
                      rw [HN.out]
                      dsimp only
                      rw [HT.out.1, HT.out.2]
                      refine ⟨?_, HBw.out.trans (hbv.mono HBw.out.size)⟩
                      first | rfl | (congr 4; omega) | (simp)
            · have z1 : ((bD s I : Int) == 101) = false := by rw [beq_eq_false_iff_ne]; omega
              by_cases c3 : bD s I = 69
              · have he : I < s.size ∧ (bD s I = 101 ∨ bD s I = 69) := ⟨cc, .inr c3⟩
                have z2 : ((bD s I : Int) == 69) = true := by rw [beq_iff_eq]; omega
                clear c2 c3
                have hK1 : K1 = I + 1 := HKK.out.1
                have hK2 : K2 = K1 + 1 := HKK.out.2
                have kI : (I : Int) + 1 = (K1 : Int) := by omega
                have kI2 : (K1 : Int) + 1 = (K2 : Int) := by omega
                have K10 : (0 : Int) ≤ (K1 : Int) := by omega
                have K11 : (K1 : Int) ≤ 1048577 := by omega
                have K21 : (K2 : Int) ≤ 1048578 := by omega
                by_cases d1 : K1 < s.size
                · have d1i : (K1 : Int) < (s.size : Int) := by omega
                  have hg2 := bD_get s K1 d1
                  have hx2 : bD s K1 = bD s K1 := rfl
                  by_cases p : bD s K1 = 43
                  · have hsg : sgAt s (I + 1) := by rw [← hK1]; exact ⟨d1, .inl p⟩
                    have hx45 : bD s (I + 1) = 43 := by rw [← hK1]; exact p
                    have y1 : ((bD s K1 : Int) == 43) = true := by rw [beq_iff_eq]; omega
                    have y2 : ((bD s K1 : Int) == 45) = false := by rw [beq_eq_false_iff_ne]; omega
                    clear hx2 p
                    generalize hq : bD s K1 = x2 at hg2 y1 y2
                    clear hq
                    have HI2 := Lib.hid (isdig_any s K2 wr (by omega) (by omega))
                    have HE := Lib.hid he
                    have HSG := Lib.hid hsg
                    have HX45 := Lib.hid hx45
                    clear hx45
                    clear he hsg hK1 hK2
                    cases hdk : isD s K2 with
                    | false =>
                      rw [hdk] at HI2
                      have HT := Lib.hid (show (numTail s I 0).1 = 0 ∧ (numTail s I 0).2 = I by
                        have he := HE.out
                        have hsg := HSG.out
                        have hx45 := HX45.out
                        obtain ⟨hK1, hK2⟩ := HKK.out
                        subst hK2; subst hK1
                        unfold numTail
                        rw [if_pos he, if_pos hsg, if_neg (by rw [hdk]; decide)]
                        exact ⟨rfl, rfl⟩)
                      obtain ⟨xb1, xb2⟩ := HX.out
                      clear hdk
                      go_wp2_with fail
                      refine HI2.out.mono ?_
                      rintro e wi ⟨rfl, hw⟩
                      subst hw
                      go_wp2_with fail
                      refine (value_any g 0 cap AL _ _ HO.out.1 HO.out.2.1 HO.out.2.2.1 HO.out.2.2.2.1 HO.out.2.2.2.2 (by omega) (by omega)).mono ?_
                      rintro e wv ⟨rfl, hbv⟩
                      go_wp2_with fail
                      go_ret2
                      rw [HN.out]
                      dsimp only
                      rw [HT.out.1, HT.out.2]
                      refine ⟨?_, HBw.out.trans (hbv.mono HBw.out.size)⟩
                      first | rfl | (congr 4; omega) | (simp)
                    | true =>
                      rw [hdk] at HI2
                      have HT := Lib.hid (show (numTail s I 0).1 = 0 + (eN (seg s K2 (dE s K2)) : Int) ∧ (numTail s I 0).2 = dE s K2 by
                        have he := HE.out
                        have hsg := HSG.out
                        have hx45 := HX45.out
                        obtain ⟨hK1, hK2⟩ := HKK.out
                        subst hK2; subst hK1
                        unfold numTail
                        rw [if_pos he, if_pos hsg, if_pos hdk, if_neg (by intro q; rw [q] at hx45; omega)]
                        exact ⟨rfl, rfl⟩)
                      have hKs : K2 ≤ s.size := by
                        have := of_decide_eq_true (show decide (K2 < s.size ∧ 48 ≤ bD s K2 ∧ bD s K2 ≤ 57) = true from hdk)
                        omega
                      have HKs := Lib.hid hKs
                      clear hdk hKs
                      go_wp2_with fail
                      refine HI2.out.mono ?_
                      rintro e wi ⟨rfl, hw⟩
                      subst hw
                      go_wp2_with fail
                      go_loopw [10, 12] (fun v10 v12 wz => ∃ k : Nat, v10 = .int .i64 (k : Int) ∧ v12 = .int .i64 (eN (seg s K2 k) : Int) ∧ K2 ≤ k ∧ k ≤ dE s K2 ∧ wr = wz) (fun v10 _ _ => s.size - (intOf v10).toNat)
                      case atStart => exact ⟨K2, rfl, by rw [seg_nil]; rfl, Nat.le_refl _, dE_ge _ _, rfl⟩
                      case round =>
                        obtain ⟨k, rfl, rfl, hk1, hk2, rfl⟩ := hrel
                        have hde := dE_le HKs.out
                        have hst := dE_step hk1 hk2 HKs.out
                        have hksz : k ≤ s.size := by omega
                        have k0 : (0 : Int) ≤ (k : Int) := by omega
                        have k1 : (k : Int) ≤ 1048576 := by omega
                        have HI := Lib.hid (isdig_any s k wr (by omega) (by omega))
                        have hen := eN_le (seg s K2 k)
                        have hen1 : (eN (seg s K2 k) : Int) ≤ 100000 := by omega
                        have hen0 : (0 : Int) ≤ (eN (seg s K2 k) : Int) := by omega
                        cases hb : isD s k with
                        | true =>
                          have hlt := hst.1 hb
                          have hks : k < s.size := by omega
                          have hg := bD_get s k hks
                          have hsg := seg_succ hk1 hks
                          have hdd := of_decide_eq_true (show decide (k < s.size ∧ 48 ≤ bD s k ∧ bD s k ≤ 57) = true from hb)
                          have hcb : (s.data.toList.getD k 0).toNat = bD s k := rfl
                          have hnew := eN_snoc (seg s K2 k) (s.data.toList.getD k 0)
                          rw [hcb, ← hsg] at hnew
                          have ks1 : (k : Int) < (s.size : Int) := by omega
                          rw [hb] at HI
                          generalize bD s k = x at *
                          obtain ⟨d, hd⟩ : ∃ d, d = x - 48 := ⟨_, rfl⟩
                          have x3 : ((x : Int) - 48) % 256 = (d : Int) := by omega
                          have x4 : (x : Int) - 48 = (d : Int) := by omega
                          have d9 : (d : Int) ≤ 9 := by omega
                          have d0 : (0 : Int) ≤ (d : Int) := by omega
                          rw [← hd] at hnew
                          generalize eN (seg s K2 k) = n at *
                          have hmn : min (10 * (n : Int) + (d : Int)) 100000 = ((min (10 * n + d) 100000 : Nat) : Int) := by omega
                          generalize min (10 * n + d) 100000 = mm at *
                          have HK := Lib.hid (And.intro hlt (And.intro hk1 (And.intro hnew hks)))
                          clear hst hk1 hk2 hksz hlt hsg hdd hcb hnew hb hde hd hen
                          go_wp2_with fail
                          refine HI.out.mono ?_
                          rintro e wi ⟨rfl, hw⟩
                          subst hw
                          go_wp2_with fail
                          go_roundw
                          case rel => exact ⟨k + 1, by go_num, by rw [HK.out.2.2.1], by have := HK.out.2.1; omega, HK.out.1, trivial⟩
                          case measure => have := HK.out.2.2.2; simp [intOf]; omega
                        | false =>
                          obtain rfl := hst.2 hb
                          rw [hb] at HI
                          generalize eN (seg s K2 (dE s K2)) = n at *
                          generalize dE s K2 = kk at *
                          clear hst hk1 hk2 hksz hb hde hen
                          obtain ⟨xb1, xb2⟩ := HX.out
                          go_wp2_with fail
                          refine HI.out.mono ?_
                          rintro e wi ⟨rfl, hw⟩
                          subst hw
                          go_wp2_with fail
                          refine (value_any g 0 cap AL _ _ HO.out.1 HO.out.2.1 HO.out.2.2.1 HO.out.2.2.2.1 HO.out.2.2.2.2 (by omega) (by omega)).mono ?_
                          rintro e wv ⟨rfl, hbv⟩
                          go_wp2_with fail
                          go_ret2
                          rw [HN.out]
                          dsimp only
                          rw [HT.out.1, HT.out.2]
                          refine ⟨?_, HBw.out.trans (hbv.mono HBw.out.size)⟩
                          first | rfl | (congr 4; omega) | (simp)
                  · have y1 : ((bD s K1 : Int) == 43) = false := by rw [beq_eq_false_iff_ne]; omega
                    by_cases q : bD s K1 = 45
                    · have hsg : sgAt s (I + 1) := by rw [← hK1]; exact ⟨d1, .inr q⟩
                      have hx45 : bD s (I + 1) = 45 := by rw [← hK1]; exact q
                      have y2 : ((bD s K1 : Int) == 45) = true := by rw [beq_iff_eq]; omega
                      clear hx2 p q
                      generalize hq : bD s K1 = x2 at hg2 y1 y2
                      clear hq
                      have HI2 := Lib.hid (isdig_any s K2 wr (by omega) (by omega))
                      have HE := Lib.hid he
                      have HSG := Lib.hid hsg
                      have HX45 := Lib.hid hx45
                      clear hx45
                      clear he hsg hK1 hK2
                      cases hdk : isD s K2 with
                      | false =>
                        rw [hdk] at HI2
                        have HT := Lib.hid (show (numTail s I 0).1 = 0 ∧ (numTail s I 0).2 = I by
                          have he := HE.out
                          have hsg := HSG.out
                          have hx45 := HX45.out
                          obtain ⟨hK1, hK2⟩ := HKK.out
                          subst hK2; subst hK1
                          unfold numTail
                          rw [if_pos he, if_pos hsg, if_neg (by rw [hdk]; decide)]
                          exact ⟨rfl, rfl⟩)
                        obtain ⟨xb1, xb2⟩ := HX.out
                        clear hdk
                        go_wp2_with fail
                        refine HI2.out.mono ?_
                        rintro e wi ⟨rfl, hw⟩
                        subst hw
                        go_wp2_with fail
                        refine (value_any g 0 cap AL _ _ HO.out.1 HO.out.2.1 HO.out.2.2.1 HO.out.2.2.2.1 HO.out.2.2.2.2 (by omega) (by omega)).mono ?_
                        rintro e wv ⟨rfl, hbv⟩
                        go_wp2_with fail
                        go_ret2
                        rw [HN.out]
                        dsimp only
                        rw [HT.out.1, HT.out.2]
                        refine ⟨?_, HBw.out.trans (hbv.mono HBw.out.size)⟩
                        first | rfl | (congr 4; omega) | (simp)
                      | true =>
                        rw [hdk] at HI2
                        have HT := Lib.hid (show (numTail s I 0).1 = 0 + -(eN (seg s K2 (dE s K2)) : Int) ∧ (numTail s I 0).2 = dE s K2 by
                          have he := HE.out
                          have hsg := HSG.out
                          have hx45 := HX45.out
                          obtain ⟨hK1, hK2⟩ := HKK.out
                          subst hK2; subst hK1
                          unfold numTail
                          rw [if_pos he, if_pos hsg, if_pos hdk, if_pos hx45]
                          exact ⟨rfl, rfl⟩)
                        have hKs : K2 ≤ s.size := by
                          have := of_decide_eq_true (show decide (K2 < s.size ∧ 48 ≤ bD s K2 ∧ bD s K2 ≤ 57) = true from hdk)
                          omega
                        have HKs := Lib.hid hKs
                        clear hdk hKs
                        go_wp2_with fail
                        refine HI2.out.mono ?_
                        rintro e wi ⟨rfl, hw⟩
                        subst hw
                        go_wp2_with fail
                        go_loopw [10, 12] (fun v10 v12 wz => ∃ k : Nat, v10 = .int .i64 (k : Int) ∧ v12 = .int .i64 (eN (seg s K2 k) : Int) ∧ K2 ≤ k ∧ k ≤ dE s K2 ∧ wr = wz) (fun v10 _ _ => s.size - (intOf v10).toNat)
                        case atStart => exact ⟨K2, rfl, by rw [seg_nil]; rfl, Nat.le_refl _, dE_ge _ _, rfl⟩
                        case round =>
                          obtain ⟨k, rfl, rfl, hk1, hk2, rfl⟩ := hrel
                          have hde := dE_le HKs.out
                          have hst := dE_step hk1 hk2 HKs.out
                          have hksz : k ≤ s.size := by omega
                          have k0 : (0 : Int) ≤ (k : Int) := by omega
                          have k1 : (k : Int) ≤ 1048576 := by omega
                          have HI := Lib.hid (isdig_any s k wr (by omega) (by omega))
                          have hen := eN_le (seg s K2 k)
                          have hen1 : (eN (seg s K2 k) : Int) ≤ 100000 := by omega
                          have hen0 : (0 : Int) ≤ (eN (seg s K2 k) : Int) := by omega
                          cases hb : isD s k with
                          | true =>
                            have hlt := hst.1 hb
                            have hks : k < s.size := by omega
                            have hg := bD_get s k hks
                            have hsg := seg_succ hk1 hks
                            have hdd := of_decide_eq_true (show decide (k < s.size ∧ 48 ≤ bD s k ∧ bD s k ≤ 57) = true from hb)
                            have hcb : (s.data.toList.getD k 0).toNat = bD s k := rfl
                            have hnew := eN_snoc (seg s K2 k) (s.data.toList.getD k 0)
                            rw [hcb, ← hsg] at hnew
                            have ks1 : (k : Int) < (s.size : Int) := by omega
                            rw [hb] at HI
                            generalize bD s k = x at *
                            obtain ⟨d, hd⟩ : ∃ d, d = x - 48 := ⟨_, rfl⟩
                            have x3 : ((x : Int) - 48) % 256 = (d : Int) := by omega
                            have x4 : (x : Int) - 48 = (d : Int) := by omega
                            have d9 : (d : Int) ≤ 9 := by omega
                            have d0 : (0 : Int) ≤ (d : Int) := by omega
                            rw [← hd] at hnew
                            generalize eN (seg s K2 k) = n at *
                            have hmn : min (10 * (n : Int) + (d : Int)) 100000 = ((min (10 * n + d) 100000 : Nat) : Int) := by omega
                            generalize min (10 * n + d) 100000 = mm at *
                            have HK := Lib.hid (And.intro hlt (And.intro hk1 (And.intro hnew hks)))
                            clear hst hk1 hk2 hksz hlt hsg hdd hcb hnew hb hde hd hen
                            go_wp2_with fail
                            refine HI.out.mono ?_
                            rintro e wi ⟨rfl, hw⟩
                            subst hw
                            go_wp2_with fail
                            go_roundw
                            case rel => exact ⟨k + 1, by go_num, by rw [HK.out.2.2.1], by have := HK.out.2.1; omega, HK.out.1, trivial⟩
                            case measure => have := HK.out.2.2.2; simp [intOf]; omega
                          | false =>
                            obtain rfl := hst.2 hb
                            rw [hb] at HI
                            generalize eN (seg s K2 (dE s K2)) = n at *
                            generalize dE s K2 = kk at *
                            clear hst hk1 hk2 hksz hb hde hen
                            obtain ⟨xb1, xb2⟩ := HX.out
                            go_wp2_with fail
                            refine HI.out.mono ?_
                            rintro e wi ⟨rfl, hw⟩
                            subst hw
                            go_wp2_with fail
                            refine (value_any g 0 cap AL _ _ HO.out.1 HO.out.2.1 HO.out.2.2.1 HO.out.2.2.2.1 HO.out.2.2.2.2 (by omega) (by omega)).mono ?_
                            rintro e wv ⟨rfl, hbv⟩
                            go_wp2_with fail
                            go_ret2
                            rw [HN.out]
                            dsimp only
                            rw [HT.out.1, HT.out.2]
                            refine ⟨?_, HBw.out.trans (hbv.mono HBw.out.size)⟩
                            first | rfl | (congr 4; omega) | (simp)
                    · have hsg : ¬ sgAt s (I + 1) := by
                        rw [← hK1]
                        rintro ⟨_, h⟩
                        rcases h with h | h
                        · exact p h
                        · exact q h
                      have y2 : ((bD s K1 : Int) == 45) = false := by rw [beq_eq_false_iff_ne]; omega
                      clear hx2 p q
                      generalize hq : bD s K1 = x2 at hg2 y1 y2
                      clear hq
                      have HI2 := Lib.hid (isdig_any s K1 wr (by omega) (by omega))
                      have HE := Lib.hid he
                      have HSG := Lib.hid hsg
                      clear he hsg hK1 hK2
                      cases hdk : isD s K1 with
                      | false =>
                        rw [hdk] at HI2
                        have HT := Lib.hid (show (numTail s I 0).1 = 0 ∧ (numTail s I 0).2 = I by
                          have he := HE.out
                          have hsg := HSG.out
                          obtain ⟨hK1, hK2⟩ := HKK.out
                          subst hK1
                          unfold numTail
                          rw [if_pos he, if_neg hsg, if_neg (by rw [hdk]; decide)]
                          exact ⟨rfl, rfl⟩)
                        obtain ⟨xb1, xb2⟩ := HX.out
                        clear hdk
                        go_wp2_with fail
                        refine HI2.out.mono ?_
                        rintro e wi ⟨rfl, hw⟩
                        subst hw
                        go_wp2_with fail
                        refine (value_any g 0 cap AL _ _ HO.out.1 HO.out.2.1 HO.out.2.2.1 HO.out.2.2.2.1 HO.out.2.2.2.2 (by omega) (by omega)).mono ?_
                        rintro e wv ⟨rfl, hbv⟩
                        go_wp2_with fail
                        go_ret2
                        rw [HN.out]
                        dsimp only
                        rw [HT.out.1, HT.out.2]
                        refine ⟨?_, HBw.out.trans (hbv.mono HBw.out.size)⟩
                        first | rfl | (congr 4; omega) | (simp)
                      | true =>
                        rw [hdk] at HI2
                        have HT := Lib.hid (show (numTail s I 0).1 = 0 + (eN (seg s K1 (dE s K1)) : Int) ∧ (numTail s I 0).2 = dE s K1 by
                          have he := HE.out
                          have hsg := HSG.out
                          obtain ⟨hK1, hK2⟩ := HKK.out
                          subst hK1
                          unfold numTail
                          rw [if_pos he, if_neg hsg, if_pos hdk]
                          exact ⟨rfl, rfl⟩)
                        have hKs : K1 ≤ s.size := by
                          have := of_decide_eq_true (show decide (K1 < s.size ∧ 48 ≤ bD s K1 ∧ bD s K1 ≤ 57) = true from hdk)
                          omega
                        have HKs := Lib.hid hKs
                        clear hdk hKs
                        go_wp2_with fail
                        refine HI2.out.mono ?_
                        rintro e wi ⟨rfl, hw⟩
                        subst hw
                        go_wp2_with fail
                        go_loopw [10, 12] (fun v10 v12 wz => ∃ k : Nat, v10 = .int .i64 (k : Int) ∧ v12 = .int .i64 (eN (seg s K1 k) : Int) ∧ K1 ≤ k ∧ k ≤ dE s K1 ∧ wr = wz) (fun v10 _ _ => s.size - (intOf v10).toNat)
                        case atStart => exact ⟨K1, rfl, by rw [seg_nil]; rfl, Nat.le_refl _, dE_ge _ _, rfl⟩
                        case round =>
                          obtain ⟨k, rfl, rfl, hk1, hk2, rfl⟩ := hrel
                          have hde := dE_le HKs.out
                          have hst := dE_step hk1 hk2 HKs.out
                          have hksz : k ≤ s.size := by omega
                          have k0 : (0 : Int) ≤ (k : Int) := by omega
                          have k1 : (k : Int) ≤ 1048576 := by omega
                          have HI := Lib.hid (isdig_any s k wr (by omega) (by omega))
                          have hen := eN_le (seg s K1 k)
                          have hen1 : (eN (seg s K1 k) : Int) ≤ 100000 := by omega
                          have hen0 : (0 : Int) ≤ (eN (seg s K1 k) : Int) := by omega
                          cases hb : isD s k with
                          | true =>
                            have hlt := hst.1 hb
                            have hks : k < s.size := by omega
                            have hg := bD_get s k hks
                            have hsg := seg_succ hk1 hks
                            have hdd := of_decide_eq_true (show decide (k < s.size ∧ 48 ≤ bD s k ∧ bD s k ≤ 57) = true from hb)
                            have hcb : (s.data.toList.getD k 0).toNat = bD s k := rfl
                            have hnew := eN_snoc (seg s K1 k) (s.data.toList.getD k 0)
                            rw [hcb, ← hsg] at hnew
                            have ks1 : (k : Int) < (s.size : Int) := by omega
                            rw [hb] at HI
                            generalize bD s k = x at *
                            obtain ⟨d, hd⟩ : ∃ d, d = x - 48 := ⟨_, rfl⟩
                            have x3 : ((x : Int) - 48) % 256 = (d : Int) := by omega
                            have x4 : (x : Int) - 48 = (d : Int) := by omega
                            have d9 : (d : Int) ≤ 9 := by omega
                            have d0 : (0 : Int) ≤ (d : Int) := by omega
                            rw [← hd] at hnew
                            generalize eN (seg s K1 k) = n at *
                            have hmn : min (10 * (n : Int) + (d : Int)) 100000 = ((min (10 * n + d) 100000 : Nat) : Int) := by omega
                            generalize min (10 * n + d) 100000 = mm at *
                            have HK := Lib.hid (And.intro hlt (And.intro hk1 (And.intro hnew hks)))
                            clear hst hk1 hk2 hksz hlt hsg hdd hcb hnew hb hde hd hen
                            go_wp2_with fail
                            refine HI.out.mono ?_
                            rintro e wi ⟨rfl, hw⟩
                            subst hw
                            go_wp2_with fail
                            go_roundw
                            case rel => exact ⟨k + 1, by go_num, by rw [HK.out.2.2.1], by have := HK.out.2.1; omega, HK.out.1, trivial⟩
                            case measure => have := HK.out.2.2.2; simp [intOf]; omega
                          | false =>
                            obtain rfl := hst.2 hb
                            rw [hb] at HI
                            generalize eN (seg s K1 (dE s K1)) = n at *
                            generalize dE s K1 = kk at *
                            clear hst hk1 hk2 hksz hb hde hen
                            obtain ⟨xb1, xb2⟩ := HX.out
                            go_wp2_with fail
                            refine HI.out.mono ?_
                            rintro e wi ⟨rfl, hw⟩
                            subst hw
                            go_wp2_with fail
                            refine (value_any g 0 cap AL _ _ HO.out.1 HO.out.2.1 HO.out.2.2.1 HO.out.2.2.2.1 HO.out.2.2.2.2 (by omega) (by omega)).mono ?_
                            rintro e wv ⟨rfl, hbv⟩
                            go_wp2_with fail
                            go_ret2
                            rw [HN.out]
                            dsimp only
                            rw [HT.out.1, HT.out.2]
                            refine ⟨?_, HBw.out.trans (hbv.mono HBw.out.size)⟩
                            first | rfl | (congr 4; omega) | (simp)
                · have d1i : ¬ (K1 : Int) < (s.size : Int) := by omega
                  have hsg : ¬ sgAt s (I + 1) := by rw [← hK1]; exact fun h => d1 h.1
                  have HI2 := Lib.hid (isdig_any s K1 wr (by omega) (by omega))
                  have HE := Lib.hid he
                  have HSG := Lib.hid hsg
                  clear he hsg hK1 hK2
                  cases hdk : isD s K1 with
                  | false =>
                    rw [hdk] at HI2
                    have HT := Lib.hid (show (numTail s I 0).1 = 0 ∧ (numTail s I 0).2 = I by
                      have he := HE.out
                      have hsg := HSG.out
                      obtain ⟨hK1, hK2⟩ := HKK.out
                      subst hK1
                      unfold numTail
                      rw [if_pos he, if_neg hsg, if_neg (by rw [hdk]; decide)]
                      exact ⟨rfl, rfl⟩)
                    obtain ⟨xb1, xb2⟩ := HX.out
                    clear hdk
                    go_wp2_with fail
                    refine HI2.out.mono ?_
                    rintro e wi ⟨rfl, hw⟩
                    subst hw
                    go_wp2_with fail
                    refine (value_any g 0 cap AL _ _ HO.out.1 HO.out.2.1 HO.out.2.2.1 HO.out.2.2.2.1 HO.out.2.2.2.2 (by omega) (by omega)).mono ?_
                    rintro e wv ⟨rfl, hbv⟩
                    go_wp2_with fail
                    go_ret2
                    rw [HN.out]
                    dsimp only
                    rw [HT.out.1, HT.out.2]
                    refine ⟨?_, HBw.out.trans (hbv.mono HBw.out.size)⟩
                    first | rfl | (congr 4; omega) | (simp)
                  | true =>
                    rw [hdk] at HI2
                    have HT := Lib.hid (show (numTail s I 0).1 = 0 + (eN (seg s K1 (dE s K1)) : Int) ∧ (numTail s I 0).2 = dE s K1 by
                      have he := HE.out
                      have hsg := HSG.out
                      obtain ⟨hK1, hK2⟩ := HKK.out
                      subst hK1
                      unfold numTail
                      rw [if_pos he, if_neg hsg, if_pos hdk]
                      exact ⟨rfl, rfl⟩)
                    have hKs : K1 ≤ s.size := by
                      have := of_decide_eq_true (show decide (K1 < s.size ∧ 48 ≤ bD s K1 ∧ bD s K1 ≤ 57) = true from hdk)
                      omega
                    have HKs := Lib.hid hKs
                    clear hdk hKs
                    go_wp2_with fail
                    refine HI2.out.mono ?_
                    rintro e wi ⟨rfl, hw⟩
                    subst hw
                    go_wp2_with fail
                    go_loopw [10, 12] (fun v10 v12 wz => ∃ k : Nat, v10 = .int .i64 (k : Int) ∧ v12 = .int .i64 (eN (seg s K1 k) : Int) ∧ K1 ≤ k ∧ k ≤ dE s K1 ∧ wr = wz) (fun v10 _ _ => s.size - (intOf v10).toNat)
                    case atStart => exact ⟨K1, rfl, by rw [seg_nil]; rfl, Nat.le_refl _, dE_ge _ _, rfl⟩
                    case round =>
                      obtain ⟨k, rfl, rfl, hk1, hk2, rfl⟩ := hrel
                      have hde := dE_le HKs.out
                      have hst := dE_step hk1 hk2 HKs.out
                      have hksz : k ≤ s.size := by omega
                      have k0 : (0 : Int) ≤ (k : Int) := by omega
                      have k1 : (k : Int) ≤ 1048576 := by omega
                      have HI := Lib.hid (isdig_any s k wr (by omega) (by omega))
                      have hen := eN_le (seg s K1 k)
                      have hen1 : (eN (seg s K1 k) : Int) ≤ 100000 := by omega
                      have hen0 : (0 : Int) ≤ (eN (seg s K1 k) : Int) := by omega
                      cases hb : isD s k with
                      | true =>
                        have hlt := hst.1 hb
                        have hks : k < s.size := by omega
                        have hg := bD_get s k hks
                        have hsg := seg_succ hk1 hks
                        have hdd := of_decide_eq_true (show decide (k < s.size ∧ 48 ≤ bD s k ∧ bD s k ≤ 57) = true from hb)
                        have hcb : (s.data.toList.getD k 0).toNat = bD s k := rfl
                        have hnew := eN_snoc (seg s K1 k) (s.data.toList.getD k 0)
                        rw [hcb, ← hsg] at hnew
                        have ks1 : (k : Int) < (s.size : Int) := by omega
                        rw [hb] at HI
                        generalize bD s k = x at *
                        obtain ⟨d, hd⟩ : ∃ d, d = x - 48 := ⟨_, rfl⟩
                        have x3 : ((x : Int) - 48) % 256 = (d : Int) := by omega
                        have x4 : (x : Int) - 48 = (d : Int) := by omega
                        have d9 : (d : Int) ≤ 9 := by omega
                        have d0 : (0 : Int) ≤ (d : Int) := by omega
                        rw [← hd] at hnew
                        generalize eN (seg s K1 k) = n at *
                        have hmn : min (10 * (n : Int) + (d : Int)) 100000 = ((min (10 * n + d) 100000 : Nat) : Int) := by omega
                        generalize min (10 * n + d) 100000 = mm at *
                        have HK := Lib.hid (And.intro hlt (And.intro hk1 (And.intro hnew hks)))
                        clear hst hk1 hk2 hksz hlt hsg hdd hcb hnew hb hde hd hen
                        go_wp2_with fail
                        refine HI.out.mono ?_
                        rintro e wi ⟨rfl, hw⟩
                        subst hw
                        go_wp2_with fail
                        go_roundw
                        case rel => exact ⟨k + 1, by go_num, by rw [HK.out.2.2.1], by have := HK.out.2.1; omega, HK.out.1, trivial⟩
                        case measure => have := HK.out.2.2.2; simp [intOf]; omega
                      | false =>
                        obtain rfl := hst.2 hb
                        rw [hb] at HI
                        generalize eN (seg s K1 (dE s K1)) = n at *
                        generalize dE s K1 = kk at *
                        clear hst hk1 hk2 hksz hb hde hen
                        obtain ⟨xb1, xb2⟩ := HX.out
                        go_wp2_with fail
                        refine HI.out.mono ?_
                        rintro e wi ⟨rfl, hw⟩
                        subst hw
                        go_wp2_with fail
                        refine (value_any g 0 cap AL _ _ HO.out.1 HO.out.2.1 HO.out.2.2.1 HO.out.2.2.2.1 HO.out.2.2.2.2 (by omega) (by omega)).mono ?_
                        rintro e wv ⟨rfl, hbv⟩
                        go_wp2_with fail
                        go_ret2
                        rw [HN.out]
                        dsimp only
                        rw [HT.out.1, HT.out.2]
                        refine ⟨?_, HBw.out.trans (hbv.mono HBw.out.size)⟩
                        first | rfl | (congr 4; omega) | (simp)
              · have z2 : ((bD s I : Int) == 69) = false := by rw [beq_eq_false_iff_ne]; omega
                have HT := Lib.hid (show (numTail s I 0).1 = 0 ∧ (numTail s I 0).2 = I by
                  unfold numTail
                  rw [if_neg (by rintro ⟨_, h⟩; exact h.elim c2 c3)]
                  exact ⟨rfl, rfl⟩)
                obtain ⟨xb1, xb2⟩ := HX.out
                go_wp2_with fail

                refine (value_any g 0 cap AL _ _ HO.out.1 HO.out.2.1 HO.out.2.2.1 HO.out.2.2.2.1 HO.out.2.2.2.2 (by omega) (by omega)).mono ?_
                rintro e wv ⟨rfl, hbv⟩
                go_wp2_with fail
                go_ret2
                rw [HN.out]
                dsimp only
                rw [HT.out.1, HT.out.2]
                refine ⟨?_, HBw.out.trans (hbv.mono HBw.out.size)⟩
                first | rfl | (congr 4; omega) | (simp)
          · have gg : ¬ (I : Int) < (s.size : Int) := by omega
            clear hown hseg hsl hal0 hcap1 hcap2 hsome c1
            go_wp2_with fail
            refine HI.out.mono ?_
            rintro e wi ⟨rfl, hw⟩
            subst hw
            have I0 : (0 : Int) ≤ (I : Int) := by omega
            have I1 : (I : Int) ≤ 1048576 := by omega
            obtain ⟨K1, K2, HKK⟩ : ∃ K1 K2, Hid (K1 = I + 1 ∧ K2 = K1 + 1) := ⟨_, _, Lib.hid ⟨rfl, rfl⟩⟩

            have HT := Lib.hid (show (numTail s I 0).1 = 0 ∧ (numTail s I 0).2 = I by
              unfold numTail
              rw [if_neg (fun h => cc h.1)]
              exact ⟨rfl, rfl⟩)
            obtain ⟨xb1, xb2⟩ := HX.out
            go_wp2_with fail

            refine (value_any g 0 cap AL _ _ HO.out.1 HO.out.2.1 HO.out.2.2.1 HO.out.2.2.2.1 HO.out.2.2.2.2 (by omega) (by omega)).mono ?_
            rintro e wv ⟨rfl, hbv⟩
            go_wp2_with fail
            go_ret2
            rw [HN.out]
            dsimp only
            rw [HT.out.1, HT.out.2]
            refine ⟨?_, HBw.out.trans (hbv.mono HBw.out.size)⟩
            first | rfl | (congr 4; omega) | (simp)
      · have hsd : decide (frm < I) = false := decide_eq_false hsome
        rw [hsd]
        by_cases cc : I < s.size
        · have gg : (I : Int) < (s.size : Int) := by omega
          have hgI := bD_get s I cc
          by_cases c2 : bD s I = 46
          · have z46 : ((bD s I : Int) == 46) = true := by rw [beq_iff_eq]; omega
            obtain ⟨J, HJ⟩ : ∃ J, Hid (J = I + 1) := ⟨_, Lib.hid rfl⟩
            have kJ : (I : Int) + 1 = (J : Int) := by have := HJ.out; omega
            have J0 : (0 : Int) ≤ (J : Int) := by omega
            have J9 : (J : Int) ≤ 1048577 := by omega
            have HI3 := Lib.hid (isdig_any s J wr (by omega) (by omega))
            cases hdj : isD s J with
            | true =>
              have hdot : dotAt s frm I := ⟨cc, c2, .inr (by rw [← HJ.out]; exact hdj)⟩
              rw [hdj] at HI3
              clear c2 hdj
              have HN0 := Lib.hid (show numR s frm = (valF (AL ++ seg s (I + 1) (dE s (I + 1))) (numTail s (dE s (I + 1)) (-((dE s (I + 1) - (I + 1) : Nat) : Int))).1, (numTail s (dE s (I + 1)) (-((dE s (I + 1) - (I + 1) : Nat) : Int))).2) by rw [HNR.out, if_pos hdot])
              have hJs : J ≤ s.size := by have := HJ.out; omega
              have HJs := Lib.hid hJs
              have hfl : frm < I ∨ J < dE s J := by
                rcases hdot.2.2 with h | h
                · exact .inl h
                · refine .inr ((dE_step (Nat.le_refl J) (dE_ge s J) hJs).1 ?_)
                  rw [HJ.out]; exact h
              have HFL := Lib.hid hfl
              have HAL := Lib.hid (show wr.ownsRow w.heap.size 5 1 u9 (AL ++ seg s J J).length (bytesV (AL ++ seg s J J)) ∧ (∀ x ∈ AL, isDig x) ∧ AL.length ≤ 1048576 from by
                obtain ⟨hown, hseg, hsl⟩ := HOw.out
                rw [seg_nil, List.append_nil]
                exact ⟨hown, hseg, by omega⟩)
              clear hdot hJs hfl
              go_wp2_with fail
              refine HI.out.mono ?_
              rintro e wi ⟨rfl, hw⟩
              subst hw
              go_wp2_with fail
              refine HI3.out.mono ?_
              rintro e wi ⟨rfl, hw⟩
              subst hw
              go_wp2_with fail
              go_loopw [6, 7, 8, 9] (fun v6 v7 v8 v9 wz => ∃ (j : Nat) (x : Int), v6 = .int .i64 (j : Int) ∧ v7 = .int .i64 x ∧ x = (J : Int) - (j : Int) ∧ v8 = .bool (decide (frm < I ∨ J < j)) ∧ J ≤ j ∧ j ≤ dE s J ∧ wz.ownsRow w.heap.size 5 1 v9 (AL ++ seg s J j).length (bytesV (AL ++ seg s J j)) ∧ Below w.heap.size w wz) (fun v6 _ _ _ _ => s.size - (intOf v6).toNat)
              case atStart => exact ⟨J, 0, rfl, rfl, by omega, by rw [decide_eq_false (by intro h; rcases h with h | h; (exact hsome h); (exact Nat.lt_irrefl _ h))], Nat.le_refl _, dE_ge _ _, HAL.out.1, HBw.out⟩
              case round =>
                obtain ⟨j, x, rfl, rfl, hx, rfl, hj1, hj2, hown, hB⟩ := hrel
                have hde2 := dE_le HJs.out
                have hst := dE_step hj1 hj2 HJs.out
                have k0 : (0 : Int) ≤ (j : Int) := by omega
                have k1 : (j : Int) ≤ 1048576 := by omega
                have x1 : -1048577 ≤ x := by have := HJs.out; omega
                have x2 : x ≤ 1048577 := by omega
                have hgz := hB.size
                have HI := Lib.hid (isdig_any s j wr (by omega) (by omega))
                have hsl2 := seg_len (s := s) (i := J) (k := j) (by omega)
                have hall : (AL ++ seg s J j).length ≤ 2097152 := by rw [List.length_append]; have := HAL.out.2.2; omega
                cases hb : isD s j with
                | true =>
                  have hlt := hst.1 hb
                  have hks : j < s.size := by omega
                  have hg := bD_get s j hks
                  have hsg : AL ++ seg s J (j + 1) = (AL ++ seg s J j) ++ [s.data.toList.getD j 0] := by rw [seg_succ hj1 hks, List.append_assoc]
                  have hcb : (s.data.toList.getD j 0).toNat = bD s j := rfl
                  have hv := bytesV_snoc (AL ++ seg s J j) (s.data.toList.getD j 0)
                  have hl1 : (AL ++ seg s J (j + 1)).length = (AL ++ seg s J j).length + 1 := by rw [hsg, List.length_append, List.length_singleton]
                  rw [hcb, ← hsg] at hv
                  rw [hb] at HI
                  have ks1 : (j : Int) < (s.size : Int) := by omega
                  generalize bD s j = xx at *
                  have HK := Lib.hid (And.intro hlt (And.intro hj1 (And.intro hks (And.intro hv (And.intro hl1 (And.intro hB hx))))))
                  have HOW := Lib.hid hown
                  generalize (AL ++ seg s J j).length = n at *
                  generalize bytesV (AL ++ seg s J j) = bv at *
                  clear hst hj1 hj2 hlt hsg hcb hv hl1 hb hde2 hsl2 hB hown hx
                  go_wp2_with fail
                  refine HI.out.mono ?_
                  rintro e wi ⟨rfl, hw⟩
                  subst hw
                  have hown := HOW.out
                  go_wp2_with (at_builtin; refine wpList_append1 109 5 (.tmp 49) (.tmp 53) rfl rfl w.heap.size Try.underlying109 u8_info rfl rfl hown rfl rfl rfl (by unfold maxLen; omega) (by omega) hgz ?_; intro v' w' hown' hgrow _)
                  refine ⟨⟨j + 1, x - 1, by go_num, rfl, by have := HK.out.2.2.2.2.2.2; omega, by rw [decide_eq_true (by have := HK.out.2.1; omega)], by have := HK.out.2.1; omega, HK.out.1, by rw [HK.out.2.2.2.1, HK.out.2.2.2.2.1]; exact hown', HK.out.2.2.2.2.2.1.grown hgrow hgz (fun k hk => (hown.lt k hk).1)⟩, by have := HK.out.2.2.1; simp [intOf]; omega⟩
                | false =>
                  obtain rfl := hst.2 hb
                  rw [hb] at HI
                  have hsd2 := seg_dig (s := s) (i := J) (Nat.le_refl (dE s J))
                  have hfd : decide (frm < I ∨ J < dE s J) = true := decide_eq_true HFL.out
                  rw [hfd]
                  have HN := Lib.hid (show numR s frm = (valF (AL ++ seg s J (dE s J)) (numTail s (dE s J) x).1, (numTail s (dE s J) x).2) by
                    rw [HN0.out, ← HJ.out]
                    have : x = -((dE s J - J : Nat) : Int) := by omega
                    rw [this])
                  have hdig2 : ∀ c ∈ AL ++ seg s J (dE s J), isDig c := fun c hc => by
                    rcases List.mem_append.1 hc with h | h
                    · exact HAL.out.2.1 c h
                    · exact hsd2 c h
                  have hal0 : 0 < (AL ++ seg s J (dE s J)).length := by
                    rw [List.length_append]
                    rcases HFL.out with h | h
                    · obtain ⟨_, _, hsl⟩ := HOw.out
                      omega
                    · omega
                  generalize AL ++ seg s J (dE s J) = AL2 at *
                  generalize dE s J = I2 at *
                  obtain ⟨g, cap, rfl, hcap1, hcap2⟩ := own_form0 hown hal0
                  have HO := Lib.hid (show BytesAt wr g 0 AL2 ∧ AL2.length ≤ cap ∧ cap ≤ maxLen ∧ AL2.length ≤ 2097152 ∧ ∀ x ∈ AL2, isDig x from ⟨bytes_own hown, hcap1, hcap2, hall, hdig2⟩)
                  have HX : Hid ((-2097152 : Int) ≤ x ∧ x ≤ 2097152) := Lib.hid ⟨by omega, by omega⟩
                  have HBw := Lib.hid hB
                  clear hst hb hj1 hj2 hsd2 hfd hdig2 hal0 hall hown hB hsl2 hcap1 hcap2 hx hgI gg cc
                  by_cases cc : I2 < s.size
                  · have gg : (I2 : Int) < (s.size : Int) := by omega
                    have hgI := bD_get s I2 cc
                    go_wp2_with fail
                    refine HI.out.mono ?_
                    rintro e wi ⟨rfl, hw⟩
                    subst hw
                    have I0 : (0 : Int) ≤ (I2 : Int) := by omega
                    have I1 : (I2 : Int) ≤ 1048576 := by omega
                    obtain ⟨K1, K2, HKK⟩ : ∃ K1 K2, Hid (K1 = I2 + 1 ∧ K2 = K1 + 1) := ⟨_, _, Lib.hid ⟨rfl, rfl⟩⟩

                    by_cases c2 : bD s I2 = 101
                    · have he : I2 < s.size ∧ (bD s I2 = 101 ∨ bD s I2 = 69) := ⟨cc, .inl c2⟩
                      have z1 : ((bD s I2 : Int) == 101) = true := by rw [beq_iff_eq]; omega
                      clear c2
                      have hK1 : K1 = I2 + 1 := HKK.out.1
                      have hK2 : K2 = K1 + 1 := HKK.out.2
                      have kI : (I2 : Int) + 1 = (K1 : Int) := by omega
                      have kI2 : (K1 : Int) + 1 = (K2 : Int) := by omega
                      have K10 : (0 : Int) ≤ (K1 : Int) := by omega
                      have K11 : (K1 : Int) ≤ 1048577 := by omega
                      have K21 : (K2 : Int) ≤ 1048578 := by omega
                      by_cases d1 : K1 < s.size
                      · have d1i : (K1 : Int) < (s.size : Int) := by omega
                        have hg2 := bD_get s K1 d1
                        have hx2 : bD s K1 = bD s K1 := rfl
                        by_cases p : bD s K1 = 43
                        · have hsg : sgAt s (I2 + 1) := by rw [← hK1]; exact ⟨d1, .inl p⟩
                          have hx45 : bD s (I2 + 1) = 43 := by rw [← hK1]; exact p
                          have y1 : ((bD s K1 : Int) == 43) = true := by rw [beq_iff_eq]; omega
                          have y2 : ((bD s K1 : Int) == 45) = false := by rw [beq_eq_false_iff_ne]; omega
                          clear hx2 p
                          generalize hq : bD s K1 = x2 at hg2 y1 y2
                          clear hq
                          have HI2 := Lib.hid (isdig_any s K2 wr (by omega) (by omega))
                          have HE := Lib.hid he
                          have HSG := Lib.hid hsg
                          have HX45 := Lib.hid hx45
                          clear hx45
                          clear he hsg hK1 hK2
                          cases hdk : isD s K2 with
                          | false =>
                            rw [hdk] at HI2
                            have HT := Lib.hid (show (numTail s I2 x).1 = x ∧ (numTail s I2 x).2 = I2 by
                              have he := HE.out
                              have hsg := HSG.out
                              have hx45 := HX45.out
                              obtain ⟨hK1, hK2⟩ := HKK.out
                              subst hK2; subst hK1
                              unfold numTail
                              rw [if_pos he, if_pos hsg, if_neg (by rw [hdk]; decide)]
                              exact ⟨rfl, rfl⟩)
                            obtain ⟨xb1, xb2⟩ := HX.out
                            clear hdk
                            go_wp2_with fail
                            refine HI2.out.mono ?_
                            rintro e wi ⟨rfl, hw⟩
                            subst hw
                            go_wp2_with fail
                            refine (value_any g 0 cap AL2 _ _ HO.out.1 HO.out.2.1 HO.out.2.2.1 HO.out.2.2.2.1 HO.out.2.2.2.2 (by omega) (by omega)).mono ?_
                            rintro e wv ⟨rfl, hbv⟩
                            go_wp2_with fail
                            go_ret2
                            rw [HN.out]
                            dsimp only
                            rw [HT.out.1, HT.out.2]
                            refine ⟨?_, HBw.out.trans (hbv.mono HBw.out.size)⟩
                            first | rfl | (congr 4; omega) | (simp)
                          | true =>
                            rw [hdk] at HI2
                            have HT := Lib.hid (show (numTail s I2 x).1 = x + (eN (seg s K2 (dE s K2)) : Int) ∧ (numTail s I2 x).2 = dE s K2 by
                              have he := HE.out
                              have hsg := HSG.out
                              have hx45 := HX45.out
                              obtain ⟨hK1, hK2⟩ := HKK.out
                              subst hK2; subst hK1
                              unfold numTail
                              rw [if_pos he, if_pos hsg, if_pos hdk, if_neg (by intro q; rw [q] at hx45; omega)]
                              exact ⟨rfl, rfl⟩)
                            have hKs : K2 ≤ s.size := by
                              have := of_decide_eq_true (show decide (K2 < s.size ∧ 48 ≤ bD s K2 ∧ bD s K2 ≤ 57) = true from hdk)
                              omega
                            have HKs := Lib.hid hKs
                            clear hdk hKs
                            go_wp2_with fail
                            refine HI2.out.mono ?_
                            rintro e wi ⟨rfl, hw⟩
                            subst hw
                            go_wp2_with fail
                            go_loopw [10, 12] (fun v10 v12 wz => ∃ k : Nat, v10 = .int .i64 (k : Int) ∧ v12 = .int .i64 (eN (seg s K2 k) : Int) ∧ K2 ≤ k ∧ k ≤ dE s K2 ∧ wr = wz) (fun v10 _ _ => s.size - (intOf v10).toNat)
                            case atStart => exact ⟨K2, rfl, by rw [seg_nil]; rfl, Nat.le_refl _, dE_ge _ _, rfl⟩
                            case round =>
                              obtain ⟨k, rfl, rfl, hk1, hk2, rfl⟩ := hrel
                              have hde := dE_le HKs.out
                              have hst := dE_step hk1 hk2 HKs.out
                              have hksz : k ≤ s.size := by omega
                              have k0 : (0 : Int) ≤ (k : Int) := by omega
                              have k1 : (k : Int) ≤ 1048576 := by omega
                              have HI := Lib.hid (isdig_any s k wr (by omega) (by omega))
                              have hen := eN_le (seg s K2 k)
                              have hen1 : (eN (seg s K2 k) : Int) ≤ 100000 := by omega
                              have hen0 : (0 : Int) ≤ (eN (seg s K2 k) : Int) := by omega
                              cases hb : isD s k with
                              | true =>
                                have hlt := hst.1 hb
                                have hks : k < s.size := by omega
                                have hg := bD_get s k hks
                                have hsg := seg_succ hk1 hks
                                have hdd := of_decide_eq_true (show decide (k < s.size ∧ 48 ≤ bD s k ∧ bD s k ≤ 57) = true from hb)
                                have hcb : (s.data.toList.getD k 0).toNat = bD s k := rfl
                                have hnew := eN_snoc (seg s K2 k) (s.data.toList.getD k 0)
                                rw [hcb, ← hsg] at hnew
                                have ks1 : (k : Int) < (s.size : Int) := by omega
                                rw [hb] at HI
                                generalize bD s k = x at *
                                obtain ⟨d, hd⟩ : ∃ d, d = x - 48 := ⟨_, rfl⟩
                                have x3 : ((x : Int) - 48) % 256 = (d : Int) := by omega
                                have x4 : (x : Int) - 48 = (d : Int) := by omega
                                have d9 : (d : Int) ≤ 9 := by omega
                                have d0 : (0 : Int) ≤ (d : Int) := by omega
                                rw [← hd] at hnew
                                generalize eN (seg s K2 k) = n at *
                                have hmn : min (10 * (n : Int) + (d : Int)) 100000 = ((min (10 * n + d) 100000 : Nat) : Int) := by omega
                                generalize min (10 * n + d) 100000 = mm at *
                                have HK := Lib.hid (And.intro hlt (And.intro hk1 (And.intro hnew hks)))
                                clear hst hk1 hk2 hksz hlt hsg hdd hcb hnew hb hde hd hen
                                go_wp2_with fail
                                refine HI.out.mono ?_
                                rintro e wi ⟨rfl, hw⟩
                                subst hw
                                go_wp2_with fail
                                go_roundw
                                case rel => exact ⟨k + 1, by go_num, by rw [HK.out.2.2.1], by have := HK.out.2.1; omega, HK.out.1, trivial⟩
                                case measure => have := HK.out.2.2.2; simp [intOf]; omega
                              | false =>
                                obtain rfl := hst.2 hb
                                rw [hb] at HI
                                generalize eN (seg s K2 (dE s K2)) = n at *
                                generalize dE s K2 = kk at *
                                clear hst hk1 hk2 hksz hb hde hen
                                obtain ⟨xb1, xb2⟩ := HX.out
                                go_wp2_with fail
                                refine HI.out.mono ?_
                                rintro e wi ⟨rfl, hw⟩
                                subst hw
                                go_wp2_with fail
                                refine (value_any g 0 cap AL2 _ _ HO.out.1 HO.out.2.1 HO.out.2.2.1 HO.out.2.2.2.1 HO.out.2.2.2.2 (by omega) (by omega)).mono ?_
                                rintro e wv ⟨rfl, hbv⟩
                                go_wp2_with fail
                                go_ret2
                                rw [HN.out]
                                dsimp only
                                rw [HT.out.1, HT.out.2]
                                refine ⟨?_, HBw.out.trans (hbv.mono HBw.out.size)⟩
                                first | rfl | (congr 4; omega) | (simp)
                        · have y1 : ((bD s K1 : Int) == 43) = false := by rw [beq_eq_false_iff_ne]; omega
                          by_cases q : bD s K1 = 45
                          · have hsg : sgAt s (I2 + 1) := by rw [← hK1]; exact ⟨d1, .inr q⟩
                            have hx45 : bD s (I2 + 1) = 45 := by rw [← hK1]; exact q
                            have y2 : ((bD s K1 : Int) == 45) = true := by rw [beq_iff_eq]; omega
                            clear hx2 p q
                            generalize hq : bD s K1 = x2 at hg2 y1 y2
                            clear hq
                            have HI2 := Lib.hid (isdig_any s K2 wr (by omega) (by omega))
                            have HE := Lib.hid he
                            have HSG := Lib.hid hsg
                            have HX45 := Lib.hid hx45
                            clear hx45
                            clear he hsg hK1 hK2
                            cases hdk : isD s K2 with
                            | false =>
                              rw [hdk] at HI2
                              have HT := Lib.hid (show (numTail s I2 x).1 = x ∧ (numTail s I2 x).2 = I2 by
                                have he := HE.out
                                have hsg := HSG.out
                                have hx45 := HX45.out
                                obtain ⟨hK1, hK2⟩ := HKK.out
                                subst hK2; subst hK1
                                unfold numTail
                                rw [if_pos he, if_pos hsg, if_neg (by rw [hdk]; decide)]
                                exact ⟨rfl, rfl⟩)
                              obtain ⟨xb1, xb2⟩ := HX.out
                              clear hdk
                              go_wp2_with fail
                              refine HI2.out.mono ?_
                              rintro e wi ⟨rfl, hw⟩
                              subst hw
                              go_wp2_with fail
                              refine (value_any g 0 cap AL2 _ _ HO.out.1 HO.out.2.1 HO.out.2.2.1 HO.out.2.2.2.1 HO.out.2.2.2.2 (by omega) (by omega)).mono ?_
                              rintro e wv ⟨rfl, hbv⟩
                              go_wp2_with fail
                              go_ret2
                              rw [HN.out]
                              dsimp only
                              rw [HT.out.1, HT.out.2]
                              refine ⟨?_, HBw.out.trans (hbv.mono HBw.out.size)⟩
                              first | rfl | (congr 4; omega) | (simp)
                            | true =>
                              rw [hdk] at HI2
                              have HT := Lib.hid (show (numTail s I2 x).1 = x + -(eN (seg s K2 (dE s K2)) : Int) ∧ (numTail s I2 x).2 = dE s K2 by
                                have he := HE.out
                                have hsg := HSG.out
                                have hx45 := HX45.out
                                obtain ⟨hK1, hK2⟩ := HKK.out
                                subst hK2; subst hK1
                                unfold numTail
                                rw [if_pos he, if_pos hsg, if_pos hdk, if_pos hx45]
                                exact ⟨rfl, rfl⟩)
                              have hKs : K2 ≤ s.size := by
                                have := of_decide_eq_true (show decide (K2 < s.size ∧ 48 ≤ bD s K2 ∧ bD s K2 ≤ 57) = true from hdk)
                                omega
                              have HKs := Lib.hid hKs
                              clear hdk hKs
                              go_wp2_with fail
                              refine HI2.out.mono ?_
                              rintro e wi ⟨rfl, hw⟩
                              subst hw
                              go_wp2_with fail
                              go_loopw [10, 12] (fun v10 v12 wz => ∃ k : Nat, v10 = .int .i64 (k : Int) ∧ v12 = .int .i64 (eN (seg s K2 k) : Int) ∧ K2 ≤ k ∧ k ≤ dE s K2 ∧ wr = wz) (fun v10 _ _ => s.size - (intOf v10).toNat)
                              case atStart => exact ⟨K2, rfl, by rw [seg_nil]; rfl, Nat.le_refl _, dE_ge _ _, rfl⟩
                              case round =>
                                obtain ⟨k, rfl, rfl, hk1, hk2, rfl⟩ := hrel
                                have hde := dE_le HKs.out
                                have hst := dE_step hk1 hk2 HKs.out
                                have hksz : k ≤ s.size := by omega
                                have k0 : (0 : Int) ≤ (k : Int) := by omega
                                have k1 : (k : Int) ≤ 1048576 := by omega
                                have HI := Lib.hid (isdig_any s k wr (by omega) (by omega))
                                have hen := eN_le (seg s K2 k)
                                have hen1 : (eN (seg s K2 k) : Int) ≤ 100000 := by omega
                                have hen0 : (0 : Int) ≤ (eN (seg s K2 k) : Int) := by omega
                                cases hb : isD s k with
                                | true =>
                                  have hlt := hst.1 hb
                                  have hks : k < s.size := by omega
                                  have hg := bD_get s k hks
                                  have hsg := seg_succ hk1 hks
                                  have hdd := of_decide_eq_true (show decide (k < s.size ∧ 48 ≤ bD s k ∧ bD s k ≤ 57) = true from hb)
                                  have hcb : (s.data.toList.getD k 0).toNat = bD s k := rfl
                                  have hnew := eN_snoc (seg s K2 k) (s.data.toList.getD k 0)
                                  rw [hcb, ← hsg] at hnew
                                  have ks1 : (k : Int) < (s.size : Int) := by omega
                                  rw [hb] at HI
                                  generalize bD s k = x at *
                                  obtain ⟨d, hd⟩ : ∃ d, d = x - 48 := ⟨_, rfl⟩
                                  have x3 : ((x : Int) - 48) % 256 = (d : Int) := by omega
                                  have x4 : (x : Int) - 48 = (d : Int) := by omega
                                  have d9 : (d : Int) ≤ 9 := by omega
                                  have d0 : (0 : Int) ≤ (d : Int) := by omega
                                  rw [← hd] at hnew
                                  generalize eN (seg s K2 k) = n at *
                                  have hmn : min (10 * (n : Int) + (d : Int)) 100000 = ((min (10 * n + d) 100000 : Nat) : Int) := by omega
                                  generalize min (10 * n + d) 100000 = mm at *
                                  have HK := Lib.hid (And.intro hlt (And.intro hk1 (And.intro hnew hks)))
                                  clear hst hk1 hk2 hksz hlt hsg hdd hcb hnew hb hde hd hen
                                  go_wp2_with fail
                                  refine HI.out.mono ?_
                                  rintro e wi ⟨rfl, hw⟩
                                  subst hw
                                  go_wp2_with fail
                                  go_roundw
                                  case rel => exact ⟨k + 1, by go_num, by rw [HK.out.2.2.1], by have := HK.out.2.1; omega, HK.out.1, trivial⟩
                                  case measure => have := HK.out.2.2.2; simp [intOf]; omega
                                | false =>
                                  obtain rfl := hst.2 hb
                                  rw [hb] at HI
                                  generalize eN (seg s K2 (dE s K2)) = n at *
                                  generalize dE s K2 = kk at *
                                  clear hst hk1 hk2 hksz hb hde hen
                                  obtain ⟨xb1, xb2⟩ := HX.out
                                  go_wp2_with fail
                                  refine HI.out.mono ?_
                                  rintro e wi ⟨rfl, hw⟩
                                  subst hw
                                  go_wp2_with fail
                                  refine (value_any g 0 cap AL2 _ _ HO.out.1 HO.out.2.1 HO.out.2.2.1 HO.out.2.2.2.1 HO.out.2.2.2.2 (by omega) (by omega)).mono ?_
                                  rintro e wv ⟨rfl, hbv⟩
                                  go_wp2_with fail
                                  go_ret2
                                  rw [HN.out]
                                  dsimp only
                                  rw [HT.out.1, HT.out.2]
                                  refine ⟨?_, HBw.out.trans (hbv.mono HBw.out.size)⟩
                                  first | rfl | (congr 4; omega) | (simp)
                          · have hsg : ¬ sgAt s (I2 + 1) := by
                              rw [← hK1]
                              rintro ⟨_, h⟩
                              rcases h with h | h
                              · exact p h
                              · exact q h
                            have y2 : ((bD s K1 : Int) == 45) = false := by rw [beq_eq_false_iff_ne]; omega
                            clear hx2 p q
                            generalize hq : bD s K1 = x2 at hg2 y1 y2
                            clear hq
                            have HI2 := Lib.hid (isdig_any s K1 wr (by omega) (by omega))
                            have HE := Lib.hid he
                            have HSG := Lib.hid hsg
                            clear he hsg hK1 hK2
                            cases hdk : isD s K1 with
                            | false =>
                              rw [hdk] at HI2
                              have HT := Lib.hid (show (numTail s I2 x).1 = x ∧ (numTail s I2 x).2 = I2 by
                                have he := HE.out
                                have hsg := HSG.out
                                obtain ⟨hK1, hK2⟩ := HKK.out
                                subst hK1
                                unfold numTail
                                rw [if_pos he, if_neg hsg, if_neg (by rw [hdk]; decide)]
                                exact ⟨rfl, rfl⟩)
                              obtain ⟨xb1, xb2⟩ := HX.out
                              clear hdk
                              go_wp2_with fail
                              refine HI2.out.mono ?_
                              rintro e wi ⟨rfl, hw⟩
                              subst hw
                              go_wp2_with fail
                              refine (value_any g 0 cap AL2 _ _ HO.out.1 HO.out.2.1 HO.out.2.2.1 HO.out.2.2.2.1 HO.out.2.2.2.2 (by omega) (by omega)).mono ?_
                              rintro e wv ⟨rfl, hbv⟩
                              go_wp2_with fail
                              go_ret2
                              rw [HN.out]
                              dsimp only
                              rw [HT.out.1, HT.out.2]
                              refine ⟨?_, HBw.out.trans (hbv.mono HBw.out.size)⟩
                              first | rfl | (congr 4; omega) | (simp)
                            | true =>
                              rw [hdk] at HI2
                              have HT := Lib.hid (show (numTail s I2 x).1 = x + (eN (seg s K1 (dE s K1)) : Int) ∧ (numTail s I2 x).2 = dE s K1 by
                                have he := HE.out
                                have hsg := HSG.out
                                obtain ⟨hK1, hK2⟩ := HKK.out
                                subst hK1
                                unfold numTail
                                rw [if_pos he, if_neg hsg, if_pos hdk]
                                exact ⟨rfl, rfl⟩)
                              have hKs : K1 ≤ s.size := by
                                have := of_decide_eq_true (show decide (K1 < s.size ∧ 48 ≤ bD s K1 ∧ bD s K1 ≤ 57) = true from hdk)
                                omega
                              have HKs := Lib.hid hKs
                              clear hdk hKs
                              go_wp2_with fail
                              refine HI2.out.mono ?_
                              rintro e wi ⟨rfl, hw⟩
                              subst hw
                              go_wp2_with fail
                              go_loopw [10, 12] (fun v10 v12 wz => ∃ k : Nat, v10 = .int .i64 (k : Int) ∧ v12 = .int .i64 (eN (seg s K1 k) : Int) ∧ K1 ≤ k ∧ k ≤ dE s K1 ∧ wr = wz) (fun v10 _ _ => s.size - (intOf v10).toNat)
                              case atStart => exact ⟨K1, rfl, by rw [seg_nil]; rfl, Nat.le_refl _, dE_ge _ _, rfl⟩
                              case round =>
                                obtain ⟨k, rfl, rfl, hk1, hk2, rfl⟩ := hrel
                                have hde := dE_le HKs.out
                                have hst := dE_step hk1 hk2 HKs.out
                                have hksz : k ≤ s.size := by omega
                                have k0 : (0 : Int) ≤ (k : Int) := by omega
                                have k1 : (k : Int) ≤ 1048576 := by omega
                                have HI := Lib.hid (isdig_any s k wr (by omega) (by omega))
                                have hen := eN_le (seg s K1 k)
                                have hen1 : (eN (seg s K1 k) : Int) ≤ 100000 := by omega
                                have hen0 : (0 : Int) ≤ (eN (seg s K1 k) : Int) := by omega
                                cases hb : isD s k with
                                | true =>
                                  have hlt := hst.1 hb
                                  have hks : k < s.size := by omega
                                  have hg := bD_get s k hks
                                  have hsg := seg_succ hk1 hks
                                  have hdd := of_decide_eq_true (show decide (k < s.size ∧ 48 ≤ bD s k ∧ bD s k ≤ 57) = true from hb)
                                  have hcb : (s.data.toList.getD k 0).toNat = bD s k := rfl
                                  have hnew := eN_snoc (seg s K1 k) (s.data.toList.getD k 0)
                                  rw [hcb, ← hsg] at hnew
                                  have ks1 : (k : Int) < (s.size : Int) := by omega
                                  rw [hb] at HI
                                  generalize bD s k = x at *
                                  obtain ⟨d, hd⟩ : ∃ d, d = x - 48 := ⟨_, rfl⟩
                                  have x3 : ((x : Int) - 48) % 256 = (d : Int) := by omega
                                  have x4 : (x : Int) - 48 = (d : Int) := by omega
                                  have d9 : (d : Int) ≤ 9 := by omega
                                  have d0 : (0 : Int) ≤ (d : Int) := by omega
                                  rw [← hd] at hnew
                                  generalize eN (seg s K1 k) = n at *
                                  have hmn : min (10 * (n : Int) + (d : Int)) 100000 = ((min (10 * n + d) 100000 : Nat) : Int) := by omega
                                  generalize min (10 * n + d) 100000 = mm at *
                                  have HK := Lib.hid (And.intro hlt (And.intro hk1 (And.intro hnew hks)))
                                  clear hst hk1 hk2 hksz hlt hsg hdd hcb hnew hb hde hd hen
                                  go_wp2_with fail
                                  refine HI.out.mono ?_
                                  rintro e wi ⟨rfl, hw⟩
                                  subst hw
                                  go_wp2_with fail
                                  go_roundw
                                  case rel => exact ⟨k + 1, by go_num, by rw [HK.out.2.2.1], by have := HK.out.2.1; omega, HK.out.1, trivial⟩
                                  case measure => have := HK.out.2.2.2; simp [intOf]; omega
                                | false =>
                                  obtain rfl := hst.2 hb
                                  rw [hb] at HI
                                  generalize eN (seg s K1 (dE s K1)) = n at *
                                  generalize dE s K1 = kk at *
                                  clear hst hk1 hk2 hksz hb hde hen
                                  obtain ⟨xb1, xb2⟩ := HX.out
                                  go_wp2_with fail
                                  refine HI.out.mono ?_
                                  rintro e wi ⟨rfl, hw⟩
                                  subst hw
                                  go_wp2_with fail
                                  refine (value_any g 0 cap AL2 _ _ HO.out.1 HO.out.2.1 HO.out.2.2.1 HO.out.2.2.2.1 HO.out.2.2.2.2 (by omega) (by omega)).mono ?_
                                  rintro e wv ⟨rfl, hbv⟩
                                  go_wp2_with fail
                                  go_ret2
                                  rw [HN.out]
                                  dsimp only
                                  rw [HT.out.1, HT.out.2]
                                  refine ⟨?_, HBw.out.trans (hbv.mono HBw.out.size)⟩
                                  first | rfl | (congr 4; omega) | (simp)
                      · have d1i : ¬ (K1 : Int) < (s.size : Int) := by omega
                        have hsg : ¬ sgAt s (I2 + 1) := by rw [← hK1]; exact fun h => d1 h.1
                        have HI2 := Lib.hid (isdig_any s K1 wr (by omega) (by omega))
                        have HE := Lib.hid he
                        have HSG := Lib.hid hsg
                        clear he hsg hK1 hK2
                        cases hdk : isD s K1 with
                        | false =>
                          rw [hdk] at HI2
                          have HT := Lib.hid (show (numTail s I2 x).1 = x ∧ (numTail s I2 x).2 = I2 by
                            have he := HE.out
                            have hsg := HSG.out
                            obtain ⟨hK1, hK2⟩ := HKK.out
                            subst hK1
                            unfold numTail
                            rw [if_pos he, if_neg hsg, if_neg (by rw [hdk]; decide)]
                            exact ⟨rfl, rfl⟩)
                          obtain ⟨xb1, xb2⟩ := HX.out
                          clear hdk
                          go_wp2_with fail
                          refine HI2.out.mono ?_
                          rintro e wi ⟨rfl, hw⟩
                          subst hw
                          go_wp2_with fail
                          refine (value_any g 0 cap AL2 _ _ HO.out.1 HO.out.2.1 HO.out.2.2.1 HO.out.2.2.2.1 HO.out.2.2.2.2 (by omega) (by omega)).mono ?_
                          rintro e wv ⟨rfl, hbv⟩
                          go_wp2_with fail
                          go_ret2
                          rw [HN.out]
                          dsimp only
                          rw [HT.out.1, HT.out.2]
                          refine ⟨?_, HBw.out.trans (hbv.mono HBw.out.size)⟩
                          first | rfl | (congr 4; omega) | (simp)
                        | true =>
                          rw [hdk] at HI2
                          have HT := Lib.hid (show (numTail s I2 x).1 = x + (eN (seg s K1 (dE s K1)) : Int) ∧ (numTail s I2 x).2 = dE s K1 by
                            have he := HE.out
                            have hsg := HSG.out
                            obtain ⟨hK1, hK2⟩ := HKK.out
                            subst hK1
                            unfold numTail
                            rw [if_pos he, if_neg hsg, if_pos hdk]
                            exact ⟨rfl, rfl⟩)
                          have hKs : K1 ≤ s.size := by
                            have := of_decide_eq_true (show decide (K1 < s.size ∧ 48 ≤ bD s K1 ∧ bD s K1 ≤ 57) = true from hdk)
                            omega
                          have HKs := Lib.hid hKs
                          clear hdk hKs
                          go_wp2_with fail
                          refine HI2.out.mono ?_
                          rintro e wi ⟨rfl, hw⟩
                          subst hw
                          go_wp2_with fail
                          go_loopw [10, 12] (fun v10 v12 wz => ∃ k : Nat, v10 = .int .i64 (k : Int) ∧ v12 = .int .i64 (eN (seg s K1 k) : Int) ∧ K1 ≤ k ∧ k ≤ dE s K1 ∧ wr = wz) (fun v10 _ _ => s.size - (intOf v10).toNat)
                          case atStart => exact ⟨K1, rfl, by rw [seg_nil]; rfl, Nat.le_refl _, dE_ge _ _, rfl⟩
                          case round =>
                            obtain ⟨k, rfl, rfl, hk1, hk2, rfl⟩ := hrel
                            have hde := dE_le HKs.out
                            have hst := dE_step hk1 hk2 HKs.out
                            have hksz : k ≤ s.size := by omega
                            have k0 : (0 : Int) ≤ (k : Int) := by omega
                            have k1 : (k : Int) ≤ 1048576 := by omega
                            have HI := Lib.hid (isdig_any s k wr (by omega) (by omega))
                            have hen := eN_le (seg s K1 k)
                            have hen1 : (eN (seg s K1 k) : Int) ≤ 100000 := by omega
                            have hen0 : (0 : Int) ≤ (eN (seg s K1 k) : Int) := by omega
                            cases hb : isD s k with
                            | true =>
                              have hlt := hst.1 hb
                              have hks : k < s.size := by omega
                              have hg := bD_get s k hks
                              have hsg := seg_succ hk1 hks
                              have hdd := of_decide_eq_true (show decide (k < s.size ∧ 48 ≤ bD s k ∧ bD s k ≤ 57) = true from hb)
                              have hcb : (s.data.toList.getD k 0).toNat = bD s k := rfl
                              have hnew := eN_snoc (seg s K1 k) (s.data.toList.getD k 0)
                              rw [hcb, ← hsg] at hnew
                              have ks1 : (k : Int) < (s.size : Int) := by omega
                              rw [hb] at HI
                              generalize bD s k = x at *
                              obtain ⟨d, hd⟩ : ∃ d, d = x - 48 := ⟨_, rfl⟩
                              have x3 : ((x : Int) - 48) % 256 = (d : Int) := by omega
                              have x4 : (x : Int) - 48 = (d : Int) := by omega
                              have d9 : (d : Int) ≤ 9 := by omega
                              have d0 : (0 : Int) ≤ (d : Int) := by omega
                              rw [← hd] at hnew
                              generalize eN (seg s K1 k) = n at *
                              have hmn : min (10 * (n : Int) + (d : Int)) 100000 = ((min (10 * n + d) 100000 : Nat) : Int) := by omega
                              generalize min (10 * n + d) 100000 = mm at *
                              have HK := Lib.hid (And.intro hlt (And.intro hk1 (And.intro hnew hks)))
                              clear hst hk1 hk2 hksz hlt hsg hdd hcb hnew hb hde hd hen
                              go_wp2_with fail
                              refine HI.out.mono ?_
                              rintro e wi ⟨rfl, hw⟩
                              subst hw
                              go_wp2_with fail
                              go_roundw
                              case rel => exact ⟨k + 1, by go_num, by rw [HK.out.2.2.1], by have := HK.out.2.1; omega, HK.out.1, trivial⟩
                              case measure => have := HK.out.2.2.2; simp [intOf]; omega
                            | false =>
                              obtain rfl := hst.2 hb
                              rw [hb] at HI
                              generalize eN (seg s K1 (dE s K1)) = n at *
                              generalize dE s K1 = kk at *
                              clear hst hk1 hk2 hksz hb hde hen
                              obtain ⟨xb1, xb2⟩ := HX.out
                              go_wp2_with fail
                              refine HI.out.mono ?_
                              rintro e wi ⟨rfl, hw⟩
                              subst hw
                              go_wp2_with fail
                              refine (value_any g 0 cap AL2 _ _ HO.out.1 HO.out.2.1 HO.out.2.2.1 HO.out.2.2.2.1 HO.out.2.2.2.2 (by omega) (by omega)).mono ?_
                              rintro e wv ⟨rfl, hbv⟩
                              go_wp2_with fail
                              go_ret2
                              rw [HN.out]
                              dsimp only
                              rw [HT.out.1, HT.out.2]
                              refine ⟨?_, HBw.out.trans (hbv.mono HBw.out.size)⟩
                              first | rfl | (congr 4; omega) | (simp)
                    · have z1 : ((bD s I2 : Int) == 101) = false := by rw [beq_eq_false_iff_ne]; omega
                      by_cases c3 : bD s I2 = 69
                      · have he : I2 < s.size ∧ (bD s I2 = 101 ∨ bD s I2 = 69) := ⟨cc, .inr c3⟩
                        have z2 : ((bD s I2 : Int) == 69) = true := by rw [beq_iff_eq]; omega
                        clear c2 c3
                        have hK1 : K1 = I2 + 1 := HKK.out.1
                        have hK2 : K2 = K1 + 1 := HKK.out.2
                        have kI : (I2 : Int) + 1 = (K1 : Int) := by omega
                        have kI2 : (K1 : Int) + 1 = (K2 : Int) := by omega
                        have K10 : (0 : Int) ≤ (K1 : Int) := by omega
                        have K11 : (K1 : Int) ≤ 1048577 := by omega
                        have K21 : (K2 : Int) ≤ 1048578 := by omega
                        by_cases d1 : K1 < s.size
                        · have d1i : (K1 : Int) < (s.size : Int) := by omega
                          have hg2 := bD_get s K1 d1
                          have hx2 : bD s K1 = bD s K1 := rfl
                          by_cases p : bD s K1 = 43
                          · have hsg : sgAt s (I2 + 1) := by rw [← hK1]; exact ⟨d1, .inl p⟩
                            have hx45 : bD s (I2 + 1) = 43 := by rw [← hK1]; exact p
                            have y1 : ((bD s K1 : Int) == 43) = true := by rw [beq_iff_eq]; omega
                            have y2 : ((bD s K1 : Int) == 45) = false := by rw [beq_eq_false_iff_ne]; omega
                            clear hx2 p
                            generalize hq : bD s K1 = x2 at hg2 y1 y2
                            clear hq
                            have HI2 := Lib.hid (isdig_any s K2 wr (by omega) (by omega))
                            have HE := Lib.hid he
                            have HSG := Lib.hid hsg
                            have HX45 := Lib.hid hx45
                            clear hx45
                            clear he hsg hK1 hK2
                            cases hdk : isD s K2 with
                            | false =>
                              rw [hdk] at HI2
                              have HT := Lib.hid (show (numTail s I2 x).1 = x ∧ (numTail s I2 x).2 = I2 by
                                have he := HE.out
                                have hsg := HSG.out
                                have hx45 := HX45.out
                                obtain ⟨hK1, hK2⟩ := HKK.out
                                subst hK2; subst hK1
                                unfold numTail
                                rw [if_pos he, if_pos hsg, if_neg (by rw [hdk]; decide)]
                                exact ⟨rfl, rfl⟩)
                              obtain ⟨xb1, xb2⟩ := HX.out
                              clear hdk
                              go_wp2_with fail
                              refine HI2.out.mono ?_
                              rintro e wi ⟨rfl, hw⟩
                              subst hw
                              go_wp2_with fail
                              refine (value_any g 0 cap AL2 _ _ HO.out.1 HO.out.2.1 HO.out.2.2.1 HO.out.2.2.2.1 HO.out.2.2.2.2 (by omega) (by omega)).mono ?_
                              rintro e wv ⟨rfl, hbv⟩
                              go_wp2_with fail
                              go_ret2
                              rw [HN.out]
                              dsimp only
                              rw [HT.out.1, HT.out.2]
                              refine ⟨?_, HBw.out.trans (hbv.mono HBw.out.size)⟩
                              first | rfl | (congr 4; omega) | (simp)
                            | true =>
                              rw [hdk] at HI2
                              have HT := Lib.hid (show (numTail s I2 x).1 = x + (eN (seg s K2 (dE s K2)) : Int) ∧ (numTail s I2 x).2 = dE s K2 by
                                have he := HE.out
                                have hsg := HSG.out
                                have hx45 := HX45.out
                                obtain ⟨hK1, hK2⟩ := HKK.out
                                subst hK2; subst hK1
                                unfold numTail
                                rw [if_pos he, if_pos hsg, if_pos hdk, if_neg (by intro q; rw [q] at hx45; omega)]
                                exact ⟨rfl, rfl⟩)
                              have hKs : K2 ≤ s.size := by
                                have := of_decide_eq_true (show decide (K2 < s.size ∧ 48 ≤ bD s K2 ∧ bD s K2 ≤ 57) = true from hdk)
                                omega
                              have HKs := Lib.hid hKs
                              clear hdk hKs
                              go_wp2_with fail
                              refine HI2.out.mono ?_
                              rintro e wi ⟨rfl, hw⟩
                              subst hw
                              go_wp2_with fail
                              go_loopw [10, 12] (fun v10 v12 wz => ∃ k : Nat, v10 = .int .i64 (k : Int) ∧ v12 = .int .i64 (eN (seg s K2 k) : Int) ∧ K2 ≤ k ∧ k ≤ dE s K2 ∧ wr = wz) (fun v10 _ _ => s.size - (intOf v10).toNat)
                              case atStart => exact ⟨K2, rfl, by rw [seg_nil]; rfl, Nat.le_refl _, dE_ge _ _, rfl⟩
                              case round =>
                                obtain ⟨k, rfl, rfl, hk1, hk2, rfl⟩ := hrel
                                have hde := dE_le HKs.out
                                have hst := dE_step hk1 hk2 HKs.out
                                have hksz : k ≤ s.size := by omega
                                have k0 : (0 : Int) ≤ (k : Int) := by omega
                                have k1 : (k : Int) ≤ 1048576 := by omega
                                have HI := Lib.hid (isdig_any s k wr (by omega) (by omega))
                                have hen := eN_le (seg s K2 k)
                                have hen1 : (eN (seg s K2 k) : Int) ≤ 100000 := by omega
                                have hen0 : (0 : Int) ≤ (eN (seg s K2 k) : Int) := by omega
                                cases hb : isD s k with
                                | true =>
                                  have hlt := hst.1 hb
                                  have hks : k < s.size := by omega
                                  have hg := bD_get s k hks
                                  have hsg := seg_succ hk1 hks
                                  have hdd := of_decide_eq_true (show decide (k < s.size ∧ 48 ≤ bD s k ∧ bD s k ≤ 57) = true from hb)
                                  have hcb : (s.data.toList.getD k 0).toNat = bD s k := rfl
                                  have hnew := eN_snoc (seg s K2 k) (s.data.toList.getD k 0)
                                  rw [hcb, ← hsg] at hnew
                                  have ks1 : (k : Int) < (s.size : Int) := by omega
                                  rw [hb] at HI
                                  generalize bD s k = x at *
                                  obtain ⟨d, hd⟩ : ∃ d, d = x - 48 := ⟨_, rfl⟩
                                  have x3 : ((x : Int) - 48) % 256 = (d : Int) := by omega
                                  have x4 : (x : Int) - 48 = (d : Int) := by omega
                                  have d9 : (d : Int) ≤ 9 := by omega
                                  have d0 : (0 : Int) ≤ (d : Int) := by omega
                                  rw [← hd] at hnew
                                  generalize eN (seg s K2 k) = n at *
                                  have hmn : min (10 * (n : Int) + (d : Int)) 100000 = ((min (10 * n + d) 100000 : Nat) : Int) := by omega
                                  generalize min (10 * n + d) 100000 = mm at *
                                  have HK := Lib.hid (And.intro hlt (And.intro hk1 (And.intro hnew hks)))
                                  clear hst hk1 hk2 hksz hlt hsg hdd hcb hnew hb hde hd hen
                                  go_wp2_with fail
                                  refine HI.out.mono ?_
                                  rintro e wi ⟨rfl, hw⟩
                                  subst hw
                                  go_wp2_with fail
                                  go_roundw
                                  case rel => exact ⟨k + 1, by go_num, by rw [HK.out.2.2.1], by have := HK.out.2.1; omega, HK.out.1, trivial⟩
                                  case measure => have := HK.out.2.2.2; simp [intOf]; omega
                                | false =>
                                  obtain rfl := hst.2 hb
                                  rw [hb] at HI
                                  generalize eN (seg s K2 (dE s K2)) = n at *
                                  generalize dE s K2 = kk at *
                                  clear hst hk1 hk2 hksz hb hde hen
                                  obtain ⟨xb1, xb2⟩ := HX.out
                                  go_wp2_with fail
                                  refine HI.out.mono ?_
                                  rintro e wi ⟨rfl, hw⟩
                                  subst hw
                                  go_wp2_with fail
                                  refine (value_any g 0 cap AL2 _ _ HO.out.1 HO.out.2.1 HO.out.2.2.1 HO.out.2.2.2.1 HO.out.2.2.2.2 (by omega) (by omega)).mono ?_
                                  rintro e wv ⟨rfl, hbv⟩
                                  go_wp2_with fail
                                  go_ret2
                                  rw [HN.out]
                                  dsimp only
                                  rw [HT.out.1, HT.out.2]
                                  refine ⟨?_, HBw.out.trans (hbv.mono HBw.out.size)⟩
                                  first | rfl | (congr 4; omega) | (simp)
                          · have y1 : ((bD s K1 : Int) == 43) = false := by rw [beq_eq_false_iff_ne]; omega
                            by_cases q : bD s K1 = 45
                            · have hsg : sgAt s (I2 + 1) := by rw [← hK1]; exact ⟨d1, .inr q⟩
                              have hx45 : bD s (I2 + 1) = 45 := by rw [← hK1]; exact q
                              have y2 : ((bD s K1 : Int) == 45) = true := by rw [beq_iff_eq]; omega
                              clear hx2 p q
                              generalize hq : bD s K1 = x2 at hg2 y1 y2
                              clear hq
                              have HI2 := Lib.hid (isdig_any s K2 wr (by omega) (by omega))
                              have HE := Lib.hid he
                              have HSG := Lib.hid hsg
                              have HX45 := Lib.hid hx45
                              clear hx45
                              clear he hsg hK1 hK2
                              cases hdk : isD s K2 with
                              | false =>
                                rw [hdk] at HI2
                                have HT := Lib.hid (show (numTail s I2 x).1 = x ∧ (numTail s I2 x).2 = I2 by
                                  have he := HE.out
                                  have hsg := HSG.out
                                  have hx45 := HX45.out
                                  obtain ⟨hK1, hK2⟩ := HKK.out
                                  subst hK2; subst hK1
                                  unfold numTail
                                  rw [if_pos he, if_pos hsg, if_neg (by rw [hdk]; decide)]
                                  exact ⟨rfl, rfl⟩)
                                obtain ⟨xb1, xb2⟩ := HX.out
                                clear hdk
                                go_wp2_with fail
                                refine HI2.out.mono ?_
                                rintro e wi ⟨rfl, hw⟩
                                subst hw
                                go_wp2_with fail
                                refine (value_any g 0 cap AL2 _ _ HO.out.1 HO.out.2.1 HO.out.2.2.1 HO.out.2.2.2.1 HO.out.2.2.2.2 (by omega) (by omega)).mono ?_
                                rintro e wv ⟨rfl, hbv⟩
                                go_wp2_with fail
                                go_ret2
                                rw [HN.out]
                                dsimp only
                                rw [HT.out.1, HT.out.2]
                                refine ⟨?_, HBw.out.trans (hbv.mono HBw.out.size)⟩
                                first | rfl | (congr 4; omega) | (simp)
                              | true =>
                                rw [hdk] at HI2
                                have HT := Lib.hid (show (numTail s I2 x).1 = x + -(eN (seg s K2 (dE s K2)) : Int) ∧ (numTail s I2 x).2 = dE s K2 by
                                  have he := HE.out
                                  have hsg := HSG.out
                                  have hx45 := HX45.out
                                  obtain ⟨hK1, hK2⟩ := HKK.out
                                  subst hK2; subst hK1
                                  unfold numTail
                                  rw [if_pos he, if_pos hsg, if_pos hdk, if_pos hx45]
                                  exact ⟨rfl, rfl⟩)
                                have hKs : K2 ≤ s.size := by
                                  have := of_decide_eq_true (show decide (K2 < s.size ∧ 48 ≤ bD s K2 ∧ bD s K2 ≤ 57) = true from hdk)
                                  omega
                                have HKs := Lib.hid hKs
                                clear hdk hKs
                                go_wp2_with fail
                                refine HI2.out.mono ?_
                                rintro e wi ⟨rfl, hw⟩
                                subst hw
                                go_wp2_with fail
                                go_loopw [10, 12] (fun v10 v12 wz => ∃ k : Nat, v10 = .int .i64 (k : Int) ∧ v12 = .int .i64 (eN (seg s K2 k) : Int) ∧ K2 ≤ k ∧ k ≤ dE s K2 ∧ wr = wz) (fun v10 _ _ => s.size - (intOf v10).toNat)
                                case atStart => exact ⟨K2, rfl, by rw [seg_nil]; rfl, Nat.le_refl _, dE_ge _ _, rfl⟩
                                case round =>
                                  obtain ⟨k, rfl, rfl, hk1, hk2, rfl⟩ := hrel
                                  have hde := dE_le HKs.out
                                  have hst := dE_step hk1 hk2 HKs.out
                                  have hksz : k ≤ s.size := by omega
                                  have k0 : (0 : Int) ≤ (k : Int) := by omega
                                  have k1 : (k : Int) ≤ 1048576 := by omega
                                  have HI := Lib.hid (isdig_any s k wr (by omega) (by omega))
                                  have hen := eN_le (seg s K2 k)
                                  have hen1 : (eN (seg s K2 k) : Int) ≤ 100000 := by omega
                                  have hen0 : (0 : Int) ≤ (eN (seg s K2 k) : Int) := by omega
                                  cases hb : isD s k with
                                  | true =>
                                    have hlt := hst.1 hb
                                    have hks : k < s.size := by omega
                                    have hg := bD_get s k hks
                                    have hsg := seg_succ hk1 hks
                                    have hdd := of_decide_eq_true (show decide (k < s.size ∧ 48 ≤ bD s k ∧ bD s k ≤ 57) = true from hb)
                                    have hcb : (s.data.toList.getD k 0).toNat = bD s k := rfl
                                    have hnew := eN_snoc (seg s K2 k) (s.data.toList.getD k 0)
                                    rw [hcb, ← hsg] at hnew
                                    have ks1 : (k : Int) < (s.size : Int) := by omega
                                    rw [hb] at HI
                                    generalize bD s k = x at *
                                    obtain ⟨d, hd⟩ : ∃ d, d = x - 48 := ⟨_, rfl⟩
                                    have x3 : ((x : Int) - 48) % 256 = (d : Int) := by omega
                                    have x4 : (x : Int) - 48 = (d : Int) := by omega
                                    have d9 : (d : Int) ≤ 9 := by omega
                                    have d0 : (0 : Int) ≤ (d : Int) := by omega
                                    rw [← hd] at hnew
                                    generalize eN (seg s K2 k) = n at *
                                    have hmn : min (10 * (n : Int) + (d : Int)) 100000 = ((min (10 * n + d) 100000 : Nat) : Int) := by omega
                                    generalize min (10 * n + d) 100000 = mm at *
                                    have HK := Lib.hid (And.intro hlt (And.intro hk1 (And.intro hnew hks)))
                                    clear hst hk1 hk2 hksz hlt hsg hdd hcb hnew hb hde hd hen
                                    go_wp2_with fail
                                    refine HI.out.mono ?_
                                    rintro e wi ⟨rfl, hw⟩
                                    subst hw
                                    go_wp2_with fail
                                    go_roundw
                                    case rel => exact ⟨k + 1, by go_num, by rw [HK.out.2.2.1], by have := HK.out.2.1; omega, HK.out.1, trivial⟩
                                    case measure => have := HK.out.2.2.2; simp [intOf]; omega
                                  | false =>
                                    obtain rfl := hst.2 hb
                                    rw [hb] at HI
                                    generalize eN (seg s K2 (dE s K2)) = n at *
                                    generalize dE s K2 = kk at *
                                    clear hst hk1 hk2 hksz hb hde hen
                                    obtain ⟨xb1, xb2⟩ := HX.out
                                    go_wp2_with fail
                                    refine HI.out.mono ?_
                                    rintro e wi ⟨rfl, hw⟩
                                    subst hw
                                    go_wp2_with fail
                                    refine (value_any g 0 cap AL2 _ _ HO.out.1 HO.out.2.1 HO.out.2.2.1 HO.out.2.2.2.1 HO.out.2.2.2.2 (by omega) (by omega)).mono ?_
                                    rintro e wv ⟨rfl, hbv⟩
                                    go_wp2_with fail
                                    go_ret2
                                    rw [HN.out]
                                    dsimp only
                                    rw [HT.out.1, HT.out.2]
                                    refine ⟨?_, HBw.out.trans (hbv.mono HBw.out.size)⟩
                                    first | rfl | (congr 4; omega) | (simp)
                            · have hsg : ¬ sgAt s (I2 + 1) := by
                                rw [← hK1]
                                rintro ⟨_, h⟩
                                rcases h with h | h
                                · exact p h
                                · exact q h
                              have y2 : ((bD s K1 : Int) == 45) = false := by rw [beq_eq_false_iff_ne]; omega
                              clear hx2 p q
                              generalize hq : bD s K1 = x2 at hg2 y1 y2
                              clear hq
                              have HI2 := Lib.hid (isdig_any s K1 wr (by omega) (by omega))
                              have HE := Lib.hid he
                              have HSG := Lib.hid hsg
                              clear he hsg hK1 hK2
                              cases hdk : isD s K1 with
                              | false =>
                                rw [hdk] at HI2
                                have HT := Lib.hid (show (numTail s I2 x).1 = x ∧ (numTail s I2 x).2 = I2 by
                                  have he := HE.out
                                  have hsg := HSG.out
                                  obtain ⟨hK1, hK2⟩ := HKK.out
                                  subst hK1
                                  unfold numTail
                                  rw [if_pos he, if_neg hsg, if_neg (by rw [hdk]; decide)]
                                  exact ⟨rfl, rfl⟩)
                                obtain ⟨xb1, xb2⟩ := HX.out
                                clear hdk
                                go_wp2_with fail
                                refine HI2.out.mono ?_
                                rintro e wi ⟨rfl, hw⟩
                                subst hw
                                go_wp2_with fail
                                refine (value_any g 0 cap AL2 _ _ HO.out.1 HO.out.2.1 HO.out.2.2.1 HO.out.2.2.2.1 HO.out.2.2.2.2 (by omega) (by omega)).mono ?_
                                rintro e wv ⟨rfl, hbv⟩
                                go_wp2_with fail
                                go_ret2
                                rw [HN.out]
                                dsimp only
                                rw [HT.out.1, HT.out.2]
                                refine ⟨?_, HBw.out.trans (hbv.mono HBw.out.size)⟩
                                first | rfl | (congr 4; omega) | (simp)
                              | true =>
                                rw [hdk] at HI2
                                have HT := Lib.hid (show (numTail s I2 x).1 = x + (eN (seg s K1 (dE s K1)) : Int) ∧ (numTail s I2 x).2 = dE s K1 by
                                  have he := HE.out
                                  have hsg := HSG.out
                                  obtain ⟨hK1, hK2⟩ := HKK.out
                                  subst hK1
                                  unfold numTail
                                  rw [if_pos he, if_neg hsg, if_pos hdk]
                                  exact ⟨rfl, rfl⟩)
                                have hKs : K1 ≤ s.size := by
                                  have := of_decide_eq_true (show decide (K1 < s.size ∧ 48 ≤ bD s K1 ∧ bD s K1 ≤ 57) = true from hdk)
                                  omega
                                have HKs := Lib.hid hKs
                                clear hdk hKs
                                go_wp2_with fail
                                refine HI2.out.mono ?_
                                rintro e wi ⟨rfl, hw⟩
                                subst hw
                                go_wp2_with fail
                                go_loopw [10, 12] (fun v10 v12 wz => ∃ k : Nat, v10 = .int .i64 (k : Int) ∧ v12 = .int .i64 (eN (seg s K1 k) : Int) ∧ K1 ≤ k ∧ k ≤ dE s K1 ∧ wr = wz) (fun v10 _ _ => s.size - (intOf v10).toNat)
                                case atStart => exact ⟨K1, rfl, by rw [seg_nil]; rfl, Nat.le_refl _, dE_ge _ _, rfl⟩
                                case round =>
                                  obtain ⟨k, rfl, rfl, hk1, hk2, rfl⟩ := hrel
                                  have hde := dE_le HKs.out
                                  have hst := dE_step hk1 hk2 HKs.out
                                  have hksz : k ≤ s.size := by omega
                                  have k0 : (0 : Int) ≤ (k : Int) := by omega
                                  have k1 : (k : Int) ≤ 1048576 := by omega
                                  have HI := Lib.hid (isdig_any s k wr (by omega) (by omega))
                                  have hen := eN_le (seg s K1 k)
                                  have hen1 : (eN (seg s K1 k) : Int) ≤ 100000 := by omega
                                  have hen0 : (0 : Int) ≤ (eN (seg s K1 k) : Int) := by omega
                                  cases hb : isD s k with
                                  | true =>
                                    have hlt := hst.1 hb
                                    have hks : k < s.size := by omega
                                    have hg := bD_get s k hks
                                    have hsg := seg_succ hk1 hks
                                    have hdd := of_decide_eq_true (show decide (k < s.size ∧ 48 ≤ bD s k ∧ bD s k ≤ 57) = true from hb)
                                    have hcb : (s.data.toList.getD k 0).toNat = bD s k := rfl
                                    have hnew := eN_snoc (seg s K1 k) (s.data.toList.getD k 0)
                                    rw [hcb, ← hsg] at hnew
                                    have ks1 : (k : Int) < (s.size : Int) := by omega
                                    rw [hb] at HI
                                    generalize bD s k = x at *
                                    obtain ⟨d, hd⟩ : ∃ d, d = x - 48 := ⟨_, rfl⟩
                                    have x3 : ((x : Int) - 48) % 256 = (d : Int) := by omega
                                    have x4 : (x : Int) - 48 = (d : Int) := by omega
                                    have d9 : (d : Int) ≤ 9 := by omega
                                    have d0 : (0 : Int) ≤ (d : Int) := by omega
                                    rw [← hd] at hnew
                                    generalize eN (seg s K1 k) = n at *
                                    have hmn : min (10 * (n : Int) + (d : Int)) 100000 = ((min (10 * n + d) 100000 : Nat) : Int) := by omega
                                    generalize min (10 * n + d) 100000 = mm at *
                                    have HK := Lib.hid (And.intro hlt (And.intro hk1 (And.intro hnew hks)))
                                    clear hst hk1 hk2 hksz hlt hsg hdd hcb hnew hb hde hd hen
                                    go_wp2_with fail
                                    refine HI.out.mono ?_
                                    rintro e wi ⟨rfl, hw⟩
                                    subst hw
                                    go_wp2_with fail
                                    go_roundw
                                    case rel => exact ⟨k + 1, by go_num, by rw [HK.out.2.2.1], by have := HK.out.2.1; omega, HK.out.1, trivial⟩
                                    case measure => have := HK.out.2.2.2; simp [intOf]; omega
                                  | false =>
                                    obtain rfl := hst.2 hb
                                    rw [hb] at HI
                                    generalize eN (seg s K1 (dE s K1)) = n at *
                                    generalize dE s K1 = kk at *
                                    clear hst hk1 hk2 hksz hb hde hen
                                    obtain ⟨xb1, xb2⟩ := HX.out
                                    go_wp2_with fail
                                    refine HI.out.mono ?_
                                    rintro e wi ⟨rfl, hw⟩
                                    subst hw
                                    go_wp2_with fail
                                    refine (value_any g 0 cap AL2 _ _ HO.out.1 HO.out.2.1 HO.out.2.2.1 HO.out.2.2.2.1 HO.out.2.2.2.2 (by omega) (by omega)).mono ?_
                                    rintro e wv ⟨rfl, hbv⟩
                                    go_wp2_with fail
                                    go_ret2
                                    rw [HN.out]
                                    dsimp only
                                    rw [HT.out.1, HT.out.2]
                                    refine ⟨?_, HBw.out.trans (hbv.mono HBw.out.size)⟩
                                    first | rfl | (congr 4; omega) | (simp)
                        · have d1i : ¬ (K1 : Int) < (s.size : Int) := by omega
                          have hsg : ¬ sgAt s (I2 + 1) := by rw [← hK1]; exact fun h => d1 h.1
                          have HI2 := Lib.hid (isdig_any s K1 wr (by omega) (by omega))
                          have HE := Lib.hid he
                          have HSG := Lib.hid hsg
                          clear he hsg hK1 hK2
                          cases hdk : isD s K1 with
                          | false =>
                            rw [hdk] at HI2
                            have HT := Lib.hid (show (numTail s I2 x).1 = x ∧ (numTail s I2 x).2 = I2 by
                              have he := HE.out
                              have hsg := HSG.out
                              obtain ⟨hK1, hK2⟩ := HKK.out
                              subst hK1
                              unfold numTail
                              rw [if_pos he, if_neg hsg, if_neg (by rw [hdk]; decide)]
                              exact ⟨rfl, rfl⟩)
                            obtain ⟨xb1, xb2⟩ := HX.out
                            clear hdk
                            go_wp2_with fail
                            refine HI2.out.mono ?_
                            rintro e wi ⟨rfl, hw⟩
                            subst hw
                            go_wp2_with fail
                            refine (value_any g 0 cap AL2 _ _ HO.out.1 HO.out.2.1 HO.out.2.2.1 HO.out.2.2.2.1 HO.out.2.2.2.2 (by omega) (by omega)).mono ?_
                            rintro e wv ⟨rfl, hbv⟩
                            go_wp2_with fail
                            go_ret2
                            rw [HN.out]
                            dsimp only
                            rw [HT.out.1, HT.out.2]
                            refine ⟨?_, HBw.out.trans (hbv.mono HBw.out.size)⟩
                            first | rfl | (congr 4; omega) | (simp)
                          | true =>
                            rw [hdk] at HI2
                            have HT := Lib.hid (show (numTail s I2 x).1 = x + (eN (seg s K1 (dE s K1)) : Int) ∧ (numTail s I2 x).2 = dE s K1 by
                              have he := HE.out
                              have hsg := HSG.out
                              obtain ⟨hK1, hK2⟩ := HKK.out
                              subst hK1
                              unfold numTail
                              rw [if_pos he, if_neg hsg, if_pos hdk]
                              exact ⟨rfl, rfl⟩)
                            have hKs : K1 ≤ s.size := by
                              have := of_decide_eq_true (show decide (K1 < s.size ∧ 48 ≤ bD s K1 ∧ bD s K1 ≤ 57) = true from hdk)
                              omega
                            have HKs := Lib.hid hKs
                            clear hdk hKs
                            go_wp2_with fail
                            refine HI2.out.mono ?_
                            rintro e wi ⟨rfl, hw⟩
                            subst hw
                            go_wp2_with fail
                            go_loopw [10, 12] (fun v10 v12 wz => ∃ k : Nat, v10 = .int .i64 (k : Int) ∧ v12 = .int .i64 (eN (seg s K1 k) : Int) ∧ K1 ≤ k ∧ k ≤ dE s K1 ∧ wr = wz) (fun v10 _ _ => s.size - (intOf v10).toNat)
                            case atStart => exact ⟨K1, rfl, by rw [seg_nil]; rfl, Nat.le_refl _, dE_ge _ _, rfl⟩
                            case round =>
                              obtain ⟨k, rfl, rfl, hk1, hk2, rfl⟩ := hrel
                              have hde := dE_le HKs.out
                              have hst := dE_step hk1 hk2 HKs.out
                              have hksz : k ≤ s.size := by omega
                              have k0 : (0 : Int) ≤ (k : Int) := by omega
                              have k1 : (k : Int) ≤ 1048576 := by omega
                              have HI := Lib.hid (isdig_any s k wr (by omega) (by omega))
                              have hen := eN_le (seg s K1 k)
                              have hen1 : (eN (seg s K1 k) : Int) ≤ 100000 := by omega
                              have hen0 : (0 : Int) ≤ (eN (seg s K1 k) : Int) := by omega
                              cases hb : isD s k with
                              | true =>
                                have hlt := hst.1 hb
                                have hks : k < s.size := by omega
                                have hg := bD_get s k hks
                                have hsg := seg_succ hk1 hks
                                have hdd := of_decide_eq_true (show decide (k < s.size ∧ 48 ≤ bD s k ∧ bD s k ≤ 57) = true from hb)
                                have hcb : (s.data.toList.getD k 0).toNat = bD s k := rfl
                                have hnew := eN_snoc (seg s K1 k) (s.data.toList.getD k 0)
                                rw [hcb, ← hsg] at hnew
                                have ks1 : (k : Int) < (s.size : Int) := by omega
                                rw [hb] at HI
                                generalize bD s k = x at *
                                obtain ⟨d, hd⟩ : ∃ d, d = x - 48 := ⟨_, rfl⟩
                                have x3 : ((x : Int) - 48) % 256 = (d : Int) := by omega
                                have x4 : (x : Int) - 48 = (d : Int) := by omega
                                have d9 : (d : Int) ≤ 9 := by omega
                                have d0 : (0 : Int) ≤ (d : Int) := by omega
                                rw [← hd] at hnew
                                generalize eN (seg s K1 k) = n at *
                                have hmn : min (10 * (n : Int) + (d : Int)) 100000 = ((min (10 * n + d) 100000 : Nat) : Int) := by omega
                                generalize min (10 * n + d) 100000 = mm at *
                                have HK := Lib.hid (And.intro hlt (And.intro hk1 (And.intro hnew hks)))
                                clear hst hk1 hk2 hksz hlt hsg hdd hcb hnew hb hde hd hen
                                go_wp2_with fail
                                refine HI.out.mono ?_
                                rintro e wi ⟨rfl, hw⟩
                                subst hw
                                go_wp2_with fail
                                go_roundw
                                case rel => exact ⟨k + 1, by go_num, by rw [HK.out.2.2.1], by have := HK.out.2.1; omega, HK.out.1, trivial⟩
                                case measure => have := HK.out.2.2.2; simp [intOf]; omega
                              | false =>
                                obtain rfl := hst.2 hb
                                rw [hb] at HI
                                generalize eN (seg s K1 (dE s K1)) = n at *
                                generalize dE s K1 = kk at *
                                clear hst hk1 hk2 hksz hb hde hen
                                obtain ⟨xb1, xb2⟩ := HX.out
                                go_wp2_with fail
                                refine HI.out.mono ?_
                                rintro e wi ⟨rfl, hw⟩
                                subst hw
                                go_wp2_with fail
                                refine (value_any g 0 cap AL2 _ _ HO.out.1 HO.out.2.1 HO.out.2.2.1 HO.out.2.2.2.1 HO.out.2.2.2.2 (by omega) (by omega)).mono ?_
                                rintro e wv ⟨rfl, hbv⟩
                                go_wp2_with fail
                                go_ret2
                                rw [HN.out]
                                dsimp only
                                rw [HT.out.1, HT.out.2]
                                refine ⟨?_, HBw.out.trans (hbv.mono HBw.out.size)⟩
                                first | rfl | (congr 4; omega) | (simp)
                      · have z2 : ((bD s I2 : Int) == 69) = false := by rw [beq_eq_false_iff_ne]; omega
                        have HT := Lib.hid (show (numTail s I2 x).1 = x ∧ (numTail s I2 x).2 = I2 by
                          unfold numTail
                          rw [if_neg (by rintro ⟨_, h⟩; exact h.elim c2 c3)]
                          exact ⟨rfl, rfl⟩)
                        obtain ⟨xb1, xb2⟩ := HX.out
                        go_wp2_with fail

                        refine (value_any g 0 cap AL2 _ _ HO.out.1 HO.out.2.1 HO.out.2.2.1 HO.out.2.2.2.1 HO.out.2.2.2.2 (by omega) (by omega)).mono ?_
                        rintro e wv ⟨rfl, hbv⟩
                        go_wp2_with fail
                        go_ret2
                        rw [HN.out]
                        dsimp only
                        rw [HT.out.1, HT.out.2]
                        refine ⟨?_, HBw.out.trans (hbv.mono HBw.out.size)⟩
                        first | rfl | (congr 4; omega) | (simp)
                  · have gg : ¬ (I2 : Int) < (s.size : Int) := by omega
                    go_wp2_with fail
                    refine HI.out.mono ?_
                    rintro e wi ⟨rfl, hw⟩
                    subst hw
                    have I0 : (0 : Int) ≤ (I2 : Int) := by omega
                    have I1 : (I2 : Int) ≤ 1048576 := by omega
                    obtain ⟨K1, K2, HKK⟩ : ∃ K1 K2, Hid (K1 = I2 + 1 ∧ K2 = K1 + 1) := ⟨_, _, Lib.hid ⟨rfl, rfl⟩⟩

                    have HT := Lib.hid (show (numTail s I2 x).1 = x ∧ (numTail s I2 x).2 = I2 by
                      unfold numTail
                      rw [if_neg (fun h => cc h.1)]
                      exact ⟨rfl, rfl⟩)
                    obtain ⟨xb1, xb2⟩ := HX.out
                    go_wp2_with fail

                    refine (value_any g 0 cap AL2 _ _ HO.out.1 HO.out.2.1 HO.out.2.2.1 HO.out.2.2.2.1 HO.out.2.2.2.2 (by omega) (by omega)).mono ?_
                    rintro e wv ⟨rfl, hbv⟩
                    go_wp2_with fail
                    go_ret2
                    rw [HN.out]
                    dsimp only
                    rw [HT.out.1, HT.out.2]
                    refine ⟨?_, HBw.out.trans (hbv.mono HBw.out.size)⟩
                    first | rfl | (congr 4; omega) | (simp)
            | false =>
              have hnd : ¬ dotAt s frm I := by
                rintro ⟨_, _, h⟩
                rcases h with h | h
                · exact hsome h
                · rw [← HJ.out, hdj] at h; cases h
              rw [hdj] at HI3
              clear c2 hdj
              have HZ := Lib.hid (show numR s frm = (0, frm) by rw [HNR.out, if_neg hnd, if_neg hsome])
              clear hnd
              go_wp2_with fail
              refine HI.out.mono ?_
              rintro e wi ⟨rfl, hw⟩
              subst hw
              go_wp2_with fail
              refine HI3.out.mono ?_
              rintro e wi ⟨rfl, hw⟩
              subst hw
              go_wp2_with fail
              go_ret2
              rw [HZ.out]
              exact ⟨rfl, HBw.out⟩
          · have z46 : ((bD s I : Int) == 46) = false := by rw [beq_eq_false_iff_ne]; omega
            have hnd : ¬ dotAt s frm I := fun h => c2 h.2.1
            have HZ := Lib.hid (show numR s frm = (0, frm) by rw [HNR.out, if_neg hnd, if_neg hsome])
            clear hnd
            go_wp2_with fail
            refine HI.out.mono ?_
            rintro e wi ⟨rfl, hw⟩
            subst hw
            go_wp2_with fail
            go_ret2
            rw [HZ.out]
            exact ⟨rfl, HBw.out⟩
        · have gg : ¬ (I : Int) < (s.size : Int) := by omega
          have hnd : ¬ dotAt s frm I := fun h => cc h.1
          have HZ := Lib.hid (show numR s frm = (0, frm) by rw [HNR.out, if_neg hnd, if_neg hsome])
          clear hnd
          go_wp2_with fail
          refine HI.out.mono ?_
          rintro e wi ⟨rfl, hw⟩
          subst hw
          go_wp2_with fail
          go_ret2
          rw [HZ.out]
          exact ⟨rfl, HBw.out⟩
end Go.Proofs.Ytbpaiocbgbpiaaa
