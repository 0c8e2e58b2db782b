/- WorldTells, walked. -/
import Derived.Test.YticinbkgmfoeoaaTellsQ
namespace Go.Proofs.Yticinbkgmfoeoaa
open Go.RowKit
set_option linter.unusedVariables false

theorem told_append (k : Int) (nm : ByteArray) (a b : List AT) : told k nm (a ++ b) = told k nm a ++ told k nm b := by simp [told]
theorem sumB_append (a b : List ByteArray) : sumB (a ++ b) = sumB a + sumB b := by simp [sumB]
theorem told_le (k : Int) (nm : ByteArray) (T : List AT) (j : Nat) : sumB (told k nm (T.take j)) ≤ sumB (told k nm T) := by
  conv => rhs; rw [← List.take_append_drop j T]
  rw [told_append, sumB_append]
  omega
theorem str_at {w : World} {A : Option Addr} {c : Nat} {l : List ByteArray} (h : RowA w 1 (.slice A l.length c) l.length (l.map Value.string)) {i : Nat} (hi : i < l.length) : ∃ b off, A = some ⟨b, off, none⟩ ∧ w.cell? ⟨b, off + i, none⟩ = some (.string l[i]) := by
  obtain ⟨b, off, rfl, _, h2⟩ := h.at (by simp; omega)
  exact ⟨b, off, rfl, h2 i _ (by simp [hi])⟩
theorem tA_len (nm : ByteArray) (xs : List ByteArray) : (tA nm xs).length ≤ 1 + 2 * xs.length := by
  unfold tA
  split
  · simp
  · rw [List.length_cons]
    have : ∀ ys : List ByteArray, (ys.flatMap (fun x => [((5 : Int), nm, x), (1, ⟨#[]⟩, x)])).length = 2 * ys.length := by
      intro ys
      induction ys with
      | nil => rfl
      | cons y ys ih => rw [List.flatMap_cons, List.length_append, ih]; simp; omega
    rw [this]
    omega
theorem tB_len (nm : ByteArray) (xs : List ByteArray) (x : ByteArray) : (tB nm xs x).length ≤ 2 + 2 * xs.length := by
  unfold tB
  split
  · simp
  · have := tA_len nm xs
    simp; omega
theorem tO_len (nm : ByteArray) (xs : List ByteArray) : (tO nm xs).length ≤ 8 := by
  unfold tO
  split <;> simp

set_option maxRecDepth 20000 in
set_option maxHeartbeats 4000000 in
theorem tells_any (A : Option Addr) (c : Nat) (l : List ByteArray) (nm : ByteArray) (w : World) (hr : RowA w 1 (.slice A l.length c) l.length (l.map Value.string)) (hl : l.length ≤ 1048576) (hb : ∀ x ∈ l, x.size ≤ 1048576) (hnm : nm.size ≤ 1048576) :
    Calls Try.prog 4 #[.slice A l.length c, .string nm] w fun e w' => e = .returned (.bool true) ∧ Below w.heap.size w w' := by
  have HF := Lib.hid (fixed_any w)
  have H0 := Lib.hid (And.intro hr (And.intro hb hnm))
  have HN := Lib.hid (fun (wx : World) => mw_new (w := wx) (fv := .slice none 0 0) (cv := .slice none 0 0) (sv := .slice none 0 0) (ev := .slice none 0 0) (kv := .slice none 0 0) (fs := []) (cl := []) (CL := []) (sl := []) (E := []) (K := [])
    (hfv := row_nil _ _ _) (hfn := by simp) (hf1 := fun f hf => by cases hf) (hcv := row_nil _ _ _) (hcl := by simp) (hcm := ⟨rfl, fun i x y hx => by cases hx⟩) (hcm2 := fun y hy => by cases hy) (hsv := row_nil _ _ _) (hsl := by simp) (hev := row_nil _ _ _) (hpn := by simp) (hkv := row_nil _ _ _) (hcn := by simp))
  clear hr hb hnm
  go_enter Try.func4, Try.ntmps4
  go_wp2_with fail
  refine HF.out.mono ?_
  rintro e w1 ⟨rfl, hb1⟩
  go_wp2_with fail
  refine (HN.out _).mono ?_
  rintro e w2 ⟨g, n2, rfl, hn2, hM, hb2⟩
  have HB := Lib.hid (hb1.trans (hb2.mono hb1.size))
  have hb1s := hb1.size
  clear hb2 hb1
  go_wp2_with fail
  go_loopw [6, 7, 22] (fun v6 v7 v22 wr => ∃ (i : Nat), v6 = .string (joinB (l.take i)) ∧ v7 = .int .i64 ((2 * sumB (l.take i) : Nat) : Int) ∧ v22 = .int .i64 (i : Int) ∧ i ≤ l.length ∧ i ≤ 301 ∧ 2 * sumB (l.take i) ≤ 16384 ∧ MW w1.heap.size g n2 [] (stdL (fileL []) [] 2) (cmdF []) [] (tO nm (l.take i)) (tA nm (l.take i)) ((2 * sumB (l.take i) : Nat) : Int) wr ∧ Below w.heap.size w wr)
    (fun _ _ v22 _ => l.length - (intOf v22).toNat)
  case atStart => exact ⟨0, rfl, rfl, rfl, Nat.zero_le _, by omega, by simp [sumB], hM, HB.out⟩
  case round =>
    obtain ⟨i, rfl, rfl, rfl, hi, hi3, hs, hM, hB⟩ := hrel
    by_cases hlt : i < l.length
    · have i1 : (i : Int) < (l.length : Int) := by omega
      have i0 : (0 : Int) ≤ (i : Int) := by omega
      obtain ⟨hr, hbs, hnm⟩ := H0.out
      obtain ⟨b, off, rfl, d0⟩ := str_at hr hlt
      replace d0 := (hB.cell (lt_of_cell d0)).trans d0
      have hx := hbs _ (List.getElem_mem hlt)
      have htk : l.take (i + 1) = l.take i ++ [l[i]] := List.take_succ_eq_append_getElem hlt
      generalize l[i] = x at *
      have hlen : (l.take i).length = i := by simp; omega
      have hj1 : (joinB (l.take i)).size ≤ 8192 := by rw [joinB_size]; omega
      have hA := tA_len nm (l.take i)
      have hBl := tB_len nm (l.take i) x
      have hO := tO_len nm (l.take i)
      rw [hlen] at hA hBl
      generalize hd : 2 * sumB (l.take i) = d at *
      generalize hJ : joinB (l.take i) = J at *
      by_cases hbig : 16384 < d + 2 * x.size
      · have g1 : (16384 : Int) < (d : Int) + 2 * (x.size : Int) := by omega
        have HE := Lib.hid hB
        clear hr hbs hnm htk hlen hj1 hA hBl hO hd hJ hM hB
        go_wp2_with fail
        go_ret
        exact ⟨rfl, HE.out⟩
      · have g1 : ¬ (16384 : Int) < (d : Int) + 2 * (x.size : Int) := by omega
        by_cases hmany : 300 < i
        · have g2 : (300 : Int) < (i : Int) := by omega
          have HE := Lib.hid hB
          clear hr hbs hnm htk hlen hj1 hA hBl hO hd hJ hM hB
          go_wp2_with fail
          go_ret
          exact ⟨rfl, HE.out⟩
        · have g2 : ¬ (300 : Int) < (i : Int) := by omega
          have hW := mw_write hM (by omega) hO (by omega) (by omega) 2 nm x
          rw [wr_two nm _ x _ (by omega)] at hW
          have HW := Lib.hid hW
          have HE := Lib.hid (And.intro hB (And.intro htk (And.intro hd (And.intro hJ hb1s))))
          clear hr hbs hnm htk hlen hA hO hd hJ hM hB hW
          go_wp2_with fail
          refine HW.out.mono ?_
          rintro e w3 ⟨rfl, hM3, hb3⟩
          have hV := mw_write hM3 (by omega) (by simp) (by omega) (by omega) 1 nm x
          rw [wr_one nm x _ _ _ (by omega)] at hV
          have HV := Lib.hid hV
          have HB3 := Lib.hid hb3
          clear hM3 hV hb3 HW
          go_wp2_with fail
          refine HV.out.mono ?_
          rintro e w4 ⟨rfl, hM4, hb4⟩
          have H4 := Lib.hid (And.intro hM4 hb4)
          clear hM4 hb4 HV
          go_wp2_with fail
          go_roundw
          case rel =>
            obtain ⟨hM4, hb4⟩ := H4.out
            obtain ⟨hB, htk, hd, hJ, hx1⟩ := HE.out
            refine ⟨i + 1, by rw [htk, joinB_snoc, hJ], ?_, by go_num, by omega, by omega, by rw [htk, sumB_snoc]; omega, ?_, (hB.trans (HB3.out.mono hx1)).trans (hb4.mono hx1)⟩
            · rw [htk, sumB_snoc]
              have : ((2 * (sumB (l.take i) + x.size) : Nat) : Int) = (d : Int) + 2 * (x.size : Int) := by omega
              rw [this]
            · rw [htk, sumB_snoc, tO_snoc, tA_snoc]
              have : ((2 * (sumB (l.take i) + x.size) : Nat) : Int) = (d : Int) + (x.size : Int) + (x.size : Int) := by omega
              rw [this]
              exact hM4
          case measure => simp [intOf]; omega
    · obtain rfl : i = l.length := by omega
      rw [List.take_length] at hM hs ⊢
      have hA := tA_len nm l
      have hAc := mw_acts hM (by omega)
      have t1 := told_two nm l
      have t2 := told_one nm l
      generalize tA nm l = T at *
      have hJ : (joinB l).size = sumB l := joinB_size l
      have HT := Lib.hid (And.intro t1 (And.intro t2 hJ))
      have HAc := Lib.hid hAc
      have HB5 := Lib.hid hB
      clear hM hAc t1 t2 hB hJ
      generalize hsb : sumB l = sb at *
      generalize hJJ : joinB l = J at *
      have HS := Lib.hid (And.intro hsb hJJ)
      clear hsb hJJ
      go_wp2_with fail
      refine HAc.out.mono ?_
      rintro e w5 ⟨va, rfl, hown, hb5⟩
      obtain ⟨A5, c5, rfl⟩ := own_shape hown
      have HR := Lib.hid (RowC.of_own hown)
      have HB6 := Lib.hid (HB5.out.trans (hb5.mono HB5.out.size))
      clear hown hb5 HAc
      go_wp2_with fail
      go_loopw [10, 11, 57] (fun v10 v11 v57 wr => ∃ (j : Nat), v10 = .string (joinB (told 5 nm (T.take j))) ∧ v11 = .string (joinB (told 1 ⟨#[]⟩ (T.take j))) ∧ v57 = .int .i64 (j : Int) ∧ j ≤ T.length ∧ Below w5.heap.size w5 wr)
        (fun _ _ v57 _ => T.length - (intOf v57).toNat)
      case atStart => exact ⟨0, rfl, rfl, rfl, Nat.zero_le _, Below.refl _ _⟩
      case round =>
        obtain ⟨j, rfl, rfl, rfl, hj, hb⟩ := hrel
        by_cases hjl : j < T.length
        · have i1 : (j : Int) < (T.length : Int) := by omega
          have i0 : (0 : Int) ≤ (j : Int) := by omega
          obtain ⟨b, off, rfl, d0, d1, d2⟩ := act_lies HR.out hjl
          replace d0 := (hb.cell (lt_of_cell d0)).trans d0
          replace d1 := (hb.cell (lt_of_cell d1)).trans d1
          replace d2 := (hb.cell (lt_of_cell d2)).trans d2
          have htk : T.take (j + 1) = T.take j ++ [T[j]] := List.take_succ_eq_append_getElem hjl
          have u1 := told_le 5 nm T (j + 1)
          have u2 := told_le 1 ⟨#[]⟩ T (j + 1)
          rw [HT.out.1, htk, told_snoc, HS.out.1] at u1
          rw [HT.out.2.1, htk, told_snoc, HS.out.1] at u2
          have u3 := told_le 5 nm T j
          have u4 := told_le 1 ⟨#[]⟩ T j
          rw [HT.out.1, HS.out.1] at u3
          rw [HT.out.2.1, HS.out.1] at u4
          generalize T[j] = x at *
          obtain ⟨k, n, dt⟩ := x
          dsimp only at d0 d1 d2 u1 u2
          have v5 : (joinB (told 5 nm (T.take j))).size ≤ 8192 := by rw [joinB_size]; omega
          have v1 : (joinB (told 1 ⟨#[]⟩ (T.take j))).size ≤ 8192 := by rw [joinB_size]; omega
          have w5s : (told 5 nm (T.take j ++ [(k, n, dt)])) = if k = 5 ∧ n = nm then told 5 nm (T.take j) ++ [dt] else told 5 nm (T.take j) := told_snoc _ _ _ _
          have w1s : (told 1 ⟨#[]⟩ (T.take j ++ [(k, n, dt)])) = if k = 1 ∧ n = ⟨#[]⟩ then told 1 ⟨#[]⟩ (T.take j) ++ [dt] else told 1 ⟨#[]⟩ (T.take j) := told_snoc _ _ _ _
          have z5 : (k = 5 ∧ n = nm) → sumB (told 5 nm (T.take j)) + dt.size ≤ 8192 := fun hh => by rw [if_pos hh, sumB_snoc] at u1; omega
          have z1 : (k = 1 ∧ n = ⟨#[]⟩) → sumB (told 1 ⟨#[]⟩ (T.take j)) + dt.size ≤ 8192 := fun hh => by rw [if_pos hh, sumB_snoc] at u2; omega
          rw [← joinB_size] at z5 z1
          clear u1 u2 u3 u4
          have hj5 := joinB_snoc (told 5 nm (T.take j)) dt
          have hj1 := joinB_snoc (told 1 ⟨#[]⟩ (T.take j)) dt
          generalize hP : told 5 nm (T.take j) = P5 at *
          generalize hQ : told 1 ⟨#[]⟩ (T.take j) = P1 at *
          rw [← htk] at w5s w1s
          generalize hJ5 : joinB P5 = J5 at *
          generalize hJ1 : joinB P1 = J1 at *
          have HK := Lib.hid (And.intro w5s (And.intro w1s (And.intro hj5 (And.intro hj1 (And.intro hJ5 hJ1)))))
          clear w5s w1s hj5 hj1 hP hQ htk hi3 hlt hs hJ5 hJ1
          by_cases q5 : k = 5
          · subst q5
            clear z1
            by_cases qn : n = nm
            · subst qn
              have z := z5 ⟨rfl, rfl⟩
              clear z5
              go_wp2_with fail
              obtain ⟨w5s, w1s, hj5, hj1, hJ5, hJ1⟩ := HK.out
              refine ⟨⟨j + 1, ?_, ?_, by go_num, by omega, hb.alloc hb.size _⟩, by simp [intOf]; omega⟩
              · rw [w5s, if_pos (⟨rfl, rfl⟩), hj5]
              · rw [w1s, ← hJ1, if_neg (fun hh => by have := hh.1; omega)]
            · have b2 := str_ne qn
              clear z5
              go_wp2_with fail
              obtain ⟨w5s, w1s, hj5, hj1, hJ5, hJ1⟩ := HK.out
              refine ⟨⟨j + 1, ?_, ?_, by go_num, by omega, hb.alloc hb.size _⟩, by simp [intOf]; omega⟩
              · rw [w5s, ← hJ5, if_neg (fun hh => qn hh.2)]
              · rw [w1s, ← hJ1, if_neg (fun hh => by have := hh.1; omega)]
          · have b5 : (k == 5) = false := by rw [beq_eq_false_iff_ne]; exact q5
            clear z5
            by_cases q1 : k = 1
            · subst q1
              by_cases qn : n = ⟨#[]⟩
              · subst qn
                have z := z1 ⟨rfl, rfl⟩
                clear z1
                go_wp2_with fail
                obtain ⟨w5s, w1s, hj5, hj1, hJ5, hJ1⟩ := HK.out
                refine ⟨⟨j + 1, ?_, ?_, by go_num, by omega, hb.alloc hb.size _⟩, by simp [intOf]; omega⟩
                · rw [w5s, ← hJ5, if_neg (fun hh => q5 hh.1)]
                · rw [w1s, if_pos (⟨rfl, rfl⟩), hj1]
              · have b3 := str_ne qn
                simp at b3
                have b2 : n.toList.isEmpty = false := by
                  cases hx : n.toList with
                  | nil => exact absurd hx b3
                  | cons => rfl
                clear z1 b3
                go_wp2_with fail
                obtain ⟨w5s, w1s, hj5, hj1, hJ5, hJ1⟩ := HK.out
                refine ⟨⟨j + 1, ?_, ?_, by go_num, by omega, hb.alloc hb.size _⟩, by simp [intOf]; omega⟩
                · rw [w5s, ← hJ5, if_neg (fun hh => q5 hh.1)]
                · rw [w1s, ← hJ1, if_neg (fun hh => qn hh.2)]
            · have b1 : (k == 1) = false := by rw [beq_eq_false_iff_ne]; exact q1
              clear z1
              go_wp2_with fail
              obtain ⟨w5s, w1s, hj5, hj1, hJ5, hJ1⟩ := HK.out
              refine ⟨⟨j + 1, ?_, ?_, by go_num, by omega, hb.alloc hb.size _⟩, by simp [intOf]; omega⟩
              · rw [w5s, ← hJ5, if_neg (fun hh => q5 hh.1)]
              · rw [w1s, ← hJ1, if_neg (fun hh => q1 hh.1)]
        · obtain rfl : j = T.length := by omega
          rw [List.take_length]
          obtain ⟨t5, t1, _⟩ := HT.out
          rw [t5, t1, HS.out.2]
          go_wp2_with fail
          go_ret
          exact ⟨rfl, HB6.out.trans (hb.mono HB6.out.size)⟩

end Go.Proofs.Yticinbkgmfoeoaa
