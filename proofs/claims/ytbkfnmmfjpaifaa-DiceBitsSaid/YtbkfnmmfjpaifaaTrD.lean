/- The document's digits of a float that is below 2^53, walked. -/
import Derived.Test.YtbkfnmmfjpaifaaTrV
namespace Go.Proofs.Ytbkfnmmfjpaifaa
open Go.RowKit
set_option linter.unusedVariables false
set_option linter.unusedSimpArgs false

theorem dig_dec {d : Nat} (h : d < 10) : (UInt8.ofNat (48 + d)).toNat = 48 + d := by rw [UInt8.toNat_ofNat']; omega
theorem decV_rev : ∀ l : List Nat, Lo 10 l → decV (l.reverse.map fun d => UInt8.ofNat (48 + d)) = vb 10 l
  | [], _ => rfl
  | d :: l, h => by
    have ih := decV_rev l fun x hx => h x (by simp [hx])
    rw [List.reverse_cons, List.map_append, List.map_singleton, decV_snoc, ih, dig_dec (h d (by simp))]
    show _ = d + 10 * vb 10 l
    omega
theorem decT_val (x : Nat) : decV (decT x) = x := by
  unfold decT
  split
  · rename_i h; subst h; rfl
  · rw [decV_rev _ (dg_lo (by omega) x), vb_dg (by omega)]
theorem decT_dig (x : Nat) : ∀ c ∈ decT x, isDig c := by
  unfold decT
  split
  · intro c hc
    simp at hc
    subst hc
    unfold isDig
    decide
  · intro c hc
    obtain ⟨d, hd, rfl⟩ := List.mem_map.1 hc
    have := dg_lo (b := 10) (by omega) x d (by simpa using hd)
    unfold isDig
    rw [dig_dec this]
    omega
theorem decT_len {x k : Nat} (h : x < 10 ^ k) (hk : 1 ≤ k) : (decT x).length ≤ k := by
  unfold decT
  split
  · simpa using hk
  · rw [List.length_map, List.length_reverse, dg_len (by omega)]; exact h

theorem z30_list (s : ByteArray) : ((⟨#[48, 48, 48, 48, 48, 48, 48, 48, 48, 48, 48, 48, 48, 48, 48, 48, 48, 48, 48, 48, 48, 48, 48, 48, 48, 48, 48, 48, 48, 48]⟩ : ByteArray) ++ s).data.toList = List.replicate 30 48 ++ s.data.toList := by
  rw [ByteArray.data_append, Array.toList_append]
  rfl
theorem z30_ok {s : ByteArray} (h : ∀ c ∈ s.data.toList, isDig c) : (∀ c ∈ ((⟨#[48, 48, 48, 48, 48, 48, 48, 48, 48, 48, 48, 48, 48, 48, 48, 48, 48, 48, 48, 48, 48, 48, 48, 48, 48, 48, 48, 48, 48, 48]⟩ : ByteArray) ++ s).data.toList, isDig c) ∧ ((⟨#[48, 48, 48, 48, 48, 48, 48, 48, 48, 48, 48, 48, 48, 48, 48, 48, 48, 48, 48, 48, 48, 48, 48, 48, 48, 48, 48, 48, 48, 48]⟩ : ByteArray) ++ s).size = 30 + s.size ∧ decV ((⟨#[48, 48, 48, 48, 48, 48, 48, 48, 48, 48, 48, 48, 48, 48, 48, 48, 48, 48, 48, 48, 48, 48, 48, 48, 48, 48, 48, 48, 48, 48]⟩ : ByteArray) ++ s).data.toList = decV s.data.toList := by
  rw [z30_list]
  refine ⟨fun c hc => ?_, by rw [ByteArray.size_append]; rfl, ?_⟩
  · rcases List.mem_append.1 hc with hc | hc
    · rw [List.eq_of_mem_replicate hc]; unfold isDig; decide
    · exact h c hc
  · rw [decV_append, decV_zero _ (fun c hc => by rw [List.eq_of_mem_replicate hc]; decide)]
    simp
theorem ext_bytes (s : ByteArray) (i j : Nat) (hj : j ≤ s.size) : (s.extract i j).data.toList = (s.data.toList.drop i).take (j - i) := by
  simp [ByteArray.data_extract, Array.toList_extract]
/-- The whole part's digits. -/
theorem whole_ok {s : ByteArray} {m k i : Nat} (hd : ∀ c ∈ s.data.toList, isDig c) (hv : decV s.data.toList = m * 5 ^ k) (hk : k ≤ s.size) (hi : i ≤ s.size - k) (hz : ∀ j, j < i → bD s j = 48) :
    (∀ c ∈ (s.extract i (s.size - k)).data.toList, isDig c) ∧ (s.extract i (s.size - k)).size ≤ s.size ∧ decV (s.extract i (s.size - k)).data.toList = m / 2 ^ k := by
  have hl : s.data.toList.length = s.size := by simp
  rw [ext_bytes s _ _ (by omega)]
  refine ⟨fun c hc => hd c (List.mem_of_mem_drop (List.mem_of_mem_take hc)), by rw [ByteArray.size_extract]; omega, ?_⟩
  rw [← List.drop_take]
  generalize hL : s.data.toList = L at *
  have e1 : decV ((L.take (s.size - k)).drop i) = decV (L.take (s.size - k)) := by
    refine (decV_drop (fun j hj => ?_) (by rw [List.length_take]; omega)).symm
    have := hz j hj
    unfold bD at this
    rw [hL] at this
    rw [List.getD_eq_getElem?_getD, List.getElem?_take_of_lt (by omega), ← List.getD_eq_getElem?_getD]
    exact this
  rw [e1]
  have e2 := decV_append (L.take (s.size - k)) (L.drop (s.size - k))
  rw [List.take_append_drop, hv, List.length_drop, hl, show s.size - (s.size - k) = k by omega] at e2
  have h3 := decV_lt (L.drop (s.size - k)) fun c hc => hd c (List.mem_of_mem_drop hc)
  rw [List.length_drop, hl, show s.size - (s.size - k) = k by omega] at h3
  have e4 : m * 5 ^ k / 10 ^ k = decV (L.take (s.size - k)) := by
    rw [e2, Nat.mul_comm, Nat.mul_add_div (Nat.pow_pos (by omega)), Nat.div_eq_of_lt h3, Nat.add_zero]
  rw [← e4, show (10 : Nat) = 5 * 2 from rfl, Nat.mul_pow, Nat.mul_comm m, Nat.mul_div_mul_left _ _ (Nat.pow_pos (by omega))]

set_option maxRecDepth 20000 in
set_option maxHeartbeats 4000000 in
theorem digits_any (b : Nat) (w : World) (hb : b < 18446744073709551616) (hf : b % 9223372036854775808 < 9218868437227405312) (he : pE b ≤ 0) :
    Calls Try.prog 36 #[.float .f64 b] w fun e w' => ∃ s1 s2 : ByteArray, e = .returned (.tuple #[.string s1, .string s2]) ∧ (∀ c ∈ s1.data.toList, isDig c) ∧ s1.size ≤ 5000 ∧ decV s1.data.toList = pM b / 2 ^ (-(pE b)).toNat ∧ Below w.heap.size w w' := by
  have hM := pM_lt b
  have hE := (pE_in hf).1
  have HPa := Lib.hid (rparts_any b w hb hf)
  generalize pM b = m at *
  generalize pE b = x at *
  have hmw : IntKind.i64.wrap (m : Int) = (m : Int) := by rw [IntKind.wrap_i64]; omega
  have HM := Lib.hid hM
  clear hb hf
  by_cases h0 : x = 0
  · subst h0
    have S1 := Lib.hid (fun w => small_any m w (by omega))
    clear hM hE he
    go_enter Try.func36, Try.ntmps36
    go_wp2_with fail
    refine HPa.out.mono ?_
    rintro e w1 ⟨rfl, hw⟩
    subst hw
    go_wp2_with fail
    refine (S1.out w).mono ?_
    rintro e w1 ⟨A1, c1, rfl, -, -, r1, q1⟩
    have R1 := Lib.hid r1
    have Q1 := Lib.hid q1
    clear r1 q1
    go_wp2_with fail
    obtain ⟨y, hy⟩ : ∃ y, y = 2 ^ 0 := ⟨_, rfl⟩
    have HPw := pow2_any 0 w1 (by omega)
    have hP2 := Pc.pow (n := 2) (by omega) 0
    rw [← hy] at HPw hP2
    have P2 := Lib.hid hP2
    have HY := Lib.hid hy
    have HPW := Lib.hid HPw
    clear HPw hP2 hy
    refine HPW.out.mono ?_
    rintro e w2 ⟨A2, c2, rfl, -, -, r2, q2⟩
    have R2 := Lib.hid r2
    have R1' := Lib.hid (R1.out.up q2)
    have Q2 := Lib.hid (Q1.out.trans (q2.mono Q1.out.size))
    clear r2 q2
    have P1 := Lib.hid (Pc.small (x := m) (by have := HM.out; omega))
    go_wp2_with fail
    refine (rmul_any A1 c1 w2.heap.size m A2 c2 y w2 R1'.out R2.out (Nat.le_refl _) (P1.out.more (by omega)) (P2.out.more (by omega))).mono ?_
    rintro e w3 ⟨A3, c3, rfl, -, -, r3, q3⟩
    have R3 := Lib.hid r3
    have Q3 := Lib.hid (Q2.out.trans (q3.mono Q2.out.size))
    have P3 := Lib.hid (P1.out.mul P2.out)
    clear r3 q3
    go_wp2_with fail
    refine (rtext_any A3 c3 w3.heap.size (m * y) w3 R3.out (Nat.le_refl _) (P3.out.more (by omega))).mono ?_
    rintro e w4 ⟨rfl, q4⟩
    have Q4 := Lib.hid (Q3.out.trans (q4.mono Q3.out.size))
    clear q4
    go_wp2_with fail
    go_ret2
    refine ⟨_, _, rfl, decT_dig _, ?_, ?_, Q4.out⟩
    · show (decT (m * y)).length ≤ 5000
      rw [HY.out, Nat.pow_zero, Nat.mul_one]
      exact Nat.le_trans (decT_len (k := 16) (by have := HM.out; omega) (by omega)) (by omega)
    · show decV (decT (m * y)) = _
      rw [decT_val, HY.out]; simp
  · obtain ⟨k, hk⟩ : ∃ k : Nat, k = (-x).toNat := ⟨_, rfl⟩
    have hnx : -x = (k : Int) := by omega
    have hx0 : ¬ 0 ≤ x := by omega
    have k1 : (k : Int) ≤ 1074 := by omega
    have k2 : 1 ≤ k := by omega
    have S1 := Lib.hid (fun w => small_any m w (by omega))
    rw [← hk]
    have HK := Lib.hid (And.intro hk k2)
    clear hM he h0 hk k2
    go_enter Try.func36, Try.ntmps36
    go_wp2_with fail
    refine HPa.out.mono ?_
    rintro e w1 ⟨rfl, hw⟩
    subst hw
    go_wp2_with fail
    refine (S1.out w).mono ?_
    rintro e w1 ⟨A1, c1, rfl, -, -, r1, q1⟩
    have R1 := Lib.hid r1
    have Q1 := Lib.hid q1
    clear r1 q1
    go_wp2_with fail
    refine (pow5_any k w1 (by omega)).mono ?_
    rintro e w2 ⟨A2, c2, rfl, -, -, r2, q2⟩
    have R2 := Lib.hid r2
    have R1' := Lib.hid (R1.out.up q2)
    have Q2 := Lib.hid (Q1.out.trans (q2.mono Q1.out.size))
    clear r2 q2
    have P1 := Lib.hid (Pc.small (x := m) (by have := HM.out; omega))
    have P2 := Lib.hid (Pc.pow (n := 5) (by omega) k)
    go_wp2_with fail
    refine (rmul_any A1 c1 w2.heap.size m A2 c2 (5 ^ k) w2 R1'.out R2.out (Nat.le_refl _) (P1.out.more (by omega)) (P2.out.more (by omega))).mono ?_
    rintro e w3 ⟨A3, c3', rfl, -, -, r3, q3⟩
    have R3 := Lib.hid r3
    have Q3 := Lib.hid (Q2.out.trans (q3.mono Q2.out.size))
    have P3 := Lib.hid (P1.out.mul P2.out)
    clear r3 q3
    go_wp2_with fail
    refine (rtext_any A3 c3' w3.heap.size (m * 5 ^ k) w3 R3.out (Nat.le_refl _) (P3.out.more (by omega))).mono ?_
    rintro e w4 ⟨rfl, q4⟩
    have Q4 := Lib.hid (Q3.out.trans (q4.mono Q3.out.size))
    clear q4
    have hX : m * 5 ^ k < 10 ^ (16 + k) := by
      rw [Nat.pow_add]
      have h1 : m * 5 ^ k ≤ m * 10 ^ k := Nat.mul_le_mul_left _ (Nat.pow_le_pow_left (by omega) k)
      have h2 : m * 10 ^ k < 10 ^ 16 * 10 ^ k := Nat.mul_lt_mul_of_pos_right (by have := HM.out; omega) (Nat.pow_pos (by omega))
      omega
    have hT : (∀ c ∈ (⟨(decT (m * 5 ^ k)).toArray⟩ : ByteArray).data.toList, isDig c) ∧ (⟨(decT (m * 5 ^ k)).toArray⟩ : ByteArray).size ≤ 5000 ∧ decV (⟨(decT (m * 5 ^ k)).toArray⟩ : ByteArray).data.toList = m * 5 ^ k :=
      ⟨decT_dig _, Nat.le_trans (decT_len hX (by omega)) (by omega), decT_val _⟩
    generalize (⟨(decT (m * 5 ^ k)).toArray⟩ : ByteArray) = T at *
    have HT := Lib.hid hT
    clear hX hT
    go_wp2_with fail
    go_loopw [8] (fun v8 wr => ∃ s : ByteArray, v8 = .string s ∧ (∀ c ∈ s.data.toList, isDig c) ∧ s.size ≤ 5000 ∧ decV s.data.toList = m * 5 ^ k ∧ w4 = wr) (fun v8 _ => (match v8 with | .string s => 5000 - s.size | _ => 0))
    case atStart => exact ⟨T, rfl, HT.out.1, HT.out.2.1, HT.out.2.2, rfl⟩
    case round =>
      obtain ⟨s, rfl, hd, hsz, hv, rfl⟩ := hrel
      by_cases hlt : s.size ≤ k
      · have i1 : (s.size : Int) ≤ (k : Int) := by omega
        have HS := Lib.hid (And.intro hd (And.intro hsz hv))
        clear hd hsz hv
        go_wp2_with fail
        obtain ⟨hd, hsz, hv⟩ := HS.out
        obtain ⟨y1, y2, y3⟩ := z30_ok hd
        refine ⟨⟨_, rfl, y1, by omega, by rw [y3, hv], trivial⟩, ?_⟩
        show 5000 - ByteArray.size _ < 5000 - s.size
        rw [y2]
        omega
      · have i1 : ¬ (s.size : Int) ≤ (k : Int) := by omega
        obtain ⟨kk, hkk⟩ : ∃ kk, kk = s.size - k := ⟨_, rfl⟩
        have i2 : (s.size : Int) ≤ 5000 := by omega
        have i3 : (s.size : Int) + x = (kk : Int) := by omega
        have i4 : (kk : Int) ≤ (s.size : Int) := by omega
        have i5 : (0 : Int) ≤ (kk : Int) := by omega
        have hbg := fun i hi => bD_get s i hi
        have HBG := Lib.hid hbg
        have HS := Lib.hid (And.intro hd (And.intro hsz (And.intro hv (And.intro hkk hlt))))
        clear hd hsz hv hkk hlt hbg
        go_wp2_with fail
        go_loopw [10] (fun v10 wy => ∃ i : Nat, v10 = .int .i64 (i : Int) ∧ i < kk ∧ (∀ j, j < i → bD s j = 48) ∧ w4 = wy) (fun v10 _ => kk - (intOf v10).toNat)
        case atStart => exact ⟨0, rfl, by have := HS.out; omega, fun j h => by omega, rfl⟩
        case round =>
          obtain ⟨i, rfl, hi, hz, rfl⟩ := hrel
          have HZ := Lib.hid hz
          have HI := Lib.hid hi
          have j0 : (0 : Int) ≤ (i : Int) := by omega
          have j9 : (i : Int) < (s.size : Int) := by omega
          have j8 : (i : Int) ≤ (kk : Int) := by omega
          have hg := HBG.out i (by omega)
          clear hz
          by_cases hc1 : i + 1 < kk
          · have j1 : (i : Int) + 1 < (kk : Int) := by omega
            by_cases h48 : bD s i = 48
            · have z1 : ((bD s i : Int) == 48) = true := by rw [beq_iff_eq]; omega
              have HQ := Lib.hid hc1
              have HZ2 := Lib.hid (show ∀ j, j < i + 1 → bD s j = 48 from fun j hj => by
                by_cases e : j = i
                · subst e; exact h48
                · exact HZ.out j (by omega))
              clear h48 hc1 hi
              generalize bD s i = y at *
              go_wp2_with fail
              go_roundw
              case rel => exact ⟨i + 1, by go_num, HQ.out, HZ2.out, trivial⟩
              case measure => have := HQ.out; simp [intOf]; omega
            · have z1 : ((bD s i : Int) == 48) = false := by rw [beq_eq_false_iff_ne]; omega
              clear h48 hc1 hi
              generalize bD s i = y at *
              go_wp2_with fail
              go_region
              go_wp2_with fail
              go_ret2
              obtain ⟨hd, hsz, hv, hkk, hlt⟩ := HS.out
              have hW := whole_ok hd hv (by omega) (by have := HI.out; omega) HZ.out (i := i)
              rw [← hkk] at hW
              exact ⟨_, _, rfl, hW.1, Nat.le_trans hW.2.1 hsz, hW.2.2, Q4.out.drew⟩
          · have j1 : ¬ (i : Int) + 1 < (kk : Int) := by omega
            clear hc1 hi
            go_wp2_with fail
            go_region
            go_wp2_with fail
            go_ret2
            obtain ⟨hd, hsz, hv, hkk, hlt⟩ := HS.out
            have hW := whole_ok hd hv (by omega) (by have := HI.out; omega) HZ.out (i := i)
            rw [← hkk] at hW
            exact ⟨_, _, rfl, hW.1, Nat.le_trans hW.2.1 hsz, hW.2.2, Q4.out.drew⟩
end Go.Proofs.Ytbkfnmmfjpaifaa
