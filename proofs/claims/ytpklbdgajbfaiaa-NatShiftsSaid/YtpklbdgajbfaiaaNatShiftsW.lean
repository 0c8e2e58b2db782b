/- 'A natural times a power of two, its bits, and the natural of a word are right', walked. Printed by wip/tools/nshifts.py. -/
import Derived.Test.YtpklbdgajbfaiaaNtW27
namespace Go.Proofs.Ytpklbdgajbfaiaa
open Go.RowKit
set_option linter.unusedVariables false

theorem dg_words0 : dg 4294967296 0 = [] := dg_zero
theorem dg_words1 {n : Nat} (h0 : 0 < n) (h1 : n < 4294967296) : dg 4294967296 n = [n] := by
  rw [dg_step (b := 4294967296) (by omega) n h0, Nat.mod_eq_of_lt h1, Nat.div_eq_of_lt h1, dg_zero]
theorem dg_words2 {n : Nat} (h0 : 4294967296 ≤ n) (h1 : n < 18446744073709551616) : dg 4294967296 n = [n % 4294967296, n / 4294967296] := by
  rw [dg_step (b := 4294967296) (by omega) n (by omega), dg_words1 (by omega) (by omega)]
/-- The top limb's bits. -/
theorem top_facts {l : List Nat} (hlo : Lo 4294967296 l) (hk : okL l = true) (hn : l.length ≠ 0) :
    ∃ t, 1 ≤ t ∧ t ≤ 32 ∧ nbits l = 32 * (l.length - 1) + t ∧ l.getD (l.length - 1) 0 / 2 ^ t = 0 ∧ l.getD (l.length - 1) 0 / 2 ^ (t - 1) = 1 ∧ vb 4294967296 l < 2 ^ nbits l ∧ 2 ^ (nbits l - 1) ≤ vb 4294967296 l := by
  have hd := lo_getD (b := 4294967296) (by omega) hlo (l.length - 1)
  have htop : l.getD (l.length - 1) 0 ≠ 0 := by
    intro h
    simp only [okL, Bool.and_eq_true, Bool.or_eq_true, beq_iff_eq, bne_iff_ne] at hk
    rcases hk.2 with h2 | h2
    · exact hn h2
    · exact h2 h
  have ht := top_bits hd htop
  have hlt := nbits_lt hlo
  have e := vb_take 4294967296 l (l.length - 1)
  rw [List.take_of_length_le (by omega)] at e
  have hnb : nbits l = 32 * (l.length - 1) + Lib.bitLen (l.getD (l.length - 1) 0) := by unfold nbits; rw [if_neg hn]
  generalize l.getD (l.length - 1) 0 = d at *
  generalize Lib.bitLen d = t at *
  obtain ⟨t1, t2, t3, t4⟩ := ht
  refine ⟨t, t1, t2, hnb, Nat.div_eq_of_lt t4, ?_, hlt, ?_⟩
  · have e2 : 2 ^ t = 2 ^ (t - 1) * 2 := by rw [← Nat.pow_succ]; congr 1; omega
    rw [e2] at t4
    have h1 := Nat.div_lt_of_lt_mul t4
    have h2 := Nat.div_pos t3 (Nat.two_pow_pos _)
    omega
  · rw [hnb, show 32 * (l.length - 1) + t - 1 = 32 * (l.length - 1) + (t - 1) by omega, Nat.pow_add, Nat.pow_mul, show (2 : Nat) ^ 32 = 4294967296 from rfl]
    have := Nat.mul_le_mul_left (4294967296 ^ (l.length - 1)) t3
    omega
theorem shl_fits {x M k K : Nat} (h1 : x < 2 ^ M) (h2 : 2 ^ (M - 1) ≤ x) (hM : 1 ≤ M) : x * 2 ^ k < 2 ^ K ↔ k + M ≤ K := by
  constructor
  · intro h
    have a : 2 ^ (M - 1 + k) ≤ x * 2 ^ k := by rw [Nat.pow_add]; exact Nat.mul_le_mul_right _ h2
    have b := (Nat.pow_lt_pow_iff_right (a := 2) (by omega)).1 (Nat.lt_of_le_of_lt a h)
    omega
  · intro h
    have a : x * 2 ^ k < 2 ^ (M + k) := by rw [Nat.pow_add]; exact (Nat.mul_lt_mul_right (Nat.two_pow_pos k)).2 h1
    exact Nat.lt_of_lt_of_le a (Nat.pow_le_pow_right (by omega) (by omega))
theorem is_dg (A : Option Addr) (c x : Nat) (A2 : Option Addr) (c2 : Nat) (w : World) (hr : Rw .u32 w w.heap.size A (dg 4294967296 x)) (hx : x < 2 ^ 8192) (hr2 : Rw .i64 w w.heap.size A2 (dg 10000 x)) :
    Calls Try.prog 28 #[.slice A (dg 4294967296 x).length c, .slice A2 (dg 10000 x).length c2] w (Yes w) := by
  have hv := vb_dg (b := 4294967296) (by omega) x
  have h := is_yes A c w.heap.size (dg 4294967296 x) A2 c2 w hr (Nat.le_refl _) (dg_lo (by omega) x) (okL_dg hx) (by rw [hv]; exact hr2)
  rw [hv] at h
  exact h
/-- Left: an answer of Shl. -/
theorem shl_fit (A : Option Addr) (c x k s : Nat) (w : World) (hr : Rw .u32 w w.heap.size A (dg 4294967296 x)) (hx : x < 2 ^ 8192) (hs : x * 2 ^ k = s) (h8 : s < 2 ^ 8192) :
    Calls Try.prog 14 #[.slice A (dg 4294967296 x).length c, .int .i64 (k : Int)] w fun e w' => ∃ A' c', e = .returned (.tuple #[.slice A' (dg 4294967296 s).length c', .int .i64 0]) ∧ Rw .u32 w' w'.heap.size A' (dg 4294967296 s) ∧ Below w.heap.size w w' := by
  have h := nshl_told A c x k w hr hx
  rw [hs] at h
  refine h.mono ?_
  rintro e w' ⟨A', n', c', v', rfl, ha, hb⟩
  rcases ha with ⟨h1, _⟩ | ⟨_, ⟨_, rfl, rfl, h4⟩ | ⟨h1, _⟩⟩
  · cases h1
  · exact ⟨A', c', rfl, h4, hb⟩
  · exact absurd h8 h1
theorem shl_long (A : Option Addr) (c x k : Nat) (w : World) (hr : Rw .u32 w w.heap.size A (dg 4294967296 x)) (hx : x < 2 ^ 8192) (h8 : ¬ x * 2 ^ k < 2 ^ 8192) :
    Calls Try.prog 14 #[.slice A (dg 4294967296 x).length c, .int .i64 (k : Int)] w fun e w' => ∃ A' c', e = .returned (.tuple #[.slice A' 0 c', .int .i64 3]) ∧ Below w.heap.size w w' := by
  refine (nshl_told A c x k w hr hx).mono ?_
  rintro e w' ⟨A', n', c', v', rfl, ha, hb⟩
  rcases ha with ⟨h1, _⟩ | ⟨_, ⟨h1, _⟩ | ⟨_, rfl, rfl⟩⟩
  · cases h1
  · exact absurd h1 h8
  · exact ⟨A', c', rfl, hb⟩

set_option maxRecDepth 100000 in
set_option maxHeartbeats 4000000 in
theorem shifts_far (A : Option Addr) (n c : Nat) (k u : Int) (w : World) (h : 400 < n) :
    Calls Try.prog 7 #[.slice A n c, .int .i64 k, .int .u64 u] w (Yes w) := by
  unfold Yes
  have HF := Lib.hid (fixed_any w)
  have hn' : (400 : Int) < (n : Int) := by omega
  clear h
  go_enter Try.func7, Try.ntmps7
  go_wp2_with fail
  refine HF.out.mono ?_
  rintro e w1 ⟨rfl, hb⟩
  go_wp2_with fail
  go_ret
  exact ⟨rfl, hb⟩

theorem npow_lt (k K : Nat) (h : k < K) : (2 : Nat) ^ k < 2 ^ K := Nat.pow_lt_pow_right (by omega) h
theorem dec_pow {k : Nat} (h : k < 8192) : (dg 10000 (2 ^ k)).length ≤ 768 := dec_fit (fit_len.2 (npow_lt k 8192 h))


set_option maxRecDepth 100000 in
set_option maxHeartbeats 8000000 in
theorem shifts_bad0 (A : Option Addr) (c : Nat) (w : World) (l : List Nat) (hr : Rw .u32 w w.heap.size A l) (hl : l.length ≤ 400) (hk : okL l = false) (k : Int) (n : Nat)  :
    Calls Try.prog 7 #[.slice A l.length c, .int .i64 k, .int .u64 (0 : Int)] w (Yes w) := by
  unfold Yes
  have HF := Lib.hid (fixed_any w)
  have HN := fun (w' : World) => from_any 0 w' (by omega)
  have HVW := fun (w' : World) (Aw : Option Addr) (cw : Nat) (hw : Rw .u32 w' w'.heap.size Aw (dg 4294967296 0)) => rvalid_dg Aw cw 0 w' hw (by rw [dg_words0]; simp)
  rw [dg_words0] at HN HVW
  simp only [List.length_nil] at HN HVW
  replace HN := Lib.hid HN
  replace HVW := Lib.hid HVW
  have HV := fun (w' : World) (hb : Below w.heap.size w w') => rvalid_any A c w'.heap.size l w' (hr.go hb) (by unfold maxLen; omega)
  have HS := fun (w' : World) (hb : Below w.heap.size w w') => nshl_bad A c w'.heap.size l k w' (hr.go hb) (by omega) hk
  rw [hk] at HV
  have t1 : ¬ (400 : Int) < (l.length : Int) := by omega
  clear hr hk hl
  generalize l.length = m at *
  replace HV := Lib.hid HV
  replace HS := Lib.hid HS
  go_enter Try.func7, Try.ntmps7
  go_wp2_with fail
  refine HF.out.mono ?_
  rintro e w1 ⟨rfl, hB1⟩
  go_wp2_with fail
  refine (HN.out w1).mono ?_
  rintro e w2 ⟨Aw, cw, rfl, fw, hb2⟩
  have hB2 := hB1.trans (hb2.mono hB1.size)
  have rw2 := fw.rw
  clear fw hb2 hB1
  have rw2 := Lib.hid rw2
  go_wp2_with fail
  refine (HVW.out w2 _ _ rw2.out).mono ?_
  rintro e w' ⟨he, hw⟩
  subst he
  subst hw
  dsimp only
  go_wp2_with fail
  refine (HS.out w2 hB2).mono ?_
  rintro e w' ⟨he, hw⟩
  subst he
  subst hw
  dsimp only
  go_wp2_with fail
  refine (HV.out w2 hB2).mono ?_
  rintro e w' ⟨he, hw⟩
  subst he
  subst hw
  dsimp only
  go_wp2_with fail
  go_ret
  exact ⟨rfl, hB2⟩

set_option maxRecDepth 100000 in
set_option maxHeartbeats 8000000 in
theorem shifts_neg0 (A : Option Addr) (c : Nat) (w : World) (x : Nat) (hr : Rw .u32 w w.heap.size A (dg 4294967296 x)) (hx : x < 2 ^ 8192) (k : Int) (hk : k < 0) (n : Nat)  :
    Calls Try.prog 7 #[.slice A (dg 4294967296 x).length c, .int .i64 k, .int .u64 (0 : Int)] w (Yes w) := by
  unfold Yes
  have HF := Lib.hid (fixed_any w)
  have HN := fun (w' : World) => from_any 0 w' (by omega)
  have HVW := fun (w' : World) (Aw : Option Addr) (cw : Nat) (hw : Rw .u32 w' w'.heap.size Aw (dg 4294967296 0)) => rvalid_dg Aw cw 0 w' hw (by rw [dg_words0]; simp)
  rw [dg_words0] at HN HVW
  simp only [List.length_nil] at HN HVW
  replace HN := Lib.hid HN
  replace HVW := Lib.hid HVW
  have hl := fit_len.2 hx
  have HV := fun (w' : World) (hb : Below w.heap.size w w') => rvalid_dg A c x w' (hr.go hb) hl
  have HS := fun (w' : World) (hb : Below w.heap.size w w') => nshl_neg A c w'.heap.size x k w' (hr.go hb) hx hk
  have t1 : ¬ (400 : Int) < ((dg 4294967296 x).length : Int) := by omega
  clear hr hx hl
  generalize (dg 4294967296 x).length = m at *
  replace HV := Lib.hid HV
  replace HS := Lib.hid HS
  go_enter Try.func7, Try.ntmps7
  go_wp2_with fail
  refine HF.out.mono ?_
  rintro e w1 ⟨rfl, hB1⟩
  go_wp2_with fail
  refine (HN.out w1).mono ?_
  rintro e w2 ⟨Aw, cw, rfl, fw, hb2⟩
  have hB2 := hB1.trans (hb2.mono hB1.size)
  have rw2 := fw.rw
  clear fw hb2 hB1
  have rw2 := Lib.hid rw2
  go_wp2_with fail
  refine (HVW.out w2 _ _ rw2.out).mono ?_
  rintro e w' ⟨he, hw⟩
  subst he
  subst hw
  dsimp only
  go_wp2_with fail
  refine (HS.out w2 hB2).mono ?_
  rintro e w' ⟨he, hw⟩
  subst he
  subst hw
  dsimp only
  go_wp2_with fail
  refine (HV.out w2 hB2).mono ?_
  rintro e w' ⟨he, hw⟩
  subst he
  subst hw
  dsimp only
  go_wp2_with fail
  go_ret
  exact ⟨rfl, hB2⟩

set_option maxRecDepth 100000 in
set_option maxHeartbeats 8000000 in
theorem shifts_none0 (A : Option Addr) (c : Nat) (w : World) (k : Int) (hk : 0 ≤ k) (n : Nat)  :
    Calls Try.prog 7 #[.slice A 0 c, .int .i64 k, .int .u64 (0 : Int)] w (Yes w) := by
  unfold Yes
  have HF := Lib.hid (fixed_any w)
  have HN := fun (w' : World) => from_any 0 w' (by omega)
  have HVW := fun (w' : World) (Aw : Option Addr) (cw : Nat) (hw : Rw .u32 w' w'.heap.size Aw (dg 4294967296 0)) => rvalid_dg Aw cw 0 w' hw (by rw [dg_words0]; simp)
  rw [dg_words0] at HN HVW
  simp only [List.length_nil] at HN HVW
  replace HN := Lib.hid HN
  replace HVW := Lib.hid HVW
  have HV := fun (w' : World) => rvalid_any A c 0 [] w' (Rw.nil _ _ _ _) (by unfold maxLen; decide)
  rw [show okL [] = true from rfl] at HV
  have HS := fun (w' : World) => nshl_none A c k w' hk
  have HB := fun (w' : World) => bits_any A c 0 [] w' (Rw.nil _ _ _ _) (lo_nil _) (by decide)
  rw [show nbits [] = 0 from rfl] at HB
  have hk0 : ¬ k < 0 := by omega
  replace HB := Lib.hid HB
  replace HV := Lib.hid HV
  replace HS := Lib.hid HS
  go_enter Try.func7, Try.ntmps7
  go_wp2_with fail
  refine HF.out.mono ?_
  rintro e w1 ⟨rfl, hB1⟩
  go_wp2_with fail
  refine (HN.out w1).mono ?_
  rintro e w2 ⟨Aw, cw, rfl, fw, hb2⟩
  have hB2 := hB1.trans (hb2.mono hB1.size)
  have rw2 := fw.rw
  clear fw hb2 hB1
  have rw2 := Lib.hid rw2
  go_wp2_with fail
  refine (HVW.out w2 _ _ rw2.out).mono ?_
  rintro e w' ⟨he, hw⟩
  subst he
  subst hw
  dsimp only
  go_wp2_with fail
  refine (HS.out w2).mono ?_
  rintro e w' ⟨he, hw⟩
  subst he
  subst hw
  dsimp only
  go_wp2_with fail
  refine (HV.out w2).mono ?_
  rintro e w' ⟨he, hw⟩
  subst he
  subst hw
  dsimp only
  go_wp2_with fail
  refine (HB.out w2).mono ?_
  rintro e w' ⟨he, hw⟩
  subst he
  subst hw
  dsimp only
  go_wp2_with fail
  go_ret
  exact ⟨rfl, hB2⟩

set_option maxRecDepth 100000 in
set_option maxHeartbeats 8000000 in
theorem shifts_long0 (A : Option Addr) (c : Nat) (w : World) (x : Nat) (hr : Rw .u32 w w.heap.size A (dg 4294967296 x)) (hx : x < 2 ^ 8192) (hne : (dg 4294967296 x).length ≠ 0) (k : Nat) (hk : 8192 < k + nbits (dg 4294967296 x)) (n : Nat)  :
    Calls Try.prog 7 #[.slice A (dg 4294967296 x).length c, .int .i64 (k : Int), .int .u64 (0 : Int)] w (Yes w) := by
  unfold Yes
  have HF := Lib.hid (fixed_any w)
  have HN := fun (w' : World) => from_any 0 w' (by omega)
  have HVW := fun (w' : World) (Aw : Option Addr) (cw : Nat) (hw : Rw .u32 w' w'.heap.size Aw (dg 4294967296 0)) => rvalid_dg Aw cw 0 w' hw (by rw [dg_words0]; simp)
  rw [dg_words0] at HN HVW
  simp only [List.length_nil] at HN HVW
  replace HN := Lib.hid HN
  replace HVW := Lib.hid HVW
  have hl := fit_len.2 hx
  have hlo := dg_lo (b := 4294967296) (by omega) x
  have HV := fun (w' : World) (hb : Below w.heap.size w w') => rvalid_dg A c x w' (hr.go hb) hl
  have HB := fun (w' : World) (hb : Below w.heap.size w w') => bits_any A c w'.heap.size _ w' (hr.go hb) hlo (by omega)
  obtain ⟨t, t1, t2, hM, ht0, ht1, hM1, hM2⟩ := top_facts hlo (okL_dg hx) hne
  rw [vb_dg (by omega)] at hM1 hM2
  have hfit := shl_fits (k := k) (K := 8192) hM1 hM2 (by omega)
  have HS := fun (w' : World) (hb : Below w.heap.size w w') => shl_long A c x k w' (hr.go hb) hx (fun h => absurd (hfit.1 h) (by omega))
  have hdl := lo_getD (b := 4294967296) (by omega) hlo ((dg 4294967296 x).length - 1)
  have hrk := fun (w' : World) (hb : Below w.heap.size w w') => (hr.go hb).at_ (i := (dg 4294967296 x).length - 1) (by omega)
  clear hfit hM1 hM2 hr hlo
  generalize (dg 4294967296 x).getD ((dg 4294967296 x).length - 1) 0 = d at *
  generalize nbits (dg 4294967296 x) = M at *
  generalize (dg 4294967296 x).length = L at *
  obtain ⟨K, hK⟩ : ∃ K, L = K + 1 := ⟨L - 1, by omega⟩
  rw [show L - 1 = K by omega] at hrk hM
  obtain ⟨tt, htt⟩ : ∃ tt, tt = t - 1 := ⟨_, rfl⟩
  rw [← htt] at ht1
  have g0 : (L : Int) - 1 = (K : Int) := by omega
  have g1 : ¬ (M : Int) ≤ 32 * (K : Int) := by omega
  have g2 : ¬ 32 * (L : Int) < (M : Int) := by omega
  have g3 : (M : Int) - 32 * (K : Int) = (t : Int) := by omega
  have g4 : (M : Int) - 1 - 32 * (K : Int) = (tt : Int) := by omega
  have g5 : (d : Int) / 2 ^ t = 0 := by rw [show ((d : Int) / 2 ^ t) = ((d / 2 ^ t : Nat) : Int) by push_cast; rfl, ht0]; rfl
  have g6 : (d : Int) / 2 ^ tt = 1 := by rw [show ((d : Int) / 2 ^ tt) = ((d / 2 ^ tt : Nat) : Int) by push_cast; rfl, ht1]; rfl
  have g7 : (K : Int) < (L : Int) := by omega
  have g8 : ((L : Int) == 0) = false := by rw [beq_eq_false_iff_ne]; omega
  have g9 :  (8192 : Int) - (M : Int) < (k : Int) := by omega
  have gk : ¬ (k : Int) < 0 := by omega
  have gM : (M : Int) ≤ 8192 := by omega
  have gL : (L : Int) ≤ 256 := by omega
  have gl : ¬ (400 : Int) < (L : Int) := by omega
  have gt : (t : Int) ≤ 32 := by omega
  have gtt : (tt : Int) < 32 := by omega
  have gw : IntKind.i64.wrap (t : Int) = (t : Int) := by rw [IntKind.wrap_i64]; omega
  have gww : IntKind.i64.wrap (tt : Int) = (tt : Int) := by rw [IntKind.wrap_i64]; omega
  have H8 := Lib.hid (And.intro hx hl)
  clear ht0 ht1 hK htt hM hk hne t1 t2 hx hl
  replace HB := Lib.hid HB
  replace hrk := Lib.hid hrk
  replace HV := Lib.hid HV
  replace HS := Lib.hid HS
  go_enter Try.func7, Try.ntmps7
  go_wp2_with fail
  refine HF.out.mono ?_
  rintro e w1 ⟨rfl, hB1⟩
  go_wp2_with fail
  refine (HN.out w1).mono ?_
  rintro e w2 ⟨Aw, cw, rfl, fw, hb2⟩
  have hB2 := hB1.trans (hb2.mono hB1.size)
  have rw2 := fw.rw
  clear fw hb2 hB1
  have rw2 := Lib.hid rw2
  go_wp2_with fail
  refine (HVW.out w2 _ _ rw2.out).mono ?_
  rintro e w' ⟨he, hw⟩
  subst he
  subst hw
  dsimp only
  go_wp2_with fail
  refine (HS.out w2 hB2).mono ?_
  rintro e w3 ⟨As, cs, rfl, hb3⟩
  have hB3 := hB2.trans (hb3.mono hB2.size)
  clear hB2 hb3 rw2
  obtain ⟨b, off, rfl, _, hct⟩ := hrk.out w3 hB3
  go_wp2_with fail
  refine (HV.out w3 hB3).mono ?_
  rintro e w' ⟨he, hw⟩
  subst he
  subst hw
  dsimp only
  go_wp2_with fail
  refine (HB.out w3 hB3).mono ?_
  rintro e w' ⟨he, hw⟩
  subst he
  subst hw
  dsimp only
  go_wp2_with fail
  go_ret
  exact ⟨rfl, hB3⟩

set_option maxRecDepth 100000 in
set_option maxHeartbeats 8000000 in
theorem shifts_fit0 (A : Option Addr) (c : Nat) (w : World) (x : Nat) (hr : Rw .u32 w w.heap.size A (dg 4294967296 x)) (hx : x < 2 ^ 8192) (hne : (dg 4294967296 x).length ≠ 0) (k : Nat) (hk : k + nbits (dg 4294967296 x) ≤ 8192) (n : Nat)  :
    Calls Try.prog 7 #[.slice A (dg 4294967296 x).length c, .int .i64 (k : Int), .int .u64 (0 : Int)] w (Yes w) := by
  unfold Yes
  have HF := Lib.hid (fixed_any w)
  have HN := fun (w' : World) => from_any 0 w' (by omega)
  have HVW := fun (w' : World) (Aw : Option Addr) (cw : Nat) (hw : Rw .u32 w' w'.heap.size Aw (dg 4294967296 0)) => rvalid_dg Aw cw 0 w' hw (by rw [dg_words0]; simp)
  rw [dg_words0] at HN HVW
  simp only [List.length_nil] at HN HVW
  replace HN := Lib.hid HN
  replace HVW := Lib.hid HVW
  have hl := fit_len.2 hx
  have hlo := dg_lo (b := 4294967296) (by omega) x
  have HV := fun (w' : World) (hb : Below w.heap.size w w') => rvalid_dg A c x w' (hr.go hb) hl
  have HB := fun (w' : World) (hb : Below w.heap.size w w') => bits_any A c w'.heap.size _ w' (hr.go hb) hlo (by omega)
  obtain ⟨t, t1, t2, hM, ht0, ht1, hM1, hM2⟩ := top_facts hlo (okL_dg hx) hne
  rw [vb_dg (by omega)] at hM1 hM2
  have hfit := shl_fits (k := k) (K := 8192) hM1 hM2 (by omega)
  obtain ⟨s, hs⟩ : ∃ s, x * 2 ^ k = s := ⟨_, rfl⟩
  rw [hs] at hfit
  have h8 := hfit.2 hk
  have HS := fun (w' : World) (hb : Below w.heap.size w w') => shl_fit A c x k s w' (hr.go hb) hx hs h8
  have HO := fun (w' : World) (hb : Below w.heap.size w w') => of_dg A c x w' (hr.go hb) (by omega)
  have HP := fun (w' : World) => pow_any k w' (by omega)
  have hxd := dec_fit hl
  have hpd := dec_pow (k := k) (by omega)
  have hdl := lo_getD (b := 4294967296) (by omega) hlo ((dg 4294967296 x).length - 1)
  have hrk := fun (w' : World) (hb : Below w.heap.size w w') => (hr.go hb).at_ (i := (dg 4294967296 x).length - 1) (by omega)
  clear hfit hM1 hM2 hr hlo
  generalize (dg 4294967296 x).getD ((dg 4294967296 x).length - 1) 0 = d at *
  generalize nbits (dg 4294967296 x) = M at *
  generalize (dg 4294967296 x).length = L at *
  obtain ⟨K, hK⟩ : ∃ K, L = K + 1 := ⟨L - 1, by omega⟩
  rw [show L - 1 = K by omega] at hrk hM
  obtain ⟨tt, htt⟩ : ∃ tt, tt = t - 1 := ⟨_, rfl⟩
  rw [← htt] at ht1
  have g0 : (L : Int) - 1 = (K : Int) := by omega
  have g1 : ¬ (M : Int) ≤ 32 * (K : Int) := by omega
  have g2 : ¬ 32 * (L : Int) < (M : Int) := by omega
  have g3 : (M : Int) - 32 * (K : Int) = (t : Int) := by omega
  have g4 : (M : Int) - 1 - 32 * (K : Int) = (tt : Int) := by omega
  have g5 : (d : Int) / 2 ^ t = 0 := by rw [show ((d : Int) / 2 ^ t) = ((d / 2 ^ t : Nat) : Int) by push_cast; rfl, ht0]; rfl
  have g6 : (d : Int) / 2 ^ tt = 1 := by rw [show ((d : Int) / 2 ^ tt) = ((d / 2 ^ tt : Nat) : Int) by push_cast; rfl, ht1]; rfl
  have g7 : (K : Int) < (L : Int) := by omega
  have g8 : ((L : Int) == 0) = false := by rw [beq_eq_false_iff_ne]; omega
  have g9 : ¬ (8192 : Int) - (M : Int) < (k : Int) := by omega
  have gk : ¬ (k : Int) < 0 := by omega
  have gM : (M : Int) ≤ 8192 := by omega
  have gL : (L : Int) ≤ 256 := by omega
  have gl : ¬ (400 : Int) < (L : Int) := by omega
  have gt : (t : Int) ≤ 32 := by omega
  have gtt : (tt : Int) < 32 := by omega
  have gw : IntKind.i64.wrap (t : Int) = (t : Int) := by rw [IntKind.wrap_i64]; omega
  have gww : IntKind.i64.wrap (tt : Int) = (tt : Int) := by rw [IntKind.wrap_i64]; omega
  have H8 := Lib.hid (And.intro h8 hl)
  have HX := Lib.hid hs
  clear ht0 ht1 hK htt hM hk hne t1 t2 hx hl hs h8
  replace HB := Lib.hid HB
  replace hrk := Lib.hid hrk
  replace HO := Lib.hid HO
  replace HP := Lib.hid HP
  have HD := Lib.hid (And.intro hxd hpd)
  clear hxd hpd
  replace HV := Lib.hid HV
  replace HS := Lib.hid HS
  go_enter Try.func7, Try.ntmps7
  go_wp2_with fail
  refine HF.out.mono ?_
  rintro e w1 ⟨rfl, hB1⟩
  go_wp2_with fail
  refine (HN.out w1).mono ?_
  rintro e w2 ⟨Aw, cw, rfl, fw, hb2⟩
  have hB2 := hB1.trans (hb2.mono hB1.size)
  have rw2 := fw.rw
  clear fw hb2 hB1
  have rw2 := Lib.hid rw2
  go_wp2_with fail
  refine (HVW.out w2 _ _ rw2.out).mono ?_
  rintro e w' ⟨he, hw⟩
  subst he
  subst hw
  dsimp only
  go_wp2_with fail
  refine (HS.out w2 hB2).mono ?_
  rintro e w3 ⟨As, cs, rfl, rs, hb3⟩
  have hB3 := hB2.trans (hb3.mono hB2.size)
  clear hB2 hb3 rw2
  obtain ⟨b, off, rfl, _, hct⟩ := hrk.out w3 hB3
  go_wp2_with fail
  refine (HV.out w3 hB3).mono ?_
  rintro e w' ⟨he, hw⟩
  subst he
  subst hw
  dsimp only
  go_wp2_with fail
  refine (HB.out w3 hB3).mono ?_
  rintro e w' ⟨he, hw⟩
  subst he
  subst hw
  dsimp only
  go_wp2_with fail
  refine (HO.out w3 hB3).mono ?_
  rintro e w4 ⟨Ao, co, rfl, _, _, ro, hb4⟩
  have hB4 := hB3.trans (hb4.mono hB3.size)
  replace rs := rs.go hb4
  clear hb4 hB3
  go_wp2_with fail
  refine (HP.out w4).mono ?_
  rintro e w5 ⟨Ap, cp, rfl, _, _, rp, hb5⟩
  have hB5 := hB4.trans (hb5.mono hB4.size)
  replace rs := rs.go hb5
  replace ro := ro.go hb5
  clear hb5 hB4
  go_wp2_with fail
  refine (rmul_any Ao co w5.heap.size x Ap cp (2 ^ k) w5 ro rp (Nat.le_refl _) (Nat.le_trans HD.out.1 (by omega)) (Nat.le_trans HD.out.2 (by omega))).mono ?_
  rw [HX.out]
  rintro e w6 ⟨Am, cm, rfl, _, _, rm, hb6⟩
  have hB6 := hB5.trans (hb6.mono hB5.size)
  replace rs := rs.go hb6
  clear hb6 hB5
  go_wp2_with fail
  refine (is_dg As cs s Am cm w6 rs H8.out.1 rm).mono ?_
  rintro e w7 ⟨rfl, hb7⟩
  have hB7 := hB6.trans (hb7.mono hB6.size)
  go_wp2_with fail
  go_ret
  exact ⟨rfl, hB7⟩

set_option maxRecDepth 100000 in
set_option maxHeartbeats 8000000 in
theorem shifts_bad1 (A : Option Addr) (c : Nat) (w : World) (l : List Nat) (hr : Rw .u32 w w.heap.size A l) (hl : l.length ≤ 400) (hk : okL l = false) (k : Int) (n : Nat) (h0 : 0 < n) (h1 : n < 4294967296) :
    Calls Try.prog 7 #[.slice A l.length c, .int .i64 k, .int .u64 (n : Int)] w (Yes w) := by
  unfold Yes
  have HF := Lib.hid (fixed_any w)
  have HN := fun (w' : World) => from_any n w' (by omega)
  have HVW := fun (w' : World) (Aw : Option Addr) (cw : Nat) (hw : Rw .u32 w' w'.heap.size Aw (dg 4294967296 n)) => rvalid_dg Aw cw n w' hw (by rw [dg_words1 h0 h1]; simp)
  rw [dg_words1 h0 h1] at HN HVW
  simp only [List.length_cons, List.length_nil, Nat.zero_add] at HN HVW
  replace HN := Lib.hid HN
  replace HVW := Lib.hid HVW
  have n1 : (0 : Int) < (n : Int) := by omega
  have n2 : ((n : Int) == 0) = false := by rw [beq_eq_false_iff_ne]; omega
  have n3 : (n : Int) % 4294967296 = (n : Int) := by omega
  have n4 : (n : Int) / 4294967296 = 0 := by omega
  clear h0 h1
  have HV := fun (w' : World) (hb : Below w.heap.size w w') => rvalid_any A c w'.heap.size l w' (hr.go hb) (by unfold maxLen; omega)
  have HS := fun (w' : World) (hb : Below w.heap.size w w') => nshl_bad A c w'.heap.size l k w' (hr.go hb) (by omega) hk
  rw [hk] at HV
  have t1 : ¬ (400 : Int) < (l.length : Int) := by omega
  clear hr hk hl
  generalize l.length = m at *
  replace HV := Lib.hid HV
  replace HS := Lib.hid HS
  go_enter Try.func7, Try.ntmps7
  go_wp2_with fail
  refine HF.out.mono ?_
  rintro e w1 ⟨rfl, hB1⟩
  go_wp2_with fail
  refine (HN.out w1).mono ?_
  rintro e w2 ⟨Aw, cw, rfl, fw, hb2⟩
  have hB2 := hB1.trans (hb2.mono hB1.size)
  have rw2 := fw.rw
  clear fw hb2 hB1
  obtain ⟨b2, o2, rfl, _, hc2⟩ := rw2.at_ (i := 0) (by simp)
  replace hc2 : w2.cell? ⟨b2, o2, none⟩ = some (.int .u32 (n : Int)) := hc2
  have rw2 := Lib.hid rw2
  go_wp2_with fail
  refine (HVW.out w2 _ _ rw2.out).mono ?_
  rintro e w' ⟨he, hw⟩
  subst he
  subst hw
  dsimp only
  go_wp2_with fail
  refine (HS.out w2 hB2).mono ?_
  rintro e w' ⟨he, hw⟩
  subst he
  subst hw
  dsimp only
  go_wp2_with fail
  refine (HV.out w2 hB2).mono ?_
  rintro e w' ⟨he, hw⟩
  subst he
  subst hw
  dsimp only
  go_wp2_with fail
  go_ret
  exact ⟨rfl, hB2⟩

set_option maxRecDepth 100000 in
set_option maxHeartbeats 8000000 in
theorem shifts_neg1 (A : Option Addr) (c : Nat) (w : World) (x : Nat) (hr : Rw .u32 w w.heap.size A (dg 4294967296 x)) (hx : x < 2 ^ 8192) (k : Int) (hk : k < 0) (n : Nat) (h0 : 0 < n) (h1 : n < 4294967296) :
    Calls Try.prog 7 #[.slice A (dg 4294967296 x).length c, .int .i64 k, .int .u64 (n : Int)] w (Yes w) := by
  unfold Yes
  have HF := Lib.hid (fixed_any w)
  have HN := fun (w' : World) => from_any n w' (by omega)
  have HVW := fun (w' : World) (Aw : Option Addr) (cw : Nat) (hw : Rw .u32 w' w'.heap.size Aw (dg 4294967296 n)) => rvalid_dg Aw cw n w' hw (by rw [dg_words1 h0 h1]; simp)
  rw [dg_words1 h0 h1] at HN HVW
  simp only [List.length_cons, List.length_nil, Nat.zero_add] at HN HVW
  replace HN := Lib.hid HN
  replace HVW := Lib.hid HVW
  have n1 : (0 : Int) < (n : Int) := by omega
  have n2 : ((n : Int) == 0) = false := by rw [beq_eq_false_iff_ne]; omega
  have n3 : (n : Int) % 4294967296 = (n : Int) := by omega
  have n4 : (n : Int) / 4294967296 = 0 := by omega
  clear h0 h1
  have hl := fit_len.2 hx
  have HV := fun (w' : World) (hb : Below w.heap.size w w') => rvalid_dg A c x w' (hr.go hb) hl
  have HS := fun (w' : World) (hb : Below w.heap.size w w') => nshl_neg A c w'.heap.size x k w' (hr.go hb) hx hk
  have t1 : ¬ (400 : Int) < ((dg 4294967296 x).length : Int) := by omega
  clear hr hx hl
  generalize (dg 4294967296 x).length = m at *
  replace HV := Lib.hid HV
  replace HS := Lib.hid HS
  go_enter Try.func7, Try.ntmps7
  go_wp2_with fail
  refine HF.out.mono ?_
  rintro e w1 ⟨rfl, hB1⟩
  go_wp2_with fail
  refine (HN.out w1).mono ?_
  rintro e w2 ⟨Aw, cw, rfl, fw, hb2⟩
  have hB2 := hB1.trans (hb2.mono hB1.size)
  have rw2 := fw.rw
  clear fw hb2 hB1
  obtain ⟨b2, o2, rfl, _, hc2⟩ := rw2.at_ (i := 0) (by simp)
  replace hc2 : w2.cell? ⟨b2, o2, none⟩ = some (.int .u32 (n : Int)) := hc2
  have rw2 := Lib.hid rw2
  go_wp2_with fail
  refine (HVW.out w2 _ _ rw2.out).mono ?_
  rintro e w' ⟨he, hw⟩
  subst he
  subst hw
  dsimp only
  go_wp2_with fail
  refine (HS.out w2 hB2).mono ?_
  rintro e w' ⟨he, hw⟩
  subst he
  subst hw
  dsimp only
  go_wp2_with fail
  refine (HV.out w2 hB2).mono ?_
  rintro e w' ⟨he, hw⟩
  subst he
  subst hw
  dsimp only
  go_wp2_with fail
  go_ret
  exact ⟨rfl, hB2⟩

set_option maxRecDepth 100000 in
set_option maxHeartbeats 8000000 in
theorem shifts_none1 (A : Option Addr) (c : Nat) (w : World) (k : Int) (hk : 0 ≤ k) (n : Nat) (h0 : 0 < n) (h1 : n < 4294967296) :
    Calls Try.prog 7 #[.slice A 0 c, .int .i64 k, .int .u64 (n : Int)] w (Yes w) := by
  unfold Yes
  have HF := Lib.hid (fixed_any w)
  have HN := fun (w' : World) => from_any n w' (by omega)
  have HVW := fun (w' : World) (Aw : Option Addr) (cw : Nat) (hw : Rw .u32 w' w'.heap.size Aw (dg 4294967296 n)) => rvalid_dg Aw cw n w' hw (by rw [dg_words1 h0 h1]; simp)
  rw [dg_words1 h0 h1] at HN HVW
  simp only [List.length_cons, List.length_nil, Nat.zero_add] at HN HVW
  replace HN := Lib.hid HN
  replace HVW := Lib.hid HVW
  have n1 : (0 : Int) < (n : Int) := by omega
  have n2 : ((n : Int) == 0) = false := by rw [beq_eq_false_iff_ne]; omega
  have n3 : (n : Int) % 4294967296 = (n : Int) := by omega
  have n4 : (n : Int) / 4294967296 = 0 := by omega
  clear h0 h1
  have HV := fun (w' : World) => rvalid_any A c 0 [] w' (Rw.nil _ _ _ _) (by unfold maxLen; decide)
  rw [show okL [] = true from rfl] at HV
  have HS := fun (w' : World) => nshl_none A c k w' hk
  have HB := fun (w' : World) => bits_any A c 0 [] w' (Rw.nil _ _ _ _) (lo_nil _) (by decide)
  rw [show nbits [] = 0 from rfl] at HB
  have hk0 : ¬ k < 0 := by omega
  replace HB := Lib.hid HB
  replace HV := Lib.hid HV
  replace HS := Lib.hid HS
  go_enter Try.func7, Try.ntmps7
  go_wp2_with fail
  refine HF.out.mono ?_
  rintro e w1 ⟨rfl, hB1⟩
  go_wp2_with fail
  refine (HN.out w1).mono ?_
  rintro e w2 ⟨Aw, cw, rfl, fw, hb2⟩
  have hB2 := hB1.trans (hb2.mono hB1.size)
  have rw2 := fw.rw
  clear fw hb2 hB1
  obtain ⟨b2, o2, rfl, _, hc2⟩ := rw2.at_ (i := 0) (by simp)
  replace hc2 : w2.cell? ⟨b2, o2, none⟩ = some (.int .u32 (n : Int)) := hc2
  have rw2 := Lib.hid rw2
  go_wp2_with fail
  refine (HVW.out w2 _ _ rw2.out).mono ?_
  rintro e w' ⟨he, hw⟩
  subst he
  subst hw
  dsimp only
  go_wp2_with fail
  refine (HS.out w2).mono ?_
  rintro e w' ⟨he, hw⟩
  subst he
  subst hw
  dsimp only
  go_wp2_with fail
  refine (HV.out w2).mono ?_
  rintro e w' ⟨he, hw⟩
  subst he
  subst hw
  dsimp only
  go_wp2_with fail
  refine (HB.out w2).mono ?_
  rintro e w' ⟨he, hw⟩
  subst he
  subst hw
  dsimp only
  go_wp2_with fail
  go_ret
  exact ⟨rfl, hB2⟩

set_option maxRecDepth 100000 in
set_option maxHeartbeats 8000000 in
theorem shifts_long1 (A : Option Addr) (c : Nat) (w : World) (x : Nat) (hr : Rw .u32 w w.heap.size A (dg 4294967296 x)) (hx : x < 2 ^ 8192) (hne : (dg 4294967296 x).length ≠ 0) (k : Nat) (hk : 8192 < k + nbits (dg 4294967296 x)) (n : Nat) (h0 : 0 < n) (h1 : n < 4294967296) :
    Calls Try.prog 7 #[.slice A (dg 4294967296 x).length c, .int .i64 (k : Int), .int .u64 (n : Int)] w (Yes w) := by
  unfold Yes
  have HF := Lib.hid (fixed_any w)
  have HN := fun (w' : World) => from_any n w' (by omega)
  have HVW := fun (w' : World) (Aw : Option Addr) (cw : Nat) (hw : Rw .u32 w' w'.heap.size Aw (dg 4294967296 n)) => rvalid_dg Aw cw n w' hw (by rw [dg_words1 h0 h1]; simp)
  rw [dg_words1 h0 h1] at HN HVW
  simp only [List.length_cons, List.length_nil, Nat.zero_add] at HN HVW
  replace HN := Lib.hid HN
  replace HVW := Lib.hid HVW
  have n1 : (0 : Int) < (n : Int) := by omega
  have n2 : ((n : Int) == 0) = false := by rw [beq_eq_false_iff_ne]; omega
  have n3 : (n : Int) % 4294967296 = (n : Int) := by omega
  have n4 : (n : Int) / 4294967296 = 0 := by omega
  clear h0 h1
  have hl := fit_len.2 hx
  have hlo := dg_lo (b := 4294967296) (by omega) x
  have HV := fun (w' : World) (hb : Below w.heap.size w w') => rvalid_dg A c x w' (hr.go hb) hl
  have HB := fun (w' : World) (hb : Below w.heap.size w w') => bits_any A c w'.heap.size _ w' (hr.go hb) hlo (by omega)
  obtain ⟨t, t1, t2, hM, ht0, ht1, hM1, hM2⟩ := top_facts hlo (okL_dg hx) hne
  rw [vb_dg (by omega)] at hM1 hM2
  have hfit := shl_fits (k := k) (K := 8192) hM1 hM2 (by omega)
  have HS := fun (w' : World) (hb : Below w.heap.size w w') => shl_long A c x k w' (hr.go hb) hx (fun h => absurd (hfit.1 h) (by omega))
  have hdl := lo_getD (b := 4294967296) (by omega) hlo ((dg 4294967296 x).length - 1)
  have hrk := fun (w' : World) (hb : Below w.heap.size w w') => (hr.go hb).at_ (i := (dg 4294967296 x).length - 1) (by omega)
  clear hfit hM1 hM2 hr hlo
  generalize (dg 4294967296 x).getD ((dg 4294967296 x).length - 1) 0 = d at *
  generalize nbits (dg 4294967296 x) = M at *
  generalize (dg 4294967296 x).length = L at *
  obtain ⟨K, hK⟩ : ∃ K, L = K + 1 := ⟨L - 1, by omega⟩
  rw [show L - 1 = K by omega] at hrk hM
  obtain ⟨tt, htt⟩ : ∃ tt, tt = t - 1 := ⟨_, rfl⟩
  rw [← htt] at ht1
  have g0 : (L : Int) - 1 = (K : Int) := by omega
  have g1 : ¬ (M : Int) ≤ 32 * (K : Int) := by omega
  have g2 : ¬ 32 * (L : Int) < (M : Int) := by omega
  have g3 : (M : Int) - 32 * (K : Int) = (t : Int) := by omega
  have g4 : (M : Int) - 1 - 32 * (K : Int) = (tt : Int) := by omega
  have g5 : (d : Int) / 2 ^ t = 0 := by rw [show ((d : Int) / 2 ^ t) = ((d / 2 ^ t : Nat) : Int) by push_cast; rfl, ht0]; rfl
  have g6 : (d : Int) / 2 ^ tt = 1 := by rw [show ((d : Int) / 2 ^ tt) = ((d / 2 ^ tt : Nat) : Int) by push_cast; rfl, ht1]; rfl
  have g7 : (K : Int) < (L : Int) := by omega
  have g8 : ((L : Int) == 0) = false := by rw [beq_eq_false_iff_ne]; omega
  have g9 :  (8192 : Int) - (M : Int) < (k : Int) := by omega
  have gk : ¬ (k : Int) < 0 := by omega
  have gM : (M : Int) ≤ 8192 := by omega
  have gL : (L : Int) ≤ 256 := by omega
  have gl : ¬ (400 : Int) < (L : Int) := by omega
  have gt : (t : Int) ≤ 32 := by omega
  have gtt : (tt : Int) < 32 := by omega
  have gw : IntKind.i64.wrap (t : Int) = (t : Int) := by rw [IntKind.wrap_i64]; omega
  have gww : IntKind.i64.wrap (tt : Int) = (tt : Int) := by rw [IntKind.wrap_i64]; omega
  have H8 := Lib.hid (And.intro hx hl)
  clear ht0 ht1 hK htt hM hk hne t1 t2 hx hl
  replace HB := Lib.hid HB
  replace hrk := Lib.hid hrk
  replace HV := Lib.hid HV
  replace HS := Lib.hid HS
  go_enter Try.func7, Try.ntmps7
  go_wp2_with fail
  refine HF.out.mono ?_
  rintro e w1 ⟨rfl, hB1⟩
  go_wp2_with fail
  refine (HN.out w1).mono ?_
  rintro e w2 ⟨Aw, cw, rfl, fw, hb2⟩
  have hB2 := hB1.trans (hb2.mono hB1.size)
  have rw2 := fw.rw
  clear fw hb2 hB1
  obtain ⟨b2, o2, rfl, _, hc2⟩ := rw2.at_ (i := 0) (by simp)
  replace hc2 : w2.cell? ⟨b2, o2, none⟩ = some (.int .u32 (n : Int)) := hc2
  have rw2 := Lib.hid rw2
  go_wp2_with fail
  refine (HVW.out w2 _ _ rw2.out).mono ?_
  rintro e w' ⟨he, hw⟩
  subst he
  subst hw
  dsimp only
  go_wp2_with fail
  refine (HS.out w2 hB2).mono ?_
  rintro e w3 ⟨As, cs, rfl, hb3⟩
  have hB3 := hB2.trans (hb3.mono hB2.size)
  clear hB2 hb3 rw2 hc2
  obtain ⟨b, off, rfl, _, hct⟩ := hrk.out w3 hB3
  go_wp2_with fail
  refine (HV.out w3 hB3).mono ?_
  rintro e w' ⟨he, hw⟩
  subst he
  subst hw
  dsimp only
  go_wp2_with fail
  refine (HB.out w3 hB3).mono ?_
  rintro e w' ⟨he, hw⟩
  subst he
  subst hw
  dsimp only
  go_wp2_with fail
  go_ret
  exact ⟨rfl, hB3⟩

set_option maxRecDepth 100000 in
set_option maxHeartbeats 8000000 in
theorem shifts_fit1 (A : Option Addr) (c : Nat) (w : World) (x : Nat) (hr : Rw .u32 w w.heap.size A (dg 4294967296 x)) (hx : x < 2 ^ 8192) (hne : (dg 4294967296 x).length ≠ 0) (k : Nat) (hk : k + nbits (dg 4294967296 x) ≤ 8192) (n : Nat) (h0 : 0 < n) (h1 : n < 4294967296) :
    Calls Try.prog 7 #[.slice A (dg 4294967296 x).length c, .int .i64 (k : Int), .int .u64 (n : Int)] w (Yes w) := by
  unfold Yes
  have HF := Lib.hid (fixed_any w)
  have HN := fun (w' : World) => from_any n w' (by omega)
  have HVW := fun (w' : World) (Aw : Option Addr) (cw : Nat) (hw : Rw .u32 w' w'.heap.size Aw (dg 4294967296 n)) => rvalid_dg Aw cw n w' hw (by rw [dg_words1 h0 h1]; simp)
  rw [dg_words1 h0 h1] at HN HVW
  simp only [List.length_cons, List.length_nil, Nat.zero_add] at HN HVW
  replace HN := Lib.hid HN
  replace HVW := Lib.hid HVW
  have n1 : (0 : Int) < (n : Int) := by omega
  have n2 : ((n : Int) == 0) = false := by rw [beq_eq_false_iff_ne]; omega
  have n3 : (n : Int) % 4294967296 = (n : Int) := by omega
  have n4 : (n : Int) / 4294967296 = 0 := by omega
  clear h0 h1
  have hl := fit_len.2 hx
  have hlo := dg_lo (b := 4294967296) (by omega) x
  have HV := fun (w' : World) (hb : Below w.heap.size w w') => rvalid_dg A c x w' (hr.go hb) hl
  have HB := fun (w' : World) (hb : Below w.heap.size w w') => bits_any A c w'.heap.size _ w' (hr.go hb) hlo (by omega)
  obtain ⟨t, t1, t2, hM, ht0, ht1, hM1, hM2⟩ := top_facts hlo (okL_dg hx) hne
  rw [vb_dg (by omega)] at hM1 hM2
  have hfit := shl_fits (k := k) (K := 8192) hM1 hM2 (by omega)
  obtain ⟨s, hs⟩ : ∃ s, x * 2 ^ k = s := ⟨_, rfl⟩
  rw [hs] at hfit
  have h8 := hfit.2 hk
  have HS := fun (w' : World) (hb : Below w.heap.size w w') => shl_fit A c x k s w' (hr.go hb) hx hs h8
  have HO := fun (w' : World) (hb : Below w.heap.size w w') => of_dg A c x w' (hr.go hb) (by omega)
  have HP := fun (w' : World) => pow_any k w' (by omega)
  have hxd := dec_fit hl
  have hpd := dec_pow (k := k) (by omega)
  have hdl := lo_getD (b := 4294967296) (by omega) hlo ((dg 4294967296 x).length - 1)
  have hrk := fun (w' : World) (hb : Below w.heap.size w w') => (hr.go hb).at_ (i := (dg 4294967296 x).length - 1) (by omega)
  clear hfit hM1 hM2 hr hlo
  generalize (dg 4294967296 x).getD ((dg 4294967296 x).length - 1) 0 = d at *
  generalize nbits (dg 4294967296 x) = M at *
  generalize (dg 4294967296 x).length = L at *
  obtain ⟨K, hK⟩ : ∃ K, L = K + 1 := ⟨L - 1, by omega⟩
  rw [show L - 1 = K by omega] at hrk hM
  obtain ⟨tt, htt⟩ : ∃ tt, tt = t - 1 := ⟨_, rfl⟩
  rw [← htt] at ht1
  have g0 : (L : Int) - 1 = (K : Int) := by omega
  have g1 : ¬ (M : Int) ≤ 32 * (K : Int) := by omega
  have g2 : ¬ 32 * (L : Int) < (M : Int) := by omega
  have g3 : (M : Int) - 32 * (K : Int) = (t : Int) := by omega
  have g4 : (M : Int) - 1 - 32 * (K : Int) = (tt : Int) := by omega
  have g5 : (d : Int) / 2 ^ t = 0 := by rw [show ((d : Int) / 2 ^ t) = ((d / 2 ^ t : Nat) : Int) by push_cast; rfl, ht0]; rfl
  have g6 : (d : Int) / 2 ^ tt = 1 := by rw [show ((d : Int) / 2 ^ tt) = ((d / 2 ^ tt : Nat) : Int) by push_cast; rfl, ht1]; rfl
  have g7 : (K : Int) < (L : Int) := by omega
  have g8 : ((L : Int) == 0) = false := by rw [beq_eq_false_iff_ne]; omega
  have g9 : ¬ (8192 : Int) - (M : Int) < (k : Int) := by omega
  have gk : ¬ (k : Int) < 0 := by omega
  have gM : (M : Int) ≤ 8192 := by omega
  have gL : (L : Int) ≤ 256 := by omega
  have gl : ¬ (400 : Int) < (L : Int) := by omega
  have gt : (t : Int) ≤ 32 := by omega
  have gtt : (tt : Int) < 32 := by omega
  have gw : IntKind.i64.wrap (t : Int) = (t : Int) := by rw [IntKind.wrap_i64]; omega
  have gww : IntKind.i64.wrap (tt : Int) = (tt : Int) := by rw [IntKind.wrap_i64]; omega
  have H8 := Lib.hid (And.intro h8 hl)
  have HX := Lib.hid hs
  clear ht0 ht1 hK htt hM hk hne t1 t2 hx hl hs h8
  replace HB := Lib.hid HB
  replace hrk := Lib.hid hrk
  replace HO := Lib.hid HO
  replace HP := Lib.hid HP
  have HD := Lib.hid (And.intro hxd hpd)
  clear hxd hpd
  replace HV := Lib.hid HV
  replace HS := Lib.hid HS
  go_enter Try.func7, Try.ntmps7
  go_wp2_with fail
  refine HF.out.mono ?_
  rintro e w1 ⟨rfl, hB1⟩
  go_wp2_with fail
  refine (HN.out w1).mono ?_
  rintro e w2 ⟨Aw, cw, rfl, fw, hb2⟩
  have hB2 := hB1.trans (hb2.mono hB1.size)
  have rw2 := fw.rw
  clear fw hb2 hB1
  obtain ⟨b2, o2, rfl, _, hc2⟩ := rw2.at_ (i := 0) (by simp)
  replace hc2 : w2.cell? ⟨b2, o2, none⟩ = some (.int .u32 (n : Int)) := hc2
  have rw2 := Lib.hid rw2
  go_wp2_with fail
  refine (HVW.out w2 _ _ rw2.out).mono ?_
  rintro e w' ⟨he, hw⟩
  subst he
  subst hw
  dsimp only
  go_wp2_with fail
  refine (HS.out w2 hB2).mono ?_
  rintro e w3 ⟨As, cs, rfl, rs, hb3⟩
  have hB3 := hB2.trans (hb3.mono hB2.size)
  clear hB2 hb3 rw2 hc2
  obtain ⟨b, off, rfl, _, hct⟩ := hrk.out w3 hB3
  go_wp2_with fail
  refine (HV.out w3 hB3).mono ?_
  rintro e w' ⟨he, hw⟩
  subst he
  subst hw
  dsimp only
  go_wp2_with fail
  refine (HB.out w3 hB3).mono ?_
  rintro e w' ⟨he, hw⟩
  subst he
  subst hw
  dsimp only
  go_wp2_with fail
  refine (HO.out w3 hB3).mono ?_
  rintro e w4 ⟨Ao, co, rfl, _, _, ro, hb4⟩
  have hB4 := hB3.trans (hb4.mono hB3.size)
  replace rs := rs.go hb4
  clear hb4 hB3
  go_wp2_with fail
  refine (HP.out w4).mono ?_
  rintro e w5 ⟨Ap, cp, rfl, _, _, rp, hb5⟩
  have hB5 := hB4.trans (hb5.mono hB4.size)
  replace rs := rs.go hb5
  replace ro := ro.go hb5
  clear hb5 hB4
  go_wp2_with fail
  refine (rmul_any Ao co w5.heap.size x Ap cp (2 ^ k) w5 ro rp (Nat.le_refl _) (Nat.le_trans HD.out.1 (by omega)) (Nat.le_trans HD.out.2 (by omega))).mono ?_
  rw [HX.out]
  rintro e w6 ⟨Am, cm, rfl, _, _, rm, hb6⟩
  have hB6 := hB5.trans (hb6.mono hB5.size)
  replace rs := rs.go hb6
  clear hb6 hB5
  go_wp2_with fail
  refine (is_dg As cs s Am cm w6 rs H8.out.1 rm).mono ?_
  rintro e w7 ⟨rfl, hb7⟩
  have hB7 := hB6.trans (hb7.mono hB6.size)
  go_wp2_with fail
  go_ret
  exact ⟨rfl, hB7⟩

set_option maxRecDepth 100000 in
set_option maxHeartbeats 8000000 in
theorem shifts_bad2 (A : Option Addr) (c : Nat) (w : World) (l : List Nat) (hr : Rw .u32 w w.heap.size A l) (hl : l.length ≤ 400) (hk : okL l = false) (k : Int) (n : Nat) (h0 : 4294967296 ≤ n) (h1 : n < 18446744073709551616) :
    Calls Try.prog 7 #[.slice A l.length c, .int .i64 k, .int .u64 (n : Int)] w (Yes w) := by
  unfold Yes
  have HF := Lib.hid (fixed_any w)
  have HN := fun (w' : World) => from_any n w' (by omega)
  have HVW := fun (w' : World) (Aw : Option Addr) (cw : Nat) (hw : Rw .u32 w' w'.heap.size Aw (dg 4294967296 n)) => rvalid_dg Aw cw n w' hw (by rw [dg_words2 h0 h1]; simp)
  rw [dg_words2 h0 h1] at HN HVW
  simp only [List.length_cons, List.length_nil, Nat.zero_add, Nat.reduceAdd] at HN HVW
  replace HN := Lib.hid HN
  replace HVW := Lib.hid HVW
  have n1 : (0 : Int) < (n : Int) := by omega
  have n2 : ((n : Int) == 0) = false := by rw [beq_eq_false_iff_ne]; omega
  obtain ⟨ra, hra⟩ : ∃ ra, ra = n % 4294967296 := ⟨_, rfl⟩
  obtain ⟨qa, hqa⟩ : ∃ qa, qa = n / 4294967296 := ⟨_, rfl⟩
  have n3 : (n : Int) % 4294967296 = (ra : Int) := by omega
  have n4 : (n : Int) / 4294967296 = (qa : Int) := by omega
  have n5 : (qa : Int) % 4294967296 = (qa : Int) := by omega
  have n6 : (0 : Int) < (qa : Int) := by omega
  rw [← hra, ← hqa] at HN HVW
  clear hra hqa
  clear h0 h1
  have HV := fun (w' : World) (hb : Below w.heap.size w w') => rvalid_any A c w'.heap.size l w' (hr.go hb) (by unfold maxLen; omega)
  have HS := fun (w' : World) (hb : Below w.heap.size w w') => nshl_bad A c w'.heap.size l k w' (hr.go hb) (by omega) hk
  rw [hk] at HV
  have t1 : ¬ (400 : Int) < (l.length : Int) := by omega
  clear hr hk hl
  generalize l.length = m at *
  replace HV := Lib.hid HV
  replace HS := Lib.hid HS
  go_enter Try.func7, Try.ntmps7
  go_wp2_with fail
  refine HF.out.mono ?_
  rintro e w1 ⟨rfl, hB1⟩
  go_wp2_with fail
  refine (HN.out w1).mono ?_
  rintro e w2 ⟨Aw, cw, rfl, fw, hb2⟩
  have hB2 := hB1.trans (hb2.mono hB1.size)
  have rw2 := fw.rw
  clear fw hb2 hB1
  obtain ⟨b2, o2, rfl, _, hc2⟩ := rw2.at_ (i := 0) (by simp)
  replace hc2 : w2.cell? ⟨b2, o2, none⟩ = some (.int .u32 (ra : Int)) := hc2
  obtain ⟨b3, o3, hbo, _, hc3⟩ := rw2.at_ (i := 1) (by simp)
  obtain ⟨rfl, rfl⟩ : b2 = b3 ∧ o2 = o3 := by simpa using hbo
  clear hbo
  replace hc3 : w2.cell? ⟨b2, o2 + 1, none⟩ = some (.int .u32 (qa : Int)) := hc3
  have rw2 := Lib.hid rw2
  go_wp2_with fail
  refine (HVW.out w2 _ _ rw2.out).mono ?_
  rintro e w' ⟨he, hw⟩
  subst he
  subst hw
  dsimp only
  go_wp2_with fail
  refine (HS.out w2 hB2).mono ?_
  rintro e w' ⟨he, hw⟩
  subst he
  subst hw
  dsimp only
  go_wp2_with fail
  refine (HV.out w2 hB2).mono ?_
  rintro e w' ⟨he, hw⟩
  subst he
  subst hw
  dsimp only
  go_wp2_with fail
  go_ret
  exact ⟨rfl, hB2⟩

set_option maxRecDepth 100000 in
set_option maxHeartbeats 8000000 in
theorem shifts_neg2 (A : Option Addr) (c : Nat) (w : World) (x : Nat) (hr : Rw .u32 w w.heap.size A (dg 4294967296 x)) (hx : x < 2 ^ 8192) (k : Int) (hk : k < 0) (n : Nat) (h0 : 4294967296 ≤ n) (h1 : n < 18446744073709551616) :
    Calls Try.prog 7 #[.slice A (dg 4294967296 x).length c, .int .i64 k, .int .u64 (n : Int)] w (Yes w) := by
  unfold Yes
  have HF := Lib.hid (fixed_any w)
  have HN := fun (w' : World) => from_any n w' (by omega)
  have HVW := fun (w' : World) (Aw : Option Addr) (cw : Nat) (hw : Rw .u32 w' w'.heap.size Aw (dg 4294967296 n)) => rvalid_dg Aw cw n w' hw (by rw [dg_words2 h0 h1]; simp)
  rw [dg_words2 h0 h1] at HN HVW
  simp only [List.length_cons, List.length_nil, Nat.zero_add, Nat.reduceAdd] at HN HVW
  replace HN := Lib.hid HN
  replace HVW := Lib.hid HVW
  have n1 : (0 : Int) < (n : Int) := by omega
  have n2 : ((n : Int) == 0) = false := by rw [beq_eq_false_iff_ne]; omega
  obtain ⟨ra, hra⟩ : ∃ ra, ra = n % 4294967296 := ⟨_, rfl⟩
  obtain ⟨qa, hqa⟩ : ∃ qa, qa = n / 4294967296 := ⟨_, rfl⟩
  have n3 : (n : Int) % 4294967296 = (ra : Int) := by omega
  have n4 : (n : Int) / 4294967296 = (qa : Int) := by omega
  have n5 : (qa : Int) % 4294967296 = (qa : Int) := by omega
  have n6 : (0 : Int) < (qa : Int) := by omega
  rw [← hra, ← hqa] at HN HVW
  clear hra hqa
  clear h0 h1
  have hl := fit_len.2 hx
  have HV := fun (w' : World) (hb : Below w.heap.size w w') => rvalid_dg A c x w' (hr.go hb) hl
  have HS := fun (w' : World) (hb : Below w.heap.size w w') => nshl_neg A c w'.heap.size x k w' (hr.go hb) hx hk
  have t1 : ¬ (400 : Int) < ((dg 4294967296 x).length : Int) := by omega
  clear hr hx hl
  generalize (dg 4294967296 x).length = m at *
  replace HV := Lib.hid HV
  replace HS := Lib.hid HS
  go_enter Try.func7, Try.ntmps7
  go_wp2_with fail
  refine HF.out.mono ?_
  rintro e w1 ⟨rfl, hB1⟩
  go_wp2_with fail
  refine (HN.out w1).mono ?_
  rintro e w2 ⟨Aw, cw, rfl, fw, hb2⟩
  have hB2 := hB1.trans (hb2.mono hB1.size)
  have rw2 := fw.rw
  clear fw hb2 hB1
  obtain ⟨b2, o2, rfl, _, hc2⟩ := rw2.at_ (i := 0) (by simp)
  replace hc2 : w2.cell? ⟨b2, o2, none⟩ = some (.int .u32 (ra : Int)) := hc2
  obtain ⟨b3, o3, hbo, _, hc3⟩ := rw2.at_ (i := 1) (by simp)
  obtain ⟨rfl, rfl⟩ : b2 = b3 ∧ o2 = o3 := by simpa using hbo
  clear hbo
  replace hc3 : w2.cell? ⟨b2, o2 + 1, none⟩ = some (.int .u32 (qa : Int)) := hc3
  have rw2 := Lib.hid rw2
  go_wp2_with fail
  refine (HVW.out w2 _ _ rw2.out).mono ?_
  rintro e w' ⟨he, hw⟩
  subst he
  subst hw
  dsimp only
  go_wp2_with fail
  refine (HS.out w2 hB2).mono ?_
  rintro e w' ⟨he, hw⟩
  subst he
  subst hw
  dsimp only
  go_wp2_with fail
  refine (HV.out w2 hB2).mono ?_
  rintro e w' ⟨he, hw⟩
  subst he
  subst hw
  dsimp only
  go_wp2_with fail
  go_ret
  exact ⟨rfl, hB2⟩

set_option maxRecDepth 100000 in
set_option maxHeartbeats 8000000 in
theorem shifts_none2 (A : Option Addr) (c : Nat) (w : World) (k : Int) (hk : 0 ≤ k) (n : Nat) (h0 : 4294967296 ≤ n) (h1 : n < 18446744073709551616) :
    Calls Try.prog 7 #[.slice A 0 c, .int .i64 k, .int .u64 (n : Int)] w (Yes w) := by
  unfold Yes
  have HF := Lib.hid (fixed_any w)
  have HN := fun (w' : World) => from_any n w' (by omega)
  have HVW := fun (w' : World) (Aw : Option Addr) (cw : Nat) (hw : Rw .u32 w' w'.heap.size Aw (dg 4294967296 n)) => rvalid_dg Aw cw n w' hw (by rw [dg_words2 h0 h1]; simp)
  rw [dg_words2 h0 h1] at HN HVW
  simp only [List.length_cons, List.length_nil, Nat.zero_add, Nat.reduceAdd] at HN HVW
  replace HN := Lib.hid HN
  replace HVW := Lib.hid HVW
  have n1 : (0 : Int) < (n : Int) := by omega
  have n2 : ((n : Int) == 0) = false := by rw [beq_eq_false_iff_ne]; omega
  obtain ⟨ra, hra⟩ : ∃ ra, ra = n % 4294967296 := ⟨_, rfl⟩
  obtain ⟨qa, hqa⟩ : ∃ qa, qa = n / 4294967296 := ⟨_, rfl⟩
  have n3 : (n : Int) % 4294967296 = (ra : Int) := by omega
  have n4 : (n : Int) / 4294967296 = (qa : Int) := by omega
  have n5 : (qa : Int) % 4294967296 = (qa : Int) := by omega
  have n6 : (0 : Int) < (qa : Int) := by omega
  rw [← hra, ← hqa] at HN HVW
  clear hra hqa
  clear h0 h1
  have HV := fun (w' : World) => rvalid_any A c 0 [] w' (Rw.nil _ _ _ _) (by unfold maxLen; decide)
  rw [show okL [] = true from rfl] at HV
  have HS := fun (w' : World) => nshl_none A c k w' hk
  have HB := fun (w' : World) => bits_any A c 0 [] w' (Rw.nil _ _ _ _) (lo_nil _) (by decide)
  rw [show nbits [] = 0 from rfl] at HB
  have hk0 : ¬ k < 0 := by omega
  replace HB := Lib.hid HB
  replace HV := Lib.hid HV
  replace HS := Lib.hid HS
  go_enter Try.func7, Try.ntmps7
  go_wp2_with fail
  refine HF.out.mono ?_
  rintro e w1 ⟨rfl, hB1⟩
  go_wp2_with fail
  refine (HN.out w1).mono ?_
  rintro e w2 ⟨Aw, cw, rfl, fw, hb2⟩
  have hB2 := hB1.trans (hb2.mono hB1.size)
  have rw2 := fw.rw
  clear fw hb2 hB1
  obtain ⟨b2, o2, rfl, _, hc2⟩ := rw2.at_ (i := 0) (by simp)
  replace hc2 : w2.cell? ⟨b2, o2, none⟩ = some (.int .u32 (ra : Int)) := hc2
  obtain ⟨b3, o3, hbo, _, hc3⟩ := rw2.at_ (i := 1) (by simp)
  obtain ⟨rfl, rfl⟩ : b2 = b3 ∧ o2 = o3 := by simpa using hbo
  clear hbo
  replace hc3 : w2.cell? ⟨b2, o2 + 1, none⟩ = some (.int .u32 (qa : Int)) := hc3
  have rw2 := Lib.hid rw2
  go_wp2_with fail
  refine (HVW.out w2 _ _ rw2.out).mono ?_
  rintro e w' ⟨he, hw⟩
  subst he
  subst hw
  dsimp only
  go_wp2_with fail
  refine (HS.out w2).mono ?_
  rintro e w' ⟨he, hw⟩
  subst he
  subst hw
  dsimp only
  go_wp2_with fail
  refine (HV.out w2).mono ?_
  rintro e w' ⟨he, hw⟩
  subst he
  subst hw
  dsimp only
  go_wp2_with fail
  refine (HB.out w2).mono ?_
  rintro e w' ⟨he, hw⟩
  subst he
  subst hw
  dsimp only
  go_wp2_with fail
  go_ret
  exact ⟨rfl, hB2⟩

set_option maxRecDepth 100000 in
set_option maxHeartbeats 8000000 in
theorem shifts_long2 (A : Option Addr) (c : Nat) (w : World) (x : Nat) (hr : Rw .u32 w w.heap.size A (dg 4294967296 x)) (hx : x < 2 ^ 8192) (hne : (dg 4294967296 x).length ≠ 0) (k : Nat) (hk : 8192 < k + nbits (dg 4294967296 x)) (n : Nat) (h0 : 4294967296 ≤ n) (h1 : n < 18446744073709551616) :
    Calls Try.prog 7 #[.slice A (dg 4294967296 x).length c, .int .i64 (k : Int), .int .u64 (n : Int)] w (Yes w) := by
  unfold Yes
  have HF := Lib.hid (fixed_any w)
  have HN := fun (w' : World) => from_any n w' (by omega)
  have HVW := fun (w' : World) (Aw : Option Addr) (cw : Nat) (hw : Rw .u32 w' w'.heap.size Aw (dg 4294967296 n)) => rvalid_dg Aw cw n w' hw (by rw [dg_words2 h0 h1]; simp)
  rw [dg_words2 h0 h1] at HN HVW
  simp only [List.length_cons, List.length_nil, Nat.zero_add, Nat.reduceAdd] at HN HVW
  replace HN := Lib.hid HN
  replace HVW := Lib.hid HVW
  have n1 : (0 : Int) < (n : Int) := by omega
  have n2 : ((n : Int) == 0) = false := by rw [beq_eq_false_iff_ne]; omega
  obtain ⟨ra, hra⟩ : ∃ ra, ra = n % 4294967296 := ⟨_, rfl⟩
  obtain ⟨qa, hqa⟩ : ∃ qa, qa = n / 4294967296 := ⟨_, rfl⟩
  have n3 : (n : Int) % 4294967296 = (ra : Int) := by omega
  have n4 : (n : Int) / 4294967296 = (qa : Int) := by omega
  have n5 : (qa : Int) % 4294967296 = (qa : Int) := by omega
  have n6 : (0 : Int) < (qa : Int) := by omega
  rw [← hra, ← hqa] at HN HVW
  clear hra hqa
  clear h0 h1
  have hl := fit_len.2 hx
  have hlo := dg_lo (b := 4294967296) (by omega) x
  have HV := fun (w' : World) (hb : Below w.heap.size w w') => rvalid_dg A c x w' (hr.go hb) hl
  have HB := fun (w' : World) (hb : Below w.heap.size w w') => bits_any A c w'.heap.size _ w' (hr.go hb) hlo (by omega)
  obtain ⟨t, t1, t2, hM, ht0, ht1, hM1, hM2⟩ := top_facts hlo (okL_dg hx) hne
  rw [vb_dg (by omega)] at hM1 hM2
  have hfit := shl_fits (k := k) (K := 8192) hM1 hM2 (by omega)
  have HS := fun (w' : World) (hb : Below w.heap.size w w') => shl_long A c x k w' (hr.go hb) hx (fun h => absurd (hfit.1 h) (by omega))
  have hdl := lo_getD (b := 4294967296) (by omega) hlo ((dg 4294967296 x).length - 1)
  have hrk := fun (w' : World) (hb : Below w.heap.size w w') => (hr.go hb).at_ (i := (dg 4294967296 x).length - 1) (by omega)
  clear hfit hM1 hM2 hr hlo
  generalize (dg 4294967296 x).getD ((dg 4294967296 x).length - 1) 0 = d at *
  generalize nbits (dg 4294967296 x) = M at *
  generalize (dg 4294967296 x).length = L at *
  obtain ⟨K, hK⟩ : ∃ K, L = K + 1 := ⟨L - 1, by omega⟩
  rw [show L - 1 = K by omega] at hrk hM
  obtain ⟨tt, htt⟩ : ∃ tt, tt = t - 1 := ⟨_, rfl⟩
  rw [← htt] at ht1
  have g0 : (L : Int) - 1 = (K : Int) := by omega
  have g1 : ¬ (M : Int) ≤ 32 * (K : Int) := by omega
  have g2 : ¬ 32 * (L : Int) < (M : Int) := by omega
  have g3 : (M : Int) - 32 * (K : Int) = (t : Int) := by omega
  have g4 : (M : Int) - 1 - 32 * (K : Int) = (tt : Int) := by omega
  have g5 : (d : Int) / 2 ^ t = 0 := by rw [show ((d : Int) / 2 ^ t) = ((d / 2 ^ t : Nat) : Int) by push_cast; rfl, ht0]; rfl
  have g6 : (d : Int) / 2 ^ tt = 1 := by rw [show ((d : Int) / 2 ^ tt) = ((d / 2 ^ tt : Nat) : Int) by push_cast; rfl, ht1]; rfl
  have g7 : (K : Int) < (L : Int) := by omega
  have g8 : ((L : Int) == 0) = false := by rw [beq_eq_false_iff_ne]; omega
  have g9 :  (8192 : Int) - (M : Int) < (k : Int) := by omega
  have gk : ¬ (k : Int) < 0 := by omega
  have gM : (M : Int) ≤ 8192 := by omega
  have gL : (L : Int) ≤ 256 := by omega
  have gl : ¬ (400 : Int) < (L : Int) := by omega
  have gt : (t : Int) ≤ 32 := by omega
  have gtt : (tt : Int) < 32 := by omega
  have gw : IntKind.i64.wrap (t : Int) = (t : Int) := by rw [IntKind.wrap_i64]; omega
  have gww : IntKind.i64.wrap (tt : Int) = (tt : Int) := by rw [IntKind.wrap_i64]; omega
  have H8 := Lib.hid (And.intro hx hl)
  clear ht0 ht1 hK htt hM hk hne t1 t2 hx hl
  replace HB := Lib.hid HB
  replace hrk := Lib.hid hrk
  replace HV := Lib.hid HV
  replace HS := Lib.hid HS
  go_enter Try.func7, Try.ntmps7
  go_wp2_with fail
  refine HF.out.mono ?_
  rintro e w1 ⟨rfl, hB1⟩
  go_wp2_with fail
  refine (HN.out w1).mono ?_
  rintro e w2 ⟨Aw, cw, rfl, fw, hb2⟩
  have hB2 := hB1.trans (hb2.mono hB1.size)
  have rw2 := fw.rw
  clear fw hb2 hB1
  obtain ⟨b2, o2, rfl, _, hc2⟩ := rw2.at_ (i := 0) (by simp)
  replace hc2 : w2.cell? ⟨b2, o2, none⟩ = some (.int .u32 (ra : Int)) := hc2
  obtain ⟨b3, o3, hbo, _, hc3⟩ := rw2.at_ (i := 1) (by simp)
  obtain ⟨rfl, rfl⟩ : b2 = b3 ∧ o2 = o3 := by simpa using hbo
  clear hbo
  replace hc3 : w2.cell? ⟨b2, o2 + 1, none⟩ = some (.int .u32 (qa : Int)) := hc3
  have rw2 := Lib.hid rw2
  go_wp2_with fail
  refine (HVW.out w2 _ _ rw2.out).mono ?_
  rintro e w' ⟨he, hw⟩
  subst he
  subst hw
  dsimp only
  go_wp2_with fail
  refine (HS.out w2 hB2).mono ?_
  rintro e w3 ⟨As, cs, rfl, hb3⟩
  have hB3 := hB2.trans (hb3.mono hB2.size)
  clear hB2 hb3 rw2 hc2 hc3
  obtain ⟨b, off, rfl, _, hct⟩ := hrk.out w3 hB3
  go_wp2_with fail
  refine (HV.out w3 hB3).mono ?_
  rintro e w' ⟨he, hw⟩
  subst he
  subst hw
  dsimp only
  go_wp2_with fail
  refine (HB.out w3 hB3).mono ?_
  rintro e w' ⟨he, hw⟩
  subst he
  subst hw
  dsimp only
  go_wp2_with fail
  go_ret
  exact ⟨rfl, hB3⟩

set_option maxRecDepth 100000 in
set_option maxHeartbeats 8000000 in
theorem shifts_fit2 (A : Option Addr) (c : Nat) (w : World) (x : Nat) (hr : Rw .u32 w w.heap.size A (dg 4294967296 x)) (hx : x < 2 ^ 8192) (hne : (dg 4294967296 x).length ≠ 0) (k : Nat) (hk : k + nbits (dg 4294967296 x) ≤ 8192) (n : Nat) (h0 : 4294967296 ≤ n) (h1 : n < 18446744073709551616) :
    Calls Try.prog 7 #[.slice A (dg 4294967296 x).length c, .int .i64 (k : Int), .int .u64 (n : Int)] w (Yes w) := by
  unfold Yes
  have HF := Lib.hid (fixed_any w)
  have HN := fun (w' : World) => from_any n w' (by omega)
  have HVW := fun (w' : World) (Aw : Option Addr) (cw : Nat) (hw : Rw .u32 w' w'.heap.size Aw (dg 4294967296 n)) => rvalid_dg Aw cw n w' hw (by rw [dg_words2 h0 h1]; simp)
  rw [dg_words2 h0 h1] at HN HVW
  simp only [List.length_cons, List.length_nil, Nat.zero_add, Nat.reduceAdd] at HN HVW
  replace HN := Lib.hid HN
  replace HVW := Lib.hid HVW
  have n1 : (0 : Int) < (n : Int) := by omega
  have n2 : ((n : Int) == 0) = false := by rw [beq_eq_false_iff_ne]; omega
  obtain ⟨ra, hra⟩ : ∃ ra, ra = n % 4294967296 := ⟨_, rfl⟩
  obtain ⟨qa, hqa⟩ : ∃ qa, qa = n / 4294967296 := ⟨_, rfl⟩
  have n3 : (n : Int) % 4294967296 = (ra : Int) := by omega
  have n4 : (n : Int) / 4294967296 = (qa : Int) := by omega
  have n5 : (qa : Int) % 4294967296 = (qa : Int) := by omega
  have n6 : (0 : Int) < (qa : Int) := by omega
  rw [← hra, ← hqa] at HN HVW
  clear hra hqa
  clear h0 h1
  have hl := fit_len.2 hx
  have hlo := dg_lo (b := 4294967296) (by omega) x
  have HV := fun (w' : World) (hb : Below w.heap.size w w') => rvalid_dg A c x w' (hr.go hb) hl
  have HB := fun (w' : World) (hb : Below w.heap.size w w') => bits_any A c w'.heap.size _ w' (hr.go hb) hlo (by omega)
  obtain ⟨t, t1, t2, hM, ht0, ht1, hM1, hM2⟩ := top_facts hlo (okL_dg hx) hne
  rw [vb_dg (by omega)] at hM1 hM2
  have hfit := shl_fits (k := k) (K := 8192) hM1 hM2 (by omega)
  obtain ⟨s, hs⟩ : ∃ s, x * 2 ^ k = s := ⟨_, rfl⟩
  rw [hs] at hfit
  have h8 := hfit.2 hk
  have HS := fun (w' : World) (hb : Below w.heap.size w w') => shl_fit A c x k s w' (hr.go hb) hx hs h8
  have HO := fun (w' : World) (hb : Below w.heap.size w w') => of_dg A c x w' (hr.go hb) (by omega)
  have HP := fun (w' : World) => pow_any k w' (by omega)
  have hxd := dec_fit hl
  have hpd := dec_pow (k := k) (by omega)
  have hdl := lo_getD (b := 4294967296) (by omega) hlo ((dg 4294967296 x).length - 1)
  have hrk := fun (w' : World) (hb : Below w.heap.size w w') => (hr.go hb).at_ (i := (dg 4294967296 x).length - 1) (by omega)
  clear hfit hM1 hM2 hr hlo
  generalize (dg 4294967296 x).getD ((dg 4294967296 x).length - 1) 0 = d at *
  generalize nbits (dg 4294967296 x) = M at *
  generalize (dg 4294967296 x).length = L at *
  obtain ⟨K, hK⟩ : ∃ K, L = K + 1 := ⟨L - 1, by omega⟩
  rw [show L - 1 = K by omega] at hrk hM
  obtain ⟨tt, htt⟩ : ∃ tt, tt = t - 1 := ⟨_, rfl⟩
  rw [← htt] at ht1
  have g0 : (L : Int) - 1 = (K : Int) := by omega
  have g1 : ¬ (M : Int) ≤ 32 * (K : Int) := by omega
  have g2 : ¬ 32 * (L : Int) < (M : Int) := by omega
  have g3 : (M : Int) - 32 * (K : Int) = (t : Int) := by omega
  have g4 : (M : Int) - 1 - 32 * (K : Int) = (tt : Int) := by omega
  have g5 : (d : Int) / 2 ^ t = 0 := by rw [show ((d : Int) / 2 ^ t) = ((d / 2 ^ t : Nat) : Int) by push_cast; rfl, ht0]; rfl
  have g6 : (d : Int) / 2 ^ tt = 1 := by rw [show ((d : Int) / 2 ^ tt) = ((d / 2 ^ tt : Nat) : Int) by push_cast; rfl, ht1]; rfl
  have g7 : (K : Int) < (L : Int) := by omega
  have g8 : ((L : Int) == 0) = false := by rw [beq_eq_false_iff_ne]; omega
  have g9 : ¬ (8192 : Int) - (M : Int) < (k : Int) := by omega
  have gk : ¬ (k : Int) < 0 := by omega
  have gM : (M : Int) ≤ 8192 := by omega
  have gL : (L : Int) ≤ 256 := by omega
  have gl : ¬ (400 : Int) < (L : Int) := by omega
  have gt : (t : Int) ≤ 32 := by omega
  have gtt : (tt : Int) < 32 := by omega
  have gw : IntKind.i64.wrap (t : Int) = (t : Int) := by rw [IntKind.wrap_i64]; omega
  have gww : IntKind.i64.wrap (tt : Int) = (tt : Int) := by rw [IntKind.wrap_i64]; omega
  have H8 := Lib.hid (And.intro h8 hl)
  have HX := Lib.hid hs
  clear ht0 ht1 hK htt hM hk hne t1 t2 hx hl hs h8
  replace HB := Lib.hid HB
  replace hrk := Lib.hid hrk
  replace HO := Lib.hid HO
  replace HP := Lib.hid HP
  have HD := Lib.hid (And.intro hxd hpd)
  clear hxd hpd
  replace HV := Lib.hid HV
  replace HS := Lib.hid HS
  go_enter Try.func7, Try.ntmps7
  go_wp2_with fail
  refine HF.out.mono ?_
  rintro e w1 ⟨rfl, hB1⟩
  go_wp2_with fail
  refine (HN.out w1).mono ?_
  rintro e w2 ⟨Aw, cw, rfl, fw, hb2⟩
  have hB2 := hB1.trans (hb2.mono hB1.size)
  have rw2 := fw.rw
  clear fw hb2 hB1
  obtain ⟨b2, o2, rfl, _, hc2⟩ := rw2.at_ (i := 0) (by simp)
  replace hc2 : w2.cell? ⟨b2, o2, none⟩ = some (.int .u32 (ra : Int)) := hc2
  obtain ⟨b3, o3, hbo, _, hc3⟩ := rw2.at_ (i := 1) (by simp)
  obtain ⟨rfl, rfl⟩ : b2 = b3 ∧ o2 = o3 := by simpa using hbo
  clear hbo
  replace hc3 : w2.cell? ⟨b2, o2 + 1, none⟩ = some (.int .u32 (qa : Int)) := hc3
  have rw2 := Lib.hid rw2
  go_wp2_with fail
  refine (HVW.out w2 _ _ rw2.out).mono ?_
  rintro e w' ⟨he, hw⟩
  subst he
  subst hw
  dsimp only
  go_wp2_with fail
  refine (HS.out w2 hB2).mono ?_
  rintro e w3 ⟨As, cs, rfl, rs, hb3⟩
  have hB3 := hB2.trans (hb3.mono hB2.size)
  clear hB2 hb3 rw2 hc2 hc3
  obtain ⟨b, off, rfl, _, hct⟩ := hrk.out w3 hB3
  go_wp2_with fail
  refine (HV.out w3 hB3).mono ?_
  rintro e w' ⟨he, hw⟩
  subst he
  subst hw
  dsimp only
  go_wp2_with fail
  refine (HB.out w3 hB3).mono ?_
  rintro e w' ⟨he, hw⟩
  subst he
  subst hw
  dsimp only
  go_wp2_with fail
  refine (HO.out w3 hB3).mono ?_
  rintro e w4 ⟨Ao, co, rfl, _, _, ro, hb4⟩
  have hB4 := hB3.trans (hb4.mono hB3.size)
  replace rs := rs.go hb4
  clear hb4 hB3
  go_wp2_with fail
  refine (HP.out w4).mono ?_
  rintro e w5 ⟨Ap, cp, rfl, _, _, rp, hb5⟩
  have hB5 := hB4.trans (hb5.mono hB4.size)
  replace rs := rs.go hb5
  replace ro := ro.go hb5
  clear hb5 hB4
  go_wp2_with fail
  refine (rmul_any Ao co w5.heap.size x Ap cp (2 ^ k) w5 ro rp (Nat.le_refl _) (Nat.le_trans HD.out.1 (by omega)) (Nat.le_trans HD.out.2 (by omega))).mono ?_
  rw [HX.out]
  rintro e w6 ⟨Am, cm, rfl, _, _, rm, hb6⟩
  have hB6 := hB5.trans (hb6.mono hB5.size)
  replace rs := rs.go hb6
  clear hb6 hB5
  go_wp2_with fail
  refine (is_dg As cs s Am cm w6 rs H8.out.1 rm).mono ?_
  rintro e w7 ⟨rfl, hb7⟩
  have hB7 := hB6.trans (hb7.mono hB6.size)
  go_wp2_with fail
  go_ret
  exact ⟨rfl, hB7⟩

theorem shifts_walk (A : Option Addr) (n c : Nat) (zs : List Int) (k : Int) (u : Int) (w : World) (h1 : IsRow .u32 w A n c zs) (hu : (Lit.int .u64 u).wf = true) :
    Calls Try.prog 7 #[.slice A n c, .int .i64 k, .int .u64 u] w (Yes w) := by
  obtain ⟨l, rfl, hlo, hr, hA, hc, hm⟩ := row_limbs h1
  have hu2 := wf_u64_bounds hu
  obtain ⟨v, rfl⟩ : ∃ v : Nat, u = (v : Int) := ⟨u.toNat, by omega⟩
  by_cases hf : 400 < l.length
  · exact shifts_far A _ c k v w hf
  have hl : l.length ≤ 400 := by omega
  have key : ∀ Q : Prop, (v = 0 → Q) → (0 < v → v < 4294967296 → Q) → (4294967296 ≤ v → v < 18446744073709551616 → Q) → Q := fun Q a b c => by
    rcases Nat.eq_zero_or_pos v with h | h
    · exact a h
    · rcases Nat.lt_or_ge v 4294967296 with h2 | h2
      · exact b h h2
      · exact c h2 (by omega)
  cases hk : okL l
  · refine key _ (fun h => ?_) (fun a b => shifts_bad1 A c w l hr hl hk k v a b) (fun a b => shifts_bad2 A c w l hr hl hk k v a b)
    subst h; exact shifts_bad0 A c w l hr hl hk k 0
  have e1 := top_dg (b := 4294967296) (by omega) l hlo (okL_top hk).2
  have hx : vb 4294967296 l < 2 ^ 8192 := fit_len.1 (by rw [e1]; exact (okL_top hk).1)
  rw [← e1] at hr ⊢
  generalize vb 4294967296 l = x at *
  by_cases hkn : k < 0
  · refine key _ (fun h => ?_) (fun a b => shifts_neg1 A c w x hr hx k hkn v a b) (fun a b => shifts_neg2 A c w x hr hx k hkn v a b)
    subst h; exact shifts_neg0 A c w x hr hx k hkn 0
  by_cases hne : (dg 4294967296 x).length = 0
  · rw [hne]
    refine key _ (fun h => ?_) (fun a b => shifts_none1 A c w k (by omega) v a b) (fun a b => shifts_none2 A c w k (by omega) v a b)
    subst h; exact shifts_none0 A c w k (by omega) 0
  obtain ⟨m, rfl⟩ : ∃ m : Nat, k = (m : Int) := ⟨k.toNat, by omega⟩
  by_cases hlong : 8192 < m + nbits (dg 4294967296 x)
  · refine key _ (fun h => ?_) (fun a b => shifts_long1 A c w x hr hx hne m hlong v a b) (fun a b => shifts_long2 A c w x hr hx hne m hlong v a b)
    subst h; exact shifts_long0 A c w x hr hx hne m hlong 0
  · refine key _ (fun h => ?_) (fun a b => shifts_fit1 A c w x hr hx hne m (by omega) v a b) (fun a b => shifts_fit2 A c w x hr hx hne m (by omega) v a b)
    subst h; exact shifts_fit0 A c w x hr hx hne m (by omega) 0

end Go.Proofs.Ytpklbdgajbfaiaa
