/- Times a power of two, walked. -/
import Derived.Test.YtpklbdgajbfaiaaNtW25
namespace Go.Proofs.Ytpklbdgajbfaiaa
open Go.RowKit
set_option linter.unusedVariables false

/-- 'make([]T, l, c)', elements of one cell. -/
theorem run_make_len {P : Program} (w : World) (base : Nat) (t e : TypeId) (i : TypeInfo) (z : Value) (ht : P.underlying t = some (.slice e)) (hi : P.info? e = some i) (hz : i.zero = some z) (hsize : i.size = 1)
    (kl kc : IntKind) (l c : Nat) (hlc : l ≤ c) (hbytes : i.bytes * c ≤ 281474976710656) (h63 : c ≤ maxLen) (hbase : base ≤ w.heap.size) :
    ∃ w', (Instr.makeSlice t (.int kl (l : Int)) (.int kc (c : Int))).run P w = .ok (.slice (some ⟨w.heap.size, 0, none⟩) l c) w' ∧
      w'.ownsRow base e 1 (.slice (some ⟨w.heap.size, 0, none⟩) l c) l ((madeCells z.cells (c * 1)).toList.take (l * 1)) ∧ w.grownBy w' none := by
  have h63' : (c : Int) ≤ 9223372036854775807 := by
    have h := h63
    simp [maxLen] at h
    omega
  have hb' : (i.bytes : Int) * (c : Int) ≤ 281474976710656 := by
    have h : ((i.bytes * c : Nat) : Int) ≤ 281474976710656 := by omega
    rwa [Int.natCast_mul] at h
  have hr := run_make (P := P) w t e i z ht hi hz kl kc l c (by omega) (by omega) hb' h63'
  rw [hsize] at hr
  simp only [Int.toNat_natCast] at hr
  refine ⟨_, hr, ⟨?_, .inr ⟨w.heap.size, c, _, rfl, hbase, heap_alloc_new w _, hlc, h63, size_madeCells _ _, rfl⟩⟩, World.grownBy_alloc w _ none⟩
  rw [List.length_take, Array.length_toList, size_madeCells]; omega
theorem wpList_make_len {P : Program} (w : World) {ops : Array Oper} {rest : List Oper} {o : Oper} {a : Act} {Q : Exit → Act → World → Prop}
    (hg : o.guard = none) (lo co : Operand) (t : TypeId) (hop : o.op = Op.makeSlice t lo co)
    (base : Nat) (e : TypeId) (i : TypeInfo) (z : Value) (h1 : P.underlying t = some (.slice e)) (h2 : P.info? e = some i) (h3 : i.zero = some z) (h4 : i.size = 1)
    (kl kc : IntKind) (L C : Int) (l c : Nat) (hl : a.eval lo = .int kl L) (hc : a.eval co = .int kc C) (hL : L = (l : Int)) (hC : C = (c : Int)) (hlc : l ≤ c) (b2 : i.bytes * c ≤ 281474976710656) (b3 : c ≤ maxLen) (b4 : base ≤ w.heap.size)
    (hK : ∀ w', w'.ownsRow base e 1 (.slice (some ⟨w.heap.size, 0, none⟩) l c) l ((madeCells z.cells (c * 1)).toList.take (l * 1)) → w.grownBy w' none → wpList P ops Q rest (a.put o.dst (.slice (some ⟨w.heap.size, 0, none⟩) l c)) w') :
    wpList P ops Q (o :: rest) a w := by
  refine wpList_plain hg fun K hK' => ?_
  obtain ⟨w', hrun, r1, r2⟩ := run_make_len (P := P) w base t e i z h1 h2 h3 h4 kl kc l c hlc b2 b3 b4
  subst hL
  subst hC
  unfold Oper.wp
  simp [execOp, hop, hl, hc, hrun, Result.andThen]
  exact hK' _ _ (hK w' r1 r2)
theorem made_zero_take (l c : Nat) (h : l ≤ c) : ((madeCells (Value.int .u32 0).cells (c * 1)).toList.take (l * 1)) = cellsN .u32 (List.replicate l 0) := by
  rw [made_zero32, Nat.mul_one, cellsN, ← List.map_take, List.take_replicate, Nat.min_eq_left h, cellsN]

theorem vb_zeros (b k : Nat) (l : List Nat) : vb b (List.replicate k 0 ++ l) = b ^ k * vb b l := by
  rw [vb_append, vb_zero, List.length_replicate, Nat.zero_add]
/-- One limb moved up. -/
theorem shl_limb {x km cy : Nat} (hx : x < 4294967296) (hkm : km < 32) (hcy : cy < 2 ^ km) :
    (x * 2 ^ km) % 4294967296 + cy < 4294967296 ∧ (x * 2 ^ km) / 4294967296 < 2 ^ km ∧ (cy + x * 2 ^ km) % 4294967296 = (x * 2 ^ km) % 4294967296 + cy ∧ (cy + x * 2 ^ km) / 4294967296 = (x * 2 ^ km) / 4294967296 ∧ (x * 2 ^ km) % 4294967296 % 2 ^ km = 0 ∧ x * 2 ^ km < 18446744073709551616 := by
  have e : (4294967296 : Nat) = 2 ^ km * 2 ^ (32 - km) := by rw [← Nat.pow_add, show km + (32 - km) = 32 by omega]
  have hp := Nat.two_pow_pos km
  have hm : (x * 2 ^ km) % 4294967296 % 2 ^ km = 0 := by
    rw [e, Nat.mod_mul_right_mod, Nat.mul_mod_left]
  have hd : (x * 2 ^ km) / 4294967296 < 2 ^ km := by
    rw [Nat.div_lt_iff_lt_mul (by omega), Nat.mul_comm]
    exact (Nat.mul_lt_mul_left hp).2 hx
  have hlt : (x * 2 ^ km) % 4294967296 + cy < 4294967296 := by
    have h1 : (x * 2 ^ km) % 4294967296 < 4294967296 := Nat.mod_lt _ (by omega)
    generalize (x * 2 ^ km) % 4294967296 = y at *
    have h2 : y = 2 ^ km * (y / 2 ^ km) := by have := Nat.mod_add_div y (2 ^ km); omega
    have h3 : y / 2 ^ km < 2 ^ (32 - km) := Nat.div_lt_of_lt_mul (by rw [← e]; exact h1)
    have h4 : 2 ^ km * (y / 2 ^ km + 1) ≤ 2 ^ km * 2 ^ (32 - km) := Nat.mul_le_mul_left _ h3
    rw [← e, Nat.mul_add, ← h2] at h4
    omega
  have h31 : 2 ^ km ≤ 2 ^ 31 := Nat.pow_le_pow_right (by omega) (by omega)
  have hw : x * 2 ^ km < 18446744073709551616 := by
    have h1 : x * 2 ^ km ≤ 4294967295 * 2 ^ 31 := Nat.mul_le_mul (by omega) h31
    omega
  refine ⟨hlt, hd, ?_, ?_, hm, hw⟩
  · generalize x * 2 ^ km = y at *; omega
  · generalize x * 2 ^ km = y at *; omega

set_option maxRecDepth 100000 in
set_option maxHeartbeats 8000000 in
theorem nshl_any (A : Option Addr) (c B x k : Nat) (w : World) (hr : Rw .u32 w B A (dg 4294967296 x)) (hB0 : B ≤ w.heap.size) (hx : x < 2 ^ 8192) (hn : (dg 4294967296 x).length ≠ 0) (hk : k ≤ 8192) :
    Calls Try.prog 14 #[.slice A (dg 4294967296 x).length c, .int .i64 (k : Int)] w (NatIs (x * 2 ^ k) w) := by
  have hl1 := fit_len.2 hx
  have HV1 := valid_any A c B _ w hr (by unfold maxLen; omega)
  rw [okL_dg hx] at HV1
  have hlo1 := dg_lo (b := 4294967296) (by omega) x
  have hv1 := vb_dg (b := 4294967296) (by omega) x
  generalize dg 4294967296 x = l1 at *
  replace HV1 := Lib.hid HV1
  subst hv1
  clear hx
  obtain ⟨i0, hi, hz0, hz1, hz2⟩ := info_parts uint_info
  have y2 : ((l1.length : Int) == 0) = false := by rw [beq_eq_false_iff_ne]; omega
  have k0 : ¬ (k : Int) < 0 := by omega
  have k1 : ¬ (8192 : Int) < (k : Int) := by omega
  have ek7 : (k : Int).tdiv 32 = ((k / 32 : Nat) : Int) := (Int.ofNat_tdiv k 32).symm
  have er7 : (k : Int).tmod 32 = ((k % 32 : Nat) : Int) := (Int.ofNat_tmod k 32).symm
  have hkd : k / 32 ≤ 256 := by omega
  have hkm : k % 32 < 32 := by omega
  have ekw : IntKind.i64.wrap ((k / 32 : Nat) : Int) = ((k / 32 : Nat) : Int) := by rw [IntKind.wrap_i64]; omega
  have emw : IntKind.i64.wrap ((k % 32 : Nat) : Int) = ((k % 32 : Nat) : Int) := by rw [IntKind.wrap_i64]; omega
  have ek8 : (k : Int) / 32 = ((k / 32 : Nat) : Int) := by omega
  have er8 : (k : Int) % 32 = ((k % 32 : Nat) : Int) := by omega
  have hkk := Lib.hid (show k = 32 * (k / 32) + k % 32 by omega)
  generalize k / 32 = kd at *
  generalize k % 32 = km at *
  go_enter Try.func14, Try.ntmps14
  go_wp2_with fail
  refine HV1.out.mono ?_
  rintro e w' ⟨he, hw⟩
  subst he
  subst hw
  dsimp only
  go_wp2_with (refine wpList_make_len _ rfl (.tmp 26) (.tmp 32) 22 rfl w.heap.size 24 i0 (.int .u32 0) Try.underlying22 hi hz0 hz1 .i64 .i64 _ _ kd (kd + l1.length + 1) rfl rfl (by go_num) (by go_num) (by omega) (by rw [hz2]; omega) (by unfold maxLen; omega) (Nat.le_refl _) ?_; intro w0 hown0 hgrow0)
  rw [made_zero_take _ _ (by omega)] at hown0
  have hBz : Below w.heap.size w w0 := (Below.refl _ w).grown hgrow0 (Nat.le_refl _) (fun k e => by cases e)
  clear ek7 ekw ek8
  go_loopw [6, 7, 36] (fun v6 v7 v36 wr => ∃ (pre : List Nat) (cy : Nat), v7 = .int .u32 (cy : Int) ∧ v36 = .int .i64 (pre.length : Int) ∧ pre.length ≤ l1.length ∧ cy < 2 ^ km ∧ Lo 4294967296 pre ∧ vb 4294967296 pre + 4294967296 ^ pre.length * cy = vb 4294967296 (l1.take pre.length) * 2 ^ km ∧
      wr.ownsRow w.heap.size 24 1 v6 (kd + pre.length) (cellsN .u32 (List.replicate kd 0 ++ pre)) ∧ Below w.heap.size w wr)
    (fun _ _ v36 _ => l1.length - (intOf v36).toNat)
  case atStart => exact ⟨[], 0, rfl, rfl, Nat.zero_le _, Nat.two_pow_pos _, lo_nil _, by simp [vb], by simpa using hown0, hBz⟩
  case round =>
    clear hown0 hgrow0 hBz
    obtain ⟨pre, cy, rfl, rfl, hpl, hcy, hlp, hval, hown, hB⟩ := hrel
    have hgz := hB.size
    by_cases hlt : pre.length < l1.length
    · obtain ⟨b1, o1, rfl, _, hc1⟩ := (hr.below (hB.mono hB0)).at_ hlt
      have hd1 := lo_getD (b := 4294967296) (by omega) hlo1 pre.length
      have hv1 := vb_take 4294967296 l1 pre.length
      have hse := step_eq 4294967296 pre (cy + l1.getD pre.length 0 * 2 ^ km) cy _ (l1.getD pre.length 0 * 2 ^ km) hval rfl
      have hsl := shl_limb hd1 hkm hcy
      have i1 : (pre.length : Int) < (l1.length : Int) := by omega
      generalize l1.getD pre.length 0 = d1 at *
      obtain ⟨W, hW⟩ : ∃ W, W = d1 * 2 ^ km := ⟨_, rfl⟩
      rw [← hW] at hse hsl
      obtain ⟨s1, s2, s3, s4, s5, s6⟩ := hsl
      have hww : IntKind.u64.wrap ((d1 : Int) * 2 ^ km) = (W : Int) := by
        have e : ((d1 : Int) * 2 ^ km) = (W : Int) := by rw [hW]; push_cast; rfl
        rw [e, IntKind.wrap_u64]; omega
      obtain ⟨v, hv⟩ : ∃ v, v = W % 4294967296 + cy := ⟨_, rfl⟩
      rw [← hv] at s1 s3
      have hor : bits .or .u32 ((W : Int) % 4294967296) (cy : Int) = (v : Int) := by
        have h := u32_or_nat (W % 4294967296) cy (by omega) (by omega)
        rw [nat_join km (W % 4294967296) cy s5 hcy, ← hv] at h
        rw [← h]; congr 1
      obtain ⟨q, hq⟩ : ∃ q, q = W / 4294967296 := ⟨_, rfl⟩
      have hq2 : (W : Int) / 4294967296 = (q : Int) := by omega
      have hq3 : (q : Int) % 4294967296 = (q : Int) := by omega
      rw [s3, s4, ← hq] at hse
      rw [← hq] at s2
      have HV := Lib.hid (And.intro hse (And.intro hv1 (And.intro hW (And.intro hv hq))))
      clear hse hv1 hW hval hv hq s3 s4 s5
      go_wp2_with (at_builtin; refine wpList_append1 22 24 (.tmp 45) (.tmp 50) rfl rfl w.heap.size Try.underlying22 uint_info rfl rfl hown rfl rfl rfl (by unfold maxLen; omega) (by omega) hgz ?_; intro v' w' hown' hgrow _)
      obtain ⟨hse, hv1, hW, hv, hq⟩ := HV.out
      rw [← cellsN_snoc] at hown'
      refine ⟨⟨pre ++ [v], q, rfl, by simp, by simp; omega, s2, lo_snoc hlp s1, ?_, by simpa [Nat.add_assoc] using hown', hB.grown hgrow hgz (fun k hk => (hown.lt k hk).1)⟩, ?_⟩
      · rw [List.length_append, List.length_singleton, hse, hv1, hW, Nat.add_mul, Nat.mul_assoc]
      · simp [intOf]; omega
    · have i1 : ¬ (pre.length : Int) < (l1.length : Int) := by omega
      rw [List.take_of_length_le (by omega)] at hval
      have hp31 : 2 ^ km ≤ 2 ^ 31 := Nat.pow_le_pow_right (by omega) (by omega)
      have hlo := lo_snoc hlp (show cy < 4294967296 by omega)
      obtain ⟨o, ho⟩ : ∃ o, o = List.replicate kd 0 ++ (pre ++ [cy]) := ⟨_, rfl⟩
      have hoo : Lo 4294967296 o := by
        rw [ho]; intro y hy
        rcases List.mem_append.1 hy with h | h
        · rw [List.eq_of_mem_replicate h]; omega
        · exact hlo y h
      have hov : vb 4294967296 o = vb 4294967296 l1 * 2 ^ k := by
        rw [ho, vb_zeros, vb_snoc, hval, hkk.out, Nat.pow_add, Nat.pow_mul, show (2 : Nat) ^ 32 = 4294967296 from rfl]
        exact Nat.mul_left_comm _ _ _
      have hol : o.length = kd + pre.length + 1 := by rw [ho]; simp; omega
      have hpc : cellsN .u32 (List.replicate kd 0 ++ pre) ++ [.int .u32 (cy : Int)] = cellsN .u32 o := by rw [← cellsN_snoc, List.append_assoc, ← ho]
      have HV := Lib.hid (And.intro hov (And.intro hol hpc))
      clear hval hov hol ho hpc hp31
      go_wp2_with (at_builtin; refine wpList_append1 22 24 (.tmp 56) (.tmp 58) rfl rfl w.heap.size Try.underlying22 uint_info rfl rfl hown rfl rfl rfl (by unfold maxLen; omega) (by omega) hgz ?_; intro v' w' hown' hgrow _)
      obtain ⟨hov, hol, hpc⟩ := HV.out
      rw [hpc] at hown'
      obtain ⟨A', c', rfl, _⟩ := own_form hown'
      have hf : Fr w.heap.size w' A' c' o := Fr.of_own hown'
      have hBw := hB.grown hgrow hgz (fun k hk => (hown.lt k hk).1)
      by_cases hx : vb 4294967296 o < 2 ^ 8192
      · have HT := told_fit A' c' w.heap.size o w' hf hoo hx
        rw [hol] at HT
        have hft := hf.trim.clip
        rw [trimL_dg (b := 4294967296) (by omega) _ hoo] at hft
        rw [hov] at HT hft hx
        have HX := Lib.hid (And.intro hx hov)
        replace HT := Lib.hid HT
        clear hx hf hown' hgrow hown hov hol hpc
        refine HT.out.mono ?_
        rintro e wx ⟨he, hw⟩
        subst he
        subst hw
        dsimp only
        go_wp2_with fail
        go_ret2
        exact ⟨.inl ⟨HX.out.1, _, _, rfl, hft⟩, hBw⟩
      · have HT := told_long A' c' w.heap.size o w' hf hoo hx
        rw [hol] at HT
        rw [hov] at hx
        have HX := Lib.hid hx
        clear hx hf hown' hgrow hown hov hol hpc
        refine HT.mono ?_
        rintro e wx ⟨he, hw⟩
        subst he
        subst hw
        dsimp only
        go_wp2_with fail
        go_ret2
        exact ⟨.inr ⟨HX.out, rfl⟩, hBw⟩

end Go.Proofs.Ytpklbdgajbfaiaa
