/- The natural that digits write, walked. -/
import Derived.Test.YtpklbdgajbfaiaaNtW15
import Derived.Lib.ConvBytes
namespace Go.Proofs.Ytpklbdgajbfaiaa
open Go.RowKit
set_option linter.unusedVariables false

/-- The number that digits write. -/
def decV (l : List UInt8) : Nat := l.foldl (fun v c => 10 * v + (c.toNat - 48)) 0
theorem decV_snoc (l : List UInt8) (c : UInt8) : decV (l ++ [c]) = 10 * decV l + (c.toNat - 48) := by simp [decV]
def isDig (c : UInt8) : Prop := 48 ≤ c.toNat ∧ c.toNat ≤ 57
theorem fold_mono (r : List UInt8) : ∀ v, v ≤ r.foldl (fun v c => 10 * v + (c.toNat - 48)) v := by
  induction r with
  | nil => intro v; exact Nat.le_refl _
  | cons c r ih =>
    intro v
    exact Nat.le_trans (by omega) (ih (10 * v + (c.toNat - 48)))
theorem decV_mono (l : List UInt8) (i : Nat) : decV (l.take i) ≤ decV l := by
  have h := fold_mono (l.drop i) (decV (l.take i))
  unfold decV at h ⊢
  rw [← List.foldl_append, List.take_append_drop] at h
  exact h
theorem decV_take (l : List UInt8) {i : Nat} (h : i < l.length) : decV (l.take (i + 1)) = 10 * decV (l.take i) + ((l.getD i 0).toNat - 48) := by
  rw [List.take_succ_eq_append_getElem h, decV_snoc, List.getD_eq_getElem?_getD, List.getElem?_eq_getElem h]; rfl
theorem bytes_below (w : World) (e : TypeId) (s : ByteArray) : Below w.heap.size w (Lib.bytesWorld w e s) := by
  refine ⟨rfl, rfl, rfl, by rw [Lib.bytesWorld_size]; omega, fun k hk => Lib.bytesWorld_at_old w e s k hk⟩
theorem conv_bytes (s : ByteArray) (w : World) : (convert 9 64 (.string s)).run Try.prog w = .ok (.slice (some ⟨w.heap.size, 0, none⟩) s.size (grownCap w s.size 0 5)) (Lib.bytesWorld w 5 s) :=
  Lib.run_convert_string_bytes w _ _ _ s Try.underlying9 Try.underlying64 Try.underlying5

theorem canon_len {p : List Nat} (hlo : Lo 4294967296 p) (h : p.length ≤ (dg 4294967296 (vb 4294967296 p)).length) : dg 4294967296 (vb 4294967296 p) = p := by
  rw [← trimL_dg (by omega) p hlo] at h ⊢
  obtain ⟨n, hn, e⟩ := trimL_take p
  rw [e] at h ⊢
  rw [List.length_take] at h
  rw [List.take_of_length_le (by omega)]
theorem canon_snoc {p : List Nat} {k : Nat} (hlo : Lo 4294967296 (p ++ [k])) (hk : k ≠ 0) : dg 4294967296 (vb 4294967296 (p ++ [k])) = p ++ [k] :=
  top_dg (by omega) _ hlo (fun h => by simp; exact hk)
theorem ten_step (o p : List Nat) (j q k d : Nat) (hj : j < p.length) (hv : vb 4294967296 (p.take j) + 4294967296 ^ j * k = 10 * vb 4294967296 (o.take j) + d) (hq : q = k + o.getD j 0 * 10) :
    vb 4294967296 ((p.set j (q % 4294967296)).take (j + 1)) + 4294967296 ^ (j + 1) * (q / 4294967296) = 10 * vb 4294967296 (o.take (j + 1)) + d := by
  rw [set_take p j _ hj, vb_snoc, List.length_take, Nat.min_eq_left (Nat.le_of_lt hj), vb_take, Nat.pow_succ]
  have e := Nat.mod_add_div q 4294967296
  have e2 : 4294967296 ^ j * (q % 4294967296 + 4294967296 * (q / 4294967296)) = 4294967296 ^ j * (k + o.getD j 0 * 10) := by rw [e, hq]
  rw [Nat.mul_add, Nat.mul_add, ← Nat.mul_assoc, ← Nat.mul_assoc] at e2
  rw [Nat.mul_add]
  omega

set_option maxRecDepth 20000 in
set_option maxHeartbeats 4000000 in
theorem parse_ok (s : ByteArray) (w : World) (hs0 : s.size ≠ 0) (hs : s.size ≤ 1048576) (hd : ∀ c ∈ s.data.toList, isDig c) (hv : (dg 4294967296 (decV s.data.toList)).length ≤ 256) :
    Calls Try.prog 23 #[.string s] w (NatOk (decV s.data.toList) w) := by
  have hcv := conv_bytes s w
  have hcv2 := conv_bytes s (Lib.bytesWorld w 5 s)
  have hlen : s.data.toList.length = s.size := by simp
  have hB1 := bytes_below w 5 s
  have hcell1 := fun j hj => Lib.bytesWorld_cell w 5 s j hj
  have hB2 := bytes_below (Lib.bytesWorld w 5 s) 5 s
  have hcell2 := fun j hj => Lib.bytesWorld_cell (Lib.bytesWorld w 5 s) 5 s j hj
  have hz1 := Lib.bytesWorld_size w 5 s
  have hz2 := Lib.bytesWorld_size (Lib.bytesWorld w 5 s) 5 s
  have hse : s.toList.isEmpty = false := by
    rw [Lib.toList_data]
    cases hx : s.data.toList with
    | nil => rw [hx] at hlen; simp at hlen; omega
    | cons => rfl
  generalize Lib.bytesWorld (Lib.bytesWorld w 5 s) 5 s = W2 at *
  generalize Lib.bytesWorld w 5 s = W1 at *
  generalize grownCap w s.size 0 5 = cap1 at *
  generalize grownCap W1 s.size 0 5 = cap2 at *
  have hdi : ∀ i, i < s.size → isDig (s.data.toList.getD i 0) := fun i hi => by
    rw [List.getD_eq_getElem?_getD, List.getElem?_eq_getElem (by omega)]
    exact hd _ (List.getElem_mem (by omega))
  have HC2 := Lib.hid (fun (j : Nat) (hj : j < s.size) (wx : World) (hb : Below W2.heap.size W2 wx) => (Below.cell (p := ⟨W1.heap.size, j, none⟩) hb (by show W1.heap.size < W2.heap.size; omega)).trans (hcell2 j hj))
  have HBB := Lib.hid (hB1.trans (hB2.mono hB1.size))
  have HV := Lib.hid hv
  have HZ := Lib.hid (And.intro hz1 hz2)
  clear hv hz1 hz2 hd
  go_enter Try.func23, Try.ntmps23
  go_wp2_with fail
  go_loopw [16] (fun v16 wr => ∃ i : Nat, v16 = .int .i64 (i : Int) ∧ i ≤ s.size ∧ wr = W1) (fun v16 _ => s.size - (intOf v16).toNat)
  case atStart => exact ⟨0, rfl, Nat.zero_le _, rfl⟩
  case round =>
    obtain ⟨i, rfl, hi, rfl⟩ := hrel
    by_cases hlt : i < s.size
    · have hc := hcell1 i hlt
      have hdd := hdi i hlt
      unfold isDig at hdd
      have i1 : (i : Int) < (s.size : Int) := by omega
      generalize (s.data.toList.getD i 0).toNat = x at *
      have x1 : ¬ (x : Int) < 48 := by omega
      have x2 : ¬ 57 < (x : Int) := by omega
      clear hcell1 hcell2 hdi
      go_wp2_with fail
      go_roundw
      case rel => exact ⟨i + 1, by go_num, by omega, trivial⟩
      case measure => simp [intOf]; omega
    · have i1 : ¬ (i : Int) < (s.size : Int) := by omega
      clear hcell1
      go_wp2_with fail
      go_loopw [4, 30] (fun v4 v30 wx => ∃ i : Nat, v30 = .int .i64 (i : Int) ∧ i ≤ s.size ∧ wx.ownsRow W2.heap.size 24 1 v4 (dg 4294967296 (decV (s.data.toList.take i))).length (cellsN .u32 (dg 4294967296 (decV (s.data.toList.take i)))) ∧ Below W2.heap.size W2 wx)
        (fun _ v30 _ => s.size - (intOf v30).toNat)
      case atStart => exact ⟨0, rfl, Nat.zero_le _, ⟨rfl, .inl ⟨rfl, rfl⟩⟩, Below.refl _ _⟩
      case round =>
        clear i1 hlt hi
        obtain ⟨i, rfl, hi, hown, hB⟩ := hrel
        have hgz := hB.size
        by_cases hlt : i < s.size
        · have hc := HC2.out i hlt _ hB
          have hdd := hdi i hlt
          unfold isDig at hdd
          have hdt := decV_take s.data.toList (i := i) (by omega)
          have hmo := decV_mono s.data.toList i
          have hmo1 := decV_mono s.data.toList (i + 1)
          generalize (s.data.toList.getD i 0).toNat = x at *
          have hl0 := Nat.le_trans (dg_mono (b := 4294967296) (by omega) hmo) HV.out
          have hl1 := Nat.le_trans (dg_mono (b := 4294967296) (by omega) hmo1) HV.out
          have hvo := vb_dg (b := 4294967296) (by omega) (decV (s.data.toList.take i))
          have hoo := dg_lo (b := 4294967296) (by omega) (decV (s.data.toList.take i))
          have HD := Lib.hid (And.intro hdt hvo)
          generalize ho : dg 4294967296 (decV (s.data.toList.take i)) = o at *
          have HO := Lib.hid ho
          have i1 : (i : Int) < (s.size : Int) := by omega
          have x3 : ((x : Int) - 48) % 256 = (x : Int) - 48 := by omega
          have x4 : (x : Int) - 48 = ((x - 48 : Nat) : Int) := by omega
          generalize hxd : x - 48 = d at *
          have hd9 : d ≤ 9 := by omega
          obtain ⟨A0, c0, rfl, hc1, hc2, _⟩ := own_form hown
          clear hcell2 hdi hmo hmo1 hdt hvo ho hxd
          obtain ⟨wq, rfl⟩ : ∃ wq : World, wq = wr := ⟨_, rfl⟩
          go_wp2_with fail
          go_loopw [9, 39] (fun v9 v39 wy => ∃ (j k : Nat) (p : List Nat), v9 = .int .u64 (k : Int) ∧ v39 = .int .i64 (j : Int) ∧ k ≤ 9 ∧ j ≤ o.length ∧ p.length = o.length ∧ Lo 4294967296 p ∧ p.drop j = o.drop j ∧
              vb 4294967296 (p.take j) + 4294967296 ^ j * k = 10 * vb 4294967296 (o.take j) + d ∧ wy.ownsRow W2.heap.size 24 1 (.slice A0 o.length c0) o.length (cellsN .u32 p) ∧ Below W2.heap.size W2 wy)
            (fun _ v39 _ => o.length - (intOf v39).toNat)
          case atStart => exact ⟨0, d, o, rfl, rfl, hd9, Nat.zero_le _, rfl, hoo, rfl, by simp [vb], hown, hB⟩
          case round =>
            obtain ⟨j, k, p, rfl, rfl, hk, hj, hpl, hpo, hpd, hval, hop, hBy⟩ := hrel
            by_cases hjl : j < o.length
            · obtain ⟨g, rfl, hg1, hg2, hcp, hfp⟩ := own_at hop (cellsN_at (k := .u32) (show j < p.length by omega))
              rw [getD_drop hpd] at hcp
              have hx := lo_getD (b := 4294967296) (by omega) hoo j
              have hst := ten_step o p j (k + o.getD j 0 * 10) k d (by omega) hval rfl
              have hpd2 := drop_more hpd
              generalize o.getD j 0 = y at *
              obtain ⟨q, hq⟩ : ∃ q, q = k + y * 10 := ⟨_, rfl⟩
              rw [← hq] at hst
              have eq : (k : Int) + (y : Int) * 10 = (q : Int) := by omega
              have hq9 : q / 4294967296 ≤ 9 := by omega
              have j1 : (j : Int) < (o.length : Int) := by omega
              have j0 : (0 : Int) ≤ (j : Int) := by omega
              have HX := Lib.hid (And.intro hst (And.intro hpd2 (And.intro hop (And.intro eq hpd))))
              clear hst hpd2 hop hown hq eq hpd hval
              go_wp2_with fail
              obtain ⟨hst, hpd2, hop, eq, _⟩ := HX.out
              rw [eq, show ((q : Int) % 4294967296) = ((q % 4294967296 : Nat) : Int) by omega]
              have hs := hop.stored j (.int .u32 ((q % 4294967296 : Nat) : Int))
              rw [cellsN_set] at hs
              refine ⟨⟨j + 1, q / 4294967296, p.set j (q % 4294967296), by go_num, by go_num, hq9, by omega, by rw [List.length_set]; exact hpl, lo_set hpo (by omega) j, by rw [set_drop]; exact hpd2, hst, hs.1, hBy.setCell (p := ⟨g, j, none⟩) hg1 _⟩, by simp [intOf]; omega⟩
            · have hjo : j = o.length := by omega
              have j1 : ¬ (j : Int) < (o.length : Int) := by omega
              rw [hjo, List.take_of_length_le (by omega), List.take_of_length_le (Nat.le_refl _)] at hval
              have hgz2 := hBy.size
              have hnew : decV (s.data.toList.take (i + 1)) = vb 4294967296 (p ++ [k]) := by rw [vb_snoc, hpl, hval, HD.out.1, ← HD.out.2]
              by_cases hk0 : k = 0
              · have hnp : dg 4294967296 (decV (s.data.toList.take (i + 1))) = p := by
                  rw [hnew, vb_snoc, hk0, Nat.mul_zero, Nat.add_zero]
                  refine canon_len hpo ?_
                  rw [hpl, ← HO.out]
                  refine dg_mono (by omega) ?_
                  have h2 : vb 4294967296 (p ++ [k]) = vb 4294967296 p := by rw [vb_snoc, hk0]; simp
                  rw [← h2, ← hnew, HD.out.1]; omega
                rw [hnp] at hl1
                have o1 : ¬ 256 < (o.length : Int) := by omega
                have HX := Lib.hid (And.intro hnp hop)
                subst hk0
                clear hnp hop hown hnew hval hpd hoo
                go_wp2_with fail
                refine ⟨⟨i + 1, by go_num, by omega, ?_, hBy⟩, by simp [intOf]; omega⟩
                rw [HX.out.1, hpl]
                exact HX.out.2
              · have hps := lo_snoc hpo (show k < 4294967296 by omega)
                have hnp : dg 4294967296 (decV (s.data.toList.take (i + 1))) = p ++ [k] := by rw [hnew]; exact canon_snoc hps hk0
                have hll : (p ++ [k]).length = o.length + 1 := by rw [List.length_append, hpl]; rfl
                rw [hnp, hll] at hl1
                have k0 : (0 : Int) < (k : Int) := by omega
                have HX := Lib.hid (And.intro hnp hll)
                clear hnp hnew hval hpd hoo hll
                go_wp2_with (at_builtin; refine wpList_append1 22 24 (.tmp 60) (.tmp 63) rfl rfl W2.heap.size Try.underlying22 uint_info rfl rfl hop rfl rfl rfl (by unfold maxLen; omega) (by omega) hgz2 ?_; intro v' w' hown' hgrow _; obtain ⟨A1, c1, rfl, _⟩ := own_form hown')
                have o1 : ¬ 256 < (o.length : Int) + 1 := by omega
                rw [← cellsN_snoc] at hown'
                have HOW := Lib.hid hown'
                have HBY := Lib.hid (hBy.grown hgrow hgz2 (fun k hk => (hop.lt k hk).1))
                clear hown' hgrow hop hown
                go_wp2_with fail
                refine ⟨⟨i + 1, by go_num, by omega, ?_, HBY.out⟩, by simp [intOf]; omega⟩
                rw [HX.out.1, HX.out.2]
                exact HOW.out
        · have i1 : ¬ (i : Int) < (s.size : Int) := by omega
          rw [List.take_of_length_le (by omega)] at hown
          have hv := HV.out
          generalize ho : dg 4294967296 (decV s.data.toList) = o at *
          have HO := Lib.hid ho
          clear ho
          obtain ⟨A0, c0, rfl, hc1, hc2, _⟩ := own_form hown
          have hf : Fr W2.heap.size wr A0 c0 o := Fr.of_own hown
          have HC := Lib.hid (clip_any A0 o.length c0 wr hf.1 hf.2.1 (fun h => by obtain ⟨g, cur, e, _⟩ := hf.2.2 h; exact ⟨g, e⟩))
          have hfc := hf.clip
          clear hcell2 hdi hown hf
          go_wp2_with fail
          refine HC.out.mono ?_
          rintro e wx ⟨he, hw⟩
          subst he
          subst hw
          dsimp only
          go_wp2_with fail
          go_ret2
          have hzz := HBB.out.size
          have ho := HO.out
          subst ho
          exact ⟨⟨_, _, rfl, hfc.more hzz⟩, HBB.out.trans (hB.mono hzz)⟩

end Go.Proofs.Ytpklbdgajbfaiaa
