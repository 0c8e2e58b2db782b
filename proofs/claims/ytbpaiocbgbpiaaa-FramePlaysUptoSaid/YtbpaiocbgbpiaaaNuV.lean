/- The document's value of digits and a power, walked. -/
import Derived.Test.YtbpaiocbgbpiaaaNuP
import Derived.Test.YtbpaiocbgbpiaaaTurn
namespace Go.Proofs.Ytbpaiocbgbpiaaa
open Go.RowKit
set_option linter.unusedVariables false
set_option linter.unusedSimpArgs false

theorem u8_info : (Try.prog.info? 5).map (fun i => (i.zero, i.size, i.bytes)) = some (some (.int .u8 0), 1, 1) := by kernel_rfl
/-- 'append' to an empty slice without room. -/
theorem wpList_append0 {P : Program} {w : World} {ops : Array Oper} {rest : List Oper} {o : Oper} {a : Act} {Q : Exit → Act → World → Prop} (t e : TypeId) (s x : Operand) (hgd : o.guard = none)
    (ho : o.op = .call { callee := .builtin .append, args := #[s, x], argTypes := #[t, t] })
    {z : Value} {size bytes : Nat} (ht : P.underlying t = some (.slice e)) (hinfo : (P.info? e).map (fun i => (i.zero, i.size, i.bytes)) = some (some z, size, bytes)) (hzs : z.cells.size = size) (hsz : 0 < size)
    {g0 : Addr} (hs : a.eval s = .slice (some g0) 0 0) {ad : Addr} {m c : Nat} {news : List Value} (hx : a.eval x = .slice (some ad) m c) (hl : news.length = m * size) (hnews : ∀ j u, news[j]? = some u → w.cell? (ad.add j) = some u) (hm0 : 0 < m)
    (h63 : m ≤ maxLen) (hbytes : m * bytes ≤ 140737488355328)
    (h : ∀ v' w', w'.ownsRow w.heap.size e size v' m news → w.grownBy w' none → wpList P ops Q rest (a.put o.dst v') w') :
    wpList P ops Q (o :: rest) a w := by
  refine wpList_plain hgd fun K hK => ?_
  obtain ⟨i0, hi, hz0, hz1, hz2⟩ := info_parts hinfo
  obtain ⟨v', w', hr, h2, h3⟩ := run_append_arg_grows (P := P) w t o.type e i0 z size bytes ht hi hz0 hz1 hz2 hzs hsz g0 0 0 [] (by simp) (fun j u hj => by simp at hj) ad m c news hl hnews (by omega) (by simpa using h63) (by simpa using hbytes)
  rw [Nat.zero_add, List.nil_append] at h2
  unfold Oper.wp execOp
  simp only [ho, resolve, invoke, builtin, Sem.run_bind, Sem.run_pure, Result.andThen_ok, List.map_toArray, List.map_cons, List.map_nil, hs, hx, hr]
  exact hK _ _ (h v' w' h2 h3)
/-- Bytes that lie in a row. -/
def BytesAt (w : World) (b off : Nat) (l : List UInt8) : Prop := ∀ i, i < l.length → w.cell? ⟨b, off + i, none⟩ = some (.int .u8 ((l.getD i 0).toNat : Int))
theorem BytesAt.drop {w : World} {b off : Nat} {l : List UInt8} (h : BytesAt w b off l) (k : Nat) : BytesAt w b (off + k) (l.drop k) := fun i hi => by
  rw [List.length_drop] at hi
  rw [show off + k + i = off + (k + i) by omega, h (k + i) (by omega)]
  rw [List.getD_eq_getElem?_getD, List.getD_eq_getElem?_getD, List.getElem?_drop]
theorem BytesAt.conv {w : World} {b off c n : Nat} {l : List UInt8} (h : BytesAt w b off l) (hn : l.length = n) : (convert 109 9 (.slice (some ⟨b, off, none⟩) n c)).run Try.prog w = .ok (.string ⟨l.toArray⟩) w := by
  have := run_convert_bytes_arg (P := Try.prog) w 109 5 Try.underlying109 Try.underlying5 b off n c (l.map fun c => (c.toNat : Int)) (by simpa using hn)
    (fun i hi => by
      rw [h i (by omega), List.getD_eq_getElem?_getD, List.getD_eq_getElem?_getD, List.getElem?_map, List.getElem?_eq_getElem (by omega)]
      rfl) 9 Try.underlying9
  rw [nums_bytes] at this
  exact this
theorem cut_len (l : List UInt8) : (cutL l).length ≤ 1001 := by
  unfold cutL
  split
  · rw [List.length_append, List.length_take, List.length_singleton]; omega
  · omega
theorem cut_dig {l : List UInt8} (h : ∀ x ∈ l, isDig x) : ∀ x ∈ cutL l, isDig x := by
  unfold cutL
  split
  · intro x hx
    rcases List.mem_append.1 hx with hx | hx
    · exact h x (List.mem_of_mem_take hx)
    · simp at hx
      subst hx
      unfold restC isDig
      split <;> decide
  · exact h

theorem zero_run {l : List UInt8} {k : Nat} (hk : k ≤ runL isZ l) (hl : k < l.length) : ((l.getD k 0).toNat = 48 → k < runL isZ l) ∧ ((l.getD k 0).toNat ≠ 48 → k = runL isZ l) := by
  obtain ⟨h1, h2⟩ := runL_step hk hl
  exact ⟨fun h => h1 (decide_eq_true h), fun h => h2 (decide_eq_false h)⟩
theorem runL_all {p : UInt8 → Bool} {l : List UInt8} : runL p l = l.length ↔ ∀ j, j < l.length → p (l.getD j 0) = true := by
  refine ⟨fun h j hj => runL_in p l j (by omega), fun h => ?_⟩
  have hle := runL_le p l
  rcases Nat.lt_or_ge (runL p l) l.length with h1 | h1
  · have := runL_end p l h1
    rw [h _ h1] at this
    cases this
  · omega
-- the walk
theorem bytes_own {w : World} {base g n cap : Nat} {l : List UInt8} (h : w.ownsRow base 5 1 (.slice (some ⟨g, 0, none⟩) n cap) n (l.map fun x => (.int .u8 (x.toNat : Int) : Value))) : BytesAt w g 0 l := by
  intro i hi
  obtain ⟨g2, e, _, _, hc, _⟩ := own_at h (j := i) (u := .int .u8 ((l[i].toNat : Nat) : Int)) (by simp [hi])
  cases e
  rw [Nat.zero_add, hc, List.getD_eq_getElem?_getD, List.getElem?_eq_getElem hi]
  rfl
set_option maxRecDepth 20000 in
set_option maxHeartbeats 8000000 in
theorem value_any (b off c : Nat) (l : List UInt8) (exp : Int) (w : World) (hc : BytesAt w b off l) (hlc : l.length ≤ c) (hm : c ≤ maxLen) (hl : l.length ≤ 2097152)
    (hd : ∀ x ∈ l, isDig x) (h1 : -5000000 ≤ exp) (h2 : exp ≤ 5000000) :
    Calls Try.prog 50 #[.slice (some ⟨b, off, none⟩) l.length c, .int .i64 exp] w fun e w' => e = .returned (.float .f64 (valF l exp)) ∧ Below w.heap.size w w' := by
  have hm' : c ≤ 9223372036854775807 := by unfold maxLen at hm; exact hm
  have H := Lib.hid (And.intro hc hd)
  have hlc1 : (l.length : Int) ≤ (c : Int) := by omega
  have hl1 : (l.length : Int) ≤ 2097152 := by omega
  have hc1 : (c : Int) ≤ 9223372036854775807 := by omega
  have HL := Lib.hid (And.intro hl hlc)
  have HW0 := Lib.hid (Below.refl w.heap.size w)
  clear hc hd hm hm' hl hlc
  go_enter Try.func50, Try.ntmps50
  go_wp2_with fail
  go_loopw [5] (fun v5 wr => ∃ k : Nat, v5 = .int .i64 (k : Int) ∧ k ≤ runL isZ l ∧ w = wr) (fun v5 _ => l.length - (intOf v5).toNat)
  case atStart => exact ⟨0, rfl, Nat.zero_le _, rfl⟩
  case round =>
    obtain ⟨k, rfl, hk, rfl⟩ := hrel
    have hkl := runL_le isZ l
    by_cases hlt : k < l.length
    · have i1 : (k : Int) < (l.length : Int) := by omega
      have i0 : (0 : Int) ≤ (k : Int) := by omega
      have i2 : (k : Int) ≤ 2097152 := by omega
      have hck := H.out.1 k hlt
      have hzr := zero_run hk hlt
      by_cases h48 : (l.getD k 0).toNat = 48
      · have z1 : (((l.getD k 0).toNat : Int) == 48) = true := by rw [beq_iff_eq]; omega
        have HK := Lib.hid (hzr.1 h48)
        have HKL := Lib.hid hkl
        clear h48 hlt hk hzr hkl
        generalize (((l.getD k 0).toNat : Nat) : Int) = y at *
        go_wp2_with fail
        go_roundw
        case rel => exact ⟨k + 1, by go_num, HK.out, trivial⟩
        case measure => have := HK.out; have := HKL.out; simp [intOf]; omega
      · have z1 : (((l.getD k 0).toNat : Int) == 48) = false := by rw [beq_eq_false_iff_ne]; omega
        have hke := hzr.2 h48
        have i3 : (k : Int) ≤ (c : Int) := by omega
        have hV : valF l exp = endF (cutL (l.drop k)) (cutE (l.drop k) exp) := by unfold valF; rw [← hke, if_neg (by omega)]
        have hBA := H.out.1.drop k
        have hdd : ∀ x ∈ l.drop k, isDig x := fun x hx => H.out.2 x (List.mem_of_mem_drop hx)
        have hlen : (l.drop k).length = l.length - k := List.length_drop
        have h0 : l.length - k ≠ 0 := by omega
        have hL := HL.out
        have n3 : (((l.length - k : Nat) : Int) == 0) = false := by rw [beq_eq_false_iff_ne]; omega
        have n9 : ((l.length - k : Nat) : Int) ≤ 2097152 := by omega
        have n8 : (0 : Int) ≤ ((l.length - k : Nat) : Int) := by omega
        generalize l.drop k = L at *
        have HVV := Lib.hid hV
        have HLL := Lib.hid (And.intro hlen (And.intro h0 hdd))
        have HBA := Lib.hid hBA
        have hoff : off + k = off + k := rfl
        clear hV hdd hlen h0 hBA hzr hke h48 hkl hk hL hlt
        generalize (((l.getD k 0).toNat : Nat) : Int) = y at *
        by_cases hbig : 1000 < l.length - k
        · have b1 : (1000 : Int) < ((l.length - k : Nat) : Int) := by omega
          have HBG := Lib.hid hbig
          clear hbig
          go_wp2_with fail
          go_loopw [6, 7] (fun v6 v7 wr => ∃ i : Nat, v7 = .int .i64 (i : Int) ∧ 1000 ≤ i ∧ i ≤ l.length - k ∧ ((v6 = .int .u8 48 ∧ ∀ j, 1000 ≤ j → j < i → (L.getD j 0).toNat = 48) ∨ (v6 = .int .u8 49 ∧ ∃ j, 1000 ≤ j ∧ j < i ∧ (L.getD j 0).toNat ≠ 48)) ∧ w = wr) (fun _ v7 _ => (l.length - k) - (intOf v7).toNat)
          case atStart => exact ⟨1000, rfl, Nat.le_refl _, by have := HBG.out; omega, .inl ⟨rfl, fun j h1 h2 => by omega⟩, rfl⟩
          case round =>
            obtain ⟨i, rfl, hi1, hi2, hv6, rfl⟩ := hrel
            by_cases hlt : i < l.length - k
            · have j1 : (i : Int) < ((l.length - k : Nat) : Int) := by omega
              have j0 : (0 : Int) ≤ (i : Int) := by omega
              have hci := HBA.out i (by rw [HLL.out.1]; exact hlt)
              have HI := Lib.hid (And.intro hi1 hlt)
              have HV6 := Lib.hid hv6
              clear hi1 hi2 hlt hv6
              by_cases h48 : (L.getD i 0).toNat = 48
              · have z1 : (((L.getD i 0).toNat : Int) != 48) = false := by rw [h48]; rfl
                have H48 := Lib.hid h48
                clear h48
                generalize (((L.getD i 0).toNat : Nat) : Int) = yy at *
                go_wp2_with fail
                go_roundw
                case rel =>
                  refine ⟨i + 1, by go_num, by have := HI.out; omega, by have := HI.out; omega, ?_, trivial⟩
                  rcases HV6.out with ⟨e, h⟩ | ⟨e, j, h1, h2, h3⟩
                  · exact .inl ⟨e, fun j h1 h2 => by
                      by_cases q : j = i
                      · subst q; exact H48.out
                      · exact h j h1 (by omega)⟩
                  · exact .inr ⟨e, j, h1, by omega, h3⟩
                case measure => have := HI.out; simp [intOf]; omega
              · have z1 : (((L.getD i 0).toNat : Int) != 48) = true := by rw [bne_iff_ne]; omega
                have H48 := Lib.hid h48
                clear h48
                generalize (((L.getD i 0).toNat : Nat) : Int) = yy at *
                go_wp2_with fail
                go_roundw
                case rel => exact ⟨i + 1, by go_num, by have := HI.out; omega, by have := HI.out; omega, .inr ⟨rfl, i, HI.out.1, by omega, H48.out⟩, trivial⟩
                case measure => have := HI.out; simp [intOf]; omega
            · obtain rfl : i = l.length - k := by omega
              have j1 : ¬ ((l.length - k : Nat) : Int) < ((l.length - k : Nat) : Int) := by omega
              obtain ⟨r, hr, rfl⟩ : ∃ r : UInt8, restC (L.drop 1000) = r ∧ u6 = .int .u8 (r.toNat : Int) := by
                rcases hv6 with ⟨e, h⟩ | ⟨e, j, h1, h2, h3⟩
                · refine ⟨48, ?_, by rw [e]; rfl⟩
                  unfold restC
                  rw [if_pos]
                  refine runL_all.2 fun j hj => ?_
                  rw [List.length_drop, HLL.out.1] at hj
                  have := h (1000 + j) (by omega) (by omega)
                  unfold isZ
                  rw [List.getD_eq_getElem?_getD, List.getElem?_drop, ← List.getD_eq_getElem?_getD]
                  exact decide_eq_true this
                · refine ⟨49, ?_, by rw [e]; rfl⟩
                  unfold restC
                  rw [if_neg]
                  intro hall
                  have := runL_all.1 hall (j - 1000) (by rw [List.length_drop, HLL.out.1]; omega)
                  unfold isZ at this
                  rw [List.getD_eq_getElem?_getD, List.getElem?_drop, ← List.getD_eq_getElem?_getD, show 1000 + (j - 1000) = j by omega] at this
                  exact h3 (of_decide_eq_true this)
              have hlen := HLL.out.1
              have HV := Lib.hid (show valF l exp = endF (L.take 1000 ++ [r]) (exp + ((l.length - k : Nat) : Int) - 1001) by rw [HVV.out]; unfold cutL cutE; rw [if_pos (by have := HBG.out; omega), if_pos (by have := HBG.out; omega), hr, hlen])
              have hcut : ∀ x ∈ L.take 1000 ++ [r], isDig x := by
                have := cut_dig HLL.out.2.2
                unfold cutL at this
                rw [if_pos (by have := HBG.out; omega), hr] at this
                exact this
              have HCUT := Lib.hid hcut
              have c1000 : (1000 : Int) ≤ ((c - k : Nat) : Int) := by have := HBG.out; have := HL.out; omega
              have l1000 : (1000 : Int) ≤ ((l.length - k : Nat) : Int) := by have := HBG.out; omega
              have HRZ := Lib.hid hr
              have HLEN := Lib.hid hlen
              clear hcut hlen hv6 hi1 hi2 hr hlt
              have hnl : ((L.take 1000).map fun x => (.int .u8 (x.toNat : Int) : Value)).length = 1000 * 1 := by rw [List.length_map, List.length_take]; have := HBG.out; have := HLEN.out; omega
              have hnews : ∀ j u, ((L.take 1000).map fun x => (.int .u8 (x.toNat : Int) : Value))[j]? = some u → (w.alloc (.cells #[] 5)).cell? ((⟨b, off + k, none⟩ : Addr).add j) = some u := by
                intro j u hj
                have hjl : j < 1000 := by
                  rcases Nat.lt_or_ge j 1000 with h | h
                  · exact h
                  · rw [List.getElem?_eq_none (by omega)] at hj; cases hj
                have hbc := HBA.out j (by have := HBG.out; have := HLEN.out; omega)
                rw [addr_add, World.cell?_alloc_lt _ _ _ (lt_of_cell hbc), hbc]
                rw [List.getElem?_map, List.getElem?_take_of_lt hjl] at hj
                rw [List.getD_eq_getElem?_getD]
                cases hx : L[j]? with
                | none => rw [hx] at hj; cases hj
                | some x => rw [hx] at hj; exact hj
              have hone : ∀ u ∈ [(.int .u8 (r.toNat : Int) : Value)], u.oneCell' = true := by intro u hu; simp at hu; subst hu; rfl
              have HLn := Lib.hid (show (L.take 1000 ++ [r]).length = 1001 ∧ (L.take 1000 ++ [r]).length ≤ 1001 ∧ (L.take 1000 ++ [r]).length ≠ 0 ∧ ∀ x ∈ L.take 1000 ++ [r], isDig x from by
                have e : (L.take 1000 ++ [r]).length = 1001 := by rw [List.length_append, List.length_take, List.length_singleton]; have := HBG.out; have := HLEN.out; omega
                exact ⟨e, by omega, by omega, HCUT.out⟩)
              have e9 : ((l.length - k : Nat) : Int) ≤ 2097152 := by have := HL.out; omega

              have n1 : ((1001 : Nat) : Int) ≤ 1001 := by have := HLn.out; omega
              have n0 : (0 : Int) ≤ ((1001 : Nat) : Int) := by omega
              have hsz : (⟨(L.take 1000 ++ [r]).toArray⟩ : ByteArray).size = 1001 := by rw [← HLn.out.1]; rfl
              by_cases t1 : exp + ((l.length - k : Nat) : Int) - 1001 + ((1001 : Nat) : Int) < -400
              · have HF : endF (L.take 1000 ++ [r]) (exp + ((l.length - k : Nat) : Int) - 1001) = 0 := by unfold endF; rw [HLn.out.1, if_pos t1]
                have HFH := Lib.hid HF
                clear HF hsz
                go_wp2_with (at_builtin; first | (refine wpList_append0 109 5 (.tmp 48) (.tmp 50) rfl rfl Try.underlying109 u8_info rfl (by decide) rfl rfl hnl hnews (by omega) (by unfold maxLen; omega) (by omega) ?_; intro v1 w1 hown1 hgrow1) | (refine wpList_append1 109 5 (.tmp 51) (.tmp 53) rfl rfl _ Try.underlying109 u8_info rfl rfl hown1 rfl rfl rfl (by unfold maxLen; omega) (by omega) hgrow1.size ?_; intro v2 w2 hown2 hgrow2 _; replace hown2 : w2.ownsRow _ _ 1 v2 1001 _ := hown2; obtain ⟨g2, cap2, rfl, _, _⟩ := hown2.form (by omega); have hcv := (bytes_own (l := L.take 1000 ++ [r]) (by simpa using hown2)).conv (n := 1001) (c := cap2) HLn.out.1; (try rw [hst] at hcv); have HG := Lib.hid (And.intro hown1 (And.intro hgrow1 hgrow2)); clear hown2 hgrow2))
                have HB := Lib.hid (show Below w.heap.size w w2 from by
                  obtain ⟨ho1, hg1, hg2⟩ := HG.out
                  have hb0 : Below w.heap.size w (w.alloc (.cells #[] 5)) := (Below.refl _ w).alloc (Nat.le_refl _) _
                  have hb1 : Below w.heap.size w w1 := hb0.grown hg1 hb0.size (fun k e => by cases e)
                  exact hb1.grown hg2 hb1.size (fun k hk => Nat.le_trans hb0.size (ho1.lt k hk).1))
                go_ret
                rw [HV.out, HFH.out]
                exact ⟨rfl, HB.out⟩
              · by_cases t2 : 400 < exp + ((l.length - k : Nat) : Int) - 1001 + ((1001 : Nat) : Int)
                · have HF : endF (L.take 1000 ++ [r]) (exp + ((l.length - k : Nat) : Int) - 1001) = 9218868437227405312 := by unfold endF; rw [HLn.out.1, if_neg t1, if_pos t2]
                  have HFH := Lib.hid HF
                  have hfr := rf_from 9218868437227405312
                  clear HF hsz
                  go_wp2_with (at_builtin; first | (refine wpList_append0 109 5 (.tmp 48) (.tmp 50) rfl rfl Try.underlying109 u8_info rfl (by decide) rfl rfl hnl hnews (by omega) (by unfold maxLen; omega) (by omega) ?_; intro v1 w1 hown1 hgrow1) | (refine wpList_append1 109 5 (.tmp 51) (.tmp 53) rfl rfl _ Try.underlying109 u8_info rfl rfl hown1 rfl rfl rfl (by unfold maxLen; omega) (by omega) hgrow1.size ?_; intro v2 w2 hown2 hgrow2 _; replace hown2 : w2.ownsRow _ _ 1 v2 1001 _ := hown2; obtain ⟨g2, cap2, rfl, _, _⟩ := hown2.form (by omega); have hcv := (bytes_own (l := L.take 1000 ++ [r]) (by simpa using hown2)).conv (n := 1001) (c := cap2) HLn.out.1; (try rw [hst] at hcv); have HG := Lib.hid (And.intro hown1 (And.intro hgrow1 hgrow2)); clear hown2 hgrow2))
                  have HB := Lib.hid (show Below w.heap.size w w2 from by
                    obtain ⟨ho1, hg1, hg2⟩ := HG.out
                    have hb0 : Below w.heap.size w (w.alloc (.cells #[] 5)) := (Below.refl _ w).alloc (Nat.le_refl _) _
                    have hb1 : Below w.heap.size w w1 := hb0.grown hg1 hb0.size (fun k e => by cases e)
                    exact hb1.grown hg2 hb1.size (fun k hk => Nat.le_trans hb0.size (ho1.lt k hk).1))
                  go_ret
                  rw [HV.out, HFH.out]
                  exact ⟨rfl, HB.out⟩
                · have HF : endF (L.take 1000 ++ [r]) (exp + ((l.length - k : Nat) : Int) - 1001) = readF (decV (L.take 1000 ++ [r])) (exp + ((l.length - k : Nat) : Int) - 1001) := by unfold endF; rw [HLn.out.1, if_neg t1, if_neg t2]
                  have HFH := Lib.hid HF
                  have HRd := Lib.hid (fun W => read_any ⟨(L.take 1000 ++ [r]).toArray⟩ (exp + ((l.length - k : Nat) : Int) - 1001) W (by rw [hsz]; have := HLn.out; omega) (by rw [hsz]; have := HLn.out; omega) HLn.out.2.2.2 (by omega) (by omega))
                  generalize hst : (⟨(L.take 1000 ++ [r]).toArray⟩ : ByteArray) = st at *
                  have HST := Lib.hid (show decV st.data.toList = decV (L.take 1000 ++ [r]) by rw [← hst])
                  clear HF hsz
                  go_wp2_with (at_builtin; first | (refine wpList_append0 109 5 (.tmp 48) (.tmp 50) rfl rfl Try.underlying109 u8_info rfl (by decide) rfl rfl hnl hnews (by omega) (by unfold maxLen; omega) (by omega) ?_; intro v1 w1 hown1 hgrow1) | (refine wpList_append1 109 5 (.tmp 51) (.tmp 53) rfl rfl _ Try.underlying109 u8_info rfl rfl hown1 rfl rfl rfl (by unfold maxLen; omega) (by omega) hgrow1.size ?_; intro v2 w2 hown2 hgrow2 _; replace hown2 : w2.ownsRow _ _ 1 v2 1001 _ := hown2; obtain ⟨g2, cap2, rfl, _, _⟩ := hown2.form (by omega); have hcv := (bytes_own (l := L.take 1000 ++ [r]) (by simpa using hown2)).conv (n := 1001) (c := cap2) HLn.out.1; (try rw [hst] at hcv); have HG := Lib.hid (And.intro hown1 (And.intro hgrow1 hgrow2)); clear hown2 hgrow2))
                  have HB := Lib.hid (show Below w.heap.size w w2 from by
                    obtain ⟨ho1, hg1, hg2⟩ := HG.out
                    have hb0 : Below w.heap.size w (w.alloc (.cells #[] 5)) := (Below.refl _ w).alloc (Nat.le_refl _) _
                    have hb1 : Below w.heap.size w w1 := hb0.grown hg1 hb0.size (fun k e => by cases e)
                    exact hb1.grown hg2 hb1.size (fun k hk => Nat.le_trans hb0.size (ho1.lt k hk).1))
                  refine (HRd.out _).mono ?_
                  rintro e wz ⟨rfl, hbz⟩
                  go_wp2_with fail
                  go_ret
                  rw [HV.out, HFH.out, HST.out]
                  exact ⟨rfl, HB.out.trans (hbz.mono HB.out.size)⟩
        · have b1 : ¬ (1000 : Int) < ((l.length - k : Nat) : Int) := by omega
          have hlen := HLL.out.1
          have HV := Lib.hid (show valF l exp = endF L exp by rw [HVV.out]; unfold cutL cutE; rw [if_neg (by omega), if_neg (by omega)])
          have HLn := Lib.hid (show L.length = l.length - k ∧ L.length ≤ 1001 ∧ L.length ≠ 0 ∧ ∀ x ∈ L, isDig x from ⟨hlen, by omega, by have := HLL.out.2.1; omega, HLL.out.2.2⟩)
          have BA := HBA
          have HB := HW0
          clear hlen hbig
          have n1 : (((l.length - k) : Nat) : Int) ≤ 1001 := by have := HLn.out; omega
          have n0 : (0 : Int) ≤ (((l.length - k) : Nat) : Int) := by omega
          have hcv := BA.out.conv (n := (l.length - k)) (c := (c - k)) HLn.out.1
          have hsz : (⟨(L).toArray⟩ : ByteArray).size = (l.length - k) := by rw [← HLn.out.1]; rfl
          by_cases t1 : exp + (((l.length - k) : Nat) : Int) < -400
          · have HF : endF (L) (exp) = 0 := by unfold endF; rw [HLn.out.1, if_pos t1]
            have HFH := Lib.hid HF
            clear HF hcv hsz
            go_wp2_with fail
            go_ret
            rw [HV.out, HFH.out]
            exact ⟨rfl, HB.out⟩
          · by_cases t2 : 400 < exp + (((l.length - k) : Nat) : Int)
            · have HF : endF (L) (exp) = 9218868437227405312 := by unfold endF; rw [HLn.out.1, if_neg t1, if_pos t2]
              have HFH := Lib.hid HF
              have hfr := rf_from 9218868437227405312
              clear HF hcv hsz
              go_wp2_with fail
              go_ret
              rw [HV.out, HFH.out]
              exact ⟨rfl, HB.out⟩
            · have HF : endF (L) (exp) = readF (decV (L)) (exp) := by unfold endF; rw [HLn.out.1, if_neg t1, if_neg t2]
              have HFH := Lib.hid HF
              have HRd := Lib.hid (fun W => read_any ⟨(L).toArray⟩ (exp) W (by rw [hsz]; have := HLn.out; omega) (by rw [hsz]; have := HLn.out; omega) HLn.out.2.2.2 (by omega) (by omega))
              generalize hst : (⟨(L).toArray⟩ : ByteArray) = st at *
              have HST := Lib.hid (show decV st.data.toList = decV (L) by rw [← hst])
              clear HF hsz hst
              go_wp2_with fail
              refine (HRd.out _).mono ?_
              rintro e wz ⟨rfl, hbz⟩
              go_wp2_with fail
              go_ret
              rw [HV.out, HFH.out, HST.out]
              exact ⟨rfl, HB.out.trans (hbz.mono HB.out.size)⟩
    · obtain rfl : k = l.length := by omega
      have HZ0 := Lib.hid (show valF l exp = 0 by unfold valF; rw [if_pos (by omega)])
      have i1 : ¬ (l.length : Int) < (l.length : Int) := by omega
      clear hlt hk hkl
      go_wp2_with fail
      all_goals go_ret
      all_goals rw [HZ0.out]
      all_goals exact ⟨rfl, Below.refl _ _⟩
end Go.Proofs.Ytbpaiocbgbpiaaa
