/- The text of a natural, walked. -/
import Derived.Test.YtpklbdgajbfaiaaNtW17
import Derived.Lib.UnsafeStr
namespace Go.Proofs.Ytpklbdgajbfaiaa
open Go.RowKit
set_option linter.unusedVariables false

theorem own_kept {w w' : World} {b b' : Nat} {e e' : TypeId} {v u : Value} {n k : Nat} {xs ys : List Value} (hl : w.ownsRow b e 1 v n xs) (ho : w.ownsRow b' e' 1 u k ys) (hne : e ≠ e') (hg : w.grownBy w' u.ownBlock) : w'.ownsRow b e 1 v n xs := by
  refine hl.kept hg ?_
  rcases hl.2 with ⟨rfl, _⟩ | ⟨g, cap, cur, rfl, _, hh, _⟩
  · exact .inl rfl
  · rcases ho.2 with ⟨rfl, _⟩ | ⟨g', cap', cur', rfl, _, hh', _⟩
    · exact .inr (by simp [Value.ownBlock])
    · refine .inr fun e => ?_
      simp only [Value.ownBlock, Option.some.injEq] at e
      subst e
      rw [hh] at hh'
      simp at hh'
      exact hne hh'.2
theorem conv_own (w : World) {base : Nat} {v : Value} {n : Nat} {l : List UInt8} (h : w.ownsRow base 5 1 v n (Lib.byteCells l)) :
    (convert 64 9 v).run Try.prog w = .ok (.string ⟨l.toArray⟩) w := by
  have hl := h.1
  rcases id h.2 with ⟨rfl, rfl⟩ | ⟨g, cap, cur, rfl, _⟩
  · have : l = [] := List.eq_nil_of_length_eq_zero (by simpa [Lib.byteCells_length] using hl)
    subst this
    exact run_convert_bytes_nil w 64 5 Try.underlying64 Try.underlying5 0 0 9 Try.underlying9
  · have := run_convert_bytes_arg (P := Try.prog) w 64 5 Try.underlying64 Try.underlying5 g 0 n cap (l.map fun b => (b.toNat : Int)) (by simpa [Lib.byteCells_length] using hl)
      (fun i hi => by
        have hil : i < l.length := by have := hl; simp [Lib.byteCells_length] at this; omega
        obtain ⟨g', hA, _, _, hc, _⟩ := own_at h (j := i) (u := .int .u8 ((l[i].toNat : Nat) : Int)) (by simp [Lib.byteCells, hil])
        simp only [Option.some.injEq, Addr.mk.injEq] at hA
        rw [hA.1, Nat.zero_add, hc]
        simp [List.getD, hil]) 9 Try.underlying9
    rw [this]
    simp only [strOfNums, List.map_map]
    congr 3
    have e : ((fun z : Int => UInt8.ofNat z.toNat) ∘ fun b : UInt8 => (b.toNat : Int)) = id := by
      funext b; simp
    first | rw [e, List.map_id] | simp
theorem byte_info : (Try.prog.info? 5).map (fun i => (i.zero, i.size, i.bytes)) = some (some (.int .u8 0), 1, 1) := by kernel_rfl

/-- A natural in base ten. -/
def decT (x : Nat) : List UInt8 := if x = 0 then [48] else (dg 10 x).reverse.map fun d => UInt8.ofNat (48 + d)
/-- Digits as bytes. -/
def asc (p : List Nat) : List Nat := p.map (48 + ·)
theorem asc_snoc (p : List Nat) (d : Nat) : asc (p ++ [d]) = asc p ++ [48 + d] := by simp [asc]
theorem asc_len (p : List Nat) : (asc p).length = p.length := by simp [asc]
theorem asc_cells {p : List Nat} (h : Lo 10 p) : cellsN .u8 (asc p) = Lib.byteCells (p.map fun d => UInt8.ofNat (48 + d)) := by
  unfold cellsN asc Lib.byteCells
  rw [List.map_map, List.map_map]
  apply List.map_congr_left
  intro d hd
  have := h d hd
  simp only [Function.comp]
  congr 2
  rw [UInt8.toNat_ofNat']
  omega
theorem own_take {w : World} {base : Nat} {e : TypeId} {g n cap : Nat} {xs : List Value} (h : w.ownsRow base e 1 (.slice (some ⟨g, 0, none⟩) n cap) n xs) {m : Nat} (hm : m ≤ n) : w.ownsRow base e 1 (.slice (some ⟨g, 0, none⟩) m cap) m (xs.take m) := by
  rcases h.2 with ⟨e', _⟩ | ⟨g', cap', cur, e', hb, hg, hn, hmx, hs, ht⟩
  · cases e'
  · cases e'
    have h1 := h.1
    refine ⟨by rw [List.length_take]; omega, .inr ⟨g, cap, cur, rfl, hb, hg, by omega, hmx, hs, ?_⟩⟩
    rw [← ht, List.take_take]
    congr 1; omega
theorem ten9 {z : Nat} (h : 0 < z) : (dg 10 (z / 1000000000)).length + 9 ≤ max (dg 10 z).length 9 := by
  have h1 := (dg_len (b := 10) (by omega) _ z).1 (Nat.le_refl _)
  rcases Nat.lt_or_ge (dg 10 z).length 9 with h2 | h2
  · have : z < 10 ^ 9 := Nat.lt_of_lt_of_le h1 (Nat.pow_le_pow_right (by omega) (by omega))
    rw [Nat.div_eq_of_lt (by omega)]
    show 0 + 9 ≤ _
    omega
  · have h3 := (dg_len (b := 10) (by omega) ((dg 10 z).length - 9) (z / 1000000000)).2 (Nat.div_lt_of_lt_mul (by
      rw [show 1000000000 * 10 ^ ((dg 10 z).length - 9) = 10 ^ (9 + ((dg 10 z).length - 9)) by rw [Nat.pow_add]]
      rw [show 9 + ((dg 10 z).length - 9) = (dg 10 z).length by omega]; exact h1))
    omega
theorem pow_le_gen {a b : Nat} (k m n : Nat) (h : a ≤ b ^ k) (hn : n = k * m) : a ^ m ≤ b ^ n := by subst hn; rw [Nat.pow_mul]; exact Nat.pow_le_pow_left h m
theorem dec_digits {x : Nat} (h : (dg 4294967296 x).length ≤ 256) : (dg 10 x).length ≤ 2560 := by
  have h1 := (dg_len (b := 4294967296) (by omega) 256 x).1 h
  refine (dg_len (by omega) _ _).2 (Nat.lt_of_lt_of_le h1 ?_)
  exact @pow_le_gen 4294967296 10 10 256 2560 (by decide) (by decide)

set_option maxRecDepth 20000 in
set_option maxHeartbeats 8000000 in
theorem ntext_ok (A : Option Addr) (c B x : Nat) (w : World) (hr : Rw .u32 w B A (dg 4294967296 x)) (hB0 : B ≤ w.heap.size) (hxl : (dg 4294967296 x).length ≤ 256) (hA : A = none → (dg 4294967296 x).length = 0 ∧ c = 0) :
    Calls Try.prog 21 #[.slice A (dg 4294967296 x).length c] w fun e w' => e = .returned (.tuple #[.string ⟨(decT x).toArray⟩, .int .i64 0]) ∧ Below w.heap.size w w' := by
  have HV := valid_any A c B _ w hr (by unfold maxLen; omega)
  rw [okL_of hxl (dg_top (by omega) x)] at HV
  have HD := clone_any A c B (dg 4294967296 x) w hr hB0 (by omega) hA
  have hdd := dec_digits hxl
  replace HV := Lib.hid HV
  replace HD := Lib.hid HD
  clear hr hA
  go_enter Try.func21, Try.ntmps21
  go_wp2_with fail
  refine HV.out.mono ?_
  rintro e w' ⟨he, hw⟩
  subst he
  subst hw
  dsimp only
  go_wp2_with fail
  refine HD.out.mono ?_
  rintro e w1 ⟨v, rfl, hown, hb1⟩
  go_wp2_with fail
  go_loopw [4, 5] (fun v4 v5 wr => ∃ (z : Nat) (p : List Nat), Lo 10 p ∧ vb 10 p + 10 ^ p.length * z = x ∧ z ≤ x ∧ (z = 0 ∨ p.length + (dg 10 z).length ≤ (dg 10 x).length) ∧ p.length ≤ (dg 10 x).length + 8 ∧
      wr.ownsRow w.heap.size 24 1 v5 (dg 4294967296 z).length (cellsN .u32 (dg 4294967296 z)) ∧ wr.ownsRow w1.heap.size 5 1 v4 p.length (cellsN .u8 (asc p)) ∧ Below w.heap.size w wr ∧ w1.heap.size ≤ wr.heap.size)
    (fun v4 _ _ => (dg 10 x).length + 20 - lenOf v4)
  case atStart => exact ⟨x, [], lo_nil _, by simp [vb], Nat.le_refl _, .inr (by simp), by simp, hown, ⟨rfl, .inl ⟨rfl, rfl⟩⟩, hb1, Nat.le_refl _⟩
  case round =>
    clear hown
    obtain ⟨z, p, hpo, hval, hzx, hzl, hpl, hown5, hown4, hB, hsz⟩ := hrel
    obtain ⟨A4, c4, rfl, _⟩ := own_form hown4
    have hz256 := Nat.le_trans (dg_mono (b := 4294967296) (by omega) hzx) hxl
    rcases Nat.eq_zero_or_pos z with hz0 | hz0
    · subst hz0
      obtain ⟨A5, c5, rfl, _⟩ := own_form hown5
      have e0 : (dg 4294967296 0).length = 0 := rfl
      rw [e0]
      rw [Nat.mul_zero, Nat.add_zero] at hval
      have htl := trimL_dg (b := 10) (by omega) p hpo
      rw [hval] at htl
      have HX := Lib.hid (And.intro hval (And.intro hown4 htl))
      clear hval hown5 hown4 hzl htl
      obtain ⟨wq, rfl⟩ : ∃ wq : World, wq = wr := ⟨_, rfl⟩
      go_wp2_with fail
      go_loopw [4] (fun v4 wy => ∃ m, m ≤ p.length ∧ v4 = .slice A4 m c4 ∧ trimL (p.take m) = trimL p ∧ wy = wq) (fun v4 _ => lenOf v4)
      case atStart => exact ⟨p.length, Nat.le_refl _, rfl, by rw [List.take_length], rfl⟩
      case round =>
        obtain ⟨m, hm, rfl, ht, rfl⟩ := hrel
        obtain ⟨hval, hown4, htl⟩ := HX.out
        cases m with
        | zero =>
          have hx0 : x = 0 := by
            rw [List.take_zero] at ht
            rw [htl] at ht
            exact (dg_nil (by omega)).1 ht.symm
          subst hx0
          have hown0 : (wr.alloc (.cells #[.int .u8 48] 5)).ownsRow wr.heap.size 5 1 (.slice (some ⟨wr.heap.size, 0, none⟩) 1 1) 1 (cellsN .u8 [48]) := World.ownsRow_lit wr #[.int .u8 48] 1 (Nat.le_refl _) (by unfold maxLen; omega) rfl
          have HRv := Lib.hid (reverse_any wr.heap.size 1 wr.heap.size [48] _ hown0 (by simp))
          have hBa : Below w.heap.size w (wr.alloc (.cells #[.int .u8 48] 5)) := hB.alloc hB.size _
          clear hown0 hown4 htl hval ht
          go_wp2_with fail
          refine HRv.out.mono ?_
          rintro e w3 ⟨rfl, hown3, hg3⟩
          have hcv : (convert 64 9 (.slice (some ⟨wr.heap.size, 0, none⟩) 1 1)).run Try.prog w3 = .ok (.string ⟨(decT 0).toArray⟩) w3 := conv_own w3 (l := decT 0) hown3
          have hB3 : Below w.heap.size w w3 := hBa.grown hg3 (by simp; exact Nat.le_trans hB.size (Nat.le_succ _)) (fun k e => by cases e; exact hB.size)
          clear hg3 hown3
          go_wp2_with fail
          go_ret2
          exact ⟨rfl, hB3⟩
        | succ m =>
          obtain ⟨g4, rfl, hg1, hg2, hcell, _⟩ := own_at hown4 (cellsN_at (k := .u8) (i := m) (show m < (asc p).length by rw [asc_len]; omega))
          have hasc : (asc p).getD m 0 = 48 + p.getD m 0 := by
            rw [List.getD_eq_getElem?_getD, List.getD_eq_getElem?_getD]
            simp [asc, List.getElem?_eq_getElem (show m < p.length by omega)]
          rw [hasc] at hcell
          have hd10 := lo_getD (b := 10) (by omega) hpo m
          by_cases h0 : p.getD m 0 = 0
          · have ht2 := (take_trim (by omega) h0).symm.trans ht
            rw [h0] at hcell
            clear ht hval hown4 htl
            go_wp2_with fail
            go_roundw
            case rel => exact ⟨m, by omega, by go_num, ht2, trivial⟩
            case measure => simp [lenOf]
          · have ht2 := (take_stop (by omega) h0).symm.trans ht
            rw [htl] at ht2
            have hownm := own_take hown4 (show m + 1 ≤ p.length by omega)
            have hcm : (cellsN .u8 (asc p)).take (m + 1) = cellsN .u8 (asc (p.take (m + 1))) := by simp [cellsN, asc]
            rw [hcm, ht2] at hownm
            have hlm : (asc (dg 10 x)).length = m + 1 := by rw [asc_len, ← ht2, List.length_take]; omega
            have hdx : (dg 10 x).length = m + 1 := by rw [← asc_len]; exact hlm
            have HRv := reverse_any g4 c4 w1.heap.size (asc (dg 10 x)) wr (by rw [hlm]; exact hownm) (by omega)
            rw [hlm] at HRv
            replace HRv := Lib.hid HRv
            generalize hy : 48 + p.getD m 0 = y at *
            have y0 : ((y : Int) == 48) = false := by rw [beq_eq_false_iff_ne]; omega
            have m0 : ((m : Int) + 1 == 0) = false := by rw [beq_eq_false_iff_ne]; omega
            have HL := Lib.hid hdx
            clear ht hval hown4 htl ht2 hownm hcm hlm hdx hy hasc
            go_wp2_with fail
            refine HRv.out.mono ?_
            rintro e w3 ⟨rfl, hown3, hg3⟩
            have hrv : (asc (dg 10 x)).reverse = asc (dg 10 x).reverse := by simp [asc]
            have hlr : Lo 10 (dg 10 x).reverse := fun d hd => dg_lo (by omega) x d (by simpa using hd)
            rw [hrv, asc_cells hlr] at hown3
            have hcv := conv_own w3 hown3
            have hxn : x ≠ 0 := by
              rintro rfl
              have := HL.out
              rw [dg_zero] at this; simp at this
            have hdt : decT x = (dg 10 x).reverse.map fun d => UInt8.ofNat (48 + d) := by unfold decT; rw [if_neg hxn]
            rw [← hdt] at hcv
            have hB3 : Below w.heap.size w w3 := hB.grown hg3 hB.size (fun k e => by cases e; exact Nat.le_trans hb1.size hg1)
            clear hg3 hown3 hdt hrv
            go_wp2_with fail
            go_ret2
            exact ⟨rfl, hB3⟩
    · have hn0 : 0 < (dg 4294967296 z).length := by rw [dg_step (by omega) z hz0]; simp
      obtain ⟨g, c5, rfl⟩ : ∃ g cap, u5 = .slice (some ⟨g, 0, none⟩) (dg 4294967296 z).length cap := by
        rcases hown5.2 with ⟨_, h⟩ | ⟨g, cap, cur, h1, _⟩
        · omega
        · exact ⟨g, cap, h1⟩
      have hlp : p.length + (dg 10 z).length ≤ (dg 10 x).length := by
        rcases hzl with h | h
        · omega
        · exact h
      have h10 : 0 < (dg 10 z).length := by rw [dg_step (by omega) z hz0]; simp
      have ht9 := ten9 hz0
      have hsm := small_div g c5 w.heap.size (dg 4294967296 z) 1000000000 wr hown5 hB.size (dg_lo (by omega) z) (by omega) (by omega) (by omega)
      rw [vb_dg (by omega)] at hsm
      have HS := Lib.hid (show Calls Try.prog 35 #[.slice (some ⟨g, 0, none⟩) (dg 4294967296 z).length c5, .int .u32 1000000000] wr _ from hsm)
      have hzd := Nat.mod_add_div z 1000000000
      have hrl : z % 1000000000 < 1000000000 := Nat.mod_lt _ (by omega)
      have hzd2 : z / 1000000000 ≤ z := Nat.div_le_self _ _
      generalize hr' : z % 1000000000 = r at *
      generalize hz' : z / 1000000000 = z1 at *
      have hn : 0 < ((dg 4294967296 z).length : Int) := by omega
      have HX := Lib.hid (And.intro hval (And.intro hown5 hown4))
      clear hval hown5 hown4 hsm hr' hz'
      go_wp2_with fail
      refine HS.out.mono ?_
      rintro e w2 ⟨rfl, p5, hp5l, hp5o, hp5v, hown5', hb2, hg2⟩
      have hown4' := own_kept HX.out.2.2 HX.out.2.1 (by decide) hg2
      have hsz2 := hg2.size
      have hB2 : Below w.heap.size w w2 := hB.trans hb2
      have H5 := Lib.hid (And.intro hown5' hown4')
      clear hown5' hown4' hg2 hb2 hB
      go_wp2_with fail
      go_loopw [4, 6, 19] (fun v4 v6 v19 wy => ∃ (n j : Nat) (q : List Nat), v6 = .int .u32 (n : Int) ∧ v19 = .int .i64 (j : Int) ∧ j ≤ 9 ∧ n < 10 ^ (9 - j) ∧ q.length = p.length + j ∧ Lo 10 q ∧ vb 10 q + 10 ^ q.length * n = vb 10 p + 10 ^ p.length * r ∧
          wy.ownsRow w1.heap.size 5 1 v4 q.length (cellsN .u8 (asc q)) ∧ wy.ownsRow w.heap.size 24 1 (.slice (some ⟨g, 0, none⟩) (dg 4294967296 z).length c5) (dg 4294967296 z).length (cellsN .u32 p5) ∧ Below w.heap.size w wy ∧ w1.heap.size ≤ wy.heap.size)
        (fun _ _ v19 _ => 9 - (intOf v19).toNat)
      case atStart => exact ⟨r, 0, p, rfl, rfl, by omega, by simpa using hrl, rfl, hpo, rfl, H5.out.2, H5.out.1, hB2, Nat.le_trans hsz hsz2⟩
      case round =>
        clear hB2 hsz2
        obtain ⟨n, j, q, rfl, rfl, hj, hnl, hql, hqo, hqv, hop, hop5, hBy, hgz0⟩ := hrel
        have hgz := hgz0
        by_cases hj9 : j < 9
        · have j1 : (j : Int) < 9 := by omega
          have hst := step_eq 10 q n n _ 0 hqv rfl
          rw [Nat.mul_zero, Nat.add_zero] at hst
          have hn2 : n / 10 < 10 ^ (9 - (j + 1)) := by
            refine Nat.div_lt_of_lt_mul ?_
            rw [Nat.mul_comm, ← Nat.pow_succ, show (9 - (j + 1)).succ = 9 - j by omega]; exact hnl
          have hn9 : n < 1000000000 := Nat.lt_of_lt_of_le hnl (Nat.le_trans (Nat.pow_le_pow_right (by omega) (show 9 - j ≤ 9 by omega)) (by decide))
          have HY := Lib.hid (And.intro hst (And.intro hn2 (And.intro hqv (And.intro hop5 (And.intro hnl hqo)))))
          clear hst hn2 hqv hop5 hnl
          go_wp2_with (at_builtin; refine wpList_append1 64 5 (.tmp 21) (.tmp 26) rfl rfl w1.heap.size Try.underlying64 byte_info rfl rfl hop rfl rfl rfl (by unfold maxLen; omega) (by omega) hgz ?_; intro v' w' hown' hgrow _)
          obtain ⟨hst, hn2, _, hop5, _, _⟩ := HY.out
          have hk5 := own_kept hop5 hop (by decide) hgrow
          rw [show (48 : Int) + (n : Int) % 10 = ((48 + n % 10 : Nat) : Int) by omega, ← cellsN_snoc, ← asc_snoc] at hown'
          have hle : (q ++ [n % 10]).length = q.length + 1 := by simp
          refine ⟨⟨n / 10, j + 1, q ++ [n % 10], by go_num, by go_num, by omega, hn2, by rw [hle]; omega, lo_snoc hqo (by omega), by rw [hle, hst, Nat.add_zero], by rw [hle]; exact hown', hk5, hBy.grown hgrow (Nat.le_trans hBy.size (Nat.le_refl _)) (fun k hk => Nat.le_trans hb1.size (hop.lt k hk).1), Nat.le_trans hgz hgrow.size⟩, by simp [intOf]; omega⟩
        · have hj9' : j = 9 := by omega
          have j1 : ¬ (j : Int) < 9 := by omega
          subst hj9'
          have hn0' : n = 0 := by simpa using hnl
          subst hn0'
          rw [Nat.mul_zero, Nat.add_zero] at hqv
          have hf5 : Rw .u32 wr wr.heap.size (some ⟨g, 0, none⟩) p5 := Rw.of_own hop5
          obtain ⟨_, _, e5, hc51, hc52, _⟩ := own_form hop5
          cases e5
          have HT := trim_any (some ⟨g, 0, none⟩) c5 wr.heap.size p5 wr hf5 (by omega) hc52
          have htl := trimL_dg (b := 4294967296) (by omega) p5 hp5o
          have htk := trimL_len p5
          obtain ⟨m5, hm5, e5⟩ := trimL_take p5
          rw [htl, hp5v] at HT e5 htk
          rw [hp5l] at HT
          have hl5 : (dg 4294967296 z1).length ≤ (dg 4294967296 z).length := by omega
          have hown5n := own_take hop5 hl5
          have e6 : (cellsN .u32 p5).take (dg 4294967296 z1).length = cellsN .u32 (dg 4294967296 z1) := by
            have : p5.take (dg 4294967296 z1).length = dg 4294967296 z1 := by
              rw [e5, List.length_take, Nat.min_eq_left hm5]
            rw [show (cellsN .u32 p5).take (dg 4294967296 z1).length = cellsN .u32 (p5.take (dg 4294967296 z1).length) by simp [cellsN], this]
          rw [e6] at hown5n
          replace HT := Lib.hid HT
          have HY := Lib.hid (And.intro hqv (And.intro hop hown5n))
          obtain ⟨Aq, cq, rfl, _⟩ := own_form hop
          clear hqv hop hown5n hop5 hf5 e5 e6
          go_wp2_with fail
          refine HT.out.mono ?_
          rintro e wx ⟨he, hw⟩
          subst he
          subst hw
          dsimp only
          go_wp2_with fail
          obtain ⟨hqv, hop, hown5n⟩ := HY.out
          refine ⟨⟨z1, q, hqo, ?_, by omega, ?_, by omega, hown5n, by rw [hql]; rw [hql] at hop; exact hop, hBy, hgz⟩, by simp [lenOf]; omega⟩
          · rw [hqv, hql, Nat.pow_add, Nat.mul_assoc, show (10 : Nat) ^ 9 = 1000000000 from rfl, ← HX.out.1, ← hzd, Nat.mul_add]
            omega
          · rcases Nat.eq_zero_or_pos z1 with h | h
            · exact .inl h
            · have : 0 < (dg 10 z1).length := by rw [dg_step (by omega) z1 h]; simp
              exact .inr (by omega)

end Go.Proofs.Ytpklbdgajbfaiaa
