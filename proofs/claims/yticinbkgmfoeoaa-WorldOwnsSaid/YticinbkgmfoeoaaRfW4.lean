/- The document's world: what a file has; what a command answers: walked. -/
import Derived.Test.YticinbkgmfoeoaaRfW3
import Derived.Test.YticinbkgmfoeoaaRfW2
import Derived.Test.YticinbkgmfoeoaaFullB
import Derived.Deep.QuietTactic
import Derived.BigQuiet
namespace Go.Proofs.Yticinbkgmfoeoaa
open Go.RowKit
set_option linter.unusedVariables false

theorem fileL_none {l : List FT} {nm : ByteArray} : ∀ {i : Nat}, (∀ j (h : j < l.length), j < i → l[j].1 ≠ nm) → l.length ≤ i → fileL l nm = none := by
  induction l with
  | nil => intro i _ _; rfl
  | cons x l ih =>
    intro i h hi
    have h0 := h 0 (by simp) (by simp at hi; omega)
    rw [fileL, if_neg (fun e => h0 e.symm)]
    refine ih (i := i - 1) (fun j hj hji => ?_) (by simp at hi; omega)
    have := h (j + 1) (by simpa using hj) (by omega)
    simpa using this
theorem fileL_some {l : List FT} {nm : ByteArray} : ∀ {i : Nat} (hi : i < l.length), (∀ j (h : j < l.length), j < i → l[j].1 ≠ nm) → l[i].1 = nm → fileL l nm = some l[i].2.2 := by
  induction l with
  | nil => intro i hi; simp at hi
  | cons x l ih =>
    intro i hi h e
    cases i with
    | zero =>
      rw [fileL, if_pos (by simpa using e.symm)]
      rfl
    | succ i =>
      have h0 := h 0 (by simp) (by omega)
      rw [fileL, if_neg (fun e => h0 e.symm)]
      exact ih (by simpa using hi) (fun j hj hji => by
        have := h (j + 1) (by simpa using hj) (by omega)
        simpa using this) (by simpa using e)
theorem str_ne0 {n : ByteArray} (h : n ≠ ⟨#[]⟩) : n.toList.isEmpty = false := by
  have b3 := str_ne h
  simp at b3
  cases hx : n.toList with
  | nil => exact absurd hx b3
  | cons => rfl
theorem file_cells {w : World} {A : Option Addr} {c : Nat} {l : List FT} (h : RowA w 2 (.slice A l.length c) l.length (l.flatMap fileC)) {i : Nat} (hi : i < l.length) : ∃ b off, A = some ⟨b, off, none⟩ ∧ w.cell? ⟨b, off + i * 2, none⟩ = some (.string l[i].1) ∧ w.cell? ⟨b, off + i * 2 + 1, none⟩ = some l[i].2.1 := by
  obtain ⟨b, off, rfl, _, h2⟩ := h.at (by rw [flat_len (C := fileC) (k := 2) (fun _ => rfl)]; omega)
  exact ⟨b, off, rfl, h2 _ _ (fileC_at hi).1, h2 _ _ (fileC_at hi).2⟩

section
variable {w w' w1 w2 W0 : World} {m : Nat} {fv cv sv ev kv qa qo qc qa' qo' qc' qa2 qo2 qc2 : Value} {asked : List ByteArray} {ticks : Int} {op : List ST} {ac : List AT} {size : Int}
  {fs : List FT} {cl : List CT} {CL : List CM} {sl : List ByteArray} {E : List (ByteArray × ByteArray)} {K : List Int}
set_option maxHeartbeats 8000000 in
theorem r_input (h : RW w m fv cv sv ev kv qa qo qc asked ticks op ac size) (hS : ScriptIs W0 fv cv sv ev kv fs cl CL sl E K) (hb : Below W0.heap.size W0 w) (nm : ByteArray) :
    Calls Try.prog 22 #[.pointer (some ⟨m, 0, none⟩), .string nm] w fun e w' => ∃ v, e = .returned (.tuple #[v, .bool (stdL (fileL fs) sl 2 nm).isSome]) ∧ RowA w' 1 v ((stdL (fileL fs) sl 2 nm).getD []).length (((stdL (fileL fs) sl 2 nm).getD []).map Value.string) ∧ w' = w := by
  have hSw := hS.below hb
  obtain ⟨A3, c3, rfl⟩ := hS.hfv.1.shape
  obtain ⟨A5, c5, rfl⟩ := hS.hsv.1.shape
  obtain ⟨⟨c0, _, c2, _, _⟩, _⟩ := r_cells h.hd
  have hfr := hSw.hfv.1
  have hsr := hSw.hsv.1
  have hf1 := hSw.hf1
  have hfn := hSw.hfn
  have HX := Lib.hid (And.intro hfr (And.intro hsr hf1))
  clear h hS hSw hfr hsr hf1 hb
  by_cases h0 : nm = ⟨#[]⟩
  · subst h0
    have e : stdL (fileL fs) sl 2 ⟨#[]⟩ = some sl := by
      show putL (putL (fileL fs) ⟨#[]⟩ sl) ⟨#[45]⟩ sl ⟨#[]⟩ = _
      rw [putL_ne _ (by decide), putL_same]
    rw [e]
    go_enter Try.func22, Try.ntmps22
    go_wp2_with fail
    go_ret2
    exact ⟨_, rfl, HX.out.2.1, rfl⟩
  · have b0 := str_ne0 h0
    by_cases h1 : nm = ⟨#[45]⟩
    · subst h1
      have e : stdL (fileL fs) sl 2 ⟨#[45]⟩ = some sl := putL_same
      rw [e]
      go_enter Try.func22, Try.ntmps22
      go_wp2_with fail
      go_ret2
      exact ⟨_, rfl, HX.out.2.1, rfl⟩
    · have b1 : (nm.toList == [45]) = false := by
        have hb1 := str_ne h1
        rw [show (⟨#[45]⟩ : ByteArray).toList = [45] from by rw [ByteArray.toList_eq]] at hb1
        exact hb1
      have e : stdL (fileL fs) sl 2 nm = fileL fs nm := by
        show putL (putL (fileL fs) ⟨#[]⟩ sl) ⟨#[45]⟩ sl nm = _
        rw [putL_ne _ h1, putL_ne _ h0]
      rw [e]
      generalize hL : fileL fs nm = L at *
      have HL := Lib.hid hL
      clear e hL h0 h1
      go_enter Try.func22, Try.ntmps22
      go_wp2_with fail
      go_loopw [6] (fun v6 wr => ∃ i : Nat, v6 = .int .i64 (i : Int) ∧ i ≤ fs.length ∧ (∀ j (h : j < fs.length), j < i → fs[j].1 ≠ nm) ∧ wr = w) (fun v6 _ => fs.length - (intOf v6).toNat)
      case atStart => exact ⟨0, rfl, Nat.zero_le _, fun j _ h => by omega, rfl⟩
      case round =>
        obtain ⟨i, rfl, hi, hno, rfl⟩ := hrel
        by_cases hlt : i < fs.length
        · have i1 : (i : Int) < (fs.length : Int) := by omega
          have i0 : (0 : Int) ≤ (i : Int) := by omega
          obtain ⟨b, off, rfl, d0, d1⟩ := file_cells HX.out.1 hlt
          by_cases hx : fs[i].1 = nm
          · have hL := HL.out
            rw [fileL_some hlt hno hx] at hL
            subst hL
            have hrow := (HX.out.2.2 _ (List.getElem_mem hlt)).1.1
            rw [hx] at d0
            obtain ⟨A9, c9, hv⟩ := hrow.shape
            rw [hv] at d1 hrow
            have HR := Lib.hid hrow
            clear hno hrow hx hv
            go_wp2_with fail
            go_ret2
            exact ⟨.slice A9 fs[i].2.2.length c9, rfl, HR.out, rfl⟩
          · have hne := str_ne hx
            have HN := Lib.hid (And.intro hno hx)
            generalize fs[i].1 = x1 at d0 hne
            generalize fs[i].2.1 = x2 at d1
            clear hno hx
            go_wp2_with fail
            go_roundw
            case rel =>
              refine ⟨i + 1, by go_num, by omega, fun j hj hji => ?_, trivial⟩
              rcases Nat.lt_or_ge j i with h | h
              · exact HN.out.1 j hj h
              · obtain rfl : j = i := by omega
                exact HN.out.2
            case measure => simp [intOf]; omega
        · have i1 : ¬ (i : Int) < (fs.length : Int) := by omega
          have hL := HL.out
          rw [fileL_none hno (by omega)] at hL
          subst hL
          clear hno
          go_wp2_with fail
          go_ret2
          exact ⟨_, rfl, ⟨rfl, none, 0, rfl, fun _ => ⟨rfl, rfl⟩, Nat.le_refl _, fun a ha => by cases ha⟩, rfl⟩
/-- How often a line was asked for. -/
def cntA (q : List ByteArray) (nm : ByteArray) : Nat := (q.filter (fun x => decide (x = nm))).length
theorem cntA_snoc (q : List ByteArray) (x nm : ByteArray) : cntA (q ++ [x]) nm = cntA q nm + if x = nm then 1 else 0 := by
  unfold cntA
  by_cases h : x = nm <;> simp [h]
theorem cntA_le (q : List ByteArray) (nm : ByteArray) : cntA q nm ≤ q.length := List.length_filter_le _ _
theorem cmd_cells {w : World} {A : Option Addr} {c : Nat} {l : List CT} (h : RowA w 3 (.slice A l.length c) l.length (l.flatMap cmdC)) {i : Nat} (hi : i < l.length) : ∃ b off, A = some ⟨b, off, none⟩ ∧ b < w.heap.size ∧ w.cell? ⟨b, off + i * 3, none⟩ = some (.string l[i].1) ∧ w.cell? ⟨b, off + i * 3 + 1, none⟩ = some l[i].2.1 ∧ w.cell? ⟨b, off + i * 3 + 2, none⟩ = some (.int .i64 l[i].2.2) := by
  obtain ⟨b, off, rfl, hb, h2⟩ := h.at (by rw [flat_len (C := cmdC) (k := 3) (fun _ => rfl)]; omega)
  obtain ⟨q0, q1, q2⟩ := cmdC_at hi
  exact ⟨b, off, rfl, hb, h2 _ _ q0, h2 _ _ q1, h2 _ _ q2⟩
theorem cmdF_drop {L : List CM} {nm : ByteArray} {i : Nat} (hi : i < L.length) : cmdF (L.drop i) nm = if L[i].1 = nm then L[i] :: cmdF (L.drop (i + 1)) nm else cmdF (L.drop (i + 1)) nm := by
  unfold cmdF
  rw [List.drop_eq_getElem_cons hi, List.filter_cons]
  by_cases h : L[i].1 = nm
  · rw [if_pos (by simpa using h), if_pos h]
  · rw [if_neg (by simpa using h), if_neg h]
theorem RowA.nil (w : World) (s : Nat) : RowA w s (.slice none 0 0) 0 [] := ⟨by simp, none, 0, rfl, fun _ => ⟨rfl, rfl⟩, Nat.le_refl _, fun a ha => by cases ha⟩
set_option maxRecDepth 20000 in
set_option maxHeartbeats 8000000 in
theorem r_next (h : RW w m fv cv sv ev kv qa qo qc asked ticks op ac size) (hS : ScriptIs W0 fv cv sv ev kv fs cl CL sl E K) (hb : Below W0.heap.size W0 w) (hm : W0.heap.size ≤ m) (hn : asked.length ≤ 1000) (nm : ByteArray) :
    Calls Try.prog 44 #[.pointer (some ⟨m, 0, none⟩), .string nm] w fun e w' => ∃ v, e = .returned (.tuple #[v, .int .i64 (nextM ((cmdF CL nm).drop (cntA asked nm))).2.2]) ∧ RowA w' 1 v (nextM ((cmdF CL nm).drop (cntA asked nm))).2.1.length ((nextM ((cmdF CL nm).drop (cntA asked nm))).2.1.map Value.string) ∧
      RStd w m fv cv sv ev kv qa qo qc (asked ++ [nm]) ticks op ac size w' := by
  obtain ⟨A4, c4, rfl⟩ := hS.hcv.1.shape
  obtain ⟨_, c5, _⟩ := r_cells h.hd
  have hrow := h.a.1.a
  obtain ⟨A, c, rfl⟩ := hrow.shape
  have H := Lib.hid h
  have HS := Lib.hid (And.intro hS hb)
  clear h
  generalize hN : nextM ((cmdF CL nm).drop (cntA asked nm)) = N at *
  have HN := Lib.hid hN
  clear hN
  go_enter Try.func44, Try.ntmps44
  go_wp2_with fail
  go_loopw [6, 7] (fun v6 v7 wr => ∃ i : Nat, v6 = .int .i64 ((cntA (asked.take i) nm : Nat) : Int) ∧ v7 = .int .i64 (i : Int) ∧ i ≤ asked.length ∧ wr = w) (fun _ v7 _ => asked.length - (intOf v7).toNat)
  case atStart => exact ⟨0, rfl, rfl, Nat.zero_le _, rfl⟩
  case round =>
    obtain ⟨i, rfl, rfl, hi, rfl⟩ := hrel
    by_cases hlt : i < asked.length
    · have i1 : (i : Int) < (asked.length : Int) := by omega
      have i0 : (0 : Int) ≤ (i : Int) := by omega
      obtain ⟨b, off, rfl, d0⟩ := str_lies hrow hlt
      have htk : asked.take (i + 1) = asked.take i ++ [asked[i]] := List.take_succ_eq_append_getElem hlt
      have hct := cntA_snoc (asked.take i) asked[i] nm
      rw [← htk] at hct
      have hcl := cntA_le (asked.take i) nm
      rw [List.length_take] at hcl
      generalize cntA (asked.take i) nm = k at *
      generalize asked[i] = x at *
      clear htk
      by_cases hx : x = nm
      · subst hx
        rw [if_pos rfl] at hct
        have HC := Lib.hid hct
        clear hct hrow
        go_wp2_with fail
        go_roundw
        case rel => exact ⟨i + 1, by rw [HC.out]; go_num, by go_num, by omega, trivial⟩
        case measure => simp [intOf]; omega
      · have hne := str_ne hx
        rw [if_neg hx] at hct
        have HC := Lib.hid hct
        clear hct hrow hx
        go_wp2_with fail
        go_roundw
        case rel => exact ⟨i + 1, by rw [HC.out]; go_num, by go_num, by omega, trivial⟩
        case measure => simp [intOf]; omega
    · obtain rfl : i = asked.length := by omega
      rw [List.take_length]
      have hcl := cntA_le asked nm
      generalize hk : cntA asked nm = k at *
      have hrowB := hrow.below ((Below.refl _ wr).alloc (Nat.le_refl _) (.cells #[] 9))
      have hml := H.out.mlt
      have hd := H.out.hd
      have hlit : (wr.alloc (.cells #[] 9)).ownsRow wr.heap.size 9 1 (.slice (some ⟨wr.heap.size, 0, none⟩) 0 0) 0 [] := World.ownsRow_lit wr #[] 0 (Nat.le_refl _) (by unfold maxLen; omega) rfl
      have hne0 : some m ≠ some wr.heap.size := fun e => by injection e with e; omega
      have hb1 : Below wr.heap.size wr (wr.alloc (.cells #[] 9)) := (Below.refl _ wr).alloc (Nat.le_refl _) _
      have HB1 := Lib.hid hb1
      have hson := str_one asked
      have HK := Lib.hid hk
      clear hrow hb1 hk
      go_wp2_with (at_builtin; first
        | (refine wpList_appendA _ 23 9 (.tmp 30) (.tmp 34) rfl rfl wr.heap.size Try.underlying23 strn_info rfl (by decide) rfl hlit rfl hrowB hson (by unfold maxLen; omega) (by omega) (by simp) ?_; intro v1 w1 hown1 hgrow1 hloc1; rw [Nat.zero_add, List.nil_append] at hown1; obtain ⟨A1, c1, rfl⟩ := own_shape hown1; have hs1 := Nat.le_trans HB1.out.size hgrow1.size)
        | (refine wpList_appendS 23 9 (.tmp 35) (.tmp 37) rfl rfl wr.heap.size Try.underlying23 strn_info rfl (by decide) rfl hown1 rfl rfl rfl (by intro u hu; simp only [List.mem_cons, List.not_mem_nil, or_false] at hu; rcases hu with rfl; rfl) (by unfold maxLen; omega) (by omega) hs1 ?_; intro v2 w2 hown2 hgrow2 hloc2; obtain ⟨A2, c2, rfl⟩ := own_shape hown2; have hne2 : some m ≠ (Value.slice A1 asked.length c1).ownBlock := (fun e => by have := (hown1.lt m e.symm).1; omega); have hd2 := (hgrow2.block m (by omega) hne2).trans ((hgrow1.block m (by simp; omega) hne0).trans ((HB1.out.block m hml).trans hd)); have f5 := frozen_of_row w2 m 5 _ _ hd2; have c5' := (r_cells hd2).2.1))
      have hT := ((Turn.of_below HB1.out (fun j => j = m)).grow hgrow1 (fun j e => by cases e; exact Nat.le_refl _)).grow hgrow2 (fun j e => (hown1.lt j e).1)
      have h3 := H.out.turned (asked' := asked ++ [nm]) (hT.setCell ⟨m, 5, none⟩ (.slice A2 (asked.length + 1) c2) (fun _ => rfl)) (by rw [heap_setCell_same _ _ _ _ _ _ hd2]; rfl) (.inr (by rw [List.map_append, List.length_append]; exact own_same hown2 (fun j hj => heap_setCell_other _ _ _ _ (fun e => by have := (hown2.lt j hj).1; dsimp only at e; omega)))) (.inl ⟨rfl, rfl⟩) (.inl ⟨rfl, rfl⟩)
      obtain ⟨h3, g3⟩ := h3
      clear hT hlit hrowB hown1 hgrow1 hloc1 hown2 hgrow2 hloc2 hd2 f5 c5' hd hne2
      go_wp2_with fail
      generalize w2.setCell ⟨m, 5, none⟩ (.slice A2 (asked.length + 1) c2) = w3 at *
      obtain ⟨hS, hb⟩ := HS.out
      have hb3 := below_turn hb g3.1 hb.size (fun j hj => by rw [hj]; exact hm)
      have hS3 := hS.below hb3
      obtain ⟨⟨_, d1, _⟩, _⟩ := r_cells h3.hd
      have hcm := hS3.hcm
      have hcv := hS3.hcv.1
      have H3 := Lib.hid (And.intro h3 g3)
      have HC := Lib.hid (And.intro hcm hcv)
      have hclb := hS3.hcl
      clear hS hb hS3 hcm hcv h3 g3 hb3 c5
      go_loopw [6, 8] (fun v6 v8 wr => ∃ (i g : Nat), v8 = .int .i64 (i : Int) ∧ v6 = .int .i64 (g : Int) ∧ i ≤ cl.length ∧ g ≤ k ∧ (cmdF CL nm).drop k = (cmdF (CL.drop i) nm).drop g ∧ wr = w3) (fun _ v8 _ => cl.length - (intOf v8).toNat)
      case atStart => exact ⟨0, k, rfl, rfl, Nat.zero_le _, Nat.le_refl _, by rw [List.drop_zero], rfl⟩
      case round =>
        obtain ⟨i, g, rfl, rfl, hi, hgk, hdr, rfl⟩ := hrel
        have hcln := HC.out.1.1
        by_cases hlt : i < cl.length
        · have i1 : (i : Int) < (cl.length : Int) := by omega
          have i0 : (0 : Int) ≤ (i : Int) := by omega
          have hlt2 : i < CL.length := by omega
          obtain ⟨b, off, rfl, _, e0, e1, e2⟩ := cmd_cells HC.out.2 hlt
          obtain ⟨k1, k2, k3⟩ := HC.out.1.2 i cl[i] CL[i] (List.getElem?_eq_getElem hlt) (List.getElem?_eq_getElem hlt2)
          rw [cmdF_drop hlt2] at hdr
          rw [k1] at e0
          rw [k2] at e2
          obtain ⟨A9, c9, hv⟩ := k3.1.shape
          rw [hv] at e1 k3
          have HV := Lib.hid (And.intro hv k3)
          clear hv k3 k1 k2
          by_cases hx : CL[i].1 = nm
          · rw [if_pos hx] at hdr
            rw [hx] at e0
            rcases Nat.eq_zero_or_pos g with rfl | hg
            · rw [List.drop_zero] at hdr
              have hN := HN.out
              rw [hdr] at hN
              have HX := Lib.hid (And.intro hN hdr)
              clear hdr hN hx
              generalize hz : CL[i].2.2 = z at e2
              have hzh := Lib.hid hz
              clear hz
              go_wp2_with fail
              go_quiet (fail)
              go_wp2_with fail
              go_ret2
              obtain ⟨hN, hdr⟩ := HX.out
              obtain ⟨h3, g3⟩ := H3.out
              obtain ⟨hv, k3⟩ := HV.out
              rw [← hN, ← hzh.out]
              exact ⟨.slice A9 CL[i].2.1.length c9, rfl, k3.1.below (drewN_below (Below.refl _ _) _), _, _, _, h3.below (drewN_below (Below.refl _ _) _), g3.trans (RGo.of_below (drewN_below (Below.refl _ _) _))⟩
            · have hg1 : (0 : Int) < (g : Int) := by omega
              have hg2 : ((g : Int) == 0) = false := by rw [beq_eq_false_iff_ne]; omega
              have hdr2 : (cmdF CL nm).drop k = (cmdF (CL.drop (i + 1)) nm).drop (g - 1) := by
                rw [hdr]
                obtain ⟨g', rfl⟩ : ∃ g', g = g' + 1 := ⟨g - 1, by omega⟩
                rfl
              have HX := Lib.hid hdr2
              clear hdr hx hdr2
              go_wp2_with fail
              go_roundw
              case rel => exact ⟨i + 1, g - 1, by go_num, by congr 1; omega, by omega, by omega, HX.out, trivial⟩
              case measure => simp [intOf]; omega
          · rw [if_neg hx] at hdr
            have hne := str_ne hx
            have HX := Lib.hid hdr
            generalize CL[i].1 = x1 at e0 hne
            clear hdr hx
            go_wp2_with fail
            go_roundw
            case rel => exact ⟨i + 1, g, by go_num, rfl, by omega, hgk, HX.out, trivial⟩
            case measure => simp [intOf]; omega
        · obtain rfl : i = cl.length := by omega
          rw [hcln, List.drop_length] at hdr
          have hN := HN.out
          rw [hdr] at hN
          have e3 : (cmdF [] nm).drop g = [] := by simp [cmdF]
          rw [e3] at hN
          clear hdr e3
          go_wp2_with fail
          go_ret2
          obtain ⟨h3, g3⟩ := H3.out
          rw [← hN]
          exact ⟨.slice none 0 0, rfl, RowA.nil _ _, _, _, _, h3, g3⟩
set_option maxHeartbeats 4000000 in
theorem r_run (h : RW w m fv cv sv ev kv qa qo qc asked ticks op ac size) (hS : ScriptIs W0 fv cv sv ev kv fs cl CL sl E K) (hb : Below W0.heap.size W0 w) (hm : W0.heap.size ≤ m) (hn : asked.length ≤ 1000) (hac : ac.length ≤ 1048576) (nm : ByteArray) :
    Calls Try.prog 35 #[.pointer (some ⟨m, 0, none⟩), .string nm] w fun e w' => ∃ v, e = .returned (.tuple #[v, .int .i64 (nextM ((cmdF CL nm).drop (cntA asked nm))).2.2]) ∧ RowA w' 1 v (nextM ((cmdF CL nm).drop (cntA asked nm))).2.1.length ((nextM ((cmdF CL nm).drop (cntA asked nm))).2.1.map Value.string) ∧
      RStd w m fv cv sv ev kv qa qo qc (asked ++ [nm]) ticks op (ac ++ [(9, nm, ⟨#[]⟩)]) size w' := by
  have HD := Lib.hid (r_do h hac 9 nm ⟨#[]⟩)
  have HS := Lib.hid (And.intro hS hb)
  clear h hS hb
  go_enter Try.func35, Try.ntmps35
  go_wp2_with fail
  refine HD.out.mono ?_
  rintro e w1 ⟨rfl, qc1, h1, g1⟩
  obtain ⟨hS, hb⟩ := HS.out
  have HN := Lib.hid (r_next h1 hS (below_turn hb g1.1 hb.size (fun j hj => by rw [hj]; exact hm)) hm hn nm)
  have HG := Lib.hid g1
  clear hS hb h1 g1 HD
  go_wp2_with fail
  refine HN.out.mono ?_
  rintro e w2 ⟨v, rfl, hr, qa2, qo2, qc2, h2, g2⟩
  obtain ⟨A, c, rfl⟩ := hr.shape
  have HX := Lib.hid (And.intro hr (And.intro h2 g2))
  clear hr h2 g2
  go_wp2_with fail
  go_ret2
  exact ⟨_, rfl, HX.out.1, _, _, _, HX.out.2.1, HG.out.trans HX.out.2.2⟩
set_option maxHeartbeats 4000000 in
theorem r_system (h : RW w m fv cv sv ev kv qa qo qc asked ticks op ac size) (hS : ScriptIs W0 fv cv sv ev kv fs cl CL sl E K) (hb : Below W0.heap.size W0 w) (hm : W0.heap.size ≤ m) (hn : asked.length ≤ 1000) (hac : ac.length ≤ 1048576) (nm : ByteArray) :
    Calls Try.prog 36 #[.pointer (some ⟨m, 0, none⟩), .string nm] w fun e w' => e = .returned (.int .i64 (nextM ((cmdF CL nm).drop (cntA asked nm))).2.2) ∧
      RStd w m fv cv sv ev kv qa qo qc (asked ++ [nm]) ticks op (ac ++ [(10, nm, ⟨#[]⟩)]) size w' := by
  have HD := Lib.hid (r_do h hac 10 nm ⟨#[]⟩)
  have HS := Lib.hid (And.intro hS hb)
  clear h hS hb
  go_enter Try.func36, Try.ntmps36
  go_wp2_with fail
  refine HD.out.mono ?_
  rintro e w1 ⟨rfl, qc1, h1, g1⟩
  obtain ⟨hS, hb⟩ := HS.out
  have HN := Lib.hid (r_next h1 hS (below_turn hb g1.1 hb.size (fun j hj => by rw [hj]; exact hm)) hm hn nm)
  have HG := Lib.hid g1
  clear hS hb h1 g1 HD
  go_wp2_with fail
  refine HN.out.mono ?_
  rintro e w2 ⟨v, rfl, hr, qa2, qo2, qc2, h2, g2⟩
  obtain ⟨A, c, rfl⟩ := hr.shape
  have HX := Lib.hid (And.intro h2 g2)
  clear hr h2 g2
  go_wp2_with fail
  go_ret
  exact ⟨rfl, _, _, _, HX.out.1, HG.out.trans HX.out.2⟩
end

end Go.Proofs.Yticinbkgmfoeoaa
