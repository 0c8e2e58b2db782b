/- The document's world: what is open is closed; all of it; the clock: walked. -/
import Derived.Test.YticinbkgmfoeoaaRfW1
namespace Go.Proofs.Yticinbkgmfoeoaa
open Go.RowKit
set_option linter.unusedVariables false

section
variable {w w' w1 w2 : World} {m : Nat} {fv cv sv ev kv qa qo qc qa' qo' qc' qa2 qo2 qc2 : Value} {asked : List ByteArray} {ticks : Int} {op : List ST} {ac : List AT} {size : Int}
/-- A row of streams that is none of its own grows. -/
theorem RW.grown (h : RW w m fv cv sv ev kv qa qo qc asked ticks op ac size) {r : Option Nat} (hg : w.grownBy w' r) (hr : ∀ j, r = some j → (∃ c, w.heap[j]? = some (.cells c 90 (0, 0))) ∧ qo.ownBlock ≠ some j) : RW w' m fv cv sv ev kv qa qo qc asked ticks op ac size := by
  have key : ∀ (e : TypeId), e ≠ 90 → ∀ (j : Nat) (cs : Array Value), w.heap[j]? = some (Obj.cells cs e (0, 0)) → w'.heap[j]? = w.heap[j]? := fun e he j cs hc => by
    refine hg.block j (Array.getElem?_eq_some_iff.1 hc).1 (fun x => ?_)
    obtain ⟨⟨c, hc2⟩, _⟩ := hr j x.symm
    rw [hc] at hc2
    simp at hc2
    exact he hc2.2
  refine ⟨(key _ (by decide) m _ h.hd).trans h.hd, h.a.same hg.size (key _ (by decide)), ⟨(h.o.1.same (fun A c b off e1 e2 => ?_)).more hg.size, fun b off n' c hv => ?_⟩, h.c.same hg.size (key _ (by decide))⟩
  · obtain ⟨cs, hc⟩ := h.o.2 b off op.length c (by rw [e1, e2])
    exact hg.block b (Array.getElem?_eq_some_iff.1 hc).1 (fun x => (hr b x.symm).2 (by rw [e1, e2]; rfl))
  · obtain ⟨cs, hc⟩ := h.o.2 b off n' c hv
    exact ⟨cs, (hg.block b (Array.getElem?_eq_some_iff.1 hc).1 (fun x => (hr b x.symm).2 (by rw [hv]; rfl))).trans hc⟩
theorem RW.olt (h : RW w m fv cv sv ev kv qa qo qc asked ticks op ac size) {j : Nat} (hj : qo.ownBlock = some j) : j < w.heap.size := by
  obtain ⟨A, c, rfl⟩ := h.o.1.a.shape
  cases A with
  | none => cases hj
  | some a =>
    obtain ⟨_, A', c', e, _, _, h4⟩ := h.o.1
    cases e
    obtain ⟨b, off, rfl, hb, _⟩ := h4 _ rfl
    cases hj
    exact hb
theorem keep_same (op : List ST) (nm : ByteArray) (h : (keepS op nm).length = op.length) : keepS op nm = op := List.Sublist.eq_of_length List.filter_sublist h
/-- The state in the midst of a Close. -/
structure RClo (w : World) (m : Nat) (fv cv sv ev kv qa qo qc : Value) (asked : List ByteArray) (ticks : Int) (op : List ST) (ac : List AT) (size : Int) (wr : World) (v5 : Value) (k : List ST) : Prop where
  rw_ : ∃ qc', RW wr m fv cv sv ev kv qa qo qc' asked ticks op ac size ∧ RGo w m qa qo qc wr qa qo qc'
  kept : wr.ownsRow w.heap.size 90 2 v5 k.length (k.flatMap strC)

set_option maxRecDepth 20000 in
set_option maxHeartbeats 8000000 in
theorem r_close (h : RW w m fv cv sv ev kv qa qo qc asked ticks op ac size) (hn : ac.length ≤ 100000) (hon : op.length ≤ 8) (nm : ByteArray) :
    Calls Try.prog 38 #[.pointer (some ⟨m, 0, none⟩), .string nm] w fun e w' => e = .returned (.int .i64 (if (keepS op nm).length = op.length then -1 else 0)) ∧ RStd w m fv cv sv ev kv qa qo qc asked ticks (keepS op nm) (ac ++ shutS (goneS op nm)) size w' := by
  obtain ⟨A, c, rfl⟩ := h.o.1.a.shape
  have HH := Lib.hid (RClo.mk (w := w) (v5 := .slice none 0 0) (k := []) ⟨qc, h, RGo.of_below (Below.refl _ _)⟩ (own_none _ _ _))
  have H := Lib.hid h
  have hol : ∀ j, (Value.slice A op.length c).ownBlock = some j → j < w.heap.size := fun j hj => h.olt hj
  have HO := Lib.hid hol
  clear h hol
  generalize hR : (if (keepS op nm).length = op.length then (-1 : Int) else 0) = R at *
  replace hR := Lib.hid hR
  go_enter Try.func38, Try.ntmps38
  go_wp2_with fail
  go_loopw [5, 6] (fun v5 v6 wr => ∃ (i : Nat), v6 = .int .i64 (i : Int) ∧ i ≤ op.length ∧ RClo w m fv cv sv ev kv qa (.slice A op.length c) qc asked ticks op (ac ++ shutS (goneS (op.take i) nm)) size wr v5 (keepS (op.take i) nm))
    (fun _ v6 _ => op.length - (intOf v6).toNat)
  case atStart => exact ⟨0, rfl, Nat.zero_le _, by simpa [keepS, shutS, goneS] using HH.out⟩
  case round =>
    obtain ⟨i, rfl, hi, hS⟩ := hrel
    obtain ⟨qc1, h1, g1⟩ := hS.rw_
    have hkept := hS.kept
    obtain ⟨_, _, _, c7, _⟩ := r_cells h1.hd
    by_cases hlt : i < op.length
    · have i1 : (i : Int) < (op.length : Int) := by omega
      have i0 : (0 : Int) ≤ (i : Int) := by omega
      obtain ⟨go, off, rfl, e0, e1⟩ := str_cells h1.o.1.a hlt
      have hx : op[i] = (op[i].1, op[i].2) := rfl
      have htk := take_snoc op hlt
      have hln : (ac ++ shutS (goneS (op.take i) nm)).length ≤ 1048576 := by
        have : (goneS (op.take i) nm).length ≤ (op.take i).length := List.length_filter_le _ _
        simp [shutS]
        simp at this
        omega
      have hkl : (keepS (op.take i) nm).length ≤ 8 := by
        have : (keepS (op.take i) nm).length ≤ (op.take i).length := List.length_filter_le _ _
        simp at this
        omega
      generalize op[i].1 = p at *
      generalize op[i].2 = q at *
      rw [hx] at htk
      by_cases hq : q = nm
      · subst hq
        have hk1 : keepS (op.take (i + 1)) q = keepS (op.take i) q := by rw [htk]; simp [keepS]
        have hk2 : shutS (goneS (op.take (i + 1)) q) = shutS (goneS (op.take i) q) ++ [(shutK (p, q), q, ⟨#[]⟩)] := by rw [htk]; simp [shutS, goneS]
        have HC := Lib.hid (r_shut h1 hln p q)
        have HX := Lib.hid (And.intro h1 (And.intro g1 (And.intro hkept (And.intro hk1 hk2))))
        clear hS h1 g1 hkept hk1 hk2 htk hx hln hkl
        go_wp2_with fail
        refine HC.out.mono ?_
        rintro e w3 ⟨rfl, qc3, h3, g3⟩
        obtain ⟨h1, g1, hkept, hk1, hk2⟩ := HX.out
        have hkept3 := own_same hkept (fun j hj => by
          obtain ⟨c, hc⟩ := own_obj hkept hj
          exact h1.ty (by decide) g3.1 j c hc)
        have H3 := Lib.hid (And.intro h3 (And.intro (g1.trans g3) (And.intro hkept3 (And.intro hk1 hk2))))
        clear h1 g1 hkept hk1 hk2 h3 g3 hkept3 HC
        go_wp2_with fail
        go_roundw
        case rel =>
          obtain ⟨h3, g3, hkept3, hk1, hk2⟩ := H3.out
          exact ⟨i + 1, by go_num, by omega, ⟨⟨qc3, by rw [hk2, ← List.append_assoc]; exact h3, g3⟩, by rw [hk1]; exact hkept3⟩⟩
        case measure => simp [intOf]; omega
      · have hqn := str_ne hq
        have hk1 : keepS (op.take (i + 1)) nm = keepS (op.take i) nm ++ [(p, q)] := by rw [htk]; simp [keepS, hq]
        have hk2 : goneS (op.take (i + 1)) nm = goneS (op.take i) nm := by rw [htk]; simp [goneS, hq]
        generalize hk : keepS (op.take i) nm = k at *
        have hwb := g1.1.size
        obtain ⟨A6, c6, rfl⟩ := own_shape hkept
        have HX := Lib.hid (And.intro h1 (And.intro g1 (And.intro hkept (And.intro hk1 hk2))))
        clear hS h1 g1 hk1 hk2 htk hx hln hk hq
        go_wp2_with (at_builtin; refine wpList_appendS 49 90 (.tmp 35) (.tmp 43) rfl rfl w.heap.size Try.underlying49 rstream_info rfl (by decide) rfl hkept rfl rfl rfl (by intro u hu; simp only [List.mem_cons, List.not_mem_nil, or_false] at hu; rcases hu with rfl | rfl <;> rfl) (by unfold maxLen; omega) (by omega) hwb ?_; intro v' w' hown' hgrow _; obtain ⟨A', c', rfl⟩ := own_shape hown')
        obtain ⟨h1, g1, hkept, hk1, hk2⟩ := HX.out
        have h3 := h1.grown hgrow (fun j hj => ⟨own_obj hkept hj, fun e => by have := (hkept.lt j hj).1; have := HO.out j e; omega⟩)
        have g3 : RGo w m qa (.slice (some ⟨go, off, none⟩) op.length c) qc w' qa (.slice (some ⟨go, off, none⟩) op.length c) qc1 := ⟨g1.1.grow hgrow (fun j hj => (hkept.lt j hj).1), g1.2⟩
        exact ⟨⟨i + 1, by go_num, by omega, ⟨⟨qc1, by rw [hk2]; exact h3, g3⟩, by rw [hk1, strC_snoc, List.length_append, List.length_singleton]; exact hown'⟩⟩, by simp [intOf]; omega⟩
    · have i1 : ¬ (i : Int) < (op.length : Int) := by omega
      rw [List.take_of_length_le (by omega)] at h1 hkept
      obtain ⟨A6, c6, rfl⟩ := own_shape hkept
      have hd := h1.hd
      have f7 := frozen_of_row wr m 7 _ _ hd
      have hke := keep_same op nm
      generalize hkk : keepS op nm = k at *
      have hkl : k.length ≤ 8 := by
        have : (keepS op nm).length ≤ op.length := List.length_filter_le _ _
        rw [hkk] at this
        omega
      by_cases he : k.length = op.length
      · have he1 : ((k.length : Int) == (op.length : Int)) = true := by rw [he]; exact beq_self_eq_true _
        have hr := hR.out
        rw [if_pos he] at hr
        subst hr
        have hke2 := hke he
        have HX := Lib.hid (And.intro h1 (And.intro g1 (And.intro hkk hke2)))
        clear hS h1 g1 hkept hke hke2 hd f7 hkk
        rw [he]
        go_wp2_with fail
        go_ret
        obtain ⟨h1, g1, hkk, hke2⟩ := HX.out
        rw [hkk, hke2]
        exact ⟨rfl, _, _, _, h1, g1⟩
      · have he1 : ((k.length : Int) == (op.length : Int)) = false := by rw [beq_eq_false_iff_ne]; omega
        have hr := hR.out
        rw [if_neg he] at hr
        subst hr
        have hmw : ∀ j, (Value.slice A6 k.length c6).ownBlock = some j → j ≠ m := fun j hj e => by
          obtain ⟨c, hc⟩ := own_obj hkept hj
          rw [e, hd] at hc
          simp at hc
        have hT : Turn wr (wr.setCell ⟨m, 7, none⟩ (.slice A6 k.length c6)) (fun j => j = m) := (Turn.refl wr _).setCell _ _ (fun _ => rfl)
        have h3 : RW (wr.setCell ⟨m, 7, none⟩ (.slice A6 k.length c6)) m fv cv sv ev kv qa (.slice A6 k.length c6) qc1 asked ticks k (ac ++ shutS (goneS op nm)) size :=
          ⟨by rw [heap_setCell_same _ _ _ _ _ _ hd]; rfl, h1.a.same hT.size (h1.ty (by decide) hT), RowT.of_own (own_same hkept (fun j hj => heap_setCell_other _ _ _ _ (hmw j hj))), h1.c.same hT.size (h1.ty (by decide) hT)⟩
        have g3 : RGo w m qa (.slice A op.length c) qc (wr.setCell ⟨m, 7, none⟩ (.slice A6 k.length c6)) qa (.slice A6 k.length c6) qc1 :=
          ⟨g1.1.setCell _ _ (fun _ => rfl), fun j hj => by
            rcases hj with hj | hj | hj
            · exact .inl (.inl hj)
            · exact .inr (hkept.lt j hj).1
            · exact g1.2 j (.inr (.inr hj))⟩
        have HX := Lib.hid (And.intro h3 (And.intro g3 hkk))
        clear hS h1 g1 hkept hke hd h3 g3 hT hmw hkk
        go_wp2_with fail
        go_ret
        obtain ⟨h3, g3, hkk⟩ := HX.out
        rw [hkk]
        exact ⟨rfl, _, _, _, h3, g3⟩

set_option maxHeartbeats 8000000 in
theorem r_end (h : RW w m fv cv sv ev kv qa qo qc asked ticks op ac size) (hn : ac.length ≤ 100000) (hon : op.length ≤ 8) :
    Calls Try.prog 39 #[.pointer (some ⟨m, 0, none⟩)] w fun e w' => e = .returned (.tuple #[]) ∧ RStd w m fv cv sv ev kv qa qo qc asked ticks [] (ac ++ shutS op) size w' := by
  obtain ⟨A, c, rfl⟩ := h.o.1.a.shape
  have H := Lib.hid h
  clear h
  go_enter Try.func39, Try.ntmps39
  go_wp2_with fail
  go_loopw [2] (fun v2 wr => ∃ (i : Nat) (qc1 : Value), v2 = .int .i64 (i : Int) ∧ i ≤ op.length ∧ RW wr m fv cv sv ev kv qa (.slice A op.length c) qc1 asked ticks op (ac ++ shutS (op.take i)) size ∧ RGo w m qa (.slice A op.length c) qc wr qa (.slice A op.length c) qc1)
    (fun v2 _ => op.length - (intOf v2).toNat)
  case atStart => exact ⟨0, qc, rfl, Nat.zero_le _, by simpa [shutS] using H.out, RGo.of_below (Below.refl _ _)⟩
  case round =>
    obtain ⟨i, qc1, rfl, hi, h1, g1⟩ := hrel
    obtain ⟨_, _, _, c7, _⟩ := r_cells h1.hd
    by_cases hlt : i < op.length
    · have i1 : (i : Int) < (op.length : Int) := by omega
      have i0 : (0 : Int) ≤ (i : Int) := by omega
      obtain ⟨go, off, rfl, e0, e1⟩ := str_cells h1.o.1.a hlt
      have hx : op[i] = (op[i].1, op[i].2) := rfl
      have htk := take_snoc op hlt
      have hln : (ac ++ shutS (op.take i)).length ≤ 1048576 := by simp [shutS]; omega
      generalize op[i].1 = p at *
      generalize op[i].2 = q at *
      rw [hx] at htk
      have hk2 : shutS (op.take (i + 1)) = shutS (op.take i) ++ [(shutK (p, q), q, ⟨#[]⟩)] := by rw [htk]; simp [shutS]
      have HC := Lib.hid (r_shut h1 hln p q)
      have HX := Lib.hid (And.intro g1 hk2)
      clear h1 g1 hk2 htk hx hln
      go_wp2_with fail
      refine HC.out.mono ?_
      rintro e w3 ⟨rfl, qc3, h3, g3⟩
      have H3 := Lib.hid (And.intro h3 (HX.out.1.trans g3))
      clear h3 g3 HC
      go_wp2_with fail
      go_roundw
      case rel =>
        obtain ⟨h3, g3⟩ := H3.out
        exact ⟨i + 1, qc3, by go_num, by omega, by rw [HX.out.2, ← List.append_assoc]; exact h3, g3⟩
      case measure => simp [intOf]; omega
    · have i1 : ¬ (i : Int) < (op.length : Int) := by omega
      rw [List.take_of_length_le (by omega)] at h1
      have hd := h1.hd
      have f7 := frozen_of_row wr m 7 _ _ hd
      obtain ⟨h3, g3⟩ := h1.turned (w' := wr.setCell ⟨m, 7, none⟩ (.slice none 0 0)) (op' := []) (asked' := asked) (ac' := ac ++ shutS op) ((Turn.refl wr _).setCell _ _ (fun _ => rfl)) (by rw [heap_setCell_same _ _ _ _ _ _ hd]; rfl) (.inl ⟨rfl, rfl⟩) (.inr (own_none _ _ _)) (.inl ⟨rfl, rfl⟩)
      have HX := Lib.hid (And.intro h3 (g1.trans g3))
      clear h1 g1 hd h3 g3
      go_wp2_with fail
      go_end0
      exact ⟨rfl, _, _, _, HX.out.1, HX.out.2⟩

/-- The clock, after so many times. -/
def tickK (K : List Int) (t : Nat) : Int := if K = [] then 0 else K.getD (min t (K.length - 1)) 0
theorem below_turn {B : Nat} {W0 w w' : World} (hb : Below B W0 w) {X : Nat → Prop} (ht : Turn w w' X) (hB : B ≤ w.heap.size) (hX : ∀ j, X j → B ≤ j) : Below B W0 w' := hb.trans (ht.below hB hX)
set_option maxHeartbeats 8000000 in
theorem r_clock {W0 : World} {t : Nat} {K : List Int} (h : RW w m fv cv sv ev kv qa qo qc asked (t : Int) op ac size) (hk : RowA W0 1 kv K.length (K.map (Value.int .i64))) (hb : Below W0.heap.size W0 w) (hm : W0.heap.size ≤ m) (ht : t ≤ 1048576) (hkn : K.length ≤ 17592186044416) :
    Calls Try.prog 40 #[.pointer (some ⟨m, 0, none⟩)] w fun e w' => e = .returned (.int .i64 (tickK K t)) ∧ RStd w m fv cv sv ev kv qa qo qc asked ((if K = [] then t else t + 1 : Nat) : Int) op ac size w' := by
  obtain ⟨A, c, rfl⟩ := hk.shape
  obtain ⟨⟨_, _, _, _, c4⟩, _, c6, _, _, _, fz⟩ := r_cells h.hd
  have f6 := fz 6
  have hd := h.hd
  have H := Lib.hid h
  clear h fz
  by_cases he : K = []
  · subst he
    rw [if_pos rfl]
    have HX := Lib.hid (H.out.std (Below.refl _ _))
    clear hd hk
    go_enter Try.func40, Try.ntmps40
    go_wp2_with fail
    go_ret
    exact ⟨rfl, HX.out⟩
  · rw [if_neg he]
    have hpos : 0 < K.length := List.length_pos_iff.2 he
    have hlen0 : ((K.length : Int) == 0) = false := by rw [beq_eq_false_iff_ne]; omega
    have hi : min t (K.length - 1) < K.length := by omega
    have hv : tickK K t = K[min t (K.length - 1)] := by unfold tickK; rw [if_neg he, List.getD_eq_getElem?_getD, List.getElem?_eq_getElem hi]; rfl
    obtain ⟨b, off, rfl, hbl, hc⟩ := hk.at (by simp; omega)
    have hcell := hc (min t (K.length - 1)) (.int .i64 (tickK K t)) (by rw [hv]; simp [hi])
    generalize hRR : tickK K t = R at *
    have h3 := H.out.turned (w' := w.drew.setCell ⟨m, 6, none⟩ (.int .i64 ((t + 1 : Nat) : Int))) (asked' := asked) (op' := op) (ac' := ac) ((Turn.of_below ((Below.refl _ w).drew) _).setCell _ _ (fun _ => rfl)) (by rw [heap_setCell_same _ _ _ _ _ _ (show w.drew.heap[m]? = _ from hd)]; rfl) (.inl ⟨rfl, rfl⟩) (.inl ⟨rfl, rfl⟩) (.inl ⟨rfl, rfl⟩)
    have hb3 := below_turn hb h3.2.1 hb.size (fun j hj => by rw [hj]; exact hm)
    have hcell3 := (hb3.cell (p := ⟨b, off + min t (K.length - 1), none⟩) hbl).trans hcell
    have e1 : ((t + 1 : Nat) : Int) = (t : Int) + 1 := by omega
    rw [e1] at h3 hcell3
    have HX := Lib.hid (And.intro h3 hRR)
    have hcw := (hb.cell (p := ⟨b, off + min t (K.length - 1), none⟩) hbl).trans hcell
    have hbm : b ≠ m := by omega
    by_cases hle : t ≤ K.length - 1
    · have hle2 : (t : Int) ≤ (K.length : Int) - 1 := by omega
      have hq : min t (K.length - 1) = t := by omega
      rw [hq] at hcell3 hcw
      have i0 : (0 : Int) ≤ (t : Int) := by omega
      have i1 : (t : Int) < (K.length : Int) := by omega
      clear hk hc hcell hb3 h3 hd hb e1 hv hRR hq hle hi
      go_enter Try.func40, Try.ntmps40
      go_wp2_with fail
      go_region_with (fail)
      all_goals
        go_wp2_with fail
        go_ret
        obtain ⟨⟨h3, g3⟩, hRR⟩ := HX.out
        exact ⟨rfl, _, _, _, h3, g3⟩
    · have hle2 : (K.length : Int) - 1 < (t : Int) := by omega
      have hq : min t (K.length - 1) = K.length - 1 := by omega
      rw [hq] at hcell3 hcw
      have i0 : (0 : Int) ≤ (K.length : Int) - 1 := by omega
      have i1 : (K.length : Int) - 1 < (K.length : Int) := by omega
      clear hk hc hcell hb3 h3 hd hb e1 hv hRR hq hle hi
      go_enter Try.func40, Try.ntmps40
      go_wp2_with fail
      go_region_with (fail)
      all_goals
        go_wp2_with fail
        go_ret
        obtain ⟨⟨h3, g3⟩, hRR⟩ := HX.out
        exact ⟨rfl, _, _, _, h3, g3⟩
end

end Go.Proofs.Yticinbkgmfoeoaa
