/- The document's world: a write, walked. -/
import Derived.Test.YticinbkgmfoeoaaRfW1
import Derived.Deep.RegionHeld3
namespace Go.Proofs.Yticinbkgmfoeoaa
open Go.RowKit
set_option linter.unusedVariables false

theorem RowA.lit (w : World) (us : Array Value) (e : TypeId) (s n : Nat) (h : us.size = n * s) : RowA (w.alloc (.cells us e)) s (.slice (some ⟨w.heap.size, 0, none⟩) n n) n us.toList :=
  ⟨by simpa using h, _, _, rfl, (fun e => by cases e), Nat.le_refl _, fun a ha => by cases ha; exact cell_news w us e⟩
theorem RowA.litB (w : World) (us : Array Value) (e : TypeId) (s n B : Nat) (hB : w.heap.size = B) (h : us.size = n * s) : RowA (w.alloc (.cells us e)) s (.slice (some ⟨B, 0, none⟩) n n) n us.toList := by
  subst hB
  exact RowA.lit w us e s n h
theorem own_litB (w : World) (us : Array Value) (e : TypeId) (s n B base : Nat) (hB : w.heap.size = B) (hb : base ≤ B) (hm : n ≤ maxLen) (hs : us.size = n * s) : (w.alloc (.cells us e)).ownsRow base e s (.slice (some ⟨B, 0, none⟩) n n) n us.toList := by
  subst hB
  exact World.ownsRow_lit w us n hb hm hs
theorem RowA.drew {w : World} {s : Nat} {v : Value} {n : Nat} {xs : List Value} (h : RowA w s v n xs) : RowA w.drew s v n xs := h
theorem RowA.alloc {w : World} {s : Nat} {v : Value} {n : Nat} {xs : List Value} (h : RowA w s v n xs) (o : Obj) : RowA (w.alloc o) s v n xs := h.below ((Below.refl _ w).alloc (Nat.le_refl _) o)
theorem RowA.grown {w w' : World} {s n b off c : Nat} {xs : List Value} (h : RowA w s (.slice (some ⟨b, off, none⟩) n c) n xs) {r : Option Nat} (hg : w.grownBy w' r) (hr : r ≠ some b) : RowA w' s (.slice (some ⟨b, off, none⟩) n c) n xs := by
  obtain ⟨h1, A, c', h2, h3, h4, h5⟩ := h
  cases h2
  refine ⟨h1, _, _, rfl, h3, h4, fun a ha j u hj => ?_⟩
  cases ha
  have hc := h5 _ rfl j u hj
  have hl := lt_of_cell hc
  rw [addr_add] at hc hl ⊢
  exact (World.cell?_of_block (hg.block b hl (fun e => hr e.symm))).trans hc
section
variable {w w' w1 w2 : World} {m : Nat} {fv cv sv ev kv qa qo qc qa' qo' qc' qa2 qo2 qc2 : Value} {asked : List ByteArray} {ticks : Int} {op : List ST} {ac : List AT} {size : Int}
theorem RW.sized (h : RW w m fv cv sv ev kv qa qo qc asked ticks op ac size) (s : Int) : RW (w.setCell ⟨m, 9, none⟩ (.int .i64 s)) m fv cv sv ev kv qa qo qc asked ticks op ac s ∧ RGo w m qa qo qc (w.setCell ⟨m, 9, none⟩ (.int .i64 s)) qa qo qc :=
  h.turned ((Turn.refl w _).setCell _ _ (fun _ => rfl)) (by rw [heap_setCell_same _ _ _ _ _ _ h.hd]; rfl) (.inl ⟨rfl, rfl⟩) (.inl ⟨rfl, rfl⟩) (.inl ⟨rfl, rfl⟩)
theorem RW.here (h : RW w m fv cv sv ev kv qa qo qc asked ticks op ac size) : RStd w m fv cv sv ev kv qa qo qc asked ticks op ac size w := ⟨qa, qo, qc, h, RGo.of_below (Below.refl _ _)⟩

theorem strC_one (l : List ST) : ∀ u ∈ l.flatMap strC, u.oneCell' = true := by
  intro u hu
  obtain ⟨x, _, hx⟩ := List.mem_flatMap.1 hu
  simp only [strC, List.mem_cons, List.not_mem_nil, or_false] at hx
  rcases hx with rfl | rfl <;> rfl
theorem held_below {w2 W W' : World} {m b : Nat} {x y z : Value} (hx : w2.cell? ⟨m, 7, none⟩ = some x) (hy : w2.cell? ⟨b, 0, none⟩ = some y) (hz : w2.cell? ⟨b, 1, none⟩ = some z) (h : Below w2.heap.size w2 W') : W'.cell? ⟨m, 7, none⟩ = some x ∧ W'.cell? ⟨b, 0, none⟩ = some y ∧ W'.cell? ⟨b, 1, none⟩ = some z ∧ Below w2.heap.size w2 W' :=
  ⟨(h.cell (lt_of_cell hx)).trans hx, (h.cell (lt_of_cell hy)).trans hy, (h.cell (lt_of_cell hz)).trans hz, h⟩
theorem held_alloc {w2 W : World} {m b : Nat} {x y z : Value} (hx : w2.cell? ⟨m, 7, none⟩ = some x) (hy : w2.cell? ⟨b, 0, none⟩ = some y) (hz : w2.cell? ⟨b, 1, none⟩ = some z) (h : Below w2.heap.size w2 W) (o : Obj) : (W.alloc o).cell? ⟨m, 7, none⟩ = some x ∧ (W.alloc o).cell? ⟨b, 0, none⟩ = some y ∧ (W.alloc o).cell? ⟨b, 1, none⟩ = some z ∧ Below w2.heap.size w2 (W.alloc o) :=
  held_below (W := W) hx hy hz (h.alloc h.size o)
set_option maxRecDepth 20000 in
set_option maxHeartbeats 8000000 in
theorem r_put (h : RW w m fv cv sv ev kv qa qo qc asked ticks op ac size) (hn : ac.length ≤ 100000) (hon : op.length ≤ 8) (hs0 : 0 ≤ size) (hs1 : size ≤ 16384) (to : Int) (hto : to = 2 ∨ to = 3 ∨ to = 4) (nm dt : ByteArray) (hd : ¬ 16384 - size < (dt.size : Int)) :
    Calls Try.prog 37 #[.pointer (some ⟨m, 0, none⟩), .int .i64 to, .string nm, .string dt] w fun e w' => e = .returned (.int .i64 (wrS op ac size to nm dt).1) ∧ RStd w m fv cv sv ev kv qa qo qc asked ticks (wrS op ac size to nm dt).2.1 (wrS op ac size to nm dt).2.2.1 (wrS op ac size to nm dt).2.2.2 w' := by
  obtain ⟨q1, q2, q3, q4, q5⟩ := put_facts hto
  have hkk : kO to = to ∧ kP to = if decide (to = 4) = true then 6 else 5 := by rcases hto with rfl | rfl | rfl <;> decide
  obtain ⟨_, _, _, _, _, c9, _⟩ := r_cells h.hd
  have H := Lib.hid h
  have HT := Lib.hid (And.intro hto hd)
  generalize hR : wrS op ac size to nm dt = R at *
  have HW : R = if hasS op (decide (to = 4), nm) = true then (0, op, ac ++ [(kP to, nm, dt)], size + dt.size) else if 8 ≤ op.length then (4, op, ac, size) else (0, op ++ [(decide (to = 4), nm)], ac ++ [(kO to, nm, ⟨#[]⟩)] ++ [(kP to, nm, dt)], size + dt.size) := by
    rw [← hR]
    unfold wrS
    rw [if_neg (by omega), if_neg (by omega), if_neg (by omega)]
  rw [hkk.1, hkk.2] at HW
  clear h hkk hR hto q5
  generalize hpd : decide (to = 4) = pd at *
  replace HW := Lib.hid HW
  go_enter Try.func37, Try.ntmps37
  go_wp2_with fail
  have hb1 : Below w.heap.size w (w.alloc (.cells #[.bool pd, .string nm] 90)) := (Below.refl _ w).alloc (Nat.le_refl _) _
  have hsc := box2 w (.bool pd) (.string nm) 90
  generalize w.alloc (.cells #[.bool pd, .string nm] 90) = w1 at *
  have h1 := H.out.below hb1
  have HFi := Lib.hid (r_find h1 pd nm (by omega))
  have H1 := Lib.hid h1
  clear h1 c9
  refine HFi.out.mono ?_
  rintro e w2 ⟨i, rfl, hi, hb2⟩
  have h2 := H1.out.below hb2
  obtain ⟨_, _, _, c7, _, c9, fz⟩ := r_cells h2.hd
  have f9 := fz 9
  have hhs : hasS op (pd, nm) = decide (0 ≤ i) := by
    rw [Bool.eq_iff_iff, hasS_iff, ← hi]
    simp
  have hB2 := hb1.trans (hb2.mono hb1.size)
  have d0 := (hb2.cell (lt_of_cell hsc.1)).trans hsc.1
  have d1 := (hb2.cell (lt_of_cell hsc.2)).trans hsc.2
  have hwl : w.heap.size < w2.heap.size := lt_of_cell d0
  have hW := HW.out
  rw [hhs] at hW
  clear hhs hi hsc hb2 hb1 fz
  by_cases hi0 : 0 ≤ i
  · have i0 : ¬ i < 0 := by omega
    rw [decide_eq_true hi0, if_pos rfl] at hW
    have hrw := h2.o.1.a
    obtain ⟨A, c, rfl⟩ := hrw.shape
    have H2 := Lib.hid h2
    have HWW := Lib.hid (And.intro hW hB2)
    clear h2 hW hB2 d0 d1 c7 hrw
    cases pd
    · have HD := Lib.hid (r_do H2.out (by omega) 5 nm dt)
      go_wp2_with fail
      refine HD.out.mono ?_
      rintro e w3 ⟨rfl, qc3, h3, g3⟩
      obtain ⟨_, _, _, _, _, c9', fz⟩ := r_cells h3.hd
      have f9' := fz 9
      have HS := Lib.hid (h3.sized (size + dt.size))
      have G3 := Lib.hid ((RGo.of_below HWW.out.2).trans g3)
      clear h3 g3 fz c9 f9 HD
      go_wp2_with fail
      go_ret
      rw [HWW.out.1]
      exact ⟨rfl, _, _, _, HS.out.1, G3.out.trans HS.out.2⟩
    · have HD := Lib.hid (r_do H2.out (by omega) 6 nm dt)
      go_wp2_with fail
      refine HD.out.mono ?_
      rintro e w3 ⟨rfl, qc3, h3, g3⟩
      obtain ⟨_, _, _, _, _, c9', fz⟩ := r_cells h3.hd
      have f9' := fz 9
      have HS := Lib.hid (h3.sized (size + dt.size))
      have G3 := Lib.hid ((RGo.of_below HWW.out.2).trans g3)
      clear h3 g3 fz c9 f9 HD
      go_wp2_with fail
      go_ret
      rw [HWW.out.1]
      exact ⟨rfl, _, _, _, HS.out.1, G3.out.trans HS.out.2⟩
  · have i0 : i < 0 := by omega
    rw [decide_eq_false hi0, if_neg (by decide)] at hW
    have hrw := h2.o.1.a
    obtain ⟨A, c, rfl⟩ := hrw.shape
    by_cases h8 : 8 ≤ op.length
    · rw [if_pos h8] at hW
      have h8' : (8 : Int) ≤ (op.length : Int) := by omega
      have H2 := Lib.hid (h2)
      have HWW := Lib.hid (And.intro hW hB2)
      clear h2 hW hB2 d0 d1 c9 f9 hrw
      go_wp2_with fail
      go_ret
      rw [HWW.out.1]
      exact ⟨rfl, _, _, _, H2.out, RGo.of_below HWW.out.2⟩
    · rw [if_neg h8] at hW
      have h8' : ¬ (8 : Int) ≤ (op.length : Int) := by omega
      have hd2 := h2.hd
      have hml := h2.mlt
      have H2 := Lib.hid (h2)
      have HWW := Lib.hid (And.intro hW hB2)
      have hsd := strC_one op
      have hux : ∀ u ∈ (#[Value.bool pd, Value.string nm] : Array Value).toList, u.oneCell' = true := by
        intro u hu
        simp only [List.mem_cons, List.not_mem_nil, or_false] at hu
        rcases hu with rfl | rfl <;> rfl
      clear h2 hW hB2 c9 f9
      go_wp2_with fail
      go_region_law (first
          | (refine step_appendA 49 90 (.tmp 53) (.tmp 57) rfl rfl w2.heap.size Try.underlying49 rstream_info rfl (by decide) rfl (own_litB _ #[] 90 2 0 _ _ (by first | rfl | simp) (by first | exact Nat.le_refl _ | simp) (by unfold maxLen; omega) rfl) rfl (hrw.below (by first | exact (Below.refl _ w2).drew | exact ((Below.refl _ w2).alloc (Nat.le_refl _) _).drew | exact (((Below.refl _ w2).alloc (Nat.le_refl _) _).alloc (by simp) _).drew)) hsd (by unfold maxLen; omega) (by omega) (by simp <;> omega) ?_; intro v58 w58 hown58 hgrow58 hloc58; rw [Nat.zero_add, List.nil_append] at hown58; obtain ⟨A58, c58, rfl⟩ := own_shape hown58; have hb58 := Below.grown (B := w2.heap.size) (a := w2) (by first | exact ((Below.refl _ w2).alloc (Nat.le_refl _) _).drew | exact (((Below.refl _ w2).alloc (Nat.le_refl _) _).alloc (by simp) _).drew) hgrow58 (by simp <;> omega) (fun k e => by cases e; simp <;> omega); obtain ⟨c7x, d0x, d1x, _⟩ := held_below (W := w2) c7 d0 d1 hb58)
          | (refine step_appendA 49 90 (.tmp 53) (.tmp 57) rfl rfl w2.heap.size Try.underlying49 rstream_info rfl (by decide) rfl (World.ownsRow.alloc (own_litB _ #[] 90 2 0 _ _ (by first | rfl | simp) (by first | exact Nat.le_refl _ | simp) (by unfold maxLen; omega) rfl) _) rfl (hrw.below (by first | exact (Below.refl _ w2).drew | exact ((Below.refl _ w2).alloc (Nat.le_refl _) _).drew | exact (((Below.refl _ w2).alloc (Nat.le_refl _) _).alloc (by simp) _).drew)) hsd (by unfold maxLen; omega) (by omega) (by simp <;> omega) ?_; intro v58 w58 hown58 hgrow58 hloc58; rw [Nat.zero_add, List.nil_append] at hown58; obtain ⟨A58, c58, rfl⟩ := own_shape hown58; have hb58 := Below.grown (B := w2.heap.size) (a := w2) (by first | exact ((Below.refl _ w2).alloc (Nat.le_refl _) _).drew | exact (((Below.refl _ w2).alloc (Nat.le_refl _) _).alloc (by simp) _).drew) hgrow58 (by simp <;> omega) (fun k e => by cases e; simp <;> omega); obtain ⟨c7x, d0x, d1x, _⟩ := held_below (W := w2) c7 d0 d1 hb58)
          | (refine step_appendA 49 90 (.tmp 58) (.tmp 60) rfl rfl w2.heap.size Try.underlying49 rstream_info rfl (by decide) rfl (hown58.alloc _) rfl (RowA.litB _ #[.bool pd, .string nm] 90 2 1 _ (by first | rfl | simp) rfl) hux (by unfold maxLen; omega) (by omega) (Below.size (B := w2.heap.size) (w := w2) (by first | exact hb58 | exact hb58.alloc hb58.size _)) ?_; intro v61 w61 hown61 hgrow61 hloc61; obtain ⟨A61, c61, rfl⟩ := own_shape hown61; have hb61 := Below.grown (B := w2.heap.size) (a := w2) (by first | exact hb58 | exact hb58.alloc hb58.size _) hgrow61 (Below.size (B := w2.heap.size) (w := w2) (by first | exact hb58 | exact hb58.alloc hb58.size _)) (fun k e => (hown58.lt k e).1); obtain ⟨c7y, _⟩ := held_below (W := w2) c7 d0 d1 hb61; have hd61 := (hb61.block m hml).trans hd2; have f61 := frozen_of_row w61 m 7 _ _ hd61)
          | (refine step_appendA 49 90 (.tmp 58) (.tmp 60) rfl rfl w2.heap.size Try.underlying49 rstream_info rfl (by decide) rfl (hown58) rfl (RowA.grown (RowA.drew (RowA.litB _ #[.bool pd, .string nm] 90 2 1 _ (by first | rfl | simp) rfl)) hgrow58 (fun e => absurd (Option.some.inj (e : some w2.heap.size = some (w2.heap.size + 1))) (Nat.ne_of_lt (Nat.lt_succ_self _)))) hux (by unfold maxLen; omega) (by omega) (Below.size (B := w2.heap.size) (w := w2) (by first | exact hb58 | exact hb58.alloc hb58.size _)) ?_; intro v61 w61 hown61 hgrow61 hloc61; obtain ⟨A61, c61, rfl⟩ := own_shape hown61; have hb61 := Below.grown (B := w2.heap.size) (a := w2) (by first | exact hb58 | exact hb58.alloc hb58.size _) hgrow61 (Below.size (B := w2.heap.size) (w := w2) (by first | exact hb58 | exact hb58.alloc hb58.size _)) (fun k e => (hown58.lt k e).1); obtain ⟨c7y, _⟩ := held_below (W := w2) c7 d0 d1 hb61; have hd61 := (hb61.block m hml).trans hd2; have f61 := frozen_of_row w61 m 7 _ _ hd61)
          | (refine step_appendA 49 90 (.tmp 58) (.tmp 60) rfl rfl w2.heap.size Try.underlying49 rstream_info rfl (by decide) rfl (hown58) rfl (RowA.grown (RowA.drew (RowA.alloc (RowA.litB _ #[.bool pd, .string nm] 90 2 1 _ (by first | rfl | simp) rfl) _)) hgrow58 (fun e => absurd (Option.some.inj (e : some (w2.heap.size + 1) = some w2.heap.size)) (Nat.ne_of_gt (Nat.lt_succ_self _)))) hux (by unfold maxLen; omega) (by omega) (Below.size (B := w2.heap.size) (w := w2) (by first | exact hb58 | exact hb58.alloc hb58.size _)) ?_; intro v61 w61 hown61 hgrow61 hloc61; obtain ⟨A61, c61, rfl⟩ := own_shape hown61; have hb61 := Below.grown (B := w2.heap.size) (a := w2) (by first | exact hb58 | exact hb58.alloc hb58.size _) hgrow61 (Below.size (B := w2.heap.size) (w := w2) (by first | exact hb58 | exact hb58.alloc hb58.size _)) (fun k e => (hown58.lt k e).1); obtain ⟨c7y, _⟩ := held_below (W := w2) c7 d0 d1 hb61; have hd61 := (hb61.block m hml).trans hd2; have f61 := frozen_of_row w61 m 7 _ _ hd61))
      all_goals
        have h3 := H2.out.turned (op' := op ++ [(pd, nm)]) ((Turn.of_below hb61 (fun j => j = m)).setCell ⟨m, 7, none⟩ (.slice A61 (op.length + 1) c61) (fun _ => rfl)) (by rw [heap_setCell_same _ _ _ _ _ _ hd61]; rfl) (.inl ⟨rfl, rfl⟩) (.inr (by rw [strC_snoc, List.length_append, List.length_singleton]; exact own_same hown61 (fun j hj => heap_setCell_other _ _ _ _ (fun e => by have := (hown61.lt j hj).1; dsimp only at e; omega)))) (.inl ⟨rfl, rfl⟩)
        obtain ⟨h3, g3⟩ := h3
        clear hown58 hgrow58 hloc58 hb58 c7x d0x d1x hgrow61 hloc61 hown61 hb61 c7y hd61 f61 hd2 hrw c7 d0 d1 hsd hux
        generalize w61.setCell ⟨m, 7, none⟩ (.slice A61 (op.length + 1) c61) = w3 at *
        have HD := Lib.hid (r_do h3 (by omega) to nm ⟨#[]⟩)
        have G3 := Lib.hid ((RGo.of_below HWW.out.2).trans g3)
        clear h3 g3
        go_wp2_with fail
        refine HD.out.mono ?_
        rintro e w4 ⟨rfl, qc4, h4, g4⟩
        have G4 := Lib.hid (G3.out.trans g4)
        clear g4 HD
        cases pd
        · have HD2 := Lib.hid (r_do h4 (by simp; omega) 5 nm dt)
          clear h4
          go_wp2_with fail
          refine HD2.out.mono ?_
          rintro e w5 ⟨rfl, qc5, h5, g5⟩
          obtain ⟨_, _, _, _, _, c9', fz⟩ := r_cells h5.hd
          have f9' := fz 9
          have HS := Lib.hid (h5.sized (size + dt.size))
          have G5 := Lib.hid (G4.out.trans g5)
          clear h5 g5 fz HD2
          go_wp2_with fail
          go_ret
          rw [HWW.out.1]
          exact ⟨rfl, _, _, _, HS.out.1, G5.out.trans HS.out.2⟩
        · have HD2 := Lib.hid (r_do h4 (by simp; omega) 6 nm dt)
          clear h4
          go_wp2_with fail
          refine HD2.out.mono ?_
          rintro e w5 ⟨rfl, qc5, h5, g5⟩
          obtain ⟨_, _, _, _, _, c9', fz⟩ := r_cells h5.hd
          have f9' := fz 9
          have HS := Lib.hid (h5.sized (size + dt.size))
          have G5 := Lib.hid (G4.out.trans g5)
          clear h5 g5 fz HD2
          go_wp2_with fail
          go_ret
          rw [HWW.out.1]
          exact ⟨rfl, _, _, _, HS.out.1, G5.out.trans HS.out.2⟩

theorem r_write (h : RW w m fv cv sv ev kv qa qo qc asked ticks op ac size) (hn : ac.length ≤ 100000) (hon : op.length ≤ 8) (hs0 : 0 ≤ size) (hs1 : size ≤ 16384) (to : Int) (nm dt : ByteArray) :
    Calls Try.prog 37 #[.pointer (some ⟨m, 0, none⟩), .int .i64 to, .string nm, .string dt] w fun e w' => e = .returned (.int .i64 (wrS op ac size to nm dt).1) ∧ RStd w m fv cv sv ev kv qa qo qc asked ticks (wrS op ac size to nm dt).2.1 (wrS op ac size to nm dt).2.2.1 (wrS op ac size to nm dt).2.2.2 w' := by
  by_cases h1 : to < 1 ∨ 4 < to
  · rw [show wrS op ac size to nm dt = (1, op, ac, size) by unfold wrS; rw [if_pos h1]]
    have H := Lib.hid h.here
    clear h
    by_cases h2 : to < 1
    · clear h1
      go_enter Try.func37, Try.ntmps37
      go_wp2_with fail
      go_ret
      exact ⟨rfl, H.out⟩
    · have h4 : 4 < to := by omega
      clear h1
      go_enter Try.func37, Try.ntmps37
      go_wp2_with fail
      go_ret
      exact ⟨rfl, H.out⟩
  · have h2 : ¬ to < 1 := by omega
    have h4 : ¬ 4 < to := by omega
    by_cases hd : 16384 - size < (dt.size : Int)
    · rw [show wrS op ac size to nm dt = (3, op, ac, size) by unfold wrS; rw [if_neg h1, if_pos hd]]
      obtain ⟨_, _, _, _, _, c9, _⟩ := r_cells h.hd
      have H := Lib.hid h.here
      clear h h1
      go_enter Try.func37, Try.ntmps37
      go_wp2_with fail
      go_ret
      exact ⟨rfl, H.out⟩
    · by_cases ht : to = 1
      · rw [show wrS op ac size to nm dt = (0, op, ac ++ [(1, ⟨#[]⟩, dt)], size + dt.size) by unfold wrS; rw [if_neg h1, if_neg hd, if_pos ht]]
        subst ht
        obtain ⟨_, _, _, _, _, c9, _⟩ := r_cells h.hd
        have HD := Lib.hid (r_do h (by omega) 1 ⟨#[]⟩ dt)
        clear h h1 h2 h4
        go_enter Try.func37, Try.ntmps37
        go_wp2_with fail
        refine HD.out.mono ?_
        rintro e w5 ⟨rfl, qc5, h5, g5⟩
        obtain ⟨_, _, _, _, _, c9', fz⟩ := r_cells h5.hd
        have f9' := fz 9
        have HS := Lib.hid (h5.sized (size + dt.size))
        have G5 := Lib.hid g5
        clear h5 g5 fz HD c9
        go_wp2_with fail
        go_ret
        exact ⟨rfl, _, _, _, HS.out.1, G5.out.trans HS.out.2⟩
      · exact r_put h hn hon hs0 hs1 to (by omega) nm dt hd
end

end Go.Proofs.Yticinbkgmfoeoaa
