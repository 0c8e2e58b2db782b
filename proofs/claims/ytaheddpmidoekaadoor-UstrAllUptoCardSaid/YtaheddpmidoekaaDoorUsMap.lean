/- The walk of 'mapped', with each of its two functions. -/
import Derived.Test.YtaheddpmidoekaaDoorUsMapP
import Derived.RangeFuncBox
namespace Go.Proofs.YtaheddpmidoekaaDoor
open Go.RowKit Go.Shelf
set_option linter.unusedVariables false
attribute [local go_sem] Oper.semAt_some

theorem Bu.lower {B B' b : Nat} {l : List Value} {W : World} (h : Bu B b l W) (hB : B' ≤ B) : Bu B' b l W := by
  have one : ∀ p, Lib.BuilderAtF 56 5 B b p l W → Lib.BuilderAtF 56 5 B' b p l W := by
    rintro p ⟨hb, v, hk, ho, hne⟩
    refine ⟨Nat.le_trans hB hb, v, hk, ⟨ho.1, ?_⟩, hne⟩
    rcases ho.2 with hn | ⟨g, cap, cur, fz, hv, hg, r⟩
    · exact .inl hn
    · exact .inr ⟨g, cap, cur, fz, hv, Nat.le_trans hB hg, r⟩
  rcases h with h | h
  · exact .inl (one _ h)
  · exact .inr (one _ h)
theorem boxed_own {α : Type} (C k : Nat) (t : TypeId) (v : Value) : OwnFrom C (fun (_ : α) W => Boxed W k t v) :=
  fun s A B row hs hg hr => (grownBy_keeps_cells hg (fun r e => (hr r e).2) hs rfl).trans hs

set_option maxRecDepth 100000 in
set_option maxHeartbeats 8000000 in
theorem map_foldC_any (s : ByteArray) (m : Bool) (w : World) (hs : s.size ≤ 4398046511104) (hT : Tab w) :
    Calls Tryd.prog 34 #[.string s, .bool m, .func (.func 21) #[] #[]] w fun e w' => e = .returned (.string ⟨(mapL foldC s m (places s m)).toArray⟩) ∧ Below w.heap.size w w' := by
  have hs' : s.size ≤ maxLen := by unfold maxLen; omega
  refine (callsIn_wide (n := 6)).1 ?_
  refine callsIn_of_wp_marks Tryd.func34 rfl trivial ?_ rfl
  simp only [Tryd.ntmps34, List.size_toArray, List.length_cons, List.length_nil, Nat.reduceAdd, Nat.reduceSub, Array.replicate_succ, Array.replicate_zero, List.push_toArray, List.append_toArray, List.nil_append, List.cons_append]
  gi_wp2_with fail
  refine ⟨trivial, ?_⟩
  refine (callsIn_wide.2 (all_call s m _)).mono ?_
  rintro e w1 ⟨rfl, rfl⟩
  gi_wp2_with fail
  have e1 := Boxed.new w 9 (.string s)
  obtain ⟨w1, hw1⟩ : ∃ w1, w.alloc (.cells #[.string s] 9) = w1 := ⟨_, rfl⟩
  have z1 : w1.heap.size = w.heap.size + 1 := by rw [← hw1]; simp
  have f1 : Below w.heap.size w w1 := by rw [← hw1]; exact (Below.refl _ w).alloc (Nat.le_refl _) _
  rw [hw1] at e1
  have e2 := Boxed.new w1 4 (.bool m)
  obtain ⟨w2, hw2⟩ : ∃ w2, w1.alloc (.cells #[.bool m] 4) = w2 := ⟨_, rfl⟩
  have z2 : w2.heap.size = w.heap.size + 1 + 1 := by rw [← hw2, World.size_alloc, z1]
  have f2 : Below w.heap.size w w2 := by rw [← hw2]; exact f1.alloc (by omega) _
  have e12 := e1.alloc (.cells #[.bool m] 4)
  rw [hw2] at e2 e12
  have e3 := Boxed.new w2 37 (.func (.func 21) #[] #[])
  have e13 := e12.alloc (.cells #[.func (.func 21) #[] #[]] 37)
  have e23 := e2.alloc (.cells #[.func (.func 21) #[] #[]] 37)
  obtain ⟨w3, hw3⟩ : ∃ w3, w2.alloc (.cells #[.func (.func 21) #[] #[]] 37) = w3 := ⟨_, rfl⟩
  have z3 : w3.heap.size = w.heap.size + 1 + 1 + 1 := by rw [← hw3, World.size_alloc, z2]
  have f3 : Below w.heap.size w w3 := by rw [← hw3]; exact f2.alloc (by omega) _
  rw [hw3] at e3 e13 e23
  have e4 : Bu w3.heap.size w3.heap.size [] (w3.alloc (.cells #[.pointer none, .slice none 0 0] 56)) := Lib.IsBuilderF.of (Lib.fresh_isBuilder 56 5 w3)
  have e14 := e13.alloc (.cells #[.pointer none, .slice none 0 0] 56)
  have e24 := e23.alloc (.cells #[.pointer none, .slice none 0 0] 56)
  have e34 := e3.alloc (.cells #[.pointer none, .slice none 0 0] 56)
  obtain ⟨w4, hw4⟩ : ∃ w4, w3.alloc (.cells #[.pointer none, .slice none 0 0] 56) = w4 := ⟨_, rfl⟩
  have z4 : w4.heap.size = w.heap.size + 1 + 1 + 1 + 1 := by rw [← hw4, World.size_alloc, z3]
  have f4 : Below w.heap.size w w4 := by rw [← hw4]; exact f3.alloc (by omega) _
  rw [hw4] at e4 e14 e24 e34
  rw [z1] at e2 e23 e24
  rw [z2] at e3 e34
  rw [z3] at e4
  have M4 : MI w.heap.size s m (.func (.func 21) #[] #[]) w [] w4 := ⟨e14, e24, e34, e4.lower (by omega), f4⟩
  have e5 := Boxed.new w4 9 (.string s)
  rw [z4] at e5
  have M5 := M4.below ((Below.refl _ w4).alloc (Nat.le_refl _) (.cells #[.string s] 9))
  obtain ⟨w5, hw5⟩ : ∃ w5, w4.alloc (.cells #[.string s] 9) = w5 := ⟨_, rfl⟩
  have z5 : w5.heap.size = w.heap.size + 1 + 1 + 1 + 1 + 1 := by rw [← hw5, World.size_alloc, z4]
  rw [hw5] at e5 M5
  have e6 := Boxed.new w5 4 (.bool m)
  rw [z5] at e6
  have e56 := e5.alloc (.cells #[.bool m] 4)
  have M6 := M5.below ((Below.refl _ w5).alloc (Nat.le_refl _) (.cells #[.bool m] 4))
  obtain ⟨w6, hw6⟩ : ∃ w6, w5.alloc (.cells #[.bool m] 4) = w6 := ⟨_, rfl⟩
  have z6 : w6.heap.size = w.heap.size + 1 + 1 + 1 + 1 + 1 + 1 := by rw [← hw6, World.size_alloc, z5]
  rw [hw6] at e6 e56 M6
  rw [hw1, hw2, hw3, hw4, hw5, hw6]
  have hn2 := hT.2
  clear M5 M4 e5 e4 e3 e34 e2 e24 e14 e1 e12 e13 e23 f1 f2 f3 f4 hw1 hw2 hw3 hw4 hw5 hw6 z1 z2 z3 z4 z5 w1 w2 w3 w4 w5
  have hT6 := hT.below M6.be hT.2
  generalize hB : w.heap.size = B at *
  refine wpIn_rangeFunc_ownG rfl (by omega) (gf := 33) (lb := #[.pointer (some ⟨B + 1 + 1 + 1 + 1, 0, none⟩), .pointer (some ⟨B + 1 + 1 + 1 + 1 + 1, 0, none⟩)]) rfl trivial (enters_of Tryd.func33 (by kernel_rfl) rfl)
    (all_stops 5 (by omega) s m hs' (B + 1 + 1 + 1 + 1) (B + 1 + 1 + 1 + 1 + 1) w6 (by omega) (by omega) e56.cell e6.cell hT6) (fun h k => h.trans k) (KeepIt.putObj (by omega) (by omega) (by omega)) (Below.refl _ _) (fun _ => rfl)
    (fun pre W => MI B s m (.func (.func 21) #[] #[]) w (Lib.byteCells (mapL foldC s m (pls pre))) W ∧ Boxed W (B + 1 + 1 + 1 + 1) 9 (.string s) ∧ Boxed W (B + 1 + 1 + 1 + 1 + 1) 4 (.bool m))
    (fun _ _ _ => False)
    (OwnFrom.and (MI.own _ (by omega) (by omega)) (OwnFrom.and (boxed_own _ _ _ _) (boxed_own _ _ _ _)))
    (fun _ _ _ _ _ hs _ _ => hs)
    ⟨M6, e56, e6⟩
    (fun x => { tmps := (.string s :: .bool m :: .func (.func 21) #[] #[] :: .pointer (some ⟨B, 0, none⟩) :: .pointer (some ⟨B + 1, 0, none⟩) :: .pointer (some ⟨B + 1 + 1, 0, none⟩) :: .string ⟨#[]⟩ :: .pointer (some ⟨B + 1 + 1 + 1, 0, none⟩) ::
        .int .i64 (x.1 : Int) :: .int .i64 ((chr s x.1 m).1 : Int) :: undef :: undef :: undef :: .string s :: .bool m :: .func (.func 33) #[] #[.pointer (some ⟨B + 1 + 1 + 1 + 1, 0, none⟩), .pointer (some ⟨B + 1 + 1 + 1 + 1 + 1, 0, none⟩)] ::
        .int .i64 (x.1 : Int) :: .int .i64 ((chr s x.1 m).1 : Int) :: undef :: undef :: undef :: undef :: undef :: undef :: undef :: undef :: undef :: undef :: undef :: undef :: undef :: undef :: undef :: undef :: undef :: undef :: undef :: undef :: undef :: undef :: undef :: undef :: undef :: undef :: undef :: undef :: undef :: undef :: undef :: undef :: undef :: undef :: []).toArray, defers := [] }) ?assign ?body ?done ?stop
  case assign =>
    intro l x W K hK
    gi_wp2
    simpa [encP] using hK
  case body =>
    rintro l pre x W ⟨hI, h5, h6⟩ hlen
    have hx := x.2
    have hw := chr_wide s x.1 m hx
    have hsn := Lib.hid (show Lib.byteCells (mapL foldC s m (pls (pre ++ [x]))) = Lib.byteCells (mapL foldC s m (pls pre)) ++ Lib.byteCells (piece foldC s m x.1) by rw [pls_snoc, mapL_snoc, bytes_app])
    have hl4 : (Lib.byteCells (mapL foldC s m (pls pre))).length ≤ 4 * s.size := by
      rw [Lib.byteCells_length]
      have := mapL_len foldC s m (pls pre)
      have : (pls pre).length = pre.length := by simp [pls]
      omega
    have hpc : piece foldC s m x.1 = if foldC ((chr s x.1 m).1 : Int) m = ((chr s x.1 m).1 : Int) then (s.extract x.1 (x.1 + (chr s x.1 m).2)).data.toList else if m = true then [UInt8.ofNat (foldC ((chr s x.1 m).1 : Int) m).toNat] else (textB (foldC ((chr s x.1 m).1 : Int) m)).data.toList := rfl
    have hby : m = true → foldC ((chr s x.1 m).1 : Int) m ≠ ((chr s x.1 m).1 : Int) → 0 ≤ foldC ((chr s x.1 m).1 : Int) m ∧ foldC ((chr s x.1 m).1 : Int) m < 256 := by rintro rfl; exact foldB _
    have hNx := Lib.hid (next_in s x.1 m W hs' hx (hT.below hI.be hn2))
    have hF := Lib.hid (fun w => fold_any ((chr s x.1 m).1 : Int) m w)
    have hpl := piece_len foldC s m x.1
    generalize piece foldC s m x.1 = pc at *
    generalize foldC ((chr s x.1 m).1 : Int) m = to at *
    generalize chr s x.1 m = p at *
    obtain ⟨c, d⟩ := p
    obtain ⟨i, hi⟩ := x
    dsimp only at *
    generalize Lib.byteCells (mapL foldC s m (pls pre)) = old at *
    have c0 := hI.bs.cell
    have c1 := hI.bm.cell
    gi_wp2_with fail
    refine ⟨trivial, ?_⟩
    refine (callsIn_wide.2 hNx.out).mono ?_
    rintro e w1 ⟨rfl, hb1⟩
    have hI1 := hI.below hb1
    have d0 := hI1.bs.cell
    have d1 := hI1.bm.cell
    have d2 := hI1.bf.cell
    have R1 : Rnd B (B + 1 + 1 + 1) W w1 := .of hb1 (Nat.le_of_lt hI.bs.lt)
    gi_wp2_with fail
    refine ⟨trivial, ?_⟩
    refine (callsIn_wide.2 (hF.out _)).mono ?_
    rintro e w2 ⟨rfl, rfl⟩
    have hz1 : B ≤ w1.heap.size := Nat.le_trans (Nat.le_of_lt hI.bs.lt) hb1.size
    have fin : ∀ (a : Act) W', Bu B (B + 1 + 1 + 1) (old ++ Lib.byteCells pc) W' → Rnd B (B + 1 + 1 + 1) w1 W' → MI B s m (.func (.func 21) #[] #[]) w (old ++ Lib.byteCells pc) W' →
        ownPostG w6.heap.size (KeepIt (B + 1 + 1 + 1 + 1) (B + 1 + 1 + 1 + 1 + 1)) (fun pre W => MI B s m (.func (.func 21) #[] #[]) w (Lib.byteCells (mapL foldC s m (pls pre))) W ∧ Boxed W (B + 1 + 1 + 1 + 1) 9 (.string s) ∧ Boxed W (B + 1 + 1 + 1 + 1 + 1) 4 (.bool m)) (fun _ _ _ => False) (pre ++ [⟨i, hi⟩]) W   .normal a W' := by
      intro a W' hbu hr hmi
      have hR := R1.trans hr
      refine ⟨hR.keeps (by omega), hR.it hn2 (by omega) (by omega) h5 h6, ?_, (hR.ot _ _ h5 (by simp) (by simp)), (hR.ot _ _ h6 (by simp; omega) (by simp))⟩
      rw [hsn.out]
      exact hmi
    have FIN := Lib.hid fin
    clear fin hF hNx hsn hI h5 h6 R1
    by_cases ht : to = (c : Int)
    · subst ht
      rw [if_pos rfl] at hpc
      have h1 : i + d ≤ s.size := hw.2.1
      have hsz : (s.extract i (i + d)).size ≤ 4 := by
        rw [hpc] at hpl; exact hpl
      gi_wp2_with fail
      refine ⟨trivial, ?_⟩
      refine (callsIn_wide.2 (writeString_any B (B + 1 + 1 + 1) old (s.extract i (i + d)) w1 hI1.bu (by omega) hz1)).mono ?_
      rintro e w2 ⟨rfl, hbu, hbe, hot⟩
      rw [bytes_str, ← hpc] at hbu
      gi_wp2_with fail
      exact FIN.out _ _ hbu ⟨hbe, hot⟩ (hI1.wrote hbu hbe hot)
    · rw [if_neg ht] at hpc
      have ht' : (to != (c : Int)) = true := by rw [bne_iff_ne]; exact ht
      cases m with
      | true =>
        rw [if_pos rfl] at hpc
        have hb := hby rfl ht
        gi_wp2_with fail
        refine ⟨trivial, ?_⟩
        refine (callsIn_wide.2 (writeByte_any B (B + 1 + 1 + 1) old to w1 hI1.bu (by omega) hz1)).mono ?_
        rintro e w2 ⟨rfl, hbu, hbe, hot⟩
        rw [← byteCell1 to hb, ← hpc] at hbu
        gi_wp2_with fail
        exact FIN.out _ _ hbu ⟨hbe, hot⟩ (hI1.wrote hbu hbe hot)
      | false =>
        rw [if_neg (by simp)] at hpc
        gi_wp2_with fail
        refine ⟨trivial, ?_⟩
        refine (callsIn_wide.2 (text_any to w1)).mono ?_
        rintro e w2 ⟨rfl, hb2⟩
        have hI2 := hI1.below hb2
        have hsz : (textB to).size ≤ 4 := textB_len to
        gi_wp2_with fail
        refine ⟨trivial, ?_⟩
        refine (callsIn_wide.2 (writeString_any B (B + 1 + 1 + 1) old (textB to) w2 hI2.bu (by omega) (Nat.le_trans hz1 hb2.size))).mono ?_
        rintro e w3 ⟨rfl, hbu, hbe, hot⟩
        rw [bytes_str, ← hpc] at hbu
        gi_wp2_with fail
        exact FIN.out _ _ hbu ((Rnd.of hb2 hz1).trans ⟨hbe, hot⟩) (hI2.wrote hbu hbe hot)
  case done =>
    rintro D ys W hD hys ⟨hI, _, _⟩ hK
    rw [hys] at hI
    subst hB
    have hbD := hD
    gi_wp2_with fail
    refine ⟨trivial, ?_⟩
    refine (callsIn_wide.2 (Tryd.Builder_String_any_k w.heap.size (w.heap.size + 1 + 1 + 1) (mapL foldC s m (places s m)) W hI.bu (Nat.le_of_lt hI.bs.lt))).mono ?_
    rintro e w2 ⟨rfl, hbu, hbe, hot⟩
    have hK2 := hot _ _ hK (by simp; omega) (by simp)
    gi_wp2_with fail
    refine ⟨by simp, .inl ⟨_, _, rfl, run_takeDeferred hK2, ?_⟩⟩
    exact ⟨_, results_tmp rfl _ _ _, rfl, (hI.be.trans hbe).trans (belowK_b (w := w) (Nat.le_refl _) w2 D _ _ (by omega) hK2 rfl rfl)⟩
  case stop =>
    rintro D c pre W _ _ h _
    exact h.elim

set_option maxRecDepth 100000 in
set_option maxHeartbeats 8000000 in
theorem map_capC_any (s : ByteArray) (m : Bool) (w : World) (hs : s.size ≤ 4398046511104) (hT : Tab w) :
    Calls Tryd.prog 34 #[.string s, .bool m, .func (.func 36) #[] #[]] w fun e w' => e = .returned (.string ⟨(mapL capC s m (places s m)).toArray⟩) ∧ Below w.heap.size w w' := by
  have hs' : s.size ≤ maxLen := by unfold maxLen; omega
  refine (callsIn_wide (n := 6)).1 ?_
  refine callsIn_of_wp_marks Tryd.func34 rfl trivial ?_ rfl
  simp only [Tryd.ntmps34, List.size_toArray, List.length_cons, List.length_nil, Nat.reduceAdd, Nat.reduceSub, Array.replicate_succ, Array.replicate_zero, List.push_toArray, List.append_toArray, List.nil_append, List.cons_append]
  gi_wp2_with fail
  refine ⟨trivial, ?_⟩
  refine (callsIn_wide.2 (all_call s m _)).mono ?_
  rintro e w1 ⟨rfl, rfl⟩
  gi_wp2_with fail
  have e1 := Boxed.new w 9 (.string s)
  obtain ⟨w1, hw1⟩ : ∃ w1, w.alloc (.cells #[.string s] 9) = w1 := ⟨_, rfl⟩
  have z1 : w1.heap.size = w.heap.size + 1 := by rw [← hw1]; simp
  have f1 : Below w.heap.size w w1 := by rw [← hw1]; exact (Below.refl _ w).alloc (Nat.le_refl _) _
  rw [hw1] at e1
  have e2 := Boxed.new w1 4 (.bool m)
  obtain ⟨w2, hw2⟩ : ∃ w2, w1.alloc (.cells #[.bool m] 4) = w2 := ⟨_, rfl⟩
  have z2 : w2.heap.size = w.heap.size + 1 + 1 := by rw [← hw2, World.size_alloc, z1]
  have f2 : Below w.heap.size w w2 := by rw [← hw2]; exact f1.alloc (by omega) _
  have e12 := e1.alloc (.cells #[.bool m] 4)
  rw [hw2] at e2 e12
  have e3 := Boxed.new w2 37 (.func (.func 36) #[] #[])
  have e13 := e12.alloc (.cells #[.func (.func 36) #[] #[]] 37)
  have e23 := e2.alloc (.cells #[.func (.func 36) #[] #[]] 37)
  obtain ⟨w3, hw3⟩ : ∃ w3, w2.alloc (.cells #[.func (.func 36) #[] #[]] 37) = w3 := ⟨_, rfl⟩
  have z3 : w3.heap.size = w.heap.size + 1 + 1 + 1 := by rw [← hw3, World.size_alloc, z2]
  have f3 : Below w.heap.size w w3 := by rw [← hw3]; exact f2.alloc (by omega) _
  rw [hw3] at e3 e13 e23
  have e4 : Bu w3.heap.size w3.heap.size [] (w3.alloc (.cells #[.pointer none, .slice none 0 0] 56)) := Lib.IsBuilderF.of (Lib.fresh_isBuilder 56 5 w3)
  have e14 := e13.alloc (.cells #[.pointer none, .slice none 0 0] 56)
  have e24 := e23.alloc (.cells #[.pointer none, .slice none 0 0] 56)
  have e34 := e3.alloc (.cells #[.pointer none, .slice none 0 0] 56)
  obtain ⟨w4, hw4⟩ : ∃ w4, w3.alloc (.cells #[.pointer none, .slice none 0 0] 56) = w4 := ⟨_, rfl⟩
  have z4 : w4.heap.size = w.heap.size + 1 + 1 + 1 + 1 := by rw [← hw4, World.size_alloc, z3]
  have f4 : Below w.heap.size w w4 := by rw [← hw4]; exact f3.alloc (by omega) _
  rw [hw4] at e4 e14 e24 e34
  rw [z1] at e2 e23 e24
  rw [z2] at e3 e34
  rw [z3] at e4
  have M4 : MI w.heap.size s m (.func (.func 36) #[] #[]) w [] w4 := ⟨e14, e24, e34, e4.lower (by omega), f4⟩
  have e5 := Boxed.new w4 9 (.string s)
  rw [z4] at e5
  have M5 := M4.below ((Below.refl _ w4).alloc (Nat.le_refl _) (.cells #[.string s] 9))
  obtain ⟨w5, hw5⟩ : ∃ w5, w4.alloc (.cells #[.string s] 9) = w5 := ⟨_, rfl⟩
  have z5 : w5.heap.size = w.heap.size + 1 + 1 + 1 + 1 + 1 := by rw [← hw5, World.size_alloc, z4]
  rw [hw5] at e5 M5
  have e6 := Boxed.new w5 4 (.bool m)
  rw [z5] at e6
  have e56 := e5.alloc (.cells #[.bool m] 4)
  have M6 := M5.below ((Below.refl _ w5).alloc (Nat.le_refl _) (.cells #[.bool m] 4))
  obtain ⟨w6, hw6⟩ : ∃ w6, w5.alloc (.cells #[.bool m] 4) = w6 := ⟨_, rfl⟩
  have z6 : w6.heap.size = w.heap.size + 1 + 1 + 1 + 1 + 1 + 1 := by rw [← hw6, World.size_alloc, z5]
  rw [hw6] at e6 e56 M6
  rw [hw1, hw2, hw3, hw4, hw5, hw6]
  have hn2 := hT.2
  clear M5 M4 e5 e4 e3 e34 e2 e24 e14 e1 e12 e13 e23 f1 f2 f3 f4 hw1 hw2 hw3 hw4 hw5 hw6 z1 z2 z3 z4 z5 w1 w2 w3 w4 w5
  have hT6 := hT.below M6.be hT.2
  generalize hB : w.heap.size = B at *
  refine wpIn_rangeFunc_ownG rfl (by omega) (gf := 33) (lb := #[.pointer (some ⟨B + 1 + 1 + 1 + 1, 0, none⟩), .pointer (some ⟨B + 1 + 1 + 1 + 1 + 1, 0, none⟩)]) rfl trivial (enters_of Tryd.func33 (by kernel_rfl) rfl)
    (all_stops 5 (by omega) s m hs' (B + 1 + 1 + 1 + 1) (B + 1 + 1 + 1 + 1 + 1) w6 (by omega) (by omega) e56.cell e6.cell hT6) (fun h k => h.trans k) (KeepIt.putObj (by omega) (by omega) (by omega)) (Below.refl _ _) (fun _ => rfl)
    (fun pre W => MI B s m (.func (.func 36) #[] #[]) w (Lib.byteCells (mapL capC s m (pls pre))) W ∧ Boxed W (B + 1 + 1 + 1 + 1) 9 (.string s) ∧ Boxed W (B + 1 + 1 + 1 + 1 + 1) 4 (.bool m))
    (fun _ _ _ => False)
    (OwnFrom.and (MI.own _ (by omega) (by omega)) (OwnFrom.and (boxed_own _ _ _ _) (boxed_own _ _ _ _)))
    (fun _ _ _ _ _ hs _ _ => hs)
    ⟨M6, e56, e6⟩
    (fun x => { tmps := (.string s :: .bool m :: .func (.func 36) #[] #[] :: .pointer (some ⟨B, 0, none⟩) :: .pointer (some ⟨B + 1, 0, none⟩) :: .pointer (some ⟨B + 1 + 1, 0, none⟩) :: .string ⟨#[]⟩ :: .pointer (some ⟨B + 1 + 1 + 1, 0, none⟩) ::
        .int .i64 (x.1 : Int) :: .int .i64 ((chr s x.1 m).1 : Int) :: undef :: undef :: undef :: .string s :: .bool m :: .func (.func 33) #[] #[.pointer (some ⟨B + 1 + 1 + 1 + 1, 0, none⟩), .pointer (some ⟨B + 1 + 1 + 1 + 1 + 1, 0, none⟩)] ::
        .int .i64 (x.1 : Int) :: .int .i64 ((chr s x.1 m).1 : Int) :: undef :: undef :: undef :: undef :: undef :: undef :: undef :: undef :: undef :: undef :: undef :: undef :: undef :: undef :: undef :: undef :: undef :: undef :: undef :: undef :: undef :: undef :: undef :: undef :: undef :: undef :: undef :: undef :: undef :: undef :: undef :: undef :: undef :: undef :: []).toArray, defers := [] }) ?assign ?body ?done ?stop
  case assign =>
    intro l x W K hK
    gi_wp2
    simpa [encP] using hK
  case body =>
    rintro l pre x W ⟨hI, h5, h6⟩ hlen
    have hx := x.2
    have hw := chr_wide s x.1 m hx
    have hsn := Lib.hid (show Lib.byteCells (mapL capC s m (pls (pre ++ [x]))) = Lib.byteCells (mapL capC s m (pls pre)) ++ Lib.byteCells (piece capC s m x.1) by rw [pls_snoc, mapL_snoc, bytes_app])
    have hl4 : (Lib.byteCells (mapL capC s m (pls pre))).length ≤ 4 * s.size := by
      rw [Lib.byteCells_length]
      have := mapL_len capC s m (pls pre)
      have : (pls pre).length = pre.length := by simp [pls]
      omega
    have hpc : piece capC s m x.1 = if capC ((chr s x.1 m).1 : Int) m = ((chr s x.1 m).1 : Int) then (s.extract x.1 (x.1 + (chr s x.1 m).2)).data.toList else if m = true then [UInt8.ofNat (capC ((chr s x.1 m).1 : Int) m).toNat] else (textB (capC ((chr s x.1 m).1 : Int) m)).data.toList := rfl
    have hby : m = true → capC ((chr s x.1 m).1 : Int) m ≠ ((chr s x.1 m).1 : Int) → 0 ≤ capC ((chr s x.1 m).1 : Int) m ∧ capC ((chr s x.1 m).1 : Int) m < 256 := by rintro rfl; exact capB _
    have hNx := Lib.hid (next_in s x.1 m W hs' hx (hT.below hI.be hn2))
    have hF := Lib.hid (fun w => cap_any ((chr s x.1 m).1 : Int) m w (by omega) (by omega))
    have hpl := piece_len capC s m x.1
    generalize piece capC s m x.1 = pc at *
    generalize capC ((chr s x.1 m).1 : Int) m = to at *
    generalize chr s x.1 m = p at *
    obtain ⟨c, d⟩ := p
    obtain ⟨i, hi⟩ := x
    dsimp only at *
    generalize Lib.byteCells (mapL capC s m (pls pre)) = old at *
    have c0 := hI.bs.cell
    have c1 := hI.bm.cell
    gi_wp2_with fail
    refine ⟨trivial, ?_⟩
    refine (callsIn_wide.2 hNx.out).mono ?_
    rintro e w1 ⟨rfl, hb1⟩
    have hI1 := hI.below hb1
    have d0 := hI1.bs.cell
    have d1 := hI1.bm.cell
    have d2 := hI1.bf.cell
    have R1 : Rnd B (B + 1 + 1 + 1) W w1 := .of hb1 (Nat.le_of_lt hI.bs.lt)
    gi_wp2_with fail
    refine ⟨trivial, ?_⟩
    refine (callsIn_wide.2 (hF.out _)).mono ?_
    rintro e w2 ⟨rfl, rfl⟩
    have hz1 : B ≤ w1.heap.size := Nat.le_trans (Nat.le_of_lt hI.bs.lt) hb1.size
    have fin : ∀ (a : Act) W', Bu B (B + 1 + 1 + 1) (old ++ Lib.byteCells pc) W' → Rnd B (B + 1 + 1 + 1) w1 W' → MI B s m (.func (.func 36) #[] #[]) w (old ++ Lib.byteCells pc) W' →
        ownPostG w6.heap.size (KeepIt (B + 1 + 1 + 1 + 1) (B + 1 + 1 + 1 + 1 + 1)) (fun pre W => MI B s m (.func (.func 36) #[] #[]) w (Lib.byteCells (mapL capC s m (pls pre))) W ∧ Boxed W (B + 1 + 1 + 1 + 1) 9 (.string s) ∧ Boxed W (B + 1 + 1 + 1 + 1 + 1) 4 (.bool m)) (fun _ _ _ => False) (pre ++ [⟨i, hi⟩]) W   .normal a W' := by
      intro a W' hbu hr hmi
      have hR := R1.trans hr
      refine ⟨hR.keeps (by omega), hR.it hn2 (by omega) (by omega) h5 h6, ?_, (hR.ot _ _ h5 (by simp) (by simp)), (hR.ot _ _ h6 (by simp; omega) (by simp))⟩
      rw [hsn.out]
      exact hmi
    have FIN := Lib.hid fin
    clear fin hF hNx hsn hI h5 h6 R1
    by_cases ht : to = (c : Int)
    · subst ht
      rw [if_pos rfl] at hpc
      have h1 : i + d ≤ s.size := hw.2.1
      have hsz : (s.extract i (i + d)).size ≤ 4 := by
        rw [hpc] at hpl; exact hpl
      gi_wp2_with fail
      refine ⟨trivial, ?_⟩
      refine (callsIn_wide.2 (writeString_any B (B + 1 + 1 + 1) old (s.extract i (i + d)) w1 hI1.bu (by omega) hz1)).mono ?_
      rintro e w2 ⟨rfl, hbu, hbe, hot⟩
      rw [bytes_str, ← hpc] at hbu
      gi_wp2_with fail
      exact FIN.out _ _ hbu ⟨hbe, hot⟩ (hI1.wrote hbu hbe hot)
    · rw [if_neg ht] at hpc
      have ht' : (to != (c : Int)) = true := by rw [bne_iff_ne]; exact ht
      cases m with
      | true =>
        rw [if_pos rfl] at hpc
        have hb := hby rfl ht
        gi_wp2_with fail
        refine ⟨trivial, ?_⟩
        refine (callsIn_wide.2 (writeByte_any B (B + 1 + 1 + 1) old to w1 hI1.bu (by omega) hz1)).mono ?_
        rintro e w2 ⟨rfl, hbu, hbe, hot⟩
        rw [← byteCell1 to hb, ← hpc] at hbu
        gi_wp2_with fail
        exact FIN.out _ _ hbu ⟨hbe, hot⟩ (hI1.wrote hbu hbe hot)
      | false =>
        rw [if_neg (by simp)] at hpc
        gi_wp2_with fail
        refine ⟨trivial, ?_⟩
        refine (callsIn_wide.2 (text_any to w1)).mono ?_
        rintro e w2 ⟨rfl, hb2⟩
        have hI2 := hI1.below hb2
        have hsz : (textB to).size ≤ 4 := textB_len to
        gi_wp2_with fail
        refine ⟨trivial, ?_⟩
        refine (callsIn_wide.2 (writeString_any B (B + 1 + 1 + 1) old (textB to) w2 hI2.bu (by omega) (Nat.le_trans hz1 hb2.size))).mono ?_
        rintro e w3 ⟨rfl, hbu, hbe, hot⟩
        rw [bytes_str, ← hpc] at hbu
        gi_wp2_with fail
        exact FIN.out _ _ hbu ((Rnd.of hb2 hz1).trans ⟨hbe, hot⟩) (hI2.wrote hbu hbe hot)
  case done =>
    rintro D ys W hD hys ⟨hI, _, _⟩ hK
    rw [hys] at hI
    subst hB
    have hbD := hD
    gi_wp2_with fail
    refine ⟨trivial, ?_⟩
    refine (callsIn_wide.2 (Tryd.Builder_String_any_k w.heap.size (w.heap.size + 1 + 1 + 1) (mapL capC s m (places s m)) W hI.bu (Nat.le_of_lt hI.bs.lt))).mono ?_
    rintro e w2 ⟨rfl, hbu, hbe, hot⟩
    have hK2 := hot _ _ hK (by simp; omega) (by simp)
    gi_wp2_with fail
    refine ⟨by simp, .inl ⟨_, _, rfl, run_takeDeferred hK2, ?_⟩⟩
    exact ⟨_, results_tmp rfl _ _ _, rfl, (hI.be.trans hbe).trans (belowK_b (w := w) (Nat.le_refl _) w2 D _ _ (by omega) hK2 rfl rfl)⟩
  case stop =>
    rintro D c pre W _ _ h _
    exact h.elim

theorem lower_any (s : ByteArray) (m : Bool) (w : World) (hs : s.size ≤ 4398046511104) (hT : Tab w) :
    Calls Tryd.prog 18 #[.string s, .bool m] w fun e w' => e = .returned (.string ⟨(mapL foldC s m (places s m)).toArray⟩) ∧ Below w.heap.size w w' := by
  have H := Lib.hid (map_foldC_any s m w hs hT)
  generalize mapL foldC s m (places s m) = t at *
  go_enter Tryd.func18, Tryd.ntmps18
  go_wp2_with fail
  refine H.out.mono ?_
  rintro e w1 ⟨rfl, hb⟩
  go_wp2_with fail
  go_ret
  exact ⟨rfl, hb⟩
theorem upper_any (s : ByteArray) (m : Bool) (w : World) (hs : s.size ≤ 4398046511104) (hT : Tab w) :
    Calls Tryd.prog 20 #[.string s, .bool m] w fun e w' => e = .returned (.string ⟨(mapL capC s m (places s m)).toArray⟩) ∧ Below w.heap.size w w' := by
  have H := Lib.hid (map_capC_any s m w hs hT)
  generalize mapL capC s m (places s m) = t at *
  go_enter Tryd.func20, Tryd.ntmps20
  go_wp2_with fail
  refine H.out.mono ?_
  rintro e w1 ⟨rfl, hb⟩
  go_wp2_with fail
  go_ret
  exact ⟨rfl, hb⟩

end Go.Proofs.YtaheddpmidoekaaDoor
