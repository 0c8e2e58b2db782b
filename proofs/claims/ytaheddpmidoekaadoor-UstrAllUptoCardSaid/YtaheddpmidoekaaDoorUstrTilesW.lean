/- The walk of UstrTiles. -/
import Derived.Test.YtaheddpmidoekaaDoorUsTile
import Derived.Test.YtaheddpmidoekaaDoorUsFixed
import Derived.Test.YtaheddpmidoekaaDoorUsNextAny
import Derived.Test.YtaheddpmidoekaaDoorUstrPartsW
import Derived.Deep.RegionHeld3
import Derived.Deep.QuietTactic
import Derived.BigQuiet
namespace Go.Proofs.YtaheddpmidoekaaDoor
open Go.RowKit
set_option linter.unusedVariables false

/-- What is held at the drawn region. -/
structure HeldW (w W : World) : Prop where
  tab : Tab W
  be : Below w.heap.size w W
theorem HeldW.drew {w W : World} (h : HeldW w W) : HeldW w W.drew := ⟨h.tab, h.be.drew⟩
theorem HeldW.drewN {w W : World} (h : HeldW w W) (n : Nat) : HeldW w (W.drewN n) := ⟨h.tab, ⟨h.be.os, h.be.tape, h.be.output, h.be.size, h.be.block⟩⟩
theorem HeldW.keep {w W W' : World} (h : HeldW w W) (hb : Below W.heap.size W W') : HeldW w W' := ⟨h.tab.below hb h.tab.2, h.be.trans (hb.mono h.be.size)⟩

set_option maxHeartbeats 8000000 in
set_option maxRecDepth 100000 in
theorem ustrTiles_walk (s : ByteArray) (hs : s.size ≤ 1048576) (n : Int) (wn : (Lit.int .i64 n).wf = true) (m : Bool) (w : World) (hT : Tab w) :
    Calls Tryd.prog 10 #[.string s, .int .i64 n, .bool m] w fun e w' => e = .returned (.bool true) ∧ Below w.heap.size w w' := by
  have hn := wf_i64_bounds wn
  have hpl := places_len s m
  have H0 := Lib.hid (fun w (h : Tab w) => fixed_any w h)
  have H1 := Lib.hid (fun w (h : Tab w) => len_any s m w (by unfold maxLen; omega) h)
  obtain ⟨q, C⟩ := cut s m (min (max n 1) (((places s m).length : Int) + 1)) (by omega) (by omega)
  have hz : (subV s m (min (max n 1) (((places s m).length : Int) + 1)) (((places s m).length : Int) + 1)).size ≤ s.size := by rw [C.bsize]; omega
  have hza : (subV s m 1 (min (max n 1) (((places s m).length : Int) + 1))).size ≤ s.size := by rw [C.size]; exact C.le
  have H2 := Lib.hid (fun w (h : Tab w) => sub_any s 1 (min (max n 1) (((places s m).length : Int) + 1)) m w (by omega) h)
  have H3 := Lib.hid (fun w (h : Tab w) => sub_any s (min (max n 1) (((places s m).length : Int) + 1)) (((places s m).length : Int) + 1) m w (by omega) h)
  have H4 := Lib.hid (fun w (h : Tab w) => place_any s (min (max n 1) (((places s m).length : Int) + 1)) m w (by omega) h)
  have H5 := Lib.hid (fun w (h : Tab w) => len_any (subV s m (min (max n 1) (((places s m).length : Int) + 1)) (((places s m).length : Int) + 1)) m w (by unfold maxLen; omega) h)
  have H6 := Lib.hid (fun w (h : Tab w) => len_any (subV s m 1 (min (max n 1) (((places s m).length : Int) + 1))) m w (by unfold maxLen; omega) h)
  have H7 := Lib.hid (fun w (h : Tab w) => next_any s (q : Int) m w (by unfold maxLen; omega) h)
  have H8 := Lib.hid (fun w => show Calls Tryd.prog 14 #[.int .i64 ((nextC s (q : Int) m).1 : Int)] w fun e w' => e = .returned (.string (textB ((nextC s (q : Int) m).1 : Int))) ∧ Below w.heap.size w w' from text_any ((nextC s (q : Int) m).1 : Int) w)
  have H9 := Lib.hid (fun w (h : Tab w) => index_any s (subV s m (min (max n 1) (((places s m).length : Int) + 1)) (((places s m).length : Int) + 1)) m w (by omega) h)
  rw [C.la] at H6
  rw [C.lb] at H5
  rw [C.pv] at H4
  have hlt := C.lt
  have heq := C.eq
  have hib := C.ib
  have hic := C.ic
  have hcat := C.cat
  have hsz := C.size
  have hle := C.le
  have hn1 : 1 ≤ min (max n 1) (((places s m).length : Int) + 1) := by omega
  have hn2 : min (max n 1) (((places s m).length : Int) + 1) ≤ ((places s m).length : Int) + 1 := by omega
  have hbs := C.bsize
  clear C hz hza
  generalize idxV s (subV s m (min (max n 1) (((places s m).length : Int) + 1)) (((places s m).length : Int) + 1)) m = ix at *
  generalize subV s m (min (max n 1) (((places s m).length : Int) + 1)) (((places s m).length : Int) + 1) = b at *
  generalize subV s m 1 (min (max n 1) (((places s m).length : Int) + 1)) = a at *
  generalize hnm : min (max n 1) (((places s m).length : Int) + 1) = n' at H2 H3 H4 H5 H6 hlt heq hic hn1 hn2
  generalize (places s m).length = k at *
  have tcat : ((a ++ b).toList == s.toList) = true := by rw [hcat]; exact beq_self_eq_true _
  have tsz : ((q : Int) == (a.size : Int)) = true := by rw [hsz]; exact beq_self_eq_true _
  have hH := Lib.hid hT
  clear hT
  go_enter Tryd.func10, Tryd.ntmps10
  go_wp2_with fail
  refine (H0.out _ hH.out).mono ?_
  rintro e w0 ⟨rfl, hb⟩
  have hT := hH.out.below hb hH.out.2
  go_wp2_with fail
  refine (H1.out _ hT).mono ?_
  rintro e w1 ⟨rfl, hb1⟩
  replace hT := hT.below hb1 hT.2
  replace hb := hb.trans (hb1.mono hb.size)
  clear hb1
  go_wp2_with fail
  clear hnm hn wn
  refine (H2.out _ hT).mono ?_
  rintro e w1 ⟨rfl, hb1⟩
  replace hT := hT.below hb1 hT.2
  replace hb := hb.trans (hb1.mono hb.size)
  clear hb1
  go_wp2_with fail
  refine (H3.out _ hT).mono ?_
  rintro e w1 ⟨rfl, hb1⟩
  replace hT := hT.below hb1 hT.2
  replace hb := hb.trans (hb1.mono hb.size)
  clear hb1
  go_wp2_with fail
  refine (H4.out _ hT).mono ?_
  rintro e w1 ⟨rfl, hb1⟩
  replace hT := hT.below hb1 hT.2
  replace hb := hb.trans (hb1.mono hb.size)
  clear hb1
  go_wp2_with fail
  refine (H5.out _ hT).mono ?_
  rintro e w1 ⟨rfl, hb1⟩
  replace hT := hT.below hb1 hT.2
  replace hb := hb.trans (hb1.mono hb.size)
  clear hb1
  go_wp2_with fail
  refine (H6.out _ hT).mono ?_
  rintro e w1 ⟨rfl, hb1⟩
  replace hT := hT.below hb1 hT.2
  replace hb := hb.trans (hb1.mono hb.size)
  clear hb1
  go_wp2_with fail
  refine (H7.out _ hT).mono ?_
  rintro e w1 ⟨rfl, hb1⟩
  replace hT := hT.below hb1 hT.2
  replace hb := hb.trans (hb1.mono hb.size)
  clear hb1
  have hW : HeldW w w1 := ⟨hT, hb⟩
  have hms := cut_wide s q m
  clear hT hb
  by_cases hk : n' ≤ (k : Int)
  · have hq := hlt hk
    have hms := hms hq
    cases m with
    | false =>
      have hx := cut_text s q hq
      rw [hx] at H8
      generalize (nextC s q false).1 = c at *
      generalize (nextC s q false).2 = z at *
      clear hx
      rw [show q + z = ((q : Int) + (z : Int)).toNat by omega] at H8
      have tx : ((s.extract q ((q : Int) + (z : Int)).toNat).toList == (s.extract q ((q : Int) + (z : Int)).toNat).toList) = true := beq_self_eq_true _
      have g1 : (q : Int) ≤ (q : Int) + (z : Int) := by omega
      have g2 : (q : Int) + (z : Int) ≤ (s.size : Int) := by omega
      have g3 : decide (n' > (k : Int)) = false := decide_eq_false (by omega)
      have g4 : decide ((k : Int) < n') = false := decide_eq_false (by omega)
      have g0 : (0 : Int) ≤ (q : Int) := by omega
      have g5 : IntKind.i64.wrap ((q : Int) + (z : Int)) = (q : Int) + (z : Int) := by rw [IntKind.wrap_i64]; omega
      go_wp2_with fail
      clear H0 H1 H2 H3 H4 H5 H6 H7 hH
      refine wp_region_held_drew (S := fun W' => HeldW w W') (by kernel_rfl) hW.drew (fun hHeld => ?_)
      refine wpAnyH_take (i := 0) (oi := { dst := some 82, op := Op.move (Operand.tmp 1), type := 3, pos := "law.go:103", after := #[], guard := none }) (v := ?_) rfl (by kernel_rfl) (by kernel_rfl) (by kernel_rfl) (fun _ _ _ h => h) (Or.inl ⟨by rfl, ?_⟩) (by assumption) ?_
      rotate_left
      · intro w hSw; clear hSw; go_simp <;> with_reducible rfl
      try simp only [Act.put, List.setIfInBounds_toArray, List.set_cons_zero, List.set_cons_succ]
      refine wpAnyH_take (i := 1) (oi := { dst := some 83, op := Op.move (Operand.tmp 7), type := 3, pos := "law.go:103", after := #[], guard := none }) (v := ?_) rfl (by kernel_rfl) (by kernel_rfl) (by kernel_rfl) (fun _ _ _ h => h) (Or.inl ⟨by rfl, ?_⟩) (by assumption) ?_
      rotate_left
      · intro w hSw; clear hSw; go_simp <;> with_reducible rfl
      try simp only [Act.put, List.setIfInBounds_toArray, List.set_cons_zero, List.set_cons_succ]
      refine wpAnyH_take (i := 2) (oi := { dst := some 84, op := Op.binOp BinOp.leq 3 (Operand.tmp 82) (Operand.tmp 83) 3, type := 4, pos := "law.go:103", after := #[{ on := 0, ground := Ground.data }, { on := 1, ground := Ground.data }], guard := none }) (v := ?_) rfl (by kernel_rfl) (by kernel_rfl) (by kernel_rfl) (fun _ _ _ h => h) (Or.inl ⟨by rfl, ?_⟩) (by assumption) ?_
      rotate_left
      · intro w hSw; clear hSw; go_simp <;> with_reducible rfl
      try simp only [Act.put, List.setIfInBounds_toArray, List.set_cons_zero, List.set_cons_succ]
      refine wpAnyH_take (i := 3) (oi := { dst := some 85, op := Op.move (Operand.tmp 84), type := 4, pos := "law.go:103", after := #[{ on := 2, ground := Ground.data }], guard := none }) (v := ?_) rfl (by kernel_rfl) (by kernel_rfl) (by kernel_rfl) (fun _ _ _ h => h) (Or.inl ⟨by rfl, ?_⟩) (by assumption) ?_
      rotate_left
      · intro w hSw; clear hSw; go_simp <;> with_reducible rfl
      try simp only [Act.put, List.setIfInBounds_toArray, List.set_cons_zero, List.set_cons_succ]
      refine wpAnyH_take (i := 4) (oi := { dst := some 86, op := Op.move (Operand.tmp 2), type := 4, pos := "law.go:103", after := #[{ on := 3, ground := Ground.guard }], guard := some (3, true) }) (v := ?_) rfl (by kernel_rfl) (by kernel_rfl) (by kernel_rfl) (fun _ _ _ h => h) (Or.inl ⟨by rfl, ?_⟩) (by assumption) ?_
      rotate_left
      · intro w hSw; clear hSw; go_simp <;> with_reducible rfl
      try simp only [Act.put, List.setIfInBounds_toArray, List.set_cons_zero, List.set_cons_succ]
      refine wpAnyH_take (i := 5) (oi := { dst := some 87, op := Op.unOp UnOp.not 4 (Operand.tmp 86), type := 4, pos := "law.go:103", after := #[{ on := 4, ground := Ground.data }, { on := 3, ground := Ground.guard }], guard := some (3, true) }) (v := ?_) rfl (by kernel_rfl) (by kernel_rfl) (by kernel_rfl) (fun _ _ _ h => h) (Or.inl ⟨by rfl, ?_⟩) (by assumption) ?_
      rotate_left
      · intro w hSw; clear hSw; go_simp <;> with_reducible rfl
      try simp only [Act.put, List.setIfInBounds_toArray, List.set_cons_zero, List.set_cons_succ]
      refine wpAnyH_take (i := 6) (oi := { dst := some 88, op := Op.pick (Operand.tmp 85) (Operand.tmp 87) (Operand.const (Value.bool false)), type := 4, pos := "law.go:103", after := #[{ on := 3, ground := Ground.data }, { on := 5, ground := Ground.data }], guard := none }) (v := ?_) rfl (by kernel_rfl) (by kernel_rfl) (by kernel_rfl) (fun _ _ _ h => h) (Or.inl ⟨by rfl, ?_⟩) (by assumption) ?_
      rotate_left
      · intro w hSw; clear hSw; go_simp <;> with_reducible rfl
      try simp only [Act.put, List.setIfInBounds_toArray, List.set_cons_zero, List.set_cons_succ]
      refine wpAnyH_take (i := 7) (oi := { dst := some 89, op := Op.move (Operand.tmp 88), type := 4, pos := "law.go:103", after := #[{ on := 6, ground := Ground.data }, { on := 3, ground := Ground.chain }], guard := none }) (v := ?_) rfl (by kernel_rfl) (by kernel_rfl) (by kernel_rfl) (fun _ _ _ h => h) (Or.inl ⟨by rfl, ?_⟩) (by assumption) ?_
      rotate_left
      · intro w hSw; clear hSw; go_simp <;> with_reducible rfl
      try simp only [Act.put, List.setIfInBounds_toArray, List.set_cons_zero, List.set_cons_succ]
      refine wpAnyH_take (i := 8) (oi := { dst := some 90, op := Op.move (Operand.tmp 12), type := 3, pos := "law.go:103", after := #[{ on := 7, ground := Ground.guard }], guard := some (7, true) }) (v := ?_) rfl (by kernel_rfl) (by kernel_rfl) (by kernel_rfl) (fun _ _ _ h => h) (Or.inl ⟨by rfl, ?_⟩) (by assumption) ?_
      rotate_left
      · intro w hSw; clear hSw; go_simp <;> with_reducible rfl
      try simp only [Act.put, List.setIfInBounds_toArray, List.set_cons_zero, List.set_cons_succ]
      refine wpAnyH_take (i := 10) (oi := { dst := some 92, op := Op.move (Operand.tmp 0), type := 9, pos := "law.go:103", after := #[{ on := 7, ground := Ground.guard }], guard := some (7, true) }) (v := ?_) rfl (by kernel_rfl) (by kernel_rfl) (by kernel_rfl) (fun _ _ _ h => h) (Or.inl ⟨by rfl, ?_⟩) (by assumption) ?_
      rotate_left
      · intro w hSw; clear hSw; go_simp <;> with_reducible rfl
      try simp only [Act.put, List.setIfInBounds_toArray, List.set_cons_zero, List.set_cons_succ]
      refine wpAnyH_take (i := 11) (oi := { dst := some 93, op := Op.move (Operand.tmp 10), type := 3, pos := "law.go:103", after := #[{ on := 7, ground := Ground.guard }], guard := some (7, true) }) (v := ?_) rfl (by kernel_rfl) (by kernel_rfl) (by kernel_rfl) (fun _ _ _ h => h) (Or.inl ⟨by rfl, ?_⟩) (by assumption) ?_
      rotate_left
      · intro w hSw; clear hSw; go_simp <;> with_reducible rfl
      try simp only [Act.put, List.setIfInBounds_toArray, List.set_cons_zero, List.set_cons_succ]
      refine wpAnyH_take (i := 12) (oi := { dst := some 94, op := Op.move (Operand.tmp 10), type := 3, pos := "law.go:103", after := #[{ on := 7, ground := Ground.guard }], guard := some (7, true) }) (v := ?_) rfl (by kernel_rfl) (by kernel_rfl) (by kernel_rfl) (fun _ _ _ h => h) (Or.inl ⟨by rfl, ?_⟩) (by assumption) ?_
      rotate_left
      · intro w hSw; clear hSw; go_simp <;> with_reducible rfl
      try simp only [Act.put, List.setIfInBounds_toArray, List.set_cons_zero, List.set_cons_succ]
      refine wpAnyH_take (i := 13) (oi := { dst := some 95, op := Op.move (Operand.tmp 13), type := 3, pos := "law.go:103", after := #[{ on := 7, ground := Ground.guard }], guard := some (7, true) }) (v := ?_) rfl (by kernel_rfl) (by kernel_rfl) (by kernel_rfl) (fun _ _ _ h => h) (Or.inl ⟨by rfl, ?_⟩) (by assumption) ?_
      rotate_left
      · intro w hSw; clear hSw; go_simp <;> with_reducible rfl
      try simp only [Act.put, List.setIfInBounds_toArray, List.set_cons_zero, List.set_cons_succ]
      refine wpAnyH_take (i := 14) (oi := { dst := some 96, op := Op.binOp BinOp.add 3 (Operand.tmp 94) (Operand.tmp 95) 3, type := 3, pos := "law.go:103", after := #[{ on := 12, ground := Ground.data }, { on := 13, ground := Ground.data }, { on := 7, ground := Ground.guard }], guard := some (7, true) }) (v := ?_) rfl (by kernel_rfl) (by kernel_rfl) (by kernel_rfl) (fun _ _ _ h => h) (Or.inl ⟨by rfl, ?_⟩) (by assumption) ?_
      rotate_left
      · intro w hSw; clear hSw; go_simp <;> with_reducible rfl
      try simp only [Act.put, List.setIfInBounds_toArray, List.set_cons_zero, List.set_cons_succ]
      refine wpAnyH_take (i := 15) (oi := { dst := some 97, op := Op.slice 9 (Operand.tmp 92) (some (Operand.tmp 93)) (some (Operand.tmp 96)) none, type := 9, pos := "law.go:103", after := #[{ on := 10, ground := Ground.data }, { on := 11, ground := Ground.data }, { on := 14, ground := Ground.data }, { on := 7, ground := Ground.guard }], guard := some (7, true) }) (v := ?_) rfl (by kernel_rfl) (by kernel_rfl) (by kernel_rfl) (fun _ _ _ h => h) (Or.inl ⟨by rfl, ?_⟩) (by assumption) ?_
      rotate_left
      · intro w hSw; clear hSw; go_simp <;> with_reducible rfl
      try simp only [Act.put, List.setIfInBounds_toArray, List.set_cons_zero, List.set_cons_succ]
      refine wpAnyH_ready (rs := [9]) (by kernel_rfl) (by simp) ?_
      refine AllReadyH.cons (o := { dst := some 91, op := Op.call { callee := Callee.value (Operand.func 14), args := #[Operand.tmp 90], argTypes := #[3] }, type := 9, pos := "law.go:103", after := #[{ on := 8, ground := Ground.data }, { on := 7, ground := Ground.chain }, { on := 7, ground := Ground.guard }], guard := some (7, true) }) rfl (fun K hK => ?_) AllReadyH.nil
      go_simp
      refine (H8.out _).mono ?_
      rintro e wx ⟨rfl, hbx⟩
      go_wp2_with fail
      refine hK.out _ _ (hHeld.keep hbx) (fun hHeld2 => ?_)
      clear hK K hHeld
      try simp only [Act.put, List.setIfInBounds_toArray, List.set_cons_zero, List.set_cons_succ]
      refine wpAnyH_take (i := 16) (oi := { dst := some 98, op := Op.binOp BinOp.neq 9 (Operand.tmp 91) (Operand.tmp 97) 9, type := 4, pos := "law.go:103", after := #[{ on := 9, ground := Ground.data }, { on := 15, ground := Ground.data }, { on := 7, ground := Ground.guard }], guard := some (7, true) }) (v := ?_) rfl (by kernel_rfl) (by kernel_rfl) (by kernel_rfl) (fun _ _ _ h => h) (Or.inl ⟨by rfl, ?_⟩) (by assumption) ?_
      rotate_left
      · intro w hSw; clear hSw; go_simp <;> with_reducible rfl
      try simp only [Act.put, List.setIfInBounds_toArray, List.set_cons_zero, List.set_cons_succ]
      refine wpAnyH_take (i := 17) (oi := { dst := some 99, op := Op.pick (Operand.tmp 89) (Operand.tmp 98) (Operand.const (Value.bool false)), type := 4, pos := "law.go:103", after := #[{ on := 7, ground := Ground.data }, { on := 16, ground := Ground.data }], guard := none }) (v := ?_) rfl (by kernel_rfl) (by kernel_rfl) (by kernel_rfl) (fun _ _ _ h => h) (Or.inl ⟨by rfl, ?_⟩) (by assumption) ?_
      rotate_left
      · intro w hSw; clear hSw; go_simp <;> with_reducible rfl
      try simp only [Act.put, List.setIfInBounds_toArray, List.set_cons_zero, List.set_cons_succ]
      refine wpAnyH_take (i := 18) (oi := { dst := some 100, op := Op.move (Operand.tmp 99), type := 4, pos := "law.go:103", after := #[{ on := 17, ground := Ground.data }, { on := 9, ground := Ground.chain }], guard := none }) (v := ?_) rfl (by kernel_rfl) (by kernel_rfl) (by kernel_rfl) (fun _ _ _ h => h) (Or.inl ⟨by rfl, ?_⟩) (by assumption) ?_
      rotate_left
      · intro w hSw; clear hSw; go_simp <;> with_reducible rfl
      try simp only [Act.put, List.setIfInBounds_toArray, List.set_cons_zero, List.set_cons_succ]
      refine wpAnyH_take (i := 19) (oi := { dst := some 101, op := Op.move (Operand.tmp 1), type := 3, pos := "law.go:103", after := #[{ on := 18, ground := Ground.guard }], guard := some (18, false) }) (v := ?_) rfl (by kernel_rfl) (by kernel_rfl) (by kernel_rfl) (fun _ _ _ h => h) (Or.inl ⟨by rfl, ?_⟩) (by assumption) ?_
      rotate_left
      · intro w hSw; clear hSw; go_simp <;> with_reducible rfl
      try simp only [Act.put, List.setIfInBounds_toArray, List.set_cons_zero, List.set_cons_succ]
      refine wpAnyH_take (i := 20) (oi := { dst := some 102, op := Op.move (Operand.tmp 7), type := 3, pos := "law.go:103", after := #[{ on := 18, ground := Ground.guard }], guard := some (18, false) }) (v := ?_) rfl (by kernel_rfl) (by kernel_rfl) (by kernel_rfl) (fun _ _ _ h => h) (Or.inl ⟨by rfl, ?_⟩) (by assumption) ?_
      rotate_left
      · intro w hSw; clear hSw; go_simp <;> with_reducible rfl
      try simp only [Act.put, List.setIfInBounds_toArray, List.set_cons_zero, List.set_cons_succ]
      refine wpAnyH_take (i := 21) (oi := { dst := some 103, op := Op.binOp BinOp.gtr 3 (Operand.tmp 101) (Operand.tmp 102) 3, type := 4, pos := "law.go:103", after := #[{ on := 19, ground := Ground.data }, { on := 20, ground := Ground.data }, { on := 18, ground := Ground.guard }], guard := some (18, false) }) (v := ?_) rfl (by kernel_rfl) (by kernel_rfl) (by kernel_rfl) (fun _ _ _ h => h) (Or.inl ⟨by rfl, ?_⟩) (by assumption) ?_
      rotate_left
      · intro w hSw; clear hSw; go_simp <;> with_reducible rfl
      try simp only [Act.put, List.setIfInBounds_toArray, List.set_cons_zero, List.set_cons_succ]
      refine wpAnyH_take (i := 22) (oi := { dst := some 104, op := Op.move (Operand.tmp 103), type := 4, pos := "law.go:103", after := #[{ on := 21, ground := Ground.data }, { on := 18, ground := Ground.chain }, { on := 18, ground := Ground.guard }], guard := some (18, false) }) (v := ?_) rfl (by kernel_rfl) (by kernel_rfl) (by kernel_rfl) (fun _ _ _ h => h) (Or.inl ⟨by rfl, ?_⟩) (by assumption) ?_
      rotate_left
      · intro w hSw; clear hSw; go_simp <;> with_reducible rfl
      try simp only [Act.put, List.setIfInBounds_toArray, List.set_cons_zero, List.set_cons_succ]
      refine wpAnyH_take (i := 23) (oi := { dst := some 105, op := Op.move (Operand.tmp 13), type := 3, pos := "law.go:103", after := #[{ on := 22, ground := Ground.guard }], guard := some (22, true) }) (v := undef) rfl (by kernel_rfl) (by kernel_rfl) (by kernel_rfl) (fun _ _ _ h => h) (Or.inr ⟨by rfl, rfl⟩) (by assumption) ?_
      try simp only [Act.put, List.setIfInBounds_toArray, List.set_cons_zero, List.set_cons_succ]
      refine wpAnyH_take (i := 24) (oi := { dst := some 106, op := Op.binOp BinOp.neq 3 (Operand.tmp 105) (Operand.const (Value.int IntKind.i64 0)) 3, type := 4, pos := "law.go:103", after := #[{ on := 23, ground := Ground.data }, { on := 22, ground := Ground.guard }], guard := some (22, true) }) (v := undef) rfl (by kernel_rfl) (by kernel_rfl) (by kernel_rfl) (fun _ _ _ h => h) (Or.inr ⟨by rfl, rfl⟩) (by assumption) ?_
      try simp only [Act.put, List.setIfInBounds_toArray, List.set_cons_zero, List.set_cons_succ]
      refine wpAnyH_take (i := 25) (oi := { dst := some 107, op := Op.pick (Operand.tmp 104) (Operand.tmp 106) (Operand.const (Value.bool false)), type := 4, pos := "law.go:103", after := #[{ on := 22, ground := Ground.data }, { on := 24, ground := Ground.data }, { on := 18, ground := Ground.guard }], guard := some (18, false) }) (v := ?_) rfl (by kernel_rfl) (by kernel_rfl) (by kernel_rfl) (fun _ _ _ h => h) (Or.inl ⟨by rfl, ?_⟩) (by assumption) ?_
      rotate_left
      · intro w hSw; clear hSw; go_simp <;> with_reducible rfl
      try simp only [Act.put, List.setIfInBounds_toArray, List.set_cons_zero, List.set_cons_succ]
      refine wpAnyH_take (i := 26) (oi := { dst := some 108, op := Op.pick (Operand.tmp 100) (Operand.const (Value.bool true)) (Operand.tmp 107), type := 4, pos := "law.go:103", after := #[{ on := 18, ground := Ground.data }, { on := 25, ground := Ground.data }], guard := none }) (v := ?_) rfl (by kernel_rfl) (by kernel_rfl) (by kernel_rfl) (fun _ _ _ h => h) (Or.inl ⟨by rfl, ?_⟩) (by assumption) ?_
      rotate_left
      · intro w hSw; clear hSw; go_simp <;> with_reducible rfl
      try simp only [Act.put, List.setIfInBounds_toArray, List.set_cons_zero, List.set_cons_succ]
      refine wpAnyH_done (by kernel_rfl) ?_ _
      go_wp2_with fail
      have hW' : HeldW w wx := by assumption
      refine (H9.out _ hW'.tab).mono ?_
      rintro e w2 ⟨rfl, hb2⟩
      have hW2 := hW'.keep hb2
      by_cases hb0 : b.size = 0
      · have hi := hib hb0
        have hbe : b = ⟨#[]⟩ := by
          cases b with
          | mk d => congr 1; exact Array.eq_empty_of_size_eq_zero hb0
        subst hi
        subst hbe
        go_wp2_with fail
        go_ret
        exact ⟨rfl, hW2.be⟩
      · have tb := str_ne hb0
        have hi := hic hb0
        have i0 : ((ix : Int) == 0) = false := by rw [beq_eq_false_iff_ne]; omega
        have i1 : (1 : Int) ≤ ix := by omega
        have i2 : (ix : Int) ≤ n' := hi.2
        clear hi hic hib
        go_wp2_with fail
        go_ret
        exact ⟨rfl, hW2.be⟩
    | true =>
      have g3 : decide (n' > (k : Int)) = false := decide_eq_false (by omega)
      have g4 : decide ((k : Int) < n') = false := decide_eq_false (by omega)
      go_wp2_with fail
      clear H0 H1 H2 H3 H4 H5 H6 H7 H8 hH
      go_quiet (fail)
      go_wp2_with fail
      refine (H9.out _ (hW.drewN nq).tab).mono ?_
      rintro e w2 ⟨rfl, hb2⟩
      have hW2 := (hW.drewN nq).keep hb2
      by_cases hb0 : b.size = 0
      · have hi := hib hb0
        have hbe : b = ⟨#[]⟩ := by
          cases b with
          | mk d => congr 1; exact Array.eq_empty_of_size_eq_zero hb0
        subst hi
        subst hbe
        go_wp2_with fail
        go_ret
        exact ⟨rfl, hW2.be⟩
      · have tb := str_ne hb0
        have hi := hic hb0
        have i0 : ((ix : Int) == 0) = false := by rw [beq_eq_false_iff_ne]; omega
        have i1 : (1 : Int) ≤ ix := by omega
        have i2 : (ix : Int) ≤ n' := hi.2
        clear hi hic hib
        go_wp2_with fail
        go_ret
        exact ⟨rfl, hW2.be⟩
  · have hq := heq (by omega)
    have g3 : (k : Int) < n' := by omega
    have hd : decide (n' ≤ (k : Int)) = false := decide_eq_false hk
    subst hq
    have hx := cut_out s m
    rw [hx]
    go_wp2_with fail
    clear H0 H1 H2 H3 H4 H5 H6 H7 H8 hH
    go_quiet (fail)
    go_wp2_with fail
    refine (H9.out _ (hW.drewN nq).tab).mono ?_
    rintro e w2 ⟨rfl, hb2⟩
    have hW2 := (hW.drewN nq).keep hb2
    by_cases hb0 : b.size = 0
    · have hi := hib hb0
      have hbe : b = ⟨#[]⟩ := by
        cases b with
        | mk d => congr 1; exact Array.eq_empty_of_size_eq_zero hb0
      subst hi
      subst hbe
      go_wp2_with fail
      go_ret
      exact ⟨rfl, hW2.be⟩
    · have tb := str_ne hb0
      have hi := hic hb0
      have i0 : ((ix : Int) == 0) = false := by rw [beq_eq_false_iff_ne]; omega
      have i1 : (1 : Int) ≤ ix := by omega
      have i2 : (ix : Int) ≤ n' := hi.2
      clear hi hic hib
      go_wp2_with fail
      go_ret
      exact ⟨rfl, hW2.be⟩

end Go.Proofs.YtaheddpmidoekaaDoor
