/- Data, written somewhere: walked. -/
import Derived.Test.YticinbkgmfoeoaaWdW2
namespace Go.Proofs.Yticinbkgmfoeoaa
open Go.RowKit
set_option linter.unusedVariables false

theorem drewN_below {B : Nat} {a w : World} (h : Below B a w) (n : Nat) : Below B a (w.drewN n) := ⟨h.os, h.tape, h.output, h.size, h.block⟩
def hasS (op : List ST) (s : ST) : Bool := op.any fun x => decide (x = s)
theorem hasS_iff {op : List ST} {s : ST} : hasS op s = true ↔ s ∈ op := by simp [hasS]
/-- What a call does to the world's own blocks, and to no others. -/
def Goes (w : World) (g b2 : Nat) (vo va : Value) (w' : World) (vo' va' : Value) : Prop :=
  Turn w w' (fun j => j = g ∨ j = b2 ∨ vo.ownBlock = some j ∨ va.ownBlock = some j) ∧ ∀ j, (vo'.ownBlock = some j ∨ va'.ownBlock = some j) → (vo.ownBlock = some j ∨ va.ownBlock = some j) ∨ w.heap.size ≤ j
theorem Goes.trans {w w1 w2 : World} {g b2 : Nat} {vo va vo1 va1 vo2 va2 : Value} (h : Goes w g b2 vo va w1 vo1 va1) (k : Goes w1 g b2 vo1 va1 w2 vo2 va2) : Goes w g b2 vo va w2 vo2 va2 := by
  refine ⟨h.1.trans k.1 (fun j x => x) (fun j hj y => ?_), fun j hj => ?_⟩
  · rcases y with y | y | y | y
    · exact .inl y
    · exact .inr (.inl y)
    · rcases h.2 j (.inl y) with z | z
      · exact .inr (.inr z)
      · omega
    · rcases h.2 j (.inr y) with z | z
      · exact .inr (.inr z)
      · omega
  · rcases k.2 j hj with z | z
    · exact h.2 j z
    · right; have := h.1.size; omega
theorem Goes.of_below {w w1 : World} {g b2 : Nat} {vo va : Value} (h : Below w.heap.size w w1) : Goes w g b2 vo va w1 vo va := ⟨Turn.of_below h _, fun j hj => .inl hj⟩
/-- A world of the program in this state, come from that one. -/
def Stand (lo : Nat) (w0 : World) (g b1 b2 n1 n2 : Nat) (env clock vo va : Value) (files cmds : ByteArray → Option Value) (op : List ST) (ac : List AT) (size : Int) (w : World) : Prop :=
  ∃ vo' va', PW lo w g b1 b2 n1 n2 env clock vo' va' files cmds op ac size ∧ Goes w0 g b2 vo va w vo' va'

/-- A write: the error's number, what is open, what was done, how many bytes. -/
def wrS (op : List ST) (ac : List AT) (size : Int) (to : Int) (nm dt : ByteArray) : Int × List ST × List AT × Int :=
  if to < 1 ∨ 4 < to then (1, op, ac, size)
  else if 16384 - size < dt.size then (3, op, ac, size)
  else if to = 1 then (0, op, ac ++ [(1, ⟨#[]⟩, dt)], size + dt.size)
  else if hasS op (decide (to = 4), nm) = true then (0, op, ac ++ [(kP to, nm, dt)], size + dt.size)
  else if 8 ≤ op.length then (4, op, ac, size)
  else (0, op ++ [(decide (to = 4), nm)], ac ++ [(kO to, nm, ⟨#[]⟩)] ++ [(kP to, nm, dt)], size + dt.size)

section
variable {lo : Nat} {w : World} {g b1 b2 n1 n2 : Nat} {env clock vo va : Value} {files cmds : ByteArray → Option Value} {op : List ST} {ac : List AT} {size : Int}
theorem do_stand (h : PW lo w g b1 b2 n1 n2 env clock vo va files cmds op ac size) (hlo : lo ≤ w.heap.size) (hn : ac.length ≤ 1048576) (k : Int) (nm dt : ByteArray) :
    Calls Try.prog 32 #[.pointer (some ⟨g, 0, none⟩), .int .i64 k, .string nm, .string dt] w fun e w' => e = .returned (.tuple #[]) ∧ Stand lo w g b1 b2 n1 n2 env clock vo va files cmds op (ac ++ [(k, nm, dt)]) size w' := by
  refine (do_any h hlo hn k nm dt).mono ?_
  rintro e w' ⟨he, va', h1, h2, h3⟩
  refine ⟨he, vo, va', h1, h2.mono (fun j x => ?_), fun j hj => ?_⟩
  · rcases x with x | x
    · exact .inl x
    · exact .inr (.inr (.inr x))
  · rcases hj with hj | hj
    · exact .inl (.inl hj)
    · rcases h3 j hj with z | z
      · exact .inl (.inr z)
      · exact .inr z
/-- The size turns. -/
theorem PW.sized (h : PW lo w g b1 b2 n1 n2 env clock vo va files cmds op ac size) (s : Int) : PW lo (w.setCell ⟨g, 6, none⟩ (.int .i64 s)) g b1 b2 n1 n2 env clock vo va files cmds op ac s ∧ Goes w g b2 vo va (w.setCell ⟨g, 6, none⟩ (.int .i64 s)) vo va := by
  obtain ⟨p1, p2, p3, p4, p5⟩ := h.apart
  refine ⟨⟨by rw [heap_setCell_same _ _ _ _ _ _ h.hd]; rfl, h.f.same (heap_setCell_other _ _ _ _ (fun e => p1 e.symm)), h.c.same (heap_setCell_other _ _ _ _ (fun e => p2 e.symm)), h.ne, h.o.same (fun j hj => heap_setCell_other _ _ _ _ (p3 j hj).1), own_same h.a (fun j hj => heap_setCell_other _ _ _ _ (p4 j hj).1)⟩, (Turn.refl w _).setCell _ _ (fun _ => .inl rfl), fun j hj => .inl hj⟩

set_option maxRecDepth 20000 in
set_option maxHeartbeats 8000000 in
theorem write_out (h : PW lo w g b1 b2 n1 n2 env clock vo va files cmds op ac size) (hlo : lo ≤ w.heap.size) (hn : ac.length ≤ 100000) (hs0 : 0 ≤ size) (hs1 : size ≤ 16384) (nm dt : ByteArray) (hd : ¬ 16384 - size < (dt.size : Int)) :
    Calls Try.prog 10 #[.pointer (some ⟨g, 0, none⟩), .int .i64 1, .string nm, .string dt] w fun e w' => e = .returned (.int .i64 0) ∧ Stand lo w g b1 b2 n1 n2 env clock vo va files cmds op (ac ++ [(1, ⟨#[]⟩, dt)]) (size + dt.size) w' := by
  obtain ⟨_, c4, _, c6, fz⟩ := h.cells
  have HK := Lib.hid (fun (w' : World) => kinds_any 1 w' (by omega))
  have H := Lib.hid h
  clear h fz
  go_enter Try.func10, Try.ntmps10
  go_wp2_with fail
  refine (HK.out _).mono ?_
  rintro e w' ⟨he, hw⟩
  subst he
  subst hw
  dsimp only
  rw [show kO 1 = 0 from rfl, show kP 1 = 1 from rfl]
  go_wp2_with fail
  have hb1 : Below w.heap.size w (w.alloc (.cells #[.bool false, .string ⟨#[]⟩] 81)) := (Below.refl _ w).alloc (Nat.le_refl _) _
  generalize w.alloc (.cells #[.bool false, .string ⟨#[]⟩] 81) = w1 at *
  go_quiet (fail)
  replace hb1 := drewN_below hb1 nq
  generalize w1.drewN nq = w2 at *
  have h2 := H.out.below hb1
  obtain ⟨_, _, _, d6, fz⟩ := h2.cells
  have f6 := fz 6
  have hsz := Lib.hid (h2.sized (size + dt.size))
  have H2 := Lib.hid (And.intro h2 hb1)
  clear h2 hb1 fz c4 c6
  go_wp2_with fail
  have HD := do_stand hsz.out.1 (by have := hsz.out.2.1.size; have := H2.out.2.size; omega) (by omega) 1 ⟨#[]⟩ dt
  refine HD.mono ?_
  rintro e w3 ⟨rfl, vo', va', h3, g3⟩
  go_wp2_with fail
  go_ret
  exact ⟨rfl, vo', va', h3, ((Goes.of_below H2.out.2).trans hsz.out.2).trans g3⟩

/-- A stream more is open. -/
theorem PW.opened (h : PW lo w g b1 b2 n1 n2 env clock vo va files cmds op ac size) {w' : World} {g' cap : Nat} {s : ST} (hown' : w'.ownsRow lo 81 2 (.slice (some ⟨g', 0, none⟩) (op.length + 1) cap) (op.length + 1) (op.flatMap strC ++ strC s))
    (hgrow : w.grownBy w' vo.ownBlock) (hloc : vo.ownBlock = some g' ∨ w.heap.size ≤ g') :
    PW lo (w'.setCell ⟨g, 4, none⟩ (.slice (some ⟨g', 0, none⟩) (op.length + 1) cap)) g b1 b2 n1 n2 env clock (.slice (some ⟨g', 0, none⟩) (op.length + 1) cap) va files cmds (op ++ [s]) ac size ∧
      Goes w g b2 vo va (w'.setCell ⟨g, 4, none⟩ (.slice (some ⟨g', 0, none⟩) (op.length + 1) cap)) (.slice (some ⟨g', 0, none⟩) (op.length + 1) cap) va := by
  obtain ⟨p1, p2, p3, p4, p5⟩ := h.apart
  have hgl := h.glt
  have hd' := (hgrow.block g hgl (fun e => (p3 g e.symm).1 rfl)).trans h.hd
  have hb1 : w'.heap[b1]? = w.heap[b1]? := hgrow.block b1 h.f.lt (fun e => (p3 b1 e.symm).2.1 rfl)
  have hb2 : w'.heap[b2]? = w.heap[b2]? := hgrow.block b2 h.c.lt (fun e => (p3 b2 e.symm).2.2 rfl)
  have hgg : g' ≠ g := fun e => by
    subst e
    rcases hloc with e | e
    · exact (p3 g' e).1 rfl
    · omega
  refine ⟨⟨?_, ?_, ?_, h.ne, ?_, ?_⟩, ?_, fun j hj => ?_⟩
  · rw [heap_setCell_same _ _ _ _ _ _ hd']; rfl
  · exact (h.f.same hb1).same (heap_setCell_other _ _ _ _ (fun e => p1 e.symm))
  · exact (h.c.same hb2).same (heap_setCell_other _ _ _ _ (fun e => p2 e.symm))
  · rw [strC_snoc, List.length_append, List.length_singleton]
    exact .inl (own_same hown' (fun j hj => heap_setCell_other _ _ _ _ (fun e => hgg (by cases hj; exact e))))
  · refine own_same h.a (fun j hj => ?_)
    rw [heap_setCell_other _ _ _ _ (p4 j hj).1]
    exact hgrow.block j (h.a.lt j hj).2 (fun e => p5 j e.symm hj)
  · exact ((Turn.of_grown hgrow).mono (fun j e => .inr (.inr (.inl e)))).setCell _ _ (fun _ => .inl rfl)
  · rcases hj with hj | hj
    · cases hj
      rcases hloc with e | e
      · exact .inl (.inl e)
      · exact .inr e
    · exact .inl (.inr hj)
/-- What the tests of a write see. -/
theorem put_facts {to : Int} (h : to = 2 ∨ to = 3 ∨ to = 4) : ¬ to < 1 ∧ ¬ 4 < to ∧ (to == 1) = false ∧ (to == 4) = decide (to = 4) ∧ 0 < kO to := by
  rcases h with rfl | rfl | rfl <;> decide
set_option maxRecDepth 20000 in
set_option maxHeartbeats 8000000 in
theorem write_put (h : PW lo w g b1 b2 n1 n2 env clock vo va files cmds op ac size) (hlo : lo ≤ w.heap.size) (hn : ac.length ≤ 100000) (hon : op.length ≤ 8) (hs0 : 0 ≤ size) (hs1 : size ≤ 16384) (to : Int) (hto : to = 2 ∨ to = 3 ∨ to = 4) (nm dt : ByteArray) (hd : ¬ 16384 - size < (dt.size : Int)) :
    Calls Try.prog 10 #[.pointer (some ⟨g, 0, none⟩), .int .i64 to, .string nm, .string dt] w fun e w' => e = .returned (.int .i64 (wrS op ac size to nm dt).1) ∧ Stand lo w g b1 b2 n1 n2 env clock vo va files cmds (wrS op ac size to nm dt).2.1 (wrS op ac size to nm dt).2.2.1 (wrS op ac size to nm dt).2.2.2 w' := by
  obtain ⟨q1, q2, q3, q4, q5⟩ := put_facts hto
  obtain ⟨_, c4, _, c6, fz⟩ := h.cells
  have HK := Lib.hid (fun (w' : World) => kinds_any to w' (by omega))
  have H := Lib.hid h
  have HT := Lib.hid (And.intro hto hd)
  clear h fz
  obtain ⟨A, c, rfl⟩ := H.out.o.shape
  generalize hkO : kO to = ko at *
  generalize hkP : kP to = kp at *
  generalize hpd : decide (to = 4) = pd at *
  clear hto
  generalize hR : wrS op ac size to nm dt = R at *
  replace hR := Lib.hid hR
  go_enter Try.func10, Try.ntmps10
  go_wp2_with fail
  refine (HK.out _).mono ?_
  rintro e w' ⟨he, hw⟩
  subst he
  subst hw
  dsimp only
  go_wp2_with fail
  have hb1 : Below w.heap.size w (w.alloc (.cells #[.bool pd, .string nm] 81)) := (Below.refl _ w).alloc (Nat.le_refl _) _
  have hsc : (w.alloc (.cells #[.bool pd, .string nm] 81)).cell? ⟨w.heap.size, 0, none⟩ = some (.bool pd) ∧ (w.alloc (.cells #[.bool pd, .string nm] 81)).cell? ⟨w.heap.size, 1, none⟩ = some (.string nm) := ⟨by simp, by simp⟩
  generalize w.alloc (.cells #[.bool pd, .string nm] 81) = w1 at *
  have h1 := H.out.below hb1
  obtain ⟨d0, d1⟩ := hsc
  obtain ⟨_, d4, _⟩ := h1.cells
  have HC := Lib.hid (fun (wx : World) (hx : Below w1.heap.size w1 wx) => contains_any (.slice A op.length c) op pd nm wx ((h1.o.rowC.below hx).more hx.size) (by omega))
  have H1 := Lib.hid h1
  clear h1 c4 c6
  go_region_with (go_at_call 31; refine (HC.out _ ((Below.refl _ w1).drew)).mono ?_; rintro e wx ⟨bb, rfl, hbb, hbx⟩)
  all_goals
    have hb2 : Below w.heap.size w wx := hb1.trans ((((Below.refl _ w1).drew).trans hbx).mono hb1.size)
    have h2 := H.out.below hb2
    obtain ⟨_, d4', _, d6', fz⟩ := h2.cells
    have f6 := fz 6
    have f4 := fz 4
    have d0' := (hbx.cell (lt_of_cell (w := w1.drew) d0)).trans d0
    have d1' := (hbx.cell (lt_of_cell (w := w1.drew) d1)).trans d1
    have hhs : hasS op (pd, nm) = bb := by
      rw [Bool.eq_iff_iff, hasS_iff, hbb]
    have HW : R = if bb = true then (0, op, ac ++ [(kp, nm, dt)], size + dt.size) else if 8 ≤ op.length then (4, op, ac, size) else (0, op ++ [(pd, nm)], ac ++ [(ko, nm, ⟨#[]⟩)] ++ [(kp, nm, dt)], size + dt.size) := by
      obtain ⟨hto, hd⟩ := HT.out
      rw [← hR.out]
      unfold wrS
      rw [if_neg (by omega), if_neg (by omega), if_neg (by omega), hpd, hhs, hkO, hkP]
    clear hhs hbb d0 d1 d4 fz
    cases bb
    · rw [if_neg (by decide)] at HW
      by_cases h8 : 8 ≤ op.length
      · rw [if_pos h8] at HW
        replace HW := Lib.hid HW
        have H2 := Lib.hid (And.intro h2 hb2)
        have h8' : (8 : Int) ≤ (op.length : Int) := by omega
        clear h2 hb2 hbx d0' d1'
        go_wp2_with fail
        go_ret
        rw [HW.out]
        exact ⟨rfl, _, _, H2.out.1, Goes.of_below H2.out.2⟩
      · rw [if_neg h8] at HW
        replace HW := Lib.hid HW
        have hgrow' : OwnZ wx.drew lo 81 2 (.slice A op.length c) op.length (op.flatMap strC) := h2.o.same (fun _ _ => rfl)
        have h2d : PW lo wx.drew g b1 b2 n1 n2 env clock (.slice A op.length c) va files cmds op ac size := h2.keep rfl rfl rfl (fun _ _ => rfl) (fun _ _ => rfl)
        have H2 := Lib.hid (And.intro h2d hb2.drew)
        have h8' : ¬ (8 : Int) ≤ (op.length : Int) := by omega
        have hlx : lo ≤ wx.heap.size := Nat.le_trans hlo hb2.size
        have hgl := h2.glt
        have hng : some g ≠ (Value.slice A op.length c).ownBlock := fun e => (h2.apart.2.2.1 g e.symm).1 rfl
        have hd2 := h2.hd
        clear h2 h2d hb2 hbx
        go_wp2_with fail
        go_region_law (refine step_appendZ (w := wx.drew) (us := #[.bool pd, .string nm]) 73 81 (.tmp 63) (.tmp 65) rfl rfl lo Try.underlying73 stream_info rfl (by decide) rfl hgrow' rfl rfl rfl (by decide) (by intro u hu; simp only [List.mem_cons, List.not_mem_nil, or_false] at hu; rcases hu with rfl | rfl <;> rfl) (by unfold maxLen; omega) (by omega) hlx ?_; intro g' cap w' hown' hgr hloc; have hdw := (hgr.block g hgl hng).trans hd2; have fw := frozen_of_row w' g 4 _ _ hdw; have cw := (hd_cells hdw).2.1)
        all_goals
          obtain ⟨h3, g3⟩ := PW.opened (s := (pd, nm)) H2.out.1 hown' hgr hloc
          clear hown' hgr hloc hdw fw cw f4 f6 d4' d6' d0' d1'
          generalize w'.setCell ⟨g, 4, none⟩ (.slice (some ⟨g', 0, none⟩) (op.length + 1) cap) = w3 at *
          have hl3 : lo ≤ w3.heap.size := Nat.le_trans hlx g3.1.size
          have HD := do_stand h3 hl3 (by omega) ko nm ⟨#[]⟩
          have G3 := Lib.hid ((Goes.of_below H2.out.2).trans g3)
          replace HD := Lib.hid HD
          clear h3 g3 hgrow' hd2 hng hgl
          go_wp2_with fail
          refine HD.out.mono ?_
          rintro e w4 ⟨rfl, vo4, va4, h4, g4⟩
          obtain ⟨_, _, _, e6, fz4⟩ := h4.cells
          have f6 := fz4 6
          have hsz := Lib.hid (h4.sized (size + dt.size))
          have hl4 : lo ≤ w4.heap.size := Nat.le_trans hl3 g4.1.size
          have G4 := Lib.hid (G3.out.trans g4)
          clear h4 g4 fz4
          go_wp2_with fail
          have HD5 := do_stand hsz.out.1 (Nat.le_trans hl4 hsz.out.2.1.size) (by simp; omega) kp nm dt
          refine HD5.mono ?_
          rintro e w5 ⟨rfl, vo5, va5, h5, g5⟩
          go_wp2_with fail
          go_ret
          rw [HW.out]
          exact ⟨rfl, vo5, va5, h5, (G4.out.trans hsz.out.2).trans g5⟩
    · rw [if_pos rfl] at HW
      replace HW := Lib.hid HW
      have hsz := Lib.hid (h2.sized (size + dt.size))
      have H2 := Lib.hid (And.intro h2 hb2)
      clear h2 hb2 hbx d0' d1' d4'
      go_wp2_with fail
      have HD := do_stand hsz.out.1 (by have := hsz.out.2.1.size; have := H2.out.2.size; omega) (by omega) kp nm dt
      refine HD.mono ?_
      rintro e w3 ⟨rfl, vo', va', h3, g3⟩
      go_wp2_with fail
      go_ret
      rw [HW.out]
      exact ⟨rfl, vo', va', h3, ((Goes.of_below H2.out.2).trans hsz.out.2).trans g3⟩
end

end Go.Proofs.Yticinbkgmfoeoaa
