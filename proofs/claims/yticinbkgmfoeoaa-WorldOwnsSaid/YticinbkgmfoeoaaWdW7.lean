/- What a file has; what a command answers: walked. -/
import Derived.Test.YticinbkgmfoeoaaWdW6
namespace Go.Proofs.Yticinbkgmfoeoaa
open Go.RowKit
set_option linter.unusedVariables false

theorem zero_strs (w : World) : (zeroValue 23).run Try.prog w = .ok (.slice none 0 0) w := by kernel_rfl
theorem zero_cmds (w : World) : (zeroValue 27).run Try.prog w = .ok (.slice none 0 0) w := by kernel_rfl
theorem str_one (l : List ByteArray) : ∀ u ∈ l.map Value.string, u.oneCell' = true := by
  intro u hu
  obtain ⟨x, _, rfl⟩ := List.mem_map.1 hu
  rfl
section
variable {lo : Nat} {w w' : World} {g b1 b2 n1 n2 : Nat} {env clock vo va : Value} {files cmds : ByteArray → Option Value} {op : List ST} {ac : List AT} {size : Int}
set_option maxHeartbeats 4000000 in
theorem input_any (h : PW lo w g b1 b2 n1 n2 env clock vo va files cmds op ac size) (nm : ByteArray) (hs : nm.size ≤ maxLen) (l : List ByteArray) (hl : RowT w 9 1 ((files nm).getD (.slice none 0 0)) l.length (l.map Value.string)) (hn : l.length ≤ 8796093022208) :
    Calls Try.prog 21 #[.pointer (some ⟨g, 0, none⟩), .string nm] w fun e w' => ∃ v, e = .returned (.tuple #[v, .bool (files nm).isSome]) ∧ w'.ownsRow w.heap.size 9 1 v l.length (l.map Value.string) ∧ Below w.heap.size w w' := by
  obtain ⟨⟨c0, _⟩, _⟩ := h.cells
  have hf := h.f
  have HC := Lib.hid (clone_str ((files nm).getD (.slice none 0 0)) l.length (l.map Value.string) w hl.1 hn (str_one l))
  obtain ⟨_, A, c, hv, _⟩ := hl.1
  have HV := Lib.hid hv
  clear h hl hv
  go_enter Try.func21, Try.ntmps21
  go_wp2_with (at_lookup; refine wpList_lookF_ok _ rfl _ _ 69 rfl 9 23 Try.underlying9 Try.underlying69 (zero_strs _) b1 n1 files rfl hf nm rfl hs ?_; rw [HV.out])
  rw [← HV.out]
  refine HC.out.mono ?_
  rintro e w1 ⟨v, rfl, hown, hb⟩
  obtain ⟨A', c', rfl⟩ := own_shape hown
  go_wp2_with fail
  go_ret2
  exact ⟨_, rfl, hown, hb⟩

/-- A command of the script: its line, its chunks as they lie, its status. -/
abbrev CT := ByteArray × Value × Int
def cmdC (c : CT) : List Value := [.string c.1, c.2.1, .int .i64 c.2.2]
theorem cmdC_len (l : List CT) : (l.flatMap cmdC).length = l.length * 3 := by
  induction l with
  | nil => rfl
  | cons x l ih => rw [List.flatMap_cons, List.length_append, ih, List.length_cons]; simp [cmdC]; omega
/-- The commands' table turns. -/
theorem PW.commanded (h : PW lo w g b1 b2 n1 n2 env clock vo va files cmds op ac size) {cmds' : ByteArray → Option Value} {n2' : Nat} (hm : MapF Try.prog 9 w' b2 n2' cmds') (hg : w.grownBy w' (some b2)) :
    PW lo w' g b1 b2 n1 n2' env clock vo va files cmds' op ac size ∧ Goes w g b2 vo va w' vo va := by
  obtain ⟨p1, p2, p3, p4, p5⟩ := h.apart
  refine ⟨⟨(hg.block g h.glt (by simp; exact p2)).trans h.hd, h.f.same (hg.block b1 h.f.lt (by simp; exact h.ne)), hm, h.ne, h.o.same (fun j hj => hg.block j (h.o.lt hj).2 (by simp; exact (p3 j hj).2.2)), own_same h.a (fun j hj => hg.block j (h.a.lt j hj).2 (by simp; exact (p4 j hj).2.2))⟩, (Turn.of_grown hg).mono (fun j e => .inr (.inl (by cases e; rfl))), fun j hj => .inl hj⟩
set_option maxHeartbeats 4000000 in
theorem next_none (h : PW lo w g b1 b2 n1 n2 env clock vo va files cmds op ac size) (nm : ByteArray) (hs : nm.size ≤ maxLen) (A : Option Addr) (c : Nat) (hl : (cmds nm).getD (.slice none 0 0) = .slice A 0 c) :
    Calls Try.prog 41 #[.pointer (some ⟨g, 0, none⟩), .string nm] w fun e w' => e = .returned (.agg #[.string ⟨#[]⟩, .slice none 0 0, .int .i64 127]) ∧ Below w.heap.size w w' := by
  obtain ⟨⟨_, c1, _⟩, _⟩ := h.cells
  have hf := h.c
  have hgl := h.glt
  have hb := h.c.lt
  have HV := Lib.hid hl
  have hb0 : Below w.heap.size w (w.alloc (.cells #[.string ⟨#[]⟩, .slice none 0 0, .int .i64 0] 59)) := (Below.refl _ w).alloc (Nat.le_refl _) _
  have hf2 := hf.same (hb0.block b2 hb)
  have HB := Lib.hid hb0
  clear h hl hb0 hf
  go_enter Try.func41, Try.ntmps41
  go_wp2_with (at_lookup; refine wpList_lookF _ rfl _ _ 70 rfl 9 27 Try.underlying9 Try.underlying70 (zero_cmds _) b2 n2 cmds rfl hf2 nm rfl hs ?_; rw [HV.out])
  refine bodyPost_ret (results_cell_row rfl _ _ w.heap.size 59 #[.string ⟨#[]⟩, .slice none 0 0, .int .i64 127] (0, 0) _ rfl (heap_alloc_new _ _) Try.underlying59 rfl (by kernel_rfl)) rfl ?_
  exact ⟨rfl, (Below.refl _ w).alloc (Nat.le_refl _) _⟩
/-- Three cells of a new block are written. -/
theorem cells3 {w1 : World} {B : Nat} {e : TypeId} {x0 x1 x2 y0 y1 y2 : Value} (h : w1.heap[B]? = some (.cells #[x0, x1, x2] e (0, 0))) :
    (((w1.setCell ⟨B, 0, none⟩ y0).setCell ⟨B, 1, none⟩ y1).setCell ⟨B, 2, none⟩ y2).heap[B]? = some (.cells #[y0, y1, y2] e (0, 0)) ∧
      ∀ k, k ≠ B → (((w1.setCell ⟨B, 0, none⟩ y0).setCell ⟨B, 1, none⟩ y1).setCell ⟨B, 2, none⟩ y2).heap[k]? = w1.heap[k]? := by
  refine ⟨?_, fun k hk => ?_⟩
  · rw [heap_setCell_same _ _ _ _ _ _ (heap_setCell_same _ _ _ _ _ _ (heap_setCell_same _ _ _ _ _ _ h))]
    rfl
  · rw [heap_setCell_other _ _ _ _ hk, heap_setCell_other _ _ _ _ hk, heap_setCell_other _ _ _ _ hk]
theorem next_end {w0 w1 : World} {cmds' : ByteArray → Option Value} {n2' : Nat} {v' : Value} {n : Nat} {xs : List Value} {x0 x1 x2 y0 y1 y2 : Value}
    (hp : PW lo w g b1 b2 n1 n2 env clock vo va files cmds op ac size) (hb0 : Below w.heap.size w w0) (hg1 : w0.drew.grownBy w1 (some b2)) (hPW1 : PW lo w1 g b1 b2 n1 n2' env clock vo va files cmds' op ac size)
    (hrt : RowT w 59 3 v' n xs) (hw1h : w1.heap[w.heap.size]? = some (.cells #[x0, x1, x2] 59 (0, 0))) :
    PW lo (((w1.setCell ⟨w.heap.size, 0, none⟩ y0).setCell ⟨w.heap.size, 1, none⟩ y1).setCell ⟨w.heap.size, 2, none⟩ y2) g b1 b2 n1 n2' env clock vo va files cmds' op ac size ∧
      Goes w g b2 vo va (((w1.setCell ⟨w.heap.size, 0, none⟩ y0).setCell ⟨w.heap.size, 1, none⟩ y1).setCell ⟨w.heap.size, 2, none⟩ y2) vo va ∧
      RowT (((w1.setCell ⟨w.heap.size, 0, none⟩ y0).setCell ⟨w.heap.size, 1, none⟩ y1).setCell ⟨w.heap.size, 2, none⟩ y2) 59 3 v' n xs ∧
      (((w1.setCell ⟨w.heap.size, 0, none⟩ y0).setCell ⟨w.heap.size, 1, none⟩ y1).setCell ⟨w.heap.size, 2, none⟩ y2).heap[w.heap.size]? = some (.cells #[y0, y1, y2] 59 (0, 0)) := by
  obtain ⟨k1, k2⟩ := cells3 (y0 := y0) (y1 := y1) (y2 := y2) hw1h
  have hsz : w1.heap.size ≤ (((w1.setCell ⟨w.heap.size, 0, none⟩ y0).setCell ⟨w.heap.size, 1, none⟩ y1).setCell ⟨w.heap.size, 2, none⟩ y2).heap.size := by simp [World.setCell]
  have ho : (((w1.setCell ⟨w.heap.size, 0, none⟩ y0).setCell ⟨w.heap.size, 1, none⟩ y1).setCell ⟨w.heap.size, 2, none⟩ y2).os = w1.os ∧ (((w1.setCell ⟨w.heap.size, 0, none⟩ y0).setCell ⟨w.heap.size, 1, none⟩ y1).setCell ⟨w.heap.size, 2, none⟩ y2).tape = w1.tape ∧ (((w1.setCell ⟨w.heap.size, 0, none⟩ y0).setCell ⟨w.heap.size, 1, none⟩ y1).setCell ⟨w.heap.size, 2, none⟩ y2).output = w1.output := ⟨rfl, rfl, rfl⟩
  generalize (((w1.setCell ⟨w.heap.size, 0, none⟩ y0).setCell ⟨w.heap.size, 1, none⟩ y1).setCell ⟨w.heap.size, 2, none⟩ y2) = w3 at *
  have ht : Turn w w3 (fun j => j = b2) := ⟨ho.1.trans (hg1.os.trans hb0.os), ho.2.1.trans (hg1.tape.trans hb0.tape), ho.2.2.trans (hg1.output.trans hb0.output), Nat.le_trans hb0.size (Nat.le_trans hg1.size hsz), fun k hk hn => by
    rw [k2 k (by omega), hg1.block k (Nat.lt_of_lt_of_le hk hb0.size) (by simp; exact hn)]
    exact hb0.block k hk⟩
  refine ⟨hPW1.keep (k2 g (Nat.ne_of_lt hp.glt)) (k2 b1 (Nat.ne_of_lt hp.f.lt)) (k2 b2 (Nat.ne_of_lt hp.c.lt)) (fun j hj => k2 j (Nat.ne_of_lt (hp.o.lt hj).2)) (fun j hj => k2 j (Nat.ne_of_lt (hp.a.lt j hj).2)), ⟨ht.mono (fun j e => .inr (.inl e)), fun j hj => .inl hj⟩, ?_, k1⟩
  refine hrt.same ht.size (fun j cs hc => ht.block j (Array.getElem?_eq_some_iff.1 hc).1 ?_)
  rintro rfl
  obtain ⟨es, cc, ho⟩ := hp.c.obj
  rw [ho] at hc; cases hc
set_option maxHeartbeats 4000000 in
theorem next_some (h : PW lo w g b1 b2 n1 n2 env clock vo va files cmds op ac size) (nm : ByteArray) (hs : nm.size ≤ maxLen) (hn2 : n2 < maxLen) (x : CT) (l : List CT) (v : Value) (hv : cmds nm = some v) (hl : RowT w 59 3 v (l.length + 1) ((x :: l).flatMap cmdC)) (hln : l.length ≤ 2932031007402) (y1 : Option Addr) (y2 y3 : Nat) (hy : x.2.1 = .slice y1 y2 y3) :
    Calls Try.prog 41 #[.pointer (some ⟨g, 0, none⟩), .string nm] w fun e w' => e = .returned (.agg (cmdC x).toArray) ∧ ∃ v' n2', PW lo w' g b1 b2 n1 n2' env clock vo va files (upd cmds nm v') op ac size ∧ n2' ≤ n2 + 1 ∧ Goes w g b2 vo va w' vo va ∧ RowT w' 59 3 v' l.length (l.flatMap cmdC) := by
  obtain ⟨⟨_, c1, _⟩, _⟩ := h.cells
  have hf := h.c
  have hgl := h.glt
  have hb := h.c.lt
  obtain ⟨x1, x2, x3⟩ := x
  dsimp only at hy
  subst hy
  obtain ⟨⟨hlen, A, c, rfl, hA, hnc, h4⟩, hty⟩ := id hl
  cases A with
  | none => exact absurd (hA rfl).1 (by omega)
  | some a =>
  obtain ⟨b, off, rfl, hbb, hc⟩ := h4 a rfl
  have d0 : w.cell? ⟨b, off, none⟩ = some (.string x1) := hc 0 _ rfl
  have d1 : w.cell? ⟨b, off + 1, none⟩ = some (.slice y1 y2 y3) := hc 1 _ rfl
  have d2 : w.cell? ⟨b, off + 2, none⟩ = some (.int .i64 x3) := hc 2 _ rfl
  have hb0 : Below w.heap.size w (w.alloc (.cells #[.string ⟨#[]⟩, .slice none 0 0, .int .i64 0] 59)) := (Below.refl _ w).alloc (Nat.le_refl _) _
  have hf2 := hf.same (hb0.block b2 hb)
  have HV := Lib.hid (show (cmds nm).getD (.slice none 0 0) = .slice (some ⟨b, off, none⟩) (l.length + 1) c by rw [hv]; rfl)
  have H := Lib.hid (And.intro h (And.intro hl (And.intro hv (And.intro hc hty))))
  have HB := Lib.hid hb0
  have hrest : ∃ y4 y6, RowT w 59 3 (.slice (some ⟨b, y4, none⟩) l.length y6) l.length (l.flatMap cmdC) ∧ ((c = 1 ∧ y4 = off ∧ y6 = 0) ∨ (c ≠ 1 ∧ y4 = off + 3 ∧ y6 = c - 1)) := by
    have hcell : ∀ j u, (l.flatMap cmdC)[j]? = some u → w.cell? ⟨b, off + 3 + j, none⟩ = some u := fun j u hj => by
      have := hc (j + 3) u (by rw [List.flatMap_cons, List.getElem?_append_right (by simp [cmdC])]; simpa [cmdC] using hj)
      rw [show off + 3 + j = off + (j + 3) by omega]
      exact this
    obtain ⟨cs, hcs⟩ := hty b off _ c rfl
    by_cases h1 : c = 1
    · have hl0 : l = [] := List.eq_nil_of_length_eq_zero (by omega)
      subst hl0
      exact ⟨off, 0, ⟨⟨rfl, _, _, rfl, (fun e => by cases e), by simp, fun a e => by cases e; exact ⟨b, off, rfl, hbb, fun j u hj => by simp at hj⟩⟩, fun b' off' n' c' e => by cases e; exact ⟨cs, hcs⟩⟩, .inl ⟨h1, rfl, rfl⟩⟩
    · exact ⟨off + 3, c - 1, ⟨⟨cmdC_len l, _, _, rfl, (fun e => by cases e), by omega, fun a e => by cases e; exact ⟨b, off + 3, rfl, hbb, hcell⟩⟩, fun b' off' n' c' e => by cases e; exact ⟨cs, hcs⟩⟩, .inr ⟨h1, rfl, rfl⟩⟩
  obtain ⟨y4, y6, hrt, hy⟩ := hrest
  obtain ⟨w1, hrun, hm1, hg1⟩ := run_storeF (w := (w.alloc (.cells #[.string ⟨#[]⟩, .slice none 0 0, .int .i64 0] 59)).drew) 70 9 27 Try.underlying9 Try.underlying70 b2 n2 cmds (hf2.same rfl) hn2 nm hs (.slice (some ⟨b, y4, none⟩) l.length y6)
  have hm2 : (w.alloc (.cells #[.string ⟨#[]⟩, .slice none 0 0, .int .i64 0] 59)).heap[w.heap.size]? = some (.cells #[.string ⟨#[]⟩, .slice none 0 0, .int .i64 0] 59 (0, 0)) := heap_alloc_new _ _
  have hbne : b ≠ b2 := by
    rintro rfl
    obtain ⟨cs, hcs⟩ := hty b off _ c rfl
    obtain ⟨es, cc, ho⟩ := hf.obj
    rw [ho] at hcs; cases hcs
  have hw1h : w1.heap[w.heap.size]? = some (.cells #[.string ⟨#[]⟩, .slice none 0 0, .int .i64 0] 59 (0, 0)) := (hg1.block w.heap.size (Array.getElem?_eq_some_iff.1 hm2).1 (by simp; omega)).trans hm2
  have hPW0 := h.below hb0
  have hPW1 := (hPW0.keep (w' := (w.alloc (.cells #[.string ⟨#[]⟩, .slice none 0 0, .int .i64 0] 59)).drew) rfl rfl rfl (fun _ _ => rfl) (fun _ _ => rfl)).commanded hm1 hg1
  have k0 := (hg1.cell_far ⟨b, off, none⟩ (Nat.lt_of_lt_of_le hbb hb0.size) (by simp; exact hbne)).trans (hb0.cell (p := ⟨b, off, none⟩) hbb |>.trans d0)
  have k1 := (hg1.cell_far ⟨b, off + 1, none⟩ (Nat.lt_of_lt_of_le hbb hb0.size) (by simp; exact hbne)).trans (hb0.cell (p := ⟨b, off + 1, none⟩) hbb |>.trans d1)
  have k2 := (hg1.cell_far ⟨b, off + 2, none⟩ (Nat.lt_of_lt_of_le hbb hb0.size) (by simp; exact hbne)).trans (hb0.cell (p := ⟨b, off + 2, none⟩) hbb |>.trans d2)
  have HR := Lib.hid (And.intro hrt (And.intro hPW1 (And.intro hb0 (And.intro hw1h (And.intro hg1 hb)))))
  have c1' : (w.alloc (.cells #[.string ⟨#[]⟩, .slice none 0 0, .int .i64 0] 59)).cell? ⟨g, 1, none⟩ = some (.map (some b2)) := (hb0.cell (p := ⟨g, 1, none⟩) hgl).trans c1
  clear h hl hv h4 hA hlen hc hty hb0 hf hrt hPW1 hPW0 hg1 hm1 hm2 hw1h
  have g1 : ((l.length : Int) + 1 == 0) = false := by rw [beq_eq_false_iff_ne]; omega
  have g3 : (1 : Int) ≤ (l.length : Int) + 1 := by omega
  have g2 : (0 : Int) < (l.length : Int) + 1 := by omega
  go_enter Try.func41, Try.ntmps41
  go_wp2_with (at_lookup; refine wpList_lookF _ rfl _ _ 70 rfl 9 27 Try.underlying9 Try.underlying70 (zero_cmds _) b2 n2 cmds rfl hf2 nm rfl hs ?_; rw [HV.out])
  generalize w.alloc (.cells #[.string ⟨#[]⟩, .slice none 0 0, .int .i64 0] 59) = w0 at *
  rcases hy with ⟨h1, rfl, rfl⟩ | ⟨h1, rfl, rfl⟩
  · subst h1
    have hl0 : l = [] := List.eq_nil_of_length_eq_zero (by omega)
    subst hl0
    simp only [List.length_nil] at *
    go_region_with (fail)
    have hw1h := HR.out.2.2.2.1
    have s0 : w1.cell? ⟨w.heap.size, 0, none⟩ = some (.string ⟨#[]⟩) := by simp [World.cell?, hw1h]
    have s1 : w1.cell? ⟨w.heap.size, 1, none⟩ = some (.slice none 0 0) := by simp [World.cell?, hw1h]
    have s2 : w1.cell? ⟨w.heap.size, 2, none⟩ = some (.int .i64 0) := by simp [World.cell?, hw1h]
    have fz := fun j => frozen_of_row w1 w.heap.size j _ _ hw1h
    have f0 := fz 0
    have f1 := fz 1
    have f2 := fz 2
    clear hw1h fz
    go_wp2_with fail
    obtain ⟨hrt, ⟨hPW1, _⟩, hb0, hw1h, hg1, _⟩ := HR.out
    obtain ⟨e1, e2, e3, e4⟩ := next_end (y0 := .string x1) (y1 := .slice y1 y2 y3) (y2 := .int .i64 x3) H.out.1 hb0 hg1 hPW1 hrt hw1h
    refine bodyPost_ret (results_cell_row rfl _ _ w.heap.size 59 _ (0, 0) _ rfl e4 Try.underlying59 rfl (by kernel_rfl)) rfl ?_
    exact ⟨rfl, _, _, e1, Nat.le_refl _, e2, e3⟩
  · have g4 : (c : Int) - 1 ≠ 0 := by omega
    go_region_with (fail)
    have hw1h := HR.out.2.2.2.1
    have s0 : w1.cell? ⟨w.heap.size, 0, none⟩ = some (.string ⟨#[]⟩) := by simp [World.cell?, hw1h]
    have s1 : w1.cell? ⟨w.heap.size, 1, none⟩ = some (.slice none 0 0) := by simp [World.cell?, hw1h]
    have s2 : w1.cell? ⟨w.heap.size, 2, none⟩ = some (.int .i64 0) := by simp [World.cell?, hw1h]
    have fz := fun j => frozen_of_row w1 w.heap.size j _ _ hw1h
    have f0 := fz 0
    have f1 := fz 1
    have f2 := fz 2
    clear hw1h fz
    go_wp2_with fail
    obtain ⟨hrt, ⟨hPW1, _⟩, hb0, hw1h, hg1, _⟩ := HR.out
    obtain ⟨e1, e2, e3, e4⟩ := next_end (y0 := .string x1) (y1 := .slice y1 y2 y3) (y2 := .int .i64 x3) H.out.1 hb0 hg1 hPW1 hrt hw1h
    refine bodyPost_ret (results_cell_row rfl _ _ w.heap.size 59 _ (0, 0) _ rfl e4 Try.underlying59 rfl (by kernel_rfl)) rfl ?_
    exact ⟨rfl, _, _, e1, Nat.le_refl _, e2, e3⟩
end

end Go.Proofs.Yticinbkgmfoeoaa
