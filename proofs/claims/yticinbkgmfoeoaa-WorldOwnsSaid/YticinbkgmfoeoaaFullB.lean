/- What WorldFull's second loop keeps; the ops that came in. -/
import Derived.Test.YticinbkgmfoeoaaFullA
import Derived.Test.YticinbkgmfoeoaaWdOp
namespace Go.Proofs.Yticinbkgmfoeoaa
open Go.ChangeShapes Go.WideShapes Go.RowKit Go.Deep
open Go.Joins (trod_struct4)
set_option linter.unusedVariables false

/-- Two rows of strings of the call's own, apart. -/
structure Sees (B : Nat) (w : World) (v1 v2 : Value) (l1 l2 : List ByteArray) : Prop where
  a : w.ownsRow B 9 1 v1 l1.length (l1.map Value.string)
  b : w.ownsRow B 9 1 v2 l2.length (l2.map Value.string)
  ne : ∀ j, v1.ownBlock = some j → v2.ownBlock ≠ some j
section
variable {B : Nat} {w w' : World} {v1 v2 v1' : Value} {l1 l2 l1' : List ByteArray}
theorem Sees.swap (h : Sees B w v1 v2 l1 l2) : Sees B w v2 v1 l2 l1 := ⟨h.b, h.a, fun j h1 h2 => h.ne j h2 h1⟩
theorem Sees.below (h : Sees B w v1 v2 l1 l2) (hb : Below w.heap.size w w') : Sees B w' v1 v2 l1 l2 :=
  ⟨own_same h.a (fun j hj => hb.block j (h.a.lt j hj).2), own_same h.b (fun j hj => hb.block j (h.b.lt j hj).2), h.ne⟩
theorem Sees.grown (h : Sees B w v1 v2 l1 l2) (ho : w'.ownsRow B 9 1 v1' l1'.length (l1'.map Value.string)) (hg : w.grownBy w' v1.ownBlock) (hl : v1'.ownBlock = v1.ownBlock ∨ v1'.ownBlock = some (w.heap.size + 1)) : Sees B w' v1' v2 l1' l2 := by
  refine ⟨ho, own_same h.b (fun j hj => hg.block j (h.b.lt j hj).2 (fun e => h.ne j e.symm hj)), fun j h1 h2 => ?_⟩
  rcases hl with e | e
  · exact h.ne j (by rw [← e, h1]) h2
  · rw [h1] at e
    cases e
    have := (h.b.lt _ h2).2
    omega
theorem Sees.fresh (h : Sees B w v1 v2 l1 l2) (ho : w'.ownsRow w.heap.size 9 1 v1' l1'.length (l1'.map Value.string)) (hb : Below w.heap.size w w') (hB : B ≤ w.heap.size) : Sees B w' v1' v2 l1' l2 := by
  refine ⟨own_more ho hB, own_same h.b (fun j hj => hb.block j (h.b.lt j hj).2), fun j h1 h2 => ?_⟩
  have := (ho.lt j h1).1
  have := (h.b.lt j h2).2
  omega
end
theorem runF_bytes (l : List AT) (j : Nat) : (runF (l.take j)).2.2 ≤ (runF l).2.2 := by
  have key : ∀ (m : List AT) (s : FS), s.2.2 ≤ (m.foldl stepF s).2.2 := by
    intro m
    induction m with
    | nil => intro s; exact Nat.le_refl _
    | cons a m ih =>
      intro s
      have h := ih (stepF s a)
      have h2 : (stepF s a).2.2 = s.2.2 + a.2.2.size := rfl
      rw [List.foldl_cons]
      omega
  have e : runF l = (l.drop j).foldl stepF (runF (l.take j)) := by
    unfold runF
    rw [← List.foldl_append, List.take_append_drop]
  rw [e]
  exact key _ _

/-! ### the calls of the script -/
abbrev OT := Int × Int × ByteArray × ByteArray
def opC (o : OT) : List Value := [.int .i64 o.1, .int .i64 o.2.1, .string o.2.2.1, .string o.2.2.2]
theorem opC_len (l : List OT) : (l.flatMap opC).length = l.length * 4 := flat_len (C := opC) (k := 4) (fun _ => rfl) l
theorem opC_at {l : List OT} {i : Nat} (h : i < l.length) : (l.flatMap opC)[i * 4]? = some (.int .i64 l[i].1) ∧ (l.flatMap opC)[i * 4 + 1]? = some (.int .i64 l[i].2.1) ∧ (l.flatMap opC)[i * 4 + 2]? = some (.string l[i].2.2.1) ∧ (l.flatMap opC)[i * 4 + 3]? = some (.string l[i].2.2.2) := by
  induction l generalizing i with
  | nil => simp at h
  | cons x l ih =>
    cases i with
    | zero => simp [opC]
    | succ i =>
      have h2 : i < l.length := by simpa using h
      rw [List.flatMap_cons, List.getElem?_append_right (by simp [opC]; omega), List.getElem?_append_right (by simp [opC]; omega), List.getElem?_append_right (by simp [opC]; omega), List.getElem?_append_right (by simp [opC]; omega)]
      have e0 : (i + 1) * 4 - (opC x).length = i * 4 := by simp [opC]; omega
      have e1 : (i + 1) * 4 + 1 - (opC x).length = i * 4 + 1 := by simp [opC]; omega
      have e2 : (i + 1) * 4 + 2 - (opC x).length = i * 4 + 2 := by simp [opC]; omega
      have e3 : (i + 1) * 4 + 3 - (opC x).length = i * 4 + 3 := by simp [opC]; omega
      rw [e0, e1, e2, e3]
      simpa using ih h2
theorem op_lies {w : World} {A : Option Addr} {c : Nat} {l : List OT} (h : RowA w 4 (.slice A l.length c) l.length (l.flatMap opC)) {i : Nat} (hi : i < l.length) :
    ∃ b off, A = some ⟨b, off, none⟩ ∧ w.cell? ⟨b, off + i * 4, none⟩ = some (.int .i64 l[i].1) ∧ w.cell? ⟨b, off + i * 4 + 1, none⟩ = some (.int .i64 l[i].2.1) ∧ w.cell? ⟨b, off + i * 4 + 2, none⟩ = some (.string l[i].2.2.1) ∧ w.cell? ⟨b, off + i * 4 + 3, none⟩ = some (.string l[i].2.2.2) := by
  obtain ⟨b, off, rfl, _, h2⟩ := h.at (by rw [opC_len]; omega)
  obtain ⟨e0, e1, e2, e3⟩ := opC_at hi
  exact ⟨b, off, rfl, h2 _ _ e0, h2 _ _ e1, h2 _ _ e2, h2 _ _ e3⟩
section
variable {H : Type} {enc : TypeId × Value → H} {W : World} {base : Nat} {spare : Nat → Bool} {held : Bool}
theorem c_op : Try.prog.cellsOf 43 = 4 := by kernel_rfl
theorem open_op {fuel : Nat} {cs : List Value} {y : DataW H × List MemPlace} (hcs : cs.length = 4) (hy : DataW.trod enc Try.prog W base spare held fuel 43 cs = some y) : ∃ z : OT, cs = opC z ∧ z.2.2.1.size ≤ maxLen ∧ z.2.2.2.size ≤ maxLen := by
  obtain ⟨a, b, c, d, rfl⟩ := lis4 hcs
  obtain ⟨y0, y1, y2, y3, m, rfl, _, h0, h1, h2, h3⟩ := trod_struct4 Try.underlying43 hy
  simp only [c_str, c_int, List.drop_zero, List.drop_succ_cons, List.take_succ_cons, List.take_zero] at h0 h1 h2 h3
  obtain ⟨k0, e0, rfl, wk0⟩ := DataW.trod_int Try.underlying3 h0
  obtain ⟨k1, e1, rfl, wk1⟩ := DataW.trod_int Try.underlying3 h1
  obtain ⟨s, e2, rfl, ws⟩ := DataW.trod_string Try.underlying9 h2
  obtain ⟨t, e3, rfl, wt⟩ := DataW.trod_string Try.underlying9 h3
  simp only [List.cons.injEq, and_true] at e0 e1 e2 e3
  subst e0 e1 e2 e3
  exact ⟨(k0, k1, s, t), rfl, ws, wt⟩
theorem open_ops {fuel : Nat} {v : Value} {x : DataW H × List MemPlace} (h : DataW.trod enc Try.prog W base spare held fuel 41 [v] = some x) (hz : Sized Try.prog 41 x.1) :
    ∃ l : List OT, RowA W 4 v l.length (l.flatMap opC) ∧ ∀ z ∈ l, z.2.2.1.size ≤ maxLen ∧ z.2.2.2.size ≤ maxLen := by
  obtain ⟨l, h1, _, h3⟩ := open_flatW Try.underlying41 opC 4 (fun _ => rfl) c_op (fun z => z.2.2.1.size ≤ maxLen ∧ z.2.2.2.size ≤ maxLen) (fun n cs y hcs hy _ => open_op hcs hy) h hz
  exact ⟨l, h1, h3⟩
end

end Go.Proofs.Yticinbkgmfoeoaa
