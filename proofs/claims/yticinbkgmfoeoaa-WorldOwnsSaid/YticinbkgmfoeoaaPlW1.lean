/- The program's world and the document's, side by side. -/
import Derived.Test.YticinbkgmfoeoaaRfW5
namespace Go.Proofs.Yticinbkgmfoeoaa
open Go.RowKit
set_option linter.unusedVariables false

theorem RowT.stood {w w' : World} {e : TypeId} {s : Nat} {v : Value} {n : Nat} {xs : List Value} (h : RowT w e s v n xs) (hs : w.heap.size ≤ w'.heap.size) (hk : ∀ j, v.ownBlock = some j → w'.heap[j]? = w.heap[j]?) : RowT w' e s v n xs := by
  refine ⟨(h.1.same (fun A c b off e1 e2 => hk b (by rw [e1, e2]; rfl))).more hs, fun b off n' c hv => ?_⟩
  obtain ⟨cs, hc⟩ := h.2 b off n' c hv
  exact ⟨cs, (hk b (by rw [hv]; rfl)).trans hc⟩
theorem RowT.own_lt {w : World} {e : TypeId} {s : Nat} {v : Value} {n : Nat} {xs : List Value} (h : RowT w e s v n xs) {j : Nat} (hj : v.ownBlock = some j) : j < w.heap.size := by
  obtain ⟨_, A, c, rfl, _, _, h4⟩ := h.1
  cases A with
  | none => cases hj
  | some a =>
    obtain ⟨b, off, rfl, hb, _⟩ := h4 a rfl
    cases hj
    exact hb

/-- The clock behind so many looks at it. -/
def clkL (K : List Int) (t : Nat) : List Int := K.drop (min t (K.length - 1))
theorem clkL_zero (K : List Int) : clkL K 0 = K := by simp [clkL]
theorem clkL_len (K : List Int) (t : Nat) : (clkL K t).length ≤ K.length := by simp [clkL]
theorem clkL_head (K : List Int) (t : Nat) : (clkL K t).headD 0 = tickK K t := by
  unfold clkL tickK
  cases K with
  | nil => simp
  | cons x K =>
    rw [if_neg (by simp), List.headD_eq_head?_getD, List.head?_drop, List.getD_eq_getElem?_getD]
theorem tickL_drop (K : List Int) : tickL K = K.drop (min 1 (K.length - 1)) := by
  cases K with
  | nil => rfl
  | cons x K => cases K <;> rfl
theorem clkL_tick (K : List Int) (t : Nat) : tickL (clkL K t) = clkL K (if K = [] then t else t + 1) := by
  rw [tickL_drop]
  unfold clkL
  rw [List.drop_drop, List.length_drop]
  by_cases h : K = []
  · subst h; simp
  · rw [if_neg h]
    have : 0 < K.length := List.length_pos_iff.2 h
    congr 1
    omega

/-- Both worlds: what the program's means (n2, F, C, opP, acP, szP), what the document's holds (asked, t, op, ac, size); the blocks of X stand as they stood in w1. -/
def BW (W0 : World) (lo g m : Nat) (fv cv sv ev kv : Value) (E : List (ByteArray × ByteArray)) (L : ByteArray → Option (List ByteArray)) (X : Nat → Prop) (w1 : World) (n2 : Nat) (F : ByteArray → List CM) (C : List Int) (opP : List ST) (acP : List AT) (szP : Int) (asked : List ByteArray) (t : Nat) (op : List ST) (ac : List AT) (size : Int) (w : World) : Prop :=
  ∃ (D : Nat → Prop) (qa qo qc : Value), MWD D lo g n2 E L F C opP acP szP w ∧ RW w m fv cv sv ev kv qa qo qc asked (t : Int) op ac size ∧ D m ∧ (∀ j, (qa.ownBlock = some j ∨ qo.ownBlock = some j ∨ qc.ownBlock = some j) → D j) ∧ (∀ j, X j → D j ∧ j ≠ m ∧ j < w.heap.size ∧ w.heap[j]? = w1.heap[j]?) ∧ Below W0.heap.size W0 w ∧ W0.heap.size ≤ lo ∧ W0.heap.size ≤ m

section
variable {W0 w w' w1 : World} {lo g m : Nat} {fv cv sv ev kv : Value} {E : List (ByteArray × ByteArray)} {L : ByteArray → Option (List ByteArray)} {X : Nat → Prop} {n2 : Nat} {F : ByteArray → List CM} {C : List Int} {opP : List ST} {acP : List AT} {szP : Int} {asked : List ByteArray} {t : Nat} {op : List ST} {ac : List AT} {size : Int}
  {n2' : Nat} {F' : ByteArray → List CM} {C' : List Int} {opP' : List ST} {acP' : List AT} {szP' : Int} {asked' : List ByteArray} {t' : Nat} {op' : List ST} {ac' : List AT} {size' : Int}
/-- The program's world is called. -/
theorem BW.open (h : BW W0 lo g m fv cv sv ev kv E L X w1 n2 F C opP acP szP asked t op ac size w) : ∃ D : Nat → Prop, MWD D lo g n2 E L F C opP acP szP w ∧
    ∀ {n2' : Nat} {F' : ByteArray → List CM} {C' : List Int} {opP' : List ST} {acP' : List AT} {szP' : Int} {w' : World}, MWD D lo g n2' E L F' C' opP' acP' szP' w' → Below lo w w' → Stood D w w' → BW W0 lo g m fv cv sv ev kv E L X w1 n2' F' C' opP' acP' szP' asked t op ac size w' := by
  obtain ⟨D, qa, qo, qc, hM, hR, hDm, hD, hX, hB, hl, hm⟩ := h
  refine ⟨D, hM, fun {_ _ _ _ _ _ w'} h2 h3 h4 => ?_⟩
  refine ⟨D, qa, qo, qc, h2, ⟨(h4 m hDm).trans hR.hd, hR.a.stood h3.size fun j hj => h4 j (hD j (.inl hj)), hR.o.stood h3.size fun j hj => h4 j (hD j (.inr (.inl hj))), hR.c.stood h3.size fun j hj => h4 j (hD j (.inr (.inr hj)))⟩, hDm, hD, fun j hj => ?_, hB.trans (h3.mono hl), hl, hm⟩
  obtain ⟨x1, x2, x3, x4⟩ := hX j hj
  exact ⟨x1, x2, Nat.lt_of_lt_of_le x3 h3.size, (h4 j x1).trans x4⟩
/-- The document's is. -/
theorem BW.openR (h : BW W0 lo g m fv cv sv ev kv E L X w1 n2 F C opP acP szP asked t op ac size w) : ∃ qa qo qc : Value, RW w m fv cv sv ev kv qa qo qc asked (t : Int) op ac size ∧ Below W0.heap.size W0 w ∧ W0.heap.size ≤ m ∧
    ∀ {asked' : List ByteArray} {t' : Nat} {op' : List ST} {ac' : List AT} {size' : Int} {w' : World}, RStd w m fv cv sv ev kv qa qo qc asked' (t' : Int) op' ac' size' w' → BW W0 lo g m fv cv sv ev kv E L X w1 n2 F C opP acP szP asked' t' op' ac' size' w' := by
  obtain ⟨D, qa, qo, qc, hM, hR, hDm, hD, hX, hB, hl, hm⟩ := h
  refine ⟨qa, qo, qc, hR, hB, hm, fun {_ _ _ _ _ w'} hS => ?_⟩
  obtain ⟨qa', qo', qc', hR', hT, hO⟩ := hS
  refine ⟨fun j => j = m ∨ (qa'.ownBlock = some j ∨ qo'.ownBlock = some j ∨ qc'.ownBlock = some j) ∨ X j, qa', qo', qc', hM.turn hR.hd (by decide) hDm hT fun j hj => ?_, hR', .inl rfl, fun j hj => .inr (.inl hj), fun j hj => ?_, below_turn hB hT hB.size (fun j e => by rw [e]; exact hm), hl, hm⟩
  · rcases hj with rfl | hj | hj
    · exact ⟨hR'.mlt, .inl hDm⟩
    · refine ⟨?_, ?_⟩
      · rcases hj with hj | hj | hj
        · exact hR'.a.own_lt hj
        · exact hR'.o.own_lt hj
        · exact hR'.c.own_lt hj
      · rcases hO j hj with h | h
        · exact .inl (hD j h)
        · exact .inr h
    · exact ⟨Nat.lt_of_lt_of_le (hX j hj).2.2.1 hT.size, .inl (hX j hj).1⟩
  · obtain ⟨x1, x2, x3, x4⟩ := hX j hj
    exact ⟨.inr (.inr hj), x2, Nat.lt_of_lt_of_le x3 hT.size, (hT.block j x3 (fun e => x2 e)).trans x4⟩
theorem BW.below (h : BW W0 lo g m fv cv sv ev kv E L X w1 n2 F C opP acP szP asked t op ac size w) (hb : Below w.heap.size w w') : BW W0 lo g m fv cv sv ev kv E L X w1 n2 F C opP acP szP asked t op ac size w' := by
  obtain ⟨D, qa, qo, qc, hM, hR, hDm, hD, hX, hB, hl, hm⟩ := h
  refine ⟨fun j => j = m ∨ (qa.ownBlock = some j ∨ qo.ownBlock = some j ∨ qc.ownBlock = some j) ∨ X j, qa, qo, qc, hM.below hb fun j hj => ?_, hR.below hb, .inl rfl, fun j hj => .inr (.inl hj), fun j hj => ?_, hB.trans (hb.mono hB.size), hl, hm⟩
  · rcases hj with rfl | hj | hj
    · exact ⟨(hR.below hb).mlt, .inl hDm⟩
    · refine ⟨?_, .inl (hD j hj)⟩
      rcases hj with hj | hj | hj
      · exact (hR.below hb).a.own_lt hj
      · exact (hR.below hb).o.own_lt hj
      · exact (hR.below hb).c.own_lt hj
    · exact ⟨Nat.lt_of_lt_of_le (hX j hj).2.2.1 hb.size, .inl (hX j hj).1⟩
  · obtain ⟨x1, x2, x3, x4⟩ := hX j hj
    exact ⟨.inr (.inr hj), x2, Nat.lt_of_lt_of_le x3 hb.size, (hb.block j x3).trans x4⟩
/-- A new block that shall stand. -/
theorem BW.fresh (h : BW W0 lo g m fv cv sv ev kv E L X w1 n2 F C opP acP szP asked t op ac size w) (hb : Below w.heap.size w w') {B : Nat} (h1 : w.heap.size ≤ B) (h2 : B < w'.heap.size) : BW W0 lo g m fv cv sv ev kv E L (fun j => j = B) w' n2 F C opP acP szP asked t op ac size w' := by
  obtain ⟨D, qa, qo, qc, hM, hR, hDm, hD, hX, hB, hl, hm⟩ := h
  refine ⟨fun j => j = m ∨ (qa.ownBlock = some j ∨ qo.ownBlock = some j ∨ qc.ownBlock = some j) ∨ j = B, qa, qo, qc, hM.below hb fun j hj => ?_, hR.below hb, .inl rfl, fun j hj => .inr (.inl hj), fun j hj => ?_, hB.trans (hb.mono hB.size), hl, hm⟩
  · rcases hj with rfl | hj | rfl
    · exact ⟨(hR.below hb).mlt, .inl hDm⟩
    · refine ⟨?_, .inl (hD j hj)⟩
      rcases hj with hj | hj | hj
      · exact (hR.below hb).a.own_lt hj
      · exact (hR.below hb).o.own_lt hj
      · exact (hR.below hb).c.own_lt hj
    · exact ⟨h2, .inr h1⟩
  · subst hj
    exact ⟨.inr (.inr rfl), (by have := hR.mlt; omega), h2, rfl⟩
theorem BW.forget (h : BW W0 lo g m fv cv sv ev kv E L X w1 n2 F C opP acP szP asked t op ac size w) : BW W0 lo g m fv cv sv ev kv E L (fun _ => False) W0 n2 F C opP acP szP asked t op ac size w := by
  obtain ⟨D, qa, qo, qc, hM, hR, hDm, hD, hX, hB, hl, hm⟩ := h
  exact ⟨D, qa, qo, qc, hM, hR, hDm, hD, fun j hj => hj.elim, hB, hl, hm⟩
theorem BW.stands (h : BW W0 lo g m fv cv sv ev kv E L X w1 n2 F C opP acP szP asked t op ac size w) {p : Addr} {v : Value} (hX : X p.block) (hc : w1.cell? p = some v) : w.cell? p = some v := by
  obtain ⟨D, qa, qo, qc, hM, hR, hDm, hD, hX2, hB, hl, hm⟩ := h
  exact (World.cell?_of_block (hX2 _ hX).2.2.2).trans hc
theorem BW.w0 (h : BW W0 lo g m fv cv sv ev kv E L X w1 n2 F C opP acP szP asked t op ac size w) : Below W0.heap.size W0 w := by
  obtain ⟨D, qa, qo, qc, hM, hR, hDm, hD, hX2, hB, hl, hm⟩ := h
  exact hB
end

/-! ### the lines of both -/
/-- Both worlds are alike. -/
def Even (W0 : World) (lo g m : Nat) (fv cv sv ev kv : Value) (fs : List FT) (CL : List CM) (sl : List ByteArray) (E : List (ByteArray × ByteArray)) (K : List Int) (X : Nat → Prop) (w1 : World) (n2 : Nat) (asked : List ByteArray) (t : Nat) (op : List ST) (ac : List AT) (size : Int) (w : World) : Prop :=
  BW W0 lo g m fv cv sv ev kv E (stdL (fileL fs) sl 2) X w1 n2 (fun nm => (cmdF CL nm).drop (cntA asked nm)) (clkL K t) op ac size asked t op ac size w
theorem tailF_asked (CL : List CM) (asked : List ByteArray) (nm : ByteArray) : tailF (fun x => (cmdF CL x).drop (cntA asked x)) nm = fun x => (cmdF CL x).drop (cntA (asked ++ [nm]) x) := by
  funext x
  unfold tailF
  rw [cntA_snoc]
  by_cases e : x = nm
  · subst e
    rw [if_pos rfl, if_pos rfl, List.tail_drop]
  · rw [if_neg e, if_neg (fun q => e q.symm), Nat.add_zero]
theorem file_len {fs : List FT} {b : Nat} (h : ∀ f ∈ fs, f.2.2.length ≤ b) (nm : ByteArray) : ((fileL fs nm).getD []).length ≤ b := by
  induction fs with
  | nil => simp [fileL]
  | cons f r ih =>
    unfold fileL
    by_cases e : nm = f.1
    · rw [if_pos e]; exact h f List.mem_cons_self
    · rw [if_neg e]; exact ih fun f hf => h f (List.mem_cons_of_mem _ hf)
theorem put_len {L : ByteArray → Option (List ByteArray)} {b : Nat} (h : ∀ nm, ((L nm).getD []).length ≤ b) (x : ByteArray) {sl : List ByteArray} (hs : sl.length ≤ b) (nm : ByteArray) : ((putL L x sl nm).getD []).length ≤ b := by
  unfold putL
  split
  · exact hs
  · exact h nm
theorem std_len {fs : List FT} {sl : List ByteArray} {b : Nat} (h : ∀ f ∈ fs, f.2.2.length ≤ b) (hs : sl.length ≤ b) (nm : ByteArray) : ((stdL (fileL fs) sl 2 nm).getD []).length ≤ b :=
  put_len (put_len (file_len h) _ hs) _ hs nm
theorem wr_small {op : List ST} {ac : List AT} {size : Int} (to : Int) (nm dt : ByteArray) (ho : op.length ≤ 8) (h0 : 0 ≤ size) (h1 : size ≤ 16384) : (wrS op ac size to nm dt).2.1.length ≤ 8 ∧ (wrS op ac size to nm dt).2.2.1.length ≤ ac.length + 2 ∧ 0 ≤ (wrS op ac size to nm dt).2.2.2 ∧ (wrS op ac size to nm dt).2.2.2 ≤ 16384 := by
  unfold wrS
  (repeat' split) <;> simp <;> omega
theorem next_small {CL : List CM} (h : ∀ y ∈ CL, y.2.1.length ≤ 8796093022208) (nm : ByteArray) (k : Nat) : (nextM ((cmdF CL nm).drop k)).2.1.length ≤ 8796093022208 := by
  cases e : (cmdF CL nm).drop k with
  | nil => simp [nextM]
  | cons y r =>
    have hy : y ∈ (cmdF CL nm).drop k := by rw [e]; exact List.mem_cons_self
    exact h y (List.mem_filter.1 (List.mem_of_mem_drop hy)).1
theorem cmd_small (CL : List CM) (nm : ByteArray) (k : Nat) : ((cmdF CL nm).drop k).length ≤ CL.length := by
  rw [List.length_drop]
  have := List.length_filter_le (fun y => decide (y.1 = nm)) CL
  unfold cmdF
  omega
/-- What holds behind a call on both. -/
def Evn (W0 : World) (lo g m : Nat) (fv cv sv ev kv : Value) (fs : List FT) (CL : List CM) (sl : List ByteArray) (E : List (ByteArray × ByteArray)) (K : List Int) (n2 : Nat) (asked : List ByteArray) (t : Nat) (ac : List AT) (e : Ending) (w : World) : Prop :=
  e = .returned (.bool true) ∧ ∃ n2' asked' t' op' ac' size', n2' ≤ n2 + 1 ∧ asked'.length ≤ asked.length + 1 ∧ t' ≤ t + 1 ∧ op'.length ≤ 8 ∧ ac'.length ≤ ac.length + 20 ∧ 0 ≤ size' ∧ size' ≤ 16384 ∧ Even W0 lo g m fv cv sv ev kv fs CL sl E K (fun _ => False) W0 n2' asked' t' op' ac' size' w
theorem op_box (w : World) (k to : Int) (nm dt : ByteArray) (T : TypeId) : (w.alloc (.cells #[.int .i64 k, .int .i64 to, .string nm, .string dt] T)).cell? ⟨w.heap.size, 0, none⟩ = some (.int .i64 k) ∧ (w.alloc (.cells #[.int .i64 k, .int .i64 to, .string nm, .string dt] T)).cell? ⟨w.heap.size, 1, none⟩ = some (.int .i64 to) ∧ (w.alloc (.cells #[.int .i64 k, .int .i64 to, .string nm, .string dt] T)).cell? ⟨w.heap.size, 2, none⟩ = some (.string nm) ∧ (w.alloc (.cells #[.int .i64 k, .int .i64 to, .string nm, .string dt] T)).cell? ⟨w.heap.size, 3, none⟩ = some (.string dt) :=
  ⟨by rw [World.cell?_alloc_new]; rfl, by rw [World.cell?_alloc_new]; rfl, by rw [World.cell?_alloc_new]; rfl, by rw [World.cell?_alloc_new]; rfl⟩
end Go.Proofs.Yticinbkgmfoeoaa
