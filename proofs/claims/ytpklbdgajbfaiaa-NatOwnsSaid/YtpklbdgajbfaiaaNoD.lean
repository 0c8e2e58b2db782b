/- The six answers as they are written over and grown: what stands in memory. -/
import Derived.Test.YtpklbdgajbfaiaaNoC
namespace Go.Proofs.Ytpklbdgajbfaiaa
open Go.RowKit
set_option linter.unusedVariables false

/-- An answer in blocks of one colour. -/
def Col (q lo : Nat) (col : Nat → Nat) (w : World) (A : Option Addr) (c : Nat) (l : List Nat) : Prop :=
  Fr lo w A c l ∧ ∀ g, A = some ⟨g, 0, none⟩ → 0 < c → col g = q
def recol (col : Nat → Nat) (s q : Nat) : Nat → Nat := fun g => if g < s then col g else q
theorem recol_old {col : Nat → Nat} {s q g : Nat} (h : g < s) : recol col s q g = col g := if_pos h
theorem recol_new {col : Nat → Nat} {s q g : Nat} (h : s ≤ g) : recol col s q g = q := if_neg (by omega)
theorem Col.turn {k q lo : Nat} {col : Nat → Nat} {w w' : World} {A : Option Addr} {c : Nat} {l : List Nat} {X : Nat → Prop} (h : Col k lo col w A c l) (ht : Turn w w' X) (hX : ∀ g, X g → col g = q) (hk : k ≠ q) : Col k lo (recol col w.heap.size q) w' A c l := by
  refine ⟨h.1.same fun g e hc => ht.block g (h.1.lt e hc).2.1 fun x => hk ((h.2 g e hc).symm.trans (hX g x)), fun g e hc => ?_⟩
  rw [recol_old (h.1.lt e hc).2.1]
  exact h.2 g e hc
theorem Col.below {k lo : Nat} {col : Nat → Nat} {w w' : World} {A : Option Addr} {c : Nat} {l : List Nat} (h : Col k lo col w A c l) (hb : Below w.heap.size w w') : Col k lo col w' A c l := ⟨h.1.go hb, h.2⟩

/-! ### loop 1 -/
structure S1 (w6 : World) (gl : Nat) (A : Nat → Option Addr) (n c : Nat → Nat) (Ak : Option Addr) (ck : Nat) (lk : List Nat) (col : Nat → Nat) (w : World) (L : Nat → List Nat) : Prop where
  six : ∀ k, k < 6 → Col k w6.heap.size col w (A k) (c k) (L k) ∧ (L k).length = n k ∧ n k ≤ 256
  row : ∀ k, k < 6 → w.cell? ⟨gl, k, none⟩ = some (.slice (A k) (n k) (c k))
  glc : col gl = 7
  keep : Col 7 w6.heap.size col w Ak ck lk
  below : Below w6.heap.size w6 w
section
variable {w6 : World} {gl : Nat} {A : Nat → Option Addr} {n c : Nat → Nat} {Ak : Option Addr} {ck : Nat} {lk : List Nat} {col : Nat → Nat} {w w' : World} {L : Nat → List Nat}
theorem S1.go (h : S1 w6 gl A n c Ak ck lk col w L) (hb : Below w.heap.size w w') : S1 w6 gl A n c Ak ck lk col w' L :=
  ⟨fun k hk => ⟨(h.six k hk).1.below hb, (h.six k hk).2⟩, fun k hk => (hb.cell (lt_of_cell (h.row k hk))).trans (h.row k hk), h.glc, h.keep.below hb, h.below.trans (hb.mono h.below.size)⟩
theorem S1.store (h : S1 w6 gl A n c Ak ck lk col w L) {k j : Nat} (hk : k < 6) (hj : j < n k) (x : Nat) :
    ∃ g, A k = some ⟨g, 0, none⟩ ∧ w.cell? ⟨gl, k, none⟩ = some (.slice (some ⟨g, 0, none⟩) (n k) (c k)) ∧ (∃ v, w.cell? ⟨g, j, none⟩ = some v) ∧ w.frozen? ⟨g, j, none⟩ = false ∧
      S1 w6 gl A n c Ak ck lk col (w.setCell ⟨g, j, none⟩ (.int .u32 (x : Int))) (fun q => if q = k then (L k).set j x else L q) := by
  obtain ⟨⟨hf, hcol⟩, hl, hn⟩ := h.six k hk
  obtain ⟨g, hA, hg, hgs, hv, hfr, hset⟩ := hf.set (x := x) (by omega : j < (L k).length)
  have hc : 0 < c k := by have := hf.1; omega
  have hgc := hcol g hA hc
  refine ⟨g, hA, by rw [← hA]; exact h.row k hk, hv, hfr, fun q hq => ?_, fun q hq => ?_, h.glc, ?_, ?_⟩
  · by_cases e : q = k
    · subst e
      rw [if_pos rfl]
      exact ⟨⟨hset, hcol⟩, by rw [List.length_set]; exact hl, hn⟩
    · rw [if_neg e]
      obtain ⟨⟨f1, f2⟩, r⟩ := h.six q hq
      exact ⟨⟨f1.elsewhere fun g' e1 e2 e3 => e (by have := f2 g' e1 e2; rw [e3] at this; exact this.symm.trans hgc), f2⟩, r⟩
  · exact (World.cell?_of_block (heap_setCell_other _ _ _ _ (fun e => by have := h.glc; dsimp only at e; rw [e, hgc] at this; omega))).trans (h.row q hq)
  · exact ⟨h.keep.1.elsewhere fun g' e1 e2 e3 => by have := h.keep.2 g' e1 e2; rw [e3] at this; have := this.symm.trans hgc; omega, h.keep.2⟩
  · exact h.below.setCell (p := ⟨g, j, none⟩) hg _
end
theorem S1.make {w6 w11 w12 : World} {us : Array Value} {t : TypeId} {A : Nat → Option Addr} {n c : Nat → Nat} {L : Nat → List Nat} {col : Nat → Nat} {Ak : Option Addr} {ck m : Nat} {lk : List Nat} (hS : Six w6.heap.size col w11 A n c L) (h7 : ∀ g, w11.heap.size ≤ g → col g = 7)
    (hrow : us = ((List.range 6).map fun k => Value.slice (A k) (n k) (c k)).toArray) (hB : Below w6.heap.size w6 w11) (hb : Below (w11.alloc (.cells us t)).heap.size (w11.alloc (.cells us t)) w12)
    (hk : w12.ownsRow (w11.alloc (.cells us t)).heap.size 24 1 (.slice Ak m ck) m (cellsN .u32 lk)) : S1 w6 w11.heap.size A n c Ak ck lk col w12 L := by
  have hal : Below w11.heap.size w11 (w11.alloc (.cells us t)) := (Below.refl _ w11).alloc (Nat.le_refl _) _
  have hle := hal.size
  have hb2 : Below w11.heap.size w11 w12 := hal.trans (hb.mono hle)
  have hf := Fr.of_own hk
  refine ⟨fun k hk => ?_, fun k hk => ?_, h7 _ (Nat.le_refl _), ⟨hf.low (Nat.le_trans hB.size hle), fun g e hc => h7 g (Nat.le_trans hle (hf.lt e hc).1)⟩, hB.trans (hb2.mono hB.size)⟩
  · obtain ⟨f1, f2, f3, f4⟩ := hS k hk
    exact ⟨⟨f1.go hb2, f4⟩, f2, f3⟩
  · refine (hb.cell (p := ⟨w11.heap.size, k, none⟩) (by simp)).trans ?_
    rw [World.cell?_alloc_new, hrow]
    rw [List.getElem?_toArray, List.getElem?_map, List.getElem?_range hk]; rfl
theorem take_set_succ {l : List Nat} {j x : Nat} (h : l.take j = List.replicate j x) (hj : j < l.length) : (l.set j x).take (j + 1) = List.replicate (j + 1) x := by
  rw [List.take_succ_eq_append_getElem (by rw [List.length_set]; exact hj), List.take_set_of_le (Nat.le_refl _), h, List.getElem_set_self, ← List.replicate_succ']

theorem Rw.tail78 {w : World} {B g : Nat} {l : List Nat} (h : Rw .u32 w B (some ⟨g, 0, none⟩) (l ++ [7, 8])) : w.cell? ⟨g, l.length, none⟩ = some (.int .u32 7) ∧ w.cell? ⟨g, l.length + 1, none⟩ = some (.int .u32 8) := by
  obtain ⟨b, off, e, _, h1⟩ := h.at_ (i := l.length) (by simp)
  cases e
  obtain ⟨b, off, e, _, h2⟩ := h.at_ (i := l.length + 1) (by simp)
  cases e
  rw [Nat.zero_add] at h1 h2
  rw [List.getD_eq_getElem?_getD, List.getElem?_append_right (by omega)] at h1 h2
  simp at h1 h2
  exact ⟨h1, h2⟩

/-! ### loop 2 -/
def Lg (n k j : Nat) : List Nat := List.replicate n (k + 100) ++ List.replicate j (k + 200)
theorem Lg_len (n k j : Nat) : (Lg n k j).length = n + j := by simp [Lg]
theorem Lg_zero (n k : Nat) : Lg n k 0 = List.replicate n (k + 100) := by simp [Lg]
theorem Lg_succ (n k j : Nat) : Lg n k j ++ [k + 200] = Lg n k (j + 1) := by simp [Lg, List.replicate_succ']
theorem Lg_getD {n k m j : Nat} (h : j < n + m) : (Lg n k m).getD j 0 = if j < n then k + 100 else k + 200 := by
  rw [List.getD_eq_getElem?_getD]
  unfold Lg
  by_cases hj : j < n
  · rw [if_pos hj, List.getElem?_append_left (by simpa using hj), List.getElem?_replicate, if_pos hj]; rfl
  · rw [if_neg hj, List.getElem?_append_right (by simpa using hj), List.getElem?_replicate, if_pos (by simp; omega)]; rfl
structure S2 (w6 : World) (gl : Nat) (A : Nat → Option Addr) (n c : Nat → Nat) (Ak : Option Addr) (ck : Nat) (lk : List Nat) (i p : Nat) (A' : Nat → Option Addr) (c' : Nat → Nat) (col : Nat → Nat) (w : World) : Prop where
  six : ∀ k, p ≤ k → k < 6 → Col k w6.heap.size col w (A k) (c k) (Lg (n k) k 0)
  small : ∀ k, k < 6 → n k ≤ 256
  gr : ∀ k, k < i → Col k w6.heap.size col w (A' k) (c' k) (Lg (n k) k 20)
  row : ∀ k, k < 6 → w.cell? ⟨gl, k, none⟩ = some (.slice (A k) (n k) (c k))
  glc : col gl = 7
  keep : Col 7 w6.heap.size col w Ak ck lk
  below : Below w6.heap.size w6 w
section
variable {w6 : World} {gl : Nat} {A : Nat → Option Addr} {n c : Nat → Nat} {Ak : Option Addr} {ck : Nat} {lk : List Nat} {i p q : Nat} {A' : Nat → Option Addr} {c' : Nat → Nat} {col : Nat → Nat} {w w' : World} {L : Nat → List Nat}
theorem S2.of (h : S1 w6 gl A n c Ak ck lk col w L) (hL : ∀ k, k < 6 → L k = List.replicate (n k) (k + 100)) : S2 w6 gl A n c Ak ck lk 0 0 (fun _ => none) (fun _ => 0) col w :=
  ⟨fun k _ hk => by rw [Lg_zero, ← hL k hk]; exact (h.six k hk).1, fun k hk => (h.six k hk).2.2, fun k hk => absurd hk (by omega), h.row, h.glc, h.keep, h.below⟩
theorem S2.go (h : S2 w6 gl A n c Ak ck lk i p A' c' col w) (hb : Below w.heap.size w w') : S2 w6 gl A n c Ak ck lk i p A' c' col w' :=
  ⟨fun k h1 h2 => (h.six k h1 h2).below hb, h.small, fun k hk => (h.gr k hk).below hb, fun k hk => (hb.cell (lt_of_cell (h.row k hk))).trans (h.row k hk), h.glc, h.keep.below hb, h.below.trans (hb.mono h.below.size)⟩
theorem S2.less (h : S2 w6 gl A n c Ak ck lk i p A' c' col w) : S2 w6 gl A n c Ak ck lk i (p + 1) A' c' col w :=
  ⟨fun k h1 h2 => h.six k (by omega) h2, h.small, h.gr, h.row, h.glc, h.keep, h.below⟩
theorem S2.turn {X : Nat → Prop} (h : S2 w6 gl A n c Ak ck lk i p A' c' col w) (ht : Turn w w' X) (hX : ∀ g, X g → w6.heap.size ≤ g ∧ col g = q) (hq : q = 6 ∨ (q = i ∧ i < p ∧ i < 6)) (hi : i ≤ 6) : S2 w6 gl A n c Ak ck lk i p A' c' (recol col w.heap.size q) w' := by
  have hX2 : ∀ g, X g → col g = q := fun g x => (hX g x).2
  have hgl : gl < w.heap.size := lt_of_cell (h.row 0 (by omega))
  refine ⟨fun k h1 h2 => (h.six k h1 h2).turn ht hX2 (by omega), h.small, fun k hk => (h.gr k hk).turn ht hX2 (by omega), fun k hk => (ht.cell (h.row k hk) fun x => ?_), by rw [recol_old hgl]; exact h.glc, h.keep.turn ht hX2 (by omega), h.below.trans (ht.below h.below.size fun g x => (hX g x).1)⟩
  have e1 := hX2 gl x
  have e2 := h.glc
  omega
/-- The round's answer is kept. -/
theorem S2.next (h : S2 w6 gl A n c Ak ck lk i (i + 1) A' c' col w) {Ag : Option Addr} {cg : Nat} (hg : Col i w6.heap.size col w Ag cg (Lg (n i) i 20)) :
    S2 w6 gl A n c Ak ck lk (i + 1) (i + 1) (fun k => if k = i then Ag else A' k) (fun k => if k = i then cg else c' k) col w := by
  refine ⟨h.six, h.small, fun k hk => ?_, h.row, h.glc, h.keep, h.below⟩
  by_cases e : k = i
  · subst e
    simp only [if_true]
    exact hg
  · simp only [if_neg e]
    exact h.gr k (by omega)
/-- The grown ones' row. -/
def growRow (n : Nat → Nat) (A' : Nat → Option Addr) (c' : Nat → Nat) (i : Nat) : List Value := (List.range i).map fun k => Value.slice (A' k) (n k + 20) (c' k)
theorem growRow_len (n : Nat → Nat) (A' : Nat → Option Addr) (c' : Nat → Nat) (i : Nat) : (growRow n A' c' i).length = i := by simp [growRow]
theorem growRow_succ (n : Nat → Nat) (A' : Nat → Option Addr) (c' : Nat → Nat) (i : Nat) (Ag : Option Addr) (cg : Nat) : growRow n (fun k => if k = i then Ag else A' k) (fun k => if k = i then cg else c' k) (i + 1) = growRow n A' c' i ++ [.slice Ag (n i + 20) cg] := by
  unfold growRow
  rw [List.range_succ, List.map_append]
  congr 1
  · exact List.map_congr_left fun k hk => by have := List.mem_range.1 hk; simp only [if_neg (by omega : ¬ k = i)]
  · simp
theorem growRow_at {n : Nat → Nat} {A' : Nat → Option Addr} {c' : Nat → Nat} {i k : Nat} (hk : k < i) : (growRow n A' c' i)[k]? = some (.slice (A' k) (n k + 20) (c' k)) := by
  unfold growRow
  rw [List.getElem?_map, List.getElem?_range hk]; rfl
/-- 'append' of one number to an answer. -/
theorem wpList_appendFr {ops : Array Oper} {rest : List Oper} {o : Oper} {a : Act} {Q : Exit → Act → World → Prop} (s x : Operand) (hgd : o.guard = none)
    (ho : o.op = .call { callee := .builtin .append, args := #[s, x], argTypes := #[22, 22] })
    {Ag : Option Addr} {ng cg j B : Nat} {u : Int} (hs : a.eval s = .slice Ag ng cg) (hn : ng = n i + j) (hu : u = ((i + 200 : Nat) : Int)) (hx : a.eval x = .slice (some ⟨B, 0, none⟩) 1 1) (hB : w.heap.size = B)
    (h2 : S2 w6 gl A n c Ak ck lk i (i + 1) A' c' col w) (hg : Col i w6.heap.size col w Ag cg (Lg (n i) i j)) (hi : i < 6) (hj : j < 20)
    {v26 : Value} {m : Nat} {xs : List Value} (hrow : w.ownsRow w6.heap.size 22 1 v26 m xs) (hrc : ∀ g, v26.ownBlock = some g → col g = 6)
    (h : ∀ Ag2 cg2 w2 col2, S2 w6 gl A n c Ak ck lk i (i + 1) A' c' col2 w2 → Col i w6.heap.size col2 w2 Ag2 cg2 (Lg (n i) i (j + 1)) → w2.ownsRow w6.heap.size 22 1 v26 m xs → (∀ g, v26.ownBlock = some g → col2 g = 6) →
      wpList Try.prog ops Q rest (a.put o.dst (.slice Ag2 (ng + 1) cg2)) w2) :
    wpList Try.prog ops Q (o :: rest) a (w.alloc (.cells #[.int .u32 u] 24)) := by
  subst hB
  subst hu
  subst hn
  have hs6 := h2.small i hi
  refine wpList_plain hgd fun K hK => ?_
  obtain ⟨Ag2, cg2, w2, hrun, f2, ht, hloc⟩ := run_append_fr (x := i + 200) o.type hg.1 h2.below.size (by rw [Lg_len]; omega)
  rw [Lg_succ] at f2
  rw [Lg_len] at hrun
  have hX : ∀ g, (Ag = some ⟨g, 0, none⟩ ∧ 0 < cg) → w6.heap.size ≤ g ∧ col g = i := fun g x => ⟨(hg.1.lt x.1 x.2).1, hg.2 g x.1 x.2⟩
  unfold Oper.wp execOp
  simp only [ho, resolve, invoke, builtin, Sem.run_bind, Sem.run_pure, Result.andThen_ok, List.map_toArray, List.map_cons, List.map_nil, hs, hx, hrun]
  refine hK _ _ (h Ag2 cg2 w2 (recol col w.heap.size i) (h2.turn ht hX (.inr ⟨rfl, by omega, hi⟩) (by omega)) ⟨f2, fun g e _ => ?_⟩ (own_turn hrow ht fun g e x => ?_) fun g e => ?_)
  · rcases hloc g e with ⟨h1, h3⟩ | h1
    · rw [recol_old (hg.1.lt h1 h3).2.1]; exact hg.2 g h1 h3
    · exact recol_new h1
  · have e1 := hrc g e
    have e2 := (hX g x).2
    omega
  · rw [recol_old (hrow.lt g e).2]; exact hrc g e
theorem sl32_info : (Try.prog.info? 22).map (fun i => (i.zero, i.size, i.bytes)) = some (some (.slice none 0 0), 1, 24) := by kernel_rfl
/-- The grown answer goes into its row. -/
theorem wpList_appendRow {ops : Array Oper} {rest : List Oper} {o : Oper} {a : Act} {Q : Exit → Act → World → Prop} (s x : Operand) (hgd : o.guard = none)
    (ho : o.op = .call { callee := .builtin .append, args := #[s, x], argTypes := #[31, 31] })
    {Ag : Option Addr} {ng cg B : Nat} {v26 : Value} (hs : a.eval s = v26) (hn : ng = n i + 20) (hx : a.eval x = .slice (some ⟨B, 0, none⟩) 1 1) (hB : w.heap.size = B)
    (h2 : S2 w6 gl A n c Ak ck lk i (i + 1) A' c' col w) (hg : Col i w6.heap.size col w Ag cg (Lg (n i) i 20)) (hi : i < 6)
    (hrow : w.ownsRow w6.heap.size 22 1 v26 i (growRow n A' c' i)) (hrc : ∀ g, v26.ownBlock = some g → col g = 6)
    (h : ∀ A3 c3 g3 k3 w3 col3, S2 w6 gl A n c Ak ck lk (i + 1) (i + 1) A3 c3 col3 w3 → w3.ownsRow w6.heap.size 22 1 (.slice (some ⟨g3, 0, none⟩) (i + 1) k3) (i + 1) (growRow n A3 c3 (i + 1)) → col3 g3 = 6 →
      wpList Try.prog ops Q rest (a.put o.dst (.slice (some ⟨g3, 0, none⟩) (i + 1) k3)) w3) :
    wpList Try.prog ops Q (o :: rest) a (w.alloc (.cells #[.slice Ag ng cg] 22)) := by
  subst hn
  refine wpList_appendZ 31 22 s x hgd ho w6.heap.size Try.underlying31 sl32_info rfl (by decide) hs (.inl hrow) hx hB rfl (by decide) (by intro u hu; simp at hu; subst hu; rfl) (by unfold maxLen; omega) (by omega) h2.below.size ?_
  intro g3 k3 w3 h3 hgr hloc
  have hX : ∀ g, v26.ownBlock = some g → w6.heap.size ≤ g ∧ col g = 6 := fun g x => ⟨(hrow.lt g x).1, hrc g x⟩
  have ht := Turn.of_grown hgr
  refine h _ _ g3 k3 w3 (recol col w.heap.size 6) ((h2.turn ht hX (.inl rfl) (by omega)).next (hg.turn ht (fun g x => (hX g x).2) (by omega))) (by rw [growRow_succ]; exact h3) ?_
  rcases hloc with e | e
  · rw [recol_old (hrow.lt g3 e).2]; exact hrc g3 e
  · exact recol_new e
end
end Go.Proofs.Ytpklbdgajbfaiaa
