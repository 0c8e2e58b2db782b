/- A world is made: its commands. -/
import Derived.Test.YticinbkgmfoeoaaWdW9
namespace Go.Proofs.Yticinbkgmfoeoaa
open Go.RowKit
set_option linter.unusedVariables false

theorem cellsOf {w : World} {g L m1 m2 : Nat} {e c a b : Value} {n : Int} {x : ByteArray} {v : Value} {y : Int} (h1 : w.heap[g]? = some (.cells #[.map (some m1), .map (some m2), e, c, a, b, .int .i64 n] 75 (0, 0))) (h2 : w.heap[L]? = some (.cells #[.string x, v, .int .i64 y] 59 (0, 0))) :
    w.cell? ⟨g, 1, none⟩ = some (.map (some m2)) ∧ w.cell? ⟨L, 0, none⟩ = some (.string x) ∧ w.cell? ⟨L, 1, none⟩ = some v ∧ w.cell? ⟨L, 2, none⟩ = some (.int .i64 y) := by
  simp [World.cell?, h1, h2]
theorem cmd_info : (Try.prog.info? 59).map (fun i => (i.zero, i.size, i.bytes)) = some (some (.agg #[.string ⟨#[]⟩, .slice none 0 0, .int .i64 0]), 3, 48) := by kernel_rfl
theorem run_lookF {P : Program} {w : World} (t k e : TypeId) (hk : P.underlying k = some .string) (ht : P.underlying t = some (.map k e)) {z : Value} (hz : (zeroValue e).run P w = .ok z w) (b n : Nat) (f : ByteArray → Option Value)
    (hown : MapF P k w b n f) (s : ByteArray) (hs : s.size ≤ maxLen) : (Instr.lookup t (.map (some b)) (.string s) false).run P w = .ok ((f s).getD z) w := by
  obtain ⟨D, h1, _, h2⟩ := hown
  obtain ⟨v, ps, hrun, hv⟩ := h1.lookup (Maps.string_keyed hk) ht hz (zd := .held z) (zp := []) rfl (Go.WideMaps.keyOf_string_mk (P := P) hk hs)
  rw [show (Lit.string s.data.toList) = kst s from rfl, (h2 s).2] at hv
  simp [rawElem] at hv
  obtain ⟨rfl, _⟩ := hv
  exact hrun
theorem run_lookR {w : World} {v : Value} (b n : Nat) (f : ByteArray → Option Value) (hown : MapF Try.prog 9 w b n f) (s : ByteArray) (hs : s.size ≤ maxLen) (hv : (f s).getD (.slice none 0 0) = v) : (Instr.lookup 70 (.map (some b)) (.string s) false).run Try.prog w = .ok v w := by
  rw [run_lookF 70 9 27 Try.underlying9 Try.underlying70 (zero_cmds _) b n f hown s hs, hv]
theorem setCell_below {B : Nat} {a w : World} (h : Below B a w) (p : Addr) (v : Value) (hp : B ≤ p.block) : Below B a (w.setCell p v) :=
  ⟨h.os, h.tape, h.output, Nat.le_trans h.size (Nat.le_of_eq (World.size_setCell w p v).symm), fun k hk => (heap_setCell_other w p k v (by omega)).trans (h.block k hk)⟩
/-- A command, as it is meant: its line, its chunks, its code. -/
abbrev CM := ByteArray × List ByteArray × Int
def CmdIs (W : World) (x : CT) (y : CM) : Prop := x.1 = y.1 ∧ x.2.2 = y.2.2 ∧ RowT W 9 1 x.2.1 y.2.1.length (y.2.1.map Value.string)
theorem CmdIs.same {W W' : World} {x : CT} {y : CM} (h : CmdIs W x y) (hs : W.heap.size ≤ W'.heap.size) (hk : ∀ (j : Nat) (cs : Array Value), W.heap[j]? = some (Obj.cells cs 9 (0, 0)) → W'.heap[j]? = W.heap[j]?) : CmdIs W' x y := ⟨h.1, h.2.1, h.2.2.same hs hk⟩
def AreCmds (W : World) (l : List CT) (F : List CM) : Prop := l.length = F.length ∧ ∀ (i : Nat) (x : CT) (y : CM), l[i]? = some x → F[i]? = some y → CmdIs W x y
theorem AreCmds.same {W W' : World} {l : List CT} {F : List CM} (h : AreCmds W l F) (hs : W.heap.size ≤ W'.heap.size) (hk : ∀ (j : Nat) (cs : Array Value), W.heap[j]? = some (Obj.cells cs 9 (0, 0)) → W'.heap[j]? = W.heap[j]?) : AreCmds W' l F := ⟨h.1, fun i x y hx hy => (h.2 i x y hx hy).same hs hk⟩
theorem AreCmds.snoc {W : World} {l : List CT} {F : List CM} (h : AreCmds W l F) {x : CT} {y : CM} (hx : CmdIs W x y) : AreCmds W (l ++ [x]) (F ++ [y]) := by
  refine ⟨by simp [h.1], fun i a b ha hb => ?_⟩
  rcases Nat.lt_or_ge i l.length with hi | hi
  · rw [List.getElem?_append_left hi] at ha
    rw [List.getElem?_append_left (by rw [← h.1]; exact hi)] at hb
    exact h.2 i a b ha hb
  · rw [List.getElem?_append_right hi] at ha
    rw [List.getElem?_append_right (by rw [← h.1]; exact hi), ← h.1] at hb
    cases e : i - l.length with
    | zero => rw [e] at ha hb; cases ha; cases hb; exact hx
    | succ n => rw [e] at ha; cases ha
theorem cmdC_at {l : List CT} {i : Nat} (h : i < l.length) : (l.flatMap cmdC)[i * 3]? = some (.string l[i].1) ∧ (l.flatMap cmdC)[i * 3 + 1]? = some l[i].2.1 ∧ (l.flatMap cmdC)[i * 3 + 2]? = some (.int .i64 l[i].2.2) := by
  induction l generalizing i with
  | nil => simp at h
  | cons x l ih =>
    cases i with
    | zero => simp [cmdC]
    | succ i =>
      have h2 : i < l.length := by simpa using h
      rw [List.flatMap_cons, List.getElem?_append_right (by simp [cmdC]; omega), List.getElem?_append_right (by simp [cmdC]; omega), List.getElem?_append_right (by simp [cmdC]; omega)]
      have e1 : (i + 1) * 3 - (cmdC x).length = i * 3 := by simp [cmdC]; omega
      have e2 : (i + 1) * 3 + 1 - (cmdC x).length = i * 3 + 1 := by simp [cmdC]; omega
      have e3 : (i + 1) * 3 + 2 - (cmdC x).length = i * 3 + 2 := by simp [cmdC]; omega
      rw [e1, e2, e3]
      simpa using ih h2
def rowOf (cmds : ByteArray → Option Value) (nm : ByteArray) : Value := (cmds nm).getD (.slice none 0 0)
/-- The table holds just these commands, each line's in a block of its own. -/
structure CmdsHold (lo : Nat) (W : World) (cmds : ByteArray → Option Value) (F : ByteArray → List CM) : Prop where
  each : ∀ nm, ∃ l, AreCmds W l (F nm) ∧ W.ownsRow lo 59 3 (rowOf cmds nm) l.length (l.flatMap cmdC)
  apart : ∀ nm nm' k, nm ≠ nm' → (rowOf cmds nm).ownBlock = some k → (rowOf cmds nm').ownBlock ≠ some k
theorem CmdsHold.same {lo : Nat} {W W' : World} {cmds : ByteArray → Option Value} {F : ByteArray → List CM} (h : CmdsHold lo W cmds F) (hb : Below W.heap.size W W') : CmdsHold lo W' cmds F :=
  ⟨fun nm => by
    obtain ⟨l, h1, h2⟩ := h.each nm
    exact ⟨l, h1.same hb.size (fun j cs hc => hb.block j (Array.getElem?_eq_some_iff.1 hc).1), own_below' h2 hb⟩, h.apart⟩
theorem CmdsHold.snoc {lo : Nat} {W W' : World} {cmds : ByteArray → Option Value} {F F' : ByteArray → List CM} (h : CmdsHold lo W cmds F) {nm : ByteArray} {l : List CT} {x : CT} {y : CM} {v' : Value} {g m2 : Nat} {es : Array MapEntry} {cc : Nat}
    (hl : AreCmds W l (F nm)) (hx : CmdIs W' x y) (hsz : W.heap.size ≤ W'.heap.size) (hm : W.heap[m2]? = some (.map es cc)) (hk : ∀ j, j < W.heap.size → j ≠ m2 → (rowOf cmds nm).ownBlock ≠ some j → W'.heap[j]? = W.heap[j]?)
    (hown : W'.ownsRow lo 59 3 v' (l.length + 1) (l.flatMap cmdC ++ cmdC x)) (hg : v'.ownBlock = some g) (hloc : (rowOf cmds nm).ownBlock = some g ∨ W.heap.size ≤ g) (h1 : F' nm = F nm ++ [y]) (h2 : ∀ t, t ≠ nm → F' t = F t) : CmdsHold lo W' (upd cmds nm v') F' := by
  have hrow : ∀ t, t ≠ nm → rowOf (upd cmds nm v') t = rowOf cmds t := fun t ht => by unfold rowOf; rw [upd_ne ht]
  have hrow1 : rowOf (upd cmds nm v') nm = v' := by unfold rowOf; rw [upd_same]; rfl
  obtain ⟨l0, hl0, ho0⟩ := h.each nm
  have hstr : ∀ (j : Nat) (cs : Array Value), W.heap[j]? = some (Obj.cells cs 9 (0, 0)) → W'.heap[j]? = W.heap[j]? := fun j cs hc => by
    refine hk j (Array.getElem?_eq_some_iff.1 hc).1 ?_ ?_
    · rintro rfl
      rw [hm] at hc; cases hc
    · intro e
      obtain ⟨c, hc'⟩ := own_obj ho0 e
      rw [hc] at hc'; cases hc'
  refine ⟨fun t => ?_, fun a b k hab ha hb => ?_⟩
  · by_cases e : t = nm
    · subst e
      rw [hrow1, h1]
      refine ⟨l ++ [x], (hl.same hsz hstr).snoc hx, ?_⟩
      rw [List.length_append, List.flatMap_append]
      simpa using hown
    · rw [hrow t e, h2 t e]
      obtain ⟨l1, hl1, ho1⟩ := h.each t
      refine ⟨l1, hl1.same hsz hstr, own_same ho1 (fun j hj => ?_)⟩
      refine hk j (ho1.lt j hj).2 ?_ (h.apart t nm j e hj)
      rintro rfl
      obtain ⟨c, hc⟩ := own_obj ho1 hj
      rw [hm] at hc; cases hc
  · by_cases ea : a = nm
    · subst ea
      rw [hrow1] at ha
      rw [hrow b (fun e => hab e.symm)] at hb
      rw [hg] at ha
      cases ha
      rcases hloc with e | e
      · exact h.apart a b g hab e hb
      · obtain ⟨l1, _, ho1⟩ := h.each b
        have := (ho1.lt g hb).2
        omega
    · rw [hrow a ea] at ha
      by_cases eb : b = nm
      · subst eb
        rw [hrow1, hg] at hb
        cases hb
        rcases hloc with e | e
        · exact h.apart a b g hab ha e
        · obtain ⟨l1, _, ho1⟩ := h.each a
          have := (ho1.lt g ha).2
          omega
      · rw [hrow b eb] at hb
        exact h.apart a b k hab ha hb
def cmdF (L : List CM) (nm : ByteArray) : List CM := L.filter (fun y => decide (y.1 = nm))
theorem cmdF_snoc (L : List CM) (y : CM) : cmdF (L ++ [y]) y.1 = cmdF L y.1 ++ [y] ∧ ∀ t, t ≠ y.1 → cmdF (L ++ [y]) t = cmdF L t := by
  refine ⟨by simp [cmdF], fun t ht => ?_⟩
  have : ¬ y.1 = t := fun e => ht e.symm
  simp [cmdF, this]
theorem own_nil (w : World) (lo : Nat) (e : TypeId) (s : Nat) : w.ownsRow lo e s (.slice none 0 0) 0 [] := ⟨by simp, .inl ⟨rfl, rfl⟩⟩
theorem CmdsHold.none (lo : Nat) (W : World) : CmdsHold lo W (fun _ => none) (cmdF []) :=
  ⟨fun nm => ⟨[], ⟨rfl, fun i x y hx => by cases hx⟩, own_nil W lo _ _⟩, fun nm nm' k _ h => by cases h⟩

section
variable {w W W' : World} {B0 : Nat} {scr : Array Value} {np : Nat} {ps : List Value} {nc : Nat} {cs : List Value} {m1 m2 g : Nat} {v16 v19 : Value} {k1 k2 : Nat} {files cmds : ByteArray → Option Value} {L : ByteArray → Option (List ByteArray)}
/-- A line's row is stored in the second table. -/
theorem NewSt.cmd (h : NewSt w B0 scr np ps nc cs m1 m2 g v16 v19 k1 k2 files cmds L W) {s : ByteArray} {v v' : Value} {n : Nat} {xs : List Value} (ho : W.ownsRow w.heap.size 59 3 v n xs) (hb : Below w.heap.size w W') (hsz : W.heap.size ≤ W'.heap.size)
    (hm : MapF Try.prog 9 W' m2 (k2 + 1) (upd cmds s v')) (hk : ∀ j, j < W.heap.size → j ≠ m2 → v.ownBlock ≠ some j → W'.heap[j]? = W.heap[j]?) : NewSt w B0 scr np ps nc cs m1 m2 g v16 v19 k1 (k2 + 1) files (upd cmds s v') L W' := by
  obtain ⟨es, cc, hc⟩ := h.c.obj
  have hq : ∀ (j : Nat) (c : Array Value) (e : TypeId), W.heap[j]? = some (Obj.cells c e (0, 0)) → e ≠ 59 → W'.heap[j]? = W.heap[j]? := fun j c e hj he => by
    refine hk j (Array.getElem?_eq_some_iff.1 hj).1 ?_ ?_
    · rintro rfl
      rw [hc] at hj; cases hj
    · intro e'
      obtain ⟨c', hc'⟩ := own_obj ho e'
      rw [hj] at hc'; cases hc'
      exact he rfl
  obtain ⟨es1, cc1, hf⟩ := h.f.obj
  refine ⟨hb, (hq _ _ _ h.box (by decide)).trans h.box, (hq _ _ _ h.hd (by decide)).trans h.hd, h.f.same (hk _ h.f.lt h.ne ?_), hm, h.ne, h.la, h.lb, h.lg,
    own_same h.env (fun j hj => by obtain ⟨c, hc⟩ := own_obj h.env hj; exact hq j _ _ hc (by decide)), own_same h.clock (fun j hj => by obtain ⟨c, hc⟩ := own_obj h.clock hj; exact hq j _ _ hc (by decide)),
    h.holds.same hsz (fun j c hc => hq j _ _ hc (by decide))⟩
  intro e
  obtain ⟨c, hc'⟩ := own_obj ho e
  rw [hf] at hc'; cases hc'
theorem NewSt.cmd_round {W6 W7 : World} {F F' : ByteArray → List CM} {s : ByteArray} {l : List CT} {x : CT} {y : CM} {g' cap : Nat} (h : NewSt w B0 scr np ps nc cs m1 m2 g v16 v19 k1 k2 files cmds L W) (hC : CmdsHold w.heap.size W cmds F) (hal : AreCmds W l (F s))
    (hol : W.ownsRow w.heap.size 59 3 (rowOf cmds s) l.length (l.flatMap cmdC)) (hx : CmdIs W x y) (hown : W6.ownsRow w.heap.size 59 3 (.slice (some ⟨g', 0, none⟩) (l.length + 1) cap) (l.length + 1) (l.flatMap cmdC ++ cmdC x)) (hgr : W.grownBy W6 (rowOf cmds s).ownBlock)
    (hloc : (rowOf cmds s).ownBlock = some g' ∨ W.heap.size ≤ g') (hm : MapF Try.prog 9 W7 m2 (k2 + 1) (upd cmds s (.slice (some ⟨g', 0, none⟩) (l.length + 1) cap))) (hg7 : W6.grownBy W7 (some m2)) (h1 : F' s = F s ++ [y]) (h2 : ∀ t, t ≠ s → F' t = F t) :
    NewSt w B0 scr np ps nc cs m1 m2 g v16 v19 k1 (k2 + 1) files (upd cmds s (.slice (some ⟨g', 0, none⟩) (l.length + 1) cap)) L W7 ∧ CmdsHold w.heap.size W7 (upd cmds s (.slice (some ⟨g', 0, none⟩) (l.length + 1) cap)) F' := by
  obtain ⟨es, cc, hc⟩ := h.c.obj
  have hsz : W.heap.size ≤ W7.heap.size := Nat.le_trans hgr.size hg7.size
  have hk : ∀ j, j < W.heap.size → j ≠ m2 → (rowOf cmds s).ownBlock ≠ some j → W7.heap[j]? = W.heap[j]? := fun j hj hn ho => (hg7.block j (Nat.lt_of_lt_of_le hj hgr.size) (by simp; exact hn)).trans (hgr.block j hj (fun e => ho e.symm))
  have hb : Below w.heap.size w W7 := ⟨hg7.os.trans (hgr.os.trans h.below.os), hg7.tape.trans (hgr.tape.trans h.below.tape), hg7.output.trans (hgr.output.trans h.below.output), Nat.le_trans h.below.size hsz, fun k hk' => by
    refine (hk k (Nat.lt_of_lt_of_le hk' h.below.size) (by have := h.lb; omega) ?_).trans (h.below.block k hk')
    intro e
    have := (hol.lt k e).1
    omega⟩
  have hstr : ∀ (j : Nat) (cs : Array Value), W.heap[j]? = some (Obj.cells cs 9 (0, 0)) → W7.heap[j]? = W.heap[j]? := fun j cs hj => by
    refine hk j (Array.getElem?_eq_some_iff.1 hj).1 ?_ ?_
    · rintro rfl
      rw [hc] at hj; cases hj
    · intro e
      obtain ⟨c, hc'⟩ := own_obj hol e
      rw [hj] at hc'; cases hc'
  refine ⟨h.cmd hol hb hsz hm hk, hC.snoc hal (hx.same hsz hstr) hsz hc hk (own_same hown (fun j hj => ?_)) rfl hloc h1 h2⟩
  refine hg7.block j (hown.lt j hj).2 ?_
  simp
  rintro rfl
  have hgm : W6.heap[j]? = W.heap[j]? := hgr.block j (Array.getElem?_eq_some_iff.1 hc).1 (fun e => by
    obtain ⟨c, hc'⟩ := own_obj hol e.symm
    rw [hc] at hc'; cases hc')
  obtain ⟨c, hc'⟩ := own_obj hown hj
  rw [hgm, hc] at hc'; cases hc'
end

end Go.Proofs.Yticinbkgmfoeoaa
