/- New, once more: its chunk rows are its own. Printed by wip/tools/gen_newo.py from the texts on New. -/
import Derived.Test.YticinbkgmfoeoaaWdWD
import Derived.Test.YticinbkgmfoeoaaWdW10
namespace Go.Proofs.Yticinbkgmfoeoaa
open Go.RowKit
set_option linter.unusedVariables false

theorem own_sameT {W W' : World} {lo : Nat} {e : TypeId} {s : Nat} {v : Value} {n : Nat} {xs : List Value} (h : W.ownsRow lo e s v n xs) (hs : W.heap.size ≤ W'.heap.size) (hk : ∀ (j : Nat) (cs : Array Value), W.heap[j]? = some (Obj.cells cs e (0, 0)) → W'.heap[j]? = W.heap[j]?) : W'.ownsRow lo e s v n xs :=
  own_same h fun j hj => by
    obtain ⟨c, hc⟩ := own_obj h hj
    exact hk j c hc
def HoldsO (lo : Nat) (W : World) (files : ByteArray → Option Value) (L : ByteArray → Option (List ByteArray)) : Prop :=
  ∀ nm, (∀ l, L nm = some l → ∃ v, files nm = some v ∧ W.ownsRow lo 9 1 v l.length (l.map Value.string)) ∧ (L nm = none → files nm = none)
theorem HoldsO.same {lo : Nat} {W W' : World} {files : ByteArray → Option Value} {L : ByteArray → Option (List ByteArray)} (h : HoldsO lo W files L) (hs : W.heap.size ≤ W'.heap.size) (hk : ∀ (j : Nat) (cs : Array Value), W.heap[j]? = some (Obj.cells cs 9 (0, 0)) → W'.heap[j]? = W.heap[j]?) : HoldsO lo W' files L := fun nm =>
  ⟨fun l hl => by
    obtain ⟨v, h1, h2⟩ := (h nm).1 l hl
    exact ⟨v, h1, own_sameT h2 hs hk⟩, (h nm).2⟩
theorem fileL_oldO {lo : Nat} {W : World} {files : ByteArray → Option Value} {l : List FT} (h : HoldsO lo W files (fileL l)) {f : FT} {v : Value} (hv : files f.1 = some v) : fileL (l ++ [f]) = fileL l := by
  funext t
  rw [fileL_snoc]
  cases e : fileL l t with
  | some x => rfl
  | none =>
    show (if t = f.1 then some f.2.2 else none) = none
    rw [if_neg]
    rintro rfl
    rw [(h _).2 e] at hv
    cases hv
theorem fileL_newO {lo : Nat} {W : World} {files : ByteArray → Option Value} {l : List FT} (h : HoldsO lo W files (fileL l)) {f : FT} (hv : files f.1 = none) : fileL (l ++ [f]) f.1 = some f.2.2 ∧ ∀ t, t ≠ f.1 → fileL (l ++ [f]) t = fileL l t := by
  refine ⟨?_, fun t ht => ?_⟩
  · rw [fileL_snoc]
    cases e : fileL l f.1 with
    | some x =>
      obtain ⟨v, h1, _⟩ := (h _).1 x e
      rw [hv] at h1; cases h1
    | none => show (if f.1 = f.1 then some f.2.2 else none) = _; rw [if_pos rfl]
  · rw [fileL_snoc]
    cases e : fileL l t with
    | some x => rfl
    | none => show (if t = f.1 then some f.2.2 else none) = _; rw [if_neg ht]
/-- One entry more. -/
theorem HoldsO.upd {lo : Nat} {W : World} {files : ByteArray → Option Value} {L L' : ByteArray → Option (List ByteArray)} (h : HoldsO lo W files L) {s : ByteArray} {v : Value} {l : List ByteArray} (hv : W.ownsRow lo 9 1 v l.length (l.map Value.string)) (h1 : L' s = some l) (h2 : ∀ t, t ≠ s → L' t = L t) : HoldsO lo W (upd files s v) L' := fun nm => by
  by_cases e : nm = s
  · subst e
    rw [upd_same, h1]
    exact ⟨fun l' hl => by cases hl; exact ⟨v, rfl, hv⟩, fun hl => by cases hl⟩
  · rw [upd_ne e, h2 nm e]
    exact h nm
structure NewStO (w : World) (B0 : Nat) (scr : Array Value) (np : Nat) (ps : List Value) (nc : Nat) (cs : List Value) (m1 m2 g : Nat) (v16 v19 : Value) (k1 k2 : Nat) (files cmds : ByteArray → Option Value) (L : ByteArray → Option (List ByteArray)) (W : World) : Prop where
  below : Below w.heap.size w W
  box : W.heap[B0]? = some (.cells scr 31 (0, 0))
  hd : W.heap[g]? = some (.cells #[.map (some m1), .map (some m2), v16, v19, .slice none 0 0, .slice none 0 0, .int .i64 0] 75 (0, 0))
  f : MapF Try.prog 9 W m1 k1 files
  c : MapF Try.prog 9 W m2 k2 cmds
  ne : m1 ≠ m2
  la : w.heap.size ≤ m1
  lb : w.heap.size ≤ m2
  lg : w.heap.size ≤ g
  env : W.ownsRow w.heap.size 61 2 v16 np ps
  clock : W.ownsRow w.heap.size 3 1 v19 nc cs
  holds : HoldsO w.heap.size W files L
section
variable {w W W' : World} {B0 : Nat} {scr : Array Value} {np : Nat} {ps : List Value} {nc : Nat} {cs : List Value} {m1 m2 g : Nat} {v16 v19 : Value} {k1 k2 : Nat} {files cmds : ByteArray → Option Value} {L : ByteArray → Option (List ByteArray)}
theorem NewStO.same (h : NewStO w B0 scr np ps nc cs m1 m2 g v16 v19 k1 k2 files cmds L W) (hb : Below W.heap.size W W') : NewStO w B0 scr np ps nc cs m1 m2 g v16 v19 k1 k2 files cmds L W' :=
  have hk := fun (j : Nat) (hj : j < W.heap.size) => hb.block j hj
  ⟨h.below.trans (hb.mono h.below.size), (hk _ (Array.getElem?_eq_some_iff.1 h.box).1).trans h.box, (hk _ (Array.getElem?_eq_some_iff.1 h.hd).1).trans h.hd, h.f.same (hk _ h.f.lt), h.c.same (hk _ h.c.lt), h.ne, h.la, h.lb, h.lg,
    own_below' h.env hb, own_below' h.clock hb, h.holds.same hb.size (fun j cs hc => hk j (Array.getElem?_eq_some_iff.1 hc).1)⟩
/-- A row of strings is stored in the first table. -/
theorem NewStO.file (h : NewStO w B0 scr np ps nc cs m1 m2 g v16 v19 k1 k2 files cmds L W) {s : ByteArray} {v : Value} {l : List ByteArray} {L' : ByteArray → Option (List ByteArray)} (hv : W.ownsRow w.heap.size 9 1 v l.length (l.map Value.string)) (hm : MapF Try.prog 9 W' m1 (k1 + 1) (upd files s v)) (hg : W.grownBy W' (some m1))
    (h1 : L' s = some l) (h2 : ∀ t, t ≠ s → L' t = L t) : NewStO w B0 scr np ps nc cs m1 m2 g v16 v19 (k1 + 1) k2 (upd files s v) cmds L' W' := by
  obtain ⟨es, cc, ho⟩ := h.f.obj
  have hk : ∀ (j : Nat) (o : Obj), W.heap[j]? = some o → j ≠ m1 → W'.heap[j]? = W.heap[j]? := fun j o hj hn => hg.block j (Array.getElem?_eq_some_iff.1 hj).1 (by simp; exact hn)
  have hn : ∀ (j : Nat) (c : Array Value) (e : TypeId), W.heap[j]? = some (Obj.cells c e (0, 0)) → j ≠ m1 := fun j c e hj => by
    rintro rfl
    rw [ho] at hj; cases hj
  have ht : Below w.heap.size w W' := h.below.trans ⟨hg.os, hg.tape, hg.output, hg.size, fun k hk => hg.block k (Nat.lt_of_lt_of_le hk h.below.size) (by simp; have := h.la; omega)⟩
  exact ⟨ht, (hk _ _ h.box (hn _ _ _ h.box)).trans h.box, (hk _ _ h.hd (hn _ _ _ h.hd)).trans h.hd, hm, h.c.same (hg.block _ h.c.lt (by simp; exact fun e => h.ne e.symm)), h.ne, h.la, h.lb, h.lg,
    own_same h.env (fun j hj => by obtain ⟨c, hc⟩ := own_obj h.env hj; exact hk j _ hc (hn _ _ _ hc)), own_same h.clock (fun j hj => by obtain ⟨c, hc⟩ := own_obj h.clock hj; exact hk j _ hc (hn _ _ _ hc)),
    (h.holds.upd hv h1 h2).same hg.size (fun j c hc => hk j _ hc (hn _ _ _ hc))⟩
end

def CmdIsO (lo : Nat) (W : World) (x : CT) (y : CM) : Prop := x.1 = y.1 ∧ x.2.2 = y.2.2 ∧ W.ownsRow lo 9 1 x.2.1 y.2.1.length (y.2.1.map Value.string)
theorem CmdIsO.same {lo : Nat} {W W' : World} {x : CT} {y : CM} (h : CmdIsO lo W x y) (hs : W.heap.size ≤ W'.heap.size) (hk : ∀ (j : Nat) (cs : Array Value), W.heap[j]? = some (Obj.cells cs 9 (0, 0)) → W'.heap[j]? = W.heap[j]?) : CmdIsO lo W' x y := ⟨h.1, h.2.1, own_sameT h.2.2 hs hk⟩
def AreCmdsO (lo : Nat) (W : World) (l : List CT) (F : List CM) : Prop := l.length = F.length ∧ ∀ (i : Nat) (x : CT) (y : CM), l[i]? = some x → F[i]? = some y → CmdIsO lo W x y
theorem AreCmdsO.same {lo : Nat} {W W' : World} {l : List CT} {F : List CM} (h : AreCmdsO lo W l F) (hs : W.heap.size ≤ W'.heap.size) (hk : ∀ (j : Nat) (cs : Array Value), W.heap[j]? = some (Obj.cells cs 9 (0, 0)) → W'.heap[j]? = W.heap[j]?) : AreCmdsO lo W' l F := ⟨h.1, fun i x y hx hy => (h.2 i x y hx hy).same hs hk⟩
theorem AreCmdsO.snoc {lo : Nat} {W : World} {l : List CT} {F : List CM} (h : AreCmdsO lo W l F) {x : CT} {y : CM} (hx : CmdIsO lo W x y) : AreCmdsO lo W (l ++ [x]) (F ++ [y]) := by
  refine ⟨by simp [h.1], fun i a b ha hb => ?_⟩
  rcases Nat.lt_or_ge i l.length with hi | hi
  · rw [List.getElem?_append_left hi] at ha
    rw [List.getElem?_append_left (by rw [← h.1]; exact hi)] at hb
    exact h.2 i a b ha hb
  · rw [List.getElem?_append_right hi] at ha
    rw [List.getElem?_append_right (by rw [← h.1]; exact hi), ← h.1] at hb
    cases e : i - l.length with
    | zero => rw [e] at ha hb; cases ha; cases hb; exact hx
    | succ n => rw [e] at ha; cases ha
/-- The table holds just these commands, each line's in a block of its own. -/
structure CmdsHoldO (lo : Nat) (W : World) (cmds : ByteArray → Option Value) (F : ByteArray → List CM) : Prop where
  each : ∀ nm, ∃ l, AreCmdsO lo W l (F nm) ∧ W.ownsRow lo 59 3 (rowOf cmds nm) l.length (l.flatMap cmdC)
  apart : ∀ nm nm' k, nm ≠ nm' → (rowOf cmds nm).ownBlock = some k → (rowOf cmds nm').ownBlock ≠ some k
theorem CmdsHoldO.same {lo : Nat} {W W' : World} {cmds : ByteArray → Option Value} {F : ByteArray → List CM} (h : CmdsHoldO lo W cmds F) (hb : Below W.heap.size W W') : CmdsHoldO lo W' cmds F :=
  ⟨fun nm => by
    obtain ⟨l, h1, h2⟩ := h.each nm
    exact ⟨l, h1.same hb.size (fun j cs hc => hb.block j (Array.getElem?_eq_some_iff.1 hc).1), own_below' h2 hb⟩, h.apart⟩
theorem CmdsHoldO.snoc {lo : Nat} {W W' : World} {cmds : ByteArray → Option Value} {F F' : ByteArray → List CM} (h : CmdsHoldO lo W cmds F) {nm : ByteArray} {l : List CT} {x : CT} {y : CM} {v' : Value} {g m2 : Nat} {es : Array MapEntry} {cc : Nat}
    (hl : AreCmdsO lo W l (F nm)) (hx : CmdIsO lo W' x y) (hsz : W.heap.size ≤ W'.heap.size) (hm : W.heap[m2]? = some (.map es cc)) (hk : ∀ j, j < W.heap.size → j ≠ m2 → (rowOf cmds nm).ownBlock ≠ some j → W'.heap[j]? = W.heap[j]?)
    (hown : W'.ownsRow lo 59 3 v' (l.length + 1) (l.flatMap cmdC ++ cmdC x)) (hg : v'.ownBlock = some g) (hloc : (rowOf cmds nm).ownBlock = some g ∨ W.heap.size ≤ g) (h1 : F' nm = F nm ++ [y]) (h2 : ∀ t, t ≠ nm → F' t = F t) : CmdsHoldO lo W' (upd cmds nm v') F' := by
  have hrow : ∀ t, t ≠ nm → rowOf (upd cmds nm v') t = rowOf cmds t := fun t ht => by unfold rowOf; rw [upd_ne ht]
  have hrow1 : rowOf (upd cmds nm v') nm = v' := by unfold rowOf; rw [upd_same]; rfl
  obtain ⟨l0, hl0, ho0⟩ := h.each nm
  have hstr : ∀ (j : Nat) (cs : Array Value), W.heap[j]? = some (Obj.cells cs 9 (0, 0)) → W'.heap[j]? = W.heap[j]? := fun j cs hc => by
    refine hk j (Array.getElem?_eq_some_iff.1 hc).1 ?_ ?_
    · rintro rfl
      rw [hm] at hc; cases hc
    · intro e
      obtain ⟨c, hc'⟩ := own_obj ho0 e
      rw [hc] at hc'; cases hc'
  refine ⟨fun t => ?_, fun a b k hab ha hb => ?_⟩
  · by_cases e : t = nm
    · subst e
      rw [hrow1, h1]
      refine ⟨l ++ [x], (hl.same hsz hstr).snoc hx, ?_⟩
      rw [List.length_append, List.flatMap_append]
      simpa using hown
    · rw [hrow t e, h2 t e]
      obtain ⟨l1, hl1, ho1⟩ := h.each t
      refine ⟨l1, hl1.same hsz hstr, own_same ho1 (fun j hj => ?_)⟩
      refine hk j (ho1.lt j hj).2 ?_ (h.apart t nm j e hj)
      rintro rfl
      obtain ⟨c, hc⟩ := own_obj ho1 hj
      rw [hm] at hc; cases hc
  · by_cases ea : a = nm
    · subst ea
      rw [hrow1] at ha
      rw [hrow b (fun e => hab e.symm)] at hb
      rw [hg] at ha
      cases ha
      rcases hloc with e | e
      · exact h.apart a b g hab e hb
      · obtain ⟨l1, _, ho1⟩ := h.each b
        have := (ho1.lt g hb).2
        omega
    · rw [hrow a ea] at ha
      by_cases eb : b = nm
      · subst eb
        rw [hrow1, hg] at hb
        cases hb
        rcases hloc with e | e
        · exact h.apart a b g hab ha e
        · obtain ⟨l1, _, ho1⟩ := h.each a
          have := (ho1.lt g ha).2
          omega
      · rw [hrow b eb] at hb
        exact h.apart a b k hab ha hb
theorem CmdsHoldO.none (lo : Nat) (W : World) : CmdsHoldO lo W (fun _ => none) (cmdF []) :=
  ⟨fun nm => ⟨[], ⟨rfl, fun i x y hx => by cases hx⟩, own_nil W lo _ _⟩, fun nm nm' k _ h => by cases h⟩

section
variable {w W W' : World} {B0 : Nat} {scr : Array Value} {np : Nat} {ps : List Value} {nc : Nat} {cs : List Value} {m1 m2 g : Nat} {v16 v19 : Value} {k1 k2 : Nat} {files cmds : ByteArray → Option Value} {L : ByteArray → Option (List ByteArray)}
/-- A line's row is stored in the second table. -/
theorem NewStO.cmd (h : NewStO w B0 scr np ps nc cs m1 m2 g v16 v19 k1 k2 files cmds L W) {s : ByteArray} {v v' : Value} {n : Nat} {xs : List Value} (ho : W.ownsRow w.heap.size 59 3 v n xs) (hb : Below w.heap.size w W') (hsz : W.heap.size ≤ W'.heap.size)
    (hm : MapF Try.prog 9 W' m2 (k2 + 1) (upd cmds s v')) (hk : ∀ j, j < W.heap.size → j ≠ m2 → v.ownBlock ≠ some j → W'.heap[j]? = W.heap[j]?) : NewStO w B0 scr np ps nc cs m1 m2 g v16 v19 k1 (k2 + 1) files (upd cmds s v') L W' := by
  obtain ⟨es, cc, hc⟩ := h.c.obj
  have hq : ∀ (j : Nat) (c : Array Value) (e : TypeId), W.heap[j]? = some (Obj.cells c e (0, 0)) → e ≠ 59 → W'.heap[j]? = W.heap[j]? := fun j c e hj he => by
    refine hk j (Array.getElem?_eq_some_iff.1 hj).1 ?_ ?_
    · rintro rfl
      rw [hc] at hj; cases hj
    · intro e'
      obtain ⟨c', hc'⟩ := own_obj ho e'
      rw [hj] at hc'; cases hc'
      exact he rfl
  obtain ⟨es1, cc1, hf⟩ := h.f.obj
  refine ⟨hb, (hq _ _ _ h.box (by decide)).trans h.box, (hq _ _ _ h.hd (by decide)).trans h.hd, h.f.same (hk _ h.f.lt h.ne ?_), hm, h.ne, h.la, h.lb, h.lg,
    own_same h.env (fun j hj => by obtain ⟨c, hc⟩ := own_obj h.env hj; exact hq j _ _ hc (by decide)), own_same h.clock (fun j hj => by obtain ⟨c, hc⟩ := own_obj h.clock hj; exact hq j _ _ hc (by decide)),
    h.holds.same hsz (fun j c hc => hq j _ _ hc (by decide))⟩
  intro e
  obtain ⟨c, hc'⟩ := own_obj ho e
  rw [hf] at hc'; cases hc'
theorem NewStO.cmd_round {W6 W7 : World} {F F' : ByteArray → List CM} {s : ByteArray} {l : List CT} {x : CT} {y : CM} {g' cap : Nat} (h : NewStO w B0 scr np ps nc cs m1 m2 g v16 v19 k1 k2 files cmds L W) (hC : CmdsHoldO w.heap.size W cmds F) (hal : AreCmdsO w.heap.size W l (F s))
    (hol : W.ownsRow w.heap.size 59 3 (rowOf cmds s) l.length (l.flatMap cmdC)) (hx : CmdIsO w.heap.size W x y) (hown : W6.ownsRow w.heap.size 59 3 (.slice (some ⟨g', 0, none⟩) (l.length + 1) cap) (l.length + 1) (l.flatMap cmdC ++ cmdC x)) (hgr : W.grownBy W6 (rowOf cmds s).ownBlock)
    (hloc : (rowOf cmds s).ownBlock = some g' ∨ W.heap.size ≤ g') (hm : MapF Try.prog 9 W7 m2 (k2 + 1) (upd cmds s (.slice (some ⟨g', 0, none⟩) (l.length + 1) cap))) (hg7 : W6.grownBy W7 (some m2)) (h1 : F' s = F s ++ [y]) (h2 : ∀ t, t ≠ s → F' t = F t) :
    NewStO w B0 scr np ps nc cs m1 m2 g v16 v19 k1 (k2 + 1) files (upd cmds s (.slice (some ⟨g', 0, none⟩) (l.length + 1) cap)) L W7 ∧ CmdsHoldO w.heap.size W7 (upd cmds s (.slice (some ⟨g', 0, none⟩) (l.length + 1) cap)) F' := by
  obtain ⟨es, cc, hc⟩ := h.c.obj
  have hsz : W.heap.size ≤ W7.heap.size := Nat.le_trans hgr.size hg7.size
  have hk : ∀ j, j < W.heap.size → j ≠ m2 → (rowOf cmds s).ownBlock ≠ some j → W7.heap[j]? = W.heap[j]? := fun j hj hn ho => (hg7.block j (Nat.lt_of_lt_of_le hj hgr.size) (by simp; exact hn)).trans (hgr.block j hj (fun e => ho e.symm))
  have hb : Below w.heap.size w W7 := ⟨hg7.os.trans (hgr.os.trans h.below.os), hg7.tape.trans (hgr.tape.trans h.below.tape), hg7.output.trans (hgr.output.trans h.below.output), Nat.le_trans h.below.size hsz, fun k hk' => by
    refine (hk k (Nat.lt_of_lt_of_le hk' h.below.size) (by have := h.lb; omega) ?_).trans (h.below.block k hk')
    intro e
    have := (hol.lt k e).1
    omega⟩
  have hstr : ∀ (j : Nat) (cs : Array Value), W.heap[j]? = some (Obj.cells cs 9 (0, 0)) → W7.heap[j]? = W.heap[j]? := fun j cs hj => by
    refine hk j (Array.getElem?_eq_some_iff.1 hj).1 ?_ ?_
    · rintro rfl
      rw [hc] at hj; cases hj
    · intro e
      obtain ⟨c, hc'⟩ := own_obj hol e
      rw [hj] at hc'; cases hc'
  refine ⟨h.cmd hol hb hsz hm hk, hC.snoc hal (hx.same hsz hstr) hsz hc hk (own_same hown (fun j hj => ?_)) rfl hloc h1 h2⟩
  refine hg7.block j (hown.lt j hj).2 ?_
  simp
  rintro rfl
  have hgm : W6.heap[j]? = W.heap[j]? := hgr.block j (Array.getElem?_eq_some_iff.1 hc).1 (fun e => by
    obtain ⟨c, hc'⟩ := own_obj hol e.symm
    rw [hc] at hc'; cases hc')
  obtain ⟨c, hc'⟩ := own_obj hown hj
  rw [hgm, hc] at hc'; cases hc'
end

set_option maxRecDepth 20000 in
set_option maxHeartbeats 8000000 in
theorem new_own (fv cv sv ev kv : Value) (fs : List FT) (cl : List CT) (sl : List ByteArray) (np : Nat) (ps : List Value) (nc : Nat) (cs : List Value) (w : World)
    (hfv : RowB w 57 2 fv fs.length (fs.flatMap fileC)) (hfn : fs.length ≤ 3518437208883) (hf1 : ∀ f ∈ fs, RowB w 9 1 f.2.1 f.2.2.length (f.2.2.map Value.string) ∧ f.2.2.length ≤ 8796093022208 ∧ f.1.size ≤ maxLen)
    (hcv : RowB w 59 3 cv cl.length (cl.flatMap cmdC)) (hcl : cl.length ≤ 2932031007402) (CL : List CM) (hcm : AreCmdsB w cl CL) (hcm2 : ∀ y ∈ CL, y.2.1.length ≤ 8796093022208 ∧ y.1.size ≤ maxLen) (hsv : RowB w 9 1 sv sl.length (sl.map Value.string)) (hsl : sl.length ≤ 8796093022208)
    (hev : RowB w 61 2 ev np ps) (hpn : np ≤ 4398046511104) (hp1 : ∀ u ∈ ps, u.oneCell' = true) (hkv : RowB w 3 1 kv nc cs) (hcn : nc ≤ 17592186044416) (hc1 : ∀ u ∈ cs, u.oneCell' = true) :
    Calls Try.prog 9 #[.agg #[fv, cv, sv, ev, kv]] w fun e w' => ∃ (g m1 m2 n1 n2 : Nat) (v16 v19 : Value) (files cmds : ByteArray → Option Value) (scr : Array Value), e = .returned (.pointer (some ⟨g, 0, none⟩)) ∧ NewStO w w.heap.size scr np ps nc cs m1 m2 g v16 v19 n1 n2 files cmds (stdL (fileL fs) sl 2) w' ∧ n1 ≤ fs.length + 2 ∧ n2 ≤ cl.length ∧ CmdsHoldO w.heap.size w' cmds (cmdF CL) := by
  have hmm := @run_makeMap Try.prog
  obtain ⟨-, A3, c3, rfl, -⟩ := id hfv.1
  obtain ⟨-, A4, c4, rfl, -⟩ := id hcv.1
  obtain ⟨-, A5, c5, rfl, -⟩ := id hsv.1
  generalize hfvv : (Value.slice A3 fs.length c3) = fv at *
  generalize hcvv : (Value.slice A4 cl.length c4) = cv at *
  generalize hsvv : (Value.slice A5 sl.length c5) = sv at *
  obtain ⟨-, A1, c1, rfl, -⟩ := id hev.1
  obtain ⟨-, A2, c2, rfl, -⟩ := id hkv.1
  have HF := Lib.hid (And.intro hfv (And.intro hfn (And.intro hf1 (And.intro hcv (And.intro hcl (And.intro hsv hsl))))))
  have HC0 := Lib.hid (And.intro hcm hcm2)
  have hlenC : cl.length = CL.length := hcm.1
  clear hcm hcm2
  have HVV := Lib.hid (And.intro hfvv (And.intro hcvv hsvv))
  clear hfv hfn hf1 hcv hcl hsv hsl hfvv hcvv hsvv
  go_enter Try.func9, Try.ntmps9
  go_wp2_with fail
  have hb1 : Below w.heap.size w (w.alloc (.cells #[fv, cv, sv, .slice A1 np c1, .slice A2 nc c2] 31)) := (Below.refl _ w).alloc (Nat.le_refl _) _
  have hc1' : (w.alloc (.cells #[fv, cv, sv, .slice A1 np c1, .slice A2 nc c2] 31)).cell? ⟨w.heap.size, 3, none⟩ = some (.slice A1 np c1) ∧ (w.alloc (.cells #[fv, cv, sv, .slice A1 np c1, .slice A2 nc c2] 31)).cell? ⟨w.heap.size, 4, none⟩ = some (.slice A2 nc c2) := ⟨by simp, by simp⟩
  have hbx : (w.alloc (.cells #[fv, cv, sv, .slice A1 np c1, .slice A2 nc c2] 31)).heap[w.heap.size]? = some (.cells #[fv, cv, sv, .slice A1 np c1, .slice A2 nc c2] 31 (0, 0)) := heap_alloc_new _ _
  generalize w.alloc (.cells #[fv, cv, sv, .slice A1 np c1, .slice A2 nc c2] 31) = w1 at *
  have HB1 := Lib.hid (And.intro hb1 hbx)
  clear hbx
  obtain ⟨d3, d4⟩ := hc1'
  have hs1 := hb1.size
  have HE := Lib.hid (fun (wx : World) (hx : Below w1.heap.size w1 wx) => cloneA_pair (.slice A1 np c1) np ps wx ((hev.below (hb1.trans (hx.mono hb1.size))).1) hpn hp1)
  have HK := Lib.hid (fun (wx : World) (hx : Below w1.heap.size w1 wx) => cloneA_int (.slice A2 nc c2) nc cs wx ((hkv.below (hb1.trans (hx.mono hb1.size))).1) hcn hc1)
  clear hev hkv hb1
  refine Code.wp_mono (Q := fun e act W => e = .normal ∧ ∃ (m1 m2 g : Nat) (v16 v19 : Value), act = { tmps := ((.agg #[fv, cv, sv, .slice A1 np c1, .slice A2 nc c2] : Value) :: (.pointer (some ⟨w.heap.size, 0, none⟩) : Value) :: (.pointer none : Value) :: (.pointer (some ⟨g, 0, none⟩) : Value) :: undef :: undef :: undef :: undef :: undef :: undef :: undef :: undef :: (.map (some m1) : Value) :: (.map (some m2) : Value) :: (.pointer (some ⟨w.heap.size, 3, none⟩) : Value) :: (.slice A1 np c1 : Value) :: (v16 : Value) :: (.pointer (some ⟨w.heap.size, 4, none⟩) : Value) :: (.slice A2 nc c2 : Value) :: (v19 : Value) :: (.agg #[.map (some m1), .map (some m2), v16, v19, .slice none 0 0, .slice none 0 0, .int .i64 0] : Value) :: (.pointer (some ⟨g, 0, none⟩) : Value) :: undef :: undef :: undef :: undef :: undef :: undef :: undef :: undef :: undef :: undef :: undef :: undef :: undef :: undef :: undef :: undef :: undef :: undef :: undef :: undef :: undef :: undef :: undef :: undef :: undef :: undef :: undef :: undef :: undef :: undef :: undef :: undef :: undef :: undef :: undef :: undef :: undef :: undef :: undef :: undef :: undef :: undef :: undef :: undef :: undef :: undef :: undef :: undef :: undef :: undef :: undef :: undef :: undef :: undef :: undef :: undef :: undef :: undef :: undef :: undef :: undef :: undef :: undef :: undef :: undef :: undef :: undef :: undef :: undef :: undef :: undef :: []).toArray, defers := [] } ∧ NewHead w1 np ps nc cs W m1 m2 g v16 v19) ?_ ?_
  · rintro e act W ⟨rfl, m1, m2, g, v16, v19, rfl, hN⟩
    have hst : NewStO w w.heap.size #[fv, cv, sv, .slice A1 np c1, .slice A2 nc c2] np ps nc cs m1 m2 g v16 v19 0 0 (fun _ => none) (fun _ => none) (fun _ => none) W :=
      ⟨HB1.out.1.trans (hN.below.mono HB1.out.1.size), (hN.below.block _ (Array.getElem?_eq_some_iff.1 HB1.out.2).1).trans HB1.out.2, hN.hd, hN.a, hN.b, hN.ne, Nat.le_trans HB1.out.1.size hN.la, Nat.le_trans HB1.out.1.size hN.lb, Nat.le_trans HB1.out.1.size hN.lg, own_more hN.env HB1.out.1.size, own_more hN.clock HB1.out.1.size, fun nm => ⟨(fun l hl => by cases hl), fun _ => rfl⟩⟩
    clear hN d3 d4 hs1
    have hbox := hst.box
    obtain ⟨hfvv, hcvv, hsvv⟩ := HVV.out
    subst hfvv hcvv hsvv
    have b0 : W.cell? ⟨w.heap.size, 0, none⟩ = some (.slice A3 fs.length c3) := by simp [World.cell?, hbox]
    clear hbox
    go_wp2_with fail
    go_loopw [25] (fun v25 wr => ∃ (i k : Nat) (files : ByteArray → Option Value), v25 = .int .i64 (i : Int) ∧ i ≤ fs.length ∧ k ≤ i ∧ NewStO w w.heap.size #[.slice A3 fs.length c3, .slice A4 cl.length c4, .slice A5 sl.length c5, .slice A1 np c1, .slice A2 nc c2] np ps nc cs m1 m2 g v16 v19 k 0 files (fun _ => none) (fileL (fs.take i)) wr)
      (fun v25 _ => fs.length - (intOf v25).toNat)
    case atStart => exact ⟨0, 0, _, rfl, Nat.zero_le _, Nat.le_refl _, hst⟩
    case round =>
      clear hst b0
      obtain ⟨i, k, files, rfl, hi, hki, hst⟩ := hrel
      by_cases hlt : i < fs.length
      · have i1 : (i : Int) < (fs.length : Int) := by omega
        have i0 : (0 : Int) ≤ (i : Int) := by omega
        obtain ⟨hfv, hfn, hf1, _⟩ := HF.out
        have hfsl : fs.length ≤ 3518437208883 := hfn
        obtain ⟨hfr, hfl, hfm⟩ := hf1 _ (List.getElem_mem hlt)
        obtain ⟨go, off, rfl, hblt, hcc⟩ := hfv.1.at (Nat.lt_of_le_of_lt (Nat.zero_le _) (List.getElem?_eq_some_iff.1 (fileC_at hlt).1).1)
        have e0 := (hst.below.cell (p := ⟨go, off + i * 2, none⟩) hblt).trans (hcc (i * 2) _ (fileC_at hlt).1)
        have e1 : wr.cell? ⟨go, off + i * 2 + 1, none⟩ = some fs[i].2.1 := (hst.below.cell (p := ⟨go, off + (i * 2 + 1), none⟩) hblt).trans (hcc (i * 2 + 1) _ (fileC_at hlt).2)
        have htk : fs.take (i + 1) = fs.take i ++ [fs[i]] := List.take_succ_eq_append_getElem hlt
        clear hfv hfn hf1 hcc
        generalize fs[i] = x at *
        obtain ⟨nm, cv, ch⟩ := x
        dsimp only at hfr hfl hfm e0 e1
        obtain ⟨_, A6, c6, rfl, _⟩ := id hfr.1
        have hb2 : Below wr.heap.size wr (wr.alloc (.cells #[.string nm, .slice A6 ch.length c6] 57)) := (Below.refl _ wr).alloc (Nat.le_refl _) _
        have hst2 := hst.same hb2
        have hlook := run_lookF_ok (w := (wr.alloc (.cells #[.string nm, .slice A6 ch.length c6] 57)).drew) 69 9 23 Try.underlying9 Try.underlying69 (zero_strs _) m1 k files (hst2.f.same rfl) nm hfm
        obtain ⟨d0, _⟩ := (hd_cells hst2.hd).1
        have hloc : (wr.alloc (.cells #[.string nm, .slice A6 ch.length c6] 57)).cell? ⟨wr.heap.size, 0, none⟩ = some (.string nm) ∧ (wr.alloc (.cells #[.string nm, .slice A6 ch.length c6] 57)).cell? ⟨wr.heap.size, 1, none⟩ = some (.slice A6 ch.length c6) := ⟨by simp, by simp⟩
        obtain ⟨l0, l1⟩ := hloc
        have HC := Lib.hid (fun (wx : World) (hx : Below (wr.alloc (.cells #[.string nm, .slice A6 ch.length c6] 57)).heap.size (wr.alloc (.cells #[.string nm, .slice A6 ch.length c6] 57)) wx) => cloneA_str (.slice A6 ch.length c6) ch.length (ch.map Value.string) wx ((hfr.below (hst2.below.trans (hx.mono hst2.below.size))).1) hfl (str_one ch))
        have H := Lib.hid (And.intro hst2 (And.intro htk (And.intro hfr (And.intro hfl hfm))))
        clear hst hst2 hb2 htk hfr
        go_wp2_with fail
        generalize wr.alloc (.cells #[.string nm, .slice A6 ch.length c6] 57) = w2 at *
        cases hfn : files nm with
        | some v =>
          rw [hfn] at hlook
          simp only [Option.getD_some, Option.isSome_some] at hlook
          go_region_with (fail)
          all_goals
            go_wp2_with fail
            go_roundw
            case rel =>
              obtain ⟨hst2, htk, hfr, hfl, hfm⟩ := H.out
              refine ⟨i + 1, k, files, by go_num, by omega, by omega, ?_⟩
              rw [htk, fileL_oldO hst2.holds (f := (nm, .slice A6 ch.length c6, ch)) hfn]
              exact hst2.same ((Below.refl _ _).drew)
            case measure => simp [intOf]; omega
        | none =>
          rw [hfn] at hlook
          simp only [Option.getD_none, Option.isSome_none] at hlook
          go_region_with (fail)
          all_goals
            go_wp2_with fail
            go_region_with (go_at_call 29; refine (HC.out _ ((Below.refl _ _).drew.drew)).mono ?_; rintro e wC ⟨vC, rfl, hownC, hbC⟩; obtain ⟨AC, cC, rfl⟩ := own_shape hownC; have dC := (hbC.cell (lt_of_cell d0)).trans d0; have lC0 := (hbC.cell (lt_of_cell l0)).trans l0; have hstC := H.out.1.same ((Below.refl _ _).drew.drew.trans hbC); obtain ⟨w9, hr9, hm9, hg9⟩ := run_storeF 69 9 23 Try.underlying9 Try.underlying69 m1 k files hstC.f (by unfold maxLen; omega) nm hfm (.slice AC ch.length cC))
            all_goals
              go_wp2_with fail
              go_roundw
              case rel =>
                obtain ⟨hst2, htk, hfr, hfl, hfm⟩ := H.out
                refine ⟨i + 1, k + 1, upd files nm (.slice AC ch.length cC), by go_num, by omega, by omega, ?_⟩
                obtain ⟨f1, f2⟩ := fileL_newO hst2.holds (f := (nm, .slice A6 ch.length c6, ch)) hfn
                rw [htk]
                exact hstC.file (l := ch) (by simpa using own_more hownC hst2.below.size) hm9 hg9 f1 f2
              case measure => simp [intOf]; omega
      · obtain rfl : i = fs.length := by omega
        have htk : fs.take fs.length = fs := List.take_length
        rw [htk] at hst
        clear htk
        obtain ⟨_, hfn, _, _, _, hsv, hsl⟩ := HF.out
        have hfsl : fs.length ≤ 3518437208883 := hfn
        have HC := Lib.hid (fun (wx : World) (hx : Below w.heap.size w wx) => cloneA_str (.slice A5 sl.length c5) sl.length (sl.map Value.string) wx ((hsv.below hx).1) hsl (str_one sl))
        clear hfn hsv hsl
        go_wp2_with fail
        go_loopw [52] (fun v52 wr => ∃ (i k : Nat) (files : ByteArray → Option Value), v52 = .int .i64 (i : Int) ∧ i ≤ 2 ∧ k ≤ fs.length + i ∧ NewStO w w.heap.size #[.slice A3 fs.length c3, .slice A4 cl.length c4, .slice A5 sl.length c5, .slice A1 np c1, .slice A2 nc c2] np ps nc cs m1 m2 g v16 v19 k 0 files (fun _ => none) (stdL (fileL fs) sl i) wr)
          (fun v52 _ => 2 - (intOf v52).toNat)
        case atStart => exact ⟨0, k, files, rfl, Nat.zero_le _, by omega, hst⟩
        case round =>
          clear hst hki hlt
          have i0 : ∀ w, (Instr.index 77 (.agg #[.string ⟨#[]⟩, .string ⟨#[45]⟩]) (.int .i64 0)).run Try.prog w = .ok (.string ⟨#[]⟩) w := fun w => by kernel_rfl
          have i1 : ∀ w, (Instr.index 77 (.agg #[.string ⟨#[]⟩, .string ⟨#[45]⟩]) (.int .i64 1)).run Try.prog w = .ok (.string ⟨#[45]⟩) w := fun w => by kernel_rfl
          obtain ⟨i, k, files, hv52, hi, hki, hst⟩ := hrel
          obtain ⟨d0, _⟩ := (hd_cells hst.hd).1
          have b2 : wr.cell? ⟨w.heap.size, 2, none⟩ = some (.slice A5 sl.length c5) := by have hbox := hst.box; simp [World.cell?, hbox]
          obtain rfl | rfl | rfl : i = 0 ∨ i = 1 ∨ i = 2 := by omega
          · replace hv52 : _ = Value.int .i64 0 := hv52
            subst hv52
            have H := Lib.hid hst
            clear hst
            go_wp2_with fail
            go_region_with (go_at_call 29; refine (HC.out _ (H.out.below.trans ((Below.refl _ _).drew.mono H.out.below.size))).mono ?_; rintro e wC ⟨vC, rfl, hownC, hbC⟩; obtain ⟨AC, cC, rfl⟩ := own_shape hownC; have dC := (hbC.cell (lt_of_cell d0)).trans d0; have hstC := H.out.same ((Below.refl _ _).drew.trans hbC); obtain ⟨w9, hr9, hm9, hg9⟩ := run_storeF 69 9 23 Try.underlying9 Try.underlying69 m1 k files hstC.f (by unfold maxLen; omega) ⟨#[]⟩ (by decide) (.slice AC sl.length cC))
            all_goals
              go_wp2_with fail
              go_roundw
              case rel => exact ⟨1, k + 1, _, by go_num, by omega, by omega, hstC.file (l := sl) (by simpa using own_more hownC H.out.below.size) hm9 hg9 putL_same putL_ne⟩
              case measure => simp [intOf]
          · replace hv52 : _ = Value.int .i64 1 := hv52
            subst hv52
            have H := Lib.hid hst
            clear hst
            go_wp2_with fail
            go_region_with (go_at_call 29; refine (HC.out _ (H.out.below.trans ((Below.refl _ _).drew.mono H.out.below.size))).mono ?_; rintro e wC ⟨vC, rfl, hownC, hbC⟩; obtain ⟨AC, cC, rfl⟩ := own_shape hownC; have dC := (hbC.cell (lt_of_cell d0)).trans d0; have hstC := H.out.same ((Below.refl _ _).drew.trans hbC); obtain ⟨w9, hr9, hm9, hg9⟩ := run_storeF 69 9 23 Try.underlying9 Try.underlying69 m1 k files hstC.f (by unfold maxLen; omega) ⟨#[45]⟩ (by decide) (.slice AC sl.length cC))
            all_goals
              go_wp2_with fail
              go_roundw
              case rel => exact ⟨2, k + 1, _, by go_num, by omega, by omega, hstC.file (l := sl) (by simpa using own_more hownC H.out.below.size) hm9 hg9 putL_same putL_ne⟩
              case measure => simp [intOf]
          · replace hv52 : _ = Value.int .i64 2 := hv52
            subst hv52
            clear d0 b2
            have b1 : wr.cell? ⟨w.heap.size, 1, none⟩ = some (.slice A4 cl.length c4) := by have hbox := hst.box; simp [World.cell?, hbox]
            clear HC i0 i1
            have hCH := CmdsHoldO.none w.heap.size wr
            obtain ⟨_, _, _, hcv, hcl, _, _⟩ := HF.out
            obtain ⟨hcm, hcm2⟩ := HC0.out
            have HCM := Lib.hid (And.intro hcm (And.intro hcm2 hcv))
            clear hcm hcm2 hcv
            go_wp2_with fail
            go_loopw [67] (fun v67 wr => ∃ (i : Nat) (cmds : ByteArray → Option Value), v67 = .int .i64 (i : Int) ∧ i ≤ cl.length ∧ NewStO w w.heap.size #[.slice A3 fs.length c3, .slice A4 cl.length c4, .slice A5 sl.length c5, .slice A1 np c1, .slice A2 nc c2] np ps nc cs m1 m2 g v16 v19 k i files cmds (stdL (fileL fs) sl 2) wr ∧ CmdsHoldO w.heap.size wr cmds (cmdF (CL.take i)))
              (fun v67 _ => cl.length - (intOf v67).toNat)
            case atStart => exact ⟨0, _, rfl, Nat.zero_le _, hst, hCH⟩
            case round =>
              clear hst hCH b1
              obtain ⟨i, cmds, rfl, hi, hst, hCH⟩ := hrel
              by_cases hlt : i < cl.length
              · have i1 : (i : Int) < (cl.length : Int) := by omega
                have i0 : (0 : Int) ≤ (i : Int) := by omega
                obtain ⟨hcm, hcm2, hcv⟩ := HCM.out
                have hlt2 : i < CL.length := by omega
                have hci := hcm.2 i cl[i] CL[i] (List.getElem?_eq_getElem hlt) (List.getElem?_eq_getElem hlt2)
                obtain ⟨hyl, hys⟩ := hcm2 _ (List.getElem_mem hlt2)
                have htk : CL.take (i + 1) = CL.take i ++ [CL[i]] := List.take_succ_eq_append_getElem hlt2
                obtain ⟨q0, q1, q2⟩ := cmdC_at hlt
                obtain ⟨go, off, rfl, hblt, hcc⟩ := hcv.1.at (Nat.lt_of_le_of_lt (Nat.zero_le _) (List.getElem?_eq_some_iff.1 q0).1)
                have e0 : wr.cell? ⟨go, off + i * 3, none⟩ = some (.string cl[i].1) := (hst.below.cell (p := ⟨go, off + i * 3, none⟩) hblt).trans (hcc (i * 3) _ q0)
                have e1 : wr.cell? ⟨go, off + i * 3 + 1, none⟩ = some cl[i].2.1 := (hst.below.cell (p := ⟨go, off + (i * 3 + 1), none⟩) hblt).trans (hcc (i * 3 + 1) _ q1)
                have e2 : wr.cell? ⟨go, off + i * 3 + 2, none⟩ = some (.int .i64 cl[i].2.2) := (hst.below.cell (p := ⟨go, off + (i * 3 + 2), none⟩) hblt).trans (hcc (i * 3 + 2) _ q2)
                clear hcm hcm2 hcv hcc q0 q1 q2
                generalize CL[i] = y at *
                generalize cl[i] = x at *
                obtain ⟨x1, x2, x3⟩ := x
                obtain ⟨y1, y2, y3⟩ := y
                obtain ⟨hx1, hx3, hx2⟩ := hci
                dsimp only at hx1 hx2 hx3 hyl hys e0 e1 e2
                subst hx1 hx3
                obtain ⟨_, A6, c6, rfl, _⟩ := id hx2.1
                obtain ⟨l, hal, hol⟩ := hCH.each x1
                obtain ⟨A7, c7, hr7⟩ := own_shape hol
                have hll : l.length ≤ i := by rw [hal.1]; exact Nat.le_trans (List.length_filter_le _ _) (by simp; omega)
                have hb2 : Below wr.heap.size wr (wr.alloc (.cells #[.string x1, .slice A6 y2.length c6, .int .i64 x3] 59)) := (Below.refl _ wr).alloc (Nat.le_refl _) _
                have hloc : (wr.alloc (.cells #[.string x1, .slice A6 y2.length c6, .int .i64 x3] 59)).heap[wr.heap.size]? = some (.cells #[.string x1, .slice A6 y2.length c6, .int .i64 x3] 59 (0, 0)) := heap_alloc_new _ _
                have hst2 := hst.same hb2
                have hsz2 : (wr.alloc (.cells #[.string x1, .slice A6 y2.length c6, .int .i64 x3] 59)).heap.size = wr.heap.size + 1 := by simp
                obtain ⟨_, d1, _⟩ := (hd_cells hst2.hd).1
                have HC := Lib.hid (fun (wx : World) (hx : Below (wr.alloc (.cells #[.string x1, .slice A6 y2.length c6, .int .i64 x3] 59)).heap.size (wr.alloc (.cells #[.string x1, .slice A6 y2.length c6, .int .i64 x3] 59)) wx) => cloneA_str (.slice A6 y2.length c6) y2.length (y2.map Value.string) wx ((hx2.below (hst2.below.trans (hx.mono hst2.below.size))).1) hyl (str_one y2))
                have l1 : (wr.alloc (.cells #[.string x1, .slice A6 y2.length c6, .int .i64 x3] 59)).cell? ⟨wr.heap.size, 1, none⟩ = some (.slice A6 y2.length c6) := by simp
                have H := Lib.hid (And.intro hst (And.intro hCH (And.intro hb2 (And.intro htk (And.intro hx2 (And.intro hyl hys))))))
                have H2 := Lib.hid (And.intro hal (And.intro hol (And.intro hr7 hst2)))
                clear hst hCH hb2 htk hx2 hst2 hal hol hr7
                go_wp2_with fail
                refine (HC.out _ (Below.refl _ _)).mono ?_
                rintro e wC ⟨vC, rfl, hownC, hbC⟩
                obtain ⟨AC, cC, rfl⟩ := own_shape hownC
                have hlocC := (hbC.block _ (by rw [hsz2]; omega)).trans hloc
                have f1 := frozen_of_row wC wr.heap.size 1 _ _ hlocC
                have k1 : wC.cell? ⟨wr.heap.size, 1, none⟩ = some (.slice A6 y2.length c6) := by simp [World.cell?, hlocC]
                have hl3 := heap_setCell_same wC wr.heap.size 1 _ _ (.slice AC y2.length cC) hlocC
                have hb3 : Below wr.heap.size wr (wC.setCell ⟨wr.heap.size, 1, none⟩ (.slice AC y2.length cC)) := setCell_below (H.out.2.2.1.trans (hbC.mono (by omega))) _ _ (Nat.le_refl _)
                have hv3 : (wC.setCell ⟨wr.heap.size, 1, none⟩ (.slice AC y2.length cC)).ownsRow w.heap.size 9 1 (.slice AC y2.length cC) y2.length (y2.map Value.string) := own_sameT (own_more hownC H2.out.2.2.2.below.size) (Nat.le_of_eq (World.size_setCell _ _ _).symm) (fun j cs hc => heap_setCell_other _ _ _ _ (by rintro rfl; rw [hlocC] at hc; cases hc))
                clear d1 l1 hloc hbC hownC HC
                go_wp2_with fail
                clear f1 k1 hlocC
                generalize wC.setCell ⟨wr.heap.size, 1, none⟩ (.slice AC y2.length cC) = w3 at *
                have hst3 := H.out.1.same hb3
                have hol3 : OwnZ w3.drew w.heap.size 59 3 (.slice A7 l.length c7) l.length (l.flatMap cmdC) := .inl (by rw [← H2.out.2.2.1]; exact own_drew (own_below' H2.out.2.1 hb3))
                have hd3 := hst3.hd
                have hgl : g < w3.heap.size := (Array.getElem?_eq_some_iff.1 hd3).1
                have hll3 : wr.heap.size < w3.heap.size := (Array.getElem?_eq_some_iff.1 hl3).1
                have hlo3 : w.heap.size ≤ w3.heap.size := hst3.below.size
                obtain ⟨_, d1, _⟩ := (hd_cells hd3).1
                have hl3' : w3.heap[wr.heap.size]? = some (.cells #[.string x1, .slice AC y2.length cC, .int .i64 x3] 59 (0, 0)) := hl3
                have n0 : w3.cell? ⟨wr.heap.size, 0, none⟩ = some (.string x1) := by simp [World.cell?, hl3']
                have n1 : w3.cell? ⟨wr.heap.size, 1, none⟩ = some (.slice AC y2.length cC) := by simp [World.cell?, hl3']
                have n2 : w3.cell? ⟨wr.heap.size, 2, none⟩ = some (.int .i64 x3) := by simp [World.cell?, hl3']
                have hk1 := run_lookR (w := w3.drew) m2 i cmds (hst3.c.same rfl) x1 hys H2.out.2.2.1
                have hk2 := run_lookR (w := (w3.alloc (.cells #[.string x1, .slice AC y2.length cC, .int .i64 x3] 59)).drew) m2 i cmds (hst3.c.same (heap_alloc_old _ _ hst3.c.lt)) x1 hys H2.out.2.2.1
                have hng : some g ≠ (Value.slice A7 l.length c7).ownBlock := fun e => by
                  obtain ⟨c, hc⟩ := hol3.obj e.symm
                  rw [show w3.drew.heap[g]? = w3.heap[g]? from rfl, hd3] at hc; cases hc
                have hnl : some wr.heap.size ≠ (Value.slice A7 l.length c7).ownBlock := fun e => by
                  have := (H2.out.2.1.lt wr.heap.size (by rw [H2.out.2.2.1]; exact e.symm)).2
                  omega
                have hnm : some m2 ≠ (Value.slice A7 l.length c7).ownBlock := fun e => by
                  obtain ⟨c, hc⟩ := hol3.obj e.symm
                  obtain ⟨es, cc, ho⟩ := hst3.c.obj
                  rw [show w3.drew.heap[m2]? = w3.heap[m2]? from rfl, ho] at hc; cases hc
                have H3 := Lib.hid (And.intro hst3 (And.intro hb3 (And.intro hv3 hl3')))
                clear hb3 hv3 hl3 hst3
                have hk3 : (Instr.lookup 70 (.map (some m2)) (.string x1) false).run Try.prog (w3.drew.alloc (.cells #[.string x1, .slice AC y2.length cC, .int .i64 x3] 59)) = .ok (.slice A7 l.length c7) (w3.drew.alloc (.cells #[.string x1, .slice AC y2.length cC, .int .i64 x3] 59)) := hk2
                have hS3 : w3.drew.cell? ⟨g, 1, none⟩ = some (.map (some m2)) ∧ w3.drew.cell? ⟨wr.heap.size, 0, none⟩ = some (.string x1) ∧ w3.drew.cell? ⟨wr.heap.size, 1, none⟩ = some (.slice AC y2.length cC) ∧ w3.drew.cell? ⟨wr.heap.size, 2, none⟩ = some (.int .i64 x3) := ⟨d1, n0, n1, n2⟩
                have hSa : (w3.drew.alloc (.cells #[.string x1, .slice AC y2.length cC, .int .i64 x3] 59)).cell? ⟨g, 1, none⟩ = some (.map (some m2)) ∧ (w3.drew.alloc (.cells #[.string x1, .slice AC y2.length cC, .int .i64 x3] 59)).cell? ⟨wr.heap.size, 0, none⟩ = some (.string x1) ∧ (w3.drew.alloc (.cells #[.string x1, .slice AC y2.length cC, .int .i64 x3] 59)).cell? ⟨wr.heap.size, 1, none⟩ = some (.slice AC y2.length cC) ∧ (w3.drew.alloc (.cells #[.string x1, .slice AC y2.length cC, .int .i64 x3] 59)).cell? ⟨wr.heap.size, 2, none⟩ = some (.int .i64 x3) := by
                  have hbA : Below w3.heap.size w3 (w3.drew.alloc (.cells #[.string x1, .slice AC y2.length cC, .int .i64 x3] 59)) := (Below.refl _ w3).drew.alloc (Nat.le_refl _) _
                  exact ⟨(hbA.cell (p := ⟨g, 1, none⟩) hgl).trans d1, (hbA.cell (p := ⟨wr.heap.size, 0, none⟩) hll3).trans n0, (hbA.cell (p := ⟨wr.heap.size, 1, none⟩) hll3).trans n1, (hbA.cell (p := ⟨wr.heap.size, 2, none⟩) hll3).trans n2⟩
                have hm2l : m2 < w3.heap.size := H3.out.1.c.lt
                have hgm : g ≠ m2 := by
                  rintro rfl
                  obtain ⟨es, cc, ho⟩ := H3.out.1.c.obj
                  rw [hd3] at ho; cases ho
                have hlm : wr.heap.size ≠ m2 := by
                  rintro rfl
                  obtain ⟨es, cc, ho⟩ := H3.out.1.c.obj
                  rw [hl3'] at ho; cases ho
                go_region_held3 (fun W => W.cell? ⟨g, 1, none⟩ = some (.map (some m2)) ∧ W.cell? ⟨wr.heap.size, 0, none⟩ = some (.string x1) ∧ W.cell? ⟨wr.heap.size, 1, none⟩ = some (.slice AC y2.length cC) ∧ W.cell? ⟨wr.heap.size, 2, none⟩ = some (.int .i64 x3))
                  (first | exact hS3 | exact hSa | exact hS6 | exact hS7)
                  (first
                    | (refine step_appendZ (w := w3.drew) (us := #[.string x1, .slice AC y2.length cC, .int .i64 x3]) 27 59 (.tmp 87) (.tmp 89) rfl rfl w.heap.size Try.underlying27 cmd_info rfl (by decide) rfl hol3 rfl rfl rfl (by decide) (by intro u hu; simp only [List.mem_cons, List.not_mem_nil, or_false] at hu; rcases hu with rfl | rfl | rfl <;> rfl) (by unfold maxLen; omega) (by omega) hlo3 ?_; intro g' cap w6 hown' hgr hloc; have hdw := (hgr.block g hgl hng).trans hd3; have hlw := (hgr.block wr.heap.size hll3 hnl).trans hl3'; have hS6 := cellsOf hdw hlw; obtain ⟨w7, hr7', hm7, hg7⟩ := run_storeF 70 9 27 Try.underlying9 Try.underlying70 m2 i cmds (H3.out.1.c.same (hgr.block m2 H3.out.1.c.lt hnm)) (by unfold maxLen; omega) x1 hys (.slice (some ⟨g', 0, none⟩) (l.length + 1) cap); have hS7 := cellsOf ((hg7.block g (Nat.lt_of_lt_of_le hgl hgr.size) (by simp; exact hgm)).trans hdw) ((hg7.block wr.heap.size (Nat.lt_of_lt_of_le hll3 hgr.size) (by simp; exact hlm)).trans hlw)))
                all_goals
                  clear hS3 hSa hS6 hS7 hk1 hk2 hk3 hdw hlw n0 n1 n2 d1 hr7'
                  go_wp2_with fail
                  go_roundw
                  case rel =>
                    obtain ⟨hst0, hCH0, _, htk, _, _, _⟩ := H.out
                    obtain ⟨hst3, hb3, hv3, _⟩ := H3.out
                    obtain ⟨hal, hol, hr7, _⟩ := H2.out
                    obtain ⟨f1, f2⟩ := cmdF_snoc (CL.take i) (x1, y2, x3)
                    have hbd : Below wr.heap.size wr w3.drew := hb3.drew
                    refine ⟨i + 1, upd cmds x1 (.slice (some ⟨g', 0, none⟩) (l.length + 1) cap), by go_num, by omega, ?_⟩
                    rw [htk]
                    exact NewStO.cmd_round (W := w3.drew) (x := (x1, .slice AC y2.length cC, x3)) (y := (x1, y2, x3)) (hst3.same ((Below.refl _ _).drew)) (hCH0.same hbd) (hal.same hbd.size (fun j cs hc => hbd.block j (Array.getElem?_eq_some_iff.1 hc).1)) (own_below' hol hbd)
                      ⟨rfl, rfl, hv3⟩ hown' (by rw [hr7]; exact hgr) (by rw [hr7]; exact hloc) hm7 hg7 f1 f2
                  case measure => simp [intOf]; omega
              · obtain rfl : i = cl.length := by omega
                go_wp2_with fail
                go_ret
                rw [hlenC, List.take_length] at hCH
                exact ⟨_, _, _, _, _, _, _, _, _, _, rfl, hst, by omega, Nat.le_refl _, hCH⟩
  · go_region_held3 (fun W => W.cell? ⟨w.heap.size, 3, none⟩ = some (.slice A1 np c1) ∧ W.cell? ⟨w.heap.size, 4, none⟩ = some (.slice A2 nc c2) ∧ Below w1.heap.size w1 W)
      (first
        | exact ⟨d3, d4, (Below.refl _ w1).drew⟩
        | (go_split_ands; refine ⟨(Below.cell (by assumption) (lt_of_cell (by assumption))).trans (by assumption), (Below.cell (by assumption) (lt_of_cell (by assumption))).trans (by assumption), below_step (by assumption) (by assumption) (Below.size (by assumption))⟩)
        | (go_split_ands; refine ⟨(Below.cell ((Below.refl _ _).alloc (Nat.le_refl _) _) (lt_of_cell (by assumption))).trans (by assumption), (Below.cell ((Below.refl _ _).alloc (Nat.le_refl _) _) (lt_of_cell (by assumption))).trans (by assumption), below_alloc (by assumption) (Below.size (by assumption)) _⟩))
      (first
        | (go_at_call 27; go_split_ands; refine (HE.out _ (by assumption)).mono ?_; rintro e wE ⟨vE, rfl, hownE, hbE⟩; obtain ⟨AE, cE, rfl⟩ := own_shape hownE)
        | (go_at_call 28; go_split_ands; refine (HK.out _ (by assumption)).mono ?_; rintro e wK ⟨vK, rfl, hownK, hbK⟩; obtain ⟨AK, cK, rfl⟩ := own_shape hownK))
    all_goals
      go_split_ands
      have s1 := hbE.size
      have s2 := hbK.size
      try simp only [World.size_alloc, World.heap_drew'] at s1 s2
      refine ⟨rfl, _, _, _, _, _, rfl, by assumption, ?_, ?_, by omega, by omega, by omega, by omega, ?_, ?_, heap_new' (by first | rfl | simp)⟩
      · refine NewMap.mapF ?_
        iterate 7 (try (first | (with_reducible refine NewMap.base _ ?_; first | rfl | (simp; done)) | (with_reducible refine NewMap.alloc ?_ _) | (with_reducible refine NewMap.drew ?_) | (with_reducible refine NewMap.below ?_ hbE) | (with_reducible refine NewMap.below ?_ hbK)))
      · refine NewMap.mapF ?_
        iterate 7 (try (first | (with_reducible refine NewMap.base _ ?_; first | rfl | (simp; done)) | (with_reducible refine NewMap.alloc ?_ _) | (with_reducible refine NewMap.drew ?_) | (with_reducible refine NewMap.below ?_ hbE) | (with_reducible refine NewMap.below ?_ hbK)))
      · iterate 7 (try (first | (with_reducible refine own_more hownE (Below.size (B := w1.heap.size) (by assumption))) | (with_reducible refine own_alloc ?_ _) | (with_reducible refine own_drew ?_) | (with_reducible refine own_below' ?_ hbE) | (with_reducible refine own_below' ?_ hbK)))
      · iterate 7 (try (first | (with_reducible refine own_more hownK (Below.size (B := w1.heap.size) (by assumption))) | (with_reducible refine own_alloc ?_ _) | (with_reducible refine own_drew ?_) | (with_reducible refine own_below' ?_ hbE) | (with_reducible refine own_below' ?_ hbK)))


end Go.Proofs.Yticinbkgmfoeoaa
