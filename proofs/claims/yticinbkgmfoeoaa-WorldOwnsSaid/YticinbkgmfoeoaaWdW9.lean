/- A world is made: its head, walked. -/
import Derived.Test.YticinbkgmfoeoaaWdW8
namespace Go.Proofs.Yticinbkgmfoeoaa
open Go.RowKit
set_option linter.unusedVariables false

/-- Block k is an empty map in W. -/
structure NewMap (k : Nat) (W : World) : Prop where
  hm : W.heap[k]? = some (.map #[] 0)
theorem NewMap.base (X : World) {k : Nat} (h : X.heap.size = k) : NewMap k (X.alloc (.map #[] 0)) := ⟨by subst h; exact heap_alloc_new _ _⟩
theorem NewMap.lt {k : Nat} {W : World} (h : NewMap k W) : k < W.heap.size := (Array.getElem?_eq_some_iff.1 h.hm).1
theorem NewMap.alloc {k : Nat} {W : World} (h : NewMap k W) (o : Obj) : NewMap k (W.alloc o) := ⟨(heap_alloc_old W o h.lt).trans h.hm⟩
theorem NewMap.drew {k : Nat} {W : World} (h : NewMap k W) : NewMap k W.drew := ⟨h.hm⟩
theorem NewMap.below {k : Nat} {W W' : World} (h : NewMap k W) (hb : Below W.heap.size W W') : NewMap k W' := ⟨(hb.block _ h.lt).trans h.hm⟩
theorem NewMap.mapF {k : Nat} {W : World} (h : NewMap k W) : MapF Try.prog 9 W k 0 (fun _ => none) := by
  obtain ⟨D, ⟨es, c, h1, h2⟩, h3⟩ := MapF_made default Try.prog 9
  rw [heap_alloc_new] at h1
  cases h1
  exact ⟨D, ⟨#[], 0, h.hm, h2⟩, h3⟩
theorem own_drew {w : World} {base : Nat} {e : TypeId} {s : Nat} {v : Value} {n : Nat} {xs : List Value} (h : w.ownsRow base e s v n xs) : w.drew.ownsRow base e s v n xs := h
theorem heap_new' {W : World} {o : Obj} {k : Nat} (h : W.heap.size = k) : (W.alloc o).heap[k]? = some o := by subst h; exact heap_alloc_new _ _
theorem World.heap_drew' (w : World) : w.drew.heap = w.heap := rfl
theorem own_alloc {w : World} {base : Nat} {e : TypeId} {s : Nat} {v : Value} {n : Nat} {xs : List Value} (h : w.ownsRow base e s v n xs) (o : Obj) : (w.alloc o).ownsRow base e s v n xs := h.alloc o
theorem own_below' {w w' : World} {base : Nat} {e : TypeId} {s : Nat} {v : Value} {n : Nat} {xs : List Value} (h : w.ownsRow base e s v n xs) (hb : Below w.heap.size w w') : w'.ownsRow base e s v n xs := own_same h (fun j hj => hb.block j (h.lt j hj).2)
theorem below_alloc {B : Nat} {a w : World} (h : Below B a w) (hB : B ≤ w.heap.size) (o : Obj) : Below B a (w.alloc o) := h.alloc hB o
theorem below_step {B : Nat} {a w w' : World} (h : Below B a w) (hb : Below w.heap.size w w') (hB : B ≤ w.heap.size) : Below B a w' := h.trans (hb.mono hB)

/-- The cells of a script. -/
def pairC (p : ByteArray × ByteArray) : List Value := [.string p.1, .string p.2]
theorem pairC_one (l : List (ByteArray × ByteArray)) : ∀ u ∈ l.flatMap pairC, u.oneCell' = true := by
  intro u hu
  obtain ⟨x, _, hx⟩ := List.mem_flatMap.1 hu
  simp only [pairC, List.mem_cons, List.not_mem_nil, or_false] at hx
  rcases hx with rfl | rfl <;> rfl
theorem int_one (l : List Int) : ∀ u ∈ l.map (Value.int .i64), u.oneCell' = true := by
  intro u hu
  obtain ⟨x, _, rfl⟩ := List.mem_map.1 hu
  rfl

/-- What the head of New leaves. -/
structure NewHead (w0 : World) (np : Nat) (ps : List Value) (nc : Nat) (cs : List Value) (W : World) (m1 m2 g : Nat) (v16 v19 : Value) : Prop where
  below : Below w0.heap.size w0 W
  a : MapF Try.prog 9 W m1 0 (fun _ => none)
  b : MapF Try.prog 9 W m2 0 (fun _ => none)
  ne : m1 ≠ m2
  la : w0.heap.size ≤ m1
  lb : w0.heap.size ≤ m2
  lg : w0.heap.size ≤ g
  env : W.ownsRow w0.heap.size 61 2 v16 np ps
  clock : W.ownsRow w0.heap.size 3 1 v19 nc cs
  hd : W.heap[g]? = some (.cells #[.map (some m1), .map (some m2), v16, v19, .slice none 0 0, .slice none 0 0, .int .i64 0] 75 (0, 0))

theorem run_lookF_ok {P : Program} {w : World} (t k e : TypeId) (hk : P.underlying k = some .string) (ht : P.underlying t = some (.map k e)) {z : Value} (hz : (zeroValue e).run P w = .ok z w) (b n : Nat) (f : ByteArray → Option Value)
    (hown : MapF P k w b n f) (s : ByteArray) (hs : s.size ≤ maxLen) : (Instr.lookup t (.map (some b)) (.string s) true).run P w = .ok (.tuple #[(f s).getD z, .bool (f s).isSome]) w := by
  obtain ⟨D, h1, _, h2⟩ := hown
  obtain ⟨v, ps, hrun, hv⟩ := h1.look_ok (Maps.string_keyed hk) ht hz (zd := .held z) (zp := []) rfl (Go.WideMaps.keyOf_string_mk (P := P) hk hs)
  rw [show (Lit.string s.data.toList) = kst s from rfl] at hrun hv
  rw [(h2 s).2] at hv
  simp [rawElem] at hv
  obtain ⟨rfl, _⟩ := hv
  rw [(h2 s).1] at hrun
  exact hrun
/-- A file of the script: its name, its chunks as they lie, and as they read. -/
abbrev FT := ByteArray × Value × List ByteArray
def fileC (f : FT) : List Value := [.string f.1, f.2.1]
theorem fileC_at {l : List FT} {i : Nat} (h : i < l.length) : (l.flatMap fileC)[i * 2]? = some (.string l[i].1) ∧ (l.flatMap fileC)[i * 2 + 1]? = some l[i].2.1 := by
  induction l generalizing i with
  | nil => simp at h
  | cons x l ih =>
    cases i with
    | zero => simp [fileC]
    | succ i =>
      have h2 : i < l.length := by simpa using h
      rw [List.flatMap_cons, List.getElem?_append_right (by simp [fileC]; omega), List.getElem?_append_right (by simp [fileC]; omega)]
      have e1 : (i + 1) * 2 - (fileC x).length = i * 2 := by simp [fileC]; omega
      have e2 : (i + 1) * 2 + 1 - (fileC x).length = i * 2 + 1 := by simp [fileC]; omega
      rw [e1, e2]
      simpa using ih h2
def fileL : List FT → ByteArray → Option (List ByteArray)
  | [], _ => none
  | f :: r, nm => if nm = f.1 then some f.2.2 else fileL r nm
theorem fileL_snoc (l : List FT) (f : FT) (nm : ByteArray) : fileL (l ++ [f]) nm = match fileL l nm with | some x => some x | none => if nm = f.1 then some f.2.2 else none := by
  induction l with
  | nil => rfl
  | cons x l ih =>
    rw [List.cons_append, fileL, fileL, ih]
    by_cases h : nm = x.1
    · rw [if_pos h, if_pos h]
    · rw [if_neg h, if_neg h]
/-- The table holds just these rows of strings. -/
def Holds (W : World) (files : ByteArray → Option Value) (L : ByteArray → Option (List ByteArray)) : Prop :=
  ∀ nm, (∀ l, L nm = some l → ∃ v, files nm = some v ∧ RowT W 9 1 v l.length (l.map Value.string)) ∧ (L nm = none → files nm = none)
theorem Holds.same {W W' : World} {files : ByteArray → Option Value} {L : ByteArray → Option (List ByteArray)} (h : Holds W files L) (hs : W.heap.size ≤ W'.heap.size) (hk : ∀ (j : Nat) (cs : Array Value), W.heap[j]? = some (Obj.cells cs 9 (0, 0)) → W'.heap[j]? = W.heap[j]?) : Holds W' files L := fun nm =>
  ⟨fun l hl => by
    obtain ⟨v, h1, h2⟩ := (h nm).1 l hl
    exact ⟨v, h1, h2.same hs hk⟩, (h nm).2⟩
theorem fileL_old {W : World} {files : ByteArray → Option Value} {l : List FT} (h : Holds W files (fileL l)) {f : FT} {v : Value} (hv : files f.1 = some v) : fileL (l ++ [f]) = fileL l := by
  funext t
  rw [fileL_snoc]
  cases e : fileL l t with
  | some x => rfl
  | none =>
    show (if t = f.1 then some f.2.2 else none) = none
    rw [if_neg]
    rintro rfl
    rw [(h _).2 e] at hv
    cases hv
theorem fileL_new {W : World} {files : ByteArray → Option Value} {l : List FT} (h : Holds W files (fileL l)) {f : FT} (hv : files f.1 = none) : fileL (l ++ [f]) f.1 = some f.2.2 ∧ ∀ t, t ≠ f.1 → fileL (l ++ [f]) t = fileL l t := by
  refine ⟨?_, fun t ht => ?_⟩
  · rw [fileL_snoc]
    cases e : fileL l f.1 with
    | some x =>
      obtain ⟨v, h1, _⟩ := (h _).1 x e
      rw [hv] at h1; cases h1
    | none => show (if f.1 = f.1 then some f.2.2 else none) = _; rw [if_pos rfl]
  · rw [fileL_snoc]
    cases e : fileL l t with
    | some x => rfl
    | none => show (if t = f.1 then some f.2.2 else none) = _; rw [if_neg ht]
/-- One entry more. -/
theorem Holds.upd {W : World} {files : ByteArray → Option Value} {L L' : ByteArray → Option (List ByteArray)} (h : Holds W files L) {s : ByteArray} {v : Value} {l : List ByteArray} (hv : RowT W 9 1 v l.length (l.map Value.string)) (h1 : L' s = some l) (h2 : ∀ t, t ≠ s → L' t = L t) : Holds W (upd files s v) L' := fun nm => by
  by_cases e : nm = s
  · subst e
    rw [upd_same, h1]
    exact ⟨fun l' hl => by cases hl; exact ⟨v, rfl, hv⟩, fun hl => by cases hl⟩
  · rw [upd_ne e, h2 nm e]
    exact h nm
def putL (L : ByteArray → Option (List ByteArray)) (nm : ByteArray) (l : List ByteArray) (t : ByteArray) : Option (List ByteArray) := if t = nm then some l else L t
theorem putL_same {L : ByteArray → Option (List ByteArray)} {nm : ByteArray} {l : List ByteArray} : putL L nm l nm = some l := by unfold putL; rw [if_pos rfl]
theorem putL_ne {L : ByteArray → Option (List ByteArray)} {nm : ByteArray} {l : List ByteArray} (t : ByteArray) (h : t ≠ nm) : putL L nm l t = L t := by unfold putL; rw [if_neg h]
/-- The table with the standard input under its two names. -/
def stdL (L : ByteArray → Option (List ByteArray)) (sl : List ByteArray) : Nat → ByteArray → Option (List ByteArray)
  | 0 => L
  | 1 => putL L ⟨#[]⟩ sl
  | _ => putL (putL L ⟨#[]⟩ sl) ⟨#[45]⟩ sl
/-- A world in the making. -/
structure NewSt (w : World) (B0 : Nat) (scr : Array Value) (np : Nat) (ps : List Value) (nc : Nat) (cs : List Value) (m1 m2 g : Nat) (v16 v19 : Value) (k1 k2 : Nat) (files cmds : ByteArray → Option Value) (L : ByteArray → Option (List ByteArray)) (W : World) : Prop where
  below : Below w.heap.size w W
  box : W.heap[B0]? = some (.cells scr 31 (0, 0))
  hd : W.heap[g]? = some (.cells #[.map (some m1), .map (some m2), v16, v19, .slice none 0 0, .slice none 0 0, .int .i64 0] 75 (0, 0))
  f : MapF Try.prog 9 W m1 k1 files
  c : MapF Try.prog 9 W m2 k2 cmds
  ne : m1 ≠ m2
  la : w.heap.size ≤ m1
  lb : w.heap.size ≤ m2
  lg : w.heap.size ≤ g
  env : W.ownsRow w.heap.size 61 2 v16 np ps
  clock : W.ownsRow w.heap.size 3 1 v19 nc cs
  holds : Holds W files L
section
variable {w W W' : World} {B0 : Nat} {scr : Array Value} {np : Nat} {ps : List Value} {nc : Nat} {cs : List Value} {m1 m2 g : Nat} {v16 v19 : Value} {k1 k2 : Nat} {files cmds : ByteArray → Option Value} {L : ByteArray → Option (List ByteArray)}
theorem NewSt.same (h : NewSt w B0 scr np ps nc cs m1 m2 g v16 v19 k1 k2 files cmds L W) (hb : Below W.heap.size W W') : NewSt w B0 scr np ps nc cs m1 m2 g v16 v19 k1 k2 files cmds L W' :=
  have hk := fun (j : Nat) (hj : j < W.heap.size) => hb.block j hj
  ⟨h.below.trans (hb.mono h.below.size), (hk _ (Array.getElem?_eq_some_iff.1 h.box).1).trans h.box, (hk _ (Array.getElem?_eq_some_iff.1 h.hd).1).trans h.hd, h.f.same (hk _ h.f.lt), h.c.same (hk _ h.c.lt), h.ne, h.la, h.lb, h.lg,
    own_below' h.env hb, own_below' h.clock hb, h.holds.same hb.size (fun j cs hc => hk j (Array.getElem?_eq_some_iff.1 hc).1)⟩
/-- A row of strings is stored in the first table. -/
theorem NewSt.file (h : NewSt w B0 scr np ps nc cs m1 m2 g v16 v19 k1 k2 files cmds L W) {s : ByteArray} {v : Value} {l : List ByteArray} {L' : ByteArray → Option (List ByteArray)} (hv : RowT W 9 1 v l.length (l.map Value.string)) (hm : MapF Try.prog 9 W' m1 (k1 + 1) (upd files s v)) (hg : W.grownBy W' (some m1))
    (h1 : L' s = some l) (h2 : ∀ t, t ≠ s → L' t = L t) : NewSt w B0 scr np ps nc cs m1 m2 g v16 v19 (k1 + 1) k2 (upd files s v) cmds L' W' := by
  obtain ⟨es, cc, ho⟩ := h.f.obj
  have hk : ∀ (j : Nat) (o : Obj), W.heap[j]? = some o → j ≠ m1 → W'.heap[j]? = W.heap[j]? := fun j o hj hn => hg.block j (Array.getElem?_eq_some_iff.1 hj).1 (by simp; exact hn)
  have hn : ∀ (j : Nat) (c : Array Value) (e : TypeId), W.heap[j]? = some (Obj.cells c e (0, 0)) → j ≠ m1 := fun j c e hj => by
    rintro rfl
    rw [ho] at hj; cases hj
  have ht : Below w.heap.size w W' := h.below.trans ⟨hg.os, hg.tape, hg.output, hg.size, fun k hk => hg.block k (Nat.lt_of_lt_of_le hk h.below.size) (by simp; have := h.la; omega)⟩
  exact ⟨ht, (hk _ _ h.box (hn _ _ _ h.box)).trans h.box, (hk _ _ h.hd (hn _ _ _ h.hd)).trans h.hd, hm, h.c.same (hg.block _ h.c.lt (by simp; exact fun e => h.ne e.symm)), h.ne, h.la, h.lb, h.lg,
    own_same h.env (fun j hj => by obtain ⟨c, hc⟩ := own_obj h.env hj; exact hk j _ hc (hn _ _ _ hc)), own_same h.clock (fun j hj => by obtain ⟨c, hc⟩ := own_obj h.clock hj; exact hk j _ hc (hn _ _ _ hc)),
    (h.holds.upd hv h1 h2).same hg.size (fun j c hc => hk j _ hc (hn _ _ _ hc))⟩
end

end Go.Proofs.Yticinbkgmfoeoaa
