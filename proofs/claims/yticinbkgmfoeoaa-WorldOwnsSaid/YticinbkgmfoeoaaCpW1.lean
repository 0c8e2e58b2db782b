/- The document's Copy: its first region. -/
import Derived.Test.YticinbkgmfoeoaaCpR
namespace Go.Proofs.Yticinbkgmfoeoaa
open Go.RowKit
set_option linter.unusedVariables false

abbrev nil0 : Value := .slice none 0 0
theorem int_info : (Try.prog.info? 3).map (fun i => (i.zero, i.size, i.bytes)) = some (some (.int .i64 0), 1, 8) := by kernel_rfl
/-- Copy's slots while its first statement runs. -/
def cpA (s p0 p1 : Value) (X : Nat → Value) : Act := { tmps := #[s, p0, p1, X 3, undef, undef, X 6, X 7, X 8, X 9, X 10, X 11, X 12, X 13, X 14, X 15, X 16, X 17, X 18, undef, undef, undef, undef, undef, undef, undef, undef, undef, undef, undef, undef, undef, undef, undef, undef, undef, undef, undef, undef, undef, undef, undef, undef, undef, undef, undef, undef, undef, undef, undef, undef, undef, undef, undef, undef, undef, undef, undef, undef, undef, undef, undef, undef, undef, undef, undef, undef, undef, undef, undef, undef, undef, undef, undef, undef, undef, undef, undef, undef, undef], defers := [] }
def cpS : Nat → Nat := fun j => if j = 13 then 3 else 6 + j
theorem cpS_inj : ∀ j k, j < 14 → k < 14 → cpS j = cpS k → j = k := by
  intro j k hj hk h
  unfold cpS at h
  split at h <;> split at h <;> omega
def LitIs (lo : Nat) (e : TypeId) (x : Value) (w : World) : Prop := ∃ g, x = .slice (some ⟨g, 0, none⟩) 0 0 ∧ lo ≤ g ∧ ∃ c, w.heap[g]? = some (Obj.cells c e (0, 0))
def NewIs (lo : Nat) (e : TypeId) (size n : Nat) (xs : List Value) (x : Value) (w : World) : Prop := (∃ A c, x = .slice A n c) ∧ OwnZ w lo e size x n xs
def cpP (lo b0 : Nat) (sv ev kv : Value) (sl : List ByteArray) (E : List (ByteArray × ByteArray)) (K : List Int) (j : Nat) (x : Value) (w : World) : Prop :=
  match j with
  | 0 => LitIs lo 9 x w
  | 1 => x = .pointer (some ⟨b0, 2, none⟩)
  | 2 => x = sv
  | 3 => NewIs lo 9 1 sl.length (sl.map Value.string) x w
  | 4 => LitIs lo 61 x w
  | 5 => x = .pointer (some ⟨b0, 3, none⟩)
  | 6 => x = ev
  | 7 => NewIs lo 61 2 E.length (E.flatMap pairC) x w
  | 8 => LitIs lo 3 x w
  | 9 => x = .pointer (some ⟨b0, 4, none⟩)
  | 10 => x = kv
  | 11 => NewIs lo 3 1 K.length (K.map (Value.int .i64)) x w
  | 12 => ∃ y1 y2 y3, x = .agg #[nil0, nil0, y1, y2, y3] ∧ NewIs lo 9 1 sl.length (sl.map Value.string) y1 w ∧ NewIs lo 61 2 E.length (E.flatMap pairC) y2 w ∧ NewIs lo 3 1 K.length (K.map (Value.int .i64)) y3 w
  | _ => ∃ g, x = .pointer (some ⟨g, 0, none⟩) ∧ lo ≤ g ∧ w.heap[g]? = some (Obj.cells #[nil0, nil0, nil0, nil0, nil0] 31 (0, 0))
theorem LitIs.below {lo : Nat} {e : TypeId} {x : Value} {w w' : World} (h : LitIs lo e x w) (hb : Below w.heap.size w w') : LitIs lo e x w' := by
  obtain ⟨g, h1, h2, c, h3⟩ := h
  exact ⟨g, h1, h2, c, (hb.block g (Array.getElem?_eq_some_iff.1 h3).1).trans h3⟩
theorem NewIs.below {lo : Nat} {e : TypeId} {size n : Nat} {xs : List Value} {x : Value} {w w' : World} (h : NewIs lo e size n xs x w) (hb : Below w.heap.size w w') : NewIs lo e size n xs x w' := ⟨h.1, h.2.below hb⟩
theorem cpP_below {lo b0 : Nat} {sv ev kv : Value} {sl : List ByteArray} {E : List (ByteArray × ByteArray)} {K : List Int} {w w' : World} (hb : Below w.heap.size w w') : ∀ j x, j < 14 → cpP lo b0 sv ev kv sl E K j x w → cpP lo b0 sv ev kv sl E K j x w' := by
  intro j x hj h
  match j, hj with
  | 0, _ | 4, _ | 8, _ => exact LitIs.below h hb
  | 1, _ | 2, _ | 5, _ | 6, _ | 9, _ | 10, _ => exact h
  | 3, _ | 7, _ | 11, _ => exact NewIs.below h hb
  | 12, _ =>
    obtain ⟨y1, y2, y3, e, h1, h2, h3⟩ := h
    exact ⟨y1, y2, y3, e, h1.below hb, h2.below hb, h3.below hb⟩
  | 13, _ =>
    obtain ⟨g, e, h1, h2⟩ := h
    exact ⟨g, e, h1, (hb.block g (Array.getElem?_eq_some_iff.1 h2).1).trans h2⟩
/-- The files that were copied: each file's name and chunks, and where its copied chunks lie. -/
def fileZ (fs : List FT) (ys : List Value) : List FT := List.zipWith (fun f y => (f.1, y, f.2.2)) fs ys
/-- So many files are copied. -/
structure Cp1 (W : World) (g3 : Nat) (vC y1 y2 y3 : Value) (fs : List FT) (sl : List ByteArray) (E : List (ByteArray × ByteArray)) (K : List Int) (i : Nat) (vF : Value) (ys : List Value) (w : World) : Prop where
  below : Below W.heap.size W w
  lo : W.heap.size ≤ g3
  hd : w.heap[g3]? = some (Obj.cells #[vF, vC, y1, y2, y3] 31 (0, 0))
  r1 : NewIs W.heap.size 9 1 sl.length (sl.map Value.string) y1 w
  r2 : NewIs W.heap.size 61 2 E.length (E.flatMap pairC) y2 w
  r3 : NewIs W.heap.size 3 1 K.length (K.map (Value.int .i64)) y3 w
  len : ys.length = i
  row : w.ownsRow W.heap.size 57 2 vF i ((fileZ fs ys).flatMap fileC)
  each : ∀ (k : Nat) (f : FT) (y : Value), fs[k]? = some f → ys[k]? = some y → NewIs W.heap.size 9 1 f.2.2.length (f.2.2.map Value.string) y w
def cmdZ (cl : List CT) (ys : List Value) : List CT := List.zipWith (fun c y => (c.1, y, c.2.2)) cl ys
/-- So many commands are copied too. -/
structure Cp2 (W : World) (g3 : Nat) (y1 y2 y3 : Value) (fs : List FT) (cl : List CT) (CL : List CM) (sl : List ByteArray) (E : List (ByteArray × ByteArray)) (K : List Int) (vF : Value) (yf : List Value) (i : Nat) (vC : Value) (ys : List Value) (w : World) : Prop where
  files : Cp1 W g3 vC y1 y2 y3 fs sl E K fs.length vF yf w
  len : ys.length = i
  row : w.ownsRow W.heap.size 59 3 vC i ((cmdZ cl ys).flatMap cmdC)
  each : ∀ (k : Nat) (c : CM) (y : Value), CL[k]? = some c → ys[k]? = some y → NewIs W.heap.size 9 1 c.2.1.length (c.2.1.map Value.string) y w
/-- The copy, as it lies. -/
def CpFin (lo : Nat) (fvals : List Value) (sl : List ByteArray) (E : List (ByteArray × ByteArray)) (K : List Int) (x : Value) (w : World) : Prop :=
  ∃ g y1 y2 y3, x = .pointer (some ⟨g, 0, none⟩) ∧ lo ≤ g ∧ w.heap[g]? = some (Obj.cells (fvals ++ [y1, y2, y3]).toArray 31 (0, 0)) ∧ NewIs lo 9 1 sl.length (sl.map Value.string) y1 w ∧ NewIs lo 61 2 E.length (E.flatMap pairC) y2 w ∧ NewIs lo 3 1 K.length (K.map (Value.int .i64)) y3 w

/-- Copy's slots while a file is copied. -/
def cpB (a0 a1 a2 a3 a4 a5 a6 a7 a8 a9 a10 a11 a12 a13 a14 a15 a16 a17 a18 a19 a20 a21 a22 a23 a24 a25 : Value) (X : Nat → Value) : Act := { tmps := #[a0, a1, a2, a3, a4, a5, a6, a7, a8, a9, a10, a11, a12, a13, a14, a15, a16, a17, a18, a19, a20, a21, a22, a23, a24, a25, X 26, X 27, X 28, X 29, X 30, X 31, X 32, X 33, X 34, X 35, X 36, X 37, X 38, X 39, X 40, X 41, X 42, X 43, X 44, X 45, undef, undef, undef, undef, undef, undef, undef, undef, undef, undef, undef, undef, undef, undef, undef, undef, undef, undef, undef, undef, undef, undef, undef, undef, undef, undef, undef, undef, undef, undef, undef, undef, undef, undef], defers := [] }
def fqS : Nat → Nat := fun j => 26 + j
def fqP (lo lo2 g3 b0 b off i : Nat) (vF vfs : Value) (nm : ByteArray) (yv : Value) (cs : List ByteArray) (j : Nat) (x : Value) (w : World) : Prop :=
  match j with
  | 0 => x = .pointer (some ⟨g3, 0, none⟩)
  | 1 => x = vF
  | 2 => x = .pointer (some ⟨b0, 0, none⟩)
  | 3 => x = vfs
  | 4 => x = .int .i64 (i : Int)
  | 5 => x = .pointer (some ⟨b, off + i * 2, none⟩)
  | 6 => x = .pointer (some ⟨b, off + i * 2, none⟩)
  | 7 => x = .string nm
  | 8 => LitIs lo 9 x w
  | 9 => x = .pointer (some ⟨b0, 0, none⟩)
  | 10 => x = vfs
  | 11 => x = .int .i64 (i : Int)
  | 12 => x = .pointer (some ⟨b, off + i * 2, none⟩)
  | 13 => x = .pointer (some ⟨b, off + i * 2 + 1, none⟩)
  | 14 => x = yv
  | 15 => NewIs lo 9 1 cs.length (cs.map Value.string) x w
  | 16 => ∃ y, x = .agg #[.string nm, y] ∧ NewIs lo 9 1 cs.length (cs.map Value.string) y w
  | 17 => ∃ g y, x = .slice (some ⟨g, 0, none⟩) 1 1 ∧ lo2 ≤ g ∧ w.heap[g]? = some (Obj.cells #[.string nm, y] 57 (0, 0)) ∧ NewIs lo 9 1 cs.length (cs.map Value.string) y w
  | 19 => x = .pointer (some ⟨g3, 0, none⟩)
  | _ => True
theorem fqP_below {lo lo2 g3 b0 b off i : Nat} {vF vfs : Value} {nm : ByteArray} {yv : Value} {cs : List ByteArray} {w w' : World} (hb : Below w.heap.size w w') : ∀ j x, j < 20 → fqP lo lo2 g3 b0 b off i vF vfs nm yv cs j x w → fqP lo lo2 g3 b0 b off i vF vfs nm yv cs j x w' := by
  intro j x hj h
  match j, hj with
  | 0, _ | 1, _ | 2, _ | 3, _ | 4, _ | 5, _ | 6, _ | 7, _ | 9, _ | 10, _ | 11, _ | 12, _ | 13, _ | 14, _ | 18, _ | 19, _ => exact h
  | 8, _ => exact LitIs.below h hb
  | 15, _ => exact NewIs.below h hb
  | 16, _ =>
    obtain ⟨y, e, h1⟩ := h
    exact ⟨y, e, h1.below hb⟩
  | 17, _ =>
    obtain ⟨g, y, e, h1, h2, h3⟩ := h
    exact ⟨g, y, e, h1, (hb.block g (Array.getElem?_eq_some_iff.1 h2).1).trans h2, h3.below hb⟩
  | _ + 20, q => exact absurd q (by omega)
theorem file_info : (Try.prog.info? 57).map (fun i => (i.zero, i.size, i.bytes)) = some (some (.agg #[.string ByteArray.empty, .slice none 0 0]), 2, 40) := by kernel_rfl
/-- The new element is in the row. -/
def FMid (lo i : Nat) (vF : Value) (xs : List Value) (nm : ByteArray) (cs : List ByteArray) (wr : World) (x : Value) (w : World) : Prop :=
  ∃ y, (∃ A c, x = .slice A (i + 1) c) ∧ w.ownsRow lo 57 2 x (i + 1) (xs ++ [.string nm, y]) ∧ NewIs lo 9 1 cs.length (cs.map Value.string) y w ∧ Turn wr w (fun j => vF.ownBlock = some j)
theorem fileZ_snoc (y : Value) : ∀ (ys : List Value) (fs : List FT) {f : FT}, fs[ys.length]? = some f → fileZ fs (ys ++ [y]) = fileZ fs ys ++ [(f.1, y, f.2.2)] := by
  intro ys
  induction ys with
  | nil =>
    intro fs f h
    cases fs with
    | nil => cases h
    | cons g r => cases h; simp [fileZ]
  | cons z ys ih =>
    intro fs f h
    cases fs with
    | nil => cases h
    | cons g r =>
      have := ih r (f := f) (by simpa using h)
      simp only [fileZ, List.cons_append, List.zipWith_cons_cons] at this ⊢
      rw [this]
theorem NewIs.turn2 {lo : Nat} {e : TypeId} {size n : Nat} {xs : List Value} {x : Value} {w w' : World} {g : Nat} {c : Array Value} (h : NewIs lo e size n xs x w) (hg : w.heap[g]? = some (Obj.cells c 31 (0, 0))) (he : e ≠ 31) {e2 : TypeId} {vF : Value} (hv : ∀ j, vF.ownBlock = some j → ∃ c, w.heap[j]? = some (Obj.cells c e2 (0, 0))) (he2 : e ≠ e2) (ht : Turn w w' (fun j => j = g ∨ vF.ownBlock = some j)) : NewIs lo e size n xs x w' :=
  ⟨h.1, h.2.same fun j hj => ht.block j (h.2.lt hj).2 fun q => by
    obtain ⟨c', hc⟩ := h.2.obj hj
    rcases q with q | q
    · subst q
      rw [hg] at hc
      simp at hc
      exact he hc.2.symm
    · obtain ⟨c2, hc2⟩ := hv j q
      rw [hc2] at hc
      simp at hc
      exact he2 hc.2.symm⟩
theorem Cp1.next {W : World} {g3 : Nat} {vC y1 y2 y3 : Value} {fs : List FT} {sl : List ByteArray} {E : List (ByteArray × ByteArray)} {K : List Int} {i : Nat} {vF : Value} {ys : List Value} {w w' : World} (h : Cp1 W g3 vC y1 y2 y3 fs sl E K i vF ys w) {nm : ByteArray} {yv : Value} {cs : List ByteArray} (hfi : fs[i]? = some (nm, yv, cs)) {x y : Value}
    (c1 : w'.heap[g3]? = some (Obj.cells #[x, vC, y1, y2, y3] 31 (0, 0))) (c2 : w'.ownsRow W.heap.size 57 2 x (i + 1) ((fileZ fs ys).flatMap fileC ++ [.string nm, y])) (c3 : NewIs W.heap.size 9 1 cs.length (cs.map Value.string) y w') (c4 : Turn w w' (fun j => j = g3 ∨ vF.ownBlock = some j)) :
    Cp1 W g3 vC y1 y2 y3 fs sl E K (i + 1) x (ys ++ [y]) w' := by
  have hv : ∀ j, vF.ownBlock = some j → ∃ c, w.heap[j]? = some (Obj.cells c 57 (0, 0)) := fun j hj => own_obj h.row hj
  refine ⟨h.below.trans (c4.below h.below.size fun j q => ?_), h.lo, c1, h.r1.turn2 h.hd (by decide) hv (by decide) c4, h.r2.turn2 h.hd (by decide) hv (by decide) c4, h.r3.turn2 h.hd (by decide) hv (by decide) c4, by rw [List.length_append, h.len]; rfl, ?_, fun k f y' hk hy => ?_⟩
  · rcases q with q | q
    · rw [q]; exact h.lo
    · exact (h.row.lt j q).1
  · rw [fileZ_snoc y ys fs (f := (nm, yv, cs)) (by rw [h.len]; exact hfi), List.flatMap_append]
    exact c2
  · rcases Nat.lt_or_ge k ys.length with q | q
    · rw [List.getElem?_append_left q] at hy
      exact (h.each k f y' hk hy).turn2 h.hd (by decide) hv (by decide) c4
    · rw [List.getElem?_append_right q] at hy
      have : k = i := by
        have := (List.getElem?_eq_some_iff.1 hy).1
        have := h.len
        simp at *
        omega
      subst this
      rw [h.len] at hy
      simp at hy
      subst hy
      rw [hfi] at hk
      cases hk
      exact c3
def FFin (lo g3 i : Nat) (vF vC y1 y2 y3 : Value) (xs : List Value) (nm : ByteArray) (cs : List ByteArray) (wr : World) (w : World) : Prop :=
  ∃ y x, w.heap[g3]? = some (Obj.cells #[x, vC, y1, y2, y3] 31 (0, 0)) ∧ w.ownsRow lo 57 2 x (i + 1) (xs ++ [.string nm, y]) ∧ NewIs lo 9 1 cs.length (cs.map Value.string) y w ∧ Turn wr w (fun j => j = g3 ∨ vF.ownBlock = some j)

/-- What Copy gives: rows of its own that read as the script. -/
structure CpOut (lo : Nat) (fs : List FT) (cl : List CT) (CL : List CM) (sl : List ByteArray) (E : List (ByteArray × ByteArray)) (K : List Int) (vF vC y1 y2 y3 : Value) (yf yc : List Value) (w : World) : Prop where
  r1 : NewIs lo 9 1 sl.length (sl.map Value.string) y1 w
  r2 : NewIs lo 61 2 E.length (E.flatMap pairC) y2 w
  r3 : NewIs lo 3 1 K.length (K.map (Value.int .i64)) y3 w
  lenF : yf.length = fs.length
  rowF : w.ownsRow lo 57 2 vF fs.length ((fileZ fs yf).flatMap fileC)
  eachF : ∀ (k : Nat) (f : FT) (y : Value), fs[k]? = some f → yf[k]? = some y → NewIs lo 9 1 f.2.2.length (f.2.2.map Value.string) y w
  lenC : yc.length = cl.length
  rowC : w.ownsRow lo 59 3 vC cl.length ((cmdZ cl yc).flatMap cmdC)
  eachC : ∀ (k : Nat) (c : CM) (y : Value), CL[k]? = some c → yc[k]? = some y → NewIs lo 9 1 c.2.1.length (c.2.1.map Value.string) y w
theorem NewIs.low {lo lo' : Nat} {e : TypeId} {size n : Nat} {xs : List Value} {x : Value} {w w' : World} {b : Nat} (h : NewIs lo e size n xs x w) (hl : lo' ≤ lo) (ht : Turn w w' (fun j => j = b)) (hb : b < lo) : NewIs lo' e size n xs x w' := by
  refine ⟨h.1, ?_⟩
  have h2 := h.2.same (w' := w') fun j hj => ht.block j (h.2.lt hj).2 fun q => by have := (h.2.lt hj).1; omega
  rcases h2 with h2 | ⟨e1, e2, g, c, e3, e4, e5⟩
  · exact .inl (own_more h2 hl)
  · exact .inr ⟨e1, e2, g, c, e3, Nat.le_trans hl e4, e5⟩
theorem Cp2.out {W : World} {g3 : Nat} {y1 y2 y3 : Value} {fs : List FT} {cl : List CT} {CL : List CM} {sl : List ByteArray} {E : List (ByteArray × ByteArray)} {K : List Int} {vF : Value} {yf : List Value} {vC : Value} {ys : List Value} {w w' : World} (h : Cp2 W g3 y1 y2 y3 fs cl CL sl E K vF yf cl.length vC ys w) {lo b : Nat} (hl : lo ≤ W.heap.size) (hb : b < W.heap.size) (ht : Turn w w' (fun j => j = b)) :
    CpOut lo fs cl CL sl E K vF vC y1 y2 y3 yf ys w' :=
  ⟨h.files.r1.low hl ht hb, h.files.r2.low hl ht hb, h.files.r3.low hl ht hb, h.files.len, own_more (own_turn h.files.row ht fun j hj q => by have := (h.files.row.lt j hj).1; omega) hl, fun k f y hk hy => (h.files.each k f y hk hy).low hl ht hb, h.len, own_more (own_turn h.row ht fun j hj q => by have := (h.row.lt j hj).1; omega) hl, fun k c y hk hy => (h.each k c y hk hy).low hl ht hb⟩
/-- Copy's slots while a command is copied. -/
def cpC (a0 a1 a2 a3 a4 a5 a6 a7 a8 a9 a10 a11 a12 a13 a14 a15 a16 a17 a18 a19 a20 a21 a22 a23 a24 a25 a26 a27 a28 a29 a30 a31 a32 a33 a34 a35 a36 a37 a38 a39 a40 a41 a42 a43 a44 a45 a46 a47 a48 a49 a50 a51 a52 : Value) (X : Nat → Value) : Act := { tmps := #[a0, a1, a2, a3, a4, a5, a6, a7, a8, a9, a10, a11, a12, a13, a14, a15, a16, a17, a18, a19, a20, a21, a22, a23, a24, a25, a26, a27, a28, a29, a30, a31, a32, a33, a34, a35, a36, a37, a38, a39, a40, a41, a42, a43, a44, a45, a46, a47, a48, a49, a50, a51, a52, X 53, X 54, X 55, X 56, X 57, X 58, X 59, X 60, X 61, X 62, X 63, X 64, X 65, X 66, X 67, X 68, X 69, X 70, X 71, X 72, X 73, X 74, X 75, X 76, X 77, X 78, undef], defers := [] }
def gqS : Nat → Nat := fun j => 53 + j
def gqP (lo lo2 g3 b0 b off i : Nat) (vC vcs : Value) (nm : ByteArray) (yv : Value) (code : Int) (cs : List ByteArray) (j : Nat) (x : Value) (w : World) : Prop :=
  match j with
  | 0 => x = .pointer (some ⟨g3, 1, none⟩)
  | 1 => x = vC
  | 2 => x = .pointer (some ⟨b0, 1, none⟩)
  | 3 => x = vcs
  | 4 => x = .int .i64 (i : Int)
  | 5 => x = .pointer (some ⟨b, off + i * 3, none⟩)
  | 6 => x = .pointer (some ⟨b, off + i * 3, none⟩)
  | 7 => x = .string nm
  | 8 => LitIs lo 9 x w
  | 9 => x = .pointer (some ⟨b0, 1, none⟩)
  | 10 => x = vcs
  | 11 => x = .int .i64 (i : Int)
  | 12 => x = .pointer (some ⟨b, off + i * 3, none⟩)
  | 13 => x = .pointer (some ⟨b, off + i * 3 + 1, none⟩)
  | 14 => x = yv
  | 15 => NewIs lo 9 1 cs.length (cs.map Value.string) x w
  | 16 => x = .pointer (some ⟨b0, 1, none⟩)
  | 17 => x = vcs
  | 18 => x = .int .i64 (i : Int)
  | 19 => x = .pointer (some ⟨b, off + i * 3, none⟩)
  | 20 => x = .pointer (some ⟨b, off + i * 3 + 2, none⟩)
  | 21 => x = .int .i64 code
  | 22 => ∃ y, x = .agg #[.string nm, y, .int .i64 code] ∧ NewIs lo 9 1 cs.length (cs.map Value.string) y w
  | 23 => ∃ g y, x = .slice (some ⟨g, 0, none⟩) 1 1 ∧ lo2 ≤ g ∧ w.heap[g]? = some (Obj.cells #[.string nm, y, .int .i64 code] 59 (0, 0)) ∧ NewIs lo 9 1 cs.length (cs.map Value.string) y w
  | 25 => x = .pointer (some ⟨g3, 1, none⟩)
  | _ => True
theorem gqP_below {lo lo2 g3 b0 b off i : Nat} {vC vcs : Value} {nm : ByteArray} {yv : Value} {code : Int} {cs : List ByteArray} {w w' : World} (hb : Below w.heap.size w w') : ∀ j x, j < 26 → gqP lo lo2 g3 b0 b off i vC vcs nm yv code cs j x w → gqP lo lo2 g3 b0 b off i vC vcs nm yv code cs j x w' := by
  intro j x hj h
  match j, hj with
  | 0, _ | 1, _ | 2, _ | 3, _ | 4, _ | 5, _ | 6, _ | 7, _ | 9, _ | 10, _ | 11, _ | 12, _ | 13, _ | 14, _ | 16, _ | 17, _ | 18, _ | 19, _ | 20, _ | 21, _ | 24, _ | 25, _ => exact h
  | 8, _ => exact LitIs.below h hb
  | 15, _ => exact NewIs.below h hb
  | 22, _ =>
    obtain ⟨y, e, h1⟩ := h
    exact ⟨y, e, h1.below hb⟩
  | 23, _ =>
    obtain ⟨g, y, e, h1, h2, h3⟩ := h
    exact ⟨g, y, e, h1, (hb.block g (Array.getElem?_eq_some_iff.1 h2).1).trans h2, h3.below hb⟩
  | _ + 26, q => exact absurd q (by omega)
def GMid (lo i : Nat) (vC : Value) (xs : List Value) (nm : ByteArray) (code : Int) (cs : List ByteArray) (wr : World) (x : Value) (w : World) : Prop :=
  ∃ y, (∃ A c, x = .slice A (i + 1) c) ∧ w.ownsRow lo 59 3 x (i + 1) (xs ++ [.string nm, y, .int .i64 code]) ∧ NewIs lo 9 1 cs.length (cs.map Value.string) y w ∧ Turn wr w (fun j => vC.ownBlock = some j)
def GFin (lo g3 i : Nat) (vF vC y1 y2 y3 : Value) (xs : List Value) (nm : ByteArray) (code : Int) (cs : List ByteArray) (wr : World) (w : World) : Prop :=
  ∃ y x, w.heap[g3]? = some (Obj.cells #[vF, x, y1, y2, y3] 31 (0, 0)) ∧ w.ownsRow lo 59 3 x (i + 1) (xs ++ [.string nm, y, .int .i64 code]) ∧ NewIs lo 9 1 cs.length (cs.map Value.string) y w ∧ Turn wr w (fun j => j = g3 ∨ vC.ownBlock = some j)
theorem cmdZ_snoc (y : Value) : ∀ (ys : List Value) (cl : List CT) {c : CT}, cl[ys.length]? = some c → cmdZ cl (ys ++ [y]) = cmdZ cl ys ++ [(c.1, y, c.2.2)] := by
  intro ys
  induction ys with
  | nil =>
    intro cl c h
    cases cl with
    | nil => cases h
    | cons g r => cases h; simp [cmdZ]
  | cons z ys ih =>
    intro cl c h
    cases cl with
    | nil => cases h
    | cons g r =>
      have := ih r (c := c) (by simpa using h)
      simp only [cmdZ, List.cons_append, List.zipWith_cons_cons] at this ⊢
      rw [this]
theorem Cp2.next {W : World} {g3 : Nat} {y1 y2 y3 : Value} {fs : List FT} {cl : List CT} {CL : List CM} {sl : List ByteArray} {E : List (ByteArray × ByteArray)} {K : List Int} {vF : Value} {yf : List Value} {i : Nat} {vC : Value} {ys : List Value} {w w' : World} (h : Cp2 W g3 y1 y2 y3 fs cl CL sl E K vF yf i vC ys w) {nm : ByteArray} {yv : Value} {code : Int} {cs : List ByteArray} (hci : cl[i]? = some (nm, yv, code)) (hCi : CL[i]? = some (nm, cs, code)) {x y : Value}
    (c1 : w'.heap[g3]? = some (Obj.cells #[vF, x, y1, y2, y3] 31 (0, 0))) (c2 : w'.ownsRow W.heap.size 59 3 x (i + 1) ((cmdZ cl ys).flatMap cmdC ++ [.string nm, y, .int .i64 code])) (c3 : NewIs W.heap.size 9 1 cs.length (cs.map Value.string) y w') (c4 : Turn w w' (fun j => j = g3 ∨ vC.ownBlock = some j)) :
    Cp2 W g3 y1 y2 y3 fs cl CL sl E K vF yf (i + 1) x (ys ++ [y]) w' := by
  have hv : ∀ j, vC.ownBlock = some j → ∃ c, w.heap[j]? = some (Obj.cells c 59 (0, 0)) := fun j hj => own_obj h.row hj
  have hd := h.files.hd
  have hrow : w'.ownsRow W.heap.size 57 2 vF fs.length ((fileZ fs yf).flatMap fileC) := own_turn h.files.row c4 fun j hj q => by
    obtain ⟨c', hc⟩ := own_obj h.files.row hj
    rcases q with q | q
    · subst q
      rw [hd] at hc
      simp at hc
    · obtain ⟨c2, hc2⟩ := hv j q
      rw [hc2] at hc
      simp at hc
  refine ⟨⟨h.files.below.trans (c4.below h.files.below.size fun j q => ?_), h.files.lo, c1, h.files.r1.turn2 hd (by decide) hv (by decide) c4, h.files.r2.turn2 hd (by decide) hv (by decide) c4, h.files.r3.turn2 hd (by decide) hv (by decide) c4, h.files.len, hrow, fun k f y' hk hy => (h.files.each k f y' hk hy).turn2 hd (by decide) hv (by decide) c4⟩, by rw [List.length_append, h.len]; rfl, ?_, fun k c y' hk hy => ?_⟩
  · rcases q with q | q
    · rw [q]; exact h.files.lo
    · exact (h.row.lt j q).1
  · rw [cmdZ_snoc y ys cl (c := (nm, yv, code)) (by rw [h.len]; exact hci), List.flatMap_append]
    exact c2
  · rcases Nat.lt_or_ge k ys.length with q | q
    · rw [List.getElem?_append_left q] at hy
      exact (h.each k c y' hk hy).turn2 hd (by decide) hv (by decide) c4
    · rw [List.getElem?_append_right q] at hy
      have : k = i := by
        have := (List.getElem?_eq_some_iff.1 hy).1
        have := h.len
        simp at *
        omega
      subst this
      rw [h.len] at hy
      simp at hy
      subst hy
      rw [hCi] at hk
      cases hk
      exact c3

theorem five_set {w : World} {g : Nat} {t : TypeId} {a0 a1 a2 a3 a4 : Value} (h : w.heap[g]? = some (Obj.cells #[a0, a1, a2, a3, a4] t (0, 0))) (v0 v1 v2 v3 v4 : Value) :
    (((((w.setCell ⟨g, 0, none⟩ v0).setCell ⟨g, 1, none⟩ v1).setCell ⟨g, 2, none⟩ v2).setCell ⟨g, 3, none⟩ v3).setCell ⟨g, 4, none⟩ v4).heap[g]? = some (Obj.cells #[v0, v1, v2, v3, v4] t (0, 0)) ∧
    Turn w (((((w.setCell ⟨g, 0, none⟩ v0).setCell ⟨g, 1, none⟩ v1).setCell ⟨g, 2, none⟩ v2).setCell ⟨g, 3, none⟩ v3).setCell ⟨g, 4, none⟩ v4) (fun j => j = g) := by
  refine ⟨?_, (((((Turn.refl w (fun j => j = g)).setCell ⟨g, 0, none⟩ v0 (fun _ => rfl)).setCell ⟨g, 1, none⟩ v1 (fun _ => rfl)).setCell ⟨g, 2, none⟩ v2 (fun _ => rfl)).setCell ⟨g, 3, none⟩ v3 (fun _ => rfl)).setCell ⟨g, 4, none⟩ v4 (fun _ => rfl)⟩
  have h0 := heap_setCell_same w g 0 _ _ v0 h
  have h1 := heap_setCell_same _ g 1 _ _ v1 h0
  have h2 := heap_setCell_same _ g 2 _ _ v2 h1
  have h3 := heap_setCell_same _ g 3 _ _ v3 h2
  exact heap_setCell_same _ g 4 _ _ v4 h3
theorem NewIs.turn {lo : Nat} {e : TypeId} {size n : Nat} {xs : List Value} {x : Value} {w w' : World} {g : Nat} {c : Array Value} (h : NewIs lo e size n xs x w) (hg : w.heap[g]? = some (Obj.cells c 31 (0, 0))) (he : e ≠ 31) (ht : Turn w w' (fun j => j = g)) : NewIs lo e size n xs x w' :=
  ⟨h.1, h.2.same fun j hj => ht.block j (h.2.lt hj).2 fun q => by
    subst q
    obtain ⟨c', hc⟩ := h.2.obj hj
    rw [hg] at hc
    simp at hc
    exact he hc.2.symm⟩

set_option maxRecDepth 20000 in
set_option maxHeartbeats 8000000 in
theorem copy_any (w : World) (fv cv sv ev kv : Value) (fs : List FT) (AF : Option Addr) (cF : Nat) (hfv' : fv = .slice AF fs.length cF) (hf : RowA w 2 fv fs.length (fs.flatMap fileC)) (hfr' : ∀ f ∈ fs, RowA w 1 f.2.1 f.2.2.length (f.2.2.map Value.string) ∧ f.2.2.length ≤ 8796093022208) (hfn : fs.length ≤ 3518437208883) (cl : List CT) (CL : List CM) (AC : Option Addr) (cC : Nat) (hcv' : cv = .slice AC cl.length cC) (hcr : RowA w 3 cv cl.length (cl.flatMap cmdC)) (hcm' : AreCmdsB w cl CL) (hcy' : ∀ y ∈ CL, y.2.1.length ≤ 8796093022208) (hcln : cl.length ≤ 2932031007402) (sl : List ByteArray) (E : List (ByteArray × ByteArray)) (K : List Int) (hs : RowA w 1 sv sl.length (sl.map Value.string)) (he : RowA w 2 ev E.length (E.flatMap pairC)) (hk : RowA w 1 kv K.length (K.map (Value.int .i64))) (n1 : sl.length ≤ 8796093022208) (n2 : E.length ≤ 4398046511104) (n3 : K.length ≤ 17592186044416) :
    Calls Try.prog 16 #[.agg #[fv, cv, sv, ev, kv]] w fun e w' => ∃ vF vC y1 y2 y3 yf yc, e = .returned (.agg #[vF, vC, y1, y2, y3]) ∧ CpOut w.heap.size fs cl CL sl E K vF vC y1 y2 y3 yf yc w' ∧ Below w.heap.size w w' := by
  have HFV := Lib.hid hfv'
  have HFR := Lib.hid hfr'
  have HCV := Lib.hid hcv'
  have HCM := Lib.hid hcm'
  have HCY := Lib.hid hcy'
  clear hfv' hfr' hcv' hcm' hcy'
  go_enter Try.func16, Try.ntmps16
  go_wp2_with fail
  generalize hW : (w.alloc (Obj.cells #[fv, cv, sv, ev, kv] 31)).alloc (Obj.cells #[nil0, nil0, nil0, nil0, nil0] 31) = W
  have hb0 : Below w.heap.size w W := by rw [← hW]; exact ((Below.refl _ w).alloc (Nat.le_refl _) _).alloc (by simp) _
  have hbox : W.heap[w.heap.size]? = some (Obj.cells #[fv, cv, sv, ev, kv] 31 (0, 0)) := by
    rw [← hW, Below.heap_alloc _ _ _ (by simp)]
    exact alloc_at _ _
  have hb1x : W.heap[w.heap.size + 1]? = some (Obj.cells #[nil0, nil0, nil0, nil0, nil0] 31 (0, 0)) := by
    have q := alloc_at (w.alloc (Obj.cells #[fv, cv, sv, ev, kv] 31)) (Obj.cells #[nil0, nil0, nil0, nil0, nil0] 31)
    rw [hW] at q
    simpa using q
  have hWsz : W.heap.size = w.heap.size + 2 := by rw [← hW]; simp
  have k0 : W.cell? ⟨w.heap.size, 0, none⟩ = some (.slice AF fs.length cF) := by rw [cell_of_row _ _ 0 _ _ (0, 0) hbox, ← HFV.out]; rfl
  have k1 : W.cell? ⟨w.heap.size, 1, none⟩ = some (.slice AC cl.length cC) := by rw [cell_of_row _ _ 1 _ _ (0, 0) hbox, ← HCV.out]; rfl
  have k2 : W.cell? ⟨w.heap.size, 2, none⟩ = some sv := by rw [cell_of_row _ _ 2 _ _ (0, 0) hbox]; rfl
  have k3 : W.cell? ⟨w.heap.size, 3, none⟩ = some ev := by rw [cell_of_row _ _ 3 _ _ (0, 0) hbox]; rfl
  have k4 : W.cell? ⟨w.heap.size, 4, none⟩ = some kv := by rw [cell_of_row _ _ 4 _ _ (0, 0) hbox]; rfl
  have rs := hs.below hb0
  have re := he.below hb0
  have rk := hk.below hb0
  clear hW
  refine wp_region_inv rfl (fun listed a w' => ∃ X, a = cpA (.agg #[fv, cv, sv, ev, kv]) (.pointer (some ⟨w.heap.size, 0, none⟩)) (.pointer (some ⟨w.heap.size + 1, 0, none⟩)) X ∧ listed.size = 15 ∧ Below W.heap.size W w' ∧
    (if listed.getD 14 false = true then CpFin W.heap.size [nil0, nil0] sl E K (X 3) w' ∧ ∀ j, j < 15 → listed.getD j false = true else AtHand 14 cpS (cpP W.heap.size w.heap.size sv ev kv sl E K) listed X w')) ?_ ?_ ?_
  · refine ⟨fun _ => undef, rfl, by simp, (Below.refl _ _).drew, ?_⟩
    rw [if_neg (by rw [fresh_false]; decide)]
    intro j hj hl
    rw [fresh_false] at hl
    cases hl
  · rintro listed a w' ⟨X, rfl, hsz, hb, hF⟩ hr
    have hall := ready_nil hr hsz (by
      intro i o ho e he
      have hi : i < 15 := (Array.getElem?_eq_some_iff.1 ho).1
      obtain rfl | rfl | rfl | rfl | rfl | rfl | rfl | rfl | rfl | rfl | rfl | rfl | rfl | rfl | rfl : i = 0 ∨ i = 1 ∨ i = 2 ∨ i = 3 ∨ i = 4 ∨ i = 5 ∨ i = 6 ∨ i = 7 ∨ i = 8 ∨ i = 9 ∨ i = 10 ∨ i = 11 ∨ i = 12 ∨ i = 13 ∨ i = 14 := by omega
      all_goals (cases ho; revert e; decide))
    rw [if_pos (hall 14 (by decide))] at hF
    obtain ⟨⟨g3, y1, y2, y3, e3, hg3, hc3, h1, h2, h3⟩, _⟩ := hF
    unfold cpA
    rw [e3]
    obtain ⟨X6, X7, X8, X9, X10, X11, X12, X13, X14, X15, X16, X17, X18, q6, q7, q8, q9, q10, q11, q12, q13, q14, q15, q16, q17, q18⟩ : ∃ a b c d e f g h i j k l m : Value, X 6 = a ∧ X 7 = b ∧ X 8 = c ∧ X 9 = d ∧ X 10 = e ∧ X 11 = f ∧ X 12 = g ∧ X 13 = h ∧ X 14 = i ∧ X 15 = j ∧ X 16 = k ∧ X 17 = l ∧ X 18 = m := ⟨_, _, _, _, _, _, _, _, _, _, _, _, _, rfl, rfl, rfl, rfl, rfl, rfl, rfl, rfl, rfl, rfl, rfl, rfl, rfl⟩
    rw [q6, q7, q8, q9, q10, q11, q12, q13, q14, q15, q16, q17, q18]
    have HH := Lib.hid (And.intro hb (And.intro hg3 (And.intro hc3 (And.intro h1 (And.intro h2 h3)))))
    clear hall hsz hr hb hg3 hc3 h1 h2 h3 q6 q7 q8 q9 q10 q11 q12 q13 q14 q15 q16 q17 q18 e3 k2 k3 k4
    go_wp2_with fail
    have HS : Cp1 W g3 nil0 y1 y2 y3 fs sl E K 0 nil0 [] w' := by
      obtain ⟨hb, hg3, hc3, h1, h2, h3⟩ := HH.out
      exact ⟨hb, hg3, hc3, h1, h2, h3, rfl, by cases fs <;> exact own_none _ _ _, fun k f y _ hy => by simp at hy⟩
    clear HH
    go_loopw [4] (fun v4 wr => ∃ (i : Nat) (vF : Value) (ys : List Value), v4 = .int .i64 (i : Int) ∧ i ≤ fs.length ∧ Cp1 W g3 nil0 y1 y2 y3 fs sl E K i vF ys wr) (fun v4 _ => fs.length - (intOf v4).toNat)
    case atStart => exact ⟨0, nil0, [], rfl, by omega, HS⟩
    case round =>
      clear HS
      obtain ⟨i, vF, ys, rfl, hi, hS⟩ := hrel
      have kb := (hS.below.cell (lt_of_cell k0)).trans k0
      by_cases hlt : i < fs.length
      · have i1 : (i : Int) < (fs.length : Int) := by omega
        have i0 : (0 : Int) ≤ (i : Int) := by omega
        have HH := Lib.hid (And.intro hlt hS)
        clear hlt hS hi
        go_wp2_with fail
        obtain ⟨hlt, hS⟩ := HH.out
        obtain ⟨⟨nm, yv, cs⟩, hfi⟩ : ∃ f, fs[i] = f := ⟨_, rfl⟩
        have hrf := (hf.below hb0).below (hS.below.mono (Nat.le_refl _))
        rw [HFV.out] at hrf
        obtain ⟨b, off, hAF, hbl, hcl⟩ := hrf.at (by rw [flat_len (C := fileC) (k := 2) (fun _ => rfl)]; omega)
        obtain ⟨m0, m1⟩ := fileC_at hlt
        rw [hfi] at m0 m1
        have z0 : wr.cell? ⟨b, off + i * 2, none⟩ = some (.string nm) := hcl _ _ m0
        have z1 : wr.cell? ⟨b, off + i * 2 + 1, none⟩ = some yv := hcl _ _ m1
        have hfm : (nm, yv, cs) ∈ fs := by rw [← hfi]; exact List.getElem_mem hlt
        obtain ⟨hfc, hfl⟩ := HFR.out _ hfm
        have hrc : RowA wr 1 yv cs.length (cs.map Value.string) := (hfc.below hb0).below hS.below
        replace hfl : cs.length ≤ 8796093022208 := hfl
        have HFC := Lib.hid hfc
        clear hfc
        have kw := hS.hd
        have kb := (hS.below.cell (lt_of_cell k0)).trans k0
        have kg : wr.cell? ⟨g3, 0, none⟩ = some vF := by rw [cell_of_row _ _ 0 _ _ (0, 0) kw]; rfl
        have hWr := hS.below.size
        have HAF := Lib.hid hAF
        clear HH hAF
        refine wp_region_inv2 rfl (fun listed a w' => ∃ X, a = cpB (.agg #[fv, cv, sv, ev, kv]) (.pointer (some ⟨w.heap.size, 0, none⟩)) (.pointer (some ⟨w.heap.size + 1, 0, none⟩)) (.pointer (some ⟨g3, 0, none⟩)) (.int .i64 (i : Int)) undef X6 X7 X8 X9 X10 X11 X12 X13 X14 X15 X16 X17 X18 (.int .i64 (i : Int)) (.pointer (some ⟨w.heap.size, 0, none⟩)) (.slice AF fs.length cF) (.int .i64 (fs.length : Int)) (.bool true) u24 u25 X ∧ listed.size = 21 ∧ (if listed.getD 20 false = true then FFin W.heap.size g3 i vF nil0 y1 y2 y3 ((fileZ fs ys).flatMap fileC) nm cs wr w' ∧ ∀ j, j < 21 → listed.getD j false = true
          else if listed.getD 18 false = true then FMid W.heap.size i vF ((fileZ fs ys).flatMap fileC) nm cs wr (X 44) w' ∧ (∀ j, j < 18 → listed.getD j false = true) ∧ (listed.getD 19 false = true → X 45 = .pointer (some ⟨g3, 0, none⟩))
          else Below wr.heap.size wr w' ∧ AtHand 20 fqS (fqP W.heap.size wr.heap.size g3 w.heap.size b off i vF (.slice AF fs.length cF) nm yv cs) listed X w')) ?_ ?_ ?_
        · refine ⟨fun k => match k with | 26 => u26 | 27 => u27 | 28 => u28 | 29 => u29 | 30 => u30 | 31 => u31 | 32 => u32 | 33 => u33 | 34 => u34 | 35 => u35 | 36 => u36 | 37 => u37 | 38 => u38 | 39 => u39 | 40 => u40 | 41 => u41 | 42 => u42 | 43 => u43 | 44 => u44 | 45 => u45 | _ => undef, rfl, by simp, ?_⟩
          rw [if_neg (by rw [fresh_false]; decide), if_neg (by rw [fresh_false]; decide)]
          refine ⟨(Below.refl _ _).drew, fun j hj hl => ?_⟩
          rw [fresh_false] at hl
          cases hl
        · rintro listed a w' ⟨X, rfl, hsz, hF⟩ hr
          have hall := ready_nil hr hsz (by
            intro i2 o ho e he
            have hi2 : i2 < 21 := (Array.getElem?_eq_some_iff.1 ho).1
            obtain rfl | rfl | rfl | rfl | rfl | rfl | rfl | rfl | rfl | rfl | rfl | rfl | rfl | rfl | rfl | rfl | rfl | rfl | rfl | rfl | rfl : i2 = 0 ∨ i2 = 1 ∨ i2 = 2 ∨ i2 = 3 ∨ i2 = 4 ∨ i2 = 5 ∨ i2 = 6 ∨ i2 = 7 ∨ i2 = 8 ∨ i2 = 9 ∨ i2 = 10 ∨ i2 = 11 ∨ i2 = 12 ∨ i2 = 13 ∨ i2 = 14 ∨ i2 = 15 ∨ i2 = 16 ∨ i2 = 17 ∨ i2 = 18 ∨ i2 = 19 ∨ i2 = 20 := by omega
            all_goals (cases ho; revert e; decide))
          rw [if_pos (hall 20 (by decide))] at hF
          have HF1 := Lib.hid hF.1
          clear hF hall hr hsz
          unfold cpB
          obtain ⟨x26, x27, x28, x29, x30, x31, x32, x33, x34, x35, x36, x37, x38, x39, x40, x41, x42, x43, x44, x45, p26, p27, p28, p29, p30, p31, p32, p33, p34, p35, p36, p37, p38, p39, p40, p41, p42, p43, p44, p45⟩ : ∃ x26 x27 x28 x29 x30 x31 x32 x33 x34 x35 x36 x37 x38 x39 x40 x41 x42 x43 x44 x45 : Value, X 26 = x26 ∧ X 27 = x27 ∧ X 28 = x28 ∧ X 29 = x29 ∧ X 30 = x30 ∧ X 31 = x31 ∧ X 32 = x32 ∧ X 33 = x33 ∧ X 34 = x34 ∧ X 35 = x35 ∧ X 36 = x36 ∧ X 37 = x37 ∧ X 38 = x38 ∧ X 39 = x39 ∧ X 40 = x40 ∧ X 41 = x41 ∧ X 42 = x42 ∧ X 43 = x43 ∧ X 44 = x44 ∧ X 45 = x45 := ⟨_, _, _, _, _, _, _, _, _, _, _, _, _, _, _, _, _, _, _, _, rfl, rfl, rfl, rfl, rfl, rfl, rfl, rfl, rfl, rfl, rfl, rfl, rfl, rfl, rfl, rfl, rfl, rfl, rfl, rfl⟩
          rw [p26, p27, p28, p29, p30, p31, p32, p33, p34, p35, p36, p37, p38, p39, p40, p41, p42, p43, p44, p45]
          clear p26 p27 p28 p29 p30 p31 p32 p33 p34 p35 p36 p37 p38 p39 p40 p41 p42 p43 p44 p45
          have ib : (i : Int) ≤ 3518437208883 := by omega
          have HI := Lib.hid hlt
          have HS2 := Lib.hid hS
          have HFI := Lib.hid (show fs[i]? = some (nm, yv, cs) by rw [List.getElem?_eq_getElem hlt, hfi])
          clear hlt hS z0 z1 kb kg kw hrf hrc m0 m1 hcl hfi hfm
          go_wp2_with fail
          obtain ⟨y, x, c1, c2, c3, c4⟩ := HF1.out
          have hS := HS2.out
          have hlt := HI.out
          exact ⟨⟨i + 1, x, ys ++ [y], by go_num, by omega, hS.next HFI.out c1 c2 c3 c4⟩, by simp [intOf]; omega⟩
        · rintro listed a w' ⟨X, rfl, hsz, hF⟩ hcl i2 hi2
          have hlt2 : i2 < 21 := ready_lt hi2
          have hop := ready_open hi2
          have hno : listed.getD i2 false = false := by
            rw [Array.getD_eq_getD_getElem?, ← Array.getElem?_toList, hop]; rfl
          have h20 : ¬ listed.getD 20 false = true := fun e => by
            rw [if_pos e] at hF
            rw [hF.2 i2 hlt2] at hno
            cases hno
          rw [if_neg h20] at hF
          by_cases h18 : listed.getD 18 false = true
          · rw [if_pos h18] at hF
            obtain ⟨hM, hM2, hM3⟩ := hF
            have : i2 = 19 ∨ i2 = 20 := by
              rcases Nat.lt_or_ge i2 18 with q | q
              · rw [hM2 i2 q] at hno; cases hno
              · rcases Nat.lt_or_ge 18 i2 with q2 | q2
                · omega
                · have e : i2 = 18 := by omega
                  subst e; rw [h18] at hno; cases hno
            rcases this with rfl | rfl
            · refine wpOp_val (v := .pointer (some ⟨g3, 0, none⟩)) (w' := w') rfl rfl (by kernel_rfl) ?_
              refine ⟨updX X 45 (.pointer (some ⟨g3, 0, none⟩)), rfl, by simpa using hsz, ?_⟩
              rw [lg_ne (by omega), if_neg h20, lg_ne (by omega), if_pos h18]
              exact ⟨hM, fun j hj => by rw [lg_ne (by omega)]; exact hM2 j hj, fun _ => rfl⟩
            · have e19 := hM3 (ready_deps hi2 rfl ⟨19, .data⟩ (by simp) rfl)
              obtain ⟨y, ⟨A, c, e44⟩, hrow, hy, ht⟩ := hM
              have hg3 : w'.heap[g3]? = wr.heap[g3]? := ht.block g3 (Array.getElem?_eq_some_iff.1 kw).1 fun q => by
                obtain ⟨c', hc'⟩ := own_obj hS.row q
                rw [kw] at hc'
                simp at hc'
              rw [kw] at hg3
              have x0 : w'.cell? ⟨g3, 0, none⟩ = some vF := by rw [cell_of_row _ g3 0 _ _ (0, 0) hg3]; rfl
              have f0 := frozen_of_row w' g3 0 _ _ hg3
              have hset := heap_setCell_same w' g3 0 _ _ (X 44) hg3
              have ht2 : Turn wr (w'.setCell ⟨g3, 0, none⟩ (X 44)) (fun j => j = g3 ∨ vF.ownBlock = some j) := (ht.mono (fun j q => .inr q)).setCell _ _ (fun _ => .inl rfl)
              have ht3 : Turn w' (w'.setCell ⟨g3, 0, none⟩ (X 44)) (fun j => j = g3) := (Turn.refl w' _).setCell _ _ (fun _ => rfl)
              have hall : ∀ j, j < 21 → (listed.setIfInBounds 20 true).getD j false = true := fun j hj => by
                by_cases q : j = 20
                · subst q; exact lg_same hop
                · rw [lg_ne (fun e => q e.symm)]
                  rcases Nat.lt_or_ge j 18 with q2 | q2
                  · exact hM2 j q2
                  · have q3 : j = 18 ∨ j = 19 := by omega
                    rcases q3 with rfl | rfl
                    · exact h18
                    · exact ready_deps hi2 rfl ⟨19, .data⟩ (by simp) rfl
              have hrow2 : (w'.setCell ⟨g3, 0, none⟩ (X 44)).ownsRow W.heap.size 57 2 (X 44) (i + 1) ((fileZ fs ys).flatMap fileC ++ [.string nm, y]) := own_turn hrow ht3 fun j q e => by
                subst e
                obtain ⟨c', hc'⟩ := own_obj hrow q
                rw [hg3] at hc'
                simp at hc'
              refine wpOp_via (v := undef) (w' := w'.setCell ⟨g3, 0, none⟩ (X 44)) rfl rfl ?_ ⟨X, rfl, by simpa using hsz, by rw [if_pos (hall 20 (by omega))]; exact ⟨⟨y, X 44, hset, hrow2, hy.turn hg3 (by decide) ht3, ht2⟩, hall⟩⟩
              intro KK hKK
              clear hset ht2 ht3 hrow2 hall hrow hy ht hM2 hM3 hi2 hop hcl
              unfold cpB at hKK ⊢
              rw [e19, e44] at hKK
              go_wp2_with fail
              exact hKK
          rw [if_neg h18] at hF
          obtain ⟨hb, hF⟩ := hF
          have hws : wr.heap.size ≤ w'.heap.size := hb.size
          have hst : ∀ {i2 : Nat} {v : Value} {w2 : World}, i2 < 20 → i2 ≠ 18 → Below w'.heap.size w' w2 → fqP W.heap.size wr.heap.size g3 w.heap.size b off i vF (.slice AF fs.length cF) nm yv cs i2 v w2 → listed.toList[i2]? = some false →
              ∃ X2, cpB (.agg #[fv, cv, sv, ev, kv]) (.pointer (some ⟨w.heap.size, 0, none⟩)) (.pointer (some ⟨w.heap.size + 1, 0, none⟩)) (.pointer (some ⟨g3, 0, none⟩)) (.int .i64 (i : Int)) undef X6 X7 X8 X9 X10 X11 X12 X13 X14 X15 X16 X17 X18 (.int .i64 (i : Int)) (.pointer (some ⟨w.heap.size, 0, none⟩)) (.slice AF fs.length cF) (.int .i64 (fs.length : Int)) (.bool true) u24 u25 (updX X (fqS i2) v) = cpB (.agg #[fv, cv, sv, ev, kv]) (.pointer (some ⟨w.heap.size, 0, none⟩)) (.pointer (some ⟨w.heap.size + 1, 0, none⟩)) (.pointer (some ⟨g3, 0, none⟩)) (.int .i64 (i : Int)) undef X6 X7 X8 X9 X10 X11 X12 X13 X14 X15 X16 X17 X18 (.int .i64 (i : Int)) (.pointer (some ⟨w.heap.size, 0, none⟩)) (.slice AF fs.length cF) (.int .i64 (fs.length : Int)) (.bool true) u24 u25 X2 ∧ (listed.setIfInBounds i2 true).size = 21 ∧ (if (listed.setIfInBounds i2 true).getD 20 false = true then FFin W.heap.size g3 i vF nil0 y1 y2 y3 ((fileZ fs ys).flatMap fileC) nm cs wr w2 ∧ ∀ j, j < 21 → (listed.setIfInBounds i2 true).getD j false = true
          else if (listed.setIfInBounds i2 true).getD 18 false = true then FMid W.heap.size i vF ((fileZ fs ys).flatMap fileC) nm cs wr (X2 44) w2 ∧ (∀ j, j < 18 → (listed.setIfInBounds i2 true).getD j false = true) ∧ ((listed.setIfInBounds i2 true).getD 19 false = true → X2 45 = .pointer (some ⟨g3, 0, none⟩))
          else Below wr.heap.size wr w2 ∧ AtHand 20 fqS (fqP W.heap.size wr.heap.size g3 w.heap.size b off i vF (.slice AF fs.length cF) nm yv cs) (listed.setIfInBounds i2 true) X2 w2) := by
            intro i2 v w2 hi14 hne hb2 hv ho
            refine ⟨_, rfl, by simpa using hsz, ?_⟩
            rw [lg_ne (by omega), if_neg h20, lg_ne (by omega), if_neg h18]
            exact ⟨hb.trans (hb2.mono hws), hF.step (fun j k _ _ e => by unfold fqS at e; omega) hi14 (fqP_below hb2) hv⟩
          obtain rfl | rfl | rfl | rfl | rfl | rfl | rfl | rfl | rfl | rfl | rfl | rfl | rfl | rfl | rfl | rfl | rfl | rfl | rfl | rfl | rfl : i2 = 0 ∨ i2 = 1 ∨ i2 = 2 ∨ i2 = 3 ∨ i2 = 4 ∨ i2 = 5 ∨ i2 = 6 ∨ i2 = 7 ∨ i2 = 8 ∨ i2 = 9 ∨ i2 = 10 ∨ i2 = 11 ∨ i2 = 12 ∨ i2 = 13 ∨ i2 = 14 ∨ i2 = 15 ∨ i2 = 16 ∨ i2 = 17 ∨ i2 = 18 ∨ i2 = 19 ∨ i2 = 20 := by omega
          · refine wpOp_val (v := .pointer (some ⟨g3, 0, none⟩)) (w' := w') rfl rfl (by kernel_rfl) ?_
            exact hst (i2 := 0) (by omega) (by omega) (Below.refl _ _) rfl hop
          · have d0 := ready_deps hi2 rfl ⟨0, .data⟩ (by simp) rfl
            have e0 : X 26 = .pointer (some ⟨g3, 0, none⟩) := hF 0 (by omega) d0
            have q := (hb.cell (lt_of_cell kg)).trans kg
            refine wpOp_via (v := vF) (w' := w') rfl rfl ?_ (hst (i2 := 1) (by omega) (by omega) (Below.refl _ _) rfl hop)
            intro KK hKK
            unfold cpB at hKK ⊢
            rw [e0] at hKK
            clear hF hst hi2 hop
            go_wp2_with fail
            exact hKK
          · refine wpOp_val (v := .pointer (some ⟨w.heap.size, 0, none⟩)) (w' := w') rfl rfl (by kernel_rfl) ?_
            exact hst (i2 := 2) (by omega) (by omega) (Below.refl _ _) rfl hop
          · have d2 := ready_deps hi2 rfl ⟨2, .data⟩ (by simp) rfl
            have e2 : X 28 = .pointer (some ⟨w.heap.size, 0, none⟩) := hF 2 (by omega) d2
            have q := (hb.cell (lt_of_cell kb)).trans kb
            refine wpOp_via (v := .slice AF fs.length cF) (w' := w') rfl rfl ?_ (hst (i2 := 3) (by omega) (by omega) (Below.refl _ _) rfl hop)
            intro KK hKK
            unfold cpB at hKK ⊢
            rw [e2] at hKK
            clear hF hst hi2 hop
            go_wp2_with fail
            exact hKK
          · refine wpOp_val (v := .int .i64 (i : Int)) (w' := w') rfl rfl (by kernel_rfl) ?_
            exact hst (i2 := 4) (by omega) (by omega) (Below.refl _ _) rfl hop
          · have d3 := ready_deps hi2 rfl ⟨3, .data⟩ (by simp) rfl
            have e3 : X 29 = .slice AF fs.length cF := hF 3 (by omega) d3
            have d4 := ready_deps hi2 rfl ⟨4, .data⟩ (by simp) rfl
            have e4 : X 30 = .int .i64 (i : Int) := hF 4 (by omega) d4
            rw [HAF.out] at e3
            refine wpOp_via (v := .pointer (some ⟨b, off + i * 2, none⟩)) (w' := w') rfl rfl ?_ (hst (i2 := 5) (by omega) (by omega) (Below.refl _ _) rfl hop)
            intro KK hKK
            unfold cpB at hKK ⊢
            rw [e3, e4] at hKK
            clear hF hst hi2 hop
            go_wp2_with fail
            exact hKK
          · have d5 := ready_deps hi2 rfl ⟨5, .data⟩ (by simp) rfl
            have e5 : X 31 = .pointer (some ⟨b, off + i * 2, none⟩) := hF 5 (by omega) d5
            refine wpOp_via (v := .pointer (some ⟨b, off + i * 2, none⟩)) (w' := w') rfl rfl ?_ (hst (i2 := 6) (by omega) (by omega) (Below.refl _ _) rfl hop)
            intro KK hKK
            unfold cpB at hKK ⊢
            rw [e5] at hKK
            clear hF hst hi2 hop
            go_wp2_with fail
            exact hKK
          · have d6 := ready_deps hi2 rfl ⟨6, .data⟩ (by simp) rfl
            have e6 : X 32 = .pointer (some ⟨b, off + i * 2, none⟩) := hF 6 (by omega) d6
            have q := (hb.cell (lt_of_cell z0)).trans z0
            refine wpOp_via (v := .string nm) (w' := w') rfl rfl ?_ (hst (i2 := 7) (by omega) (by omega) (Below.refl _ _) rfl hop)
            intro KK hKK
            unfold cpB at hKK ⊢
            rw [e6] at hKK
            clear hF hst hi2 hop
            go_wp2_with fail
            exact hKK
          · refine wpOp_val (v := .slice (some ⟨w'.heap.size, 0, none⟩) 0 0) (w' := w'.alloc (.cells #[] 9)) rfl rfl (by kernel_rfl) ?_
            exact hst (i2 := 8) (by omega) (by omega) ((Below.refl _ _).alloc (Nat.le_refl _) _) ⟨w'.heap.size, rfl, Nat.le_trans hWr hws, #[], alloc_at _ _⟩ hop
          · refine wpOp_val (v := .pointer (some ⟨w.heap.size, 0, none⟩)) (w' := w') rfl rfl (by kernel_rfl) ?_
            exact hst (i2 := 9) (by omega) (by omega) (Below.refl _ _) rfl hop
          · have d9 := ready_deps hi2 rfl ⟨9, .data⟩ (by simp) rfl
            have e9 : X 35 = .pointer (some ⟨w.heap.size, 0, none⟩) := hF 9 (by omega) d9
            have q := (hb.cell (lt_of_cell kb)).trans kb
            refine wpOp_via (v := .slice AF fs.length cF) (w' := w') rfl rfl ?_ (hst (i2 := 10) (by omega) (by omega) (Below.refl _ _) rfl hop)
            intro KK hKK
            unfold cpB at hKK ⊢
            rw [e9] at hKK
            clear hF hst hi2 hop
            go_wp2_with fail
            exact hKK
          · refine wpOp_val (v := .int .i64 (i : Int)) (w' := w') rfl rfl (by kernel_rfl) ?_
            exact hst (i2 := 11) (by omega) (by omega) (Below.refl _ _) rfl hop
          · have d10 := ready_deps hi2 rfl ⟨10, .data⟩ (by simp) rfl
            have e10 : X 36 = .slice AF fs.length cF := hF 10 (by omega) d10
            have d11 := ready_deps hi2 rfl ⟨11, .data⟩ (by simp) rfl
            have e11 : X 37 = .int .i64 (i : Int) := hF 11 (by omega) d11
            rw [HAF.out] at e10
            refine wpOp_via (v := .pointer (some ⟨b, off + i * 2, none⟩)) (w' := w') rfl rfl ?_ (hst (i2 := 12) (by omega) (by omega) (Below.refl _ _) rfl hop)
            intro KK hKK
            unfold cpB at hKK ⊢
            rw [e10, e11] at hKK
            clear hF hst hi2 hop
            go_wp2_with fail
            exact hKK
          · have d12 := ready_deps hi2 rfl ⟨12, .data⟩ (by simp) rfl
            have e12 : X 38 = .pointer (some ⟨b, off + i * 2, none⟩) := hF 12 (by omega) d12
            refine wpOp_via (v := .pointer (some ⟨b, off + i * 2 + 1, none⟩)) (w' := w') rfl rfl ?_ (hst (i2 := 13) (by omega) (by omega) (Below.refl _ _) rfl hop)
            intro KK hKK
            unfold cpB at hKK ⊢
            rw [e12] at hKK
            clear hF hst hi2 hop
            go_wp2_with fail
            exact hKK
          · have d13 := ready_deps hi2 rfl ⟨13, .data⟩ (by simp) rfl
            have e13 : X 39 = .pointer (some ⟨b, off + i * 2 + 1, none⟩) := hF 13 (by omega) d13
            have q := (hb.cell (lt_of_cell z1)).trans z1
            refine wpOp_via (v := yv) (w' := w') rfl rfl ?_ (hst (i2 := 14) (by omega) (by omega) (Below.refl _ _) rfl hop)
            intro KK hKK
            unfold cpB at hKK ⊢
            rw [e13] at hKK
            clear hF hst hi2 hop
            go_wp2_with fail
            exact hKK
          · have d8 := ready_deps hi2 rfl ⟨8, .data⟩ (by simp) rfl
            have d14 := ready_deps hi2 rfl ⟨14, .data⟩ (by simp) rfl
            obtain ⟨g0, e0, hg0, hgc0⟩ : LitIs W.heap.size 9 (X 34) w' := hF 8 (by omega) d8
            have e2 : X 40 = yv := hF 14 (by omega) d14
            refine wpOp_app rfl rfl 23 (.tmp 34) (.tmp 40) rfl Try.underlying23 strn_info rfl (by decide) (g := g0) e0 hg0 hgc0 (Nat.le_trans hWr hws) e2 (hrc.below hb) (fun u hu => by obtain ⟨z, _, rfl⟩ := List.mem_map.1 hu; rfl) (by unfold maxLen; omega) (by omega) ?_
            intro A c w2 hz hb2
            exact hst (i2 := 15) (by omega) (by omega) hb2 ⟨⟨A, c, rfl⟩, hz⟩ hop
          · have d7 := ready_deps hi2 rfl ⟨7, .data⟩ (by simp) rfl
            have d15 := ready_deps hi2 rfl ⟨15, .data⟩ (by simp) rfl
            have e7 : X 33 = .string nm := hF 7 (by omega) d7
            have n15 : NewIs W.heap.size 9 1 cs.length (cs.map Value.string) (X 41) w' := hF 15 (by omega) d15
            obtain ⟨A, c, e15⟩ := n15.1
            refine wpOp_via (v := .agg #[.string nm, X 41]) (w' := w') rfl rfl ?_ (hst (i2 := 16) (by omega) (by omega) (Below.refl _ _) ⟨X 41, rfl, n15⟩ hop)
            intro KK hKK
            unfold cpB at hKK ⊢
            rw [e7, e15] at hKK
            clear hF hst hi2 hop n15 hcl
            go_wp2_with fail
            exact hKK
          · have d16 := ready_deps hi2 rfl ⟨16, .data⟩ (by simp) rfl
            obtain ⟨y, e16, hy⟩ : fqP W.heap.size wr.heap.size g3 w.heap.size b off i vF (.slice AF fs.length cF) nm yv cs 16 (X 42) w' := hF 16 (by omega) d16
            refine wpOp_via (v := .slice (some ⟨w'.heap.size, 0, none⟩) 1 1) (w' := w'.alloc (.cells #[.string nm, y] 57)) rfl rfl ?_ (hst (i2 := 17) (by omega) (by omega) ((Below.refl _ _).alloc (Nat.le_refl _) _) ⟨w'.heap.size, y, rfl, hws, alloc_at _ _, hy.below ((Below.refl _ _).alloc (Nat.le_refl _) _)⟩ hop)
            intro KK hKK
            unfold cpB at hKK ⊢
            rw [e16] at hKK
            clear hF hst hi2 hop hy hcl
            go_wp2_with fail
            exact hKK
          · have d1 := ready_deps hi2 rfl ⟨1, .data⟩ (by simp) rfl
            have d17 := ready_deps hi2 rfl ⟨17, .data⟩ (by simp) rfl
            have d16 := hcl 17 _ rfl d17 ⟨16, .data⟩ (by simp) rfl
            have d7 := hcl 16 _ rfl d16 ⟨7, .data⟩ (by simp) rfl
            have d15 := hcl 16 _ rfl d16 ⟨15, .data⟩ (by simp) rfl
            have d6 := hcl 7 _ rfl d7 ⟨6, .data⟩ (by simp) rfl
            have d5 := hcl 6 _ rfl d6 ⟨5, .data⟩ (by simp) rfl
            have d3 := hcl 5 _ rfl d5 ⟨3, .data⟩ (by simp) rfl
            have d4 := hcl 5 _ rfl d5 ⟨4, .data⟩ (by simp) rfl
            have d2 := hcl 3 _ rfl d3 ⟨2, .data⟩ (by simp) rfl
            have d8 := hcl 15 _ rfl d15 ⟨8, .data⟩ (by simp) rfl
            have d14 := hcl 15 _ rfl d15 ⟨14, .data⟩ (by simp) rfl
            have d13 := hcl 14 _ rfl d14 ⟨13, .data⟩ (by simp) rfl
            have d12 := hcl 13 _ rfl d13 ⟨12, .data⟩ (by simp) rfl
            have d10 := hcl 12 _ rfl d12 ⟨10, .data⟩ (by simp) rfl
            have d11 := hcl 12 _ rfl d12 ⟨11, .data⟩ (by simp) rfl
            have d9 := hcl 10 _ rfl d10 ⟨9, .data⟩ (by simp) rfl
            have d0 := hcl 1 _ rfl d1 ⟨0, .data⟩ (by simp) rfl
            have e1 : X 27 = vF := hF 1 (by omega) d1
            obtain ⟨g, y, e17, hg, hgc, hy⟩ : fqP W.heap.size wr.heap.size g3 w.heap.size b off i vF (.slice AF fs.length cF) nm yv cs 17 (X 43) w' := hF 17 (by omega) d17
            have hro := own_below hS.row hb
            have hra : RowA w' 2 (.slice (some ⟨g, 0, none⟩) 1 1) 1 [.string nm, y] := ⟨rfl, _, _, rfl, (fun e => by cases e), Nat.le_refl _, fun a ha j u hu => by
              cases ha
              have hj : j < 2 := (List.getElem?_eq_some_iff.1 hu).1
              rw [rd_add, Nat.zero_add, cell_of_row _ g j _ _ (0, 0) hgc]
              simpa using hu⟩
            refine wpOp_of rfl (step_appendA 26 57 (.tmp 27) (.tmp 43) rfl rfl W.heap.size Try.underlying26 file_info rfl (by decide) e1 hro e17 hra (fun u hu => by
              simp at hu
              rcases hu with rfl | rfl
              · rfl
              · obtain ⟨A, c, rfl⟩ := hy.1; rfl) (by unfold maxLen; omega) (by omega) (Nat.le_trans hWr hws) ?_)
            intro v2 w2 hown2 hgrow hloc
            refine ⟨updX X 44 v2, rfl, by simpa using hsz, ?_⟩
            rw [lg_ne (by omega), if_neg h20, lg_same hop, if_pos rfl]
            refine ⟨⟨y, own_shape hown2, hown2, ⟨hy.1, hy.2.same fun j hj => (Turn.of_grown hgrow).block j (hy.2.lt hj).2 fun q => ?_⟩, (Turn.of_below hb _).trans (Turn.of_grown hgrow) (fun _ q => q) (fun j _ q => q)⟩, fun j hj => ?_, fun hl => ?_⟩
            · obtain ⟨c1, hc1⟩ := own_obj hro q
              obtain ⟨c2, hc2⟩ := hy.2.obj hj
              rw [hc1] at hc2
              simp at hc2
            · rw [lg_ne (by omega)]
              obtain rfl | rfl | rfl | rfl | rfl | rfl | rfl | rfl | rfl | rfl | rfl | rfl | rfl | rfl | rfl | rfl | rfl | rfl : j = 0 ∨ j = 1 ∨ j = 2 ∨ j = 3 ∨ j = 4 ∨ j = 5 ∨ j = 6 ∨ j = 7 ∨ j = 8 ∨ j = 9 ∨ j = 10 ∨ j = 11 ∨ j = 12 ∨ j = 13 ∨ j = 14 ∨ j = 15 ∨ j = 16 ∨ j = 17 := by omega
              · exact d0
              · exact d1
              · exact d2
              · exact d3
              · exact d4
              · exact d5
              · exact d6
              · exact d7
              · exact d8
              · exact d9
              · exact d10
              · exact d11
              · exact d12
              · exact d13
              · exact d14
              · exact d15
              · exact d16
              · exact d17
            · rw [lg_ne (by omega)] at hl
              exact hF 19 (by omega) hl
          · refine wpOp_val (v := .pointer (some ⟨g3, 0, none⟩)) (w' := w') rfl rfl (by kernel_rfl) ?_
            exact hst (i2 := 19) (by omega) (by omega) (Below.refl _ _) rfl hop
          · exact absurd (ready_deps hi2 rfl ⟨18, .data⟩ (by simp) rfl) h18
      · have i1 : ¬ (i : Int) < (fs.length : Int) := by omega
        obtain rfl : i = fs.length := by omega
        have HS : Cp2 W g3 y1 y2 y3 fs cl CL sl E K vF ys 0 nil0 [] wr := ⟨hS, rfl, by cases cl <;> exact own_none _ _ _, fun k c y _ hy => by simp at hy⟩
        clear hS hlt hi
        go_wp2_with fail
        go_loopw [5] (fun v5 wr => ∃ (i : Nat) (vC : Value) (yc : List Value), v5 = .int .i64 (i : Int) ∧ i ≤ cl.length ∧ Cp2 W g3 y1 y2 y3 fs cl CL sl E K vF ys i vC yc wr) (fun v5 _ => cl.length - (intOf v5).toNat)
        case atStart => exact ⟨0, nil0, [], rfl, by omega, HS⟩
        case round =>
          clear HS kb
          obtain ⟨i, vC, yc, rfl, hi, hS⟩ := hrel
          have kb := (hS.files.below.cell (lt_of_cell k1)).trans k1
          by_cases hlt : i < cl.length
          · have i1 : (i : Int) < (cl.length : Int) := by omega
            have i0 : (0 : Int) ≤ (i : Int) := by omega
            have HH := Lib.hid (And.intro hlt hS)
            clear hlt hS hi
            go_wp2_with fail
            obtain ⟨hlt, hS⟩ := HH.out
            obtain ⟨⟨nm, yv, code⟩, hfi⟩ : ∃ f, cl[i] = f := ⟨_, rfl⟩
            have hci : cl[i]? = some (nm, yv, code) := by rw [List.getElem?_eq_getElem hlt, hfi]
            obtain ⟨⟨nm', cs, code'⟩, hCi⟩ : ∃ C, CL[i]? = some C := ⟨CL[i]'(by rw [← HCM.out.1]; exact hlt), List.getElem?_eq_getElem _⟩
            obtain ⟨hq1, hq2, hq3⟩ := HCM.out.2 i _ _ hci hCi
            obtain rfl : nm = nm' := hq1
            obtain rfl : code = code' := hq2
            have hrf := (hcr.below hb0).below hS.files.below
            rw [HCV.out] at hrf
            obtain ⟨b, off, hAF, hbl, hcl⟩ := hrf.at (by rw [flat_len (C := cmdC) (k := 3) (fun _ => rfl)]; omega)
            obtain ⟨m0, m1, m2⟩ := cmdC_at hlt
            rw [hfi] at m0 m1 m2
            have z0 : wr.cell? ⟨b, off + i * 3, none⟩ = some (.string nm) := hcl _ _ m0
            have z1 : wr.cell? ⟨b, off + i * 3 + 1, none⟩ = some yv := hcl _ _ m1
            have z2 : wr.cell? ⟨b, off + i * 3 + 2, none⟩ = some (.int .i64 code) := hcl _ _ m2
            have hfl : cs.length ≤ 8796093022208 := HCY.out _ (List.mem_of_getElem? hCi)
            have hrc : RowA wr 1 yv cs.length (cs.map Value.string) := (hq3.1.below hb0).below hS.files.below
            have kw := hS.files.hd
            have kb := (hS.files.below.cell (lt_of_cell k1)).trans k1
            have kg : wr.cell? ⟨g3, 1, none⟩ = some vC := by rw [cell_of_row _ _ 1 _ _ (0, 0) kw]; rfl
            have hWr := hS.files.below.size
            have HAF := Lib.hid hAF
            clear HH hAF hq3
            refine wp_region_inv2 rfl (fun listed a w' => ∃ X, a = cpC (.agg #[fv, cv, sv, ev, kv]) (.pointer (some ⟨w.heap.size, 0, none⟩)) (.pointer (some ⟨w.heap.size + 1, 0, none⟩)) (.pointer (some ⟨g3, 0, none⟩)) (.int .i64 (fs.length : Int)) (.int .i64 (i : Int)) X6 X7 X8 X9 X10 X11 X12 X13 X14 X15 X16 X17 X18 (.int .i64 (fs.length : Int)) (.pointer (some ⟨w.heap.size, 0, none⟩)) (.slice AF fs.length cF) (.int .i64 (fs.length : Int)) (.bool false) u24 u25 u26 u27 u28 u29 u30 u31 u32 u33 u34 u35 u36 u37 u38 u39 u40 u41 u42 u43 u44 u45 (.int .i64 (i : Int)) (.pointer (some ⟨w.heap.size, 1, none⟩)) (.slice AC cl.length cC) (.int .i64 (cl.length : Int)) (.bool true) u51 u52 X ∧ listed.size = 27 ∧ (if listed.getD 26 false = true then GFin W.heap.size g3 i vF vC y1 y2 y3 ((cmdZ cl yc).flatMap cmdC) nm code cs wr w' ∧ ∀ j, j < 27 → listed.getD j false = true
          else if listed.getD 24 false = true then GMid W.heap.size i vC ((cmdZ cl yc).flatMap cmdC) nm code cs wr (X 77) w' ∧ (∀ j, j < 24 → listed.getD j false = true) ∧ (listed.getD 25 false = true → X 78 = .pointer (some ⟨g3, 1, none⟩))
          else Below wr.heap.size wr w' ∧ AtHand 26 gqS (gqP W.heap.size wr.heap.size g3 w.heap.size b off i vC (.slice AC cl.length cC) nm yv code cs) listed X w')) ?_ ?_ ?_
            · refine ⟨fun k => match k with | 53 => u53 | 54 => u54 | 55 => u55 | 56 => u56 | 57 => u57 | 58 => u58 | 59 => u59 | 60 => u60 | 61 => u61 | 62 => u62 | 63 => u63 | 64 => u64 | 65 => u65 | 66 => u66 | 67 => u67 | 68 => u68 | 69 => u69 | 70 => u70 | 71 => u71 | 72 => u72 | 73 => u73 | 74 => u74 | 75 => u75 | 76 => u76 | 77 => u77 | 78 => u78 | _ => undef, rfl, by simp, ?_⟩
              rw [if_neg (by rw [fresh_false]; decide), if_neg (by rw [fresh_false]; decide)]
              refine ⟨(Below.refl _ _).drew, fun j hj hl => ?_⟩
              rw [fresh_false] at hl
              cases hl
            · rintro listed a w' ⟨X, rfl, hsz, hF⟩ hr
              have hall := ready_nil hr hsz (by
                intro i2 o ho e he
                have hi2 : i2 < 27 := (Array.getElem?_eq_some_iff.1 ho).1
                obtain rfl | rfl | rfl | rfl | rfl | rfl | rfl | rfl | rfl | rfl | rfl | rfl | rfl | rfl | rfl | rfl | rfl | rfl | rfl | rfl | rfl | rfl | rfl | rfl | rfl | rfl | rfl : i2 = 0 ∨ i2 = 1 ∨ i2 = 2 ∨ i2 = 3 ∨ i2 = 4 ∨ i2 = 5 ∨ i2 = 6 ∨ i2 = 7 ∨ i2 = 8 ∨ i2 = 9 ∨ i2 = 10 ∨ i2 = 11 ∨ i2 = 12 ∨ i2 = 13 ∨ i2 = 14 ∨ i2 = 15 ∨ i2 = 16 ∨ i2 = 17 ∨ i2 = 18 ∨ i2 = 19 ∨ i2 = 20 ∨ i2 = 21 ∨ i2 = 22 ∨ i2 = 23 ∨ i2 = 24 ∨ i2 = 25 ∨ i2 = 26 := by omega
                all_goals (cases ho; revert e; decide))
              rw [if_pos (hall 26 (by decide))] at hF
              have HF1 := Lib.hid hF.1
              clear hF hall hr hsz
              unfold cpC
              obtain ⟨x53, x54, x55, x56, x57, x58, x59, x60, x61, x62, x63, x64, x65, x66, x67, x68, x69, x70, x71, x72, x73, x74, x75, x76, x77, x78, p53, p54, p55, p56, p57, p58, p59, p60, p61, p62, p63, p64, p65, p66, p67, p68, p69, p70, p71, p72, p73, p74, p75, p76, p77, p78⟩ : ∃ x53 x54 x55 x56 x57 x58 x59 x60 x61 x62 x63 x64 x65 x66 x67 x68 x69 x70 x71 x72 x73 x74 x75 x76 x77 x78 : Value, X 53 = x53 ∧ X 54 = x54 ∧ X 55 = x55 ∧ X 56 = x56 ∧ X 57 = x57 ∧ X 58 = x58 ∧ X 59 = x59 ∧ X 60 = x60 ∧ X 61 = x61 ∧ X 62 = x62 ∧ X 63 = x63 ∧ X 64 = x64 ∧ X 65 = x65 ∧ X 66 = x66 ∧ X 67 = x67 ∧ X 68 = x68 ∧ X 69 = x69 ∧ X 70 = x70 ∧ X 71 = x71 ∧ X 72 = x72 ∧ X 73 = x73 ∧ X 74 = x74 ∧ X 75 = x75 ∧ X 76 = x76 ∧ X 77 = x77 ∧ X 78 = x78 := ⟨_, _, _, _, _, _, _, _, _, _, _, _, _, _, _, _, _, _, _, _, _, _, _, _, _, _, rfl, rfl, rfl, rfl, rfl, rfl, rfl, rfl, rfl, rfl, rfl, rfl, rfl, rfl, rfl, rfl, rfl, rfl, rfl, rfl, rfl, rfl, rfl, rfl, rfl, rfl⟩
              rw [p53, p54, p55, p56, p57, p58, p59, p60, p61, p62, p63, p64, p65, p66, p67, p68, p69, p70, p71, p72, p73, p74, p75, p76, p77, p78]
              clear p53 p54 p55 p56 p57 p58 p59 p60 p61 p62 p63 p64 p65 p66 p67 p68 p69 p70 p71 p72 p73 p74 p75 p76 p77 p78
              have ib : (i : Int) ≤ 2932031007402 := by omega
              have HI := Lib.hid hlt
              have HS2 := Lib.hid hS
              have HFI := Lib.hid (And.intro hci hCi)
              clear hlt hS z0 z1 z2 kb kg kw hrf hrc m0 m1 m2 hcl hfi hci hCi hfl
              go_wp2_with fail
              obtain ⟨y, x, c1, c2, c3, c4⟩ := HF1.out
              have hS := HS2.out
              have hlt := HI.out
              exact ⟨⟨i + 1, x, yc ++ [y], by go_num, by omega, hS.next HFI.out.1 HFI.out.2 c1 c2 c3 c4⟩, by simp [intOf]; omega⟩
            · rintro listed a w' ⟨X, rfl, hsz, hF⟩ hcl i2 hi2
              have hlt2 : i2 < 27 := ready_lt hi2
              have hop := ready_open hi2
              have hno : listed.getD i2 false = false := by
                rw [Array.getD_eq_getD_getElem?, ← Array.getElem?_toList, hop]; rfl
              have h20 : ¬ listed.getD 26 false = true := fun e => by
                rw [if_pos e] at hF
                rw [hF.2 i2 hlt2] at hno
                cases hno
              rw [if_neg h20] at hF
              by_cases h18 : listed.getD 24 false = true
              · rw [if_pos h18] at hF
                obtain ⟨hM, hM2, hM3⟩ := hF
                have : i2 = 25 ∨ i2 = 26 := by
                  rcases Nat.lt_or_ge i2 24 with q | q
                  · rw [hM2 i2 q] at hno; cases hno
                  · rcases Nat.lt_or_ge 24 i2 with q2 | q2
                    · omega
                    · have e : i2 = 24 := by omega
                      subst e; rw [h18] at hno; cases hno
                rcases this with rfl | rfl
                · refine wpOp_val (v := .pointer (some ⟨g3, 1, none⟩)) (w' := w') rfl rfl (by kernel_rfl) ?_
                  refine ⟨updX X 78 (.pointer (some ⟨g3, 1, none⟩)), rfl, by simpa using hsz, ?_⟩
                  rw [lg_ne (by omega), if_neg h20, lg_ne (by omega), if_pos h18]
                  exact ⟨hM, fun j hj => by rw [lg_ne (by omega)]; exact hM2 j hj, fun _ => rfl⟩
                · have e19 := hM3 (ready_deps hi2 rfl ⟨25, .data⟩ (by simp) rfl)
                  obtain ⟨y, ⟨A, c, e44⟩, hrow, hy, ht⟩ := hM
                  have hg3 : w'.heap[g3]? = wr.heap[g3]? := ht.block g3 (Array.getElem?_eq_some_iff.1 kw).1 fun q => by
                    obtain ⟨c', hc'⟩ := own_obj hS.row q
                    rw [kw] at hc'
                    simp at hc'
                  rw [kw] at hg3
                  have x0 : w'.cell? ⟨g3, 1, none⟩ = some vC := by rw [cell_of_row _ g3 1 _ _ (0, 0) hg3]; rfl
                  have f0 := frozen_of_row w' g3 1 _ _ hg3
                  have hset := heap_setCell_same w' g3 1 _ _ (X 77) hg3
                  have ht2 : Turn wr (w'.setCell ⟨g3, 1, none⟩ (X 77)) (fun j => j = g3 ∨ vC.ownBlock = some j) := (ht.mono (fun j q => .inr q)).setCell _ _ (fun _ => .inl rfl)
                  have ht3 : Turn w' (w'.setCell ⟨g3, 1, none⟩ (X 77)) (fun j => j = g3) := (Turn.refl w' _).setCell _ _ (fun _ => rfl)
                  have hall : ∀ j, j < 27 → (listed.setIfInBounds 26 true).getD j false = true := fun j hj => by
                    by_cases q : j = 26
                    · subst q; exact lg_same hop
                    · rw [lg_ne (fun e => q e.symm)]
                      rcases Nat.lt_or_ge j 24 with q2 | q2
                      · exact hM2 j q2
                      · have q3 : j = 24 ∨ j = 25 := by omega
                        rcases q3 with rfl | rfl
                        · exact h18
                        · exact ready_deps hi2 rfl ⟨25, .data⟩ (by simp) rfl
                  have hrow2 : (w'.setCell ⟨g3, 1, none⟩ (X 77)).ownsRow W.heap.size 59 3 (X 77) (i + 1) (((cmdZ cl yc).flatMap cmdC) ++ [.string nm, y, .int .i64 code]) := own_turn hrow ht3 fun j q e => by
                    subst e
                    obtain ⟨c', hc'⟩ := own_obj hrow q
                    rw [hg3] at hc'
                    simp at hc'
                  refine wpOp_via (v := undef) (w' := w'.setCell ⟨g3, 1, none⟩ (X 77)) rfl rfl ?_ ⟨X, rfl, by simpa using hsz, by rw [if_pos (hall 26 (by omega))]; exact ⟨⟨y, X 77, hset, hrow2, hy.turn hg3 (by decide) ht3, ht2⟩, hall⟩⟩
                  intro KK hKK
                  clear hset ht2 ht3 hrow2 hall hrow hy ht hM2 hM3 hi2 hop hcl
                  unfold cpC at hKK ⊢
                  rw [e19, e44] at hKK
                  go_wp2_with fail
                  exact hKK
              rw [if_neg h18] at hF
              obtain ⟨hb, hF⟩ := hF
              have hws : wr.heap.size ≤ w'.heap.size := hb.size
              have hst : ∀ {i2 : Nat} {v : Value} {w2 : World}, i2 < 26 → i2 ≠ 24 → Below w'.heap.size w' w2 → gqP W.heap.size wr.heap.size g3 w.heap.size b off i vC (.slice AC cl.length cC) nm yv code cs i2 v w2 → listed.toList[i2]? = some false →
                  ∃ X2, cpC (.agg #[fv, cv, sv, ev, kv]) (.pointer (some ⟨w.heap.size, 0, none⟩)) (.pointer (some ⟨w.heap.size + 1, 0, none⟩)) (.pointer (some ⟨g3, 0, none⟩)) (.int .i64 (fs.length : Int)) (.int .i64 (i : Int)) X6 X7 X8 X9 X10 X11 X12 X13 X14 X15 X16 X17 X18 (.int .i64 (fs.length : Int)) (.pointer (some ⟨w.heap.size, 0, none⟩)) (.slice AF fs.length cF) (.int .i64 (fs.length : Int)) (.bool false) u24 u25 u26 u27 u28 u29 u30 u31 u32 u33 u34 u35 u36 u37 u38 u39 u40 u41 u42 u43 u44 u45 (.int .i64 (i : Int)) (.pointer (some ⟨w.heap.size, 1, none⟩)) (.slice AC cl.length cC) (.int .i64 (cl.length : Int)) (.bool true) u51 u52 (updX X (gqS i2) v) = cpC (.agg #[fv, cv, sv, ev, kv]) (.pointer (some ⟨w.heap.size, 0, none⟩)) (.pointer (some ⟨w.heap.size + 1, 0, none⟩)) (.pointer (some ⟨g3, 0, none⟩)) (.int .i64 (fs.length : Int)) (.int .i64 (i : Int)) X6 X7 X8 X9 X10 X11 X12 X13 X14 X15 X16 X17 X18 (.int .i64 (fs.length : Int)) (.pointer (some ⟨w.heap.size, 0, none⟩)) (.slice AF fs.length cF) (.int .i64 (fs.length : Int)) (.bool false) u24 u25 u26 u27 u28 u29 u30 u31 u32 u33 u34 u35 u36 u37 u38 u39 u40 u41 u42 u43 u44 u45 (.int .i64 (i : Int)) (.pointer (some ⟨w.heap.size, 1, none⟩)) (.slice AC cl.length cC) (.int .i64 (cl.length : Int)) (.bool true) u51 u52 X2 ∧ (listed.setIfInBounds i2 true).size = 27 ∧ (if (listed.setIfInBounds i2 true).getD 26 false = true then GFin W.heap.size g3 i vF vC y1 y2 y3 ((cmdZ cl yc).flatMap cmdC) nm code cs wr w2 ∧ ∀ j, j < 27 → (listed.setIfInBounds i2 true).getD j false = true
          else if (listed.setIfInBounds i2 true).getD 24 false = true then GMid W.heap.size i vC ((cmdZ cl yc).flatMap cmdC) nm code cs wr (X2 77) w2 ∧ (∀ j, j < 24 → (listed.setIfInBounds i2 true).getD j false = true) ∧ ((listed.setIfInBounds i2 true).getD 25 false = true → X2 78 = .pointer (some ⟨g3, 1, none⟩))
          else Below wr.heap.size wr w2 ∧ AtHand 26 gqS (gqP W.heap.size wr.heap.size g3 w.heap.size b off i vC (.slice AC cl.length cC) nm yv code cs) (listed.setIfInBounds i2 true) X2 w2) := by
                intro i2 v w2 hi14 hne hb2 hv ho
                refine ⟨_, rfl, by simpa using hsz, ?_⟩
                rw [lg_ne (by omega), if_neg h20, lg_ne (by omega), if_neg h18]
                exact ⟨hb.trans (hb2.mono hws), hF.step (fun j k _ _ e => by unfold gqS at e; omega) hi14 (gqP_below hb2) hv⟩
              obtain rfl | rfl | rfl | rfl | rfl | rfl | rfl | rfl | rfl | rfl | rfl | rfl | rfl | rfl | rfl | rfl | rfl | rfl | rfl | rfl | rfl | rfl | rfl | rfl | rfl | rfl | rfl : i2 = 0 ∨ i2 = 1 ∨ i2 = 2 ∨ i2 = 3 ∨ i2 = 4 ∨ i2 = 5 ∨ i2 = 6 ∨ i2 = 7 ∨ i2 = 8 ∨ i2 = 9 ∨ i2 = 10 ∨ i2 = 11 ∨ i2 = 12 ∨ i2 = 13 ∨ i2 = 14 ∨ i2 = 15 ∨ i2 = 16 ∨ i2 = 17 ∨ i2 = 18 ∨ i2 = 19 ∨ i2 = 20 ∨ i2 = 21 ∨ i2 = 22 ∨ i2 = 23 ∨ i2 = 24 ∨ i2 = 25 ∨ i2 = 26 := by omega
              · refine wpOp_val (v := .pointer (some ⟨g3, 1, none⟩)) (w' := w') rfl rfl (by kernel_rfl) ?_
                exact hst (i2 := 0) (by omega) (by omega) (Below.refl _ _) rfl hop
              · have d0 := ready_deps hi2 rfl ⟨0, .data⟩ (by simp) rfl
                have e0 : X 53 = .pointer (some ⟨g3, 1, none⟩) := hF 0 (by omega) d0
                have q := (hb.cell (lt_of_cell kg)).trans kg
                refine wpOp_via (v := vC) (w' := w') rfl rfl ?_ (hst (i2 := 1) (by omega) (by omega) (Below.refl _ _) rfl hop)
                intro KK hKK
                unfold cpC at hKK ⊢
                rw [e0] at hKK
                clear hF hst hi2 hop hcl
                go_wp2_with fail
                exact hKK
              · refine wpOp_val (v := .pointer (some ⟨w.heap.size, 1, none⟩)) (w' := w') rfl rfl (by kernel_rfl) ?_
                exact hst (i2 := 2) (by omega) (by omega) (Below.refl _ _) rfl hop
              · have d2 := ready_deps hi2 rfl ⟨2, .data⟩ (by simp) rfl
                have e2 : X 55 = .pointer (some ⟨w.heap.size, 1, none⟩) := hF 2 (by omega) d2
                have q := (hb.cell (lt_of_cell kb)).trans kb
                refine wpOp_via (v := .slice AC cl.length cC) (w' := w') rfl rfl ?_ (hst (i2 := 3) (by omega) (by omega) (Below.refl _ _) rfl hop)
                intro KK hKK
                unfold cpC at hKK ⊢
                rw [e2] at hKK
                clear hF hst hi2 hop hcl
                go_wp2_with fail
                exact hKK
              · refine wpOp_val (v := .int .i64 (i : Int)) (w' := w') rfl rfl (by kernel_rfl) ?_
                exact hst (i2 := 4) (by omega) (by omega) (Below.refl _ _) rfl hop
              · have d3 := ready_deps hi2 rfl ⟨3, .data⟩ (by simp) rfl
                have e3 : X 56 = .slice AC cl.length cC := hF 3 (by omega) d3
                have d4 := ready_deps hi2 rfl ⟨4, .data⟩ (by simp) rfl
                have e4 : X 57 = .int .i64 (i : Int) := hF 4 (by omega) d4
                rw [HAF.out] at e3
                refine wpOp_via (v := .pointer (some ⟨b, off + i * 3, none⟩)) (w' := w') rfl rfl ?_ (hst (i2 := 5) (by omega) (by omega) (Below.refl _ _) rfl hop)
                intro KK hKK
                unfold cpC at hKK ⊢
                rw [e3, e4] at hKK
                clear hF hst hi2 hop hcl
                go_wp2_with fail
                exact hKK
              · have d5 := ready_deps hi2 rfl ⟨5, .data⟩ (by simp) rfl
                have e5 : X 58 = .pointer (some ⟨b, off + i * 3, none⟩) := hF 5 (by omega) d5
                refine wpOp_via (v := .pointer (some ⟨b, off + i * 3, none⟩)) (w' := w') rfl rfl ?_ (hst (i2 := 6) (by omega) (by omega) (Below.refl _ _) rfl hop)
                intro KK hKK
                unfold cpC at hKK ⊢
                rw [e5] at hKK
                clear hF hst hi2 hop hcl
                go_wp2_with fail
                exact hKK
              · have d6 := ready_deps hi2 rfl ⟨6, .data⟩ (by simp) rfl
                have e6 : X 59 = .pointer (some ⟨b, off + i * 3, none⟩) := hF 6 (by omega) d6
                have q := (hb.cell (lt_of_cell z0)).trans z0
                refine wpOp_via (v := .string nm) (w' := w') rfl rfl ?_ (hst (i2 := 7) (by omega) (by omega) (Below.refl _ _) rfl hop)
                intro KK hKK
                unfold cpC at hKK ⊢
                rw [e6] at hKK
                clear hF hst hi2 hop hcl
                go_wp2_with fail
                exact hKK
              · refine wpOp_val (v := .slice (some ⟨w'.heap.size, 0, none⟩) 0 0) (w' := w'.alloc (.cells #[] 9)) rfl rfl (by kernel_rfl) ?_
                exact hst (i2 := 8) (by omega) (by omega) ((Below.refl _ _).alloc (Nat.le_refl _) _) ⟨w'.heap.size, rfl, Nat.le_trans hWr hws, #[], alloc_at _ _⟩ hop
              · refine wpOp_val (v := .pointer (some ⟨w.heap.size, 1, none⟩)) (w' := w') rfl rfl (by kernel_rfl) ?_
                exact hst (i2 := 9) (by omega) (by omega) (Below.refl _ _) rfl hop
              · have d9 := ready_deps hi2 rfl ⟨9, .data⟩ (by simp) rfl
                have e9 : X 62 = .pointer (some ⟨w.heap.size, 1, none⟩) := hF 9 (by omega) d9
                have q := (hb.cell (lt_of_cell kb)).trans kb
                refine wpOp_via (v := .slice AC cl.length cC) (w' := w') rfl rfl ?_ (hst (i2 := 10) (by omega) (by omega) (Below.refl _ _) rfl hop)
                intro KK hKK
                unfold cpC at hKK ⊢
                rw [e9] at hKK
                clear hF hst hi2 hop hcl
                go_wp2_with fail
                exact hKK
              · refine wpOp_val (v := .int .i64 (i : Int)) (w' := w') rfl rfl (by kernel_rfl) ?_
                exact hst (i2 := 11) (by omega) (by omega) (Below.refl _ _) rfl hop
              · have d10 := ready_deps hi2 rfl ⟨10, .data⟩ (by simp) rfl
                have e10 : X 63 = .slice AC cl.length cC := hF 10 (by omega) d10
                have d11 := ready_deps hi2 rfl ⟨11, .data⟩ (by simp) rfl
                have e11 : X 64 = .int .i64 (i : Int) := hF 11 (by omega) d11
                rw [HAF.out] at e10
                refine wpOp_via (v := .pointer (some ⟨b, off + i * 3, none⟩)) (w' := w') rfl rfl ?_ (hst (i2 := 12) (by omega) (by omega) (Below.refl _ _) rfl hop)
                intro KK hKK
                unfold cpC at hKK ⊢
                rw [e10, e11] at hKK
                clear hF hst hi2 hop hcl
                go_wp2_with fail
                exact hKK
              · have d12 := ready_deps hi2 rfl ⟨12, .data⟩ (by simp) rfl
                have e12 : X 65 = .pointer (some ⟨b, off + i * 3, none⟩) := hF 12 (by omega) d12
                refine wpOp_via (v := .pointer (some ⟨b, off + i * 3 + 1, none⟩)) (w' := w') rfl rfl ?_ (hst (i2 := 13) (by omega) (by omega) (Below.refl _ _) rfl hop)
                intro KK hKK
                unfold cpC at hKK ⊢
                rw [e12] at hKK
                clear hF hst hi2 hop hcl
                go_wp2_with fail
                exact hKK
              · have d13 := ready_deps hi2 rfl ⟨13, .data⟩ (by simp) rfl
                have e13 : X 66 = .pointer (some ⟨b, off + i * 3 + 1, none⟩) := hF 13 (by omega) d13
                have q := (hb.cell (lt_of_cell z1)).trans z1
                refine wpOp_via (v := yv) (w' := w') rfl rfl ?_ (hst (i2 := 14) (by omega) (by omega) (Below.refl _ _) rfl hop)
                intro KK hKK
                unfold cpC at hKK ⊢
                rw [e13] at hKK
                clear hF hst hi2 hop hcl
                go_wp2_with fail
                exact hKK
              · have d8 := ready_deps hi2 rfl ⟨8, .data⟩ (by simp) rfl
                have d14 := ready_deps hi2 rfl ⟨14, .data⟩ (by simp) rfl
                obtain ⟨g0, e0, hg0, hgc0⟩ : LitIs W.heap.size 9 (X 61) w' := hF 8 (by omega) d8
                have e2 : X 67 = yv := hF 14 (by omega) d14
                refine wpOp_app rfl rfl 23 (.tmp 61) (.tmp 67) rfl Try.underlying23 strn_info rfl (by decide) (g := g0) e0 hg0 hgc0 (Nat.le_trans hWr hws) e2 (hrc.below hb) (fun u hu => by obtain ⟨z, _, rfl⟩ := List.mem_map.1 hu; rfl) (by unfold maxLen; omega) (by omega) ?_
                intro A c w2 hz hb2
                exact hst (i2 := 15) (by omega) (by omega) hb2 ⟨⟨A, c, rfl⟩, hz⟩ hop
              · refine wpOp_val (v := .pointer (some ⟨w.heap.size, 1, none⟩)) (w' := w') rfl rfl (by kernel_rfl) ?_
                exact hst (i2 := 16) (by omega) (by omega) (Below.refl _ _) rfl hop
              · have d16 := ready_deps hi2 rfl ⟨16, .data⟩ (by simp) rfl
                have e16 : X 69 = .pointer (some ⟨w.heap.size, 1, none⟩) := hF 16 (by omega) d16
                have q := (hb.cell (lt_of_cell kb)).trans kb
                refine wpOp_via (v := .slice AC cl.length cC) (w' := w') rfl rfl ?_ (hst (i2 := 17) (by omega) (by omega) (Below.refl _ _) rfl hop)
                intro KK hKK
                unfold cpC at hKK ⊢
                rw [e16] at hKK
                clear hF hst hi2 hop hcl
                go_wp2_with fail
                exact hKK
              · refine wpOp_val (v := .int .i64 (i : Int)) (w' := w') rfl rfl (by kernel_rfl) ?_
                exact hst (i2 := 18) (by omega) (by omega) (Below.refl _ _) rfl hop
              · have d17 := ready_deps hi2 rfl ⟨17, .data⟩ (by simp) rfl
                have e17 : X 70 = .slice AC cl.length cC := hF 17 (by omega) d17
                have d18 := ready_deps hi2 rfl ⟨18, .data⟩ (by simp) rfl
                have e18 : X 71 = .int .i64 (i : Int) := hF 18 (by omega) d18
                rw [HAF.out] at e17
                refine wpOp_via (v := .pointer (some ⟨b, off + i * 3, none⟩)) (w' := w') rfl rfl ?_ (hst (i2 := 19) (by omega) (by omega) (Below.refl _ _) rfl hop)
                intro KK hKK
                unfold cpC at hKK ⊢
                rw [e17, e18] at hKK
                clear hF hst hi2 hop hcl
                go_wp2_with fail
                exact hKK
              · have d19 := ready_deps hi2 rfl ⟨19, .data⟩ (by simp) rfl
                have e19 : X 72 = .pointer (some ⟨b, off + i * 3, none⟩) := hF 19 (by omega) d19
                refine wpOp_via (v := .pointer (some ⟨b, off + i * 3 + 2, none⟩)) (w' := w') rfl rfl ?_ (hst (i2 := 20) (by omega) (by omega) (Below.refl _ _) rfl hop)
                intro KK hKK
                unfold cpC at hKK ⊢
                rw [e19] at hKK
                clear hF hst hi2 hop hcl
                go_wp2_with fail
                exact hKK
              · have d20 := ready_deps hi2 rfl ⟨20, .data⟩ (by simp) rfl
                have e20 : X 73 = .pointer (some ⟨b, off + i * 3 + 2, none⟩) := hF 20 (by omega) d20
                have q := (hb.cell (lt_of_cell z2)).trans z2
                refine wpOp_via (v := .int .i64 code) (w' := w') rfl rfl ?_ (hst (i2 := 21) (by omega) (by omega) (Below.refl _ _) rfl hop)
                intro KK hKK
                unfold cpC at hKK ⊢
                rw [e20] at hKK
                clear hF hst hi2 hop hcl
                go_wp2_with fail
                exact hKK
              · have d7 := ready_deps hi2 rfl ⟨7, .data⟩ (by simp) rfl
                have d15 := ready_deps hi2 rfl ⟨15, .data⟩ (by simp) rfl
                have d21 := ready_deps hi2 rfl ⟨21, .data⟩ (by simp) rfl
                have e7 : X 60 = .string nm := hF 7 (by omega) d7
                have e21 : X 74 = .int .i64 code := hF 21 (by omega) d21
                have n15 : NewIs W.heap.size 9 1 cs.length (cs.map Value.string) (X 68) w' := hF 15 (by omega) d15
                obtain ⟨A, c, e15⟩ := n15.1
                refine wpOp_via (v := .agg #[.string nm, X 68, .int .i64 code]) (w' := w') rfl rfl ?_ (hst (i2 := 22) (by omega) (by omega) (Below.refl _ _) ⟨X 68, rfl, n15⟩ hop)
                intro KK hKK
                unfold cpC at hKK ⊢
                rw [e7, e15, e21] at hKK
                clear hF hst hi2 hop n15 hcl
                go_wp2_with fail
                exact hKK
              · have d16 := ready_deps hi2 rfl ⟨22, .data⟩ (by simp) rfl
                obtain ⟨y, e16, hy⟩ : gqP W.heap.size wr.heap.size g3 w.heap.size b off i vC (.slice AC cl.length cC) nm yv code cs 22 (X 75) w' := hF 22 (by omega) d16
                refine wpOp_via (v := .slice (some ⟨w'.heap.size, 0, none⟩) 1 1) (w' := w'.alloc (.cells #[.string nm, y, .int .i64 code] 59)) rfl rfl ?_ (hst (i2 := 23) (by omega) (by omega) ((Below.refl _ _).alloc (Nat.le_refl _) _) ⟨w'.heap.size, y, rfl, hws, alloc_at _ _, hy.below ((Below.refl _ _).alloc (Nat.le_refl _) _)⟩ hop)
                intro KK hKK
                unfold cpC at hKK ⊢
                rw [e16] at hKK
                clear hF hst hi2 hop hy hcl
                go_wp2_with fail
                exact hKK
              · have d1 := ready_deps hi2 rfl ⟨1, .data⟩ (by simp) rfl
                have d23 := ready_deps hi2 rfl ⟨23, .data⟩ (by simp) rfl
                have d22 := hcl 23 _ rfl d23 ⟨22, .data⟩ (by simp) rfl
                have d7 := hcl 22 _ rfl d22 ⟨7, .data⟩ (by simp) rfl
                have d15 := hcl 22 _ rfl d22 ⟨15, .data⟩ (by simp) rfl
                have d21 := hcl 22 _ rfl d22 ⟨21, .data⟩ (by simp) rfl
                have d6 := hcl 7 _ rfl d7 ⟨6, .data⟩ (by simp) rfl
                have d5 := hcl 6 _ rfl d6 ⟨5, .data⟩ (by simp) rfl
                have d3 := hcl 5 _ rfl d5 ⟨3, .data⟩ (by simp) rfl
                have d4 := hcl 5 _ rfl d5 ⟨4, .data⟩ (by simp) rfl
                have d2 := hcl 3 _ rfl d3 ⟨2, .data⟩ (by simp) rfl
                have d8 := hcl 15 _ rfl d15 ⟨8, .data⟩ (by simp) rfl
                have d14 := hcl 15 _ rfl d15 ⟨14, .data⟩ (by simp) rfl
                have d13 := hcl 14 _ rfl d14 ⟨13, .data⟩ (by simp) rfl
                have d12 := hcl 13 _ rfl d13 ⟨12, .data⟩ (by simp) rfl
                have d10 := hcl 12 _ rfl d12 ⟨10, .data⟩ (by simp) rfl
                have d11 := hcl 12 _ rfl d12 ⟨11, .data⟩ (by simp) rfl
                have d9 := hcl 10 _ rfl d10 ⟨9, .data⟩ (by simp) rfl
                have d20 := hcl 21 _ rfl d21 ⟨20, .data⟩ (by simp) rfl
                have d19 := hcl 20 _ rfl d20 ⟨19, .data⟩ (by simp) rfl
                have d17 := hcl 19 _ rfl d19 ⟨17, .data⟩ (by simp) rfl
                have d18 := hcl 19 _ rfl d19 ⟨18, .data⟩ (by simp) rfl
                have d16 := hcl 17 _ rfl d17 ⟨16, .data⟩ (by simp) rfl
                have d0 := hcl 1 _ rfl d1 ⟨0, .data⟩ (by simp) rfl
                have e1 : X 54 = vC := hF 1 (by omega) d1
                obtain ⟨g, y, e17, hg, hgc, hy⟩ : gqP W.heap.size wr.heap.size g3 w.heap.size b off i vC (.slice AC cl.length cC) nm yv code cs 23 (X 76) w' := hF 23 (by omega) d23
                have hro := own_below hS.row hb
                have hra : RowA w' 3 (.slice (some ⟨g, 0, none⟩) 1 1) 1 [.string nm, y, .int .i64 code] := ⟨rfl, _, _, rfl, (fun e => by cases e), Nat.le_refl _, fun a ha j u hu => by
                  cases ha
                  have hj : j < 3 := (List.getElem?_eq_some_iff.1 hu).1
                  rw [rd_add, Nat.zero_add, cell_of_row _ g j _ _ (0, 0) hgc]
                  simpa using hu⟩
                refine wpOp_of rfl (step_appendA 27 59 (.tmp 54) (.tmp 76) rfl rfl W.heap.size Try.underlying27 cmd_info rfl (by decide) e1 hro e17 hra (fun u hu => by
                  simp at hu
                  rcases hu with rfl | rfl | rfl
                  · rfl
                  · obtain ⟨A, c, rfl⟩ := hy.1; rfl
                  · rfl) (by unfold maxLen; omega) (by omega) (Nat.le_trans hWr hws) ?_)
                intro v2 w2 hown2 hgrow hloc
                refine ⟨updX X 77 v2, rfl, by simpa using hsz, ?_⟩
                rw [lg_ne (by omega), if_neg h20, lg_same hop, if_pos rfl]
                refine ⟨⟨y, own_shape hown2, hown2, ⟨hy.1, hy.2.same fun j hj => (Turn.of_grown hgrow).block j (hy.2.lt hj).2 fun q => ?_⟩, (Turn.of_below hb _).trans (Turn.of_grown hgrow) (fun _ q => q) (fun j _ q => q)⟩, fun j hj => ?_, fun hl => ?_⟩
                · obtain ⟨c1, hc1⟩ := own_obj hro q
                  obtain ⟨c2, hc2⟩ := hy.2.obj hj
                  rw [hc1] at hc2
                  simp at hc2
                · rw [lg_ne (by omega)]
                  obtain rfl | rfl | rfl | rfl | rfl | rfl | rfl | rfl | rfl | rfl | rfl | rfl | rfl | rfl | rfl | rfl | rfl | rfl | rfl | rfl | rfl | rfl | rfl | rfl : j = 0 ∨ j = 1 ∨ j = 2 ∨ j = 3 ∨ j = 4 ∨ j = 5 ∨ j = 6 ∨ j = 7 ∨ j = 8 ∨ j = 9 ∨ j = 10 ∨ j = 11 ∨ j = 12 ∨ j = 13 ∨ j = 14 ∨ j = 15 ∨ j = 16 ∨ j = 17 ∨ j = 18 ∨ j = 19 ∨ j = 20 ∨ j = 21 ∨ j = 22 ∨ j = 23 := by omega
                  · exact d0
                  · exact d1
                  · exact d2
                  · exact d3
                  · exact d4
                  · exact d5
                  · exact d6
                  · exact d7
                  · exact d8
                  · exact d9
                  · exact d10
                  · exact d11
                  · exact d12
                  · exact d13
                  · exact d14
                  · exact d15
                  · exact d16
                  · exact d17
                  · exact d18
                  · exact d19
                  · exact d20
                  · exact d21
                  · exact d22
                  · exact d23
                · rw [lg_ne (by omega)] at hl
                  exact hF 25 (by omega) hl
              · refine wpOp_val (v := .pointer (some ⟨g3, 1, none⟩)) (w' := w') rfl rfl (by kernel_rfl) ?_
                exact hst (i2 := 25) (by omega) (by omega) (Below.refl _ _) rfl hop
              · exact absurd (ready_deps hi2 rfl ⟨24, .data⟩ (by simp) rfl) h18
          · have i1 : ¬ (i : Int) < (cl.length : Int) := by omega
            obtain rfl : i = cl.length := by omega
            have hd := hS.files.hd
            have hb1 : wr.heap[w.heap.size + 1]? = some (Obj.cells #[nil0, nil0, nil0, nil0, nil0] 31 (0, 0)) := (hS.files.below.block _ (by omega)).trans hb1x
            have q0 : wr.cell? ⟨g3, 0, none⟩ = some vF := by rw [cell_of_row _ _ 0 _ _ (0, 0) hd]; rfl
            have q1 : wr.cell? ⟨g3, 1, none⟩ = some vC := by rw [cell_of_row _ _ 1 _ _ (0, 0) hd]; rfl
            have q2 : wr.cell? ⟨g3, 2, none⟩ = some y1 := by rw [cell_of_row _ _ 2 _ _ (0, 0) hd]; rfl
            have q3 : wr.cell? ⟨g3, 3, none⟩ = some y2 := by rw [cell_of_row _ _ 3 _ _ (0, 0) hd]; rfl
            have q4 : wr.cell? ⟨g3, 4, none⟩ = some y3 := by rw [cell_of_row _ _ 4 _ _ (0, 0) hd]; rfl
            have x0 : wr.cell? ⟨w.heap.size + 1, 0, none⟩ = some nil0 := by rw [cell_of_row _ _ 0 _ _ (0, 0) hb1]; rfl
            have x1 : wr.cell? ⟨w.heap.size + 1, 1, none⟩ = some nil0 := by rw [cell_of_row _ _ 1 _ _ (0, 0) hb1]; rfl
            have x2 : wr.cell? ⟨w.heap.size + 1, 2, none⟩ = some nil0 := by rw [cell_of_row _ _ 2 _ _ (0, 0) hb1]; rfl
            have x3 : wr.cell? ⟨w.heap.size + 1, 3, none⟩ = some nil0 := by rw [cell_of_row _ _ 3 _ _ (0, 0) hb1]; rfl
            have x4 : wr.cell? ⟨w.heap.size + 1, 4, none⟩ = some nil0 := by rw [cell_of_row _ _ 4 _ _ (0, 0) hb1]; rfl
            have f0 := frozen_of_row wr (w.heap.size + 1) 0 _ _ hb1
            have f1 := frozen_of_row wr (w.heap.size + 1) 1 _ _ hb1
            have f2 := frozen_of_row wr (w.heap.size + 1) 2 _ _ hb1
            have f3 := frozen_of_row wr (w.heap.size + 1) 3 _ _ hb1
            have f4 := frozen_of_row wr (w.heap.size + 1) 4 _ _ hb1
            obtain ⟨A0, c0, rfl⟩ := own_shape hS.files.row
            obtain ⟨A1, c1, rfl⟩ := own_shape hS.row
            obtain ⟨A2, c2, rfl⟩ := hS.files.r1.1
            obtain ⟨A3, c3, rfl⟩ := hS.files.r2.1
            obtain ⟨A4, c4, rfl⟩ := hS.files.r3.1
            obtain ⟨hh, ht⟩ := five_set hb1 (.slice A0 fs.length c0) (.slice A1 cl.length c1) (.slice A2 sl.length c2) (.slice A3 E.length c3) (.slice A4 K.length c4)
            have HO := Lib.hid (hS.out (lo := w.heap.size) (by omega) (b := w.heap.size + 1) (by omega) ht)
            have HB := Lib.hid (show Below w.heap.size w _ from (hb0.trans (hS.files.below.mono (by omega))).trans (ht.below (by have := hS.files.below.size; omega) (fun j e => by omega)))
            have HHH := Lib.hid hh
            clear hS hlt hi hd hb1 hh ht
            go_wp2_with fail
            refine bodyPost_ret (results_cell_row rfl _ _ (w.heap.size + 1) 31 #[.slice A0 fs.length c0, .slice A1 cl.length c1, .slice A2 sl.length c2, .slice A3 E.length c3, .slice A4 K.length c4] (0, 0) _ rfl HHH.out Try.underlying31 rfl (by kernel_rfl)) rfl ?_
            exact ⟨_, _, _, _, _, rfl, ⟨_, _, HO.out⟩, HB.out⟩
  · rintro listed a w' ⟨X, rfl, hsz, hb, hF⟩ i hi
    have hlt : i < 15 := ready_lt hi
    have hop := ready_open hi
    have h14 : ¬ listed.getD 14 false = true := fun e => by
      rw [if_pos e] at hF
      have := hF.2 i hlt
      rw [Array.getD_eq_getD_getElem?, ← Array.getElem?_toList, hop] at this
      cases this
    rw [if_neg h14] at hF
    have hWs : W.heap.size ≤ w'.heap.size := hb.size
    have hst : ∀ {i : Nat} {v : Value} {w2 : World}, i < 14 → Below w'.heap.size w' w2 → cpP W.heap.size w.heap.size sv ev kv sl E K i v w2 → listed.toList[i]? = some false →
        ∃ X2, cpA (.agg #[fv, cv, sv, ev, kv]) (.pointer (some ⟨w.heap.size, 0, none⟩)) (.pointer (some ⟨w.heap.size + 1, 0, none⟩)) (updX X (cpS i) v) = cpA (.agg #[fv, cv, sv, ev, kv]) (.pointer (some ⟨w.heap.size, 0, none⟩)) (.pointer (some ⟨w.heap.size + 1, 0, none⟩)) X2 ∧ (listed.setIfInBounds i true).size = 15 ∧ Below W.heap.size W w2 ∧
    (if (listed.setIfInBounds i true).getD 14 false = true then CpFin W.heap.size [nil0, nil0] sl E K (X2 3) w2 ∧ ∀ j, j < 15 → (listed.setIfInBounds i true).getD j false = true else AtHand 14 cpS (cpP W.heap.size w.heap.size sv ev kv sl E K) (listed.setIfInBounds i true) X2 w2) := by
      intro i v w2 hi14 hb2 hv ho
      refine ⟨_, rfl, by simpa using hsz, hb.trans (hb2.mono hWs), ?_⟩
      rw [lg_ne (by omega), if_neg h14]
      exact hF.step cpS_inj hi14 (cpP_below hb2) hv
    obtain rfl | rfl | rfl | rfl | rfl | rfl | rfl | rfl | rfl | rfl | rfl | rfl | rfl | rfl | rfl : i = 0 ∨ i = 1 ∨ i = 2 ∨ i = 3 ∨ i = 4 ∨ i = 5 ∨ i = 6 ∨ i = 7 ∨ i = 8 ∨ i = 9 ∨ i = 10 ∨ i = 11 ∨ i = 12 ∨ i = 13 ∨ i = 14 := by omega
    · refine wpOp_val (v := .slice (some ⟨w'.heap.size, 0, none⟩) 0 0) (w' := w'.alloc (.cells #[] 9)) rfl rfl (by kernel_rfl) ?_
      exact hst (i := 0) (by omega) ((Below.refl _ _).alloc (Nat.le_refl _) _) ⟨w'.heap.size, rfl, hWs, #[], alloc_at _ _⟩ hop
    · refine wpOp_val (v := .pointer (some ⟨w.heap.size, 2, none⟩)) (w' := w') rfl rfl (by kernel_rfl) ?_
      exact hst (i := 1) (by omega) (Below.refl _ _) rfl hop
    · have d := ready_deps hi rfl ⟨1, .data⟩ (by simp) rfl
      have ep : X 7 = .pointer (some ⟨w.heap.size, 2, none⟩) := hF 1 (by omega) d
      have kk := (hb.cell (lt_of_cell k2)).trans k2
      refine wpOp_via (v := sv) (w' := w') rfl rfl ?_ (hst (i := 2) (by omega) (Below.refl _ _) rfl hop)
      intro KK hKK
      clear hF hst hi hop d
      unfold cpA
      go_wp2_with fail
      rw [← ep]
      exact hKK
    · have d0 := ready_deps hi rfl ⟨0, .data⟩ (by simp) rfl
      have d2 := ready_deps hi rfl ⟨2, .data⟩ (by simp) rfl
      obtain ⟨g0, e0, hg0, hgc0⟩ : LitIs W.heap.size 9 (X 6) w' := hF 0 (by omega) d0
      have e2 : X 8 = sv := hF 2 (by omega) d2
      refine wpOp_app rfl rfl 23 (.tmp 6) (.tmp 8) rfl Try.underlying23 strn_info rfl (by decide) (g := g0) e0 hg0 hgc0 hWs e2 (rs.below hb) (fun u hu => by obtain ⟨z, _, rfl⟩ := List.mem_map.1 hu; rfl) (by unfold maxLen; omega) (by omega) ?_
      intro A c w2 hz hb2
      exact hst (i := 3) (by omega) hb2 ⟨⟨A, c, rfl⟩, hz⟩ hop
    · refine wpOp_val (v := .slice (some ⟨w'.heap.size, 0, none⟩) 0 0) (w' := w'.alloc (.cells #[] 61)) rfl rfl (by kernel_rfl) ?_
      exact hst (i := 4) (by omega) ((Below.refl _ _).alloc (Nat.le_refl _) _) ⟨w'.heap.size, rfl, hWs, #[], alloc_at _ _⟩ hop
    · refine wpOp_val (v := .pointer (some ⟨w.heap.size, 3, none⟩)) (w' := w') rfl rfl (by kernel_rfl) ?_
      exact hst (i := 5) (by omega) (Below.refl _ _) rfl hop
    · have d := ready_deps hi rfl ⟨5, .data⟩ (by simp) rfl
      have ep : X 11 = .pointer (some ⟨w.heap.size, 3, none⟩) := hF 5 (by omega) d
      have kk := (hb.cell (lt_of_cell k3)).trans k3
      refine wpOp_via (v := ev) (w' := w') rfl rfl ?_ (hst (i := 6) (by omega) (Below.refl _ _) rfl hop)
      intro KK hKK
      clear hF hst hi hop d
      unfold cpA
      go_wp2_with fail
      rw [← ep]
      exact hKK
    · have d0 := ready_deps hi rfl ⟨4, .data⟩ (by simp) rfl
      have d2 := ready_deps hi rfl ⟨6, .data⟩ (by simp) rfl
      obtain ⟨g0, e0, hg0, hgc0⟩ : LitIs W.heap.size 61 (X 10) w' := hF 4 (by omega) d0
      have e2 : X 12 = ev := hF 6 (by omega) d2
      refine wpOp_app rfl rfl 28 (.tmp 10) (.tmp 12) rfl Try.underlying28 pair_info rfl (by decide) (g := g0) e0 hg0 hgc0 hWs e2 (re.below hb) (pairC_one E) (by unfold maxLen; omega) (by omega) ?_
      intro A c w2 hz hb2
      exact hst (i := 7) (by omega) hb2 ⟨⟨A, c, rfl⟩, hz⟩ hop
    · refine wpOp_val (v := .slice (some ⟨w'.heap.size, 0, none⟩) 0 0) (w' := w'.alloc (.cells #[] 3)) rfl rfl (by kernel_rfl) ?_
      exact hst (i := 8) (by omega) ((Below.refl _ _).alloc (Nat.le_refl _) _) ⟨w'.heap.size, rfl, hWs, #[], alloc_at _ _⟩ hop
    · refine wpOp_val (v := .pointer (some ⟨w.heap.size, 4, none⟩)) (w' := w') rfl rfl (by kernel_rfl) ?_
      exact hst (i := 9) (by omega) (Below.refl _ _) rfl hop
    · have d := ready_deps hi rfl ⟨9, .data⟩ (by simp) rfl
      have ep : X 15 = .pointer (some ⟨w.heap.size, 4, none⟩) := hF 9 (by omega) d
      have kk := (hb.cell (lt_of_cell k4)).trans k4
      refine wpOp_via (v := kv) (w' := w') rfl rfl ?_ (hst (i := 10) (by omega) (Below.refl _ _) rfl hop)
      intro KK hKK
      clear hF hst hi hop d
      unfold cpA
      go_wp2_with fail
      rw [← ep]
      exact hKK
    · have d0 := ready_deps hi rfl ⟨8, .data⟩ (by simp) rfl
      have d2 := ready_deps hi rfl ⟨10, .data⟩ (by simp) rfl
      obtain ⟨g0, e0, hg0, hgc0⟩ : LitIs W.heap.size 3 (X 14) w' := hF 8 (by omega) d0
      have e2 : X 16 = kv := hF 10 (by omega) d2
      refine wpOp_app rfl rfl 29 (.tmp 14) (.tmp 16) rfl Try.underlying29 int_info rfl (by decide) (g := g0) e0 hg0 hgc0 hWs e2 (rk.below hb) (fun u hu => by obtain ⟨z, _, rfl⟩ := List.mem_map.1 hu; rfl) (by unfold maxLen; omega) (by omega) ?_
      intro A c w2 hz hb2
      exact hst (i := 11) (by omega) hb2 ⟨⟨A, c, rfl⟩, hz⟩ hop
    · have d3 := ready_deps hi rfl ⟨3, .data⟩ (by simp) rfl
      have d7 := ready_deps hi rfl ⟨7, .data⟩ (by simp) rfl
      have d11 := ready_deps hi rfl ⟨11, .data⟩ (by simp) rfl
      obtain ⟨A1, c1, e1⟩ := (show NewIs _ _ _ _ _ (X 9) w' from hF 3 (by omega) d3).1
      obtain ⟨A2, c2, e2⟩ := (show NewIs _ _ _ _ _ (X 13) w' from hF 7 (by omega) d7).1
      obtain ⟨A3, c3, e3⟩ := (show NewIs _ _ _ _ _ (X 17) w' from hF 11 (by omega) d11).1
      refine wpOp_via (v := .agg #[nil0, nil0, X 9, X 13, X 17]) (w' := w') rfl rfl ?_ (hst (i := 12) (by omega) (Below.refl _ _) ⟨X 9, X 13, X 17, rfl, hF 3 (by omega) d3, hF 7 (by omega) d7, hF 11 (by omega) d11⟩ hop)
      intro KK hKK
      clear hF hst hi hop d3 d7 d11
      unfold cpA
      go_wp2_with fail
      rw [← e1, ← e2, ← e3]
      exact hKK
    · refine wpOp_val (v := .pointer (some ⟨w'.heap.size, 0, none⟩)) (w' := w'.alloc (.cells #[nil0, nil0, nil0, nil0, nil0] 31)) rfl rfl (by kernel_rfl) ?_
      exact hst (i := 13) (by omega) ((Below.refl _ _).alloc (Nat.le_refl _) _) ⟨w'.heap.size, rfl, hWs, alloc_at _ _⟩ hop
    · have dl : ∀ j, j < 14 → listed.getD j false = true := by
        intro j hj
        obtain rfl | rfl | rfl | rfl | rfl | rfl | rfl | rfl | rfl | rfl | rfl | rfl | rfl | rfl : j = 0 ∨ j = 1 ∨ j = 2 ∨ j = 3 ∨ j = 4 ∨ j = 5 ∨ j = 6 ∨ j = 7 ∨ j = 8 ∨ j = 9 ∨ j = 10 ∨ j = 11 ∨ j = 12 ∨ j = 13 := by omega
        all_goals exact ready_deps hi rfl ⟨_, .phase⟩ (by simp) rfl
      obtain ⟨y1, y2, y3, e18, h1, h2, h3⟩ : cpP W.heap.size w.heap.size sv ev kv sl E K 12 (X 18) w' := hF 12 (by omega) (dl 12 (by omega))
      obtain ⟨g, e3, hg, hgc⟩ : cpP W.heap.size w.heap.size sv ev kv sl E K 13 (X 3) w' := hF 13 (by omega) (dl 13 (by omega))
      obtain ⟨A1, c1, rfl⟩ := h1.1
      obtain ⟨A2, c2, rfl⟩ := h2.1
      obtain ⟨A3, c3, rfl⟩ := h3.1
      obtain ⟨hh, ht⟩ := five_set hgc nil0 nil0 (.slice A1 sl.length c1) (.slice A2 E.length c2) (.slice A3 K.length c3)
      have hlast : ∀ j, j < 15 → (listed.setIfInBounds 14 true).getD j false = true := by
        intro j hj
        by_cases e : j = 14
        · subst e; exact lg_same hop
        · rw [lg_ne (fun q => e q.symm)]; exact dl j (by omega)
      have x0 : w'.cell? ⟨g, 0, none⟩ = some nil0 := by rw [cell_of_row _ g 0 _ _ (0, 0) hgc]; rfl
      have x1 : w'.cell? ⟨g, 1, none⟩ = some nil0 := by rw [cell_of_row _ g 1 _ _ (0, 0) hgc]; rfl
      have x2 : w'.cell? ⟨g, 2, none⟩ = some nil0 := by rw [cell_of_row _ g 2 _ _ (0, 0) hgc]; rfl
      have x3 : w'.cell? ⟨g, 3, none⟩ = some nil0 := by rw [cell_of_row _ g 3 _ _ (0, 0) hgc]; rfl
      have x4 : w'.cell? ⟨g, 4, none⟩ = some nil0 := by rw [cell_of_row _ g 4 _ _ (0, 0) hgc]; rfl
      have f0 := frozen_of_row w' g 0 _ _ hgc
      have f1 := frozen_of_row w' g 1 _ _ hgc
      have f2 := frozen_of_row w' g 2 _ _ hgc
      have f3 := frozen_of_row w' g 3 _ _ hgc
      have f4 := frozen_of_row w' g 4 _ _ hgc
      refine wpOp_via (v := undef) (w' := ((((w'.setCell ⟨g, 0, none⟩ nil0).setCell ⟨g, 1, none⟩ nil0).setCell ⟨g, 2, none⟩ (.slice A1 sl.length c1)).setCell ⟨g, 3, none⟩ (.slice A2 E.length c2)).setCell ⟨g, 4, none⟩ (.slice A3 K.length c3)) rfl rfl ?_ ⟨X, rfl, by simpa using hsz, hb.trans (ht.below hWs (fun j e => by rw [e]; exact hg)), by rw [if_pos (hlast 14 (by omega))]; exact ⟨⟨g, _, _, _, e3, hg, hh, h1.turn hgc (by decide) ht, h2.turn hgc (by decide) ht, h3.turn hgc (by decide) ht⟩, hlast⟩⟩
      intro KK hKK
      clear hF hst hi hop dl h1 h2 h3 hlast hh ht
      unfold cpA
      go_wp2_with fail
      rw [← e18, ← e3]
      exact hKK
end Go.Proofs.Yticinbkgmfoeoaa
