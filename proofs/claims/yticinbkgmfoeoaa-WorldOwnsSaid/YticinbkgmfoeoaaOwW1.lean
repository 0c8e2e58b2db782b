/- What New has made stays what it is, whatever becomes of the script that it was made of. -/
import Derived.Test.YticinbkgmfoeoaaNewO
import Derived.Test.YticinbkgmfoeoaaPlaysW
import Derived.Test.YticinbkgmfoeoaaMut
import Derived.Test.YticinbkgmfoeoaaNilW
namespace Go.Proofs.Yticinbkgmfoeoaa
open Go.RowKit
set_option linter.unusedVariables false

theorem HoldsO.holds {lo : Nat} {W : World} {files : ByteArray → Option Value} {L : ByteArray → Option (List ByteArray)} (h : HoldsO lo W files L) : Holds W files L := fun nm =>
  ⟨fun l hl => by
    obtain ⟨v, h1, h2⟩ := (h nm).1 l hl
    exact ⟨v, h1, RowT.of_own h2⟩, (h nm).2⟩
theorem AreCmdsO.are {lo : Nat} {W : World} {l : List CT} {F : List CM} (h : AreCmdsO lo W l F) : AreCmds W l F :=
  ⟨h.1, fun i x y hx hy => by
    obtain ⟨a, b, c⟩ := h.2 i x y hx hy
    exact ⟨a, b, RowT.of_own c⟩⟩
theorem own_up {W W' : World} {lo : Nat} {e : TypeId} {s : Nat} {v : Value} {n : Nat} {xs : List Value} (h : W.ownsRow lo e s v n xs) (hk : ∀ j, lo ≤ j → j < W.heap.size → W'.heap[j]? = W.heap[j]?) : W'.ownsRow lo e s v n xs :=
  own_same h fun j hj => hk j (h.lt j hj).1 (h.lt j hj).2
/-- Only blocks below New's own have turned. -/
theorem mw_up {w W W' : World} {B0 : Nat} {scr : Array Value} {m1 m2 g : Nat} {v16 v19 : Value} {n1 n2 : Nat} {files cmds : ByteArray → Option Value} {E : List (ByteArray × ByteArray)} {K : List Int} {L : ByteArray → Option (List ByteArray)} {F : ByteArray → List CM}
    (h : NewStO w B0 scr E.length (E.flatMap pairC) K.length (K.map (Value.int .i64)) m1 m2 g v16 v19 n1 n2 files cmds L W) (hC : CmdsHoldO w.heap.size W cmds F) (hk : ∀ j, w.heap.size ≤ j → j < W.heap.size → W'.heap[j]? = W.heap[j]?) (hs : W.heap.size ≤ W'.heap.size)
    (D : Nat → Prop) (hD : ∀ j, D j → W.heap.size ≤ j ∧ j < W'.heap.size) : MWD D w.heap.size g n2 E L F K [] [] 0 W' := by
  have hg : g < W.heap.size := (Array.getElem?_eq_some_iff.1 h.hd).1
  have h1 := h.f.lt
  have h2 := h.c.lt
  refine ⟨m1, m2, n1, v16, v19, .slice none 0 0, .slice none 0 0, files, cmds, ⟨(hk g h.lg hg).trans h.hd, h.f.same (hk m1 h.la h1), h.c.same (hk m2 h.lb h2), h.ne, .inl (own_nil _ _ _ _), own_nil _ _ _ _⟩, ⟨Nat.le_trans h.below.size hs, h.lg, h.lb, ?_, fun nm => ?_, RowT.of_own (own_up h.clock hk), RowT.of_own (own_up h.env hk)⟩, fun j hj => ?_⟩
  · refine HoldsO.holds (lo := w.heap.size) fun nm => ⟨fun l hl => ?_, (h.holds nm).2⟩
    obtain ⟨v, q1, q2⟩ := (h.holds nm).1 l hl
    exact ⟨v, q1, own_up q2 hk⟩
  · obtain ⟨l, q1, q2⟩ := hC.each nm
    refine ⟨l, AreCmdsO.are (lo := w.heap.size) ⟨q1.1, fun i x y hx hy => ?_⟩, RowT.of_own (own_up q2 hk)⟩
    obtain ⟨a, b, c⟩ := q1.2 i x y hx hy
    exact ⟨a, b, own_up c hk⟩
  · obtain ⟨a, b⟩ := hD j hj
    refine ⟨b, by omega, by omega, by omega, ?_, ?_⟩ <;> intro e <;> cases e
/-- Both worlds at the start, once the script of the one is written over. -/
theorem own_start {W0 w w3 W' : World} {B0 : Nat} {scr : Array Value} {m1 m2 g : Nat} {v16 v19 : Value} {n1 n2 : Nat} {files cmds : ByteArray → Option Value} {fv cv sv ev kv : Value} {fs : List FT} {CL : List CM} {sl : List ByteArray} {E : List (ByteArray × ByteArray)} {K : List Int}
    (h : NewStO w B0 scr E.length (E.flatMap pairC) K.length (K.map (Value.int .i64)) m1 m2 g v16 v19 n1 n2 files cmds (stdL (fileL fs) sl 2) w3) (hC : CmdsHoldO w.heap.size w3 cmds (cmdF CL)) (hl : W0.heap.size ≤ w.heap.size)
    {P : Nat → TypeId → Nat → Prop} (hM : Mut P (w3.alloc (.cells #[fv, cv, sv, ev, kv, .slice none 0 0, .int .i64 0, .slice none 0 0, .slice none 0 0, .int .i64 0] 51)) W') (hP : ∀ j T k, P j T k → W0.heap.size ≤ j ∧ j < w.heap.size) (hb : Below W0.heap.size W0 W') :
    Even W0 w.heap.size g w3.heap.size fv cv sv ev kv fs CL sl E K (fun _ => False) W0 n2 [] 0 [] [] 0 W' := by
  have hsz : W'.heap.size = w3.heap.size + 1 := by rw [hM.size]; simp
  have hk : ∀ j, w.heap.size ≤ j → W'.heap[j]? = (w3.alloc (.cells #[fv, cv, sv, ev, kv, .slice none 0 0, .int .i64 0, .slice none 0 0, .slice none 0 0, .int .i64 0] 51)).heap[j]? := fun j hj => hM.block fun T k hp => by have := (hP j T k hp).2; omega
  have hw3 := h.below.size
  refine ⟨fun j => j = w3.heap.size, .slice none 0 0, .slice none 0 0, .slice none 0 0, ?_, ⟨(hk _ hw3).trans (alloc_at _ _), RowT.of_own (own_none 0 _ _), RowT.of_own (own_none 0 _ _), RowT.of_own (own_none 0 _ _)⟩, rfl, fun j hj => ?_, fun j hj => hj.elim, hb, hl, Nat.le_trans hl hw3⟩
  · have h := mw_up h hC (W' := W') (fun j h1 h2 => (hk j h1).trans (heap_alloc_old _ _ h2)) (by omega) (fun j => j = w3.heap.size) (fun j hj => ⟨by omega, by omega⟩)
    have e : (fun nm => (cmdF CL nm).drop (cntA [] nm)) = cmdF CL := funext fun nm => by simp [cntA]
    rw [e, clkL_zero]
    exact h
  · rcases hj with hj | hj | hj <;> cases hj

/-! ### what is written over -/
/-- Which cells may be written over: strings; then so many cells of the rows of the kinds of T's list, in this order. -/
def OverF (lo hi i : Nat) (j : Nat) (T : TypeId) (k : Nat) : Prop := lo ≤ j ∧ j < hi ∧ (T = 9 ∨ (T = 57 ∧ k < i * 2))
def OverC (lo hi i : Nat) (j : Nat) (T : TypeId) (k : Nat) : Prop := lo ≤ j ∧ j < hi ∧ (T = 9 ∨ T = 57 ∨ (T = 59 ∧ k < i * 3))
def OverA (lo hi : Nat) (j : Nat) (T : TypeId) (k : Nat) : Prop := lo ≤ j ∧ j < hi
/-- What Copy has given, as places to write to. -/
structure Places (w : World) (lo hi : Nat) (fs : List FT) (cl : List CT) (CL : List CM) (nS nE nK : Nat) (AF AC A1 A2 A3 : Option Addr) (yf yc : List Value) : Prop where
  lenF : yf.length = fs.length
  lenC : yc.length = cl.length
  lenM : cl.length = CL.length
  rowF : Shp w lo hi 57 2 AF fs.length
  rowC : Shp w lo hi 59 3 AC cl.length
  rowS : Shp w lo hi 9 1 A1 nS
  rowE : Shp w lo hi 61 2 A2 nE
  rowK : Shp w lo hi 3 1 A3 nK
  cellF : ∀ (i : Nat) (y : Value), yf[i]? = some y → ∀ b off, AF = some ⟨b, off, none⟩ → off = 0 ∧ w.cell? ⟨b, i * 2 + 1, none⟩ = some y
  cellC : ∀ (i : Nat) (y : Value), yc[i]? = some y → ∀ b off, AC = some ⟨b, off, none⟩ → off = 0 ∧ w.cell? ⟨b, i * 3 + 1, none⟩ = some y
  eachF : ∀ (i : Nat) (f : FT) (y : Value), fs[i]? = some f → yf[i]? = some y → ∃ A c, y = .slice A f.2.2.length c ∧ Shp w lo hi 9 1 A f.2.2.length
  eachC : ∀ (i : Nat) (f : CM) (y : Value), CL[i]? = some f → yc[i]? = some y → ∃ A c, y = .slice A f.2.1.length c ∧ Shp w lo hi 9 1 A f.2.1.length
theorem own_zero {w : World} {lo : Nat} {T : TypeId} {s n c : Nat} {A : Option Addr} {xs : List Value} (h : w.ownsRow lo T s (.slice A n c) n xs) {b off : Nat} (hA : A = some ⟨b, off, none⟩) : off = 0 ∧ ∀ j u, xs[j]? = some u → w.cell? ⟨b, j, none⟩ = some u := by
  subst hA
  rcases h.2 with ⟨e, hz⟩ | ⟨g, cap, cur, e, h1, h2, h3, h4, h5, h6⟩
  · cases e
  · injection e with e1 e2 e3
    injection e1 with e1
    injection e1 with e1 e2 e3
    subst e1 e2
    refine ⟨rfl, fun j u hj => ?_⟩
    rw [← h6] at hj
    unfold World.cell?
    rw [h2]
    have : j < n * s := by
      rcases Nat.lt_or_ge j (n * s) with h | h
      · exact h
      · rw [List.getElem?_eq_none (by rw [List.length_take]; omega)] at hj; cases hj
    rw [List.getElem?_take_of_lt this] at hj
    simpa using hj
theorem NewIs.place {lo : Nat} {T : TypeId} {s n : Nat} {xs : List Value} {x : Value} {w : World} (h : NewIs lo T s n xs x w) : ∃ A c, x = .slice A n c ∧ Shp w lo w.heap.size T s A n := by
  obtain ⟨⟨A, c, rfl⟩, h2⟩ := h
  exact ⟨A, c, rfl, Shp.of_ownZ h2⟩
theorem CpOut.places {w w' : World} {lo : Nat} {fs : List FT} {cl : List CT} {CL : List CM} {sl : List ByteArray} {E : List (ByteArray × ByteArray)} {K : List Int} {AF AC A1 A2 A3 : Option Addr} {nF cF nC cC n1 c1 n2 c2 n3 c3 : Nat} {yf yc : List Value}
    (h : CpOut lo fs cl CL sl E K (.slice AF nF cF) (.slice AC nC cC) (.slice A1 n1 c1) (.slice A2 n2 c2) (.slice A3 n3 c3) yf yc w) (hl : cl.length = CL.length) (hb : Below w.heap.size w w') :
    nF = fs.length ∧ nC = cl.length ∧ n1 = sl.length ∧ n2 = E.length ∧ n3 = K.length ∧ Places w' lo w.heap.size fs cl CL sl.length E.length K.length AF AC A1 A2 A3 yf yc := by
  obtain ⟨_, _, e1, s1⟩ := h.r1.place
  obtain ⟨_, _, e2, s2⟩ := h.r2.place
  obtain ⟨_, _, e3, s3⟩ := h.r3.place
  injection e1 with a1 a2 a3
  injection e2 with b1 b2 b3
  injection e3 with d1 d2 d3
  subst a1 a2 a3 b1 b2 b3 d1 d2 d3
  obtain ⟨_, _, e4⟩ := own_shape h.rowF
  obtain ⟨_, _, e5⟩ := own_shape h.rowC
  injection e4 with a1 a2 a3
  injection e5 with b1 b2 b3
  subst a1 a2 a3 b1 b2 b3
  have hk : ∀ j, lo ≤ j → j < w.heap.size → w'.heap[j]? = w.heap[j]? := fun j _ hj => hb.block j hj
  refine ⟨rfl, rfl, rfl, rfl, rfl, h.lenF, h.lenC, hl, (Shp.of_own h.rowF).same hk, (Shp.of_own h.rowC).same hk, s1.same hk, s2.same hk, s3.same hk, fun i y hy b off hA => ?_, fun i y hy b off hA => ?_, fun i f y hf hy => ?_, fun i f y hf hy => ?_⟩
  · obtain ⟨e, hc⟩ := own_zero h.rowF hA
    have hi : i < yf.length := (List.getElem?_eq_some_iff.1 hy).1
    have hz : i < (fileZ fs yf).length := by rw [fileZ_len h.lenF, ← h.lenF]; exact hi
    have q := hc _ _ (fileC_at hz).2
    have e2 : (fileZ fs yf)[i].2.1 = y := by
      obtain ⟨a, b', q1, q2, q3⟩ := zip_at (List.getElem?_eq_getElem hz)
      rw [hy] at q2
      cases q2
      rw [q3]
    rw [e2] at q
    exact ⟨e, (hb.cell (lt_of_cell q)).trans q⟩
  · obtain ⟨e, hc⟩ := own_zero h.rowC hA
    have hi : i < yc.length := (List.getElem?_eq_some_iff.1 hy).1
    have hz : i < (cmdZ cl yc).length := by rw [cmdZ_len h.lenC, ← h.lenC]; exact hi
    have q := hc _ _ (cmdC_at hz).2.1
    have e2 : (cmdZ cl yc)[i].2.1 = y := by
      obtain ⟨a, b', q1, q2, q3⟩ := zip_at (List.getElem?_eq_getElem hz)
      rw [hy] at q2
      cases q2
      rw [q3]
    rw [e2] at q
    exact ⟨e, (hb.cell (lt_of_cell q)).trans q⟩
  · obtain ⟨A, c, e, q⟩ := (h.eachF i f y hf hy).place
    exact ⟨A, c, e, q.same hk⟩
  · obtain ⟨A, c, e, q⟩ := (h.eachC i f y hf hy).place
    exact ⟨A, c, e, q.same hk⟩

section
variable {w w' : World} {lo hi : Nat} {fs : List FT} {cl : List CT} {CL : List CM} {nS nE nK : Nat} {AF AC A1 A2 A3 : Option Addr} {yf yc : List Value}
/-- The file at hand, in the memory as it is. -/
theorem Places.file (h : Places w lo hi fs cl CL nS nE nK AF AC A1 A2 A3 yf yc) {i : Nat} (hi' : i < fs.length) :
    ∃ b off cs A m c, AF = some ⟨b, off, none⟩ ∧ off = 0 ∧ lo ≤ b ∧ b < hi ∧ w.heap[b]? = some (.cells cs 57 (0, 0)) ∧ m ≤ (fs[i]).2.2.length ∧ Shp w lo hi 9 1 A m ∧ ∀ (w' : World), Mut (OverF lo hi i) w w' →
      (∃ x, w'.cell? ⟨b, off + i * 2, none⟩ = some x) ∧ w'.cell? ⟨b, off + i * 2 + 1, none⟩ = some (.slice A m c) ∧ w'.frozen? ⟨b, off + i * 2, none⟩ = false ∧ w'.frozen? ⟨b, off + i * 2 + 1, none⟩ = false := by
  obtain ⟨b, off, cs, e, h1, h2, h3, h4⟩ := h.rowF.at2 hi'
  have hy : i < yf.length := by rw [h.lenF]; exact hi'
  obtain ⟨rfl, q⟩ := h.cellF i _ (List.getElem?_eq_getElem hy) b off e
  obtain ⟨A, c, e2, hs⟩ := h.eachF i _ _ (List.getElem?_eq_getElem hi') (List.getElem?_eq_getElem hy)
  rw [e2] at q
  refine ⟨b, 0, cs, A, _, c, e, rfl, h1, h2, h3, Nat.le_refl _, hs, fun w' hM => ?_⟩
  obtain ⟨q1, q2, q3, q4⟩ := h4 _ w' hM
  refine ⟨q1, ?_, q3, q4⟩
  rw [Nat.zero_add]
  refine hM.keeps h3 (fun hp => ?_) q
  rcases hp.2.2 with e | ⟨_, e⟩
  · exact absurd e (by decide)
  · omega
theorem Places.cmd (h : Places w lo hi fs cl CL nS nE nK AF AC A1 A2 A3 yf yc) {i : Nat} (hi' : i < cl.length) (hm : i < CL.length) :
    ∃ b off cs A m c, AC = some ⟨b, off, none⟩ ∧ off = 0 ∧ lo ≤ b ∧ b < hi ∧ w.heap[b]? = some (.cells cs 59 (0, 0)) ∧ m ≤ (CL[i]).2.1.length ∧ Shp w lo hi 9 1 A m ∧ ∀ (w' : World), Mut (OverC lo hi i) w w' →
      (∃ x, w'.cell? ⟨b, off + i * 3, none⟩ = some x) ∧ w'.cell? ⟨b, off + i * 3 + 1, none⟩ = some (.slice A m c) ∧ (∃ x, w'.cell? ⟨b, off + i * 3 + 2, none⟩ = some x) ∧ w'.frozen? ⟨b, off + i * 3, none⟩ = false ∧ w'.frozen? ⟨b, off + i * 3 + 1, none⟩ = false ∧ w'.frozen? ⟨b, off + i * 3 + 2, none⟩ = false := by
  obtain ⟨b, off, cs, e, h1, h2, h3, h4⟩ := h.rowC.at3 hi'
  have hy : i < yc.length := by rw [h.lenC]; exact hi'
  obtain ⟨rfl, q⟩ := h.cellC i _ (List.getElem?_eq_getElem hy) b off e
  obtain ⟨A, c, e2, hs⟩ := h.eachC i _ _ (List.getElem?_eq_getElem hm) (List.getElem?_eq_getElem hy)
  rw [e2] at q
  refine ⟨b, 0, cs, A, _, c, e, rfl, h1, h2, h3, Nat.le_refl _, hs, fun w' hM => ?_⟩
  obtain ⟨q1, q2, q3, q4, q5, q6⟩ := h4 _ w' hM
  refine ⟨q1, ?_, q3, q4, q5, q6⟩
  rw [Nat.zero_add]
  refine hM.keeps h3 (fun hp => ?_) q
  rcases hp.2.2 with e | e | ⟨_, e⟩
  · exact absurd e (by decide)
  · exact absurd e (by decide)
  · omega
end
end Go.Proofs.Yticinbkgmfoeoaa
