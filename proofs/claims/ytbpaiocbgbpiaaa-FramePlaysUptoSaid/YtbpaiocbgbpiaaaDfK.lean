/- A call begins, in the document: what stands while its names are told. -/
import Derived.Test.YtbpaiocbgbpiaaaDfJ
import Derived.Test.YtbpaiocbgbpiaaaFrWE
namespace Go.Proofs.Ytbpaiocbgbpiaaa
open Go.RowKit
set_option linter.unusedVariables false
set_option linter.unusedSimpArgs false

/-- A block of the names of all, or of a call. -/
def NB (vGN vGS : Value) (cp : List CallT) (j : Nat) : Prop := vGN.ownBlock = some j ∨ vGS.ownBlock = some j ∨ ∃ c ∈ cp, c.1.1.ownBlock = some j ∨ c.1.2.ownBlock = some j
section
variable {m : Nat} {vS vGN vGS vC : Value} {ps : List Nat} {gp : List (ByteArray × Nat)} {cp : List CallT} {st : FS} {w w' : World}
theorem DF.nb (h : DF m vS vGN vGS vC ps gp cp st w) {j : Nat} (hj : NB vGN vGS cp j) : j < w.heap.size ∧ ((∃ cs, w.heap[j]? = some (.cells cs 9 (0, 0))) ∨ ∃ cs, w.heap[j]? = some (.cells cs 3 (0, 0))) := by
  rcases hj with hj | hj | ⟨c, hc, hj | hj⟩
  · exact ⟨(h.gn.1.lt hj).2, .inl (h.gn.1.obj hj)⟩
  · exact ⟨(h.gn.2.lt hj).2, .inr (h.gn.2.obj hj)⟩
  · obtain ⟨k, hk⟩ := List.mem_iff_getElem?.1 hc
    exact ⟨((h.ce k c hk).1.1.lt hj).2, .inl ((h.ce k c hk).1.1.obj hj)⟩
  · obtain ⟨k, hk⟩ := List.mem_iff_getElem?.1 hc
    exact ⟨((h.ce k c hk).1.2.lt hj).2, .inr ((h.ce k c hk).1.2.obj hj)⟩
theorem DF.turnN {X : Nat → Prop} (h : DF m vS vGN vGS vC ps gp cp st w) (ht : Turn w w' X) (hX : ∀ j, X j → j ≠ m ∧ vS.ownBlock ≠ some j ∧ vC.ownBlock ≠ some j ∧ ¬ NB vGN vGS cp j) : DF m vS vGN vGS vC ps gp cp st w' :=
  ⟨(ht.block m (Array.getElem?_eq_some_iff.1 h.hd).1 fun x => (hX m x).1 rfl).trans h.hd, h.pl, h.pok, h.sl.same fun j hj => ht.block j (h.sl.lt hj).2 fun x => (hX j x).2.1 hj,
    ⟨h.gn.1.same fun j hj => ht.block j (h.gn.1.lt hj).2 fun x => (hX j x).2.2.2 (.inl hj), h.gn.2.same fun j hj => ht.block j (h.gn.2.lt hj).2 fun x => (hX j x).2.2.2 (.inr (.inl hj))⟩, h.g,
    h.cr.same fun j hj => ht.block j (h.cr.lt hj).2 fun x => (hX j x).2.2.1 hj, h.cl,
    fun k c hc => ⟨⟨(h.ce k c hc).1.1.same fun j hj => ht.block j ((h.ce k c hc).1.1.lt hj).2 fun x => (hX j x).2.2.2 (.inr (.inr ⟨c, List.mem_of_getElem? hc, .inl hj⟩)), (h.ce k c hc).1.2.same fun j hj => ht.block j ((h.ce k c hc).1.2.lt hj).2 fun x => (hX j x).2.2.2 (.inr (.inr ⟨c, List.mem_of_getElem? hc, .inr hj⟩))⟩, (h.ce k c hc).2⟩, h.gb, h.cb, h.lv⟩
end
/-- The state while a call's names are told: the box of names is block w.heap.size. -/
structure PuD (m : Nat) (vC : Value) (cp : List CallT) (w : World) (q : FS) (vS vGN vGS : Value) (ps : List Nat) (gp : List (ByteArray × Nat)) (vN vO : Value) (a : Nat) (nms : List Value) (b : Nat) (nos : List Value) (wr : World) : Prop where
  d : DF m vS vGN vGS vC ps gp cp q wr
  box : wr.heap[w.heap.size]? = some (.cells #[vN, vO] 56 (0, 0))
  rn : wr.ownsRow (w.heap.size + 1) 9 1 vN a nms
  ro : wr.ownsRow (w.heap.size + 1) 3 1 vO b nos
  nn : ∀ j, vN.ownBlock = some j → ¬ NB vGN vGS cp j
  no : ∀ j, vO.ownBlock = some j → ¬ NB vGN vGS cp j
  tu : Turn w wr (DT m w)
  vc : ∀ j, vC.ownBlock = some j → j < w.heap.size
  hm : m < w.heap.size
section
variable {m : Nat} {vS vGN vGS vC : Value} {ps : List Nat} {gp : List (ByteArray × Nat)} {cp : List CallT} {w wr w' : World} {q : FS} {vN vO : Value} {a b : Nat} {nms nos : List Value}
theorem PuD.lt (h : PuD m vC cp w q vS vGN vGS ps gp vN vO a nms b nos wr) : w.heap.size < wr.heap.size := (Array.getElem?_eq_some_iff.1 h.box).1
theorem PuD.below (h : PuD m vC cp w q vS vGN vGS ps gp vN vO a nms b nos wr) (hb : Below wr.heap.size wr w') : PuD m vC cp w q vS vGN vGS ps gp vN vO a nms b nos w' :=
  ⟨h.d.below hb, (hb.block _ h.lt).trans h.box, own_same h.rn fun j hj => hb.block j (h.rn.lt j hj).2, own_same h.ro fun j hj => hb.block j (h.ro.lt j hj).2, h.nn, h.no, h.tu.trans (Turn.of_below hb (fun _ => False)) (fun _ x => x) (fun _ _ x => x.elim), h.vc, h.hm⟩
/-- A call of the document's. -/
theorem PuD.turned {X : Nat → Prop} (h : PuD m vC cp w q vS vGN vGS ps gp vN vO a nms b nos wr) {vS' vGN' vGS' : Value} {ps' : List Nat} {gp' : List (ByteArray × Nat)} {q' : FS} (hD : DF m vS' vGN' vGS' vC ps' gp' cp q' w') (hn1 : NewB wr vGN vGN') (hn2 : NewB wr vGS vGS')
    (ht : Turn wr w' X) (hX : ∀ j, X j → j = m ∨ vS.ownBlock = some j) : PuD m vC cp w q' vS' vGN' vGS' ps' gp' vN vO a nms b nos w' := by
  have hk : ∀ (j : Nat) (cs : Array Value) (T : TypeId), X j → wr.heap[j]? = some (.cells cs T (0, 0)) → T = 60 ∨ T = 93 := fun j cs T x hj => by
    rcases hX j x with e | e
    · subst e
      have := h.d.hd
      rw [this] at hj
      simp at hj
      exact .inl hj.2.symm
    · obtain ⟨c, hc⟩ := h.d.sl.obj e
      rw [hc] at hj
      simp at hj
      exact .inr hj.2.symm
  have hnb : ∀ j, j < wr.heap.size → NB vGN' vGS' cp j → NB vGN vGS cp j := fun j hj hnb => by
    rcases hnb with x | x | x
    · rcases hn1 with e | e
      · exact .inl (by rw [← e]; exact x)
      · have := e j x; omega
    · rcases hn2 with e | e
      · exact .inr (.inl (by rw [← e]; exact x))
      · have := e j x; omega
    · exact .inr (.inr x)
  have nk : ∀ (j : Nat) (cs : Array Value) (T : TypeId), T ≠ 60 → T ≠ 93 → wr.heap[j]? = some (.cells cs T (0, 0)) → w'.heap[j]? = wr.heap[j]? := fun j cs T h1 h2 hj =>
    ht.block j (Array.getElem?_eq_some_iff.1 hj).1 fun x => by
      rcases hk j cs T x hj with e | e
      · exact h1 e
      · exact h2 e
  refine ⟨hD, (nk _ _ _ (by decide) (by decide) h.box).trans h.box, own_same h.rn fun j hj => ?_, own_same h.ro fun j hj => ?_, fun j hj x => h.nn j hj (hnb j (h.rn.lt j hj).2 x), fun j hj x => h.no j hj (hnb j (h.ro.lt j hj).2 x), DT.trans h.tu (ht.mono fun j x => ?_), h.vc, h.hm⟩
  · obtain ⟨c, hc⟩ := own_obj h.rn hj
    exact nk _ _ _ (by decide) (by decide) hc
  · obtain ⟨c, hc⟩ := own_obj h.ro hj
    exact nk _ _ _ (by decide) (by decide) hc
  · rcases hX j x with e | e
    · subst e; exact ⟨Nat.le_refl _, .inl ⟨_, h.d.hd⟩⟩
    · exact ⟨h.d.lv j e, .inr (h.d.sl.obj e)⟩
/-- A variable's box of the call's own is written. -/
theorem PuD.past (h : PuD m vC cp w q vS vGN vGS ps gp vN vO a nms b nos wr) {B : Nat} {cs : Array Value} (hB : wr.heap[B]? = some (.cells cs 93 (0, 0))) (hv : vS.ownBlock ≠ some B) (hlt : w.heap.size < B) (ht : Turn wr w' (fun j => j = B)) : PuD m vC cp w q vS vGN vGS ps gp vN vO a nms b nos w' := by
  have nk : ∀ (j : Nat) (cs : Array Value) (T : TypeId), T ≠ 93 → wr.heap[j]? = some (.cells cs T (0, 0)) → w'.heap[j]? = wr.heap[j]? := fun j cs T h2 hj =>
    ht.block j (Array.getElem?_eq_some_iff.1 hj).1 fun x => by
      subst x
      rw [hB] at hj
      simp at hj
      exact h2 hj.2.symm
  refine ⟨h.d.past hB hv ht, (nk _ _ _ (by decide) h.box).trans h.box, own_same h.rn fun j hj => ?_, own_same h.ro fun j hj => ?_, h.nn, h.no, h.tu.trans ht (fun _ x => x) (fun j hj x => by omega), h.vc, h.hm⟩
  · obtain ⟨c, hc⟩ := own_obj h.rn hj
    exact nk _ _ _ (by decide) hc
  · obtain ⟨c, hc⟩ := own_obj h.ro hj
    exact nk _ _ _ (by decide) hc
/-- The call's own rows are written. -/
theorem PuD.own (h : PuD m vC cp w q vS vGN vGS ps gp vN vO a nms b nos wr) (ht : Turn wr w' (fun j => j = w.heap.size ∨ vN.ownBlock = some j ∨ vO.ownBlock = some j)) {vN' vO' : Value} {a' b' : Nat} {nms' nos' : List Value}
    (hbox : w'.heap[w.heap.size]? = some (.cells #[vN', vO'] 56 (0, 0))) (hrn : w'.ownsRow (w.heap.size + 1) 9 1 vN' a' nms') (hro : w'.ownsRow (w.heap.size + 1) 3 1 vO' b' nos')
    (hnn : ∀ j, vN'.ownBlock = some j → ¬ NB vGN vGS cp j) (hno : ∀ j, vO'.ownBlock = some j → ¬ NB vGN vGS cp j) : PuD m vC cp w q vS vGN vGS ps gp vN' vO' a' nms' b' nos' w' := by
  have hge : ∀ j, (j = w.heap.size ∨ vN.ownBlock = some j ∨ vO.ownBlock = some j) → w.heap.size ≤ j := fun j x => by
    rcases x with x | x | x
    · omega
    · have := (h.rn.lt j x).1; omega
    · have := (h.ro.lt j x).1; omega
  refine ⟨h.d.turnN ht fun j x => ⟨fun e => ?_, fun e => ?_, fun e => ?_, ?_⟩, hbox, hrn, hro, hnn, hno, h.tu.trans ht (fun _ x => x) (fun j hj x => by have := hge j x; omega), h.vc, h.hm⟩
  · have := hge j x; have := h.hm; omega
  · obtain ⟨c, hc⟩ := h.d.sl.obj e
    rcases x with x | x | x
    · subst x; rw [h.box] at hc; simp at hc
    · obtain ⟨c', hc'⟩ := own_obj h.rn x; rw [hc'] at hc; simp at hc
    · obtain ⟨c', hc'⟩ := own_obj h.ro x; rw [hc'] at hc; simp at hc
  · have := hge j x; have := h.vc j e; omega
  · rcases x with x | x | x
    · subst x
      intro hnb
      rcases (h.d.nb hnb).2 with ⟨c, hc⟩ | ⟨c, hc⟩ <;> (rw [h.box] at hc; simp at hc)
    · exact h.nn j x
    · exact h.no j x
theorem PuD.apart (h : PuD m vC cp w q vS vGN vGS ps gp vN vO a nms b nos wr) {j : Nat} (h1 : vN.ownBlock = some j) (h2 : vO.ownBlock = some j) : False := by
  obtain ⟨c, hc⟩ := own_obj h.rn h1
  obtain ⟨c', hc'⟩ := own_obj h.ro h2
  rw [hc] at hc'
  simp at hc'
/-- A name more. -/
theorem PuD.name (h : PuD m vC cp w q vS vGN vGS ps gp vN vO a nms b nos wr) {W w3 : World} (hW : Below wr.heap.size wr W) {g cap n : Nat} {xs : List Value} (hown : w3.ownsRow (w.heap.size + 1) 9 1 (.slice (some ⟨g, 0, none⟩) n cap) n xs) (hgr : W.grownBy w3 vN.ownBlock) (hloc : vN.ownBlock = some g ∨ W.heap.size ≤ g) :
    PuD m vC cp w q vS vGN vGS ps gp (.slice (some ⟨g, 0, none⟩) n cap) vO n xs b nos (w3.setCell ⟨w.heap.size, 0, none⟩ (.slice (some ⟨g, 0, none⟩) n cap)) := by
  have h1 := h.below hW
  have hg1 := (hown.lt g rfl).1
  have hgB : g ≠ w.heap.size := by omega
  have hvB : vN.ownBlock ≠ some w.heap.size := fun e => by have := (h.rn.lt _ e).1; omega
  have hb3 := ((Turn.of_grown hgr).block w.heap.size h1.lt (fun e => hvB e)).trans h1.box
  have ht : Turn W (w3.setCell ⟨w.heap.size, 0, none⟩ (.slice (some ⟨g, 0, none⟩) n cap)) (fun j => j = w.heap.size ∨ vN.ownBlock = some j ∨ vO.ownBlock = some j) := ((Turn.of_grown hgr).mono (fun j e => .inr (.inl e))).setCell _ _ (fun _ => .inl rfl)
  refine h1.own ht (by rw [heap_setCell_same _ _ _ _ _ _ hb3]; rfl) (own_same hown fun j hj => by cases hj; exact heap_setCell_other _ _ _ _ hgB) (own_same h1.ro fun j hj => (heap_setCell_other _ _ _ _ (by have := (h1.ro.lt j hj).1; intro e; dsimp only at e; omega)).trans ((Turn.of_grown hgr).block j (h1.ro.lt j hj).2 (fun e => h1.apart e hj))) (fun j hj x => ?_) h.no
  · cases hj
    rcases hloc with e | e
    · exact h.nn g e x
    · have := (h1.d.nb x).1; dsimp only at this; omega
/-- A variable's number more. -/
theorem PuD.num (h : PuD m vC cp w q vS vGN vGS ps gp vN vO a nms b nos wr) {W w3 : World} (hW : Below wr.heap.size wr W) {g cap n : Nat} {xs : List Value} (hown : w3.ownsRow (w.heap.size + 1) 3 1 (.slice (some ⟨g, 0, none⟩) n cap) n xs) (hgr : W.grownBy w3 vO.ownBlock) (hloc : vO.ownBlock = some g ∨ W.heap.size ≤ g) :
    PuD m vC cp w q vS vGN vGS ps gp vN (.slice (some ⟨g, 0, none⟩) n cap) a nms n xs (w3.setCell ⟨w.heap.size, 1, none⟩ (.slice (some ⟨g, 0, none⟩) n cap)) := by
  have h1 := h.below hW
  have hg1 := (hown.lt g rfl).1
  have hgB : g ≠ w.heap.size := by omega
  have hvB : vO.ownBlock ≠ some w.heap.size := fun e => by have := (h.ro.lt _ e).1; omega
  have hb3 := ((Turn.of_grown hgr).block w.heap.size h1.lt (fun e => hvB e)).trans h1.box
  have ht : Turn W (w3.setCell ⟨w.heap.size, 1, none⟩ (.slice (some ⟨g, 0, none⟩) n cap)) (fun j => j = w.heap.size ∨ vN.ownBlock = some j ∨ vO.ownBlock = some j) := ((Turn.of_grown hgr).mono (fun j e => .inr (.inr e))).setCell _ _ (fun _ => .inl rfl)
  refine h1.own ht (by rw [heap_setCell_same _ _ _ _ _ _ hb3]; rfl) (own_same h1.rn fun j hj => (heap_setCell_other _ _ _ _ (by have := (h1.rn.lt j hj).1; intro e; dsimp only at e; omega)).trans ((Turn.of_grown hgr).block j (h1.rn.lt j hj).2 (fun e => h1.apart hj e))) (own_same hown fun j hj => by cases hj; exact heap_setCell_other _ _ _ _ hgB) h.nn (fun j hj x => ?_)
  · cases hj
    rcases hloc with e | e
    · exact h.no g e x
    · have := (h1.d.nb x).1; dsimp only at this; omega
theorem PuD.cells (h : PuD m vC cp w q vS vGN vGS ps gp vN vO a nms b nos wr) : wr.cell? ⟨w.heap.size, 0, none⟩ = some vN ∧ wr.cell? ⟨w.heap.size, 1, none⟩ = some vO ∧ ∀ j, wr.frozen? ⟨w.heap.size, j, none⟩ = false :=
  ⟨cell_of_row wr _ 0 _ _ _ h.box, cell_of_row wr _ 1 _ _ _ h.box, fun j => frozen_of_row wr _ j _ _ h.box⟩
/-- The call is laid on top. -/
theorem PuD.pushed {l : List (ByteArray × Nat)} (h : PuD m vC cp w q vS vGN vGS ps gp vN vO a (nmV l) b (noV l) wr) (ha : l.length = a) (hb : l.length = b) (hl : l.length ≤ q.sl.length) {f : ByteArray → Option Nat} (hf : f = lookP l) {w2 : World} (hb2 : Below wr.heap.size wr w2) {g cap : Nat}
    (hown : w2.ownsRow wr.heap.size 56 2 (.slice (some ⟨g, 0, none⟩) (q.ca.length + 1) cap) (q.ca.length + 1) ((cp.flatMap fun c => [c.1.1, c.1.2]) ++ [vN, vO])) :
    D m ⟨q.sl, q.gl, q.ca ++ [f], q.n⟩ (w2.setCell ⟨m, 3, none⟩ (.slice (some ⟨g, 0, none⟩) (q.ca.length + 1) cap)) ∧ Turn w (w2.setCell ⟨m, 3, none⟩ (.slice (some ⟨g, 0, none⟩) (q.ca.length + 1) cap)) (DT m w) := by
  have h2 := h.below hb2
  have hd := h2.d
  have hmd := hd.hd
  have ht : Turn w2 (w2.setCell ⟨m, 3, none⟩ (.slice (some ⟨g, 0, none⟩) (q.ca.length + 1) cap)) (fun j => j = m) := (Turn.refl _ _).setCell _ _ (fun _ => rfl)
  have hX : ∀ j, j = m → ¬ ((∃ cs, w2.heap[j]? = some (.cells cs 9 (0, 0))) ∨ ∃ cs, w2.heap[j]? = some (.cells cs 3 (0, 0))) := fun j e hc => by
    subst e
    rw [hmd] at hc
    rcases hc with ⟨cs, hc⟩ | ⟨cs, hc⟩ <;> simp at hc
  have hgm : g ≠ m := by
    have := (hown.lt g rfl).1
    have := h.lt
    have := h.hm
    omega
  have hN : NamesAt w2 (vN, vO) l := ⟨.inl (own_more (by rw [ha]; exact h2.rn) (Nat.zero_le _)), .inl (own_more (by rw [hb]; exact h2.ro) (Nat.zero_le _))⟩
  refine ⟨⟨vS, vGN, vGS, _, ps, gp, cp ++ [((vN, vO), l)], ⟨by rw [heap_setCell_same _ _ _ _ _ _ hmd]; rfl, hd.pl, hd.pok, hd.sl.same fun j hj => ht.block j (hd.sl.lt hj).2 fun e => ?_, hd.gn.turn ht hX, hd.g, ?_, by simp [hd.cl], fun k c hc => ?_, hd.gb, fun k c hc => ?_, hd.lv⟩⟩, DT.trans h2.tu (hd.dtm ht)⟩
  · subst e
    obtain ⟨cs, hc⟩ := hd.sl.obj hj
    rw [hmd] at hc
    simp at hc
  · refine .inl ?_
    simp only [List.flatMap_append, List.flatMap_cons, List.flatMap_nil, List.append_nil, List.length_append, List.length_cons, List.length_nil, Nat.zero_add]
    exact own_more (own_same hown fun j hj => by cases hj; exact heap_setCell_other _ _ _ _ hgm) (Nat.zero_le _)
  · rcases get_snoc hc with e | ⟨e, e'⟩
    · have hk := (List.getElem?_eq_some_iff.1 e).1
      exact ⟨(hd.ce k c e).1.turn ht hX, by dsimp only; rw [List.getElem?_append_left (by rw [← hd.cl]; exact hk)]; exact (hd.ce k c e).2⟩
    · subst e'
      refine ⟨hN.turn ht hX, ?_⟩
      dsimp only
      rw [e, hd.cl, List.getElem?_append_right (Nat.le_refl _), Nat.sub_self, hf]
      rfl
  · rcases get_snoc hc with e | ⟨e, e'⟩
    · exact hd.cb k c e
    · subst e'; exact hl
end
theorem names_info : (Try.prog.info? 56).map (fun i => (i.zero, i.size, i.bytes)) = some (some (.agg #[.slice none 0 0, .slice none 0 0]), 2, 48) := by kernel_rfl
def arg24C (a : ArgT) : List Value := [.int .i64 (a.1 : Int), .string a.2.1, .int .i64 a.2.2.1, .float .f64 a.2.2.2.1, .string a.2.2.2.2]
theorem arg24C_len (l : List ArgT) : (l.flatMap arg24C).length = l.length * 5 := flat_len (C := arg24C) (k := 5) (fun _ => rfl) l
theorem arg24_lies {w : World} {A : Option Addr} {c : Nat} {l : List ArgT} (h : RowA w 5 (.slice A l.length c) l.length (l.flatMap arg24C)) {i : Nat} (hi : i < l.length) : ∃ b off, A = some ⟨b, off, none⟩ ∧ w.cell? ⟨b, off + i * 5, none⟩ = some (.int .i64 (l[i].1 : Int)) ∧ w.cell? ⟨b, off + i * 5 + 1, none⟩ = some (.string l[i].2.1) ∧ w.cell? ⟨b, off + i * 5 + 2, none⟩ = some (.int .i64 l[i].2.2.1) ∧ w.cell? ⟨b, off + i * 5 + 3, none⟩ = some (.float .f64 l[i].2.2.2.1) ∧ w.cell? ⟨b, off + i * 5 + 4, none⟩ = some (.string l[i].2.2.2.2) := by
  obtain ⟨b, off, rfl, _, h2⟩ := h.at (by rw [arg24C_len]; omega)
  have key := fun r u (hr : r < 5) (hu : (arg24C l[i])[r]? = some u) => h2 (i * 5 + r) u ((flat_get (C := arg24C) (k := 5) (fun _ => rfl) l (i := i) (r := r) (List.getElem?_eq_getElem hi) hr).trans hu)
  exact ⟨b, off, rfl, key 0 _ (by omega) rfl, key 1 _ (by omega) rfl, key 2 _ (by omega) rfl, key 3 _ (by omega) rfl, key 4 _ (by omega) rfl⟩
/-- The variable of a parameter. -/
def slotOf (args : List ArgT) (q : FS) (i : Nat) : FS × SM := match args[i]? with | some a => argS q a | none => (q, SM.blank)
theorem parS_slot (args : List ArgT) (x : FS × (ByteArray → Option Nat)) (i : Nat) (p : ByteArray) : parS args x i p = (addS (slotOf args x.1 i).1 (slotOf args x.1 i).2, putN x.2 p (slotOf args x.1 i).1.sl.length) := by
  unfold parS slotOf
  cases args[i]? <;> rfl
theorem slotOf_facts {args : List ArgT} {q : FS} (hok : OkF q) (i : Nat) (ha : ∀ a ∈ args, a.1 ≤ q.n) : OkF (slotOf args q i).1 ∧ ((slotOf args q i).2.given = true → (slotOf args q i).2.arr = 0) ∧ (∀ j, (slotOf args q i).2.frm = some j → j < (slotOf args q i).1.sl.length) ∧ (slotOf args q i).1.ca = q.ca ∧ (slotOf args q i).1.n = q.n ∧ q.sl.length ≤ (slotOf args q i).1.sl.length ∧ (slotOf args q i).1.sl.length ≤ q.sl.length + 1 := by
  unfold slotOf
  cases h : args[i]? with
  | none => exact ⟨hok, (fun x => by cases x), (fun j x => by cases x), rfl, rfl, Nat.le_refl _, Nat.le_succ _⟩
  | some a =>
    obtain ⟨f1, f2, f3, f4, f5, f6⟩ := argS_facts hok a (ha a (List.mem_of_getElem? h))
    have hl := argS_len q a
    exact ⟨f1, f2, f3, f6, f5, hl.1, hl.2⟩
theorem parsS_len (args : List ArgT) : ∀ (ps : List ByteArray) (x : FS × (ByteArray → Option Nat)) (i : Nat), x.1.sl.length + ps.length ≤ (parsS args x i ps).1.sl.length ∧ (parsS args x i ps).1.sl.length ≤ x.1.sl.length + 2 * ps.length
  | [], x, i => ⟨Nat.le_refl _, Nat.le_refl _⟩
  | p :: ps, x, i => by
    have key : x.1.sl.length + 1 ≤ (parS args x i p).1.sl.length ∧ (parS args x i p).1.sl.length ≤ x.1.sl.length + 2 := by
      unfold parS
      cases ha : args[i]? with
      | none => simp [addS]
      | some a =>
        have hl := argS_len x.1 a
        simp only [addS, List.length_append, List.length_cons, List.length_nil]
        omega
    have := parsS_len args ps (parS args x i p) (i + 1)
    simp only [parsS, List.length_cons]
    omega
end Go.Proofs.Ytbpaiocbgbpiaaa
