/- The law's switch, found in its text. -/
import Derived.Test.YtbpaiocbgbpiaaaDfL
import Derived.Test.YtbpaiocbgbpiaaaFrWF
import Derived.Deep.CutBlock
import Derived.WalkLawsBesides
import Derived.WalkSpells
import Derived.Laws.FloatArith
namespace Go.Proofs.Ytbpaiocbgbpiaaa
open Go.RowKit
set_option linter.unusedVariables false
set_option linter.unusedSimpArgs false

/-! ### what the calls do to the state -/
theorem kindS_facts (st : FS) (hok : OkF st) (nm : ByteArray) : (kindS st nm).1.ca = st.ca ∧ (kindS st nm).1.n = st.n ∧ (kindS st nm).1.sl.length ≤ st.sl.length + 1 := by
  cases hf : findS st nm with
  | mk st1 i =>
    obtain ⟨_, _, h1, h2⟩ := find_facts hok hf
    have h3 := find_facts2 hf
    unfold kindS
    rw [hf]
    exact ⟨h2, h1, h3⟩
theorem getS_facts (st : FS) (hok : OkF st) (nm : ByteArray) : (getS st nm).1.ca = st.ca ∧ (getS st nm).1.n = st.n ∧ (getS st nm).1.sl.length ≤ st.sl.length + 1 := by
  cases hf : findS st nm with
  | mk st1 i =>
    obtain ⟨_, _, h1, h2⟩ := find_facts hok hf
    have h3 := find_facts2 hf
    unfold getS
    rw [hf]
    dsimp only
    split <;> exact ⟨h2, h1, h3⟩
theorem setS_facts (st : FS) (hok : OkF st) (nm : ByteArray) (c : CellT) : (setS st nm c).1.ca = st.ca ∧ (setS st nm c).1.n = st.n ∧ (setS st nm c).1.sl.length ≤ st.sl.length + 1 := by
  cases hf : findS st nm with
  | mk st1 i =>
    obtain ⟨_, _, h1, h2⟩ := find_facts hok hf
    have h3 := find_facts2 hf
    unfold setS
    rw [hf]
    dsimp only
    split
    · exact ⟨h2, h1, h3⟩
    · exact ⟨h2, h1, by simpa [valS] using h3⟩
/-- What Array tells. -/
theorem arrS_facts (st : FS) (hok : OkF st) (nm : ByteArray) : (arrS st nm).1.ca = st.ca ∧ (arrS st nm).1.sl.length ≤ st.sl.length + 1 ∧
    (((arrS st nm).1.n = st.n ∧ ((arrS st nm).2.2 = 80 ∧ (arrS st nm).2.1 = 0 ∨ (arrS st nm).2.2 = 0 ∧ 1 ≤ (arrS st nm).2.1 ∧ (arrS st nm).2.1 ≤ st.n)) ∨ ((arrS st nm).1.n = st.n + 1 ∧ (arrS st nm).2.2 = 0 ∧ (arrS st nm).2.1 = st.n + 1)) := by
  cases hf : findS st nm with
  | mk st1 i =>
    obtain ⟨hok1, _, h1, h2⟩ := find_facts hok hf
    have h3 := find_facts2 hf
    unfold arrS
    rw [hf]
    dsimp only
    split
    · exact ⟨h2, h3, .inl ⟨h1, .inl ⟨rfl, rfl⟩⟩⟩
    · split
      · rename_i hr
        exact ⟨h2, h3, .inl ⟨h1, .inr ⟨rfl, Nat.pos_of_ne_zero hr, by rw [← h1]; exact resA_le hok1.ok hok1.le i⟩⟩⟩
      · refine ⟨h2, by simpa [becS] using h3, .inr ⟨by simp [becS, h1], rfl, by rw [h1]⟩⟩
theorem popS_facts (st : FS) : (popS st).1.ca.length ≤ st.ca.length ∧ (popS st).1.n = st.n ∧ (popS st).1.sl.length = st.sl.length := by
  unfold popS
  split
  · exact ⟨Nat.le_refl _, rfl, rfl⟩
  · exact ⟨by simp, rfl, rfl⟩
theorem pushS_facts (st : FS) (hok : OkF st) (ps : List ByteArray) (args : List ArgT) (ha : ∀ a ∈ args, a.1 ≤ st.n) (hc : st.ca.length ≤ 24) : (pushS st ps args).1.ca.length ≤ 24 ∧ (pushS st ps args).1.n = st.n ∧ (pushS st ps args).1.sl.length ≤ st.sl.length + 2 * ps.length := by
  unfold pushS
  split
  · exact ⟨hc, rfl, by dsimp only; omega⟩
  · split
    · exact ⟨hc, rfl, by dsimp only; omega⟩
    · obtain ⟨k1, k2, k3, k4⟩ := parsS_ok args ps (st, fun _ => none) 0 hok (fun s j hj => by cases hj) ha
      have := parsS_len args ps (st, fun _ => none) 0
      dsimp only at this k3 k4 ⊢
      refine ⟨by rw [List.length_append, k4]; simp; omega, k3, this.2⟩

/-! ### kinds of blocks -/
theorem FR.kinds {X : Nat → Prop} {G : GH} {st : FS} {w : World} (h : FR X G st w) {j : Nat} (hj : Own G j) {cs : Array Value} {T : TypeId} (hc : w.heap[j]? = some (.cells cs T (0, 0))) : T = 80 ∨ T = 77 ∨ T = 83 ∨ T = 101 := by
  have key : ∀ (cs' : Array Value) (T' : TypeId), w.heap[j]? = some (.cells cs' T' (0, 0)) → T = T' := fun cs' T' h' => by
    rw [hc] at h'
    simp at h'
    exact h'.2
  rcases hj with rfl | rfl | hj | hj | hj | hj | hj
  · exact .inl (key _ _ h.hd)
  · obtain ⟨n, _, hm⟩ := h.gm
    obtain ⟨es, ec, ho⟩ := hm.obj
    rw [hc] at ho; cases ho
  · obtain ⟨c, ho⟩ := own_obj h.cr hj
    exact .inr (.inl (key _ _ ho))
  · obtain ⟨k, hk, rfl⟩ := List.getElem_of_mem hj
    obtain ⟨n, hm⟩ := h.cm k _ (st.ca[k]'(by rw [← h.cl]; exact hk)) (List.getElem?_eq_getElem hk) (List.getElem?_eq_getElem _)
    obtain ⟨es, ec, ho⟩ := hm.obj
    rw [hc] at ho; cases ho
  · obtain ⟨k, hk, rfl⟩ := List.getElem_of_mem hj
    obtain ⟨v, hv, _⟩ := h.ss k _ (st.sl[k]'(by rw [← h.sl]; exact hk)) (List.getElem?_eq_getElem hk) (List.getElem?_eq_getElem _)
    exact .inr (.inr (.inl (key _ _ hv)))
  · obtain ⟨k, hk, rfl⟩ := List.getElem_of_mem hj
    obtain ⟨⟨cs', hv⟩, _⟩ := (h.arAt (k := k) (by rw [← h.al]; exact hk)).objs
    exact .inr (.inr (.inr (key _ _ hv)))
  · obtain ⟨k, hk, rfl⟩ := List.getElem_of_mem hj
    obtain ⟨_, es, c, hv⟩ := (h.arAt (k := k) (by rw [← h.ml]; exact hk)).objs
    rw [hc] at hv; cases hv
/-- A kind of a box of the law's own. -/
def Side (T : TypeId) : Prop := T = 64 ∨ T = 32 ∨ T = 72
instance (T : TypeId) : Decidable (Side T) := inferInstanceAs (Decidable (_ ∨ _))
theorem FR.notOwn {X : Nat → Prop} {G : GH} {st : FS} {w : World} (h : FR X G st w) {j : Nat} {cs : Array Value} {T : TypeId} (hc : w.heap[j]? = some (.cells cs T (0, 0))) (hT : T ≠ 80 ∧ T ≠ 77 ∧ T ≠ 83 ∧ T ≠ 101) : ¬ Own G j := fun hj => by
  rcases h.kinds hj hc with e | e | e | e
  · exact hT.1 e
  · exact hT.2.1 e
  · exact hT.2.2.1 e
  · exact hT.2.2.2 e
theorem DT.not {m : Nat} {w : World} {j : Nat} {cs : Array Value} {T : TypeId} (hc : w.heap[j]? = some (.cells cs T (0, 0))) (h1 : T ≠ 60) (h2 : T ≠ 93) : ¬ DT m w j := fun x => by
  rcases x.2 with ⟨c, x⟩ | ⟨c, x⟩ <;> (rw [hc] at x; simp at x)
  · exact h1 x.2
  · exact h2 x.2
/-- What is of neither kind stands. -/
structure Keep (w w' : World) : Prop where
  size : w.heap.size ≤ w'.heap.size
  stay : ∀ (j : Nat) (cs : Array Value) (T : TypeId), Side T → w.heap[j]? = some (.cells cs T (0, 0)) → w'.heap[j]? = some (.cells cs T (0, 0))
theorem Keep.refl (w : World) : Keep w w := ⟨Nat.le_refl _, fun _ _ _ _ h => h⟩
theorem Keep.trans {a b c : World} (h : Keep a b) (k : Keep b c) : Keep a c := ⟨Nat.le_trans h.size k.size, fun j cs T hT hj => k.stay j cs T hT (h.stay j cs T hT hj)⟩
theorem Keep.below {w w' : World} (hb : Below w.heap.size w w') : Keep w w' := ⟨hb.size, fun j cs T _ hj => (hb.block j (Array.getElem?_eq_some_iff.1 hj).1).trans hj⟩

/-! ### side by side -/
def metV (G : GH) (k : Nat) : List Value := (List.range k).map (arP G.ab)
theorem metV_snoc (G : GH) (k : Nat) : metV G (k + 1) = metV G k ++ [arP G.ab k] := by simp [metV, List.range_succ]
theorem metV_at (G : GH) {k i : Nat} (h : i < k) : (metV G k)[i]? = some (arP G.ab i) := by simp [metV, h]
theorem metV_pre {G G' : GH} {k : Nat} (h : ∃ x, G'.ab = G.ab ++ x) (hk : k ≤ G.ab.length + 1) : metV G' k = metV G k := by
  obtain ⟨x, hx⟩ := h
  unfold metV
  refine List.map_congr_left fun i hi => ?_
  rw [hx]
  exact arP_apps (by have := List.mem_range.1 hi; omega)
/-- The program's variables, the document's, and the arrays that were met. -/
structure LB (W : World) (m F : Nat) (G : GH) (sp sd : FS) (k : Nat) (vM : Value) (w : World) : Prop where
  l : LawSt W.heap.size W G sp w
  f : G.F = F
  d : D m sd w
  r : w.ownsRow W.heap.size 28 1 vM k (metV G k)
  kk : k ≤ sp.n + 1
  hm : W.heap.size ≤ m
section
variable {W w w' : World} {m F : Nat} {G G' : GH} {sp sd sp' sd' : FS} {k : Nat} {vM : Value}
theorem LB.prog (h : LB W m F G sp sd k vM w) (g : FrGo G sp' w G' w') (hok : OkF sp') (hn : sp.n ≤ sp'.n) : LB W m F G' sp' sd k vM w' := by
  refine ⟨h.l.go g hok, g.F.trans h.f, h.d.turn g.tu fun j cs T x hj => ?_, ?_, by have := h.kk; omega, h.hm⟩
  · rcases h.l.fr.kinds x hj with rfl | rfl | rfl | rfl <;> decide
  · rw [metV_pre g.ab (by rw [h.l.fr.al]; exact h.kk)]
    exact own_turn h.r g.tu fun j hj x => by
      obtain ⟨c, hc⟩ := own_obj h.r hj
      exact h.l.fr.notOwn hc (by decide) x
theorem LB.doc (h : LB W m F G sp sd k vM w) (hD : D m sd' w') (ht : Turn w w' (DT m w)) : LB W m F G sp sd' k vM w' := by
  refine ⟨⟨h.l.fr.turn ht fun j hj x => ?_, h.l.ok, h.l.bl.trans (ht.below h.l.le fun j x => Nat.le_trans h.hm x.1), h.l.los, Nat.le_trans h.l.le ht.size⟩, h.f, hD, own_turn h.r ht fun j hj x => ?_, h.kk, h.hm⟩
  · rcases x.2 with ⟨c, x⟩ | ⟨c, x⟩
    · exact h.l.fr.notOwn x (by decide) hj
    · exact h.l.fr.notOwn x (by decide) hj
  · obtain ⟨c, hc⟩ := own_obj h.r hj
    exact DT.not hc (by decide) (by decide) x
theorem LB.below (h : LB W m F G sp sd k vM w) (hb : Below w.heap.size w w') : LB W m F G sp sd k vM w' :=
  ⟨h.l.more hb, h.f, h.d.below hb, own_same h.r fun j hj => hb.block j (h.r.lt j hj).2, h.kk, h.hm⟩
theorem LB.row (h : LB W m F G sp sd k vM w) (ht : Turn w w' (fun j => vM.ownBlock = some j)) {k' : Nat} {vM' : Value} (hr : w'.ownsRow W.heap.size 28 1 vM' k' (metV G k')) (hk : k' ≤ sp.n + 1) : LB W m F G sp sd k' vM' w' := by
  refine ⟨⟨h.l.fr.turn ht fun j hj x => ?_, h.l.ok, h.l.bl.trans (ht.below h.l.le fun j x => (h.r.lt j x).1), h.l.los, Nat.le_trans h.l.le ht.size⟩, h.f, h.d.turn ht fun j cs T x hj => ?_, hr, hk, h.hm⟩
  · obtain ⟨c, hc⟩ := own_obj h.r x
    exact h.l.fr.notOwn hc (by decide) hj
  · obtain ⟨c, hc⟩ := own_obj h.r x
    rw [hc] at hj
    simp at hj
    obtain ⟨_, rfl⟩ := hj
    decide
theorem LB.keepP (h : LB W m F G sp sd k vM w) (ht : Turn w w' (Own G)) : Keep w w' :=
  ⟨ht.size, fun j cs T hT hj => (ht.block j (Array.getElem?_eq_some_iff.1 hj).1 (h.l.fr.notOwn hj (by rcases hT with rfl | rfl | rfl <;> decide))).trans hj⟩
theorem keepD (ht : Turn w w' (DT m w)) : Keep w w' := ⟨ht.size, fun j cs T hT hj => (ht.block j (Array.getElem?_eq_some_iff.1 hj).1 (DT.not hj (by rcases hT with rfl | rfl | rfl <;> decide) (by rcases hT with rfl | rfl | rfl <;> decide))).trans hj⟩
end
end Go.Proofs.Ytbpaiocbgbpiaaa

namespace Go.Proofs.Ytbpaiocbgbpiaaa
open Go.RowKit
set_option linter.unusedVariables false
set_option linter.unusedSimpArgs false

section
variable {W w : World} {m F : Nat} {G : GH} {sp sd : FS} {k : Nat} {vM : Value}
theorem lb_kind (h : LB W m F G sp sd k vM w) (nm : ByteArray) (hs : nm.size ≤ maxLen) (hn : sp.sl.length ≤ 400000000) :
    Calls Try.prog 10 #[.pointer (some ⟨F, 0, none⟩), .string nm] w fun e w' => e = .returned (.int .i64 ((kindS sp nm).2 : Int)) ∧ (∃ G', LB W m F G' (kindS sp nm).1 sd k vM w') ∧ Keep w w' := by
  have hf := h.f
  subst hf
  refine (kind_any G sp w nm h.l.fr h.l.ok hs (by omega)).mono ?_
  rintro e w' ⟨G', he, hg⟩
  exact ⟨he, ⟨G', h.prog hg (kindS_ok h.l.ok nm) (Nat.le_of_eq (kindS_facts sp h.l.ok nm).2.1.symm)⟩, h.keepP hg.tu⟩
theorem lb_get (h : LB W m F G sp sd k vM w) (nm : ByteArray) (hs : nm.size ≤ maxLen) (hn : sp.sl.length ≤ 400000000) :
    Calls Try.prog 18 #[.pointer (some ⟨F, 0, none⟩), .string nm] w fun e w' => e = .returned (.tuple #[cellV (getS sp nm).2.1, .int .i64 ((getS sp nm).2.2 : Int)]) ∧ (∃ G', LB W m F G' (getS sp nm).1 sd k vM w') ∧ Keep w w' := by
  have hf := h.f
  subst hf
  refine (get_any G sp w nm h.l.fr h.l.ok hs (by omega)).mono ?_
  rintro e w' ⟨G', he, hg⟩
  exact ⟨he, ⟨G', h.prog hg (getS_ok h.l.ok nm) (Nat.le_of_eq (getS_facts sp h.l.ok nm).2.1.symm)⟩, h.keepP hg.tu⟩
theorem lb_set (h : LB W m F G sp sd k vM w) (nm : ByteArray) (hs : nm.size ≤ maxLen) (hn : sp.sl.length ≤ 400000000) (c : CellT) :
    Calls Try.prog 11 #[.pointer (some ⟨F, 0, none⟩), .string nm, cellV c] w fun e w' => e = .returned (.int .i64 ((setS sp nm c).2 : Int)) ∧ (∃ G', LB W m F G' (setS sp nm c).1 sd k vM w') ∧ Keep w w' := by
  have hf := h.f
  subst hf
  obtain ⟨x, y, z⟩ := c
  refine (set_any G sp w nm x y z h.l.fr h.l.ok hs (by omega)).mono ?_
  rintro e w' ⟨G', he, hg⟩
  exact ⟨he, ⟨G', h.prog hg (setS_ok h.l.ok nm _) (Nat.le_of_eq (setS_facts sp h.l.ok nm _).2.1.symm)⟩, h.keepP hg.tu⟩
theorem lb_arr (h : LB W m F G sp sd k vM w) (nm : ByteArray) (hs : nm.size ≤ maxLen) (hn : sp.sl.length ≤ 400000000) :
    Calls Try.prog 14 #[.pointer (some ⟨F, 0, none⟩), .string nm] w fun e w' => ∃ G', e = .returned (.tuple #[arP G'.ab (arrS sp nm).2.1, .int .i64 ((arrS sp nm).2.2 : Int)]) ∧ LB W m F G' (arrS sp nm).1 sd k vM w' ∧ Keep w w' := by
  have hf := h.f
  subst hf
  refine (array_any G sp w nm h.l.fr h.l.ok hs (by omega)).mono ?_
  rintro e w' ⟨G', he, hg⟩
  have := (arrS_facts sp h.l.ok nm).2.2
  exact ⟨G', he, h.prog hg (arrS_ok h.l.ok nm) (by omega), h.keepP hg.tu⟩
theorem lb_pop (h : LB W m F G sp sd k vM w) :
    Calls Try.prog 13 #[.pointer (some ⟨F, 0, none⟩)] w fun e w' => e = .returned (.int .i64 ((popS sp).2 : Int)) ∧ (∃ G', LB W m F G' (popS sp).1 sd k vM w') ∧ Keep w w' := by
  have hf := h.f
  subst hf
  refine (pop_any G sp w h.l.fr).mono ?_
  rintro e w' ⟨G', he, hg⟩
  exact ⟨he, ⟨G', h.prog hg (popS_ok h.l.ok) (Nat.le_of_eq (popS_facts sp).2.1.symm)⟩, h.keepP hg.tu⟩
theorem lb_depth (h : LB W m F G sp sd k vM w) :
    Calls Try.prog 15 #[.pointer (some ⟨F, 0, none⟩)] w fun e w' => e = .returned (.int .i64 (sp.ca.length : Int)) ∧ w = w' := by
  have hf := h.f
  subst hf
  exact depth_any G sp w h.l.fr
theorem row_old {W : World} {A : Option Addr} {n c s : Nat} {xs : List Value} (hA : RowA W s (.slice A n c) n xs) (hs : 0 < s) {a : Addr} {n' c' : Nat} (h0 : 0 < n') (e : (Value.slice A n c) = .slice (some a) n' c') : a.block < W.heap.size := by
  cases e
  obtain ⟨b, off, e, hb, _⟩ := hA.at (by rw [hA.1]; exact Nat.mul_pos h0 hs)
  cases e
  exact hb
theorem lb_push (h : LB W m F G sp sd k vM w) (ps : List ByteArray) (args : List ArgT) {A B : Option Addr} {c d : Nat} (hn : sp.sl.length + 2 * ps.length ≤ 400000000) (hA : RowA W 1 (.slice A ps.length c) ps.length (ps.map Value.string)) (hB : w.ownsRow W.heap.size 34 5 (.slice B args.length d) args.length (args.flatMap (argC G.ab)))
    (hps : ∀ p ∈ ps, p.size ≤ maxLen) (hargs : ∀ a ∈ args, a.1 ≤ sp.n ∧ a.2.1.size ≤ maxLen) :
    Calls Try.prog 9 #[.pointer (some ⟨F, 0, none⟩), .slice A ps.length c, .slice B args.length d] w fun e w' => e = .returned (.int .i64 ((pushS sp ps args).2 : Int)) ∧ (∃ G', LB W m F G' (pushS sp ps args).1 sd k vM w') ∧ Keep w w' ∧ ∀ (j : Nat) (cs : Array Value), w.heap[j]? = some (.cells cs 74 (0, 0)) → w'.heap[j]? = w.heap[j]? := by
  have hf := h.f
  subst hf
  refine (push_any G sp w A B c d ps args h.l.fr h.l.ok (by omega) (hA.below h.l.bl) (OwnZ.rowC (.inl hB)).a (fun a n c' h0 e ho => ?_) (fun a n c' h0 e ho => ?_) hps hargs).mono ?_
  · have := row_old hA (by omega) h0 e
    have := h.l.los _ ho
    omega
  · obtain ⟨cs, hc⟩ := own_obj hB (j := a.block) (by rw [e]; cases e; have := (hB.2); rcases this with ⟨e', _⟩ | ⟨g, cap, cur, e', _⟩ <;> cases e'; rfl)
    exact h.l.fr.notOwn hc (by decide) ho
  · rintro e w' ⟨G', he, hg⟩
    have hn := pushS_facts sp h.l.ok ps args (fun a ha => (hargs a ha).1)
    exact ⟨he, ⟨G', h.prog hg (pushS_ok h.l.ok ps args (fun a ha => (hargs a ha).1)) (by unfold pushS; split <;> (try split) <;> (first | exact Nat.le_refl _ | (obtain ⟨_, _, k3, _⟩ := parsS_ok args ps (sp, fun _ => none) 0 h.l.ok (fun s j hj => by cases hj) (fun a ha => (hargs a ha).1); exact Nat.le_of_eq k3.symm)))⟩, h.keepP hg.tu, fun j cs hj => hg.tu.block j (Array.getElem?_eq_some_iff.1 hj).1 (h.l.fr.notOwn hj (by decide))⟩

/-! ### the document's -/
theorem lb_kind24 (h : LB W m F G sp sd k vM w) (hok : OkF sd) (nm : ByteArray) (hn : sd.sl.length ≤ 399999999) (hc : sd.ca.length ≤ 1000) :
    Calls Try.prog 26 #[.pointer (some ⟨m, 0, none⟩), .string nm] w fun e w' => e = .returned (.int .i64 ((kindS sd nm).2 : Int)) ∧ LB W m F G sp (kindS sd nm).1 k vM w' ∧ Keep w w' := by
  refine (kind24_any m sd nm w h.d hok hn hc).mono ?_
  rintro e w' ⟨he, hD, ht⟩
  exact ⟨he, h.doc hD ht, keepD ht⟩
theorem lb_get24 (h : LB W m F G sp sd k vM w) (hok : OkF sd) (nm : ByteArray) (hn : sd.sl.length ≤ 399999999) (hc : sd.ca.length ≤ 1000) :
    Calls Try.prog 20 #[.pointer (some ⟨m, 0, none⟩), .string nm] w fun e w' => e = .returned (.tuple #[cellV (getS sd nm).2.1, .int .i64 ((getS sd nm).2.2 : Int)]) ∧ LB W m F G sp (getS sd nm).1 k vM w' ∧ Keep w w' := by
  refine (get24_any m sd nm w h.d hok hn hc).mono ?_
  rintro e w' ⟨he, hD, ht⟩
  exact ⟨he, h.doc hD ht, keepD ht⟩
theorem lb_set24 (h : LB W m F G sp sd k vM w) (hok : OkF sd) (nm : ByteArray) (hn : sd.sl.length ≤ 399999999) (hc : sd.ca.length ≤ 1000) (c : CellT) :
    Calls Try.prog 22 #[.pointer (some ⟨m, 0, none⟩), .string nm, cellV c] w fun e w' => e = .returned (.int .i64 ((setS sd nm c).2 : Int)) ∧ LB W m F G sp (setS sd nm c).1 k vM w' ∧ Keep w w' := by
  obtain ⟨x, y, z⟩ := c
  refine (set24_any m sd nm x y z w h.d hok hn hc).mono ?_
  rintro e w' ⟨he, hD, ht⟩
  exact ⟨he, h.doc hD ht, keepD ht⟩
theorem lb_arr24 (h : LB W m F G sp sd k vM w) (hok : OkF sd) (nm : ByteArray) (hn : sd.sl.length ≤ 399999999) (hc : sd.ca.length ≤ 1000) (hq : sd.n ≤ 1000000) :
    Calls Try.prog 23 #[.pointer (some ⟨m, 0, none⟩), .string nm] w fun e w' => e = .returned (.tuple #[.int .i64 ((arrS sd nm).2.1 : Int), .int .i64 ((arrS sd nm).2.2 : Int)]) ∧ LB W m F G sp (arrS sd nm).1 k vM w' ∧ Keep w w' := by
  refine (array24_any m sd nm w h.d hok hn hc (by omega)).mono ?_
  rintro e w' ⟨he, hD, ht⟩
  exact ⟨he, h.doc hD ht, keepD ht⟩
theorem lb_pop24 (h : LB W m F G sp sd k vM w) :
    Calls Try.prog 25 #[.pointer (some ⟨m, 0, none⟩)] w fun e w' => e = .returned (.int .i64 ((popS sd).2 : Int)) ∧ LB W m F G sp (popS sd).1 k vM w' ∧ Keep w w' := by
  refine (pop24_any m sd w h.d).mono ?_
  rintro e w' ⟨he, hD, ht⟩
  exact ⟨he, h.doc hD ht, keepD ht⟩
theorem lb_push24 (h : LB W m F G sp sd k vM w) (hok : OkF sd) (ps : List ByteArray) (args : List ArgT) {A B : Option Addr} {c d : Nat} (hn : sd.sl.length + 2 * ps.length ≤ 399999999) (hA : RowA W 1 (.slice A ps.length c) ps.length (ps.map Value.string)) (hB : w.ownsRow W.heap.size 74 5 (.slice B args.length d) args.length (args.flatMap arg24C)) (hargs : ∀ a ∈ args, a.1 ≤ sd.n) :
    Calls Try.prog 24 #[.pointer (some ⟨m, 0, none⟩), .slice A ps.length c, .slice B args.length d] w fun e w' => e = .returned (.int .i64 ((pushS sd ps args).2 : Int)) ∧ LB W m F G sp (pushS sd ps args).1 k vM w' ∧ Keep w w' := by
  refine (push24_any m sd w A B c d ps args h.d hok hn (hA.below h.l.bl) (OwnZ.rowC (.inl hB)).a (fun a n c' h0 e ho => ?_) (fun a n c' h0 e ho => ?_) hargs).mono ?_
  · have := row_old hA (by omega) h0 e
    have := ho.1
    have := h.hm
    omega
  · obtain ⟨cs, hc⟩ := own_obj hB (j := a.block) (by rw [e]; cases e; have := (hB.2); rcases this with ⟨e', _⟩ | ⟨g, cap, cur, e', _⟩ <;> cases e'; rfl)
    exact DT.not hc (by decide) (by decide) ho
  · rintro e w' ⟨he, hD, ht⟩
    exact ⟨he, h.doc hD ht, keepD ht⟩
theorem lb_val (h : LB W m F G sp sd k vM w) (s : ByteArray) (hs : s.size ≤ 1048576) :
    Calls Try.prog 21 #[.string s] w fun e w' => e = .returned (cellV (valR s)) ∧ LB W m F G sp sd k vM w' ∧ Below w.heap.size w w' := by
  refine (val_any s w hs).mono ?_
  rintro e w' ⟨he, hb⟩
  exact ⟨he, h.below hb, hb⟩
end
def DAx (m : Nat) (vC : Value) (cp : List CallT) (v : Value) (st' : FS) (w : World) (e : Ending) (w' : World) : Prop := e = .returned v ∧ (∃ vS vGN vGS ps gp, DF m vS vGN vGS vC ps gp cp st' w') ∧ Turn w w' (DT m w)
set_option maxRecDepth 20000 in
set_option maxHeartbeats 16000000 in
theorem kind24x (m : Nat) (vS vGN vGS vC : Value) (ps : List Nat) (gp : List (ByteArray × Nat)) (cp : List CallT) (st : FS) (nm : ByteArray) (w : World) (hD0 : DF m vS vGN vGS vC ps gp cp st w) (hok : OkF st) (hl : st.sl.length ≤ 399999999) (hc : st.ca.length ≤ 1000) :
    Calls Try.prog 26 #[.pointer (some ⟨m, 0, none⟩), .string nm] w (DAx m vC cp (.int .i64 ((kindS st nm).2 : Int)) (kindS st nm).1 w) := by
  have HF := Lib.hid (find24x m vS vGN vGS vC ps gp cp st nm w hD0 hok (by omega) hc)
  unfold FoundX at HF
  cases hf : findS st nm with
  | mk st1 i =>
  rw [hf] at HF
  dsimp only at HF
  obtain ⟨hok1, hi1, _, _⟩ := find_facts hok hf
  have hl2 := find_facts2 hf
  have hk : kindS st nm = (st1, if resA st1.sl i ≠ 0 then 2 else if (slotS st1 i).given = true then 1 else 0) := by unfold kindS; rw [hf]
  have HK := Lib.hid hk
  have HO := Lib.hid (And.intro hok1 (And.intro hi1 (And.intro (slotS_get hi1) (show st1.sl.length ≤ 400000000 by omega))))
  have hi0 : (0 : Int) ≤ (i : Int) := by omega
  have hi2 : (i : Int) < (st1.sl.length : Int) := by omega
  have hl1 : (st1.sl.length : Int) ≤ 400000000 := by omega
  have HD0 := Lib.hid hD0
  clear hD0 hok hf hok1 hi1 hk hl hl2 hc
  go_enter Try.func26, Try.ntmps26
  go_wp2_with fail
  refine HF.out.mono ?_
  rintro e w1 ⟨rfl, ⟨vS1, vGN1, vGS1, ps1, gp1, h1, _⟩, ht1⟩
  have HT := Lib.hid (HD0.out.dtm ht1)
  have HH := Lib.hid (fun (w2 : World) (ht : Turn w1 w2 (fun j => vS1.ownBlock = some j)) => h1.dts ht)
  have HS := Lib.hid (seen24x m i vS1 vGN1 vGS1 vC ps1 gp1 cp st1 w1 h1 HO.out.1 HO.out.2.1 HO.out.2.2.2)
  clear h1 HF ht1
  go_wp2_with fail
  refine HS.out.mono ?_
  rintro e w2 ⟨rfl, ⟨ps2, h2⟩, ht2⟩
  obtain ⟨d0, _, _, _, _, _⟩ := h2.cells
  obtain ⟨p2, hp2, _, _⟩ := h2.arrAt HO.out.2.2.1
  obtain ⟨g, cap, rfl, _, _, _, hcells, _⟩ := h2.slot HO.out.2.2.1 hp2
  obtain ⟨_, _, _, k3, _, _⟩ := sl24_at hcells
  have HR := Lib.hid (show (∃ vS vGN vGS ps gp, DF m vS vGN vGS vC ps gp cp st1 w2) ∧ Turn w w2 (DT m w) from ⟨⟨_, _, _, _, _, h2⟩, DT.trans HT.out (HH.out _ ht2)⟩)
  clear h2 ht2 hp2 hcells HS
  cases hr : resA st1.sl i with
  | succ k =>
    have HK2 := Lib.hid (show kindS st nm = (st1, 2) by rw [HK.out, hr]; simp)
    have hk0 : (0 : Int) < ((k + 1 : Nat) : Int) := by omega
    generalize k + 1 = q at hk0
    clear hr
    go_wp2_with fail
    go_ret
    unfold DAx
    rw [HK2.out]
    exact ⟨rfl, HR.out⟩
  | zero =>
    cases hg : (slotS st1 i).given with
    | true =>
      have HK2 := Lib.hid (show kindS st nm = (st1, 1) by rw [HK.out, hr, hg]; simp)
      rw [hg] at k3
      clear hr hg
      go_wp2_with fail
      go_ret
      unfold DAx
      rw [HK2.out]
      exact ⟨rfl, HR.out⟩
    | false =>
      have HK2 := Lib.hid (show kindS st nm = (st1, 0) by rw [HK.out, hr, hg]; simp)
      rw [hg] at k3
      clear hr hg
      go_wp2_with fail
      go_ret
      unfold DAx
      rw [HK2.out]
      exact ⟨rfl, HR.out⟩
section
variable {W w : World} {m F : Nat} {G : GH} {sp sd : FS} {k : Nat} {vM : Value}
theorem lb_kindT (h : LB W m F G sp sd k vM w) (nm : ByteArray) (hs : nm.size ≤ maxLen) (hn : sp.sl.length ≤ 400000000) {vS vGN vGS vC : Value} {ps : List Nat} {gp : List (ByteArray × Nat)} {cp : List CallT} (hD : DF m vS vGN vGS vC ps gp cp sd w) :
    Calls Try.prog 10 #[.pointer (some ⟨F, 0, none⟩), .string nm] w fun e w' => e = .returned (.int .i64 ((kindS sp nm).2 : Int)) ∧ (∃ G', LB W m F G' (kindS sp nm).1 sd k vM w') ∧ Keep w w' ∧ DF m vS vGN vGS vC ps gp cp sd w' := by
  have hf := h.f
  subst hf
  refine (kind_any G sp w nm h.l.fr h.l.ok hs (by omega)).mono ?_
  rintro e w' ⟨G', he, hg⟩
  exact ⟨he, ⟨G', h.prog hg (kindS_ok h.l.ok nm) (Nat.le_of_eq (kindS_facts sp h.l.ok nm).2.1.symm)⟩, h.keepP hg.tu, hD.turn hg.tu fun j cs T x hj => by rcases h.l.fr.kinds x hj with rfl | rfl | rfl | rfl <;> decide⟩
theorem lb_kind24T (h : LB W m F G sp sd k vM w) (hok : OkF sd) (nm : ByteArray) (hn : sd.sl.length ≤ 399999999) (hc : sd.ca.length ≤ 1000) {vS vGN vGS vC : Value} {ps : List Nat} {gp : List (ByteArray × Nat)} {cp : List CallT} (hD : DF m vS vGN vGS vC ps gp cp sd w) :
    Calls Try.prog 26 #[.pointer (some ⟨m, 0, none⟩), .string nm] w fun e w' => e = .returned (.int .i64 ((kindS sd nm).2 : Int)) ∧ LB W m F G sp (kindS sd nm).1 k vM w' ∧ Keep w w' ∧ w'.cell? ⟨m, 3, none⟩ = some vC := by
  refine (kind24x m vS vGN vGS vC ps gp cp sd nm w hD hok hn hc).mono ?_
  rintro e w' ⟨he, ⟨_, _, _, _, _, hD⟩, ht⟩
  exact ⟨he, h.doc ⟨_, _, _, _, _, _, _, hD⟩ ht, keepD ht, hD.cells.2.2.2.1⟩
end
end Go.Proofs.Ytbpaiocbgbpiaaa

namespace Go.Proofs.Ytbpaiocbgbpiaaa
open Go.RowKit
set_option linter.unusedVariables false
set_option linter.unusedSimpArgs false

abbrev AD := Int × ByteArray × ByteArray
def adC (a : AD) : List Value := [.int .i64 a.1, .string a.2.1, .string a.2.2]
structure OpD where
  kd : Int
  nm : ByteArray
  tx : ByteArray
  pv : Value
  ps : List ByteArray
  av : Value
  ag : List AD
instance : Inhabited OpD := ⟨⟨0, ⟨#[]⟩, ⟨#[]⟩, .slice none 0 0, [], .slice none 0 0, []⟩⟩
def opC (o : OpD) : List Value := [.int .i64 o.kd, .string o.nm, .string o.tx, o.pv, o.av]
structure OpOk (W : World) (o : OpD) : Prop where
  nm : o.nm.size ≤ maxLen
  tx : o.tx.size ≤ 1048576
  ps : RowA W 1 o.pv o.ps.length (o.ps.map Value.string)
  ag : RowA W 3 o.av o.ag.length (o.ag.flatMap adC)
  pn : o.ps.length ≤ 1048576
  an : o.ag.length ≤ 1048576
  pz : ∀ p ∈ o.ps, p.size ≤ maxLen
  az : ∀ a ∈ o.ag, a.2.1.size ≤ maxLen ∧ a.2.2.size ≤ 1048576
def opA (kd : Int) (nm tx : ByteArray) (pv av : Value) : Array Value := #[.int .i64 kd, .string nm, .string tx, pv, av]
/-- Behind so many calls. -/
def LI (W : World) (m F i : Nat) (v5 : Value) (wr : World) : Prop := ∃ G st, LB W m F G st st (st.n + 1) v5 wr ∧ st.n ≤ i ∧ st.sl.length ≤ i * 2097154 ∧ st.ca.length ≤ 24
/-- Behind a call's own part. -/
def LJ (W : World) (m F i B : Nat) (cs : Array Value) (v5 : Value) (wx : World) : Prop := ∃ G st, LB W m F G st st (st.n + 1) v5 wx ∧ st.n ≤ i + 1 ∧ st.sl.length ≤ i * 2097154 + 2097153 ∧ st.ca.length ≤ 24 ∧ wx.heap[B]? = some (.cells cs 64 (0, 0))
theorem opC_len (l : List OpD) : (l.flatMap opC).length = l.length * 5 := flat_len (C := opC) (k := 5) (fun _ => rfl) l
theorem op_lies {w : World} {A : Option Addr} {c : Nat} {l : List OpD} (h : RowA w 5 (.slice A l.length c) l.length (l.flatMap opC)) {i : Nat} (hi : i < l.length) : ∃ b off, A = some ⟨b, off, none⟩ ∧ w.cell? ⟨b, off + i * 5, none⟩ = some (.int .i64 l[i].kd) ∧ w.cell? ⟨b, off + i * 5 + 1, none⟩ = some (.string l[i].nm) ∧ w.cell? ⟨b, off + i * 5 + 2, none⟩ = some (.string l[i].tx) ∧ w.cell? ⟨b, off + i * 5 + 3, none⟩ = some l[i].pv ∧ w.cell? ⟨b, off + i * 5 + 4, none⟩ = some l[i].av := by
  obtain ⟨b, off, rfl, _, h2⟩ := h.at (by rw [opC_len]; omega)
  have key := fun r u (hr : r < 5) (hu : (opC l[i])[r]? = some u) => h2 (i * 5 + r) u ((flat_get (C := opC) (k := 5) (fun _ => rfl) l (i := i) (r := r) (List.getElem?_eq_getElem hi) hr).trans hu)
  exact ⟨b, off, rfl, key 0 _ (by omega) rfl, key 1 _ (by omega) rfl, key 2 _ (by omega) rfl, key 3 _ (by omega) rfl, key 4 _ (by omega) rfl⟩
theorem lb_start {W w1 w2 : World} {G : GH} (h1 : Below W.heap.size W w1) (hL : LawSt w1.heap.size w1 G FS.new w2) {w4 : World} (e : w4 = (w2.alloc (.cells #[.slice none 0 0, .slice none 0 0, .slice none 0 0, .slice none 0 0, .int .i64 0] 60)).alloc (.cells #[.pointer none] 28)) :
    LI W w2.heap.size G.F 0 (.slice (some ⟨w2.heap.size + 1, 0, none⟩) 1 1) w4 := by
  subst e
  have hb : Below w2.heap.size w2 ((w2.alloc (.cells #[.slice none 0 0, .slice none 0 0, .slice none 0 0, .slice none 0 0, .int .i64 0] 60)).alloc (.cells #[.pointer none] 28)) := ((Below.refl _ _).alloc (Nat.le_refl _) _).alloc (by simp) _
  have hm := h1.size
  have hle := hL.le
  have hL2 := hL.more hb
  refine ⟨G, FS.new, ⟨⟨hL2.fr, hL2.ok, h1.trans (hL2.bl.mono hm), fun j hj => Nat.le_trans hm (hL2.los j hj), Nat.le_trans hm hL2.le⟩, rfl, ⟨.slice none 0 0, .slice none 0 0, .slice none 0 0, .slice none 0 0, [], [], [], ⟨at_old (at_new rfl), rfl, (fun i s p hs => by simp [FS.new] at hs), .inl (own_none _ _ _), ⟨.inl (own_none _ _ _), .inl (own_none _ _ _)⟩, rfl, .inl (own_none _ _ _), rfl, (fun k c hc => by simp at hc), Nat.le_refl _, (fun k c hc => by simp at hc), (fun j hj => by cases hj)⟩⟩, ?_, Nat.le_refl _, by omega⟩, Nat.le_refl _, Nat.le_refl _, by simp [FS.new]⟩
  refine ⟨rfl, .inr ⟨w2.heap.size + 1, 1, #[.pointer none], rfl, by omega, at_new (by simp), Nat.le_refl _, by decide, rfl, rfl⟩⟩
theorem f64bits (b : Nat) (w : World) : (callFunc 43 #[.float .f64 b]).run Try.prog w = .ok (.value (.int .u64 (b : Int))) w := by kernel_rfl
/-- Is the word one of a NaN? -/
def nan (b : Nat) : Bool := FloatKind.f64.format.order b b != some .eq
set_option maxHeartbeats 4000000 in
theorem fsame_self (b : Nat) (w : World) :
    Calls Try.prog 33 #[.float .f64 b, .float .f64 b] w fun e w' => e = .returned (.bool true) ∧ w = w' := by
  have hbits := f64bits b
  by_cases hn : nan b = true
  · have hn' : (FloatKind.f64.format.order b b != some .eq) = true := hn
    clear hn
    go_enter Try.func33, Try.ntmps33
    go_wp2
    go_ret
    exact ⟨rfl, rfl⟩
  · have hn' : (FloatKind.f64.format.order b b != some .eq) = false := by simpa [nan] using hn
    clear hn
    go_enter Try.func33, Try.ntmps33
    go_wp2
    go_ret
    exact ⟨by simp, rfl⟩
set_option maxHeartbeats 4000000 in
theorem csame_self (x : Int) (y : Nat) (z : ByteArray) (w : World) :
    Calls Try.prog 19 #[.agg #[.int .i64 x, .float .f64 y, .string z], .agg #[.int .i64 x, .float .f64 y, .string z]] w fun e w' => e = .returned (.bool true) ∧ Below w.heap.size w w' := by
  go_enter Try.func19, Try.ntmps19
  go_wp2_with fail
  refine (fsame_self y _).mono ?_
  rintro e w1 ⟨rfl, rfl⟩
  go_wp2_with fail
  go_ret
  exact ⟨rfl, ((Below.refl _ w).alloc (Nat.le_refl _) _).alloc (by simp) _⟩
theorem li_small {i n : Nat} (hi : i < 150) (h : n ≤ i * 2097154 + 2097153) : n ≤ 399999998 := by omega
theorem li_small0 {i n : Nat} (hi : i < 150) (h : n ≤ i * 2097154) : n ≤ 399999998 := by omega
theorem li_next {i n n' : Nat} (h : n ≤ i * 2097154 + 2097153) (h' : n' ≤ n + 1) : n' ≤ (i + 1) * 2097154 := by omega
theorem lj_of {i n n' d : Nat} (h : n ≤ i * 2097154) (h' : n' ≤ n + d) (hd : d ≤ 2097153) : n' ≤ i * 2097154 + 2097153 := by omega
theorem lj_push {i n p : Nat} (hi : i < 150) (h : n ≤ i * 2097154) (hp : p ≤ 1048576) : n + 2 * p ≤ 399999999 := by omega
/-- A guarded call, where it is wanted. -/
theorem step_call1g {P : Program} {w : World} {ops : Array Oper} {o : Oper} {a : Act} {K : Act → World → Prop} {Q : Exit → Act → World → Prop} {E : Prop} (f : FuncId) (x1 : Operand) (tys : Array TypeId) (hen : ∀ vs w, (callFunc f vs).run P w = .ok (.enter f vs) w) (hw : Region.wanted o (yielded ops a.tmps) = true) (ho : o.op = .call { callee := .value (.func f), args := #[x1], argTypes := tys })
    {v1 : Value} (h1 : a.eval x1 = v1) {v : Value} {R : World → Prop} (hc : Calls P f #[v1] w (fun e w' => e = .returned v ∧ R w')) (h : ∀ w', R w' → K (a.put o.dst v) w') : if Region.wanted o (yielded ops a.tmps) = true then Oper.wp P o a w K Q else E := by
  rw [if_pos hw]
  subst h1
  unfold Oper.wp execOp
  have e0 : a.eval (.func f) = .func (.func f) #[] #[] := rfl
  simp only [ho, resolve, invoke, e0, Deferred.ofValue, Sem.run_bind, Sem.run_pure, Result.andThen_ok, Array.append_empty, Array.empty_append, hen, List.map_toArray, List.map_cons, List.map_nil]
  rw [Oper.upon_enter]
  exact hc.mono fun e w' ⟨he, hr⟩ => by subst he; exact h w' hr
theorem en_kind : ∀ vs w, (callFunc 10 vs).run Try.prog w = .ok (.enter 10 vs) w := by intro vs w; go_simp
theorem en_kind24 : ∀ vs w, (callFunc 26 vs).run Try.prog w = .ok (.enter 26 vs) w := by intro vs w; go_simp
theorem en_depth : ∀ vs w, (callFunc 15 vs).run Try.prog w = .ok (.enter 15 vs) w := by intro vs w; go_simp
theorem en_set : ∀ vs w, (callFunc 11 vs).run Try.prog w = .ok (.enter 11 vs) w := by intro vs w; go_simp
theorem en_set24 : ∀ vs w, (callFunc 22 vs).run Try.prog w = .ok (.enter 22 vs) w := by intro vs w; go_simp
theorem en_val : ∀ vs w, (callFunc 21 vs).run Try.prog w = .ok (.enter 21 vs) w := by intro vs w; go_simp
theorem en_push : ∀ vs w, (callFunc 9 vs).run Try.prog w = .ok (.enter 9 vs) w := by intro vs w; go_simp
theorem en_push24 : ∀ vs w, (callFunc 24 vs).run Try.prog w = .ok (.enter 24 vs) w := by intro vs w; go_simp
theorem arr_info2 : (Try.prog.info? 101).map (·.size) = some 2 := by kernel_rfl
theorem ptr_other {w : World} {b c : Nat} (hne : b ≠ c) (hb : ∃ cs, w.heap[b]? = some (.cells cs 101 (0, 0))) (hc : ∃ cs, w.heap[c]? = some (.cells cs 101 (0, 0))) :
    (binOp .eql 28 (.pointer (some ⟨b, 0, none⟩)) (.pointer (some ⟨c, 0, none⟩))).run Try.prog w = .ok (.bool false) w := by
  obtain ⟨cb, hb⟩ := hb
  obtain ⟨cc, hc⟩ := hc
  obtain ⟨j, hj, hs⟩ : ∃ j, Try.prog.info? 101 = some j ∧ j.size = 2 := by
    have := arr_info2
    cases h : Try.prog.info? 101 with
    | none => rw [h] at this; cases this
    | some j => rw [h] at this; exact ⟨j, rfl, by simpa using this⟩
  exact run_eql_ptr_other w Try.underlying28 hj (by omega) (fun e => hne (congrArg Addr.block e)) hb hc
theorem ptr_info : (Try.prog.info? 28).map (fun i => (i.zero, i.size, i.bytes)) = some (some (.pointer none), 1, 8) := by kernel_rfl
theorem arr_split {n n' a r : Nat} (h : (n' = n ∧ (r = 80 ∧ a = 0 ∨ r = 0 ∧ 1 ≤ a ∧ a ≤ n)) ∨ (n' = n + 1 ∧ r = 0 ∧ a = n + 1)) : (n' = n ∧ r = 80 ∧ a = 0) ∨ (r = 0 ∧ 1 ≤ a ∧ a ≤ n' ∧ (n' = n ∨ (n' = n + 1 ∧ a = n'))) := by omega
theorem LB.met {W w : World} {m F : Nat} {G : GH} {sp sd : FS} {k g c : Nat} (h : LB W m F G sp sd k (.slice (some ⟨g, 0, none⟩) k c) w) {j : Nat} (hj : j < k) : w.cell? ⟨g, j, none⟩ = some (arP G.ab j) := by
  have h1 := h.r.cellAt (g := g) (cap := c) j (by simpa using hj)
  rw [h1]
  exact metV_at G hj
def argOf (n : Nat) (a : AD) : ArgT := (if 0 < a.1 ∧ a.1 < (n : Int) then a.1.toNat else 0, a.2.1, valR a.2.2)
theorem argOf_le (n : Nat) (a : AD) : (argOf (n + 1) a).1 ≤ n := by
  unfold argOf
  dsimp only
  split <;> omega
theorem adC_len (l : List AD) : (l.flatMap adC).length = l.length * 3 := flat_len (C := adC) (k := 3) (fun _ => rfl) l
theorem ad_lies {w : World} {A : Option Addr} {c : Nat} {l : List AD} (h : RowA w 3 (.slice A l.length c) l.length (l.flatMap adC)) {i : Nat} (hi : i < l.length) : ∃ b off, A = some ⟨b, off, none⟩ ∧ w.cell? ⟨b, off + i * 3, none⟩ = some (.int .i64 l[i].1) ∧ w.cell? ⟨b, off + i * 3 + 1, none⟩ = some (.string l[i].2.1) ∧ w.cell? ⟨b, off + i * 3 + 2, none⟩ = some (.string l[i].2.2) := by
  obtain ⟨b, off, rfl, _, h2⟩ := h.at (by rw [adC_len]; omega)
  have key := fun r u (hr : r < 3) (hu : (adC l[i])[r]? = some u) => h2 (i * 3 + r) u ((flat_get (C := adC) (k := 3) (fun _ => rfl) l (i := i) (r := r) (List.getElem?_eq_getElem hi) hr).trans hu)
  exact ⟨b, off, rfl, key 0 _ (by omega) rfl, key 1 _ (by omega) rfl, key 2 _ (by omega) rfl⟩
theorem LB.side {W w w' : World} {m F : Nat} {G : GH} {sp sd : FS} {k : Nat} {vM : Value} {X : Nat → Prop} (h : LB W m F G sp sd k vM w) (ht : Turn w w' X) (hX : ∀ j, X j → W.heap.size ≤ j ∧ ∃ cs T, w.heap[j]? = some (.cells cs T (0, 0)) ∧ (T = 34 ∨ T = 74)) : LB W m F G sp sd k vM w' := by
  refine ⟨⟨h.l.fr.turn ht fun j hj x => ?_, h.l.ok, h.l.bl.trans (ht.below h.l.le fun j x => (hX j x).1), h.l.los, Nat.le_trans h.l.le ht.size⟩, h.f, h.d.turn ht fun j cs T x hj => ?_, own_turn h.r ht fun j hj x => ?_, h.kk, h.hm⟩
  · obtain ⟨_, cs, T, hc, hT⟩ := hX j x
    exact h.l.fr.notOwn hc (by rcases hT with rfl | rfl <;> decide) hj
  · obtain ⟨_, cs', T', hc, hT⟩ := hX j x
    rw [hc] at hj
    simp at hj
    obtain ⟨_, rfl⟩ := hj
    rcases hT with rfl | rfl <;> decide
  · obtain ⟨_, cs', T', hc, hT⟩ := hX j x
    obtain ⟨c, ho⟩ := own_obj h.r hj
    rw [hc] at ho
    simp at ho
    rcases hT with rfl | rfl <;> simp at ho
theorem farg_info : (Try.prog.info? 34).map (fun i => (i.zero, i.size, i.bytes)) = some (some (.agg #[.pointer none, .string ⟨#[]⟩, .int .i64 0, .float .f64 0, .string ⟨#[]⟩]), 5, 56) := by kernel_rfl
theorem rarg_info : (Try.prog.info? 74).map (fun i => (i.zero, i.size, i.bytes)) = some (some (.agg #[.int .i64 0, .string ⟨#[]⟩, .int .i64 0, .float .f64 0, .string ⟨#[]⟩]), 5, 56) := by kernel_rfl
theorem argOf_lt {n : Nat} (h : 0 < n) (a : AD) : (argOf n a).1 < n := by
  unfold argOf
  dsimp only
  split <;> omega
/-- The arguments that were read so far, for both. -/
structure LP (W : World) (m F : Nat) (G : GH) (st : FS) (N : Nat) (v5 : Value) (wA : World) (ag : List AD) (j : Nat) (v17 v18 : Value) (wx : World) : Prop where
  b : LB W m F G st st N v5 wx
  k : Keep wA wx
  p : wx.ownsRow W.heap.size 34 5 v17 j (((ag.take j).map (argOf N)).flatMap (argC G.ab))
  q : wx.ownsRow W.heap.size 74 5 v18 j (((ag.take j).map (argOf N)).flatMap arg24C)
/-- While one of them is read: i and j are how many rows lie there. -/
structure LQ (W : World) (m F : Nat) (G : GH) (st : FS) (N : Nat) (v5 : Value) (wA : World) (Ba : Nat) (bx : Array Value) (i : Nat) (xs : List Value) (j : Nat) (ys : List Value) (v17 v18 : Value) (wx : World) : Prop where
  b : LB W m F G st st N v5 wx
  k : Keep wA wx
  x : wx.heap[Ba]? = some (.cells bx 72 (0, 0))
  p : wx.ownsRow W.heap.size 34 5 v17 i xs
  q : wx.ownsRow W.heap.size 74 5 v18 j ys
section
variable {W w w' wA : World} {m F Ba i j N : Nat} {G : GH} {st : FS} {v5 v17 v18 : Value} {bx : Array Value} {xs ys : List Value}
theorem LQ.below (h : LQ W m F G st N v5 wA Ba bx i xs j ys v17 v18 w) (hb : Below w.heap.size w w') : LQ W m F G st N v5 wA Ba bx i xs j ys v17 v18 w' :=
  ⟨h.b.below hb, h.k.trans (Keep.below hb), (hb.block _ (Array.getElem?_eq_some_iff.1 h.x).1).trans h.x, own_same h.p fun j hj => hb.block j (h.p.lt j hj).2, own_same h.q fun j hj => hb.block j (h.q.lt j hj).2⟩
theorem LQ.one (h : LQ W m F G st N v5 wA Ba bx i xs j ys v17 v18 w) (hg : w.grownBy w' v17.ownBlock) {v : Value} {i' : Nat} {xs' : List Value} (hr : w'.ownsRow W.heap.size 34 5 v i' xs') : LQ W m F G st N v5 wA Ba bx i' xs' j ys v v18 w' := by
  have ht := (Turn.of_grown hg).mono (Y := fun j => v17.ownBlock = some j) (fun j e => e)
  have nk : ∀ (j : Nat) (cs : Array Value) (T : TypeId), T ≠ 34 → w.heap[j]? = some (.cells cs T (0, 0)) → w'.heap[j]? = w.heap[j]? := fun j cs T hT hj => ht.block j (Array.getElem?_eq_some_iff.1 hj).1 fun e => by
    obtain ⟨c, hc⟩ := own_obj h.p e
    rw [hc] at hj
    simp at hj
    exact hT hj.2.symm
  refine ⟨h.b.side ht fun j e => ⟨(h.p.lt j e).1, ?_⟩, h.k.trans ⟨ht.size, fun j cs T hT hj => (nk j cs T (by rcases hT with rfl | rfl | rfl <;> decide) hj).trans hj⟩, (nk _ _ _ (by decide) h.x).trans h.x, hr, own_same h.q fun j hj => ?_⟩
  · obtain ⟨c, hc⟩ := own_obj h.p e
    exact ⟨c, _, hc, .inl rfl⟩
  · obtain ⟨c, hc⟩ := own_obj h.q hj
    exact nk _ _ _ (by decide) hc
theorem LQ.two (h : LQ W m F G st N v5 wA Ba bx i xs j ys v17 v18 w) (hg : w.grownBy w' v18.ownBlock) {v : Value} {j' : Nat} {ys' : List Value} (hr : w'.ownsRow W.heap.size 74 5 v j' ys') : LQ W m F G st N v5 wA Ba bx i xs j' ys' v17 v w' := by
  have ht := (Turn.of_grown hg).mono (Y := fun j => v18.ownBlock = some j) (fun j e => e)
  have nk : ∀ (j : Nat) (cs : Array Value) (T : TypeId), T ≠ 74 → w.heap[j]? = some (.cells cs T (0, 0)) → w'.heap[j]? = w.heap[j]? := fun j cs T hT hj => ht.block j (Array.getElem?_eq_some_iff.1 hj).1 fun e => by
    obtain ⟨c, hc⟩ := own_obj h.q e
    rw [hc] at hj
    simp at hj
    exact hT hj.2.symm
  refine ⟨h.b.side ht fun j e => ⟨(h.q.lt j e).1, ?_⟩, h.k.trans ⟨ht.size, fun j cs T hT hj => (nk j cs T (by rcases hT with rfl | rfl | rfl <;> decide) hj).trans hj⟩, (nk _ _ _ (by decide) h.x).trans h.x, own_same h.p fun j hj => ?_, hr⟩
  · obtain ⟨c, hc⟩ := own_obj h.q e
    exact ⟨c, _, hc, .inr rfl⟩
  · obtain ⟨c, hc⟩ := own_obj h.p hj
    exact nk _ _ _ (by decide) hc
end
end Go.Proofs.Ytbpaiocbgbpiaaa

namespace Go.Proofs.Ytbpaiocbgbpiaaa
open Go.RowKit
def cR : Code → Code
  | .seq _ b => b
  | c => c
def cL : Code → Code
  | .seq a _ => a
  | c => c
def cI : Code → Code
  | .block _ b => b
  | .loop b => b
  | c => c
/-- The switch. -/
def IsSw (c : Code) : Prop := c = (cR (cL (cR (cI (cL (cR (cR (cI (cI (cR (cL (cR (cR (cR (cR (cR (cR (cR (Try.f6.body.getD .skip)))))))))))))))))))
theorem sw_block : ∃ b, IsSw (.block 2 b) := ⟨_, rfl⟩
end Go.Proofs.Ytbpaiocbgbpiaaa
