/- A call begins: walked. -/
import Derived.Test.YtbpaiocbgbpiaaaFrW9
namespace Go.Proofs.Ytbpaiocbgbpiaaa
open Go.RowKit
set_option linter.unusedVariables false
set_option linter.unusedSimpArgs false

theorem RowA.turn {w w' : World} {s : Nat} {v : Value} {n : Nat} {xs : List Value} {X : Nat → Prop} (h : RowA w s v n xs) (ht : Turn w w' X) (hx : ∀ a n c, v = .slice (some a) n c → ¬ X a.block) : RowA w' s v n xs := by
  obtain ⟨h1, A, c, h2, h3, h4, h5⟩ := h
  refine ⟨h1, A, c, h2, h3, h4, fun a ha j u hj => ?_⟩
  have hc := h5 a ha j u hj
  refine ht.cell hc ?_
  have := hx a n c (by rw [h2, ha])
  have e : (a.add j).block = a.block := by unfold Addr.add; split <;> rfl
  rw [e]; exact this
theorem arP_apps {ab x : List Nat} {p : Nat} (h : p ≤ ab.length) : arP (ab ++ x) p = arP ab p := by
  cases p with
  | zero => rfl
  | succ k =>
    simp only [arP]
    rw [List.getD_eq_getElem?_getD, List.getElem?_append_left (by omega), ← List.getD_eq_getElem?_getD]
theorem mpF_apps {sb x : List Nat} {f : ByteArray → Option Nat} (h : ∀ s i, f s = some i → i < sb.length) : mpF (sb ++ x) f = mpF sb f := by
  funext s
  unfold mpF
  cases hs : f s with
  | none => rfl
  | some i =>
    simp only [Option.map_some]
    unfold slP
    rw [List.getD_eq_getElem?_getD, List.getElem?_append_left (h s i hs), ← List.getD_eq_getElem?_getD]
def argC (ab : List Nat) (a : ArgT) : List Value := [arP ab a.1, .string a.2.1, .int .i64 a.2.2.1, .float .f64 a.2.2.2.1, .string a.2.2.2.2]
theorem parsS_snoc (args : List ArgT) (p : ByteArray) : ∀ (l : List ByteArray) (x : FS × (ByteArray → Option Nat)) (k : Nat), parsS args x k (l ++ [p]) = parS args (parsS args x k l) (k + l.length) p
  | [], x, k => rfl
  | q :: l, x, k => by
    rw [List.cons_append, parsS, parsS, parsS_snoc args p l, List.length_cons]
    congr 1; omega
/-- The parameters so far. -/
structure PuI (G : GH) (st : FS) (w : World) (mb : Nat) (i : Nat) (x : FS × (ByteArray → Option Nat)) (wr : World) : Prop where
  ex : ∃ (G1 : GH) (n : Nat), FrGo G x.1 w G1 wr ∧ MapF Try.prog 9 wr mb n (mpF G1.sb x.2) ∧ n ≤ 2 * i ∧ ¬ Own G1 mb
  mb : w.heap.size ≤ mb
  ok : OkF x.1
  lt : ∀ s j, x.2 s = some j → j < x.1.sl.length
  n : x.1.n = st.n
  ca : x.1.ca = st.ca
  len : x.1.sl.length ≤ st.sl.length + 2 * i
theorem findS_len (st : FS) (s : ByteArray) : st.sl.length ≤ (findS st s).1.sl.length ∧ (findS st s).1.sl.length ≤ st.sl.length + 1 := by
  unfold findS
  split
  · exact ⟨Nat.le_refl _, Nat.le_succ _⟩
  · split
    · exact ⟨Nat.le_refl _, Nat.le_succ _⟩
    · simp
theorem argS_len (st : FS) (a : ArgT) : st.sl.length ≤ (argS st a).1.sl.length ∧ (argS st a).1.sl.length ≤ st.sl.length + 1 := by
  unfold argS
  split
  · exact ⟨Nat.le_refl _, Nat.le_succ _⟩
  · split
    · exact ⟨Nat.le_refl _, Nat.le_succ _⟩
    · have := findS_len st a.2.1
      cases h : findS st a.2.1 with
      | mk st1 i =>
        rw [h] at this
        dsimp only at this ⊢
        split
        · exact this
        · split <;> exact this
/-- A parameter without an argument. -/
theorem PuI.blank {G : GH} {st : FS} {w wr w2 : World} {mb i : Nat} {args : List ArgT} {x : FS × (ByteArray → Option Nat)} (h : PuI G st w mb i x wr) (p : ByteArray) (ha : args[i]? = none)
    {G1 : GH} {n : Nat} (e1 : FrGo G x.1 w G1 wr) (e2 : MapF Try.prog 9 wr mb n (mpF G1.sb x.2)) (e3 : n ≤ 2 * i) (e4 : ¬ Own G1 mb)
    (hm : MapF Try.prog 9 w2 mb (n + 1) (upd (mpF G1.sb x.2) p (.pointer (some ⟨wr.heap.size, 0, none⟩))))
    (hg : (wr.alloc (.cells #[.pointer none, .int .i64 0, .float .f64 0, .string ⟨#[]⟩, .bool false, .pointer none] 83)).grownBy w2 (some mb)) : PuI G st w mb (i + 1) (parS args x i p) w2 := by
  have hb : Below wr.heap.size wr (wr.alloc (.cells #[.pointer none, .int .i64 0, .float .f64 0, .string ⟨#[]⟩, .bool false, .pointer none] 83)) := (Below.refl _ wr).alloc (Nat.le_refl _) _
  have k := e1.slotNew h.ok hb (b := wr.heap.size) (p := 0) (Nat.le_refl _) SM.blank (fun _ => rfl) (fun j hj => by cases hj) (heap_alloc_new _ _) (.inl rfl) (fun e => absurd rfl e)
  have hmb : mb < wr.heap.size := e2.lt
  have hn : ¬ Own (G1.slot wr.heap.size) mb := by
    intro hx
    have : Own G1 mb ∨ mb = wr.heap.size := by
      rcases hx with x | x | x | x | x | x | x
      · exact .inl (.inl x)
      · exact .inl (.inr (.inl x))
      · exact .inl (.inr (.inr (.inl x)))
      · exact .inl (.inr (.inr (.inr (.inl x))))
      · simp only [GH.slot, List.mem_append, List.mem_singleton] at x
        rcases x with x | x
        · exact .inl (.inr (.inr (.inr (.inr (.inl x)))))
        · exact .inr x
      · exact .inl (.inr (.inr (.inr (.inr (.inr (.inl x))))))
      · exact .inl (.inr (.inr (.inr (.inr (.inr (.inr x))))))
    rcases this with a | a
    · exact e4 a
    · omega
  have k2 := k.side ((Turn.of_grown hg).mono (fun j e => by cases e; rfl)) h.mb hn
  have hpar : parS args x i p = (addS x.1 SM.blank, putN x.2 p x.1.sl.length) := by unfold parS; rw [ha]
  rw [hpar]
  have hl := h.len
  refine ⟨⟨_, n + 1, k2, ?_, by omega, hn⟩, h.mb, h.ok.add SM.blank (fun _ => rfl) (fun j hj => by cases hj) (Nat.zero_le _), putN_lt (fun s j hj => by have := h.lt s j hj; simp [addS]; omega) p (by simp [addS]), h.n, h.ca, by simp [addS]; omega⟩
  simp only [GH.slot]
  have e : slP (G1.sb ++ [wr.heap.size]) x.1.sl.length = .pointer (some ⟨wr.heap.size, 0, none⟩) := by rw [← e1.fr.sl]; exact slP_last _ _
  rw [← mpF_put, e, mpF_app (fun s j hj => by rw [e1.fr.sl]; exact h.lt s j hj)]
  exact hm
/-- A parameter with an argument. -/
theorem PuI.given {G : GH} {st : FS} {w wr w2 w3 w4 : World} {mb i : Nat} {args : List ArgT} {x : FS × (ByteArray → Option Nat)} (h : PuI G st w mb i x wr) (p : ByteArray) {a : ArgT} (ha : args[i]? = some a) (han : a.1 ≤ st.n)
    {G1 G2 : GH} {n b : Nat} {z : Value} (e1 : FrGo G x.1 w G1 wr) (e2 : MapF Try.prog 9 w2 mb n (upd (mpF G1.sb x.2) p z)) (e3 : n ≤ 2 * i + 1) (e4 : ¬ Own G1 mb) (hlt : mb < w2.heap.size)
    (hw : FrGo G x.1 w G1 w2) (hA : FrGo G1 (addS (argS x.1 a).1 (argS x.1 a).2) w2 G2 w3) (hb : slP G2.sb (argS x.1 a).1.sl.length = .pointer (some ⟨b, 0, none⟩))
    (hm : MapF Try.prog 9 w4 mb (n + 1) (upd (upd (mpF G1.sb x.2) p z) p (.pointer (some ⟨b, 0, none⟩)))) (hg : w3.grownBy w4 (some mb)) : PuI G st w mb (i + 1) (parS args x i p) w4 := by
  obtain ⟨f1, f2, f3, f4, f5, f6⟩ := argS_facts h.ok a (by rw [h.n]; exact han)
  have hpar : parS args x i p = (addS (argS x.1 a).1 (argS x.1 a).2, putN x.2 p (argS x.1 a).1.sl.length) := by unfold parS; rw [ha]
  have hn2 : ¬ Own G2 mb := fun hx => by
    rcases hA.ow mb hx with q | q
    · exact e4 q
    · omega
  have k := (hw.trans hA).side ((Turn.of_grown hg).mono (fun j e => by cases e; rfl)) h.mb hn2
  have hl := h.len
  have hl2 := argS_len x.1 a
  rw [hpar]
  refine ⟨⟨G2, n + 1, k, ?_, by omega, hn2⟩, h.mb, f1.add _ f2 f3 f4, putN_lt (fun s j hj => by have := h.lt s j hj; simp [addS]; omega) p (by simp [addS]), by simp only [addS]; rw [f5]; exact h.n, by simp only [addS]; rw [f6]; exact h.ca, by simp [addS]; omega⟩
  obtain ⟨y, hy⟩ := hA.sb
  have hf : mpF G2.sb x.2 = mpF G1.sb x.2 := by rw [hy]; exact mpF_apps (fun s j hj => by rw [e1.fr.sl]; exact h.lt s j hj)
  rw [← mpF_put, hb, hf]
  have hu : upd (upd (mpF G1.sb x.2) p z) p (.pointer (some ⟨b, 0, none⟩)) = upd (mpF G1.sb x.2) p (.pointer (some ⟨b, 0, none⟩)) := by
    funext t
    unfold upd
    split <;> rfl
  rw [← hu]
  exact hm
def GH.push (G : GH) (v : Value) (mb : Nat) : GH := { G with cv := v, cbs := G.cbs ++ [mb] }
/-- The call's map is laid on top. -/
theorem FrGo.pushed {G0 G : GH} {st : FS} {w0 w w1 : World} {v : Value} {mb n : Nat} {f : ByteArray → Option Nat} (hh : FrGo G0 st w0 G w) (hmb0 : w0.heap.size ≤ mb) (hm : MapF Try.prog 9 w mb n (mpF G.sb f)) (hn : ¬ Own G mb)
    (ho : w1.ownsRow 0 77 1 v (st.ca.length + 1) (G.cbs.map (fun b => Value.map (some b)) ++ [.map (some mb)])) (hg : w.grownBy w1 G.cv.ownBlock) (hv : v.ownBlock = G.cv.ownBlock ∨ ∃ g, v.ownBlock = some g ∧ w.heap.size ≤ g) :
    FrGo G0 ⟨st.sl, st.gl, st.ca ++ [f], st.n⟩ w0 (G.push v mb) (w1.setCell ⟨G.F, 1, none⟩ v) := by
  have h := hh.fr
  have hd := h.hd
  have hF : some G.F ≠ G.cv.ownBlock := fun e => by
    obtain ⟨c, hc⟩ := own_obj h.cr e.symm
    rw [hd] at hc
    simp at hc
  have hd1 := (hg.block G.F (h.lt (.inl rfl)) hF).trans hd
  have nec : ∀ (j : Nat) (cs : Array Value) (e : TypeId), e ≠ 80 → e ≠ 77 → w.heap[j]? = some (.cells cs e (0, 0)) → (w1.setCell ⟨G.F, 1, none⟩ v).heap[j]? = w.heap[j]? := fun j cs e he1 he2 hj => by
    have hjF : j ≠ G.F := fun e' => by subst e'; rw [hd] at hj; simp at hj; exact he1 hj.2.symm
    have hjc : some j ≠ G.cv.ownBlock := fun e' => by
      obtain ⟨c, hc⟩ := own_obj h.cr e'.symm
      rw [hj] at hc; simp at hc; exact he2 hc.2
    exact (heap_setCell_other _ _ _ _ hjF).trans (hg.block j (Array.getElem?_eq_some_iff.1 hj).1 hjc)
  have nem : ∀ (j : Nat) (es : Array MapEntry) (ec : Nat), w.heap[j]? = some (.map es ec) → (w1.setCell ⟨G.F, 1, none⟩ v).heap[j]? = w.heap[j]? := fun j es ec hj => by
    have hjF : j ≠ G.F := fun e' => by subst e'; rw [hd] at hj; cases hj
    have hjc : some j ≠ G.cv.ownBlock := fun e' => by
      obtain ⟨c, hc⟩ := own_obj h.cr e'.symm
      rw [hj] at hc; cases hc
    exact (heap_setCell_other _ _ _ _ hjF).trans (hg.block j (Array.getElem?_eq_some_iff.1 hj).1 hjc)
  have hT : Turn w (w1.setCell ⟨G.F, 1, none⟩ v) (Own G) := ((Turn.of_grown hg).mono (fun j e => .inr (.inr (.inl e)))).setCell _ _ (fun _ => .inl rfl)
  refine ⟨⟨?_, ?_, ?_, by simp [GH.push, h.cl], fun k b f' hb hf => ?_, h.sl, fun i b s hb hs => ?_, h.al, h.ml, h.kl, fun k b mb' ks hb hmb hk => ?_, h.nd.1, h.nd.2.1, ?_⟩, hh.tu.trans hT (fun _ x => x) (fun j hj x => (hh.ow j x).resolve_right (by omega)), fun j x => ?_, hh.F, hh.sb, hh.ab, hh.ks, hh.q⟩
  · rw [show (G.push v mb).F = G.F from rfl, heap_setCell_same _ _ _ _ _ _ hd1]; rfl
  · obtain ⟨n0, hn0, hm0⟩ := h.gm
    obtain ⟨es, ec, ho0⟩ := hm0.obj
    exact ⟨n0, hn0, hm0.same (nem _ _ _ ho0)⟩
  · simp only [GH.push, List.map_append, List.map_cons, List.map_nil, List.length_append, List.length_cons, List.length_nil]
    refine own_same ho (fun j hj => heap_setCell_other _ _ _ _ (fun e => ?_))
    subst e
    obtain ⟨c, hc⟩ := own_obj ho hj
    rw [hd1] at hc
    simp at hc
  · simp only [GH.push] at hb ⊢
    rcases get_snoc hb with q | ⟨q, q'⟩
    · have hk := (List.getElem?_eq_some_iff.1 q).1
      rw [List.getElem?_append_left (by rw [← h.cl]; exact hk)] at hf
      obtain ⟨n', hm'⟩ := h.cm k b f' q hf
      obtain ⟨es, ec, ho'⟩ := hm'.obj
      exact ⟨n', hm'.same (nem _ _ _ ho')⟩
    · subst q'
      rw [q, h.cl] at hf
      simp at hf
      subst hf
      obtain ⟨es, ec, ho'⟩ := hm.obj
      exact ⟨n, hm.same (nem _ _ _ ho')⟩
  · obtain ⟨u, hu, hx⟩ := h.ss i b s hb hs
    exact ⟨u, (nec _ _ _ (by decide) (by decide) hu).trans hu, hx⟩
  · have ha := h.ars k b mb' ks hb hmb hk
    obtain ⟨⟨cs, hc⟩, es, ec, hc2⟩ := ha.objs
    exact ha.same (nec _ _ _ (by decide) (by decide) hc) (nem _ _ _ hc2)
  · simp only [GH.push]
    have hmb1 : mb ≠ G.bg := fun e => hn (e ▸ .inr (.inl rfl))
    have hmb2 : mb ∉ G.cbs := fun e => hn (.inr (.inr (.inr (.inl e))))
    have hmb3 : mb ∉ G.mbs := fun e => hn (.inr (.inr (.inr (.inr (.inr (.inr e))))))
    have hnd := h.nd.2.2
    rw [List.nodup_cons, List.nodup_append] at hnd ⊢
    obtain ⟨a1, a2, a3, a4⟩ := hnd
    refine ⟨?_, ?_, a3, ?_⟩
    · simp only [List.mem_append, List.mem_singleton] at a1 ⊢
      rintro ((q | q) | q)
      · exact a1 (.inl q)
      · exact hmb1 q.symm
      · exact a1 (.inr q)
    · rw [List.nodup_append]
      refine ⟨a2, by simp, fun y hy u hu => ?_⟩
      simp at hu
      subst hu
      rintro rfl
      exact hmb2 hy
    · intro y hy u hu
      simp only [List.mem_append, List.mem_singleton] at hy
      rcases hy with hy | hy
      · exact a4 y hy u hu
      · subst hy
        rintro rfl
        exact hmb3 hu
  · rcases x with x | x | x | x | x | x | x
    · exact hh.ow j (.inl x)
    · exact hh.ow j (.inr (.inl x))
    · rcases hv with e | ⟨g, e, e2⟩
      · exact hh.ow j (.inr (.inr (.inl (by rw [← e]; exact x))))
      · have hx : v.ownBlock = some j := x
        rw [e] at hx
        cases hx
        exact .inr (Nat.le_trans hh.tu.size e2)
    · simp only [GH.push, List.mem_append, List.mem_singleton] at x
      rcases x with x | x
      · exact hh.ow j (.inr (.inr (.inr (.inl x))))
      · subst x; exact .inr hmb0
    · exact hh.ow j (.inr (.inr (.inr (.inr (.inl x)))))
    · exact hh.ow j (.inr (.inr (.inr (.inr (.inr (.inl x))))))
    · exact hh.ow j (.inr (.inr (.inr (.inr (.inr (.inr x))))))
theorem argC_len (ab : List Nat) (l : List ArgT) : (l.flatMap (argC ab)).length = l.length * 5 := flat_len (C := argC ab) (k := 5) (fun _ => rfl) l
theorem argC_at {ab : List Nat} {l : List ArgT} {i : Nat} (h : i < l.length) : (l.flatMap (argC ab))[i * 5]? = some (arP ab l[i].1) ∧ (l.flatMap (argC ab))[i * 5 + 1]? = some (.string l[i].2.1) ∧ (l.flatMap (argC ab))[i * 5 + 2]? = some (.int .i64 l[i].2.2.1) ∧ (l.flatMap (argC ab))[i * 5 + 3]? = some (.float .f64 l[i].2.2.2.1) ∧ (l.flatMap (argC ab))[i * 5 + 4]? = some (.string l[i].2.2.2.2) := by
  induction l generalizing i with
  | nil => simp at h
  | cons x l ih =>
    cases i with
    | zero => simp [argC]
    | succ i =>
      have h2 : i < l.length := by simpa using h
      have hl : (argC ab x).length = 5 := rfl
      have key : ∀ r, ((x :: l).flatMap (argC ab))[(i + 1) * 5 + r]? = (l.flatMap (argC ab))[i * 5 + r]? := fun r => by
        rw [List.flatMap_cons, List.getElem?_append_right (by rw [hl]; omega), hl]
        congr 1; omega
      have k0 := key 0
      rw [Nat.add_zero, Nat.add_zero] at k0
      rw [k0, key 1, key 2, key 3, key 4]
      simpa using ih h2
theorem str_lies {w : World} {A : Option Addr} {c : Nat} {l : List ByteArray} (h : RowA w 1 (.slice A l.length c) l.length (l.map Value.string)) {i : Nat} (hi : i < l.length) : ∃ b off, A = some ⟨b, off, none⟩ ∧ w.cell? ⟨b, off + i, none⟩ = some (.string l[i]) := by
  obtain ⟨b, off, rfl, _, h2⟩ := h.at (by simp; omega)
  exact ⟨b, off, rfl, h2 i _ (by simp [hi])⟩
theorem arg_lies {w : World} {ab : List Nat} {A : Option Addr} {c : Nat} {l : List ArgT} (h : RowA w 5 (.slice A l.length c) l.length (l.flatMap (argC ab))) {i : Nat} (hi : i < l.length) : ∃ b off, A = some ⟨b, off, none⟩ ∧ w.cell? ⟨b, off + i * 5, none⟩ = some (arP ab l[i].1) ∧ w.cell? ⟨b, off + i * 5 + 1, none⟩ = some (.string l[i].2.1) ∧ w.cell? ⟨b, off + i * 5 + 2, none⟩ = some (.int .i64 l[i].2.2.1) ∧ w.cell? ⟨b, off + i * 5 + 3, none⟩ = some (.float .f64 l[i].2.2.2.1) ∧ w.cell? ⟨b, off + i * 5 + 4, none⟩ = some (.string l[i].2.2.2.2) := by
  obtain ⟨b, off, rfl, _, h2⟩ := h.at (by rw [argC_len]; omega)
  obtain ⟨q0, q1, q2, q3, q4⟩ := argC_at (ab := ab) hi
  exact ⟨b, off, rfl, h2 _ _ q0, h2 _ _ q1, h2 _ _ q2, h2 _ _ q3, h2 _ _ q4⟩
end Go.Proofs.Ytbpaiocbgbpiaaa
