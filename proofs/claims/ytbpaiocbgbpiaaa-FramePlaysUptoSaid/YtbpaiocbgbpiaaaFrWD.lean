/- The variables as a law has them; values. -/
import Derived.Test.YtbpaiocbgbpiaaaFrWC
namespace Go.Proofs.Ytbpaiocbgbpiaaa
open Go.RowKit
set_option linter.unusedVariables false
set_option linter.unusedSimpArgs false

section
variable {st : FS}
theorem kindS_ok (h : OkF st) (nm : ByteArray) : OkF (kindS st nm).1 := (findS_ok h nm).1
theorem getS_ok (h : OkF st) (nm : ByteArray) : OkF (getS st nm).1 := by
  have := (findS_ok h nm).1
  unfold getS
  cases hf : findS st nm with
  | mk st1 i => rw [hf] at this; dsimp only; split <;> exact this
theorem setS_ok (h : OkF st) (nm : ByteArray) (c : CellT) : OkF (setS st nm c).1 := by
  have := findS_ok h nm
  unfold setS
  cases hf : findS st nm with
  | mk st1 i =>
    rw [hf] at this
    dsimp only at this ⊢
    split
    · exact this.1
    · rename_i hr
      exact this.1.val this.2.1 (Decidable.not_not.1 hr) c
theorem arrS_ok (h : OkF st) (nm : ByteArray) : OkF (arrS st nm).1 := by
  have := findS_ok h nm
  unfold arrS
  cases hf : findS st nm with
  | mk st1 i =>
    rw [hf] at this
    dsimp only at this ⊢
    split
    · exact this.1
    · rename_i hg
      split
      · exact this.1
      · rename_i hr
        exact this.1.bec this.2.1 (Decidable.not_not.1 hr) (by simpa using hg)
theorem popS_ok (h : OkF st) : OkF (popS st).1 := by
  unfold popS
  split
  · exact h
  · exact ⟨h.ok, h.le, h.g, fun f hf => h.c f (List.dropLast_subset _ hf)⟩
theorem parsS_ok (args : List ArgT) : ∀ (ps : List ByteArray) (x : FS × (ByteArray → Option Nat)) (i : Nat), OkF x.1 → (∀ s j, x.2 s = some j → j < x.1.sl.length) → (∀ a ∈ args, a.1 ≤ x.1.n) →
    OkF (parsS args x i ps).1 ∧ (∀ s j, (parsS args x i ps).2 s = some j → j < (parsS args x i ps).1.sl.length) ∧ (parsS args x i ps).1.n = x.1.n ∧ (parsS args x i ps).1.ca = x.1.ca
  | [], x, i, h1, h2, _ => ⟨h1, h2, rfl, rfl⟩
  | p :: ps, x, i, h1, h2, h3 => by
    have key : OkF (parS args x i p).1 ∧ (∀ s j, (parS args x i p).2 s = some j → j < (parS args x i p).1.sl.length) ∧ (parS args x i p).1.n = x.1.n ∧ (parS args x i p).1.ca = x.1.ca := by
      unfold parS
      cases ha : args[i]? with
      | none => exact ⟨h1.add SM.blank (fun _ => rfl) (fun j hj => by cases hj) (Nat.zero_le _), putN_lt (fun s j hj => by have := h2 s j hj; simp [addS]; omega) p (by simp [addS]), rfl, rfl⟩
      | some a =>
        obtain ⟨f1, f2, f3, f4, f5, f6⟩ := argS_facts h1 a (h3 a (List.mem_of_getElem? ha))
        have hl := argS_len x.1 a
        exact ⟨f1.add _ f2 f3 f4, putN_lt (fun s j hj => by have := h2 s j hj; simp [addS]; omega) p (by simp [addS]), f5, f6⟩
    obtain ⟨k1, k2, k3, k4⟩ := key
    have := parsS_ok args ps (parS args x i p) (i + 1) k1 k2 (fun a ha => by rw [k3]; exact h3 a ha)
    rw [k3, k4] at this
    exact this
theorem pushS_ok (h : OkF st) (ps : List ByteArray) (args : List ArgT) (ha : ∀ a ∈ args, a.1 ≤ st.n) : OkF (pushS st ps args).1 := by
  unfold pushS
  split
  · exact h
  · split
    · exact h
    · obtain ⟨k1, k2, k3, k4⟩ := parsS_ok args ps (st, fun _ => none) 0 h (fun s j hj => by cases hj) ha
      refine ⟨k1.ok, k1.le, k1.g, fun f hf => ?_⟩
      simp only [List.mem_append, List.mem_singleton] at hf
      rcases hf with hf | rfl
      · exact k1.c f hf
      · exact k2
end

/-- The program's variables, and nothing older than block lo, as a law has them. -/
structure LawSt (lo : Nat) (w0 : World) (G : GH) (st : FS) (w : World) : Prop where
  fr : FR XN G st w
  ok : OkF st
  bl : Below lo w0 w
  los : ∀ j, Own G j → lo ≤ j
  le : lo ≤ w.heap.size
theorem LawSt.go {lo : Nat} {w0 w w' : World} {G G' : GH} {st st' : FS} (h : LawSt lo w0 G st w) (g : FrGo G st' w G' w') (hok : OkF st') : LawSt lo w0 G' st' w' :=
  ⟨g.fr, hok, h.bl.trans (g.tu.below h.le h.los), fun j hj => by
    rcases g.ow j hj with x | x
    · exact h.los j x
    · exact Nat.le_trans h.le x, Nat.le_trans h.le g.tu.size⟩
theorem LawSt.more {lo : Nat} {w0 w w' : World} {G : GH} {st : FS} (h : LawSt lo w0 G st w) (hb : Below w.heap.size w w') : LawSt lo w0 G st w' :=
  ⟨h.fr.below hb, h.ok, h.bl.trans (hb.mono h.le), h.los, Nat.le_trans h.le hb.size⟩
set_option maxHeartbeats 4000000 in
theorem new_any (w : World) : Calls Try.prog 8 #[] w fun e w' => ∃ G, e = .returned (.pointer (some ⟨G.F, 0, none⟩)) ∧ LawSt w.heap.size w G FS.new w' ∧ G.q = 0 := by
  have hmm := @run_makeMap Try.prog
  go_enter Try.func8, Try.ntmps8
  go_wp2
  go_ret
  have hb2 : Below w.heap.size w ((w.alloc (.map #[] 0)).alloc (.cells #[.map (some w.heap.size), .slice none 0 0] 80)) := ((Below.refl _ w).alloc (Nat.le_refl _) _).alloc (by simp) _
  have hd : ((w.alloc (.map #[] 0)).alloc (.cells #[.map (some w.heap.size), .slice none 0 0] 80)).heap[w.heap.size + 1]? = some (.cells #[.map (some w.heap.size), .slice none 0 0] 80 (0, 0)) := heap_alloc2_new _ _ _
  have hm : MapF Try.prog 9 ((w.alloc (.map #[] 0)).alloc (.cells #[.map (some w.heap.size), .slice none 0 0] 80)) w.heap.size 0 (fun _ => none) := (MapF_made w Try.prog 9).same (Below.heap_alloc _ _ _ (by simp))
  generalize (w.alloc (.map #[] 0)).alloc (.cells #[.map (some w.heap.size), .slice none 0 0] 80) = w2 at *
  refine ⟨⟨w.heap.size + 1, w.heap.size, .slice none 0 0, [], [], [], [], [], 0⟩, rfl, ⟨⟨hd, ⟨0, Nat.le_refl _, hm⟩, own_none _ _ _, rfl, fun k b f h => ?_, rfl, fun i b s h => ?_, rfl, rfl, rfl, fun k b mb ks h => ?_, by simp⟩, OkF.new, hb2, fun j hj => ?_, hb2.size⟩, rfl⟩
  · simp at h
  · simp at h
  · simp at h
  · rcases hj with x | x | x | x | x | x | x
    · subst x; dsimp only; omega
    · subst x; dsimp only; omega
    · cases x
    · simp at x
    · simp at x
    · simp at x
    · simp at x
/-- A value is set into an array of theirs. -/
theorem LawSt.aset {lo : Nat} {w0 w w' : World} {G : GH} {st : FS} (h : LawSt lo w0 G st w) {k b mb : Nat} {ks : ByteArray → Bool} (hb : G.ab[k]? = some b) (hm : G.mbs[k]? = some mb) (hk : G.ks[k]? = some ks) {key : ByteArray}
    (hA : ArrIs w' b mb (G.q + 1) (putK ks key)) (ht : Turn w w' (fun j => j = b ∨ j = mb)) : LawSt lo w0 { G with ks := G.ks.set k (putK ks key), q := G.q + 1 } st w' := by
  have ob : Own G b := .inr (.inr (.inr (.inr (.inr (.inl (List.mem_of_getElem? hb))))))
  have om : Own G mb := .inr (.inr (.inr (.inr (.inr (.inr (List.mem_of_getElem? hm))))))
  have hT : Turn w w' (Own G) := ht.mono (fun j e => by rcases e with rfl | rfl; exact ob; exact om)
  have ha := h.fr.ars k b mb ks hb hm hk
  obtain ⟨⟨cs, hc⟩, es, ec, hc2⟩ := ha.objs
  have neb : ∀ (j : Nat) (cs' : Array Value) (e : TypeId), e ≠ 101 → w.heap[j]? = some (.cells cs' e (0, 0)) → w'.heap[j]? = w.heap[j]? := fun j cs' e he hj => by
    refine ht.block j (Array.getElem?_eq_some_iff.1 hj).1 (fun x => ?_)
    rcases x with rfl | rfl
    · rw [hc] at hj; simp at hj; exact he hj.2.symm
    · rw [hc2] at hj; cases hj
  have nem : ∀ (j : Nat) (es' : Array MapEntry) (c' : Nat), j ≠ mb → w.heap[j]? = some (.map es' c') → w'.heap[j]? = w.heap[j]? := fun j es' c' hn hj => by
    refine ht.block j (Array.getElem?_eq_some_iff.1 hj).1 (fun x => ?_)
    rcases x with rfl | rfl
    · rw [hc] at hj; cases hj
    · exact hn rfl
  have hnd := h.fr.nd.2.2
  have hmb : mb ∉ G.bg :: G.cbs := fun e => by
    have := (List.nodup_append (l₁ := G.bg :: G.cbs) (l₂ := G.mbs)).1 hnd
    exact this.2.2 mb e mb (List.mem_of_getElem? hm) rfl
  refine ⟨⟨(neb _ _ _ (by decide) h.fr.hd).trans h.fr.hd, ?_, own_same h.fr.cr (fun j hj => ?_), h.fr.cl, fun i c f hc' hf => ?_, h.fr.sl, fun i c s hc' hs => ?_, h.fr.al, h.fr.ml, by simp [h.fr.kl], fun i c m ks' hc' hm' hk' => ?_, h.fr.nd⟩, h.ok, h.bl.trans (hT.below h.le h.los), h.los, Nat.le_trans h.le hT.size⟩
  · obtain ⟨n, hn, hg⟩ := h.fr.gm
    obtain ⟨es', c', ho⟩ := hg.obj
    exact ⟨n, hn, hg.same (nem _ _ _ (fun e => hmb (by rw [← e]; simp)) ho)⟩
  · obtain ⟨cc, ho⟩ := own_obj h.fr.cr hj
    exact neb _ _ _ (by decide) ho
  · obtain ⟨n, hg⟩ := h.fr.cm i c f hc' hf
    obtain ⟨es', c', ho⟩ := hg.obj
    exact ⟨n, hg.same (nem _ _ _ (fun e => hmb (by rw [← e]; simp [List.mem_of_getElem? hc'])) ho)⟩
  · obtain ⟨v, hv, hx⟩ := h.fr.ss i c s hc' hs
    exact ⟨v, (neb _ _ _ (by decide) hv).trans hv, hx⟩
  · by_cases e : i = k
    · subst e
      have hki := (List.getElem?_eq_some_iff.1 hk).1
      rw [hb] at hc'
      rw [hm] at hm'
      cases hc'; cases hm'
      simp only [List.getElem?_set_self hki, Option.some.injEq] at hk'
      subst hk'
      exact hA
    · dsimp only at hk'
      rw [List.getElem?_set_ne (fun x => e x.symm)] at hk'
      have ha' := (h.fr.ars i c m ks' hc' hm' hk').mono (Nat.le_succ G.q)
      have hcb : c ≠ b := fun x => by
        subst x
        exact e ((List.getElem_inj (xs := G.ab) (h₀ := (List.getElem?_eq_some_iff.1 hc').1) (h₁ := (List.getElem?_eq_some_iff.1 hb).1) h.fr.nd.2.1).1 ((List.getElem?_eq_some_iff.1 hc').2.trans (List.getElem?_eq_some_iff.1 hb).2.symm))
      have hnm : G.mbs.Nodup := ((List.nodup_append (l₁ := G.bg :: G.cbs) (l₂ := G.mbs)).1 hnd).2.1
      have hmm : m ≠ mb := fun x => by
        subst x
        exact e ((List.getElem_inj (xs := G.mbs) (h₀ := (List.getElem?_eq_some_iff.1 hm').1) (h₁ := (List.getElem?_eq_some_iff.1 hm).1) hnm).1 ((List.getElem?_eq_some_iff.1 hm').2.trans (List.getElem?_eq_some_iff.1 hm).2.symm))
      obtain ⟨⟨cs', ho⟩, es', c', ho2⟩ := ha'.objs
      refine ha'.same (ht.block c (Array.getElem?_eq_some_iff.1 ho).1 (fun x => ?_)) (nem _ _ _ hmm ho2)
      rcases x with x | x
      · exact hcb x
      · subst x; rw [hc2] at ho; cases ho
set_option maxHeartbeats 4000000 in
theorem of_any (x : Nat) (w : World) : Calls Try.prog 12 #[.float .f64 x] w fun e w' => e = .returned (.agg #[.int .i64 1, .float .f64 x, .string ⟨#[]⟩]) ∧ Below w.heap.size w w' := by
  go_enter Try.func12, Try.ntmps12
  go_wp2
  refine bodyPost_ret (results_cell_row rfl _ _ w.heap.size 32 #[.int .i64 1, .float .f64 x, .string ⟨#[]⟩] (0, 0) _ rfl (heap_alloc_new _ _) Try.underlying32 rfl (by kernel_rfl)) rfl ?_
  exact ⟨rfl, (Below.refl _ w).alloc (Nat.le_refl _) _⟩
set_option maxHeartbeats 4000000 in
theorem text_any (s : ByteArray) (w : World) : Calls Try.prog 17 #[.string s] w fun e w' => e = .returned (.agg #[.int .i64 2, .float .f64 0, .string s]) ∧ Below w.heap.size w w' := by
  go_enter Try.func17, Try.ntmps17
  go_wp2
  refine bodyPost_ret (results_cell_row rfl _ _ w.heap.size 32 #[.int .i64 2, .float .f64 0, .string s] (0, 0) _ rfl (heap_alloc_new _ _) Try.underlying32 rfl (by kernel_rfl)) rfl ?_
  exact ⟨rfl, (Below.refl _ w).alloc (Nat.le_refl _) _⟩
end Go.Proofs.Ytbpaiocbgbpiaaa
