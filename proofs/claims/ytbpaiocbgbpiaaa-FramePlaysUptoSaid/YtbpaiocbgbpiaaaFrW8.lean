/- Pop, and what is answered by none: walked. -/
import Derived.Test.YtbpaiocbgbpiaaaFrW7
import Derived.IntWalk
import Derived.StillTailTactics
namespace Go.Proofs.Ytbpaiocbgbpiaaa
open Go.RowKit
set_option linter.unusedVariables false
set_option linter.unusedSimpArgs false

theorem own_take {w : World} {base : Nat} {e : TypeId} {g n cap : Nat} {xs : List Value} (h : w.ownsRow base e 1 (.slice (some ⟨g, 0, none⟩) n cap) n xs) {m : Nat} (hm : m ≤ n) : w.ownsRow base e 1 (.slice (some ⟨g, 0, none⟩) m cap) m (xs.take m) := by
  rcases h.2 with ⟨e', _⟩ | ⟨g', cap', cur, e', hb, hg, hn, hmx, hs, ht⟩
  · cases e'
  · cases e'
    have h1 := h.1
    refine ⟨by rw [List.length_take]; omega, .inr ⟨g, cap, cur, rfl, hb, hg, by omega, hmx, hs, ?_⟩⟩
    rw [← ht, List.take_take]
    congr 1; omega
def GH.pop (G : GH) (v : Value) : GH := { G with cv := v, cbs := G.cbs.dropLast }
theorem FR.popped {G : GH} {st : FS} {w : World} (h : FR XN G st w) {g c k : Nat} (hk : st.ca.length = k + 1) (hcv : G.cv = .slice (some ⟨g, 0, none⟩) (k + 1) c) :
    FR XN (G.pop (.slice (some ⟨g, 0, none⟩) k c)) ⟨st.sl, st.gl, st.ca.dropLast, st.n⟩ (w.setCell ⟨G.F, 1, none⟩ (.slice (some ⟨g, 0, none⟩) k c)) ∧ Turn w (w.setCell ⟨G.F, 1, none⟩ (.slice (some ⟨g, 0, none⟩) k c)) (fun j => j = G.F) := by
  have hT : Turn w (w.setCell ⟨G.F, 1, none⟩ (.slice (some ⟨g, 0, none⟩) k c)) (fun j => j = G.F) := (Turn.refl w (fun j => j = G.F)).setCell _ _ (fun _ => rfl)
  refine ⟨?_, hT⟩
  have hcr := h.cr
  rw [hcv, hk] at hcr
  have hnF : ∀ (j : Nat), Own G j → j ≠ G.F → (w.setCell ⟨G.F, 1, none⟩ (.slice (some ⟨g, 0, none⟩) k c)).heap[j]? = w.heap[j]? := fun j hj hn => heap_setCell_other _ _ _ _ hn
  have hd := h.hd
  have neg : ∀ (j : Nat) (es : Array MapEntry) (ec : Nat), w.heap[j]? = some (.map es ec) → j ≠ G.F := fun j es ec ho e => by subst e; rw [hd] at ho; cases ho
  have nec : ∀ (j : Nat) (cs : Array Value) (e : TypeId), e ≠ 80 → w.heap[j]? = some (.cells cs e (0, 0)) → j ≠ G.F := fun j cs e hne ho e' => by subst e'; rw [hd] at ho; simp at ho; exact hne ho.2.symm
  have hdl : G.cbs.dropLast = G.cbs.take k := by rw [List.dropLast_eq_take, h.cl, hk]; rfl
  refine ⟨?_, ?_, ?_, by simp [GH.pop, h.cl], fun i b f hb hf => ?_, h.sl, fun i b s hb hs => ?_, h.al, h.ml, h.kl, fun i b mb ks hb hm hq => ?_, ?_⟩
  · rw [show (G.pop (.slice (some ⟨g, 0, none⟩) k c)).F = G.F from rfl, heap_setCell_same _ _ _ _ _ _ hd]; rfl
  · obtain ⟨n, hn, hm⟩ := h.gm
    obtain ⟨es, ec, ho⟩ := hm.obj
    exact ⟨n, hn, hm.same (heap_setCell_other _ _ _ _ (neg _ _ _ ho))⟩
  · have := own_take hcr (Nat.le_succ k)
    simp only [GH.pop]
    rw [hdl, List.map_take, List.length_dropLast, hk, Nat.add_sub_cancel]
    refine own_same this (fun j hj => ?_)
    cases hj
    obtain ⟨cc, ho⟩ := own_obj hcr (j := g) rfl
    exact heap_setCell_other _ _ _ _ (nec _ _ _ (by decide) ho)
  · simp only [GH.pop] at hb ⊢
    rw [hdl, List.getElem?_take] at hb
    split at hb
    · rename_i hi
      rw [List.dropLast_eq_take, List.getElem?_take] at hf
      split at hf
      · obtain ⟨n, hm⟩ := h.cm i b f hb hf
        obtain ⟨es, ec, ho⟩ := hm.obj
        exact ⟨n, hm.same (heap_setCell_other _ _ _ _ (neg _ _ _ ho))⟩
      · cases hf
    · cases hb
  · obtain ⟨v, hv, hx⟩ := h.ss i b s hb hs
    exact ⟨v, (heap_setCell_other _ _ _ _ (nec _ _ _ (by decide) hv)).trans hv, hx⟩
  · have ha := h.ars i b mb ks hb hm hq
    obtain ⟨⟨cs, ho⟩, es, ec, ho2⟩ := ha.objs
    exact ha.same (heap_setCell_other _ _ _ _ (nec _ _ _ (by decide) ho)) (heap_setCell_other _ _ _ _ (neg _ _ _ ho2))
  · refine ⟨h.nd.1, h.nd.2.1, ?_⟩
    simp only [GH.pop]
    refine List.Nodup.sublist ?_ h.nd.2.2
    exact ((List.dropLast_sublist _).append_right _).cons_cons _
theorem FrGo.popped {G : GH} {st : FS} {w : World} (h : FR XN G st w) {g c k : Nat} (hk : st.ca.length = k + 1) (hcv : G.cv = .slice (some ⟨g, 0, none⟩) (k + 1) c) :
    FrGo G ⟨st.sl, st.gl, st.ca.dropLast, st.n⟩ w (G.pop (.slice (some ⟨g, 0, none⟩) k c)) (w.setCell ⟨G.F, 1, none⟩ (.slice (some ⟨g, 0, none⟩) k c)) := by
  obtain ⟨h1, h2⟩ := h.popped hk hcv
  refine ⟨h1, h2.mono (fun j x => .inl x), fun j x => .inl ?_, rfl, ⟨[], by simp [GH.pop]⟩, ⟨[], by simp [GH.pop]⟩, ⟨[], by simp [GH.pop]⟩, rfl⟩
  rcases x with x | x | x | x | x
  · exact .inl x
  · exact .inr (.inl x)
  · exact .inr (.inr (.inl (by rw [hcv]; exact x)))
  · exact .inr (.inr (.inr (.inl ((List.dropLast_sublist _).subset x))))
  · exact .inr (.inr (.inr (.inr x)))
theorem FrGo.drawn {G G' : GH} {st : FS} {w w1 : World} (h : FrGo G st w G' w1) : FrGo G st w G' w1.drew :=
  ⟨h.fr.keep (fun _ _ => rfl), h.tu.trans (Turn.of_below (Below.refl _ w1).drew (Own G)) (fun _ x => x) (fun _ _ x => x), h.ow, h.F, h.sb, h.ab, h.ks, h.q⟩
def PopAt (G : GH) (st : FS) (w : World) (e : Ending) (w' : World) : Prop := ∃ G', e = .returned (.int .i64 ((popS st).2 : Int)) ∧ FrGo G (popS st).1 w G' w'
set_option maxRecDepth 20000 in
set_option maxHeartbeats 8000000 in
theorem pop_any (G : GH) (st : FS) (w : World) (h : FR XN G st w) :
    Calls Try.prog 13 #[.pointer (some ⟨G.F, 0, none⟩)] w (PopAt G st w) := by
  obtain ⟨c0, c1, fz⟩ := hd_cells h.hd
  by_cases hca : st.ca = []
  · obtain ⟨A, c, hcv⟩ := own_shape h.cr
    have hp : popS st = (st, 1) := by unfold popS; rw [hca]; rfl
    have HP := Lib.hid hp
    have hcv0 : G.cv = .slice A 0 c := by rw [hcv, hca]; rfl
    rw [hcv0] at c1
    have H := Lib.hid h
    clear h hca hp hcv hcv0
    go_enter Try.func13, Try.ntmps13
    go_wp2_with fail
    go_ret
    exact ⟨G, by rw [HP.out]; rfl, by rw [HP.out]; exact FrGo.refl H.out⟩
  · obtain ⟨g, c, cb, nc, fc, hcv0, hce, hmc, hfc⟩ := h.last hca
    obtain ⟨k, hk⟩ : ∃ k, st.ca.length = k + 1 := ⟨st.ca.length - 1, by have := mt List.eq_nil_of_length_eq_zero hca; omega⟩
    have hmx : k + 1 ≤ c ∧ c ≤ maxLen := by
      obtain ⟨_, c', e, m1, m2, _⟩ := own_form h.cr
      rw [hcv0] at e
      cases e
      exact ⟨by omega, m2⟩
    have hp : popS st = (⟨st.sl, st.gl, st.ca.dropLast, st.n⟩, 0) := by unfold popS; rw [if_neg (by omega)]
    have HP := Lib.hid hp
    rw [hk] at hcv0
    have hg := FrGo.popped h hk hcv0
    have HG := Lib.hid hg
    rw [hcv0] at c1
    unfold maxLen at hmx
    obtain ⟨m1, m2⟩ := hmx
    have f1 := fz 1
    have q0 : (0 : Int) ≤ (k : Int) := by omega
    have q1 : (k : Int) ≤ (c : Int) := by omega
    have q2 : (k : Int) < 9223372036854775807 := by omega
    have hw : IntKind.i64.wrap (((k + 1 : Nat) : Int) - 1) = (k : Int) := by rw [IntWalk.i64_in _ (by omega)]; omega
    have H := Lib.hid h
    clear h hca hp hcv0 hce hmc hfc hk hg m1 m2 fz c0
    generalize hnk : k + 1 = n at c1 hw
    have HN := Lib.hid hnk
    clear hnk
    have q3 : (0 : Int) ≤ (n : Int) := by omega
    have HWW := Lib.hid hw
    have HQ := Lib.hid (And.intro q1 (And.intro q2 (And.intro q3 q0)))
    clear hw q1 q2 q3 q0
    have b0 : ((n : Int) == 0) = false := by rw [beq_eq_false_iff_ne]; have := HN.out; omega
    go_enter Try.func13, Try.ntmps13
    go_wp2_with fail
    obtain ⟨q1, q2, q3, q0⟩ := HQ.out
    have hw := HWW.out
    go_still_tail 14, (by kernel_rfl)
    change wpList _ _ _ _ _ w.drew
    clear hw q1 q2 q3 q0
    go_wp2_with fail
    go_ret
    refine ⟨G.pop (.slice (some ⟨g, 0, none⟩) k c), by rw [HP.out]; rfl, ?_⟩
    rw [HP.out]
    exact HG.out.drawn

/-! ### no variables at all -/
set_option maxHeartbeats 4000000 in
theorem kind_nil (nm : ByteArray) (w : World) : Calls Try.prog 10 #[.pointer none, .string nm] w fun e w' => e = .returned (.int .i64 0) ∧ w = w' := by
  go_enter Try.func10, Try.ntmps10
  go_wp2_with fail
  go_ret
  exact ⟨rfl, rfl⟩
set_option maxHeartbeats 4000000 in
theorem depth_nil (w : World) : Calls Try.prog 15 #[.pointer none] w fun e w' => e = .returned (.int .i64 0) ∧ w = w' := by
  go_enter Try.func15, Try.ntmps15
  go_wp2_with fail
  go_ret
  exact ⟨rfl, rfl⟩
set_option maxHeartbeats 4000000 in
theorem pop_nil (w : World) : Calls Try.prog 13 #[.pointer none] w fun e w' => e = .returned (.int .i64 2) ∧ w = w' := by
  go_enter Try.func13, Try.ntmps13
  go_wp2_with fail
  go_ret
  exact ⟨rfl, rfl⟩
set_option maxHeartbeats 4000000 in
theorem array_nil (nm : ByteArray) (w : World) : Calls Try.prog 14 #[.pointer none, .string nm] w fun e w' => e = .returned (.tuple #[.pointer none, .int .i64 2]) ∧ w = w' := by
  go_enter Try.func14, Try.ntmps14
  go_wp2_with fail
  go_ret2
  exact ⟨rfl, rfl⟩
set_option maxHeartbeats 4000000 in
theorem set_nil (nm : ByteArray) (x : Int) (y : Nat) (z : ByteArray) (w : World) : Calls Try.prog 11 #[.pointer none, .string nm, .agg #[.int .i64 x, .float .f64 y, .string z]] w fun e w' => e = .returned (.int .i64 2) ∧ Below w.heap.size w w' := by
  go_enter Try.func11, Try.ntmps11
  go_wp2_with fail
  go_ret
  exact ⟨rfl, (Below.refl _ w).alloc (Nat.le_refl _) _⟩
set_option maxHeartbeats 4000000 in
theorem get_nil (nm : ByteArray) (w : World) : Calls Try.prog 18 #[.pointer none, .string nm] w fun e w' => e = .returned (.tuple #[cellV noCell, .int .i64 2]) ∧ Below w.heap.size w w' := by
  go_enter Try.func18, Try.ntmps18
  go_wp2_with fail
  refine bodyPost_ret (results_cell_row2 rfl _ _ w.heap.size 32 #[.int .i64 0, .float .f64 0, .string ⟨#[]⟩] (0, 0) _ rfl (heap_alloc_new _ _) Try.underlying32 rfl (by kernel_rfl) rfl) rfl ?_
  exact ⟨rfl, (Below.refl _ w).alloc (Nat.le_refl _) _⟩
set_option maxHeartbeats 4000000 in
theorem push_nil (A B : Option Addr) (n c m d : Nat) (w : World) : Calls Try.prog 9 #[.pointer none, .slice A n c, .slice B m d] w fun e w' => e = .returned (.int .i64 2) ∧ w = w' := by
  go_enter Try.func9, Try.ntmps9
  go_wp2_with fail
  go_ret
  exact ⟨rfl, rfl⟩
end Go.Proofs.Ytbpaiocbgbpiaaa
