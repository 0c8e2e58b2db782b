/- A variable is found: walked. -/
import Derived.Test.YtbpaiocbgbpiaaaFrW3
namespace Go.Proofs.Ytbpaiocbgbpiaaa
open Go.RowKit
set_option linter.unusedVariables false

/-- What a method leaves: the variables as they are meant; only their own blocks, and new ones, are other than before. -/
structure FrGo (G : GH) (st' : FS) (w : World) (G' : GH) (w' : World) : Prop where
  fr : FR XN G' st' w'
  tu : Turn w w' (Own G)
  ow : ∀ j, Own G' j → Own G j ∨ w.heap.size ≤ j
  F : G'.F = G.F
  sb : ∃ x, G'.sb = G.sb ++ x
  ab : ∃ x, G'.ab = G.ab ++ x
  ks : ∃ x, G'.ks = G.ks ++ x
  q : G'.q = G.q
theorem FrGo.refl {G : GH} {st : FS} {w : World} (h : FR XN G st w) : FrGo G st w G w := ⟨h, Turn.refl _ _, fun _ x => .inl x, rfl, ⟨[], by simp⟩, ⟨[], by simp⟩, ⟨[], by simp⟩, rfl⟩
theorem FrGo.trans {G G1 G2 : GH} {st1 st2 : FS} {w w1 w2 : World} (h : FrGo G st1 w G1 w1) (k : FrGo G1 st2 w1 G2 w2) : FrGo G st2 w G2 w2 := by
  obtain ⟨x1, e1⟩ := h.sb
  obtain ⟨x2, e2⟩ := k.sb
  obtain ⟨y1, f1⟩ := h.ab
  obtain ⟨y2, f2⟩ := k.ab
  obtain ⟨z1, g1⟩ := h.ks
  obtain ⟨z2, g2⟩ := k.ks
  refine ⟨k.fr, h.tu.trans k.tu (fun _ x => x) (fun j hj x => ?_), fun j x => ?_, k.F.trans h.F, ⟨x1 ++ x2, by rw [e2, e1, List.append_assoc]⟩, ⟨y1 ++ y2, by rw [f2, f1, List.append_assoc]⟩, ⟨z1 ++ z2, by rw [g2, g1, List.append_assoc]⟩, k.q.trans h.q⟩
  · rcases h.ow j x with a | a
    · exact a
    · omega
  · rcases k.ow j x with a | a
    · exact h.ow j a
    · exact .inr (Nat.le_trans h.tu.size a)
theorem FrGo.seen {G : GH} {st : FS} {i : Nat} {w w' : World} (h : Seen G st i w w') : FrGo G st w G w' :=
  ⟨h.fr, h.tu.mono (fun j x => .inr (.inr (.inr (.inr (.inl x))))), fun _ x => .inl x, rfl, ⟨[], by simp⟩, ⟨[], by simp⟩, ⟨[], by simp⟩, rfl⟩
theorem FrGo.became {G : GH} {st : FS} {i b mb : Nat} {w w' : World} (h : Became XN G st i b mb w w') : FrGo G (becS st i) w (G.arr b mb) w' := by
  refine ⟨h.fr, h.tu.mono (fun j x => .inr (.inr (.inr (.inr (.inl x))))), fun j x => ?_, rfl, ⟨[], by simp [GH.arr]⟩, ⟨[b], by simp [GH.arr]⟩, ⟨_, rfl⟩, rfl⟩
  rcases x with x | x | x | x | x | x | x
  · exact .inl (.inl x)
  · exact .inl (.inr (.inl x))
  · exact .inl (.inr (.inr (.inl x)))
  · exact .inl (.inr (.inr (.inr (.inl x))))
  · exact .inl (.inr (.inr (.inr (.inr (.inl x)))))
  · simp only [GH.arr, List.mem_append, List.mem_singleton] at x
    rcases x with x | x
    · exact .inl (.inr (.inr (.inr (.inr (.inr (.inl x))))))
    · subst x; exact .inr h.hb
  · simp only [GH.arr, List.mem_append, List.mem_singleton] at x
    rcases x with x | x
    · exact .inl (.inr (.inr (.inr (.inr (.inr (.inr x))))))
    · subst x; exact .inr h.hm

def GH.slot (G : GH) (b : Nat) : GH := { G with sb := G.sb ++ [b] }
theorem slP_app {sb : List Nat} {b i : Nat} (h : i < sb.length) : slP (sb ++ [b]) i = slP sb i := by
  unfold slP
  rw [List.getD_eq_getElem?_getD, List.getElem?_append_left h, ← List.getD_eq_getElem?_getD]
theorem slP_last (sb : List Nat) (b : Nat) : slP (sb ++ [b]) sb.length = .pointer (some ⟨b, 0, none⟩) := by
  unfold slP
  rw [List.getD_eq_getElem?_getD, List.getElem?_append_right (Nat.le_refl _)]
  simp
theorem mpF_app {sb : List Nat} {b : Nat} {f : ByteArray → Option Nat} (h : ∀ s i, f s = some i → i < sb.length) : mpF (sb ++ [b]) f = mpF sb f := by
  funext s
  unfold mpF
  cases hs : f s with
  | none => rfl
  | some i => simp only [Option.map_some]; rw [slP_app (h s i hs)]
/-- One variable more. -/
theorem FR.addSlot {X : Nat → Prop} {G : GH} {st : FS} {w w2 : World} (h : FR X G st w) (hok : OkF st) (hb : Below w.heap.size w w2) {b p : Nat} (h1 : w.heap.size ≤ b) (s : SM) (hg : s.given = true → s.arr = 0) (hf : ∀ j, s.frm = some j → j < st.sl.length)
    (hv : w2.heap[b]? = some (.cells (slC G.sb (arP G.ab p) s) 83 (0, 0))) (hp : p = 0 ∨ p = s.arr) (hp2 : s.arr ≠ 0 → p = s.arr) : FR X (G.slot b) (addS st s) w2 := by
  have k := h.below hb
  have hok' := hok.ok.app s hg hf
  have frP_app : ∀ (o : Option Nat), (∀ j, o = some j → j < st.sl.length) → frP (G.sb ++ [b]) o = frP G.sb o := by
    intro o ho
    cases o with
    | none => rfl
    | some j => exact slP_app (by rw [h.sl]; exact ho j rfl)
  have slC_app : ∀ (v : Value) (t : SM), (∀ j, t.frm = some j → j < st.sl.length) → slC (G.sb ++ [b]) v t = slC G.sb v t := by
    intro v t ht
    unfold slC
    rw [frP_app _ ht]
  refine ⟨k.hd, ?_, k.cr, k.cl, fun i c f hc hf' => ?_, by simp [GH.slot, addS, h.sl], fun i c t hc ht => ?_, k.al, k.ml, k.kl, k.ars, ?_, k.nd.2⟩
  · obtain ⟨n, hn, hm⟩ := k.gm
    refine ⟨n, by simp [addS]; omega, ?_⟩
    simp only [GH.slot, addS]
    rw [mpF_app (fun s i hi => by rw [h.sl]; exact hok.g s i hi)]
    exact hm
  · obtain ⟨n, hm⟩ := k.cm i c f hc hf'
    refine ⟨n, ?_⟩
    simp only [GH.slot]
    rw [mpF_app (fun s i hi => by rw [h.sl]; exact hok.c f (List.mem_of_getElem? hf') s i hi)]
    exact hm
  · simp only [GH.slot, addS] at hc ht ⊢
    rcases get_snoc ht with e | ⟨e, e'⟩
    · have hi := (List.getElem?_eq_some_iff.1 e).1
      rw [List.getElem?_append_left (by rw [h.sl]; exact hi)] at hc
      obtain ⟨v, hv', hx⟩ := k.ss i c t hc e
      refine ⟨v, ?_, fun hy => ?_⟩
      · rw [slC_app v t (fun j hj => by have := (hok.ok i t e).2 j hj; omega)]; exact hv'
      · obtain ⟨p', e1, e2, e3⟩ := hx hy
        exact ⟨p', e1, by rw [resA_app hok.ok s hg hf i hi]; exact e2, e3⟩
    · subst e e'
      rw [← h.sl] at hc
      simp at hc
      subst hc
      refine ⟨arP G.ab p, by rw [slC_app _ _ hf]; exact hv, fun _ => ⟨p, rfl, ?_, hp2⟩⟩
      rcases hp with e | e
      · exact .inl e
      · rcases Nat.eq_zero_or_pos t.arr with e2 | e2
        · exact .inl (e.trans e2)
        · exact .inr (by rw [resA_arr hok' (i := st.sl.length) (s := t) (by simp) (by omega)]; exact e)
  · simp only [GH.slot]
    rw [List.nodup_append]
    refine ⟨k.nd.1, by simp, fun x hx y hy => ?_⟩
    simp at hy
    subst hy
    rintro rfl
    have := h.lt (.inr (.inr (.inr (.inr (.inl hx)))))
    omega
/-- The map of all turns. -/
theorem FR.putGl {X : Nat → Prop} {G : GH} {st : FS} {w w2 : World} (h : FR X G st w) {n : Nat} (hn : n ≤ st.sl.length) (f : ByteArray → Option Nat) (hm : MapF Try.prog 9 w2 G.bg n (mpF G.sb f)) (hg : w.grownBy w2 (some G.bg)) : FR X G ⟨st.sl, f, st.ca, st.n⟩ w2 := by
  obtain ⟨n0, hn0, hm0⟩ := h.gm
  obtain ⟨es, ec, ho⟩ := hm0.obj
  have hne : ∀ (j : Nat) (cs : Array Value) (e : TypeId), w.heap[j]? = some (.cells cs e (0, 0)) → w2.heap[j]? = w.heap[j]? := fun j cs e hj => by
    refine hg.block j (Array.getElem?_eq_some_iff.1 hj).1 (fun x => ?_)
    cases x
    rw [ho] at hj; cases hj
  have hmap : ∀ j, j ∈ G.cbs ++ G.mbs → j < w.heap.size → w2.heap[j]? = w.heap[j]? := fun j hj hl => by
    refine hg.block j hl (fun x => ?_)
    cases x
    exact (List.nodup_cons.1 h.nd.2.2).1 hj
  refine ⟨(hne _ _ _ h.hd).trans h.hd, ⟨n, hn, hm⟩, own_same h.cr (fun j hj => by obtain ⟨c, hc⟩ := own_obj h.cr hj; exact hne _ _ _ hc), h.cl, fun k b f' hb hf' => ?_, h.sl, fun i b s hb hs => ?_, h.al, h.ml, h.kl, fun k b mb ks hb hmb hk => ?_, h.nd⟩
  · obtain ⟨n', hm'⟩ := h.cm k b f' hb hf'
    exact ⟨n', hm'.same (hmap b (by simp [List.mem_of_getElem? hb]) hm'.lt)⟩
  · obtain ⟨v, hv, hx⟩ := h.ss i b s hb hs
    exact ⟨v, (hne _ _ _ hv).trans hv, hx⟩
  · have ha := h.ars k b mb ks hb hmb hk
    obtain ⟨⟨cs, hc⟩, es', c', hm'⟩ := ha.objs
    exact ha.same (hne _ _ _ hc) (hmap mb (by simp [List.mem_of_getElem? hmb]) (Array.getElem?_eq_some_iff.1 hm').1)
theorem mpF_put (sb : List Nat) (f : ByteArray → Option Nat) (s : ByteArray) (i : Nat) : upd (mpF sb f) s (slP sb i) = mpF sb (putN f s i) := by
  funext t
  unfold upd mpF putN
  split <;> rfl

theorem zero_sl (w : World) : (zeroValue 81).run Try.prog w = .ok (.pointer none) w := by kernel_rfl
/-- The last call's map. -/
theorem FR.last {X : Nat → Prop} {G : GH} {st : FS} {w : World} (h : FR X G st w) (hc : st.ca ≠ []) : ∃ (g c cb n : Nat) (f : ByteArray → Option Nat), G.cv = .slice (some ⟨g, 0, none⟩) st.ca.length c ∧ w.cell? ⟨g, st.ca.length - 1, none⟩ = some (.map (some cb)) ∧ MapF Try.prog 9 w cb n (mpF G.sb f) ∧ ∀ s, callAt st s = f s := by
  have hl : st.ca.length ≠ 0 := fun e => hc (List.eq_nil_of_length_eq_zero e)
  obtain ⟨A, c, hcv⟩ := own_shape h.cr
  have hcr := h.cr
  rw [hcv] at hcr
  have hk : st.ca.length - 1 < G.cbs.length := by rw [h.cl]; omega
  obtain ⟨g, rfl, _, _, hce, _⟩ := own_at hcr (j := st.ca.length - 1) (u := .map (some G.cbs[st.ca.length - 1])) (by rw [List.getElem?_map, List.getElem?_eq_getElem hk]; rfl)
  have hf : st.ca[st.ca.length - 1]? = some (st.ca[st.ca.length - 1]'(by omega)) := List.getElem?_eq_getElem _
  obtain ⟨n, hm⟩ := h.cm _ _ _ (List.getElem?_eq_getElem hk) hf
  refine ⟨g, c, _, n, _, hcv, hce, hm, fun s => ?_⟩
  unfold callAt
  rw [List.getLast?_eq_getElem?, hf]
  rfl
end Go.Proofs.Ytbpaiocbgbpiaaa
