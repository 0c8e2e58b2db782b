/- The variables of the program in memory. -/
import Derived.Test.YtbpaiocbgbpiaaaTurn
import Derived.Test.YtbpaiocbgbpiaaaFrP
namespace Go.Proofs.Ytbpaiocbgbpiaaa
open Go.RowKit
set_option linter.unusedVariables false

theorem slot_info : (Try.prog.info? 83).map (fun i => (i.zero, i.size, i.bytes)) = some (some (.agg #[.pointer none, .int .i64 0, .float .f64 0, .string ByteArray.empty, .bool false, .pointer none]), 6, 56) := by kernel_rfl
theorem mp_info : (Try.prog.info? 77).map (fun i => (i.zero, i.size, i.bytes)) = some (some (.map none), 1, 8) := by kernel_rfl

/-- A variable's block, by its number. -/
def slP (sb : List Nat) (i : Nat) : Value := .pointer (some ⟨sb.getD i 0, 0, none⟩)
/-- An array's block, by its number; 0: none. -/
def arP (ab : List Nat) : Nat → Value
  | 0 => .pointer none
  | k + 1 => .pointer (some ⟨ab.getD k 0, 0, none⟩)
def frP (sb : List Nat) : Option Nat → Value
  | none => .pointer none
  | some j => slP sb j
/-- A variable's cells; its array is v. -/
def slC (sb : List Nat) (v : Value) (s : SM) : Array Value := #[v, .int .i64 s.val.1, .float .f64 s.val.2.1, .string s.val.2.2, .bool s.given, frP sb s.frm]
def mpF (sb : List Nat) (f : ByteArray → Option Nat) (s : ByteArray) : Option Value := (f s).map (slP sb)

/-- Where the program's variables lie: the head, the map of all, the row of the calls' maps, the calls' maps, the variables, the arrays, the arrays' maps. -/
structure GH where
  F : Nat
  bg : Nat
  cv : Value
  cbs : List Nat
  sb : List Nat
  ab : List Nat
  mbs : List Nat
  ks : List (ByteArray → Bool)
  q : Nat
def Own (G : GH) (j : Nat) : Prop := j = G.F ∨ j = G.bg ∨ G.cv.ownBlock = some j ∨ j ∈ G.cbs ∨ j ∈ G.sb ∨ j ∈ G.ab ∨ j ∈ G.mbs
/-- An element of an array that is a value. -/
def elV (p : Int) (c : CellT) : Value := .agg #[.int .i64 p, .int .i64 c.1, .float .f64 c.2.1, .string c.2.2, .pointer none]
/-- An array lies there: a map of values, with these keys. -/
structure ArrIs (w : World) (b mb q : Nat) (ks : ByteArray → Bool) : Prop where
  ex : ∃ (n k : Nat) (f : ByteArray → Option Value), w.heap[b]? = some (.cells #[.map (some mb), .int .i64 (k : Int)] 101 (0, 0)) ∧ MapF Try.prog 9 w mb n f ∧ n ≤ q ∧ k ≤ q ∧ (∀ s, (f s).isSome = ks s) ∧ ∀ s v, f s = some v → ∃ (p : Int) (c : CellT), v = elV p c
/-- The program's variables, as they lie; those of X may bear any array. -/
structure FR (X : Nat → Prop) (G : GH) (st : FS) (w : World) : Prop where
  hd : w.heap[G.F]? = some (.cells #[.map (some G.bg), G.cv] 80 (0, 0))
  gm : ∃ n, n ≤ st.sl.length ∧ MapF Try.prog 9 w G.bg n (mpF G.sb st.gl)
  cr : w.ownsRow 0 77 1 G.cv st.ca.length (G.cbs.map (fun b => .map (some b)))
  cl : G.cbs.length = st.ca.length
  cm : ∀ (k b : Nat) (f : ByteArray → Option Nat), G.cbs[k]? = some b → st.ca[k]? = some f → ∃ n, MapF Try.prog 9 w b n (mpF G.sb f)
  sl : G.sb.length = st.sl.length
  ss : ∀ (i b : Nat) (s : SM), G.sb[i]? = some b → st.sl[i]? = some s → ∃ v, w.heap[b]? = some (.cells (slC G.sb v s) 83 (0, 0)) ∧ (¬ X i → ∃ p, v = arP G.ab p ∧ (p = 0 ∨ p = resA st.sl i) ∧ (s.arr ≠ 0 → p = s.arr))
  al : G.ab.length = st.n
  ml : G.mbs.length = st.n
  kl : G.ks.length = st.n
  ars : ∀ (k b mb : Nat) (ks : ByteArray → Bool), G.ab[k]? = some b → G.mbs[k]? = some mb → G.ks[k]? = some ks → ArrIs w b mb G.q ks
  nd : G.sb.Nodup ∧ G.ab.Nodup ∧ (G.bg :: (G.cbs ++ G.mbs)).Nodup

theorem ArrIs.same {w w' : World} {b mb q : Nat} {ks : ByteArray → Bool} (h : ArrIs w b mb q ks) (h1 : w'.heap[b]? = w.heap[b]?) (h2 : w'.heap[mb]? = w.heap[mb]?) : ArrIs w' b mb q ks := by
  obtain ⟨n, k, f, e1, e2, e3⟩ := h.ex
  exact ⟨n, k, f, h1.trans e1, e2.same h2, e3⟩
theorem ArrIs.objs {w : World} {b mb q : Nat} {ks : ByteArray → Bool} (h : ArrIs w b mb q ks) : (∃ cs, w.heap[b]? = some (.cells cs 101 (0, 0))) ∧ ∃ es c, w.heap[mb]? = some (.map es c) := by
  obtain ⟨n, k, f, e1, e2, e3⟩ := h.ex
  exact ⟨⟨_, e1⟩, e2.obj⟩
section
variable {X : Nat → Prop} {G : GH} {st : FS} {w w' : World}
theorem FR.arAt (h : FR X G st w) {k : Nat} (hk : k < st.n) : ArrIs w (G.ab[k]'(by rw [h.al]; exact hk)) (G.mbs[k]'(by rw [h.ml]; exact hk)) G.q (G.ks[k]'(by rw [h.kl]; exact hk)) :=
  h.ars k _ _ _ (List.getElem?_eq_getElem _) (List.getElem?_eq_getElem _) (List.getElem?_eq_getElem _)
theorem FR.lt (h : FR X G st w) {j : Nat} (hj : Own G j) : j < w.heap.size := by
  have key : ∀ (o : Obj), w.heap[j]? = some o → j < w.heap.size := fun o ho => (Array.getElem?_eq_some_iff.1 ho).1
  rcases hj with rfl | rfl | hj | hj | hj | hj | hj
  · exact key _ h.hd
  · obtain ⟨n, _, hm⟩ := h.gm; exact hm.lt
  · exact (h.cr.lt j hj).2
  · obtain ⟨k, hk, rfl⟩ := List.getElem_of_mem hj
    obtain ⟨n, hm⟩ := h.cm k _ (st.ca[k]'(by rw [← h.cl]; exact hk)) (List.getElem?_eq_getElem hk) (List.getElem?_eq_getElem _)
    exact hm.lt
  · obtain ⟨k, hk, rfl⟩ := List.getElem_of_mem hj
    obtain ⟨v, hv, _⟩ := h.ss k _ (st.sl[k]'(by rw [← h.sl]; exact hk)) (List.getElem?_eq_getElem hk) (List.getElem?_eq_getElem _)
    exact key _ hv
  · obtain ⟨k, hk, rfl⟩ := List.getElem_of_mem hj
    obtain ⟨⟨cs, hv⟩, _⟩ := (h.arAt (k := k) (by rw [← h.al]; exact hk)).objs
    exact key _ hv
  · obtain ⟨k, hk, rfl⟩ := List.getElem_of_mem hj
    obtain ⟨_, es, c, hv⟩ := (h.arAt (k := k) (by rw [← h.ml]; exact hk)).objs
    exact key _ hv
/-- It stands as long as its blocks do. -/
theorem FR.keep (h : FR X G st w) (hk : ∀ j, Own G j → w'.heap[j]? = w.heap[j]?) : FR X G st w' := by
  refine ⟨(hk _ (.inl rfl)).trans h.hd, ?_, own_same h.cr (fun j hj => hk j (.inr (.inr (.inl hj)))), h.cl, fun k b f hb hf => ?_, h.sl, fun i b s hb hs => ?_, h.al, h.ml, h.kl, fun k b mb ks hb hm hq => ?_, h.nd⟩
  · obtain ⟨n, hn, hm⟩ := h.gm
    exact ⟨n, hn, hm.same (hk _ (.inr (.inl rfl)))⟩
  · obtain ⟨n, hm⟩ := h.cm k b f hb hf
    exact ⟨n, hm.same (hk _ (.inr (.inr (.inr (.inl (List.mem_of_getElem? hb))))))⟩
  · obtain ⟨v, hv, hx⟩ := h.ss i b s hb hs
    exact ⟨v, (hk _ (.inr (.inr (.inr (.inr (.inl (List.mem_of_getElem? hb))))))).trans hv, hx⟩
  · exact (h.ars k b mb ks hb hm hq).same (hk _ (.inr (.inr (.inr (.inr (.inr (.inl (List.mem_of_getElem? hb)))))))) (hk _ (.inr (.inr (.inr (.inr (.inr (.inr (List.mem_of_getElem? hm))))))))
theorem FR.below (h : FR X G st w) (hb : Below w.heap.size w w') : FR X G st w' := h.keep fun j hj => hb.block j (h.lt hj)
theorem FR.turn {Y : Nat → Prop} (h : FR X G st w) (ht : Turn w w' Y) (hy : ∀ j, Own G j → ¬ Y j) : FR X G st w' := h.keep fun j hj => ht.block j (h.lt hj) (hy j hj)
theorem FR.mono {Y : Nat → Prop} (h : FR X G st w) (hy : ∀ i, X i → Y i) : FR Y G st w := by
  refine ⟨h.hd, h.gm, h.cr, h.cl, h.cm, h.sl, fun i b s hb hs => ?_, h.al, h.ml, h.kl, h.ars, h.nd⟩
  obtain ⟨v, hv, hx⟩ := h.ss i b s hb hs
  exact ⟨v, hv, fun hn => hx (fun e => hn (hy i e))⟩
/-- A variable, as it lies. -/
theorem FR.slot (h : FR X G st w) {i : Nat} {s : SM} (hs : st.sl[i]? = some s) : ∃ b v, G.sb[i]? = some b ∧ G.sb.getD i 0 = b ∧ w.heap[b]? = some (.cells (slC G.sb v s) 83 (0, 0)) ∧ (¬ X i → ∃ p, v = arP G.ab p ∧ (p = 0 ∨ p = resA st.sl i) ∧ (s.arr ≠ 0 → p = s.arr)) := by
  have hi : i < G.sb.length := by rw [h.sl]; exact (List.getElem?_eq_some_iff.1 hs).1
  have hb : G.sb[i]? = some G.sb[i] := List.getElem?_eq_getElem hi
  obtain ⟨v, hv, hx⟩ := h.ss i _ s hb hs
  exact ⟨_, v, hb, by rw [List.getD_eq_getElem?_getD, hb]; rfl, hv, hx⟩
theorem sl_cells {b : Nat} {sb : List Nat} {v : Value} {s : SM} (hv : w.heap[b]? = some (.cells (slC sb v s) 83 (0, 0))) :
    w.cell? ⟨b, 0, none⟩ = some v ∧ w.cell? ⟨b, 1, none⟩ = some (.int .i64 s.val.1) ∧ w.cell? ⟨b, 2, none⟩ = some (.float .f64 s.val.2.1) ∧ w.cell? ⟨b, 3, none⟩ = some (.string s.val.2.2) ∧ w.cell? ⟨b, 4, none⟩ = some (.bool s.given) ∧ w.cell? ⟨b, 5, none⟩ = some (frP sb s.frm) ∧ ∀ j, w.frozen? ⟨b, j, none⟩ = false := by
  refine ⟨?_, ?_, ?_, ?_, ?_, ?_, fun j => frozen_of_row w b j _ _ hv⟩ <;> simp [World.cell?, hv, slC]
theorem hd_cells {F : Nat} {x y : Value} (hv : w.heap[F]? = some (.cells #[x, y] 80 (0, 0))) : w.cell? ⟨F, 0, none⟩ = some x ∧ w.cell? ⟨F, 1, none⟩ = some y ∧ ∀ j, w.frozen? ⟨F, j, none⟩ = false := by
  refine ⟨?_, ?_, fun j => frozen_of_row w F j _ _ hv⟩ <;> simp [World.cell?, hv]
/-- No two of the blocks of other kinds are one. -/
theorem FR.slot_ne (h : FR X G st w) {i b : Nat} (hb : G.sb[i]? = some b) : b ≠ G.F ∧ b ≠ G.bg ∧ G.cv.ownBlock ≠ some b ∧ b ∉ G.cbs ∧ b ∉ G.ab ∧ b ∉ G.mbs := by
  have hi : i < st.sl.length := by rw [← h.sl]; exact (List.getElem?_eq_some_iff.1 hb).1
  obtain ⟨v, hv, _⟩ := h.ss i b st.sl[i] hb (List.getElem?_eq_getElem hi)
  refine ⟨?_, ?_, ?_, ?_, ?_, ?_⟩
  · rintro rfl
    rw [h.hd] at hv
    simp at hv
  · rintro rfl
    obtain ⟨n, _, hm⟩ := h.gm
    obtain ⟨es, c, ho⟩ := hm.obj
    rw [ho] at hv; cases hv
  · intro e
    obtain ⟨c, ho⟩ := own_obj h.cr e
    rw [ho] at hv; simp at hv
  · intro hj
    obtain ⟨k, hk, rfl⟩ := List.getElem_of_mem hj
    obtain ⟨n, hm⟩ := h.cm k _ (st.ca[k]'(by rw [← h.cl]; exact hk)) (List.getElem?_eq_getElem hk) (List.getElem?_eq_getElem _)
    obtain ⟨es, c, ho⟩ := hm.obj
    rw [ho] at hv; cases hv
  · intro hj
    obtain ⟨k, hk, rfl⟩ := List.getElem_of_mem hj
    obtain ⟨⟨cs, ho⟩, _⟩ := (h.arAt (k := k) (by rw [← h.al]; exact hk)).objs
    rw [ho] at hv; simp at hv
  · intro hj
    obtain ⟨k, hk, rfl⟩ := List.getElem_of_mem hj
    obtain ⟨_, es, c, ho⟩ := (h.arAt (k := k) (by rw [← h.ml]; exact hk)).objs
    rw [ho] at hv; cases hv
/-- One variable turns. -/
theorem FR.put {Y : Nat → Prop} (h : FR X G st w) {i b : Nat} {s' : SM} {v' : Value} (hb : G.sb[i]? = some b) (l' : List SM) (hl : l'.length = st.sl.length)
    (hsl : ∀ k, l'[k]? = if k = i then (if k < st.sl.length then some s' else none) else st.sl[k]?)
    (hres : ∀ k, resA st.sl k ≠ 0 → resA l' k = resA st.sl k)
    (hv : w'.heap[b]? = some (.cells (slC G.sb v' s') 83 (0, 0))) (ht : Turn w w' (fun j => j = b))
    (hY : ∀ k, ¬ Y k → k ≠ i → ¬ X k) (hp : ¬ Y i → ∃ p, v' = arP G.ab p ∧ (p = 0 ∨ p = resA l' i) ∧ (s'.arr ≠ 0 → p = s'.arr)) : FR Y G ⟨l', st.gl, st.ca, st.n⟩ w' := by
  obtain ⟨n1, n2, n3, n4, n5, n6⟩ := h.slot_ne hb
  have hk : ∀ j, Own G j → j ≠ b → w'.heap[j]? = w.heap[j]? := fun j hj hn => ht.block j (h.lt hj) hn
  refine ⟨(hk _ (.inl rfl) n1.symm).trans h.hd, ?_, own_same h.cr (fun j hj => hk j (.inr (.inr (.inl hj))) (fun e => n3 (e ▸ hj))), h.cl, fun k c f hc hf => ?_, h.sl.trans hl.symm, fun k c s hc hs => ?_, h.al, h.ml, h.kl, fun k c mb ks hc hm hq => ?_, h.nd⟩
  · obtain ⟨n, hn, hm⟩ := h.gm
    exact ⟨n, by rw [hl]; exact hn, hm.same (hk _ (.inr (.inl rfl)) n2.symm)⟩
  · obtain ⟨n, hm⟩ := h.cm k c f hc hf
    exact ⟨n, hm.same (hk _ (.inr (.inr (.inr (.inl (List.mem_of_getElem? hc))))) (fun e => n4 (e ▸ List.mem_of_getElem? hc)))⟩
  · by_cases e : k = i
    · subst e
      rw [hb] at hc; cases hc
      rw [hsl, if_pos rfl] at hs
      split at hs
      · cases hs
        exact ⟨v', hv, hp⟩
      · cases hs
    · rw [hsl, if_neg e] at hs
      obtain ⟨v, hv, hx⟩ := h.ss k c s hc hs
      have hne : c ≠ b := fun x => by
        subst x
        exact e ((List.getElem_inj (xs := G.sb) (h₀ := (List.getElem?_eq_some_iff.1 hc).1) (h₁ := (List.getElem?_eq_some_iff.1 hb).1) h.nd.1).1 ((List.getElem?_eq_some_iff.1 hc).2.trans (List.getElem?_eq_some_iff.1 hb).2.symm))
      refine ⟨v, (hk _ (.inr (.inr (.inr (.inr (.inl (List.mem_of_getElem? hc)))))) hne).trans hv, fun hy => ?_⟩
      obtain ⟨p, e1, e2, e3⟩ := hx (hY k hy e)
      refine ⟨p, e1, ?_, e3⟩
      rcases e2 with e2 | e2
      · exact .inl e2
      · rcases Nat.eq_zero_or_pos p with e4 | e4
        · exact .inl e4
        · exact .inr (by dsimp only; rw [hres k (by omega)]; exact e2)
  · exact (h.ars k c mb ks hc hm hq).same (hk _ (.inr (.inr (.inr (.inr (.inr (.inl (List.mem_of_getElem? hc))))))) (fun e => n5 (e ▸ List.mem_of_getElem? hc))) (hk _ (.inr (.inr (.inr (.inr (.inr (.inr (List.mem_of_getElem? hm))))))) (fun e => n6 (e ▸ List.mem_of_getElem? hm)))
end
end Go.Proofs.Ytbpaiocbgbpiaaa
