/- Regions that draw and make memory: what is at hand behind each operation. 'append' to an empty literal. -/
import Derived.Test.YticinbkgmfoeoaaRfW5
import Derived.Test.YticinbkgmfoeoaaInv
import Derived.Deep.Upon
namespace Go.Proofs.Yticinbkgmfoeoaa
open Go.RowKit
set_option linter.unusedVariables false

/-- 'append' to an empty literal: nothing that was there is written. -/
theorem run_append_lit {P : Program} {w : World} {lo : Nat} {e : TypeId} {size g : Nat} (t ty : TypeId) {z : Value} {bytes : Nat} (ht : P.underlying t = some (.slice e)) (hinfo : (P.info? e).map (fun i => (i.zero, i.size, i.bytes)) = some (some z, size, bytes)) (hzs : z.cells.size = size) (hsz : 0 < size)
    (hg : lo ≤ g) (hgc : ∃ c, w.heap[g]? = some (.cells c e (0, 0))) (hlo : lo ≤ w.heap.size) {x : Value} {m : Nat} {news : List Value} (hx : RowA w size x m news) (hu : ∀ u ∈ news, u.oneCell' = true) (h63 : m ≤ maxLen) (hbytes : m * bytes ≤ 140737488355328) :
    ∃ A c w', (Builtin.append_ #[t, t] ty #[.slice (some ⟨g, 0, none⟩) 0 0, x]).run P w = .ok (.slice A m c) w' ∧ OwnZ w' lo e size (.slice A m c) m news ∧ Below w.heap.size w w' := by
  obtain ⟨i0, hi, hz0, hz1, hz2⟩ := info_parts hinfo
  obtain ⟨hl, A, c, rfl, hA, hnc, hcells⟩ := hx
  obtain ⟨cg, hcg⟩ := hgc
  by_cases hm : m = 0
  · subst hm
    have hle : news = [] := List.eq_nil_of_length_eq_zero (by omega)
    subst hle
    refine ⟨some ⟨g, 0, none⟩, 0, w, ?_, .inr ⟨rfl, rfl, g, cg, rfl, hg, hcg⟩, Below.refl _ _⟩
    cases A with
    | none => exact run_append_nothing w t t ty e i0 ht hi _ 0 0 (Nat.le_refl _) _ (Src.ofNil w ht c)
    | some a => exact run_append_nothing w t t ty e i0 ht hi _ 0 0 (Nat.le_refl _) _ (Src.ofSlice w ht a 0 c [] (by simp) (fun j u hj => by simp at hj) (fun u hu => by cases hu))
  · cases A with
    | none => exact absurd (hA rfl).1 hm
    | some a =>
      obtain ⟨v', w', hr, h2, h3⟩ := run_append_arg_grows (P := P) w t ty e i0 z size bytes ht hi hz0 hz1 hz2 hzs hsz ⟨g, 0, none⟩ 0 0 [] (by simp) (fun j u hj => by simp at hj) a m c news hl (hcells a rfl) (by omega) (by omega) (by rw [Nat.zero_add]; exact hbytes)
      rw [Nat.zero_add, List.nil_append] at h2
      obtain ⟨A', c', rfl⟩ := own_shape h2
      exact ⟨A', c', w', hr, .inl (own_more h2 hlo), ⟨h3.os, h3.tape, h3.output, h3.size, fun k hk => h3.block k hk (by simp)⟩⟩
section
variable {P : Program} {md : Region.Mode} {ops : Array Oper} {Q : Exit → Act → World → Prop}
theorem wpOp_app {i : Nat} {o : Oper} {K : Act → World → Prop} {a : Act} {w : World} (ho : ops[i]? = some o) (hgd : o.guard = none) {lo : Nat} {e : TypeId} {size g : Nat} (t : TypeId) (s x : Operand)
    (hop : o.op = .call { callee := .builtin .append, args := #[s, x], argTypes := #[t, t] })
    {z : Value} {bytes : Nat} (ht : P.underlying t = some (.slice e)) (hinfo : (P.info? e).map (fun i => (i.zero, i.size, i.bytes)) = some (some z, size, bytes)) (hzs : z.cells.size = size) (hsz : 0 < size)
    (hs : a.eval s = .slice (some ⟨g, 0, none⟩) 0 0) (hg : lo ≤ g) (hgc : ∃ c, w.heap[g]? = some (.cells c e (0, 0))) (hlo : lo ≤ w.heap.size) {vx : Value} {m : Nat} {news : List Value} (hx : a.eval x = vx) (hr : RowA w size vx m news) (hu : ∀ u ∈ news, u.oneCell' = true) (h63 : m ≤ maxLen) (hbytes : m * bytes ≤ 140737488355328)
    (h : ∀ A c w', OwnZ w' lo e size (.slice A m c) m news → Below w.heap.size w w' → K (a.put o.dst (.slice A m c)) w') : wpOp P ops Q i K a w := by
  refine wpOp_of ho ?_
  rw [if_pos (by simp [Region.wanted, hgd])]
  obtain ⟨A, c, w', hrun, h2, h3⟩ := run_append_lit (P := P) t o.type ht hinfo hzs hsz hg hgc hlo hr hu h63 hbytes
  unfold Oper.wp execOp
  simp only [hop, resolve, invoke, builtin, Sem.run_bind, Sem.run_pure, Result.andThen_ok, List.map_toArray, List.map_cons, List.map_nil, hs, hx, hrun]
  exact h A c w' h2 h3
theorem wpOp_go {i : Nat} {o : Oper} {K : Act → World → Prop} {a : Act} {w : World} (ho : ops[i]? = some o) (hgd : o.guard = none) (h : Oper.wp P o a w K Q) : wpOp P ops Q i K a w :=
  wpOp_of ho (by rw [if_pos (by simp [Region.wanted, hgd])]; exact h)
theorem wpOp_val {i : Nat} {o : Oper} {K : Act → World → Prop} {a : Act} {w w' : World} {v : Value} (ho : ops[i]? = some o) (hgd : o.guard = none) (hrun : (execOp a.eval o).run P w = .ok (.value v) w') (h : K (a.put o.dst v) w') : wpOp P ops Q i K a w :=
  wpOp_go ho hgd (by unfold Oper.wp; rw [hrun]; exact h)
theorem wpOp_via {i : Nat} {o : Oper} {KK : Act → World → Prop} {a : Act} {w w' : World} {v : Value} (ho : ops[i]? = some o) (hgd : o.guard = none) (h : ∀ K : Act → World → Prop, K (a.put o.dst v) w' → Oper.wp P o a w K Q) (hK : KK (a.put o.dst v) w') : wpOp P ops Q i KK a w :=
  wpOp_go ho hgd (h KK hK)
theorem ready_deps {i : Nat} {o : Oper} {listed : Array Bool} (h : i ∈ Region.ready md ops listed) (ho : ops[i]? = some o) : ∀ e ∈ o.after, Region.binds md e = true → listed.getD e.on false = true := by
  obtain ⟨_, o', ho', hd⟩ := mem_ready.1 h
  rw [ho] at ho'
  cases ho'
  exact hd
theorem ready_lt {i : Nat} {listed : Array Bool} (h : i ∈ Region.ready md ops listed) : i < ops.size := by
  obtain ⟨_, o', ho', _⟩ := mem_ready.1 h
  exact (Array.getElem?_eq_some_iff.1 ho').1
/-- What each listed operation waits for is listed. -/
def Closed (md : Region.Mode) (ops : Array Oper) (listed : Array Bool) : Prop := ∀ (j : Nat) (o : Oper), ops[j]? = some o → listed.getD j false = true → ∀ e ∈ o.after, Region.binds md e = true → listed.getD e.on false = true
theorem wp_region_inv2 {id : Nat} {a : Act} {w : World} (hm : P.follows .mixedOrders = true) (Inv : Array Bool → Act → World → Prop)
    (h0 : Inv (Array.replicate ops.size false) a w.drew)
    (hq : ∀ listed a w, Inv listed a w → Region.ready .any ops listed = [] → Q .normal a w)
    (hs : ∀ listed a w, Inv listed a w → Closed .any ops listed → ∀ i ∈ Region.ready .any ops listed, wpOp P ops Q i (Inv (listed.setIfInBounds i true)) a w) : (Code.region id ops true).wp P Q a w := by
  refine wp_region_inv hm (fun listed a w => Inv listed a w ∧ Closed .any ops listed) ⟨h0, fun j o ho hl => ?_⟩ (fun listed a w h hr => hq listed a w h.1 hr) (fun listed a w h i hi => ?_)
  · exfalso
    rw [Array.getD_eq_getD_getElem?, Array.getElem?_replicate] at hl
    split at hl <;> cases hl
  · have hc : Closed .any ops (listed.setIfInBounds i true) := fun j o ho hl e he hb => by
      have hop := ready_open hi
      have hold : listed.getD e.on false = true := by
        by_cases q : j = i
        · subst q; exact ready_deps hi ho e he hb
        · rw [lg_ne (fun q2 => q q2.symm)] at hl
          exact h.2 j o ho hl e he hb
      by_cases q : i = e.on
      · rw [← q]; exact lg_same hop
      · rw [lg_ne q]; exact hold
    exact wpOp_mono (fun a' w' h' => ⟨h', hc⟩) (hs listed a w h.1 h.2 i hi)
/-- Where nothing is ready and what each waits for stands ahead of it, all have come. -/
theorem ready_nil {listed : Array Bool} (h : Region.ready md ops listed = []) (hs : listed.size = ops.size) (hd : ∀ (i : Nat) (o : Oper), ops[i]? = some o → ∀ e ∈ o.after, e.on < i) : ∀ j, j < ops.size → listed.getD j false = true := by
  intro j
  induction j using Nat.strongRecOn with
  | ind j ih =>
    intro hj
    cases hb : listed.getD j false with
    | true => rfl
    | false =>
      exfalso
      have : j ∈ Region.ready md ops listed := mem_ready.2 ⟨by
        rw [Array.getD_eq_getD_getElem?] at hb ⊢
        rw [Array.getElem?_eq_getElem (by omega)] at hb ⊢
        exact hb, ops[j], Array.getElem?_eq_getElem hj, fun e he _ => ih e.on (hd j _ (Array.getElem?_eq_getElem hj) e he) (by have := hd j _ (Array.getElem?_eq_getElem hj) e he; omega)⟩
      rw [h] at this
      cases this
end
theorem OwnZ.below {w w' : World} {lo : Nat} {e : TypeId} {size : Nat} {v : Value} {n : Nat} {xs : List Value} (h : OwnZ w lo e size v n xs) (hb : Below w.heap.size w w') : OwnZ w' lo e size v n xs := h.same fun j hj => hb.block j (h.lt hj).2
theorem own_below {w w' : World} {base : Nat} {e : TypeId} {s : Nat} {v : Value} {n : Nat} {xs : List Value} (h : w.ownsRow base e s v n xs) (hb : Below w.heap.size w w') : w'.ownsRow base e s v n xs := own_same h fun j hj => hb.block j (h.lt j hj).2
def updX (X : Nat → Value) (k : Nat) (v : Value) : Nat → Value := fun j => if j = k then v else X j
theorem alloc_at (w : World) (o : Obj) : (w.alloc o).heap[w.heap.size]? = some o := by
  show (w.heap.push o)[w.heap.size]? = some o
  simp
theorem fresh_false (n j : Nat) : (Array.replicate n false).getD j false = false := by
  rw [Array.getD_eq_getD_getElem?, Array.getElem?_replicate]
  split <;> rfl
/-- What the listed operations have laid into their slots. -/
def AtHand (N : Nat) (sl : Nat → Nat) (Pv : Nat → Value → World → Prop) (listed : Array Bool) (X : Nat → Value) (w : World) : Prop := ∀ j, j < N → listed.getD j false = true → Pv j (X (sl j)) w
theorem AtHand.step {N : Nat} {sl : Nat → Nat} {Pv : Nat → Value → World → Prop} {listed : Array Bool} {X : Nat → Value} {w w' : World} (h : AtHand N sl Pv listed X w) (hinj : ∀ j k, j < N → k < N → sl j = sl k → j = k) {i : Nat} (hi : i < N) {v : Value} (hk : ∀ j x, j < N → Pv j x w → Pv j x w') (hv : Pv i v w') :
    AtHand N sl Pv (listed.setIfInBounds i true) (updX X (sl i) v) w' := by
  intro j hj hl
  by_cases e : j = i
  · subst e
    unfold updX
    rw [if_pos rfl]
    exact hv
  · unfold updX
    rw [if_neg fun q => e (hinj j i hj hi q)]
    rw [lg_ne (fun q => e q.symm)] at hl
    exact hk j _ hj (h j hj hl)
end Go.Proofs.Yticinbkgmfoeoaa
