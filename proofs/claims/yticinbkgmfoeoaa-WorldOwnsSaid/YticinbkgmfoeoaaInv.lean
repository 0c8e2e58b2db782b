/- A region that draws its order, by what holds behind any of its operations. -/
import Derived.RegionTactic
namespace Go.Proofs.Yticinbkgmfoeoaa
set_option linter.unusedVariables false

/-- How many have not come up yet. -/
def leftB (l : List Bool) : Nat := l.countP (fun b => !b)
theorem leftB_set : ∀ {l : List Bool} {i : Nat}, l[i]? = some false → leftB (l.set i true) + 1 = leftB l
  | [], i, h => by simp at h
  | b :: l, 0, h => by
    simp at h
    subst h
    simp [leftB]
  | b :: l, i + 1, h => by
    have := leftB_set (l := l) (i := i) (by simpa using h)
    cases b <;> simp [leftB] at this ⊢ <;> omega
section
variable {P : Program} {md : Region.Mode} {ops : Array Oper} {Q : Exit → Act → World → Prop}
theorem ready_open {listed : Array Bool} {i : Nat} (h : i ∈ Region.ready md ops listed) : listed.toList[i]? = some false := by
  obtain ⟨h1, _⟩ := mem_ready.1 h
  rcases Nat.lt_or_ge i listed.size with h2 | h2
  · simp [h2] at h1
    simp [h2, h1]
  · simp [Array.getElem?_eq_none h2] at h1
theorem wpOp_of {i : Nat} {o : Oper} {K : Act → World → Prop} {a : Act} {w : World} (ho : ops[i]? = some o)
    (h : if Region.wanted o (yielded ops a.tmps) = true then Oper.wp P o a w K Q else K (a.put o.dst undef) w) : wpOp P ops Q i K a w := by
  unfold wpOp
  rw [ho]
  show if Region.wanted o (yielded ops a.tmps) = true then _ else _
  split
  · rename_i hw; rw [if_pos hw] at h; exact .inl h
  · rename_i hw; rw [if_neg hw] at h; exact h
theorem wpAny_inv (Inv : Array Bool → Act → World → Prop)
    (hq : ∀ listed a w, Inv listed a w → Region.ready md ops listed = [] → Q .normal a w)
    (hs : ∀ listed a w, Inv listed a w → ∀ i ∈ Region.ready md ops listed, wpOp P ops Q i (Inv (listed.setIfInBounds i true)) a w) :
    ∀ (fuel : Nat) (listed : Array Bool) (a : Act) (w : World), leftB listed.toList ≤ fuel → Inv listed a w → wpAny P md ops Q fuel listed a w := by
  intro fuel
  induction fuel with
  | zero =>
    intro listed a w hl hI
    have hr : Region.ready md ops listed = [] := by
      cases hr : Region.ready md ops listed with
      | nil => rfl
      | cons i rs =>
        have h1 := ready_open (md := md) (ops := ops) (listed := listed) (i := i) (by rw [hr]; exact List.mem_cons_self)
        have h2 := leftB_set h1
        omega
    exact ⟨hr, hq listed a w hI hr⟩
  | succ fuel ih =>
    intro listed a w hl hI
    refine ⟨fun hr => hq listed a w hI hr, fun i hi => wpOp_mono (fun a' w' h' => ih _ a' w' ?_ h') (hs listed a w hI i hi)⟩
    have h2 := leftB_set (ready_open hi)
    rw [Array.toList_setIfInBounds]
    omega
/-- The region, from its beginning. -/
theorem wp_region_inv {id : Nat} {a : Act} {w : World} (hm : P.follows .mixedOrders = true) (Inv : Array Bool → Act → World → Prop)
    (h0 : Inv (Array.replicate ops.size false) a w.drew)
    (hq : ∀ listed a w, Inv listed a w → Region.ready .any ops listed = [] → Q .normal a w)
    (hs : ∀ listed a w, Inv listed a w → ∀ i ∈ Region.ready .any ops listed, wpOp P ops Q i (Inv (listed.setIfInBounds i true)) a w) : (Code.region id ops true).wp P Q a w :=
  wp_region_any hm (wpAny_inv Inv hq hs _ _ _ _ (by
    have : ∀ (n : Nat), leftB (List.replicate n false) = n := fun n => by induction n with
      | zero => rfl
      | succ n ih =>
        simp [leftB, List.replicate_succ] at ih ⊢
        exact ih
    rw [Array.toList_replicate, this]
    exact Nat.le_refl _) h0)
theorem lg_same {l : Array Bool} {i : Nat} (h : l.toList[i]? = some false) : (l.setIfInBounds i true).getD i false = true := by
  have hl : i < l.size := by
    have := (List.getElem?_eq_some_iff.1 h).1
    simpa using this
  simp [hl]
theorem lg_ne {l : Array Bool} {i k : Nat} (h : i ≠ k) : (l.setIfInBounds i true).getD k false = l.getD k false := by
  simp [Array.getD_eq_getD_getElem?, Array.getElem?_setIfInBounds_ne h]
end
end Go.Proofs.Yticinbkgmfoeoaa
