/- Memory in which only some cells of rows may have been written over. No program in sight. -/
import Derived.Test.YticinbkgmfoeoaaWdW1
namespace Go.Proofs.Yticinbkgmfoeoaa
open Go.RowKit
set_option linter.unusedVariables false

/-- Block 'j', a row of the type T, may read otherwise in its cell k: nothing else has changed. -/
structure Mut (P : Nat → TypeId → Nat → Prop) (w w' : World) : Prop where
  os : w'.os = w.os
  tape : w'.tape = w.tape
  output : w'.output = w.output
  size : w'.heap.size = w.heap.size
  cells : ∀ j, w'.heap[j]? = w.heap[j]? ∨ ∃ cs cs' T, w.heap[j]? = some (.cells cs T (0, 0)) ∧ w'.heap[j]? = some (.cells cs' T (0, 0)) ∧ cs'.size = cs.size ∧ ∀ k, cs'[k]? = cs[k]? ∨ P j T k

section
variable {P Q : Nat → TypeId → Nat → Prop} {w w' w'' : World}
theorem Mut.refl (P : Nat → TypeId → Nat → Prop) (w : World) : Mut P w w := ⟨rfl, rfl, rfl, rfl, fun j => .inl rfl⟩
theorem Mut.mono (h : Mut P w w') (hP : ∀ j T k, P j T k → Q j T k) : Mut Q w w' :=
  ⟨h.os, h.tape, h.output, h.size, fun j => by
    rcases h.cells j with e | ⟨cs, cs', T, h1, h2, h3, h4⟩
    · exact .inl e
    · exact .inr ⟨cs, cs', T, h1, h2, h3, fun k => (h4 k).imp id (hP j T k)⟩⟩
theorem Mut.obj (h : Mut P w w') {j : Nat} {cs : Array Value} {T : TypeId} (hj : w.heap[j]? = some (.cells cs T (0, 0))) : ∃ cs', w'.heap[j]? = some (.cells cs' T (0, 0)) ∧ cs'.size = cs.size ∧ ∀ k, cs'[k]? = cs[k]? ∨ P j T k := by
  rcases h.cells j with e | ⟨cs0, cs', T0, h1, h2, h3, h4⟩
  · exact ⟨cs, e.trans hj, rfl, fun k => .inl rfl⟩
  · rw [hj] at h1
    cases h1
    exact ⟨cs', h2, h3, h4⟩
theorem Mut.set (h : Mut P w w') {j k : Nat} {cs : Array Value} {T : TypeId} (hj : w.heap[j]? = some (.cells cs T (0, 0))) (hP : P j T k) (v : Value) : Mut P w (w'.setCell ⟨j, k, none⟩ v) := by
  obtain ⟨cs', h1, h2, h3⟩ := h.obj hj
  refine ⟨h.os, h.tape, h.output, by have := h.size; simp [World.setCell]; exact this, fun i => ?_⟩
  by_cases e : i = j
  · subst e
    refine .inr ⟨cs, cs'.setIfInBounds k v, T, hj, heap_setCell_same _ _ _ _ _ _ h1, by simpa using h2, fun q => ?_⟩
    by_cases e : q = k
    · subst e; exact .inr hP
    · rw [Array.getElem?_setIfInBounds_ne (fun x => e x.symm)]; exact h3 q
  · rcases h.cells i with e' | ⟨a, b, c, q1, q2, q3⟩
    · exact .inl ((heap_setCell_other _ ⟨j, k, none⟩ i v e).trans e')
    · exact .inr ⟨a, b, c, q1, (heap_setCell_other _ ⟨j, k, none⟩ i v e).trans q2, q3⟩
theorem Mut.any (h : Mut P w w') {j k : Nat} {cs : Array Value} {T : TypeId} (hj : w.heap[j]? = some (.cells cs T (0, 0))) (hk : k < cs.size) : ∃ x, w'.cell? ⟨j, k, none⟩ = some x := by
  obtain ⟨cs', h1, h2, _⟩ := h.obj hj
  refine ⟨cs'[k]'(by omega), ?_⟩
  unfold World.cell?
  rw [h1]
  simp [h2, hk]
theorem Mut.keeps (h : Mut P w w') {j k : Nat} {cs : Array Value} {T : TypeId} (hj : w.heap[j]? = some (.cells cs T (0, 0))) (hP : ¬ P j T k) {x : Value} (hx : w.cell? ⟨j, k, none⟩ = some x) : w'.cell? ⟨j, k, none⟩ = some x := by
  obtain ⟨cs', h1, h2, h3⟩ := h.obj hj
  have h4 := (h3 k).resolve_right hP
  unfold World.cell? at hx ⊢
  rw [hj] at hx
  rw [h1]
  simpa [h4] using hx
theorem Mut.block (h : Mut P w w') {j : Nat} (hP : ∀ T k, ¬ P j T k) : w'.heap[j]? = w.heap[j]? := by
  rcases h.cells j with e | ⟨cs, cs', T, h1, h2, h3, h4⟩
  · exact e
  · rw [h1, h2]
    have : cs' = cs := Array.ext_getElem? fun k => (h4 k).resolve_right (hP T k)
    rw [this]
theorem Mut.below (h : Mut P w w') {B : Nat} (hP : ∀ j T k, P j T k → B ≤ j) : Below B w w' :=
  ⟨h.os, h.tape, h.output, by rw [h.size]; exact Nat.le_refl _, fun j hj => h.block fun T k hp => by have := hP j T k hp; omega⟩

/-- A slice of n elements of s cells each lies in a row of the type T, in a block from lo on and below hi. -/
def Shp (w : World) (lo hi : Nat) (T : TypeId) (s : Nat) (A : Option Addr) (n : Nat) : Prop :=
  0 < n → ∃ b off cs, A = some ⟨b, off, none⟩ ∧ lo ≤ b ∧ b < hi ∧ w.heap[b]? = some (.cells cs T (0, 0)) ∧ off + n * s ≤ cs.size
theorem Shp.mut {lo hi : Nat} {T : TypeId} {s n : Nat} {A : Option Addr} (h : Shp w lo hi T s A n) (hM : Mut P w w') : Shp w' lo hi T s A n := fun hn => by
  obtain ⟨b, off, cs, h1, h2, h2', h3, h4⟩ := h hn
  obtain ⟨cs', q1, q2, _⟩ := hM.obj h3
  exact ⟨b, off, cs', h1, h2, h2', q1, by omega⟩
theorem Shp.of_own {lo : Nat} {T : TypeId} {s n c : Nat} {A : Option Addr} {xs : List Value} (h : w.ownsRow lo T s (.slice A n c) n xs) : Shp w lo w.heap.size T s A n := fun hn => by
  rcases h.2 with ⟨e, hz⟩ | ⟨g, cap, cur, e, h1, h2, h3, h4, h5, h6⟩
  · omega
  · injection e with e1 e2 e3
    refine ⟨g, 0, cur, e1, h1, (Array.getElem?_eq_some_iff.1 h2).1, h2, ?_⟩
    rw [h5, Nat.zero_add]
    exact Nat.mul_le_mul_right _ h3
theorem Shp.of_ownZ {lo : Nat} {T : TypeId} {s n c : Nat} {A : Option Addr} {xs : List Value} (h : OwnZ w lo T s (.slice A n c) n xs) : Shp w lo w.heap.size T s A n := by
  rcases h with h | ⟨e1, _⟩
  · exact Shp.of_own h
  · intro hn; omega
theorem Shp.same {lo hi : Nat} {T : TypeId} {s n : Nat} {A : Option Addr} (h : Shp w lo hi T s A n) (hk : ∀ j, lo ≤ j → j < hi → w'.heap[j]? = w.heap[j]?) : Shp w' lo hi T s A n := fun hn => by
  obtain ⟨b, off, cs, h1, h2, h2', h3, h4⟩ := h hn
  exact ⟨b, off, cs, h1, h2, h2', (hk b h2 h2').trans h3, h4⟩
theorem Shp.wide {lo hi lo' hi' : Nat} {T : TypeId} {s n : Nat} {A : Option Addr} (h : Shp w lo hi T s A n) (h1 : lo' ≤ lo) (h2 : hi ≤ hi') : Shp w lo' hi' T s A n := fun hn => by
  obtain ⟨b, off, cs, q1, q2, q3, q4⟩ := h hn
  exact ⟨b, off, cs, q1, by omega, by omega, q4⟩
theorem Mut.far (h : Mut P w w') {j k : Nat} {x : Value} (hP : ∀ T q, ¬ P j T q) (hc : w.cell? ⟨j, k, none⟩ = some x) : w'.cell? ⟨j, k, none⟩ = some x := (World.cell?_of_block (h.block (j := (⟨j, k, none⟩ : Addr).block) hP)).trans hc
/-- An element, in the memory as it is. -/
theorem Shp.at {lo hi : Nat} {T : TypeId} {s n : Nat} {A : Option Addr} (h : Shp w lo hi T s A n) {i : Nat} (hi' : i < n) :
    ∃ b off cs, A = some ⟨b, off, none⟩ ∧ lo ≤ b ∧ b < hi ∧ w.heap[b]? = some (.cells cs T (0, 0)) ∧ ∀ (P : Nat → TypeId → Nat → Prop) (w' : World), Mut P w w' → (∀ q, q < s → ∃ x, w'.cell? ⟨b, off + i * s + q, none⟩ = some x) ∧ ∀ k, w'.frozen? ⟨b, k, none⟩ = false := by
  obtain ⟨b, off, cs, h1, h2, h2', h3, h4⟩ := h (by omega)
  refine ⟨b, off, cs, h1, h2, h2', h3, fun P w' hM => ⟨fun q hq => hM.any h3 ?_, fun k => ?_⟩⟩
  · have : (i + 1) * s ≤ n * s := Nat.mul_le_mul_right _ hi'
    rw [Nat.succ_mul] at this
    omega
  · obtain ⟨cs', q1, _⟩ := hM.obj h3
    exact frozen_of_row w' b k _ _ q1
/-- An element of one cell. -/
theorem Shp.at1 {lo hi : Nat} {T : TypeId} {n : Nat} {A : Option Addr} (h : Shp w lo hi T 1 A n) {i : Nat} (hi' : i < n) :
    ∃ b off cs, A = some ⟨b, off, none⟩ ∧ lo ≤ b ∧ b < hi ∧ w.heap[b]? = some (.cells cs T (0, 0)) ∧ ∀ (P : Nat → TypeId → Nat → Prop) (w' : World), Mut P w w' → (∃ x, w'.cell? ⟨b, off + i, none⟩ = some x) ∧ w'.frozen? ⟨b, off + i, none⟩ = false := by
  obtain ⟨b, off, cs, h1, h2, h2', h3, h4⟩ := h.at hi'
  refine ⟨b, off, cs, h1, h2, h2', h3, fun P w' hM => ⟨?_, (h4 P w' hM).2 _⟩⟩
  have := (h4 P w' hM).1 0 (by omega)
  simpa using this
/-- An element of two cells. -/
theorem Shp.at2 {lo hi : Nat} {T : TypeId} {n : Nat} {A : Option Addr} (h : Shp w lo hi T 2 A n) {i : Nat} (hi' : i < n) :
    ∃ b off cs, A = some ⟨b, off, none⟩ ∧ lo ≤ b ∧ b < hi ∧ w.heap[b]? = some (.cells cs T (0, 0)) ∧ ∀ (P : Nat → TypeId → Nat → Prop) (w' : World), Mut P w w' → (∃ x, w'.cell? ⟨b, off + i * 2, none⟩ = some x) ∧ (∃ x, w'.cell? ⟨b, off + i * 2 + 1, none⟩ = some x) ∧ w'.frozen? ⟨b, off + i * 2, none⟩ = false ∧ w'.frozen? ⟨b, off + i * 2 + 1, none⟩ = false := by
  obtain ⟨b, off, cs, h1, h2, h2', h3, h4⟩ := h.at hi'
  exact ⟨b, off, cs, h1, h2, h2', h3, fun P w' hM => ⟨by have := (h4 P w' hM).1 0 (by omega); simpa using this, (h4 P w' hM).1 1 (by omega), (h4 P w' hM).2 _, (h4 P w' hM).2 _⟩⟩
/-- An element of three cells. -/
theorem Shp.at3 {lo hi : Nat} {T : TypeId} {n : Nat} {A : Option Addr} (h : Shp w lo hi T 3 A n) {i : Nat} (hi' : i < n) :
    ∃ b off cs, A = some ⟨b, off, none⟩ ∧ lo ≤ b ∧ b < hi ∧ w.heap[b]? = some (.cells cs T (0, 0)) ∧ ∀ (P : Nat → TypeId → Nat → Prop) (w' : World), Mut P w w' → (∃ x, w'.cell? ⟨b, off + i * 3, none⟩ = some x) ∧ (∃ x, w'.cell? ⟨b, off + i * 3 + 1, none⟩ = some x) ∧ (∃ x, w'.cell? ⟨b, off + i * 3 + 2, none⟩ = some x) ∧ w'.frozen? ⟨b, off + i * 3, none⟩ = false ∧ w'.frozen? ⟨b, off + i * 3 + 1, none⟩ = false ∧ w'.frozen? ⟨b, off + i * 3 + 2, none⟩ = false := by
  obtain ⟨b, off, cs, h1, h2, h2', h3, h4⟩ := h.at hi'
  exact ⟨b, off, cs, h1, h2, h2', h3, fun P w' hM => ⟨by have := (h4 P w' hM).1 0 (by omega); simpa using this, (h4 P w' hM).1 1 (by omega), (h4 P w' hM).1 2 (by omega), (h4 P w' hM).2 _, (h4 P w' hM).2 _, (h4 P w' hM).2 _⟩⟩
end
end Go.Proofs.Yticinbkgmfoeoaa
