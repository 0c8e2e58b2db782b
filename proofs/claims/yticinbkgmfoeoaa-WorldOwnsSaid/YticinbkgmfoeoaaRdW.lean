/- What came in, opened, and bounded by the form's own reach. -/
import Derived.Test.YticinbkgmfoeoaaRd
import Derived.SizedLaws
namespace Go.Proofs.Yticinbkgmfoeoaa
open Go.ChangeShapes Go.WideShapes Go.Deep Go.RowKit
set_option linter.unusedVariables false

/-! ### by the reach -/
theorem weights_all {H : Type} {P : Program} {e : TypeId} {d : DataW H} {l : List (DataW H)} (h : d ∈ l) {n : Nat} (hn : n ∈ d.weights P e) : n ∈ DataW.weightsAll P e l := by
  induction l with
  | nil => cases h
  | cons y l ih =>
    simp only [DataW.weightsAll, List.mem_append]
    rcases List.mem_cons.1 h with rfl | h
    · exact .inl hn
    · exact .inr (ih h)
/-- What is read takes no more than an address space. -/
def Sized {H : Type} (P : Program) (t : TypeId) (d : DataW H) : Prop := ∀ n ∈ d.weights P t, n ≤ reachBytes
theorem Sized.arg {H : Type} {P : Program} {ts : List TypeId} {ds : List (DataW H)} (h : (DataW.weightsEach P ts ds).all (· ≤ reachBytes) = true) (j : Nat) {t : TypeId} {d : DataW H} (ht : ts[j]? = some t) (hd : ds[j]? = some d) : Sized P t d := fun n hn => by
  have := List.all_eq_true.1 h _ (DataW.weights_mem_each ht hd n hn)
  simpa using this
theorem Sized.field {H : Type} {P : Program} {t : TypeId} {fs : Array Field} {parts : List (DataW H)} (h : Sized P t (.agg parts)) (hu : P.underlying t = some (.struct fs)) (j : Nat) {u : TypeId} {d : DataW H} (ht : (fs.toList.map (·.type))[j]? = some u) (hd : parts[j]? = some d) : Sized P u d := fun n hn =>
  h n (by simp only [DataW.weights, hu]; exact DataW.weights_mem_each ht hd n hn)
section
variable {H : Type} {enc : TypeId × Value → H} {P : Program} {W : World} {base : Nat} {spare : Nat → Bool} {held : Bool}
theorem open_flatW {α : Type} [Inhabited α] {t e : TypeId} {fuel : Nat} {v : Value} {x : DataW H × List MemPlace} (ht : P.underlying t = some (.slice e)) (C : α → List Value) (k : Nat) (hC : ∀ x, (C x).length = k) (hk : P.cellsOf e = k)
    (Q : α → Prop) (each : ∀ n cs y, cs.length = k → DataW.trod enc P W base spare held n e cs = some y → Sized P e y.1 → ∃ z, cs = C z ∧ Q z)
    (h : DataW.trod enc P W base spare held fuel t [v] = some x) (hz : Sized P t x.1) :
    ∃ l : List α, RowA W k v l.length (l.flatMap C) ∧ l.length * P.bytesOf e ≤ reachBytes ∧ ∀ z ∈ l, Q z := by
  rcases open_slice ht h with ⟨h1, rfl⟩ | ⟨a, len, cap, m, n, D, Pl, h1, hb, hl, hm, hmm, rfl, hx⟩
  · simp at h1
    subst h1
    exact ⟨[], ⟨by simp, none, 0, rfl, fun _ => ⟨rfl, rfl⟩, Nat.le_refl _, fun a ha => (by cases ha)⟩, by simp, (fun s hs => by cases hs)⟩
  · simp at h1
    subst h1
    have hlm : len ≤ m := by rw [hmm]; split <;> omega
    obtain ⟨F, hF⟩ := choose_lt (α := α) (n := len) (p := fun i z => (∀ r u, (C z)[r]? = some u → W.cell? (a.add (i * k + r)) = some u) ∧ Q z) (fun i hi => by
      obtain ⟨cs, c1, c2⟩ := hx i (by omega)
      rw [hk] at c1
      obtain ⟨_, c3, c4⟩ := World.cells?_some c1
      obtain ⟨z, rfl, hz⟩ := each n cs _ c3 c2 (fun u hu => hz u (by
        simp only [DataW.weights, ht, List.mem_cons, List.mem_append]
        exact .inr (.inl (weights_all (List.mem_map.2 ⟨i, List.mem_range.2 hi, rfl⟩) hu))))
      refine ⟨z, fun r u hr => ?_, hz⟩
      have hr2 : r < k := by
        have := (List.getElem?_eq_some_iff.1 hr).1
        rw [hC] at this
        exact this
      rw [← add_add, c4 r hr2]
      exact hr)
    refine ⟨(List.range len).map F, ⟨by rw [flat_len hC], some a, cap, by simp, fun e => (by cases e), by simpa using hl, fun a' e j u hj => ?_⟩, ?_, fun z hz => ?_⟩
    · cases e
      obtain ⟨i, r, z, z1, z2, rfl⟩ := flat_at hC _ hj
      have hi : i < len := by
        have := (List.getElem?_eq_some_iff.1 z1).1
        simpa using this
      have : z = F i := by simpa [List.getElem?_map, List.getElem?_range hi] using z1.symm
      subst this
      exact (hF i hi).1 r u z2
    · have h2 := hz ((((List.range len).map D).length + ((List.range (m - len)).map (fun i => D (len + i))).length) * P.bytesOf e) (by simp [DataW.weights, ht])
      refine Nat.le_trans (Nat.mul_le_mul_right _ ?_) h2
      simp
    · obtain ⟨i, hi, rfl⟩ := List.mem_map.1 hz
      exact (hF i (List.mem_range.1 hi)).2
theorem open_slW {t e : TypeId} {fuel : Nat} {v : Value} {x : DataW H × List MemPlace} (ht : P.underlying t = some (.slice e)) (he : P.underlying e = some .string) (hc : P.cellsOf e = 1)
    (h : DataW.trod enc P W base spare held fuel t [v] = some x) (hz : Sized P t x.1) :
    ∃ l : List ByteArray, RowA W 1 v l.length (l.map Value.string) ∧ l.length * P.bytesOf e ≤ reachBytes ∧ ∀ s ∈ l, s.size ≤ maxLen := by
  obtain ⟨l, h1, h2, h3⟩ := open_flatW (α := ByteArray) ht (fun s => [.string s]) 1 (fun _ => rfl) hc (fun s => s.size ≤ maxLen) (fun n cs y hcs hy _ => by
    obtain ⟨s, rfl, rfl, ws⟩ := DataW.trod_string he hy
    exact ⟨s, rfl, ws⟩) h hz
  have e : l.flatMap (fun s => [Value.string s]) = l.map Value.string := by
    clear h1 h2 h3
    induction l with
    | nil => rfl
    | cons x l ih => rw [List.flatMap_cons, ih]; rfl
  rw [e] at h1
  exact ⟨l, h1, h2, h3⟩
end

end Go.Proofs.Yticinbkgmfoeoaa
