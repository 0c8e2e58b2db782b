/- Variables of all and of calls, told plainly. No program in sight. -/
import Derived.WalkKit
namespace Go.Proofs.Ytbpaiocbgbpiaaa
set_option linter.unusedVariables false

abbrev CellT := Int × Nat × ByteArray
def noCell : CellT := (0, 0, ⟨#[]⟩)
/-- A variable: the number of its array (0: none), its value, whether it was given one, from which it comes. -/
structure SM where
  arr : Nat
  val : CellT
  given : Bool
  frm : Option Nat
def SM.blank : SM := ⟨0, noCell, false, none⟩
/-- Each comes from one that was there before it; what has a value is no array. -/
def OkS (l : List SM) : Prop := ∀ (i : Nat) (s : SM), l[i]? = some s → (s.given = true → s.arr = 0) ∧ ∀ j, s.frm = some j → j < i
/-- The one from which a variable's array comes: it has no value. -/
def link (l : List SM) (s : SM) : Option Nat := s.frm.bind fun j => (l[j]?).bind fun t => if t.given = true then none else some j
/-- Its array's number. -/
def res : Nat → List SM → Nat → Nat
  | 0, _, _ => 0
  | f + 1, l, i => match l[i]? with
    | none => 0
    | some s => if s.arr ≠ 0 then s.arr else if s.given = true then 0 else match link l s with
      | none => 0
      | some j => res f l j
def resA (l : List SM) (i : Nat) : Nat := res (i + 1) l i
/-- The variable that becomes an array when it does. -/
def root : Nat → List SM → Nat → Nat
  | 0, _, i => i
  | f + 1, l, i => match l[i]? with
    | none => i
    | some s => match link l s with
      | none => i
      | some j => root f l j
def rootA (l : List SM) (i : Nat) : Nat := root (i + 1) l i

section
variable {l l' : List SM} {i j m : Nat} {s : SM}
theorem link_some (h : link l s = some j) : s.frm = some j ∧ ∃ t, l[j]? = some t ∧ t.given = false := by
  unfold link at h
  cases hf : s.frm with
  | none => rw [hf] at h; cases h
  | some k =>
    rw [hf] at h
    simp only [Option.bind_some] at h
    cases ht : l[k]? with
    | none => rw [ht] at h; cases h
    | some t =>
      rw [ht] at h
      simp only [Option.bind_some] at h
      cases hg : t.given with
      | true => rw [hg] at h; simp at h
      | false =>
        rw [hg] at h
        simp at h
        subst h
        exact ⟨rfl, t, ht, hg⟩
theorem link_of {t : SM} (hf : s.frm = some j) (ht : l[j]? = some t) (hg : t.given = false) : link l s = some j := by
  unfold link; simp [hf, ht, hg]
theorem link_no (hf : s.frm = none) : link l s = none := by unfold link; simp [hf]
theorem link_given {t : SM} (hf : s.frm = some j) (ht : l[j]? = some t) (hg : t.given = true) : link l s = none := by
  unfold link; simp [hf, ht, hg]
theorem OkS.link (h : OkS l) (hi : l[i]? = some s) (hl : link l s = some j) : j < i := (h i s hi).2 j (link_some hl).1
theorem res_mono (h : OkS l) : ∀ g j, j < g → res (g + 1) l j = res g l j := by
  intro g
  induction g with
  | zero => intro j hj; omega
  | succ g ih =>
    intro j hj
    rw [res, res]
    cases hs : l[j]? with
    | none => rfl
    | some s =>
      dsimp only
      split
      · rfl
      · split
        · rfl
        · cases hl : Go.Proofs.Ytbpaiocbgbpiaaa.link l s with
          | none => rfl
          | some k =>
            have := h.link hs hl
            exact ih k (by omega)
theorem res_fuel (h : OkS l) : ∀ g, j < g → res g l j = resA l j := by
  intro g
  induction g with
  | zero => intro hj; omega
  | succ g ih =>
    intro hj
    rcases Nat.lt_or_ge j g with h1 | h1
    · rw [res_mono h g j h1, ih h1]
    · obtain rfl : g = j := by omega
      rfl
theorem resA_eq (h : OkS l) (hi : l[i]? = some s) : resA l i = if s.arr ≠ 0 then s.arr else if s.given = true then 0 else match link l s with
      | none => 0
      | some j => resA l j := by
  unfold resA
  rw [res, hi]
  dsimp only
  cases hl : Go.Proofs.Ytbpaiocbgbpiaaa.link l s with
  | none => rfl
  | some j =>
    dsimp only
    rw [res_fuel h i (h.link hi hl)]
    rfl
theorem root_mono (h : OkS l) : ∀ g j, j < g → root (g + 1) l j = root g l j := by
  intro g
  induction g with
  | zero => intro j hj; omega
  | succ g ih =>
    intro j hj
    rw [root, root]
    cases hs : l[j]? with
    | none => rfl
    | some s =>
      dsimp only
      cases hl : Go.Proofs.Ytbpaiocbgbpiaaa.link l s with
      | none => rfl
      | some k =>
        have := h.link hs hl
        exact ih k (by omega)
theorem root_fuel (h : OkS l) : ∀ g, j < g → root g l j = rootA l j := by
  intro g
  induction g with
  | zero => intro hj; omega
  | succ g ih =>
    intro hj
    rcases Nat.lt_or_ge j g with h1 | h1
    · rw [root_mono h g j h1, ih h1]
    · obtain rfl : g = j := by omega
      rfl
theorem rootA_eq (h : OkS l) (hi : l[i]? = some s) : rootA l i = match link l s with
      | none => i
      | some j => rootA l j := by
  unfold rootA
  rw [root, hi]
  dsimp only
  cases hl : Go.Proofs.Ytbpaiocbgbpiaaa.link l s with
  | none => rfl
  | some j =>
    dsimp only
    rw [root_fuel h i (h.link hi hl)]
    rfl
/-- What a variable is by what it is itself. -/
theorem resA_arr (h : OkS l) (hi : l[i]? = some s) (ha : s.arr ≠ 0) : resA l i = s.arr := by rw [resA_eq h hi, if_pos ha]
theorem resA_given (h : OkS l) (hi : l[i]? = some s) (hg : s.given = true) : resA l i = 0 := by
  rw [resA_eq h hi, if_neg (by rw [(h i s hi).1 hg]; simp), if_pos hg]
theorem resA_end (h : OkS l) (hi : l[i]? = some s) (hl : link l s = none) : resA l i = s.arr := by
  rw [resA_eq h hi, hl]
  dsimp only
  split
  · rfl
  · split <;> omega
theorem resA_link (h : OkS l) (hi : l[i]? = some s) (ha : s.arr = 0) (hg : s.given = false) (hl : link l s = some j) : resA l i = resA l j := by
  rw [resA_eq h hi, hl, if_neg (by omega), if_neg (by simp [hg])]
theorem resA_zero (h : OkS l) (hi : l[i]? = some s) (hr : resA l i = 0) : s.arr = 0 := by
  rcases Nat.eq_zero_or_pos s.arr with e | e
  · exact e
  · rw [resA_arr h hi (by omega)] at hr; exact hr
theorem resA_le (h : OkS l) (hm : ∀ (i : Nat) (s : SM), l[i]? = some s → s.arr ≤ m) : ∀ i, resA l i ≤ m := by
  intro i
  induction i using Nat.strongRecOn with
  | ind i ih =>
    cases hs : l[i]? with
    | none => simp [resA, res, hs]
    | some s =>
      have := hm i s hs
      rw [resA_eq h hs]
      split
      · exact this
      · split
        · omega
        · cases hl : Go.Proofs.Ytbpaiocbgbpiaaa.link l s with
          | none => simp
          | some j => exact ih j (h.link hs hl)

/-! ### one variable more -/
theorem get_app (x : SM) (h : l[i]? = some s) : (l ++ [x])[i]? = some s := by
  rw [List.getElem?_append_left (List.getElem?_eq_some_iff.1 h).1]; exact h
theorem OkS.app (h : OkS l) (x : SM) (h1 : x.given = true → x.arr = 0) (h2 : ∀ j, x.frm = some j → j < l.length) : OkS (l ++ [x]) := by
  intro i s hi
  rcases Nat.lt_or_ge i l.length with hlt | hge
  · rw [List.getElem?_append_left hlt] at hi; exact h i s hi
  · rw [List.getElem?_append_right hge] at hi
    obtain ⟨h3, rfl⟩ : i - l.length = 0 ∧ x = s := by
      rcases Nat.eq_zero_or_pos (i - l.length) with e | e
      · rw [e] at hi; simp at hi; exact ⟨e, hi⟩
      · rw [List.getElem?_eq_none (by simp; omega)] at hi; cases hi
    exact ⟨h1, fun j hj => by have := h2 j hj; omega⟩
theorem link_app (h : OkS l) (x : SM) (hi : l[i]? = some s) : link (l ++ [x]) s = link l s := by
  unfold link
  cases hf : s.frm with
  | none => rfl
  | some j =>
    have h1 := (h i s hi).2 j hf
    have h2 := (List.getElem?_eq_some_iff.1 hi).1
    simp only [Option.bind_some]
    rw [List.getElem?_append_left (by omega)]
theorem resA_app (h : OkS l) (x : SM) (h1 : x.given = true → x.arr = 0) (h2 : ∀ j, x.frm = some j → j < l.length) : ∀ i, i < l.length → resA (l ++ [x]) i = resA l i := by
  have h' := h.app x h1 h2
  intro i
  induction i using Nat.strongRecOn with
  | ind i ih =>
    intro hi
    have hs : l[i]? = some l[i] := List.getElem?_eq_getElem hi
    rw [resA_eq h' (get_app x hs), resA_eq h hs, link_app h x hs]
    cases hl : Go.Proofs.Ytbpaiocbgbpiaaa.link l l[i] with
    | none => rfl
    | some j =>
      have := h.link hs hl
      dsimp only
      rw [ih j this (by omega)]

/-! ### a value -/
theorem get_set (t : SM) (k : Nat) : (l.set i t)[k]? = if k = i then (if k < l.length then some t else none) else l[k]? := by
  rw [List.getElem?_set]
  by_cases e : i = k
  · subst e; simp
  · rw [if_neg e, if_neg (fun x => e x.symm)]
theorem OkS.val (h : OkS l) (hi : l[i]? = some s) (hr : resA l i = 0) (c : CellT) : OkS (l.set i ⟨s.arr, c, true, s.frm⟩) := by
  intro k t hk
  rw [get_set] at hk
  by_cases e : k = i
  · subst e
    rw [if_pos rfl, if_pos (List.getElem?_eq_some_iff.1 hi).1] at hk
    cases hk
    have hz := resA_zero h hi hr
    have h2 := (h k s hi).2
    exact ⟨fun _ => hz, h2⟩
  · rw [if_neg e] at hk
    exact h k t hk
theorem resA_val (h : OkS l) (hi : l[i]? = some s) (hr : resA l i = 0) (c : CellT) : ∀ k, resA (l.set i ⟨s.arr, c, true, s.frm⟩) k = resA l k := by
  have h' := h.val hi hr c
  have hil := (List.getElem?_eq_some_iff.1 hi).1
  intro k
  induction k using Nat.strongRecOn with
  | ind k ih =>
    by_cases e : k = i
    · subst e
      rw [hr, resA_given h' (s := ⟨s.arr, c, true, s.frm⟩) (by rw [get_set, if_pos rfl, if_pos hil]) rfl]
    · cases hs : l[k]? with
      | none =>
        have : (l.set i ⟨s.arr, c, true, s.frm⟩)[k]? = none := by rw [get_set, if_neg e, hs]
        simp [resA, res, hs, this]
      | some t =>
        have hs' : (l.set i ⟨s.arr, c, true, s.frm⟩)[k]? = some t := by rw [get_set, if_neg e, hs]
        rw [resA_eq h' hs', resA_eq h hs]
        split
        · rfl
        · split
          · rfl
          · rename_i h1 h2
            cases hl : Go.Proofs.Ytbpaiocbgbpiaaa.link l t with
            | some j =>
              obtain ⟨hf, u, hu, hg⟩ := link_some hl
              have hj := h.link hs hl
              by_cases ej : j = i
              · subst ej
                have : Go.Proofs.Ytbpaiocbgbpiaaa.link (l.set j ⟨s.arr, c, true, s.frm⟩) t = none := link_given hf (t := ⟨s.arr, c, true, s.frm⟩) (by rw [get_set, if_pos rfl, if_pos hil]) rfl
                rw [this]
                exact hr.symm
              · have : Go.Proofs.Ytbpaiocbgbpiaaa.link (l.set i ⟨s.arr, c, true, s.frm⟩) t = some j := link_of hf (t := u) (by rw [get_set, if_neg ej, hu]) hg
                rw [this]
                exact ih j hj
            | none =>
              cases hf : t.frm with
              | none => rw [link_no hf]
              | some j =>
                have hj := (h k t hs).2 j hf
                have hkl := (List.getElem?_eq_some_iff.1 hs).1
                have hu : l[j]? = some l[j] := List.getElem?_eq_getElem (by omega)
                cases hg : (l[j]).given with
                | false => rw [link_of hf hu hg] at hl; cases hl
                | true =>
                  by_cases ej : j = i
                  · subst ej
                    rw [link_given hf (t := ⟨s.arr, c, true, s.frm⟩) (by rw [get_set, if_pos rfl, if_pos hil]) rfl]
                  · rw [link_given hf (t := l[j]) (by rw [get_set, if_neg ej, hu]) hg]

/-! ### an array -/
theorem rootA_lt (h : OkS l) : ∀ i, i < l.length → rootA l i ≤ i ∧ (resA l i = 0 → (∀ s, l[i]? = some s → s.given = false) → ∃ t, l[rootA l i]? = some t ∧ t.arr = 0 ∧ t.given = false ∧ link l t = none) := by
  intro i
  induction i using Nat.strongRecOn with
  | ind i ih =>
    intro hi
    have hs : l[i]? = some l[i] := List.getElem?_eq_getElem hi
    rw [rootA_eq h hs]
    cases hl : Go.Proofs.Ytbpaiocbgbpiaaa.link l l[i] with
    | none =>
      exact ⟨Nat.le_refl _, fun hr hg => ⟨l[i], hs, resA_zero h hs hr, hg _ hs, hl⟩⟩
    | some j =>
      have hj := h.link hs hl
      obtain ⟨h1, h2⟩ := ih j hj (by omega)
      dsimp only
      refine ⟨by omega, fun hr hg => h2 ?_ ?_⟩
      · rw [resA_link h hs (resA_zero h hs hr) (hg _ hs) hl] at hr; exact hr
      · obtain ⟨_, u, hu, hug⟩ := link_some hl
        intro s' hs'
        rw [hu] at hs'
        cases hs'
        exact hug
theorem OkS.arr (h : OkS l) {r : Nat} {t : SM} (hr : l[r]? = some t) (hg : t.given = false) (m : Nat) : OkS (l.set r ⟨m, t.val, t.given, t.frm⟩) := by
  intro k u hk
  rw [get_set] at hk
  by_cases e : k = r
  · subst e
    rw [if_pos rfl, if_pos (List.getElem?_eq_some_iff.1 hr).1] at hk
    cases hk
    exact ⟨fun x => by rw [hg] at x; (cases x), (h k t hr).2⟩
  · rw [if_neg e] at hk
    exact h k u hk
theorem link_arr {r : Nat} {t : SM} (hr : l[r]? = some t) (m : Nat) (u : SM) : link (l.set r ⟨m, t.val, t.given, t.frm⟩) u = link l u := by
  unfold link
  cases u.frm with
  | none => rfl
  | some j =>
    simp only [Option.bind_some]
    rw [get_set]
    by_cases e : j = r
    · subst e
      rw [if_pos rfl, if_pos (List.getElem?_eq_some_iff.1 hr).1, hr]
      rfl
    · rw [if_neg e]
theorem resA_become (h : OkS l) {r : Nat} {t : SM} (hrt : l[r]? = some t) (htg : t.given = false) (hta : t.arr = 0) (htl : link l t = none) (hm : m ≠ 0) :
    (∀ k s, l[k]? = some s → resA l k = 0 → s.given = false → rootA l k = r → resA (l.set r ⟨m, t.val, t.given, t.frm⟩) k = m) ∧ ∀ k, resA l k ≠ 0 → resA (l.set r ⟨m, t.val, t.given, t.frm⟩) k = resA l k := by
  have h' := h.arr hrt htg m
  have hrl := (List.getElem?_eq_some_iff.1 hrt).1
  have hr' : (l.set r ⟨m, t.val, t.given, t.frm⟩)[r]? = some ⟨m, t.val, t.given, t.frm⟩ := by rw [get_set, if_pos rfl, if_pos hrl]
  constructor
  · intro k
    induction k using Nat.strongRecOn with
    | ind k ih =>
      intro s hs hz hg hro
      by_cases e : k = r
      · subst e
        exact resA_arr h' hr' hm
      · have hs' : (l.set r ⟨m, t.val, t.given, t.frm⟩)[k]? = some s := by rw [get_set, if_neg e, hs]
        have ha := resA_zero h hs hz
        rw [rootA_eq h hs] at hro
        cases hl : Go.Proofs.Ytbpaiocbgbpiaaa.link l s with
        | none => rw [hl] at hro; exact absurd hro e
        | some j =>
          rw [hl] at hro
          obtain ⟨_, u, hu, hug⟩ := link_some hl
          rw [resA_link h hs ha hg hl] at hz
          rw [resA_link h' hs' ha hg (by rw [link_arr hrt]; exact hl)]
          exact ih j (h.link hs hl) u hu hz hug hro
  · intro k
    induction k using Nat.strongRecOn with
    | ind k ih =>
      intro hz
      cases hs : l[k]? with
      | none => simp [resA, res, hs] at hz
      | some s =>
        by_cases e : k = r
        · subst e
          rw [hrt] at hs
          cases hs
          rw [resA_end h hrt htl] at hz
          exact absurd hta hz
        · have hs' : (l.set r ⟨m, t.val, t.given, t.frm⟩)[k]? = some s := by rw [get_set, if_neg e, hs]
          rw [resA_eq h' hs', resA_eq h hs, link_arr hrt]
          rw [resA_eq h hs] at hz
          split
          · rfl
          · rename_i h1
            rw [if_neg h1] at hz
            split
            · rfl
            · rename_i h2
              rw [if_neg h2] at hz
              cases hl : Go.Proofs.Ytbpaiocbgbpiaaa.link l s with
              | none => rfl
              | some j =>
                rw [hl] at hz
                exact ih j (h.link hs hl) hz
end

/-! ### the state -/
structure FS where
  sl : List SM
  gl : ByteArray → Option Nat
  ca : List (ByteArray → Option Nat)
  n : Nat
def putN (f : ByteArray → Option Nat) (s : ByteArray) (i : Nat) (t : ByteArray) : Option Nat := if t.data.toList = s.data.toList then some i else f t
def FS.new : FS := ⟨[], fun _ => none, [], 0⟩
structure OkF (st : FS) : Prop where
  ok : OkS st.sl
  le : ∀ (i : Nat) (s : SM), st.sl[i]? = some s → s.arr ≤ st.n
  g : ∀ s i, st.gl s = some i → i < st.sl.length
  c : ∀ f ∈ st.ca, ∀ s i, f s = some i → i < st.sl.length
def callAt (st : FS) (s : ByteArray) : Option Nat := st.ca.getLast?.bind fun f => f s
def findS (st : FS) (s : ByteArray) : FS × Nat :=
  match callAt st s with
  | some i => (st, i)
  | none => match st.gl s with
    | some i => (st, i)
    | none => (⟨st.sl ++ [SM.blank], putN st.gl s st.sl.length, st.ca, st.n⟩, st.sl.length)
def slotS (st : FS) (i : Nat) : SM := st.sl[i]?.getD SM.blank
def kindS (st : FS) (s : ByteArray) : FS × Nat :=
  let (st1, i) := findS st s
  (st1, if resA st1.sl i ≠ 0 then 2 else if (slotS st1 i).given = true then 1 else 0)
def getS (st : FS) (s : ByteArray) : FS × CellT × Nat :=
  let (st1, i) := findS st s
  if resA st1.sl i ≠ 0 then (st1, noCell, 80) else (st1, (slotS st1 i).val, 0)
def valS (st : FS) (i : Nat) (c : CellT) : FS := ⟨st.sl.set i ⟨(slotS st i).arr, c, true, (slotS st i).frm⟩, st.gl, st.ca, st.n⟩
def setS (st : FS) (s : ByteArray) (c : CellT) : FS × Nat :=
  let (st1, i) := findS st s
  if resA st1.sl i ≠ 0 then (st1, 80) else (valS st1 i c, 0)
def becS (st : FS) (i : Nat) : FS :=
  let r := rootA st.sl i
  ⟨st.sl.set r ⟨st.n + 1, (slotS st r).val, (slotS st r).given, (slotS st r).frm⟩, st.gl, st.ca, st.n + 1⟩
def arrS (st : FS) (s : ByteArray) : FS × Nat × Nat :=
  let (st1, i) := findS st s
  if (slotS st1 i).given = true then (st1, 0, 80) else if resA st1.sl i ≠ 0 then (st1, resA st1.sl i, 0) else (becS st1 i, st1.n + 1, 0)
abbrev ArgT := Nat × ByteArray × CellT
def argS (st : FS) (a : ArgT) : FS × SM :=
  if a.1 ≠ 0 then (st, ⟨a.1, noCell, false, none⟩)
  else if a.2.1.data.toList = [] then (st, ⟨0, a.2.2, decide (a.2.2.1 ≠ 0), none⟩)
  else
    let (st1, i) := findS st a.2.1
    if resA st1.sl i ≠ 0 then (st1, ⟨resA st1.sl i, noCell, false, none⟩)
    else if (slotS st1 i).given = true then (st1, ⟨0, (slotS st1 i).val, true, none⟩)
    else (st1, ⟨0, noCell, false, some i⟩)
def addS (st : FS) (s : SM) : FS := ⟨st.sl ++ [s], st.gl, st.ca, st.n⟩
/-- One parameter more. -/
def parS (args : List ArgT) (x : FS × (ByteArray → Option Nat)) (i : Nat) (p : ByteArray) : FS × (ByteArray → Option Nat) :=
  match args[i]? with
  | some a => let (st1, s) := argS x.1 a; (addS st1 s, putN x.2 p st1.sl.length)
  | none => (addS x.1 SM.blank, putN x.2 p x.1.sl.length)
def parsS (args : List ArgT) (x : FS × (ByteArray → Option Nat)) : Nat → List ByteArray → FS × (ByteArray → Option Nat)
  | _, [] => x
  | i, p :: ps => parsS args (parS args x i p) (i + 1) ps
def pushS (st : FS) (ps : List ByteArray) (args : List ArgT) : FS × Nat :=
  if ps.length < args.length then (st, 1) else if 24 ≤ st.ca.length then (st, 4) else
    let (st1, f) := parsS args (st, fun _ => none) 0 ps
    (⟨st1.sl, st1.gl, st1.ca ++ [f], st1.n⟩, 0)
def popS (st : FS) : FS × Nat := if st.ca.length = 0 then (st, 1) else (⟨st.sl, st.gl, st.ca.dropLast, st.n⟩, 0)

section
variable {st : FS}
theorem OkF.new : OkF FS.new := ⟨fun i s h => by simp [FS.new] at h, fun i s h => by simp [FS.new] at h, fun s i h => by simp [FS.new] at h, fun f hf => by simp [FS.new] at hf⟩
theorem callAt_lt (h : OkF st) {s : ByteArray} {i : Nat} (hc : callAt st s = some i) : i < st.sl.length := by
  unfold callAt at hc
  cases hl : st.ca.getLast? with
  | none => rw [hl] at hc; cases hc
  | some f => rw [hl] at hc; exact h.c f (List.mem_of_getLast? hl) s i hc
theorem OkF.add (h : OkF st) (x : SM) (h1 : x.given = true → x.arr = 0) (h2 : ∀ j, x.frm = some j → j < st.sl.length) (h3 : x.arr ≤ st.n) : OkF (addS st x) := by
  refine ⟨h.ok.app x h1 h2, fun i s hi => ?_, fun s i hi => ?_, fun f hf s i hi => ?_⟩
  · rcases Nat.lt_or_ge i st.sl.length with hlt | hge
    · simp only [addS] at hi; rw [List.getElem?_append_left hlt] at hi; exact h.le i s hi
    · simp only [addS] at hi
      rw [List.getElem?_append_right hge] at hi
      rcases Nat.eq_zero_or_pos (i - st.sl.length) with e | e
      · rw [e] at hi; simp at hi; subst hi; exact h3
      · rw [List.getElem?_eq_none (by simp; omega)] at hi; cases hi
  · have := h.g s i hi; simp [addS]; omega
  · have := h.c f hf s i hi; simp [addS]; omega
theorem putN_lt {f : ByteArray → Option Nat} {n : Nat} (hf : ∀ s i, f s = some i → i < n) (s : ByteArray) {k : Nat} (hk : k < n) : ∀ t i, putN f s k t = some i → i < n := by
  intro t i h
  unfold putN at h
  split at h
  · cases h; exact hk
  · exact hf t i h
theorem findS_ok (h : OkF st) (s : ByteArray) : OkF (findS st s).1 ∧ (findS st s).2 < (findS st s).1.sl.length ∧ (findS st s).1.n = st.n ∧ (findS st s).1.ca = st.ca := by
  unfold findS
  cases hc : callAt st s with
  | some i => exact ⟨h, callAt_lt h hc, rfl, rfl⟩
  | none =>
    dsimp only
    cases hg : st.gl s with
    | some i => exact ⟨h, h.g s i hg, rfl, rfl⟩
    | none =>
      have h2 := h.add SM.blank (fun _ => rfl) (fun j hj => by simp [SM.blank] at hj) (Nat.zero_le _)
      refine ⟨⟨h2.ok, h2.le, ?_, h2.c⟩, by simp, rfl, rfl⟩
      exact putN_lt (fun t i hi => by have := h.g t i hi; simp; omega) s (by simp)
theorem slotS_get {i : Nat} (hi : i < st.sl.length) : st.sl[i]? = some (slotS st i) := by
  unfold slotS
  rw [List.getElem?_eq_getElem hi]
  rfl
theorem OkF.val (h : OkF st) {i : Nat} (hi : i < st.sl.length) (hr : resA st.sl i = 0) (c : CellT) : OkF (valS st i c) := by
  have hs := slotS_get hi
  refine ⟨h.ok.val hs hr c, fun k s hk => ?_, fun s k hk => ?_, fun f hf s k hk => ?_⟩
  · simp only [valS] at hk ⊢
    rw [get_set] at hk
    by_cases e : k = i
    · subst e
      rw [if_pos rfl, if_pos hi] at hk
      cases hk
      have := h.le k _ hs
      exact this
    · rw [if_neg e] at hk; exact h.le k s hk
  · have := h.g s k hk; simp [valS]; omega
  · have := h.c f hf s k hk; simp [valS]; omega
theorem OkF.bec (h : OkF st) {i : Nat} (hi : i < st.sl.length) (hr : resA st.sl i = 0) (hg : (slotS st i).given = false) : OkF (becS st i) := by
  have hs := slotS_get hi
  obtain ⟨h1, h2⟩ := rootA_lt h.ok i hi
  obtain ⟨t, ht, ha, htg, htl⟩ := h2 hr (fun s e => by rw [hs] at e; cases e; exact hg)
  have hrl := (List.getElem?_eq_some_iff.1 ht).1
  have hts : slotS st (rootA st.sl i) = t := by unfold slotS; rw [ht]; rfl
  unfold becS
  simp only [hts]
  refine ⟨h.ok.arr ht htg _, fun k s hk => ?_, fun s k hk => ?_, fun f hf s k hk => ?_⟩
  · dsimp only at hk ⊢
    rw [get_set] at hk
    by_cases e : k = rootA st.sl i
    · rw [if_pos e, if_pos (by omega)] at hk
      cases hk
      exact Nat.le_refl _
    · rw [if_neg e] at hk; have := h.le k s hk; omega
  · have := h.g s k hk; simp; omega
  · have := h.c f hf s k hk; simp; omega
end
end Go.Proofs.Ytbpaiocbgbpiaaa
