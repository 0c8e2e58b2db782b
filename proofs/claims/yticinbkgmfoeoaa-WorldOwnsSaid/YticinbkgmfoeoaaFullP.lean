/- What WorldFull looks at, in plain words. -/
import Derived.Test.YticinbkgmfoeoaaWdWE
namespace Go.Proofs.Yticinbkgmfoeoaa
open Go.RowKit
set_option linter.unusedVariables false

/-- What the law keeps of the acts: the files, the pipes, the bytes. -/
abbrev FS := List ByteArray × List ByteArray × Nat
def lessF (l : List ByteArray) (s : ByteArray) : List ByteArray := l.filter (fun x => !decide (x = s))
def stepF (s : FS) (a : AT) : FS :=
  (if a.1 = 2 ∨ a.1 = 3 then s.1 ++ [a.2.1] else if a.1 = 7 then lessF s.1 a.2.1 else s.1,
   if a.1 = 4 then s.2.1 ++ [a.2.1] else if a.1 = 8 then lessF s.2.1 a.2.1 else s.2.1,
   s.2.2 + a.2.2.size)
def okF (s : FS) (a : AT) : Prop := (a.1 = 5 → a.2.1 ∈ s.1) ∧ (a.1 = 6 → a.2.1 ∈ s.2.1) ∧ (stepF s a).1.length + (stepF s a).2.1.length ≤ 8
def runF (l : List AT) : FS := l.foldl stepF ([], [], 0)
theorem runF_snoc (l : List AT) (a : AT) : runF (l ++ [a]) = stepF (runF l) a := by simp [runF]
def goodF (l : List AT) : Prop := ∀ (j : Nat) (h : j < l.length), okF (runF (l.take j)) l[j]
theorem goodF_snoc {l : List AT} {a : AT} (h : goodF l) (ha : okF (runF l) a) : goodF (l ++ [a]) := by
  intro j hj
  rcases Nat.lt_or_ge j l.length with hl | hl
  · rw [List.take_append_of_le_length (by omega), List.getElem_append_left hl]
    exact h j hl
  · have : j = l.length := by simp at hj; omega
    subst this
    rw [List.take_left, List.getElem_concat_length rfl]
    exact ha
def opF (op : List ST) : List ByteArray := (op.filter (fun s => !s.1)).map (·.2)
def opP (op : List ST) : List ByteArray := (op.filter (fun s => s.1)).map (·.2)
theorem op_len (op : List ST) : (opF op).length + (opP op).length = op.length := by
  induction op with
  | nil => rfl
  | cons s op ih =>
    obtain ⟨p, n⟩ := s
    cases p <;> simp [opF, opP] at ih ⊢ <;> omega
theorem opF_snoc (op : List ST) (s : ST) : opF (op ++ [s]) = if s.1 = true then opF op else opF op ++ [s.2] := by
  obtain ⟨p, n⟩ := s
  cases p <;> simp [opF]
theorem opP_snoc (op : List ST) (s : ST) : opP (op ++ [s]) = if s.1 = true then opP op ++ [s.2] else opP op := by
  obtain ⟨p, n⟩ := s
  cases p <;> simp [opP]
theorem mem_opF {op : List ST} {n : ByteArray} : n ∈ opF op ↔ (false, n) ∈ op := by
  simp [opF]
theorem mem_opP {op : List ST} {n : ByteArray} : n ∈ opP op ↔ (true, n) ∈ op := by
  simp [opP]
/-- All but one that was open. -/
def butS (op : List ST) (s : ST) : List ST := op.filter (fun x => !decide (x = s))
theorem opF_but (op : List ST) (s : ST) : opF (butS op s) = if s.1 = true then opF op else lessF (opF op) s.2 := by
  obtain ⟨p, n⟩ := s
  unfold opF butS lessF
  rw [List.filter_filter]
  induction op with
  | nil => cases p <;> rfl
  | cons x op ih =>
    obtain ⟨q, m⟩ := x
    cases p <;> cases q <;> simp_all
    by_cases h : m = n <;> simp_all
theorem opP_but (op : List ST) (s : ST) : opP (butS op s) = if s.1 = true then lessF (opP op) s.2 else opP op := by
  obtain ⟨p, n⟩ := s
  unfold opP butS lessF
  rw [List.filter_filter]
  induction op with
  | nil => cases p <;> rfl
  | cons x op ih =>
    obtain ⟨q, m⟩ := x
    cases p <;> cases q <;> simp_all
    by_cases h : m = n <;> simp_all
/-- What stands between the calls. -/
structure Full (op : List ST) (ac : List AT) (size : Int) : Prop where
  good : goodF ac
  run : runF ac = (opF op, opP op, size.toNat)
  nn : 0 ≤ size
  le : size ≤ 16384
  few : op.length ≤ 8
theorem Full.nil : Full [] [] 0 := ⟨fun j h => absurd h (Nat.not_lt_zero j), rfl, by decide, by decide, by decide⟩
section
variable {op : List ST} {ac : List AT} {size : Int}
theorem Full.step (h : Full op ac size) (a : AT) (op' : List ST) (h1 : a.1 = 5 → (false, a.2.1) ∈ op) (h2 : a.1 = 6 → (true, a.2.1) ∈ op)
    (e : stepF (opF op, opP op, size.toNat) a = (opF op', opP op', (size + a.2.2.size).toNat)) (hs : size + a.2.2.size ≤ 16384) (hf : op'.length ≤ 8) : Full op' (ac ++ [a]) (size + a.2.2.size) := by
  have hr := h.run
  have h0 := h.nn
  refine ⟨goodF_snoc h.good ?_, by rw [runF_snoc, hr, e], by omega, hs, hf⟩
  rw [hr]
  refine ⟨fun x => mem_opF.2 (h1 x), fun x => mem_opP.2 (h2 x), ?_⟩
  rw [e]
  have := op_len op'
  dsimp only
  omega
theorem Full.put (h : Full op ac size) (k : Int) (nm dt : ByteArray) (hk : k = 1 ∨ k = 5 ∧ (false, nm) ∈ op ∨ k = 6 ∧ (true, nm) ∈ op) (hs : ¬ 16384 - size < (dt.size : Int)) : Full op (ac ++ [(k, nm, dt)]) (size + dt.size) := by
  have h0 := h.nn
  refine h.step (k, nm, dt) op ?_ ?_ ?_ (by dsimp only; omega) h.few
  · intro e; dsimp only at e ⊢; rcases hk with r | ⟨r, r2⟩ | ⟨r, r2⟩ <;> first | omega | exact r2
  · intro e; dsimp only at e ⊢; rcases hk with r | ⟨r, r2⟩ | ⟨r, r2⟩ <;> first | omega | exact r2
  · unfold stepF
    dsimp only
    rw [if_neg (by omega), if_neg (by omega), if_neg (by omega), if_neg (by omega)]
    congr 2
    omega
theorem Full.opens (h : Full op ac size) (k : Int) (p : Bool) (nm : ByteArray) (hk : (k = 2 ∨ k = 3) ∧ p = false ∨ k = 4 ∧ p = true) (hn : op.length < 8) : Full (op ++ [(p, nm)]) (ac ++ [(k, nm, ⟨#[]⟩)]) size := by
  have h0 := h.nn
  have h1 := h.le
  have e0 : size = size + ((⟨#[]⟩ : ByteArray).size : Int) := by
    have : (⟨#[]⟩ : ByteArray).size = 0 := rfl
    omega
  conv => rhs; rw [e0]
  refine h.step (k, nm, ⟨#[]⟩) (op ++ [(p, nm)]) ?_ ?_ ?_ (by dsimp only; omega) (by simp; omega)
  · intro e; dsimp only at e; omega
  · intro e; dsimp only at e; omega
  · unfold stepF
    rw [opF_snoc, opP_snoc]
    dsimp only
    rcases hk with ⟨r, rfl⟩ | ⟨r, rfl⟩
    · rw [if_pos (by omega), if_neg (by omega), if_neg (by omega), if_neg (by decide), if_neg (by decide)]
      congr 2
      omega
    · rw [if_neg (by omega), if_neg (by omega), if_pos (by omega), if_pos rfl, if_pos rfl]
      congr 2
      omega
theorem Full.shut (h : Full op ac size) (s : ST) : Full (butS op s) (ac ++ [(shutK s, s.2, ⟨#[]⟩)]) size := by
  have h0 := h.nn
  have h1 := h.le
  have h2 := h.few
  have e0 : size = size + ((⟨#[]⟩ : ByteArray).size : Int) := by
    have : (⟨#[]⟩ : ByteArray).size = 0 := rfl
    omega
  have hk : shutK s = if s.1 = true then 8 else 7 := rfl
  conv => rhs; rw [e0]
  refine h.step (shutK s, s.2, ⟨#[]⟩) (butS op s) ?_ ?_ ?_ (by dsimp only; omega) ?_
  · intro e; dsimp only at e; rw [hk] at e; split at e <;> omega
  · intro e; dsimp only at e; rw [hk] at e; split at e <;> omega
  · unfold stepF
    rw [opF_but, opP_but, hk]
    dsimp only
    by_cases hp : s.1 = true
    · simp only [if_pos hp]
      rw [if_neg (by omega), if_neg (by omega), if_neg (by omega), if_pos trivial]
      congr 2
      omega
    · simp only [if_neg hp]
      rw [if_neg (by omega), if_pos trivial, if_neg (by omega), if_neg (by omega)]
      congr 2
      omega
  · exact Nat.le_trans (List.length_filter_le _ _) h2
theorem Full.shutAll (L : List ST) : ∀ {op : List ST} {ac : List AT}, Full op ac size → Full (op.filter (fun x => !hasS L x)) (ac ++ shutS L) size := by
  induction L with
  | nil =>
    intro op ac h
    have e : op.filter (fun x => !hasS [] x) = op := List.filter_eq_self.2 (fun x hx => rfl)
    rw [e]
    simpa [shutS] using h
  | cons s L ih =>
    intro op ac h
    have h2 := ih (h.shut s)
    have e1 : ac ++ shutS (s :: L) = ac ++ [(shutK s, s.2, ⟨#[]⟩)] ++ shutS L := by simp [shutS]
    have e2 : op.filter (fun x => !hasS (s :: L) x) = (butS op s).filter (fun x => !hasS L x) := by
      unfold butS
      rw [List.filter_filter]
      congr 1
      funext x
      unfold hasS
      by_cases hx : s = x
      · subst hx; simp
      · have hx2 : ¬ x = s := fun e => hx e.symm
        simp [hx, hx2]
    rw [e1, e2]
    exact h2
theorem Full.close (h : Full op ac size) (nm : ByteArray) : Full (keepS op nm) (ac ++ shutS (goneS op nm)) size := by
  have h2 := Full.shutAll (goneS op nm) h
  have e : op.filter (fun x => !hasS (goneS op nm) x) = keepS op nm := by
    unfold keepS
    refine List.filter_congr fun x hx => ?_
    congr 1
    rw [Bool.eq_iff_iff, hasS_iff]
    simp [goneS, hx]
  rw [e] at h2
  exact h2
theorem Full.end (h : Full op ac size) : Full [] (ac ++ shutS op) size := by
  have h2 := Full.shutAll op h
  have e : op.filter (fun x => !hasS op x) = [] := by
    rw [List.filter_eq_nil_iff]
    intro x hx
    rw [hasS_iff.2 hx]
    decide
  rw [e] at h2
  exact h2
theorem Full.write (h : Full op ac size) (to : Int) (nm dt : ByteArray) : Full (wrS op ac size to nm dt).2.1 (wrS op ac size to nm dt).2.2.1 (wrS op ac size to nm dt).2.2.2 ∧ (wrS op ac size to nm dt).2.2.1.length ≤ ac.length + 2 := by
  unfold wrS
  split
  · exact ⟨h, by simp⟩
  · next h1 =>
    split
    · exact ⟨h, by simp⟩
    · next h2 =>
      split
      · next h3 => exact ⟨h.put 1 _ dt (.inl rfl) h2, by simp⟩
      · next h3 =>
        have hto : to = 2 ∨ to = 3 ∨ to = 4 := by omega
        split
        · next h4 =>
          rw [hasS_iff] at h4
          refine ⟨h.put _ _ dt ?_ h2, by simp⟩
          rcases hto with rfl | rfl | rfl
          · exact .inr (.inl ⟨rfl, h4⟩)
          · exact .inr (.inl ⟨rfl, h4⟩)
          · exact .inr (.inr ⟨rfl, h4⟩)
        · split
          · exact ⟨h, by simp⟩
          · next h5 =>
            refine ⟨(h.opens (kO to) (decide (to = 4)) nm ?_ (by omega)).put _ _ dt ?_ h2, by simp⟩
            · rcases hto with rfl | rfl | rfl
              · exact .inl ⟨.inl rfl, rfl⟩
              · exact .inl ⟨.inr rfl, rfl⟩
              · exact .inr ⟨rfl, rfl⟩
            · rcases hto with rfl | rfl | rfl
              · exact .inr (.inl ⟨rfl, by simp⟩)
              · exact .inr (.inl ⟨rfl, by simp⟩)
              · exact .inr (.inr ⟨rfl, by simp⟩)
end

end Go.Proofs.Yticinbkgmfoeoaa
