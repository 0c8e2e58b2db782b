/- What FrameBinds' variables are, told plainly. -/
import Derived.Test.YtbpaiocbgbpiaaaFrHidP
namespace Go.Proofs.Ytbpaiocbgbpiaaa
set_option linter.unusedVariables false

abbrev bX : ByteArray := ⟨#[120]⟩
abbrev bP : ByteArray := ⟨#[112]⟩
abbrev v7 : CellT := (1, 4619567317775286272, ⟨#[]⟩)
/-- The parameter of the i-th call: a value is given to the at-th one. -/
def slotB (at_ i : Nat) : SM := if i < at_ then ⟨0, noCell, false, some (i - 1)⟩ else if i = at_ then ⟨0, v7, true, some (i - 1)⟩ else ⟨0, v7, true, none⟩
/-- The first parameters of k calls; m calls are open; the variable of all is the array c. -/
structure BS (st : FS) (k m at_ c : Nat) : Prop where
  len : k + 1 ≤ st.sl.length
  le : st.sl.length ≤ 40
  s0 : st.sl[0]? = some ⟨c, noCell, false, none⟩
  si : ∀ i, 1 ≤ i → i ≤ k → st.sl[i]? = some (slotB at_ i)
  gx : st.gl bX = some 0
  gp : st.gl bP = none
  ca : st.ca = hidC bP m
  n : st.n = c
theorem putN_bX (m : Nat) : putN (fun _ => none) bP m bX = none := by unfold putN; rw [if_neg (by decide)]
theorem callAt_bX (st : FS) (m : Nat) (h : st.ca = hidC bP m) : callAt st bX = none := by
  unfold callAt
  rw [h]
  cases m with
  | zero => rfl
  | succ m => rw [hidC_snoc, List.getLast?_append]; simp [putN_bX]
section
variable {st : FS} {k m at_ at2 c : Nat}
theorem BS.far (h : BS st k m at_ c) (h1 : k < at_) (h2 : k < at2) : BS st k m at2 c :=
  ⟨h.len, h.le, h.s0, fun i hi hk => by
    rw [h.si i hi hk]
    unfold slotB
    rw [if_pos (by omega), if_pos (by omega)], h.gx, h.gp, h.ca, h.n⟩
theorem BS.findP (h : BS st k m at_ c) (hm : 1 ≤ m) : findS st bP = (st, m) := by
  unfold findS
  rw [callAt_hid bP st m h.ca, if_neg (by omega)]
theorem BS.findX (h : BS st k m at_ c) : findS st bX = (st, 0) := by
  unfold findS
  rw [callAt_bX st m h.ca, h.gx]
theorem BS.slot (h : BS st k m at_ c) {i : Nat} (h1 : 1 ≤ i) (h2 : i ≤ k) : slotS st i = slotB at_ i := by
  unfold slotS; rw [h.si i h1 h2]; rfl
theorem BS.slot0 (h : BS st k m at_ c) : slotS st 0 = ⟨c, noCell, false, none⟩ := by
  unfold slotS; rw [h.s0]; rfl
/-- No array is anywhere. -/
theorem res_none {l : List SM} (h : ∀ i s, l[i]? = some s → i ≤ k → s.arr = 0 ∧ ∀ j, s.frm = some j → j ≤ k) : ∀ f i, i ≤ k → res f l i = 0 := by
  intro f
  induction f with
  | zero => intro i _; rfl
  | succ f ih =>
    intro i hi
    unfold res
    cases hs : l[i]? with
    | none => rfl
    | some s =>
      obtain ⟨h1, h2⟩ := h i s hs hi
      dsimp only
      rw [if_neg (by omega)]
      split
      · rfl
      · cases hl : Go.Proofs.Ytbpaiocbgbpiaaa.link l s with
        | none => rfl
        | some j => exact ih j (h2 j (link_some hl).1)
theorem BS.res0 (h : BS st k m at_ 0) {i : Nat} (hi : i ≤ k) : resA st.sl i = 0 := by
  refine res_none (k := k) (fun j s hs hj => ?_) _ i hi
  rcases Nat.eq_zero_or_pos j with e | e
  · subst e
    rw [h.s0] at hs
    cases hs
    exact ⟨rfl, fun j hj => by cases hj⟩
  · rw [h.si j e hj] at hs
    cases hs
    unfold slotB
    split
    · exact ⟨rfl, fun q hq => by cases hq; omega⟩
    · split
      · exact ⟨rfl, fun q hq => by cases hq; omega⟩
      · exact ⟨rfl, fun q hq => by cases hq⟩
theorem BS.kindP (h : BS st k m at_ 0) (hm : 1 ≤ m) (hk : m ≤ k) : kindS st bP = (st, if m < at_ then 0 else 1) := by
  unfold kindS
  rw [h.findP hm]
  dsimp only
  rw [h.res0 hk, if_neg (by simp), h.slot hm hk]
  unfold slotB
  by_cases h1 : m < at_
  · rw [if_pos h1, if_pos h1, if_neg (by simp)]
  · rw [if_neg h1, if_neg h1]
    split <;> simp
theorem BS.kindX (h : BS st k m at_ 0) : kindS st bX = (st, 0) := by
  unfold kindS
  rw [h.findX]
  dsimp only
  rw [h.res0 (Nat.zero_le _), h.slot0]
  rfl
theorem BS.first : ∃ st', pushS FS.new [bP] [(0, bX, noCell)] = (st', 0) ∧ BS st' 1 1 2 0 ∧ st'.sl.length = 2 :=
  ⟨_, Prod.ext rfl (by decide +kernel), ⟨by decide +kernel, by decide +kernel, rfl, fun i h1 h2 => by
    obtain rfl : i = 1 := by omega
    rfl, rfl, rfl, rfl, rfl⟩, by decide +kernel⟩
theorem BS.push (h : BS st k k at_ 0) (hk : 1 ≤ k) (hk2 : k < 24) (hl : st.sl.length = k + 1) : ∃ st', pushS st [bP] [(0, bP, noCell)] = (st', 0) ∧ BS st' (k + 1) (k + 1) (if k < at_ then k + 2 else at_) 0 ∧ st'.sl.length = k + 2 := by
  have ha : argS st (0, bP, noCell) = (st, if k < at_ then ⟨0, noCell, false, some k⟩ else ⟨0, v7, true, none⟩) := by
    unfold argS
    rw [if_neg (by simp), if_neg (by decide), h.findP hk]
    dsimp only
    rw [h.res0 (Nat.le_refl _), if_neg (by simp), h.slot hk (Nat.le_refl _)]
    unfold slotB
    by_cases h1 : k < at_
    · rw [if_pos h1, if_pos h1, if_neg (by simp)]
    · rw [if_neg h1, if_neg h1]
      split <;> simp
  have hp : parsS [(0, bP, noCell)] (st, fun _ => none) 0 [bP] = (addS st (if k < at_ then ⟨0, noCell, false, some k⟩ else ⟨0, v7, true, none⟩), putN (fun _ => none) bP (k + 1)) := by
    simp only [parsS, parS, List.getElem?_cons_zero, ha, hl]
  refine ⟨_, by
    unfold pushS
    rw [if_neg (by simp), if_neg (by rw [h.ca, hidC_len]; omega), hp], ?_, by simp [addS, hl]⟩
  refine ⟨by simp [addS, hl], by simp [addS, hl]; omega, ?_, fun i h1 h2 => ?_, h.gx, h.gp, ?_, h.n⟩
  · simp only [addS]
    rw [List.getElem?_append_left (by omega)]; exact h.s0
  · simp only [addS]
    rcases Nat.lt_or_ge i (k + 1) with h3 | h3
    · rw [List.getElem?_append_left (by omega), h.si i h1 (by omega)]
      unfold slotB
      by_cases h4 : k < at_
      · rw [if_pos h4, if_pos (by omega), if_pos (by omega)]
      · rw [if_neg h4]
    · obtain rfl : i = k + 1 := by omega
      rw [List.getElem?_append_right (by omega), hl, Nat.sub_self]
      simp only [List.getElem?_cons_zero]
      unfold slotB
      by_cases h4 : k < at_
      · rw [if_pos h4, if_pos h4, if_pos (by omega)]
        rfl
      · rw [if_neg h4, if_neg h4, if_neg (by omega), if_neg (by omega)]
  · simp only [addS]
    rw [h.ca, hidC_snoc]
theorem BS.set (h : BS st k k (k + 1) 0) (hk : 1 ≤ k) (hl : st.sl.length = k + 1) : ∃ st', setS st bP v7 = (st', 0) ∧ BS st' k k k 0 ∧ st'.sl.length = k + 1 := by
  refine ⟨valS st k v7, ?_, ?_, by simp [valS, hl]⟩
  · unfold setS
    rw [h.findP hk]
    dsimp only
    rw [h.res0 (Nat.le_refl _), if_neg (by simp)]
  · refine ⟨by simp [valS, hl], by simp [valS]; exact h.le, ?_, fun i h1 h2 => ?_, h.gx, h.gp, h.ca, h.n⟩
    · simp only [valS]; rw [get_set, if_neg (by omega)]; exact h.s0
    · simp only [valS]
      rw [get_set]
      by_cases e : i = k
      · subst e
        rw [if_pos rfl, if_pos (by omega), h.slot h1 (Nat.le_refl _)]
        unfold slotB
        rw [if_pos (by omega), if_neg (by omega), if_pos rfl]
      · rw [if_neg e, h.si i h1 h2]
        unfold slotB
        rw [if_pos (by omega), if_pos (by omega)]
theorem BS.many (h : BS st k 24 at_ 0) : pushS st [bP] [(0, bP, noCell)] = (st, 4) := by
  unfold pushS
  rw [if_neg (by simp), if_pos (by rw [h.ca, hidC_len]; exact Nat.le_refl _)]
theorem BS.pop (h : BS st k (m + 1) at_ c) : ∃ st', popS st = (st', 0) ∧ BS st' k m at_ c := by
  refine ⟨⟨st.sl, st.gl, st.ca.dropLast, st.n⟩, by unfold popS; rw [if_neg (by rw [h.ca, hidC_len]; omega)], ⟨h.len, h.le, h.s0, h.si, h.gx, h.gp, ?_, h.n⟩⟩
  rw [h.ca, hidC_snoc]
  simp
theorem BS.less (h : BS st (k + 1) m at_ c) : BS st k m at_ c := ⟨by have := h.len; omega, h.le, h.s0, fun i h1 h2 => h.si i h1 (by omega), h.gx, h.gp, h.ca, h.n⟩
theorem BS.popE (h : BS st k 0 at_ c) : popS st = (st, 1) := by
  unfold popS
  rw [if_pos (by rw [h.ca, hidC_len])]
theorem BS.arrNo (h : BS st k m at_ 0) (hm : 1 ≤ m) (hk : m ≤ k) (ha : at_ ≤ m) : arrS st bP = (st, 0, 80) := by
  unfold arrS
  rw [h.findP hm]
  dsimp only
  rw [h.slot hm hk]
  have : (slotB at_ m).given = true := by
    unfold slotB
    rw [if_neg (by omega)]
    split <;> rfl
  rw [if_pos this]
/-- A chain: each parameter comes from the one before it. -/
theorem BS.chain (h : BS st k m at_ c) (ha : k < at_) : ∀ i, i ≤ k → ∀ f, i < f → res f st.sl i = c ∧ root f st.sl i = 0 := by
  intro i
  induction i with
  | zero =>
    intro _ f hf
    obtain ⟨f, rfl⟩ : ∃ g, f = g + 1 := ⟨f - 1, by omega⟩
    unfold res root
    rw [h.s0]
    dsimp only
    refine ⟨?_, rfl⟩
    split
    · rfl
    · rename_i hz
      have : link st.sl ⟨c, noCell, false, none⟩ = none := rfl
      rw [this]
      simp at hz ⊢
      exact hz.symm
  | succ i ih =>
    intro hi f hf
    obtain ⟨f, rfl⟩ : ∃ g, f = g + 1 := ⟨f - 1, by omega⟩
    have hs := h.si (i + 1) (by omega) hi
    have hb : slotB at_ (i + 1) = ⟨0, noCell, false, some i⟩ := by unfold slotB; rw [if_pos (by omega)]; rfl
    rw [hb] at hs
    obtain ⟨t, ht, hg⟩ : ∃ t, st.sl[i]? = some t ∧ t.given = false := by
      rcases Nat.eq_zero_or_pos i with e | e
      · subst e; exact ⟨_, h.s0, rfl⟩
      · refine ⟨_, h.si i e (by omega), ?_⟩
        unfold slotB; rw [if_pos (by omega)]
    have hl : link st.sl ⟨0, noCell, false, some i⟩ = some i := link_of rfl ht hg
    unfold res root
    rw [hs]
    dsimp only
    rw [if_neg (by simp), if_neg (by simp), hl]
    exact ih (by omega) f (by omega)
theorem BS.chainR (h : BS st k m at_ c) (ha : k < at_) {i : Nat} (hi : i ≤ k) : resA st.sl i = c ∧ rootA st.sl i = 0 := h.chain ha i hi _ (Nat.lt_succ_self i)
theorem BS.arr1 (h : BS st k m at_ 0) (hm : 1 ≤ m) (hk : m ≤ k) (ha : k < at_) : ∃ st', arrS st bP = (st', 1, 0) ∧ BS st' k m at_ 1 := by
  obtain ⟨h1, h2⟩ := h.chainR ha hk
  refine ⟨becS st m, ?_, ?_⟩
  · unfold arrS
    rw [h.findP hm]
    dsimp only
    have hsb : slotB at_ m = ⟨0, noCell, false, some (m - 1)⟩ := by unfold slotB; rw [if_pos (by omega)]
    rw [h.slot hm hk, h1, h.n, hsb]
    rfl
  · unfold becS
    simp only [h2, h.n, h.slot0]
    refine ⟨by simp; exact h.len, by simp; exact h.le, ?_, fun i hi hik => ?_, h.gx, h.gp, h.ca, rfl⟩
    · dsimp only
      rw [get_set, if_pos rfl, if_pos (by have := h.len; omega)]
    · dsimp only
      rw [get_set, if_neg (by omega)]
      exact h.si i hi hik
theorem BS.arrP (h : BS st k m at_ 1) (hm : 1 ≤ m) (hk : m ≤ k) (ha : k < at_) : arrS st bP = (st, 1, 0) := by
  obtain ⟨h1, h2⟩ := h.chainR ha hk
  unfold arrS
  rw [h.findP hm]
  dsimp only
  have hsb : slotB at_ m = ⟨0, noCell, false, some (m - 1)⟩ := by unfold slotB; rw [if_pos (by omega)]
  rw [h.slot hm hk, h1, hsb]
  rfl
theorem BS.arrX (h : BS st k m at_ 1) (ha : k < at_) : arrS st bX = (st, 1, 0) := by
  obtain ⟨h1, h2⟩ := h.chainR ha (Nat.zero_le k)
  unfold arrS
  rw [h.findX]
  dsimp only
  rw [h.slot0, h1]
  rfl
theorem BS.kindEnd (h : BS st k 0 at_ c) : ∃ st', kindS st bP = (st', 0) := by
  have hf : findS st bP = (⟨st.sl ++ [SM.blank], putN st.gl bP st.sl.length, st.ca, st.n⟩, st.sl.length) := by
    unfold findS
    rw [callAt_hid bP st 0 h.ca, if_pos rfl]
    dsimp only
    rw [h.gp]
  have hs : (st.sl ++ [SM.blank])[st.sl.length]? = some SM.blank := by simp
  refine ⟨_, by
    unfold kindS
    rw [hf]
    dsimp only
    have : resA (st.sl ++ [SM.blank]) st.sl.length = 0 := by
      unfold resA res
      rw [hs]
      rfl
    rw [this, if_neg (by simp)]
    unfold slotS
    dsimp only
    rw [hs]
    rfl⟩
end
end Go.Proofs.Ytbpaiocbgbpiaaa
