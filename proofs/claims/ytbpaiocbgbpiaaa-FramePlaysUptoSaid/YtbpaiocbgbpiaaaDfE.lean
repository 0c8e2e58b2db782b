/- The document's variables: how a slot lies; Seen, walked. -/
import Derived.Test.YtbpaiocbgbpiaaaDfC
namespace Go.Proofs.Ytbpaiocbgbpiaaa
open Go.RowKit
set_option linter.unusedVariables false
set_option linter.unusedSimpArgs false

theorem flat_get {α : Type} {C : α → List Value} {k : Nat} (hC : ∀ x, (C x).length = k) : ∀ (l : List α) {i r : Nat} {x : α}, l[i]? = some x → r < k → (l.flatMap C)[i * k + r]? = (C x)[r]? := by
  intro l
  induction l with
  | nil => intro i r x h; simp at h
  | cons y l ih =>
    intro i r x h hr
    cases i with
    | zero =>
      simp at h
      subst h
      rw [List.flatMap_cons, Nat.zero_mul, Nat.zero_add, List.getElem?_append_left (by rw [hC]; exact hr)]
    | succ i =>
      rw [List.flatMap_cons, List.getElem?_append_right (by rw [hC, Nat.succ_mul]; omega), hC]
      rw [← ih (i := i) (r := r) (x := x) (by simpa using h) hr]
      congr 1
      rw [Nat.succ_mul]; omega
theorem flat_set {α : Type} {C : α → List Value} {k : Nat} (hC : ∀ x, (C x).length = k) : ∀ (l : List α) {i r : Nat} {x x' : α} {u : Value}, l[i]? = some x → r < k → C x' = (C x).set r u → (l.flatMap C).set (i * k + r) u = (l.set i x').flatMap C := by
  intro l
  induction l with
  | nil => intro i r x x' u h; simp at h
  | cons y l ih =>
    intro i r x x' u h hr he
    cases i with
    | zero =>
      simp at h
      subst h
      rw [List.flatMap_cons, Nat.zero_mul, Nat.zero_add, List.set_append_left _ _ (by rw [hC]; exact hr), ← he]
      rfl
    | succ i =>
      rw [List.flatMap_cons, List.set_append_right _ _ (by rw [hC, Nat.succ_mul]; omega), hC, show (i + 1) * k + r - k = i * k + r by rw [Nat.succ_mul]; omega, ih (i := i) (by simpa using h) hr he]
      rfl
theorem zip_set {α β : Type} : ∀ (a : List α) (b : List β) (i : Nat) (x : α) (y : β), (a.set i x).zip (b.set i y) = (a.zip b).set i (x, y) := by
  intro a
  induction a with
  | nil => intro b i x y; simp
  | cons a l ih =>
    intro b i x y
    cases b with
    | nil => simp
    | cons b r =>
      cases i with
      | zero => simp
      | succ i => simp [ih]
theorem zip_at {sl : List SM} {ps : List Nat} {i : Nat} {s : SM} {p : Nat} (hs : sl[i]? = some s) (hp : ps[i]? = some p) : (sl.zip ps)[i]? = some (s, p) := by
  rw [List.getElem?_zip_eq_some]; exact ⟨hs, hp⟩
theorem set_self {α : Type} {l : List α} {i : Nat} {x : α} (h : l[i]? = some x) : l.set i x = l := by
  obtain ⟨h1, rfl⟩ := List.getElem?_eq_some_iff.1 h
  exact List.set_getElem_self h1
theorem sl24_len (x : SM × Nat) : (sl24 x.1 x.2).length = 6 := rfl
theorem slsV_set {sl : List SM} {ps : List Nat} {i r : Nat} {s s' : SM} {p p' : Nat} {u : Value} (hs : sl[i]? = some s) (hp : ps[i]? = some p) (hr : r < 6) (he : sl24 s' p' = (sl24 s p).set r u) : (slsV sl ps).set (i * 6 + r) u = slsV (sl.set i s') (ps.set i p') := by
  unfold slsV
  rw [zip_set]
  exact flat_set (C := fun x : SM × Nat => sl24 x.1 x.2) sl24_len _ (x' := (s', p')) (zip_at hs hp) hr he
section
variable {m : Nat} {vS vGN vGS vC : Value} {ps : List Nat} {gp : List (ByteArray × Nat)} {cp : List CallT} {st : FS} {w : World} {i : Nat} {s : SM} {p : Nat}
/-- Where a variable lies. -/
theorem DF.slot (h : DF m vS vGN vGS vC ps gp cp st w) (hs : st.sl[i]? = some s) (hp : ps[i]? = some p) :
    ∃ g cap, vS = .slice (some ⟨g, 0, none⟩) st.sl.length cap ∧ w.ownsRow 0 93 6 vS st.sl.length (slsV st.sl ps) ∧ g ≠ m ∧ g < w.heap.size ∧ (∀ r u, (sl24 s p)[r]? = some u → w.cell? ⟨g, i * 6 + r, none⟩ = some u) ∧ ∀ j, w.frozen? ⟨g, j, none⟩ = false := by
  have hi := (List.getElem?_eq_some_iff.1 hs).1
  rcases h.sl with h1 | ⟨h1, _⟩
  · obtain ⟨g, cap, rfl, _, hlt⟩ := h1.form (by omega)
    have hgm : g ≠ m := fun e => by
      subst e
      obtain ⟨c, hc⟩ := own_obj h1 (j := g) rfl
      rw [h.hd] at hc
      simp at hc
    refine ⟨g, cap, rfl, h1, hgm, (h1.lt g rfl).2, fun r u hu => ?_, fun j => h1.frozenAt j⟩
    have hr : r < 6 := (List.getElem?_eq_some_iff.1 hu).1
    rw [h1.cellAt _ (by omega), ← hu]
    exact flat_get (C := fun x : SM × Nat => sl24 x.1 x.2) sl24_len _ (zip_at hs hp) hr
  · omega
theorem DF.arrAt (h : DF m vS vGN vGS vC ps gp cp st w) (hs : st.sl[i]? = some s) : ∃ p, ps[i]? = some p ∧ (p = 0 ∨ p = resA st.sl i) ∧ (s.arr ≠ 0 → p = s.arr) := by
  have hi := (List.getElem?_eq_some_iff.1 hs).1
  have hp : ps[i]? = some (ps[i]'(by rw [h.pl]; exact hi)) := List.getElem?_eq_getElem _
  exact ⟨_, hp, h.pok i s _ hs hp⟩
/-- A cell of a variable written: the rest stands. -/
theorem DF.wrote (h : DF m vS vGN vGS vC ps gp cp st w) {w' : World} {st' : FS} {ps' : List Nat} (hl : st'.sl.length = st.sl.length) (hpl : ps'.length = ps.length) (hg : st'.gl = st.gl) (hc : st'.ca = st.ca) (hn : st'.n = st.n)
    (hok : ∀ (i : Nat) (s : SM) (p : Nat), st'.sl[i]? = some s → ps'[i]? = some p → (p = 0 ∨ p = resA st'.sl i) ∧ (s.arr ≠ 0 → p = s.arr)) {g : Nat} (hgv : vS.ownBlock = some g) (hgm : g ≠ m) (ht : Turn w w' (fun j => j = g))
    (hs : w'.ownsRow 0 93 6 vS st.sl.length (slsV st'.sl ps')) : DF m vS vGN vGS vC ps' gp cp st' w' := by
  obtain ⟨c, hgd⟩ := h.sl.obj hgv
  have hX : ∀ j, j = g → ¬ ((∃ cs, w.heap[j]? = some (.cells cs 9 (0, 0))) ∨ ∃ cs, w.heap[j]? = some (.cells cs 3 (0, 0))) := fun j e hc => by
    subst e
    rw [hgd] at hc
    rcases hc with ⟨cs, hc⟩ | ⟨cs, hc⟩ <;> simp at hc
  have hcr : OwnZ w' 0 56 2 vC st.ca.length (cp.flatMap fun c => [c.1.1, c.1.2]) := h.cr.same fun j hj => ht.block j (h.cr.lt hj).2 fun e => by
    subst e
    obtain ⟨cs, hcs⟩ := h.cr.obj hj
    rw [hgd] at hcs
    simp at hcs
  exact ⟨by rw [hn]; exact (ht.block m (Array.getElem?_eq_some_iff.1 h.hd).1 (fun e => hgm e.symm)).trans h.hd, by rw [hpl, h.pl, hl], hok, by rw [hl]; exact .inl hs, h.gn.turn ht hX, by rw [hg]; exact h.g, by rw [hc]; exact hcr, by rw [hc]; exact h.cl, fun k c hk => ⟨(h.ce k c hk).1.turn ht hX, by rw [hc]; exact (h.ce k c hk).2⟩, by rw [hl]; exact h.gb, fun k c hk => (by rw [hl]; exact h.cb k c hk), h.lv⟩
/-- The array's number told. -/
theorem DF.cache (h : DF m vS vGN vGS vC ps gp cp st w) (hok : OkF st) {g cap : Nat} (hv : vS = .slice (some ⟨g, 0, none⟩) st.sl.length cap) (hgm : g ≠ m) (hs : st.sl[i]? = some s) {a : Nat} (ha : a = 0 ∨ a = resA st.sl i) (ha2 : s.arr ≠ 0 → a = s.arr) :
    DF m vS vGN vGS vC (ps.set i a) gp cp st (w.setCell ⟨g, i * 6 + 4, none⟩ (.int .i64 (a : Int))) ∧ Turn w (w.setCell ⟨g, i * 6 + 4, none⟩ (.int .i64 (a : Int))) (fun j => vS.ownBlock = some j) := by
  have hi := (List.getElem?_eq_some_iff.1 hs).1
  obtain ⟨p, hp, _⟩ := h.arrAt hs
  subst hv
  have h1 : w.ownsRow 0 93 6 (.slice (some ⟨g, 0, none⟩) st.sl.length cap) st.sl.length (slsV st.sl ps) := by
    rcases h.sl with h1 | ⟨h1, _⟩
    · exact h1
    · omega
  obtain ⟨h2, h3⟩ := h1.stored (i * 6 + 4) (.int .i64 (a : Int))
  rw [slsV_set (s' := s) (p' := a) hs hp (by omega) rfl, set_self hs] at h2
  have ht : Turn w (w.setCell ⟨g, i * 6 + 4, none⟩ (.int .i64 (a : Int))) (fun j => j = g) := (Turn.refl w _).setCell _ _ (fun _ => rfl)
  refine ⟨h.wrote rfl (by simp) rfl rfl rfl (fun k t q hk hq => ?_) rfl hgm ht h2, ht.mono fun j e => ?_⟩
  · by_cases e : k = i
    · subst e
      rw [hs] at hk
      cases hk
      rw [List.getElem?_set_self (by rw [h.pl]; exact hi)] at hq
      cases hq
      exact ⟨ha, ha2⟩
    · rw [List.getElem?_set_ne (fun x => e x.symm)] at hq
      exact h.pok k t q hk hq
  · subst e; rfl
end
/-- What Seen answers. -/
def SeenX (m : Nat) (vS vGN vGS vC : Value) (gp : List (ByteArray × Nat)) (cp : List CallT) (st : FS) (i : Nat) (w : World) (e : Ending) (w' : World) : Prop := e = .returned (.int .i64 (resA st.sl i : Int)) ∧ (∃ ps', DF m vS vGN vGS vC ps' gp cp st w') ∧ Turn w w' (fun j => vS.ownBlock = some j)
theorem sl24_at {w : World} {g i : Nat} {s : SM} {p : Nat} (h : ∀ r u, (sl24 s p)[r]? = some u → w.cell? ⟨g, i * 6 + r, none⟩ = some u) : w.cell? ⟨g, i * 6, none⟩ = some (.int .i64 s.val.1) ∧ w.cell? ⟨g, i * 6 + 1, none⟩ = some (.float .f64 s.val.2.1) ∧ w.cell? ⟨g, i * 6 + 2, none⟩ = some (.string s.val.2.2) ∧ w.cell? ⟨g, i * 6 + 3, none⟩ = some (.bool s.given) ∧ w.cell? ⟨g, i * 6 + 4, none⟩ = some (.int .i64 (p : Int)) ∧ w.cell? ⟨g, i * 6 + 5, none⟩ = some (.int .i64 (frI s.frm)) :=
  ⟨h 0 _ rfl, h 1 _ rfl, h 2 _ rfl, h 3 _ rfl, h 4 _ rfl, h 5 _ rfl⟩

set_option maxRecDepth 20000 in
set_option maxHeartbeats 16000000 in
theorem seen24x (m : Nat) : ∀ (i : Nat) (vS vGN vGS vC : Value) (ps : List Nat) (gp : List (ByteArray × Nat)) (cp : List CallT) (st : FS) (w : World), DF m vS vGN vGS vC ps gp cp st w → OkF st → i < st.sl.length → st.sl.length ≤ 400000000 →
    Calls Try.prog 35 #[.pointer (some ⟨m, 0, none⟩), .int .i64 (i : Int)] w (SeenX m vS vGN vGS vC gp cp st i w) := by
  intro i
  induction i using Nat.strongRecOn with
  | ind i ih =>
    intro vS vGN vGS vC ps gp cp st w h hok hi hl
    have hs := slotS_get hi
    generalize slotS st i = s at hs
    obtain ⟨p, hp, hp1, hp2⟩ := h.arrAt hs
    obtain ⟨g, cap, rfl, hrow, hgm, hgl, hcells, hfz⟩ := h.slot hs hp
    obtain ⟨d0, _, _, _, _, _⟩ := h.cells
    obtain ⟨k0, k1, k2, k3, k4, k5⟩ := sl24_at hcells
    have hi0 : (0 : Int) ≤ (i : Int) := by omega
    have hi1 : (i : Int) < (st.sl.length : Int) := by omega
    have hl1 : (st.sl.length : Int) ≤ 400000000 := by omega
    have hbB : Below w.heap.size w (w.alloc (.cells #[.int .i64 s.val.1, .float .f64 s.val.2.1, .string s.val.2.2, .bool s.given, .int .i64 (p : Int), .int .i64 (frI s.frm)] 93)) := (Below.refl _ w).alloc (Nat.le_refl _) _
    have HS := Lib.hid (And.intro hs (And.intro hp (And.intro hp1 (And.intro hp2 hgm))))
    have H := Lib.hid (And.intro h (And.intro hok (And.intro hi (And.intro hl hbB))))
    have HI := Lib.hid ih
    clear ih h hok hi hl hrow hgm hgl hcells hfz hs hp hp1 hp2 hbB
    by_cases hp0 : p = 0
    · subst hp0
      have hr0 : s.arr = 0 := by
        rcases Nat.eq_zero_or_pos s.arr with e | e
        · exact e
        · have := HS.out.2.2.2.1 (by omega); omega
      cases hg : s.given with
      | true =>
        have HG := Lib.hid hg
        have HR := Lib.hid (show resA st.sl i = 0 from resA_given H.out.2.1.ok HS.out.1 hg)
        rw [hg] at k3
        clear hr0 hg
        go_enter Try.func35, Try.ntmps35
        go_wp2_with fail
        go_ret
        obtain ⟨h, hok, hi, hl, hbB⟩ := H.out
        unfold SeenX
        rw [HR.out]
        exact ⟨rfl, ⟨_, h.below (by rw [HG.out] at hbB; exact hbB)⟩, Turn.of_below (by rw [HG.out] at hbB; exact hbB) _⟩
      | false =>
        rw [hg] at k3
        have HG := Lib.hid hg
        cases hf : s.frm with
        | none =>
          rw [hf] at k5
          replace k5 : w.cell? ⟨g, i * 6 + 5, none⟩ = some (.int .i64 (-1)) := k5
          have HR := Lib.hid (show resA st.sl i = 0 by rw [resA_end H.out.2.1.ok HS.out.1 (link_no hf), hr0])
          have HF := Lib.hid hf
          clear hr0 hg hf
          go_enter Try.func35, Try.ntmps35
          go_wp2_with fail
          go_ret
          obtain ⟨h, hok, hi, hl, hbB⟩ := H.out
          unfold SeenX
          rw [HR.out]
          rw [HG.out, HF.out] at hbB
          exact ⟨rfl, ⟨_, h.below hbB⟩, Turn.of_below hbB _⟩
        | some j =>
          rw [hf] at k5
          replace k5 : w.cell? ⟨g, i * 6 + 5, none⟩ = some (.int .i64 (j : Int)) := k5
          have hj : j < i := (H.out.2.1.ok i _ HS.out.1).2 j hf
          have HR := Lib.hid (show resA st.sl i = resA st.sl j by
            have hjl : j < st.sl.length := by have := H.out.2.2.1; omega
            have hjs := slotS_get hjl
            cases hgj : (slotS st j).given with
            | true => rw [resA_given H.out.2.1.ok hjs hgj, resA_end H.out.2.1.ok HS.out.1 (link_given hf hjs hgj), hr0]
            | false => exact resA_link H.out.2.1.ok HS.out.1 hr0 hg (link_of hf hjs hgj))
          have hbB := H.out.2.2.2.2
          rw [hg, hf] at hbB
          replace hbB : Below w.heap.size w (w.alloc (.cells #[.int .i64 s.val.1, .float .f64 s.val.2.1, .string s.val.2.2, .bool false, .int .i64 ((0 : Nat) : Int), .int .i64 (j : Int)] 93)) := hbB
          have HBB := Lib.hid hbB
          have HC := Lib.hid (HI.out j hj _ _ _ _ _ _ _ _ _ (H.out.1.below hbB) H.out.2.1 (by have := H.out.2.2.1; omega) H.out.2.2.2.1)
          have HC0 := Lib.hid hr0
          have hj0 : ¬ (j : Int) < 0 := by omega
          clear hr0 hg hf hj hbB
          go_enter Try.func35, Try.ntmps35
          go_wp2_with fail
          refine HC.out.mono ?_
          rintro e w2 ⟨rfl, ⟨ps2, h2⟩, ht2⟩
          obtain ⟨q0, _, _, _, _, _⟩ := h2.cells
          obtain ⟨p2, hp2, _, _⟩ := h2.arrAt HS.out.1
          obtain ⟨g2, cap2, e2, _, hgm2, _, hcells2, hfz2⟩ := h2.slot HS.out.1 hp2
          cases e2
          obtain ⟨_, _, _, _, n4, _⟩ := sl24_at hcells2
          have f4 := hfz2 (i * 6 + 4)
          have H2 := Lib.hid (And.intro h2 (And.intro ht2 hgm2))
          rw [← HR.out]
          generalize ha : resA st.sl i = a at *
          have HA := Lib.hid ha
          clear h2 ht2 hgm2 hcells2 hfz2 hp2 ha
          go_wp2_with fail
          go_ret
          obtain ⟨h2, ht2, hgm2⟩ := H2.out
          obtain ⟨h, hok, hi, hl, _⟩ := H.out
          have hbB := HBB.out
          unfold SeenX
          rw [HA.out]
          obtain ⟨hc1, hc2⟩ := h2.cache hok rfl hgm2 HS.out.1 (a := a) (.inr HA.out.symm) (fun e => absurd HC0.out e)
          exact ⟨rfl, ⟨_, hc1⟩, ((Turn.of_below hbB _).trans ht2 (fun _ q => q) (fun _ _ q => q)).trans hc2 (fun _ q => q) (fun _ _ q => q)⟩
    · have hpp : (0 : Int) < (p : Int) := by omega
      have HR := Lib.hid (show resA st.sl i = p from (HS.out.2.2.1.resolve_left hp0).symm)
      go_enter Try.func35, Try.ntmps35
      go_wp2_with fail
      go_ret
      obtain ⟨h, hok, hi, hl, hbB⟩ := H.out
      unfold SeenX
      rw [HR.out]
      exact ⟨rfl, ⟨_, h.below hbB⟩, Turn.of_below hbB _⟩
/-- The same, told loosely. -/
def SeenAt (m : Nat) (vS vGN vGS vC : Value) (gp : List (ByteArray × Nat)) (cp : List CallT) (st : FS) (i : Nat) (w : World) (e : Ending) (w' : World) : Prop := e = .returned (.int .i64 (resA st.sl i : Int)) ∧ (∃ ps', DF m vS vGN vGS vC ps' gp cp st w') ∧ Turn w w' (DT m w)
theorem seen24_any (m : Nat) (i : Nat) (vS vGN vGS vC : Value) (ps : List Nat) (gp : List (ByteArray × Nat)) (cp : List CallT) (st : FS) (w : World) (h : DF m vS vGN vGS vC ps gp cp st w) (hok : OkF st) (hi : i < st.sl.length) (hl : st.sl.length ≤ 400000000) :
    Calls Try.prog 35 #[.pointer (some ⟨m, 0, none⟩), .int .i64 (i : Int)] w (SeenAt m vS vGN vGS vC gp cp st i w) :=
  (seen24x m i vS vGN vGS vC ps gp cp st w h hok hi hl).mono fun e w' ⟨h1, h2, h3⟩ => ⟨h1, h2, h.dts h3⟩
end Go.Proofs.Ytbpaiocbgbpiaaa
