/- A variable becomes an array: walked. -/
import Derived.Test.YtbpaiocbgbpiaaaFrW2
namespace Go.Proofs.Ytbpaiocbgbpiaaa
open Go.RowKit
set_option linter.unusedVariables false

section
variable {X : Nat → Prop} {G : GH} {st : FS} {w w' : World} {i j b mb : Nat} {s : SM}
/-- The one that becomes the array by itself. -/
theorem becS_self (hok : OkF st) (hs : st.sl[i]? = some s) (hl : link st.sl s = none) : becS st i = ⟨st.sl.set i ⟨st.n + 1, s.val, s.given, s.frm⟩, st.gl, st.ca, st.n + 1⟩ := by
  have hr : rootA st.sl i = i := by rw [rootA_eq hok.ok hs, hl]
  have hx : slotS st i = s := by unfold slotS; rw [hs]; rfl
  unfold becS
  simp only [hr, hx]
theorem becS_link (hok : OkF st) (hs : st.sl[i]? = some s) (hl : link st.sl s = some j) : becS st i = becS st j := by
  have hr : rootA st.sl i = rootA st.sl j := by rw [rootA_eq hok.ok hs, hl]
  unfold becS
  simp only [hr]
/-- The state behind: its own array is the new one. -/
theorem becS_facts (hok : OkF st) (hi : i < st.sl.length) (hr : resA st.sl i = 0) (hg : (slotS st i).given = false) :
    (becS st i).sl.length = st.sl.length ∧ (becS st i).n = st.n + 1 ∧ (becS st i).ca = st.ca ∧ (becS st i).gl = st.gl ∧ resA (becS st i).sl i = st.n + 1 ∧ (∀ k, resA st.sl k ≠ 0 → resA (becS st i).sl k = resA st.sl k) ∧
    ∀ k, k ≠ rootA st.sl i → (becS st i).sl[k]? = st.sl[k]? := by
  have hs := slotS_get hi
  obtain ⟨h1, h2⟩ := rootA_lt hok.ok i hi
  obtain ⟨t, ht, ha, htg, htl⟩ := h2 hr (fun s e => by rw [hs] at e; cases e; exact hg)
  have hts : slotS st (rootA st.sl i) = t := by unfold slotS; rw [ht]; rfl
  obtain ⟨k1, k2⟩ := resA_become hok.ok ht htg ha htl (m := st.n + 1) (by omega)
  unfold becS
  simp only [hts]
  refine ⟨by simp, trivial, trivial, trivial, k1 i _ hs hr hg rfl, k2, fun k hk => ?_⟩
  rw [get_set, if_neg hk]
/-- The end of it: the new array lies in the variable itself. -/
theorem FR.become_self {Y : Nat → Prop} (h : FR Y G st w) (hok : OkF st) (hs : st.sl[i]? = some s) (ha : s.arr = 0) (hg : s.given = false) (hl : link st.sl s = none) (hb : Below w.heap.size w w') (h1 : w.heap.size ≤ b) (h2 : w.heap.size ≤ mb) (hA : ArrIs w' b mb G.q (fun _ => false))
    {c : Nat} (hc : G.sb[i]? = some c) {v : Value} (hv : w'.heap[c]? = some (.cells (slC G.sb v s) 83 (0, 0))) (hY : ∀ k, ¬ X k → k ≠ i → ¬ Y k) :
    FR X (G.arr b mb) (becS st i) (w'.setCell ⟨c, 0, none⟩ (.pointer (some ⟨b, 0, none⟩))) := by
  have hi := (List.getElem?_eq_some_iff.1 hs).1
  have hz : resA st.sl i = 0 := by rw [resA_end hok.ok hs hl]; exact ha
  have hn := h.newArr hok hb h1 h2 hA
  obtain ⟨k1, k2⟩ := resA_become hok.ok hs hg ha hl (m := st.n + 1) (by omega)
  have k3 := k1 i s hs hz hg (by rw [rootA_eq hok.ok hs, hl])
  rw [becS_self hok hs hl]
  refine hn.put (i := i) (b := c) (s' := ⟨st.n + 1, s.val, s.given, s.frm⟩) (v' := .pointer (some ⟨b, 0, none⟩)) hc _ (by simp) (fun k => ?_) (fun k hk => k2 k hk) ?_ ((Turn.refl _ _).setCell _ _ (fun _ => rfl)) hY (fun _ => ⟨st.n + 1, ?_, .inr k3.symm, fun _ => rfl⟩)
  · rw [get_set]
  · rw [heap_setCell_same _ _ _ _ _ _ hv]; rfl
  · rw [← h.al]; exact (arP_last G.ab b).symm
end
/-- Any array is stored into a variable of which none is asked. -/
theorem FR.stored_any {X Y : Nat → Prop} {G : GH} {st : FS} {w : World} (h : FR X G st w) {i b : Nat} {v v' : Value} {s : SM} (hs : st.sl[i]? = some s) (hb : G.sb[i]? = some b) (hv : w.heap[b]? = some (.cells (slC G.sb v s) 83 (0, 0)))
    (hY : ∀ k, ¬ Y k → k ≠ i → ¬ X k) (hi : Y i) : FR Y G st (w.setCell ⟨b, 0, none⟩ v') := by
  have hi' := (List.getElem?_eq_some_iff.1 hs).1
  exact h.put hb st.sl rfl (fun k => by
    by_cases e : k = i
    · subst e; rw [if_pos rfl, if_pos hi', hs]
    · rw [if_neg e]) (fun _ _ => rfl) (by rw [heap_setCell_same _ _ _ _ _ _ hv]; rfl) ((Turn.refl _ _).setCell _ _ (fun _ => rfl)) hY (fun hy => absurd hi hy)
theorem turn_into {w w' : World} (h : Below w.heap.size w w') {c : Nat} {l : List Nat} (hc : c ∈ l) (v : Value) : Turn w (w'.setCell ⟨c, 0, none⟩ v) (fun j => j ∈ l) := (Turn.of_below h _).setCell _ _ (fun _ => hc)

set_option maxHeartbeats 8000000 in
/-- The array of the caller's variable. -/
theorem take_given {c : Nat} {w : World} (h4 : w.cell? ⟨c, 4, none⟩ = some (.bool true)) :
    Calls Try.prog 42 #[.pointer (some ⟨c, 0, none⟩)] w fun e w' => e = .returned (.pointer (some ⟨w.heap.size + 1, 0, none⟩)) ∧ w' = (w.alloc (.map #[] 0)).alloc (.cells #[.map (some w.heap.size), .int .i64 0] 101) := by
  have HN := Lib.hid (newarr_any w)
  go_enter Try.func42, Try.ntmps42
  go_wp2_with fail
  refine HN.out.mono ?_
  rintro e w1 ⟨rfl, rfl⟩
  go_wp2_with fail
  go_ret
  exact ⟨rfl, rfl⟩
set_option maxHeartbeats 8000000 in
theorem take_open {c : Nat} {w : World} {R : Ending → World → Prop} (h4 : w.cell? ⟨c, 4, none⟩ = some (.bool false))
    (hB : Calls Try.prog 31 #[.pointer (some ⟨c, 0, none⟩)] w fun e w' => ∃ o, e = .returned (.pointer o) ∧ R (.returned (.pointer o)) w') :
    Calls Try.prog 42 #[.pointer (some ⟨c, 0, none⟩)] w fun e w' => ∃ o, e = .returned (.pointer o) ∧ R (.returned (.pointer o)) w' := by
  have HB := Lib.hid hB
  clear hB
  go_enter Try.func42, Try.ntmps42
  go_wp2_with fail
  refine HB.out.mono ?_
  rintro e w1 ⟨o, rfl, hR⟩
  have H := Lib.hid hR
  clear hR
  go_wp2_with fail
  go_ret
  exact ⟨o, rfl, H.out⟩

set_option maxHeartbeats 16000000 in
theorem become_any : ∀ (i : Nat) (X : Nat → Prop) (G : GH) (st : FS) (w : World), FR X G st w → OkF st → i < st.sl.length → (∀ k, X k → i < k) → resA st.sl i = 0 → (slotS st i).given = false →
    Calls Try.prog 31 #[slP G.sb i] w (BecameAt X G st i w) := by
  intro i
  induction i using Nat.strongRecOn with
  | ind i ih =>
    intro X G st w h hok hi hX hz hgv
    have hs := slotS_get hi
    have hnX : ¬ X i := fun x => Nat.lt_irrefl _ (hX i x)
    generalize slotS st i = s at hs hgv
    obtain ⟨b, v, hb, hbd, hv, hx⟩ := h.slot hs
    obtain ⟨p, rfl, hp1, hp2⟩ := hx hnX
    obtain rfl : p = 0 := by
      rcases hp1 with e | e
      · exact e
      · rw [e, hz]
    have ha := resA_zero hok.ok hs hz
    obtain ⟨c0, _, _, _, c4, c5, fz⟩ := sl_cells hv
    have f0 := fz 0
    have hsl : slP G.sb i = .pointer (some ⟨b, 0, none⟩) := by unfold slP; rw [hbd]
    rw [hsl]
    simp only [arP] at c0
    have hlt : b < w.heap.size := lt_of_cell c0
    have HNew := Lib.hid (newarr_any w)
    have hbl : Below w.heap.size w ((w.alloc (.map #[] 0)).alloc (.cells #[.map (some w.heap.size), .int .i64 0] 101)) := ((Below.refl _ w).alloc (Nat.le_refl _) _).alloc (by simp) _
    have hA := (arr_is w).mono (Nat.zero_le G.q)
    have hv2 := (hbl.block b hlt).trans hv
    have hsz2 : ((w.alloc (.map #[] 0)).alloc (.cells #[.map (some w.heap.size), .int .i64 0] 101)).heap.size = w.heap.size + 2 := by simp
    generalize hw2 : (w.alloc (.map #[] 0)).alloc (.cells #[.map (some w.heap.size), .int .i64 0] 101) = w2 at *
    obtain ⟨e0, _, _, _, _, e5, gz⟩ := sl_cells hv2
    have g0 := gz 0
    have HS := Lib.hid (And.intro hs (And.intro hb (And.intro hv2 (And.intro hbl (And.intro hA hsz2)))))
    have HI := Lib.hid ih
    have H := Lib.hid (And.intro h (And.intro hok (And.intro hi (And.intro hX (And.intro hz (And.intro hgv ha))))))
    have HW := Lib.hid hw2
    clear hbd hx hp1 hp2 hsl fz gz hv hv2 hA hbl hsz2 hw2
    cases hf : s.frm with
    | none =>
      rw [hf] at e5
      simp only [frP] at e5
      have hl : link st.sl s = none := link_no hf
      have HL := Lib.hid hl
      clear hs hb hi hok h ih hf hl hX hz hgv ha hnX c5 c4
      go_enter Try.func31, Try.ntmps31
      go_wp2_with fail
      refine HNew.out.mono ?_
      rintro e wx ⟨rfl, hwx⟩
      obtain rfl : w2 = wx := hwx.symm
      go_wp2_with fail
      go_ret
      obtain ⟨h, hok, hi, hX, hz, hgv, ha⟩ := H.out
      obtain ⟨hs, hb, hv2, hbl, hA, hsz2⟩ := HS.out
      exact ⟨_, w.heap.size, rfl, h.become_self hok hs ha hgv HL.out hbl (by omega) (by omega) hA hb hv2 (fun _ x _ => x), turn_into hbl (List.mem_of_getElem? hb) _, by omega, by omega⟩
    | some j =>
      have hj : j < i := (hok.ok i _ hs).2 j hf
      have hjl : j < st.sl.length := by omega
      have ht := slotS_get hjl
      obtain ⟨b2, v2, hb2, hbd2, hvj, hx2⟩ := h.slot ht
      have hne : b2 ≠ b := fun e => by
        subst e
        have := (List.getElem_inj (xs := G.sb) (h₀ := (List.getElem?_eq_some_iff.1 hb).1) (h₁ := (List.getElem?_eq_some_iff.1 hb2).1) h.nd.1).1 ((List.getElem?_eq_some_iff.1 hb).2.trans (List.getElem?_eq_some_iff.1 hb2).2.symm)
        omega
      obtain ⟨hs', hb', hv2, hbl, hA, hsz2⟩ := HS.out
      have h3 := (h.below hbl).stored_any (Y := fun k => X k ∨ k = i) (v' := .pointer (some ⟨w.heap.size + 1, 0, none⟩)) hs hb hv2 (fun k hk hki hx => hk (.inl hx)) (.inr rfl)
      have t3 := turn_into hbl (List.mem_of_getElem? hb) (.pointer (some ⟨w.heap.size + 1, 0, none⟩))
      have hvj3 : (w2.setCell ⟨b, 0, none⟩ (.pointer (some ⟨w.heap.size + 1, 0, none⟩))).heap[b2]? = some (.cells (slC G.sb v2 (slotS st j)) 83 (0, 0)) := (heap_setCell_other _ _ _ _ (fun e => hne (by first | exact e | exact e.symm))).trans ((hbl.block b2 (Array.getElem?_eq_some_iff.1 hvj).1).trans hvj)
      obtain ⟨_, _, _, _, d4, _, _⟩ := sl_cells hvj3
      have hv3 : (w2.setCell ⟨b, 0, none⟩ (.pointer (some ⟨w.heap.size + 1, 0, none⟩))).heap[b]? = some (.cells (slC G.sb (.pointer (some ⟨w.heap.size + 1, 0, none⟩)) s) 83 (0, 0)) := by
        rw [heap_setCell_same _ _ _ _ _ _ hv2]; rfl
      have hsz3 : (w2.setCell ⟨b, 0, none⟩ (.pointer (some ⟨w.heap.size + 1, 0, none⟩))).heap.size = w.heap.size + 2 := by simp [World.setCell, hsz2]
      rw [hf] at e5
      rw [frP_some hbd2] at e5
      have e5' : (w2.setCell ⟨b, 0, none⟩ (.pointer (some ⟨w.heap.size + 1, 0, none⟩))).cell? ⟨b, 5, none⟩ = some (.pointer (some ⟨b2, 0, none⟩)) := by rw [World.cell?_setCell_other _ _ _ _ (by simp)]; exact e5
      have H3 := Lib.hid (And.intro h3 (And.intro t3 (And.intro hv3 hsz3)))
      cases hg : (slotS st j).given with
      | true =>
        rw [hg] at d4
        have HL := Lib.hid (link_given hf ht hg)
        have HT := Lib.hid (take_given d4)
        clear hs hb hi hok h ih hf hX hz hgv ha hnX c5 c4 hs' hb' hv2 hbl hA hsz2 h3 t3 hvj3 hv3 hsz3 hj hjl ht hb2 hbd2 hvj hx2 hne hg d4
        go_enter Try.func31, Try.ntmps31
        go_wp2_with fail
        refine HNew.out.mono ?_
        rintro e wx ⟨rfl, hwx⟩
        obtain rfl : w2 = wx := hwx.symm
        go_wp2_with fail
        refine HT.out.mono ?_
        rintro e w4 ⟨rfl, hw4⟩
        obtain ⟨h3, t3, hv3, hsz3⟩ := H3.out
        obtain ⟨h, hok, hi, hX, hz, hgv, ha⟩ := H.out
        obtain ⟨hs, hb, _⟩ := HS.out
        have hb4 : Below (w2.setCell ⟨b, 0, none⟩ (.pointer (some ⟨w.heap.size + 1, 0, none⟩))).heap.size (w2.setCell ⟨b, 0, none⟩ (.pointer (some ⟨w.heap.size + 1, 0, none⟩))) w4 := by
          rw [hw4]; exact ((Below.refl _ _).alloc (Nat.le_refl _) _).alloc (by simp) _
        have hA4 := (arr_is (w2.setCell ⟨b, 0, none⟩ (.pointer (some ⟨w.heap.size + 1, 0, none⟩)))).mono (Nat.zero_le G.q)
        rw [← hw4] at hA4
        have hv4 := (hb4.block b (h3.lt (.inr (.inr (.inr (.inr (.inl (List.mem_of_getElem? hb)))))))).trans hv3
        obtain ⟨k0, _, _, _, _, _, kz⟩ := sl_cells hv4
        have kz0 := kz 0
        have hE := h3.become_self (X := X) hok hs ha hgv HL.out hb4 (Nat.le_succ _) (Nat.le_refl _) hA4 hb hv4 (fun k hk hki hx => hx.elim hk hki)
        have hT : Turn w (w4.setCell ⟨b, 0, none⟩ (.pointer (some ⟨(w2.setCell ⟨b, 0, none⟩ (.pointer (some ⟨w.heap.size + 1, 0, none⟩))).heap.size + 1, 0, none⟩))) (fun j => j ∈ G.sb) :=
          t3.trans (turn_into hb4 (List.mem_of_getElem? hb) _) (fun _ x => x) (fun _ _ x => x)
        generalize hgs : (w2.setCell ⟨b, 0, none⟩ (.pointer (some ⟨w.heap.size + 1, 0, none⟩))).heap.size = q at *
        have HE := Lib.hid (And.intro hE (And.intro hT hsz3))
        clear h3 t3 hv3 hsz3 h hok hi hX hz hgv ha hs hb hb4 hA4 hv4 hE hT hgs hw4 kz HT H HI HNew e5 e5' g0 e0 c0 f0 hlt
        go_wp2_with fail
        go_ret
        obtain ⟨hE, hT, hsz⟩ := HE.out
        exact ⟨_, _, rfl, hE, hT, by omega, by omega⟩
      | false =>
        rw [hg] at d4
        have hl := link_of hf ht hg
        have hzj : resA st.sl j = 0 := by rw [← resA_link hok.ok hs ha hgv hl]; exact hz
        have hB := ih j hj (fun k => X k ∨ k = i) G st _ h3 hok hjl (fun k hk => hk.elim (fun x => Nat.lt_trans hj (hX k x)) (fun x => by omega)) hzj hg
        have hsl2 : slP G.sb j = .pointer (some ⟨b2, 0, none⟩) := by unfold slP; rw [hbd2]
        rw [hsl2] at hB
        have HT := Lib.hid (take_open d4 (R := BecameAt (fun k => X k ∨ k = i) G st j (w2.setCell ⟨b, 0, none⟩ (.pointer (some ⟨w.heap.size + 1, 0, none⟩)))) (hB.mono fun e w' ⟨bn, mb, he, hr⟩ => ⟨_, he, bn, mb, rfl, hr⟩))
        have hbe := becS_link hok hs hl
        obtain ⟨q1, q2, q3, q4, q5, q6, q7⟩ := becS_facts hok hi hz (by unfold slotS; rw [hs]; exact hgv)
        have hrj : i ≠ rootA st.sl i := by
          rw [rootA_eq hok.ok hs, hl]
          dsimp only
          have := (rootA_lt hok.ok j hjl).1
          omega
        have hsi := (q7 i hrj).trans hs
        have HQ := Lib.hid (And.intro hbe (And.intro q5 hsi))
        clear hs hb hi hok h ih hf hX hz hgv ha hnX c5 c4 hs' hb' hv2 hbl hA hsz2 h3 t3 hvj3 hv3 hsz3 hj hjl ht hb2 hbd2 hvj hx2 hne hg d4 hl hzj hB hsl2 hbe q1 q2 q3 q4 q5 q6 q7 hrj hsi
        go_enter Try.func31, Try.ntmps31
        go_wp2_with fail
        refine HNew.out.mono ?_
        rintro e wx ⟨rfl, hwx⟩
        obtain rfl : w2 = wx := hwx.symm
        go_wp2_with fail
        refine HT.out.mono ?_
        rintro e w4 ⟨o, rfl, bn, mb, ho, hR⟩
        obtain ⟨h3, t3, hv3, hsz3⟩ := H3.out
        obtain ⟨h, hok, hi, hX, hz, hgv, ha⟩ := H.out
        obtain ⟨hs, hb, _⟩ := HS.out
        obtain ⟨hbe, q5, hsi⟩ := HQ.out
        cases ho
        obtain ⟨h4, t4, f4, f5⟩ := hR
        rw [← hbe] at h4
        obtain ⟨b', v4, hb', _, hv4, _⟩ := h4.slot hsi
        have hbx : (G.arr bn mb).sb[i]? = some b := hb
        rw [hbx] at hb'
        cases hb'
        obtain ⟨k0, _, _, _, _, _, kz⟩ := sl_cells hv4
        have kz0 := kz 0
        have hE := h4.stored (Y := X) (p := st.n + 1) hsi hbx hv4 (fun k hk hki hx => hx.elim hk hki) (fun _ => ⟨.inr q5.symm, fun x => absurd ha x⟩)
        have hap : arP (G.arr bn mb).ab (st.n + 1) = .pointer (some ⟨bn, 0, none⟩) := by rw [← h.al]; exact arP_last G.ab bn
        rw [hap] at hE
        have hT : Turn w (w4.setCell ⟨b, 0, none⟩ (.pointer (some ⟨bn, 0, none⟩))) (fun j => j ∈ G.sb) :=
          (t3.trans t4 (fun _ x => x) (fun _ _ x => x)).setCell _ _ (fun _ => List.mem_of_getElem? hb)
        have HE := Lib.hid (And.intro hE (And.intro hT (And.intro (show w.heap.size ≤ bn by omega) (show w.heap.size ≤ mb by omega))))
        clear h3 t3 hv3 hsz3 h hok hi hX hz hgv ha hs hb hv4 hE hT kz HT H HI HNew e5 e5' g0 e0 c0 f0 hlt hbe q5 hsi h4 t4 f4 f5 hbx hap
        go_wp2_with fail
        go_ret
        obtain ⟨hE, hT, g1, g2⟩ := HE.out
        exact ⟨_, _, rfl, hE, hT, g1, g2⟩

end Go.Proofs.Ytbpaiocbgbpiaaa
