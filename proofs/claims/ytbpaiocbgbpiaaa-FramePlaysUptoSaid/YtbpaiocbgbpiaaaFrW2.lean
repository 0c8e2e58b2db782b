/- The array that a variable is, and becomes: walked. -/
import Derived.Test.YtbpaiocbgbpiaaaFrW1
namespace Go.Proofs.Ytbpaiocbgbpiaaa
open Go.RowKit
set_option linter.unusedVariables false

set_option maxHeartbeats 4000000 in
theorem newarr_any (w : World) :
    Calls Try.prog 41 #[] w fun e w' => e = .returned (.pointer (some ⟨w.heap.size + 1, 0, none⟩)) ∧ w' = (w.alloc (.map #[] 0)).alloc (.cells #[.map (some w.heap.size), .int .i64 0] 101) := by
  have hmm := @run_makeMap Try.prog
  go_enter Try.func41, Try.ntmps41
  go_wp2
  go_ret
  exact ⟨rfl, rfl⟩

abbrev XN : Nat → Prop := fun _ => False
/-- What a call on one variable leaves. -/
structure Seen (G : GH) (st : FS) (i : Nat) (w w' : World) : Prop where
  fr : FR XN G st w'
  tu : Turn w w' (fun j => j ∈ G.sb)
  c0 : ∀ b, G.sb[i]? = some b → w'.cell? ⟨b, 0, none⟩ = some (arP G.ab (resA st.sl i))
theorem arP_ptr (ab : List Nat) (k : Nat) : ∃ o, arP ab k = .pointer o := by
  cases k
  · exact ⟨_, rfl⟩
  · exact ⟨_, rfl⟩
/-- A variable's array is stored. -/
theorem FR.stored {X Y : Nat → Prop} {G : GH} {st : FS} {w : World} (h : FR X G st w) {i b p : Nat} {v : Value} {s : SM} (hs : st.sl[i]? = some s) (hb : G.sb[i]? = some b) (hv : w.heap[b]? = some (.cells (slC G.sb v s) 83 (0, 0)))
    (hY : ∀ k, ¬ Y k → k ≠ i → ¬ X k) (hp : ¬ Y i → (p = 0 ∨ p = resA st.sl i) ∧ (s.arr ≠ 0 → p = s.arr)) : FR Y G st (w.setCell ⟨b, 0, none⟩ (arP G.ab p)) := by
  have hi := (List.getElem?_eq_some_iff.1 hs).1
  exact h.put hb st.sl rfl (fun k => by
    by_cases e : k = i
    · subst e; rw [if_pos rfl, if_pos hi, hs]
    · rw [if_neg e]) (fun _ _ => rfl) (by rw [heap_setCell_same _ _ _ _ _ _ hv]; rfl) ((Turn.refl _ _).setCell _ _ (fun _ => rfl)) hY (fun hy => ⟨p, rfl, hp hy⟩)
theorem frP_some {sb : List Nat} {j b : Nat} (h : sb.getD j 0 = b) : frP sb (some j) = .pointer (some ⟨b, 0, none⟩) := by
  subst h; rfl
set_option maxHeartbeats 8000000 in
theorem seen_any : ∀ (i : Nat) (G : GH) (st : FS) (w : World), FR XN G st w → OkF st → i < st.sl.length →
    Calls Try.prog 30 #[slP G.sb i] w fun e w' => e = .returned (arP G.ab (resA st.sl i)) ∧ Seen G st i w w' := by
  intro i
  induction i using Nat.strongRecOn with
  | ind i ih =>
    intro G st w h hok hi
    have hs := slotS_get hi
    generalize slotS st i = s at hs
    obtain ⟨b, v, hb, hbd, hv, hx⟩ := h.slot hs
    obtain ⟨p, rfl, hp1, hp2⟩ := hx (fun x => x)
    obtain ⟨c0, _, _, _, c4, c5, fz⟩ := sl_cells hv
    have f0 := fz 0
    have hsl : slP G.sb i = .pointer (some ⟨b, 0, none⟩) := by unfold slP; rw [hbd]
    rw [hsl]
    obtain ⟨ar, val, gv, fr⟩ := s
    dsimp only at c0 c4 c5 hp1 hp2
    have HS := Lib.hid (And.intro hs (And.intro hp1 (And.intro hp2 (And.intro hb hv))))
    have HI := Lib.hid ih
    have H := Lib.hid (And.intro h (And.intro hok hi))
    cases p with
    | succ k =>
      have hr : resA st.sl i = k + 1 := by
        rcases hp1 with e | e
        · cases e
        · exact e.symm
      rw [hr]
      have HR := Lib.hid hr
      clear hs hb hbd hv hx hp1 hp2 hsl hi hok h ih hr fz
      simp only [arP] at c0 ⊢
      generalize G.ab.getD k 0 = g at *
      go_enter Try.func30, Try.ntmps30
      go_wp2_with fail
      go_ret
      obtain ⟨_, _, _, hb, hv⟩ := HS.out
      exact ⟨rfl, H.out.1, Turn.refl _ _, fun b' hb' => by rw [hb] at hb'; cases hb'; rw [HR.out]; exact (sl_cells hv).1⟩
    | zero =>
      have ha : ar = 0 := by
        rcases Nat.eq_zero_or_pos ar with e | e
        · exact e
        · have := hp2 (by omega); omega
      subst ha
      have hr := resA_eq hok.ok hs
      simp only [ne_eq, not_true_eq_false, if_false] at hr
      simp only [arP] at c0
      clear hbd hx hp1 hp2 hsl fz hv
      cases gv with
      | true =>
        rw [if_pos rfl] at hr
        rw [hr]
        have HR := Lib.hid hr
        clear hs hb hi hok h ih hr f0 c5
        simp only [arP]
        go_enter Try.func30, Try.ntmps30
        go_wp2_with fail
        go_ret
        exact ⟨rfl, H.out.1, Turn.refl _ _, fun b' hb' => by rw [HS.out.2.2.2.1] at hb'; cases hb'; rw [HR.out]; exact (sl_cells HS.out.2.2.2.2).1⟩
      | false =>
        simp only [Bool.false_eq_true, if_false] at hr
        cases fr with
        | none =>
          rw [link_no rfl] at hr
          dsimp only at hr
          rw [hr]
          have HR := Lib.hid hr
          clear hs hb hi hok h ih hr f0
          simp only [frP] at c5
          simp only [arP]
          go_enter Try.func30, Try.ntmps30
          go_wp2_with fail
          go_ret
          exact ⟨rfl, H.out.1, Turn.refl _ _, fun b' hb' => by rw [HS.out.2.2.2.1] at hb'; cases hb'; rw [HR.out]; exact (sl_cells HS.out.2.2.2.2).1⟩
        | some j =>
          have hj : j < i := (hok.ok i _ hs).2 j rfl
          have hjl : j < st.sl.length := by omega
          have ht := slotS_get hjl
          obtain ⟨b2, v2, hb2, hbd2, hv2, hx2⟩ := h.slot ht
          obtain ⟨_, _, _, _, d4, _, _⟩ := sl_cells hv2
          rw [frP_some hbd2] at c5
          cases hg : (slotS st j).given with
          | true =>
            rw [link_given rfl ht hg] at hr
            rw [hg] at d4
            dsimp only at hr
            rw [hr]
            have HR := Lib.hid hr
            clear hs hb hi hok h ih hr f0 hj hjl ht hb2 hbd2 hv2 hx2 hg
            simp only [arP]
            go_enter Try.func30, Try.ntmps30
            go_wp2_with fail
            go_ret
            exact ⟨rfl, H.out.1, Turn.refl _ _, fun b' hb' => by rw [HS.out.2.2.2.1] at hb'; cases hb'; rw [HR.out]; exact (sl_cells HS.out.2.2.2.2).1⟩
          | false =>
            rw [link_of rfl ht hg] at hr
            rw [hg] at d4
            dsimp only at hr
            rw [hr]
            have hc := ih j hj G st w h hok hjl
            have hsl2 : slP G.sb j = .pointer (some ⟨b2, 0, none⟩) := by unfold slP; rw [hbd2]
            rw [hsl2] at hc
            have HC := Lib.hid hc
            have HR := Lib.hid (And.intro hr hg)
            clear hs hb hi hok h ih hr hj hjl ht hb2 hbd2 hv2 hx2 hg hc hsl2
            go_enter Try.func30, Try.ntmps30
            go_wp2_with fail
            refine HC.out.mono ?_
            rintro e w1 ⟨rfl, h1, t1⟩
            obtain ⟨hs, hp1, hp2, hb, _⟩ := HS.out
            obtain ⟨b', v', hb', _, hv', _⟩ := h1.slot hs
            rw [hb] at hb'
            cases hb'
            obtain ⟨e0, _, _, _, _, _, fz'⟩ := sl_cells hv'
            have f0' := fz' 0
            have HE := Lib.hid (h1.stored (Y := XN) (p := resA st.sl j) hs hb hv' (fun _ _ _ x => x) (fun _ => ⟨.inr HR.out.1.symm, fun x => absurd rfl x⟩))
            have HT := Lib.hid (t1.setCell ⟨b, 0, none⟩ (arP G.ab (resA st.sl j)) (fun _ => List.mem_of_getElem? hb))
            obtain ⟨o, ho⟩ := arP_ptr G.ab (resA st.sl j)
            have hce : (w1.setCell ⟨b, 0, none⟩ (arP G.ab (resA st.sl j))).cell? ⟨b, 0, none⟩ = some (arP G.ab (resA st.sl j)) := (sl_cells (v := arP G.ab (resA st.sl j)) (sb := G.sb) (s := ⟨0, val, false, some j⟩) (by rw [heap_setCell_same _ _ _ _ _ _ hv']; rfl)).1
            have HCE := Lib.hid (And.intro hb hce)
            clear hce
            have HO := Lib.hid ho
            rw [ho] at HE HT
            rw [ho]
            clear hs hp1 hp2 hb hv' fz' h1 t1 ho HC HI H
            go_wp2_with fail
            go_ret
            exact ⟨by rw [HO.out]; rfl, HE.out, HT.out, fun b' hb' => by rw [HCE.out.1] at hb'; cases hb'; rw [HR.out.1, ← HO.out]; exact HCE.out.2⟩

/-! ### an array comes -/
def GH.arr (G : GH) (b mb : Nat) : GH := { G with ab := G.ab ++ [b], mbs := G.mbs ++ [mb], ks := G.ks ++ [fun _ => false] }
theorem arP_app {ab : List Nat} {b p : Nat} (h : p ≤ ab.length) : arP (ab ++ [b]) p = arP ab p := by
  cases p with
  | zero => rfl
  | succ k =>
    simp only [arP]
    rw [List.getD_eq_getElem?_getD, List.getElem?_append_left (by omega), ← List.getD_eq_getElem?_getD]
theorem arP_last (ab : List Nat) (b : Nat) : arP (ab ++ [b]) (ab.length + 1) = .pointer (some ⟨b, 0, none⟩) := by
  simp only [arP]
  rw [List.getD_eq_getElem?_getD, List.getElem?_append_right (Nat.le_refl _)]
  simp
theorem get_snoc {α : Type} {l : List α} {x y : α} {k : Nat} (h : (l ++ [x])[k]? = some y) : l[k]? = some y ∨ (k = l.length ∧ y = x) := by
  rcases Nat.lt_or_ge k l.length with h1 | h1
  · rw [List.getElem?_append_left h1] at h; exact .inl h
  · rw [List.getElem?_append_right h1] at h
    rcases Nat.eq_zero_or_pos (k - l.length) with e | e
    · rw [e] at h; simp at h; exact .inr ⟨by omega, h.symm⟩
    · rw [List.getElem?_eq_none (by simp; omega)] at h; cases h
theorem arr_is (w : World) : ArrIs ((w.alloc (.map #[] 0)).alloc (.cells #[.map (some w.heap.size), .int .i64 0] 101)) (w.heap.size + 1) w.heap.size 0 (fun _ => false) := by
  refine ⟨0, 0, fun _ => none, ?_, (MapF_made w Try.prog 9).same ?_, Nat.le_refl _, Nat.le_refl _, fun s => rfl, fun s v h => by cases h⟩
  · have := heap_alloc_new (w.alloc (.map #[] 0)) (.cells #[.map (some w.heap.size), .int .i64 0] 101)
    simpa using this
  · exact Below.heap_alloc _ _ _ (by simp)
theorem ArrIs.mono {w : World} {b mb q q' : Nat} {ks : ByteArray → Bool} (h : ArrIs w b mb q ks) (hq : q ≤ q') : ArrIs w b mb q' ks := by
  obtain ⟨n, k, f, e1, e2, e3, e4, e5⟩ := h.ex
  exact ⟨n, k, f, e1, e2, Nat.le_trans e3 hq, Nat.le_trans e4 hq, e5⟩
theorem FR.newArr {X : Nat → Prop} {G : GH} {st : FS} {w w2 : World} (h : FR X G st w) (hok : OkF st) (hb : Below w.heap.size w w2) {b mb : Nat} (h1 : w.heap.size ≤ b) (h2 : w.heap.size ≤ mb) (hA : ArrIs w2 b mb G.q (fun _ => false)) :
    FR X (G.arr b mb) ⟨st.sl, st.gl, st.ca, st.n + 1⟩ w2 := by
  have hn : ∀ j, w.heap.size ≤ j → ¬ Own G j := fun j hj ho => by have := h.lt ho; omega
  have k := h.below hb
  refine ⟨k.hd, k.gm, k.cr, k.cl, k.cm, k.sl, fun i c s hc hs => ?_, by simp [GH.arr, h.al], by simp [GH.arr, h.ml], by simp [GH.arr, h.kl], fun i c m ks hc hm hk => ?_, ?_, ?_, ?_⟩
  · obtain ⟨v, hv, hx⟩ := k.ss i c s hc hs
    refine ⟨v, hv, fun hy => ?_⟩
    obtain ⟨p, rfl, e2, e3⟩ := hx hy
    refine ⟨p, (arP_app ?_).symm, e2, e3⟩
    rw [h.al]
    rcases e2 with e | e
    · omega
    · rw [e]; exact resA_le hok.ok hok.le i
  · rcases get_snoc hc with e | ⟨e, e'⟩
    · have hi := (List.getElem?_eq_some_iff.1 e).1
      rw [h.al] at hi
      refine k.ars i c m ks e ?_ ?_
      · simp only [GH.arr] at hm; rw [List.getElem?_append_left (by rw [h.ml]; exact hi)] at hm; exact hm
      · simp only [GH.arr] at hk; rw [List.getElem?_append_left (by rw [h.kl]; exact hi)] at hk; exact hk
    · subst e'
      simp only [GH.arr] at hm hk
      rw [e, h.al] at hm hk
      rw [← h.ml] at hm
      rw [← h.kl] at hk
      simp at hm hk
      subst hm hk
      exact hA
  · exact k.nd.1
  · simp only [GH.arr]
    rw [List.nodup_append]
    refine ⟨k.nd.2.1, by simp, fun x hx y hy => ?_⟩
    simp at hy
    subst hy
    rintro rfl
    exact hn _ h1 (.inr (.inr (.inr (.inr (.inr (.inl hx))))))
  · simp only [GH.arr]
    rw [← List.append_assoc, ← List.cons_append, List.nodup_append]
    refine ⟨k.nd.2.2, by simp, fun x hx y hy => ?_⟩
    simp at hy
    subst hy
    rintro rfl
    refine hn _ h2 ?_
    simp only [List.mem_cons, List.mem_append] at hx
    rcases hx with e | e | e
    · exact .inr (.inl e)
    · exact .inr (.inr (.inr (.inl e)))
    · exact .inr (.inr (.inr (.inr (.inr (.inr e)))))
/-- What 'become' leaves. -/
structure Became (X : Nat → Prop) (G : GH) (st : FS) (i b mb : Nat) (w w' : World) : Prop where
  fr : FR X (G.arr b mb) (becS st i) w'
  tu : Turn w w' (fun j => j ∈ G.sb)
  hb : w.heap.size ≤ b
  hm : w.heap.size ≤ mb
def BecameAt (X : Nat → Prop) (G : GH) (st : FS) (i : Nat) (w : World) (e : Ending) (w' : World) : Prop := ∃ b mb, e = .returned (.pointer (some ⟨b, 0, none⟩)) ∧ Became X G st i b mb w w'

end Go.Proofs.Ytbpaiocbgbpiaaa
