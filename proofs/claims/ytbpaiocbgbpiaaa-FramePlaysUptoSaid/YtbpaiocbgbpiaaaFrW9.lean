/- The variable that a parameter is: walked. -/
import Derived.Test.YtbpaiocbgbpiaaaFrW8
import Derived.Test.YtbpaiocbgbpiaaaRd
namespace Go.Proofs.Ytbpaiocbgbpiaaa
open Go.RowKit
set_option linter.unusedVariables false
set_option linter.unusedSimpArgs false

/-- A block beside the variables turns. -/
theorem FrGo.side {G G1 : GH} {st : FS} {w w1 w2 : World} {mb : Nat} (h : FrGo G st w G1 w1) (ht : Turn w1 w2 (fun j => j = mb)) (hm : w.heap.size ≤ mb) (hn : ¬ Own G1 mb) : FrGo G st w G1 w2 :=
  ⟨h.fr.turn ht (fun j hj e => hn (e ▸ hj)), h.tu.trans ht (fun _ x => x) (fun j hj e => by omega), h.ow, h.F, h.sb, h.ab, h.ks, h.q⟩
/-- A variable more. -/
theorem FrGo.slotNew {G G1 : GH} {st : FS} {w w1 w2 : World} (h : FrGo G st w G1 w1) (hok : OkF st) (hb : Below w1.heap.size w1 w2) {b p : Nat} (h1 : w1.heap.size ≤ b) (s : SM) (hg : s.given = true → s.arr = 0) (hf : ∀ j, s.frm = some j → j < st.sl.length)
    (hv : w2.heap[b]? = some (.cells (slC G1.sb (arP G1.ab p) s) 83 (0, 0))) (hp : p = 0 ∨ p = s.arr) (hp2 : s.arr ≠ 0 → p = s.arr) : FrGo G (addS st s) w (G1.slot b) w2 := by
  have hr := h.fr.addSlot hok hb h1 s hg hf hv hp hp2
  obtain ⟨x, hx⟩ := h.sb
  have hT := h.tu.size
  refine ⟨hr, h.tu.trans (Turn.of_below hb (Own G)) (fun _ x => x) (fun _ _ x => x), fun j hj => ?_, h.F, ⟨x ++ [b], by simp [GH.slot, hx]⟩, h.ab, h.ks, h.q⟩
  have key : Own G1 j ∨ j = b := by
    rcases hj with x | x | x | x | x | x | x
    · exact .inl (.inl x)
    · exact .inl (.inr (.inl x))
    · exact .inl (.inr (.inr (.inl x)))
    · exact .inl (.inr (.inr (.inr (.inl x))))
    · simp only [GH.slot, List.mem_append, List.mem_singleton] at x
      rcases x with x | x
      · exact .inl (.inr (.inr (.inr (.inr (.inl x)))))
      · exact .inr x
    · exact .inl (.inr (.inr (.inr (.inr (.inr (.inl x))))))
    · exact .inl (.inr (.inr (.inr (.inr (.inr (.inr x))))))
  rcases key with k | k
  · exact h.ow j k
  · subst k; exact .inr (by omega)
/-- A world that only came to hold more. -/
theorem FrGo.more {G G1 : GH} {st : FS} {w w1 w2 : World} (h : FrGo G st w G1 w1) (hb : Below w1.heap.size w1 w2) : FrGo G st w G1 w2 :=
  ⟨h.fr.below hb, h.tu.trans (Turn.of_below hb (Own G)) (fun _ x => x) (fun _ _ x => x), h.ow, h.F, h.sb, h.ab, h.ks, h.q⟩

theorem str_eq (a b : ByteArray) : (a.toList == b.toList) = decide (a = b) := by
  rw [ByteArray.toList_eq, ByteArray.toList_eq]
  by_cases h : a = b
  · subst h; simp
  · rw [decide_eq_false h, beq_eq_false_iff_ne]
    intro e
    exact h (kst_inj (by unfold kst; rw [e]))
theorem str_ne {a b : ByteArray} (h : a ≠ b) : (a.toList == b.toList) = false := by rw [str_eq]; exact decide_eq_false h
theorem str_ne0 {n : ByteArray} (h : n ≠ ⟨#[]⟩) : n.toList.isEmpty = false := by
  have b3 := str_ne h
  simp at b3
  cases hx : n.toList with
  | nil => exact absurd hx b3
  | cons => rfl
def argV (ab : List Nat) (a : ArgT) : Value := .agg #[arP ab a.1, .string a.2.1, .int .i64 a.2.2.1, .float .f64 a.2.2.2.1, .string a.2.2.2.2]
theorem argS_facts {st : FS} (hok : OkF st) (a : ArgT) (ha : a.1 ≤ st.n) : OkF (argS st a).1 ∧ ((argS st a).2.given = true → (argS st a).2.arr = 0) ∧ (∀ j, (argS st a).2.frm = some j → j < (argS st a).1.sl.length) ∧ (argS st a).2.arr ≤ (argS st a).1.n ∧ (argS st a).1.n = st.n ∧ (argS st a).1.ca = st.ca := by
  unfold argS
  split
  · exact ⟨hok, (fun x => by cases x), (fun j x => by cases x), ha, rfl, rfl⟩
  · split
    · exact ⟨hok, fun _ => rfl, (fun j x => by cases x), Nat.zero_le _, rfl, rfl⟩
    · have hf := findS_ok hok a.2.1
      cases h : findS st a.2.1 with
      | mk st1 i =>
        rw [h] at hf
        obtain ⟨h1, h2, h3, h4⟩ := hf
        dsimp only at h1 h2 h3 h4 ⊢
        split
        · exact ⟨h1, (fun x => by cases x), (fun j x => by cases x), resA_le h1.ok h1.le i, h3, h4⟩
        · split
          · exact ⟨h1, fun _ => rfl, (fun j x => by cases x), Nat.zero_le _, h3, h4⟩
          · exact ⟨h1, (fun x => by cases x), (fun j x => by cases x; exact h2), Nat.zero_le _, h3, h4⟩
def ArgAt (G : GH) (st : FS) (a : ArgT) (w : World) (e : Ending) (w' : World) : Prop :=
  ∃ (G' : GH) (b : Nat), e = .returned (.pointer (some ⟨b, 0, none⟩)) ∧ slP G'.sb (argS st a).1.sl.length = .pointer (some ⟨b, 0, none⟩) ∧ FrGo G (addS (argS st a).1 (argS st a).2) w G' w'
theorem arg_end {G G1 : GH} {st st1 : FS} {a : ArgT} {s : SM} {p : Nat} {w w1 : World} {cs : Array Value} (hok : OkF st) (ha : a.1 ≤ st.n) (h : argS st a = (st1, s)) (hg : FrGo G st1 w G1 w1) (hcs : cs = slC G1.sb (arP G1.ab p) s) (hp : p = 0 ∨ p = s.arr) (hp2 : s.arr ≠ 0 → p = s.arr) {B : Nat} (hB : w1.heap.size = B) :
    ArgAt G st a w (.returned (.pointer (some ⟨B, 0, none⟩))) (w1.alloc (.cells cs 83)) := by
  subst hB
  obtain ⟨f1, f2, f3, f4, _, _⟩ := argS_facts hok a ha
  rw [h] at f1 f2 f3 f4
  have hb : Below w1.heap.size w1 (w1.alloc (.cells cs 83)) := (Below.refl _ w1).alloc (Nat.le_refl _) _
  have k := hg.slotNew f1 hb (b := w1.heap.size) (p := p) (Nat.le_refl _) s f2 f3 (by rw [← hcs]; exact heap_alloc_new _ _) hp hp2
  unfold ArgAt
  rw [h]
  exact ⟨G1.slot w1.heap.size, w1.heap.size, rfl, by simp only [GH.slot]; rw [← hg.fr.sl]; exact slP_last _ _, k⟩
set_option maxHeartbeats 8000000 in
theorem arg_any (G : GH) (st : FS) (w : World) (k : Nat) (nm : ByteArray) (x : Int) (y : Nat) (z : ByteArray) (h : FR XN G st w) (hok : OkF st) (ha : k ≤ st.n) (hs : nm.size ≤ maxLen) (hn : st.sl.length < 9007199254740992) :
    Calls Try.prog 28 #[.pointer (some ⟨G.F, 0, none⟩), argV G.ab (k, nm, (x, y, z))] w (ArgAt G st (k, nm, (x, y, z)) w) := by
  have hb0 : Below w.heap.size w (w.alloc (.cells #[arP G.ab k, .string nm, .int .i64 x, .float .f64 y, .string z] 34)) := (Below.refl _ w).alloc (Nat.le_refl _) _
  have hg0 := (FrGo.refl h).more hb0
  have HG := Lib.hid hg0
  have HO := Lib.hid (And.intro hok ha)
  simp only [argV]
  cases k with
  | succ k =>
    have hf : argS st (k + 1, nm, (x, y, z)) = (st, ⟨k + 1, noCell, false, none⟩) := by unfold argS; rw [if_pos (by simp)]
    have HE := Lib.hid (arg_end (cs := #[arP G.ab (k + 1), .int .i64 0, .float .f64 0, .string ⟨#[]⟩, .bool false, .pointer none]) hok ha hf hg0 rfl (.inr rfl) (fun _ => rfl) (B := w.heap.size + 1) (by simp))
    clear hf hg0 hb0 hok ha hn HG HO
    simp only [arP] at HE ⊢
    generalize G.ab.getD k 0 = g at *
    go_enter Try.func28, Try.ntmps28
    go_wp2_with fail
    go_ret
    exact HE.out
  | zero =>
    by_cases hnm : nm.data.toList = []
    · obtain rfl : nm = ⟨#[]⟩ := Go.WideShapes.bytes_inj hnm
      by_cases hx0 : x = 0
      · subst hx0
        have hf : argS st (0, ⟨#[]⟩, (0, y, z)) = (st, ⟨0, (0, y, z), false, none⟩) := by
          unfold argS
          rw [if_neg (by simp), if_pos hnm]
          rfl
        have HE := Lib.hid (arg_end (p := 0) (cs := #[.pointer none, .int .i64 0, .float .f64 y, .string z, .bool false, .pointer none]) hok ha hf hg0 rfl (.inl rfl) (fun e => absurd rfl e) (B := w.heap.size + 1) (by simp))
        clear hf hg0 hb0 hok ha hn HG HO
        simp only [arP] at HE ⊢
        go_enter Try.func28, Try.ntmps28
        go_wp2_with fail
        go_ret
        exact HE.out
      · have hf : argS st (0, ⟨#[]⟩, (x, y, z)) = (st, ⟨0, (x, y, z), true, none⟩) := by
          unfold argS
          rw [if_neg (by simp), if_pos hnm]
          simp [hx0]
        have HE := Lib.hid (arg_end (p := 0) (cs := #[.pointer none, .int .i64 x, .float .f64 y, .string z, .bool true, .pointer none]) hok ha hf hg0 rfl (.inl rfl) (fun e => absurd rfl e) (B := w.heap.size + 1) (by simp))
        have hxb : (x != 0) = true := by simp [hx0]
        clear hf hg0 hb0 hok ha hn HG HO hx0
        simp only [arP] at HE ⊢
        go_enter Try.func28, Try.ntmps28
        go_wp2_with fail
        go_ret
        exact HE.out
    · have hne0 : nm.toList.isEmpty = false := str_ne0 (fun e => hnm (by rw [e]))
      cases hfi : findS st nm with
      | mk st1 i =>
      obtain ⟨hok1, hi1, _, _⟩ := find_facts hok hfi
      have HFi := Lib.hid (find_ptr (h.below hb0) hok hs hn hfi)
      have hk : argS st (0, nm, (x, y, z)) = (if resA st1.sl i ≠ 0 then (st1, ⟨resA st1.sl i, noCell, false, none⟩) else if (slotS st1 i).given = true then (st1, ⟨0, (slotS st1 i).val, true, none⟩) else (st1, ⟨0, noCell, false, some i⟩)) := by
        unfold argS
        rw [if_neg (by simp), if_neg hnm, hfi]
      have HK := Lib.hid hk
      have HO1 := Lib.hid (And.intro hok1 hi1)
      clear h hok hfi hok1 hi1 hk hn hb0 hg0 hnm ha
      simp only [arP]
      go_enter Try.func28, Try.ntmps28
      go_wp2_with fail
      refine HFi.out.mono ?_
      rintro e w1 ⟨G1, b, rfl, hbp, hg1⟩
      have hse := seen_any i G1 st1 w1 hg1.fr HO1.out.1 HO1.out.2
      rw [hbp] at hse
      have HSe := Lib.hid hse
      have HG1 := Lib.hid (And.intro hbp hg1)
      clear hse hbp hg1 HFi
      go_wp2_with fail
      refine HSe.out.mono ?_
      rintro e w2 ⟨rfl, hS⟩
      obtain ⟨g2, hb, v, hv, p, hx⟩ := behind HO1.out.1 HO1.out.2 HG1.out.1 HG1.out.2 hS
      obtain ⟨c0, c1, c2, c3, c4, _, _⟩ := sl_cells hv
      clear c0
      have k0 := hS.c0 _ hb
      have hg2 := HG.out.trans g2
      cases hr : resA st1.sl i with
      | succ k =>
        rw [hr] at k0
        have hf : argS st (0, nm, (x, y, z)) = (st1, ⟨k + 1, noCell, false, none⟩) := by rw [HK.out, hr]; simp
        have HE := Lib.hid (arg_end (p := k + 1) (cs := #[arP G1.ab (k + 1), .int .i64 0, .float .f64 0, .string ⟨#[]⟩, .bool false, .pointer none]) HO.out.1 HO.out.2 hf hg2 rfl (.inr rfl) (fun _ => rfl) rfl)
        clear hf hg2 g2 hb hv hx hS hr HSe HG1 c1 c2 c3 c4
        simp only [arP] at HE k0 ⊢
        generalize G1.ab.getD k 0 = g at *
        go_wp2_with fail
        go_ret
        exact HE.out
      | zero =>
        rw [hr] at k0
        cases hgv : (slotS st1 i).given with
        | true =>
          rw [hgv] at c4
          have hf : argS st (0, nm, (x, y, z)) = (st1, ⟨0, (slotS st1 i).val, true, none⟩) := by rw [HK.out, hr, hgv]; simp
          generalize (slotS st1 i).val = c at *
          obtain ⟨x', y', z'⟩ := c
          dsimp only at c1 c2 c3
          have HE := Lib.hid (arg_end (p := 0) (cs := #[.pointer none, .int .i64 x', .float .f64 y', .string z', .bool true, .pointer none]) HO.out.1 HO.out.2 hf hg2 rfl (.inl rfl) (fun e => absurd rfl e) rfl)
          clear hf hg2 g2 hb hv hx hS hr HSe HG1 hgv HK
          simp only [arP] at HE k0 ⊢
          go_wp2_with fail
          go_ret
          exact HE.out
        | false =>
          rw [hgv] at c4
          have hf : argS st (0, nm, (x, y, z)) = (st1, ⟨0, noCell, false, some i⟩) := by rw [HK.out, hr, hgv]; simp
          have HE := Lib.hid (arg_end (p := 0) (cs := #[.pointer none, .int .i64 0, .float .f64 0, .string ⟨#[]⟩, .bool false, .pointer (some ⟨b, 0, none⟩)]) HO.out.1 HO.out.2 hf hg2 (by rw [← HG1.out.1]; rfl) (.inl rfl) (fun e => absurd rfl e) rfl)
          clear hf hg2 g2 hb hv hx hS hr HSe HG1 hgv HK c1 c2 c3
          simp only [arP] at HE k0 ⊢
          go_wp2_with fail
          go_ret
          exact HE.out
end Go.Proofs.Ytbpaiocbgbpiaaa
