/- Every write; what was done, copied; one that was open is shut. -/
import Derived.Test.YticinbkgmfoeoaaWdW3
import Derived.Test.YticinbkgmfoeoaaRd
namespace Go.Proofs.Yticinbkgmfoeoaa
open Go.RowKit
set_option linter.unusedVariables false

section
variable {lo : Nat} {w : World} {g b1 b2 n1 n2 : Nat} {env clock vo va : Value} {files cmds : ByteArray → Option Value} {op : List ST} {ac : List AT} {size : Int}
theorem PW.stand (h : PW lo w g b1 b2 n1 n2 env clock vo va files cmds op ac size) : Stand lo w g b1 b2 n1 n2 env clock vo va files cmds op ac size w :=
  ⟨vo, va, h, Goes.of_below (Below.refl _ _)⟩
theorem PW.stand_below (h : PW lo w g b1 b2 n1 n2 env clock vo va files cmds op ac size) {w' : World} (hb : Below w.heap.size w w') : Stand lo w g b1 b2 n1 n2 env clock vo va files cmds op ac size w' :=
  ⟨vo, va, h.below hb, Goes.of_below hb⟩

set_option maxHeartbeats 4000000 in
theorem write_bad (h : PW lo w g b1 b2 n1 n2 env clock vo va files cmds op ac size) (to : Int) (nm dt : ByteArray) (hto : to < 1 ∨ 4 < to) :
    Calls Try.prog 10 #[.pointer (some ⟨g, 0, none⟩), .int .i64 to, .string nm, .string dt] w fun e w' => e = .returned (.int .i64 1) ∧ Stand lo w g b1 b2 n1 n2 env clock vo va files cmds op ac size w' := by
  have H := Lib.hid h.stand
  clear h
  by_cases h1 : to < 1
  · clear hto
    go_enter Try.func10, Try.ntmps10
    go_wp2_with fail
    go_ret
    exact ⟨rfl, H.out⟩
  · have h4 : 4 < to := by omega
    clear hto
    go_enter Try.func10, Try.ntmps10
    go_wp2_with fail
    go_ret
    exact ⟨rfl, H.out⟩
set_option maxHeartbeats 4000000 in
theorem write_long (h : PW lo w g b1 b2 n1 n2 env clock vo va files cmds op ac size) (hs0 : 0 ≤ size) (hs1 : size ≤ 16384) (to : Int) (nm dt : ByteArray) (h1 : ¬ to < 1) (h4 : ¬ 4 < to) (hd : 16384 - size < (dt.size : Int)) :
    Calls Try.prog 10 #[.pointer (some ⟨g, 0, none⟩), .int .i64 to, .string nm, .string dt] w fun e w' => e = .returned (.int .i64 3) ∧ Stand lo w g b1 b2 n1 n2 env clock vo va files cmds op ac size w' := by
  have H := Lib.hid h.stand
  obtain ⟨_, _, _, c6, _⟩ := h.cells
  clear h
  go_enter Try.func10, Try.ntmps10
  go_wp2_with fail
  go_ret
  exact ⟨rfl, H.out⟩
theorem write_any (h : PW lo w g b1 b2 n1 n2 env clock vo va files cmds op ac size) (hlo : lo ≤ w.heap.size) (hn : ac.length ≤ 100000) (hon : op.length ≤ 8) (hs0 : 0 ≤ size) (hs1 : size ≤ 16384) (to : Int) (nm dt : ByteArray) :
    Calls Try.prog 10 #[.pointer (some ⟨g, 0, none⟩), .int .i64 to, .string nm, .string dt] w fun e w' => e = .returned (.int .i64 (wrS op ac size to nm dt).1) ∧ Stand lo w g b1 b2 n1 n2 env clock vo va files cmds (wrS op ac size to nm dt).2.1 (wrS op ac size to nm dt).2.2.1 (wrS op ac size to nm dt).2.2.2 w' := by
  by_cases h1 : to < 1 ∨ 4 < to
  · rw [show wrS op ac size to nm dt = (1, op, ac, size) by unfold wrS; rw [if_pos h1]]
    exact write_bad h to nm dt h1
  · by_cases hd : 16384 - size < (dt.size : Int)
    · rw [show wrS op ac size to nm dt = (3, op, ac, size) by unfold wrS; rw [if_neg h1, if_pos hd]]
      exact write_long h hs0 hs1 to nm dt (by omega) (by omega) hd
    · by_cases ht : to = 1
      · rw [show wrS op ac size to nm dt = (0, op, ac ++ [(1, ⟨#[]⟩, dt)], size + dt.size) by unfold wrS; rw [if_neg h1, if_neg hd, if_pos ht]]
        subst ht
        exact write_out h hlo hn hs0 hs1 nm dt hd
      · exact write_put h hlo hn hon hs0 hs1 to (by omega) nm dt hd

/-- Something open is shut. -/
def shutK (s : ST) : Int := if s.1 = true then 8 else 7
set_option maxHeartbeats 4000000 in
theorem shut_any (h : PW lo w g b1 b2 n1 n2 env clock vo va files cmds op ac size) (hlo : lo ≤ w.heap.size) (hn : ac.length ≤ 1048576) (p : Bool) (nm : ByteArray) :
    Calls Try.prog 34 #[.pointer (some ⟨g, 0, none⟩), .agg #[.bool p, .string nm]] w fun e w' => e = .returned (.tuple #[]) ∧ Stand lo w g b1 b2 n1 n2 env clock vo va files cmds op (ac ++ [(shutK (p, nm), nm, ⟨#[]⟩)]) size w' := by
  have hb1 : Below w.heap.size w (w.alloc (.cells #[.bool p, .string nm] 81)) := (Below.refl _ w).alloc (Nat.le_refl _) _
  have HD := do_stand (h.below hb1) (Nat.le_trans hlo hb1.size) hn (shutK (p, nm)) nm ⟨#[]⟩
  have HB := Lib.hid (Goes.of_below (g := g) (b2 := b2) (vo := vo) (va := va) hb1)
  replace HD := Lib.hid HD
  clear h hb1
  cases p
  · rw [show shutK (false, nm) = 7 from rfl] at HD ⊢
    go_enter Try.func34, Try.ntmps34
    go_wp2_with fail
    refine HD.out.mono ?_
    rintro e w3 ⟨rfl, vo', va', h3, g3⟩
    go_wp2_with fail
    go_end0
    exact ⟨rfl, vo', va', h3, HB.out.trans g3⟩
  · rw [show shutK (true, nm) = 8 from rfl] at HD ⊢
    go_enter Try.func34, Try.ntmps34
    go_wp2_with fail
    refine HD.out.mono ?_
    rintro e w3 ⟨rfl, vo', va', h3, g3⟩
    go_wp2_with fail
    go_end0
    exact ⟨rfl, vo', va', h3, HB.out.trans g3⟩
end

theorem RowC.a {w : World} {B size : Nat} {v : Value} {n : Nat} {xs : List Value} (h : RowC w B size v n xs) : RowA w size v n xs := by
  obtain ⟨h1, A, c, h2, h3, h4, h5⟩ := h
  refine ⟨h1, A, c, h2, h3, h4, fun a ha j u hj => ?_⟩
  obtain ⟨b, off, rfl, _, e3⟩ := h5 a ha
  rw [addr_add]
  exact e3 j u hj
/-! ### copies of rows -/
theorem nil_no_act (a : Addr) (n c : Nat) (w : World) : (binOp .eql 35 (.slice (some a) n c) (.slice none 0 0)).run Try.prog w = .ok (.bool false) w := by kernel_rfl
theorem nil_yes_act (w : World) : (binOp .eql 35 (.slice none 0 0) (.slice none 0 0)).run Try.prog w = .ok (.bool true) w := by kernel_rfl
set_option maxHeartbeats 4000000 in
theorem cloneA_act (v : Value) (n : Nat) (xs : List Value) (w : World) (h : RowA w 3 v n xs) (hn : n ≤ 1048576) (hu : ∀ u ∈ xs, u.oneCell' = true) :
    Calls Try.prog 33 #[v] w fun e w' => ∃ v', e = .returned v' ∧ w'.ownsRow w.heap.size 39 3 v' n xs ∧ Below w.heap.size w w' := by
  obtain ⟨hl, A, c, rfl, hA, hnc, hcells⟩ := h
  cases A with
  | none =>
    obtain ⟨rfl, rfl⟩ := hA rfl
    have hle : xs = [] := List.eq_nil_of_length_eq_zero (by omega)
    subst hle
    have hny := nil_yes_act w
    clear hcells hA hl hnc hu hn
    go_enter Try.func33, Try.ntmps33
    go_wp2_with fail
    go_ret
    exact ⟨_, rfl, own_none _ _ _, Below.refl _ _⟩
  | some a =>
    have hj := hcells a rfl
    have hnn := nil_no_act a n c w
    have hb0 : Below w.heap.size w (w.alloc (.cells #[] 39)) := (Below.refl _ w).alloc (Nat.le_refl _) _
    have hsrc : ∀ j u, xs[j]? = some u → (w.alloc (.cells #[] 39)).cell? (a.add j) = some u := fun j u h => (hb0.cell (lt_of_cell (hj j u h))).trans (hj j u h)
    obtain ⟨i0, hi, hz0, hz1, hz2⟩ := info_parts act_info
    clear hcells hA hj
    go_enter Try.func33, Try.ntmps33
    go_wp2_with (at_builtin; refine wpList_append_own_at _ rfl (.tmp 5) (.tmp 6) 35 rfl w.heap.size 39 i0 (.agg #[.int .i64 0, .string ByteArray.empty, .string ByteArray.empty]) 3 40 Try.underlying35 hi hz0 hz1 hz2 rfl (by omega) (.slice (some ⟨w.heap.size, 0, none⟩) 0 0) 0 [] rfl (World.ownsRow_lit w #[] 0 (Nat.le_refl _) (by unfold maxLen; omega) rfl) a n c xs rfl hl hsrc hu (by unfold maxLen; omega) (by omega) (by simp) ?_; intro v' w' hown' hgrow _ _)
    have hBw : Below w.heap.size w w' := hb0.grown hgrow (by simp) (fun k e => by cases e; exact Nat.le_refl _)
    rw [Nat.zero_add, List.nil_append] at hown'
    clear hgrow
    obtain ⟨A', c', rfl⟩ := own_shape hown'
    go_wp2_with fail
    go_ret
    exact ⟨_, rfl, hown', hBw⟩
theorem clone_act (v : Value) (n : Nat) (xs : List Value) (w : World) (h : RowC w w.heap.size 3 v n xs) (hn : n ≤ 1048576) (hu : ∀ u ∈ xs, u.oneCell' = true) :
    Calls Try.prog 33 #[v] w fun e w' => ∃ v', e = .returned v' ∧ w'.ownsRow w.heap.size 39 3 v' n xs ∧ Below w.heap.size w w' := cloneA_act v n xs w h.a hn hu

theorem strn_info : (Try.prog.info? 9).map (fun i => (i.zero, i.size, i.bytes)) = some (some (.string ByteArray.empty), 1, 16) := by kernel_rfl
theorem nil_no_str (a : Addr) (n c : Nat) (w : World) : (binOp .eql 23 (.slice (some a) n c) (.slice none 0 0)).run Try.prog w = .ok (.bool false) w := by kernel_rfl
theorem nil_yes_str (w : World) : (binOp .eql 23 (.slice none 0 0) (.slice none 0 0)).run Try.prog w = .ok (.bool true) w := by kernel_rfl
set_option maxHeartbeats 4000000 in
theorem cloneA_str (v : Value) (n : Nat) (xs : List Value) (w : World) (h : RowA w 1 v n xs) (hn : n ≤ 8796093022208) (hu : ∀ u ∈ xs, u.oneCell' = true) :
    Calls Try.prog 29 #[v] w fun e w' => ∃ v', e = .returned v' ∧ w'.ownsRow w.heap.size 9 1 v' n xs ∧ Below w.heap.size w w' := by
  obtain ⟨hl, A, c, rfl, hA, hnc, hcells⟩ := h
  cases A with
  | none =>
    obtain ⟨rfl, rfl⟩ := hA rfl
    have hle : xs = [] := List.eq_nil_of_length_eq_zero (by omega)
    subst hle
    have hny := nil_yes_str w
    clear hcells hA hl hnc hu hn
    go_enter Try.func29, Try.ntmps29
    go_wp2_with fail
    go_ret
    exact ⟨_, rfl, own_none _ _ _, Below.refl _ _⟩
  | some a =>
    have hj := hcells a rfl
    have hnn := nil_no_str a n c w
    have hb0 : Below w.heap.size w (w.alloc (.cells #[] 9)) := (Below.refl _ w).alloc (Nat.le_refl _) _
    have hsrc : ∀ j u, xs[j]? = some u → (w.alloc (.cells #[] 9)).cell? (a.add j) = some u := fun j u h => (hb0.cell (lt_of_cell (hj j u h))).trans (hj j u h)
    obtain ⟨i0, hi, hz0, hz1, hz2⟩ := info_parts strn_info
    clear hcells hA hj
    go_enter Try.func29, Try.ntmps29
    go_wp2_with (at_builtin; refine wpList_append_own_at _ rfl (.tmp 5) (.tmp 6) 23 rfl w.heap.size 9 i0 (.string ByteArray.empty) 1 16 Try.underlying23 hi hz0 hz1 hz2 rfl (by omega) (.slice (some ⟨w.heap.size, 0, none⟩) 0 0) 0 [] rfl (World.ownsRow_lit w #[] 0 (Nat.le_refl _) (by unfold maxLen; omega) rfl) a n c xs rfl hl hsrc hu (by unfold maxLen; omega) (by omega) (by simp) ?_; intro v' w' hown' hgrow _ _)
    have hBw : Below w.heap.size w w' := hb0.grown hgrow (by simp) (fun k e => by cases e; exact Nat.le_refl _)
    rw [Nat.zero_add, List.nil_append] at hown'
    clear hgrow
    obtain ⟨A', c', rfl⟩ := own_shape hown'
    go_wp2_with fail
    go_ret
    exact ⟨_, rfl, hown', hBw⟩
theorem clone_str (v : Value) (n : Nat) (xs : List Value) (w : World) (h : RowC w w.heap.size 1 v n xs) (hn : n ≤ 8796093022208) (hu : ∀ u ∈ xs, u.oneCell' = true) :
    Calls Try.prog 29 #[v] w fun e w' => ∃ v', e = .returned v' ∧ w'.ownsRow w.heap.size 9 1 v' n xs ∧ Below w.heap.size w w' := cloneA_str v n xs w h.a hn hu

theorem intn_info : (Try.prog.info? 3).map (fun i => (i.zero, i.size, i.bytes)) = some (some (.int .i64 0), 1, 8) := by kernel_rfl
theorem nil_no_int (a : Addr) (n c : Nat) (w : World) : (binOp .eql 29 (.slice (some a) n c) (.slice none 0 0)).run Try.prog w = .ok (.bool false) w := by kernel_rfl
theorem nil_yes_int (w : World) : (binOp .eql 29 (.slice none 0 0) (.slice none 0 0)).run Try.prog w = .ok (.bool true) w := by kernel_rfl
set_option maxHeartbeats 4000000 in
theorem cloneA_int (v : Value) (n : Nat) (xs : List Value) (w : World) (h : RowA w 1 v n xs) (hn : n ≤ 17592186044416) (hu : ∀ u ∈ xs, u.oneCell' = true) :
    Calls Try.prog 28 #[v] w fun e w' => ∃ v', e = .returned v' ∧ w'.ownsRow w.heap.size 3 1 v' n xs ∧ Below w.heap.size w w' := by
  obtain ⟨hl, A, c, rfl, hA, hnc, hcells⟩ := h
  cases A with
  | none =>
    obtain ⟨rfl, rfl⟩ := hA rfl
    have hle : xs = [] := List.eq_nil_of_length_eq_zero (by omega)
    subst hle
    have hny := nil_yes_int w
    clear hcells hA hl hnc hu hn
    go_enter Try.func28, Try.ntmps28
    go_wp2_with fail
    go_ret
    exact ⟨_, rfl, own_none _ _ _, Below.refl _ _⟩
  | some a =>
    have hj := hcells a rfl
    have hnn := nil_no_int a n c w
    have hb0 : Below w.heap.size w (w.alloc (.cells #[] 3)) := (Below.refl _ w).alloc (Nat.le_refl _) _
    have hsrc : ∀ j u, xs[j]? = some u → (w.alloc (.cells #[] 3)).cell? (a.add j) = some u := fun j u h => (hb0.cell (lt_of_cell (hj j u h))).trans (hj j u h)
    obtain ⟨i0, hi, hz0, hz1, hz2⟩ := info_parts intn_info
    clear hcells hA hj
    go_enter Try.func28, Try.ntmps28
    go_wp2_with (at_builtin; refine wpList_append_own_at _ rfl (.tmp 5) (.tmp 6) 29 rfl w.heap.size 3 i0 (.int .i64 0) 1 8 Try.underlying29 hi hz0 hz1 hz2 rfl (by omega) (.slice (some ⟨w.heap.size, 0, none⟩) 0 0) 0 [] rfl (World.ownsRow_lit w #[] 0 (Nat.le_refl _) (by unfold maxLen; omega) rfl) a n c xs rfl hl hsrc hu (by unfold maxLen; omega) (by omega) (by simp) ?_; intro v' w' hown' hgrow _ _)
    have hBw : Below w.heap.size w w' := hb0.grown hgrow (by simp) (fun k e => by cases e; exact Nat.le_refl _)
    rw [Nat.zero_add, List.nil_append] at hown'
    clear hgrow
    obtain ⟨A', c', rfl⟩ := own_shape hown'
    go_wp2_with fail
    go_ret
    exact ⟨_, rfl, hown', hBw⟩
theorem clone_int (v : Value) (n : Nat) (xs : List Value) (w : World) (h : RowC w w.heap.size 1 v n xs) (hn : n ≤ 17592186044416) (hu : ∀ u ∈ xs, u.oneCell' = true) :
    Calls Try.prog 28 #[v] w fun e w' => ∃ v', e = .returned v' ∧ w'.ownsRow w.heap.size 3 1 v' n xs ∧ Below w.heap.size w w' := cloneA_int v n xs w h.a hn hu

theorem pair_info : (Try.prog.info? 61).map (fun i => (i.zero, i.size, i.bytes)) = some (some (.agg #[.string ByteArray.empty, .string ByteArray.empty]), 2, 32) := by kernel_rfl
theorem nil_no_pair (a : Addr) (n c : Nat) (w : World) : (binOp .eql 28 (.slice (some a) n c) (.slice none 0 0)).run Try.prog w = .ok (.bool false) w := by kernel_rfl
theorem nil_yes_pair (w : World) : (binOp .eql 28 (.slice none 0 0) (.slice none 0 0)).run Try.prog w = .ok (.bool true) w := by kernel_rfl
set_option maxHeartbeats 4000000 in
theorem cloneA_pair (v : Value) (n : Nat) (xs : List Value) (w : World) (h : RowA w 2 v n xs) (hn : n ≤ 4398046511104) (hu : ∀ u ∈ xs, u.oneCell' = true) :
    Calls Try.prog 27 #[v] w fun e w' => ∃ v', e = .returned v' ∧ w'.ownsRow w.heap.size 61 2 v' n xs ∧ Below w.heap.size w w' := by
  obtain ⟨hl, A, c, rfl, hA, hnc, hcells⟩ := h
  cases A with
  | none =>
    obtain ⟨rfl, rfl⟩ := hA rfl
    have hle : xs = [] := List.eq_nil_of_length_eq_zero (by omega)
    subst hle
    have hny := nil_yes_pair w
    clear hcells hA hl hnc hu hn
    go_enter Try.func27, Try.ntmps27
    go_wp2_with fail
    go_ret
    exact ⟨_, rfl, own_none _ _ _, Below.refl _ _⟩
  | some a =>
    have hj := hcells a rfl
    have hnn := nil_no_pair a n c w
    have hb0 : Below w.heap.size w (w.alloc (.cells #[] 61)) := (Below.refl _ w).alloc (Nat.le_refl _) _
    have hsrc : ∀ j u, xs[j]? = some u → (w.alloc (.cells #[] 61)).cell? (a.add j) = some u := fun j u h => (hb0.cell (lt_of_cell (hj j u h))).trans (hj j u h)
    obtain ⟨i0, hi, hz0, hz1, hz2⟩ := info_parts pair_info
    clear hcells hA hj
    go_enter Try.func27, Try.ntmps27
    go_wp2_with (at_builtin; refine wpList_append_own_at _ rfl (.tmp 5) (.tmp 6) 28 rfl w.heap.size 61 i0 (.agg #[.string ByteArray.empty, .string ByteArray.empty]) 2 32 Try.underlying28 hi hz0 hz1 hz2 rfl (by omega) (.slice (some ⟨w.heap.size, 0, none⟩) 0 0) 0 [] rfl (World.ownsRow_lit w #[] 0 (Nat.le_refl _) (by unfold maxLen; omega) rfl) a n c xs rfl hl hsrc hu (by unfold maxLen; omega) (by omega) (by simp) ?_; intro v' w' hown' hgrow _ _)
    have hBw : Below w.heap.size w w' := hb0.grown hgrow (by simp) (fun k e => by cases e; exact Nat.le_refl _)
    rw [Nat.zero_add, List.nil_append] at hown'
    clear hgrow
    obtain ⟨A', c', rfl⟩ := own_shape hown'
    go_wp2_with fail
    go_ret
    exact ⟨_, rfl, hown', hBw⟩
theorem clone_pair (v : Value) (n : Nat) (xs : List Value) (w : World) (h : RowC w w.heap.size 2 v n xs) (hn : n ≤ 4398046511104) (hu : ∀ u ∈ xs, u.oneCell' = true) :
    Calls Try.prog 27 #[v] w fun e w' => ∃ v', e = .returned v' ∧ w'.ownsRow w.heap.size 61 2 v' n xs ∧ Below w.heap.size w w' := cloneA_pair v n xs w h.a hn hu

/-- What was done, copied. -/
theorem actC_len (l : List AT) : (l.flatMap actC).length = l.length * 3 := by
  induction l with
  | nil => rfl
  | cons x l ih => rw [List.flatMap_cons, List.length_append, ih, List.length_cons]; simp [actC]; omega
theorem actC_one (l : List AT) : ∀ u ∈ l.flatMap actC, u.oneCell' = true := by
  intro u hu
  obtain ⟨x, _, hx⟩ := List.mem_flatMap.1 hu
  simp only [actC, List.mem_cons, List.not_mem_nil, or_false] at hx
  rcases hx with rfl | rfl | rfl <;> rfl
theorem acts_any {lo : Nat} {w : World} {g b1 b2 n1 n2 : Nat} {env clock vo va : Value} {files cmds : ByteArray → Option Value} {op : List ST} {ac : List AT} {size : Int}
    (h : PW lo w g b1 b2 n1 n2 env clock vo va files cmds op ac size) (hn : ac.length ≤ 1048576) :
    Calls Try.prog 11 #[.pointer (some ⟨g, 0, none⟩)] w fun e w' => ∃ v, e = .returned v ∧ w'.ownsRow w.heap.size 39 3 v ac.length (ac.flatMap actC) ∧ Below w.heap.size w w' := by
  obtain ⟨_, _, c5, _⟩ := h.cells
  have HC := Lib.hid (clone_act va ac.length _ w (RowC.of_own h.a) hn (actC_one ac))
  obtain ⟨A, c, rfl⟩ := own_shape h.a
  clear h
  go_enter Try.func11, Try.ntmps11
  go_wp2_with fail
  refine HC.out.mono ?_
  rintro e w' ⟨v, rfl, hown, hb⟩
  obtain ⟨A', c', rfl⟩ := own_shape hown
  go_wp2_with fail
  go_ret
  exact ⟨_, rfl, hown, hb⟩

end Go.Proofs.Yticinbkgmfoeoaa
