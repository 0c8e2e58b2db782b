/- All that is open is shut; the time; what a file has: walked. -/
import Derived.Test.YticinbkgmfoeoaaWdW5
namespace Go.Proofs.Yticinbkgmfoeoaa
open Go.RowKit
set_option linter.unusedVariables false

section
variable {lo : Nat} {w w' : World} {g b1 b2 n1 n2 : Nat} {env clock vo va : Value} {files cmds : ByteArray → Option Value} {op : List ST} {ac : List AT} {size : Int}
set_option maxRecDepth 20000 in
set_option maxHeartbeats 8000000 in
theorem end_any (h : PW lo w g b1 b2 n1 n2 env clock vo va files cmds op ac size) (hlo : lo ≤ w.heap.size) (hn : ac.length ≤ 100000) (hon : op.length ≤ 8) :
    Calls Try.prog 13 #[.pointer (some ⟨g, 0, none⟩)] w fun e w' => e = .returned (.tuple #[]) ∧ Stand lo w g b1 b2 n1 n2 env clock vo va files cmds [] (ac ++ shutS op) size w' := by
  obtain ⟨_, c4, _, _, fz⟩ := h.cells
  obtain ⟨A, c, rfl⟩ := h.o.shape
  have HS : Shutting lo w g b1 b2 n1 n2 env clock (.slice A op.length c) va files cmds op ac size A w va (.slice A 0 0) [] ac := ⟨h, Goes.of_below (Below.refl _ _), .inl ⟨rfl, rfl⟩⟩
  have H := Lib.hid h
  have HH := Lib.hid HS
  clear h fz HS
  go_enter Try.func13, Try.ntmps13
  go_wp2_with fail
  go_loopw [11] (fun v11 wr => ∃ (i : Nat) (va' : Value), v11 = .int .i64 (i : Int) ∧ i ≤ op.length ∧ Shutting lo w g b1 b2 n1 n2 env clock (.slice A op.length c) va files cmds op ac size A wr va' (.slice A 0 0) [] (ac ++ shutS (op.take i)))
    (fun v11 _ => op.length - (intOf v11).toNat)
  case atStart => exact ⟨0, va, rfl, Nat.zero_le _, by simpa [shutS] using HH.out⟩
  case round =>
    obtain ⟨i, va', rfl, hi, hS⟩ := hrel
    by_cases hlt : i < op.length
    · have i1 : (i : Int) < (op.length : Int) := by omega
      have i0 : (0 : Int) ≤ (i : Int) := by omega
      obtain ⟨_, A', c', e', hA, _, h4⟩ := hS.pw.o.rowC
      cases e'
      obtain ⟨go, off, rfl⟩ : ∃ go off, A = some ⟨go, off, none⟩ := by
        cases A with
        | none => have := (hA rfl).1; omega
        | some a => obtain ⟨b, off, rfl, _⟩ := h4 _ rfl; exact ⟨b, off, rfl⟩
      obtain ⟨b', off', e', _, hcc⟩ := h4 _ rfl
      cases e'
      have e0 := hcc (i * 2) _ (strC_at hlt).1
      have e1 : wr.cell? ⟨go, off + i * 2 + 1, none⟩ = _ := hcc (i * 2 + 1) _ (strC_at hlt).2
      have hx : op[i] = (op[i].1, op[i].2) := rfl
      have htk := take_snoc op hlt
      have hln : (ac ++ shutS (op.take i)).length ≤ 1048576 := by
        simp [shutS]
        omega
      generalize op[i].1 = p at *
      generalize op[i].2 = q at *
      rw [hx] at htk
      have hb1 : Below wr.heap.size wr (wr.alloc (.cells #[.bool p, .string q] 81)) := (Below.refl _ wr).alloc (Nat.le_refl _) _
      have hk2 : shutS (op.take (i + 1)) = shutS (op.take i) ++ [(shutK (p, q), q, ⟨#[]⟩)] := by rw [htk]; simp [shutS]
      have HC := shut_acted (hS.pw.below hb1) (Nat.le_trans (Nat.le_trans hlo hS.go.1.size) hb1.size) hln p q
      replace HC := Lib.hid HC
      have HX := Lib.hid (And.intro hS (And.intro hb1 hk2))
      clear hS hb1 hk2 hcc h4 hA htk hx hln
      go_wp2_with fail
      refine HC.out.mono ?_
      rintro e w3 ⟨rfl, h3⟩
      obtain ⟨hS, hb1, hk2⟩ := HX.out
      obtain ⟨va3, hS3⟩ := hS.acted (h3.from_below hb1)
      have H3 := Lib.hid (And.intro hS3 hk2)
      clear hS hb1 hk2 h3 hS3
      go_wp2_with fail
      go_roundw
      case rel =>
        obtain ⟨hS3, hk2⟩ := H3.out
        exact ⟨i + 1, va3, by go_num, by omega, by rw [hk2, ← List.append_assoc]; exact hS3⟩
      case measure => simp [intOf]; omega
    · have i1 : ¬ (i : Int) < (op.length : Int) := by omega
      rw [List.take_of_length_le (by omega)] at hS
      have hPW := hS.pw
      have hd := hPW.hd
      have f4 := frozen_of_row wr g 4 _ _ hd
      have d4 := (hd_cells hd).2.1
      have hfin : Stand lo w g b1 b2 n1 n2 env clock (.slice A op.length c) va files cmds [] (ac ++ shutS op) size (wr.setCell ⟨g, 4, none⟩ (.slice none 0 0)) := by
        refine ⟨_, va', hPW.reopened (.inl (own_none _ _ _)), hS.go.1.setCell _ _ (fun _ => .inl rfl), fun j hj => ?_⟩
        rcases hj with hj | hj
        · cases hj
        · exact hS.go.2 j (.inr hj)
      replace hfin := Lib.hid hfin
      clear hS hPW hd
      go_wp2_with fail
      go_end0
      exact ⟨rfl, hfin.out⟩

/-- What the clock still has: from its first number on. -/
def tickL : List Int → List Int
  | x :: y :: l => y :: l
  | l => l
theorem PW.ticked (h : PW lo w g b1 b2 n1 n2 env clock vo va files cmds op ac size) (v : Value) :
    PW lo (w.setCell ⟨g, 3, none⟩ v) g b1 b2 n1 n2 env v vo va files cmds op ac size ∧ Goes w g b2 vo va (w.setCell ⟨g, 3, none⟩ v) vo va := by
  obtain ⟨p1, p2, p3, p4, p5⟩ := h.apart
  exact ⟨⟨by rw [heap_setCell_same _ _ _ _ _ _ h.hd]; rfl, h.f.same (heap_setCell_other _ _ _ _ (fun e => p1 e.symm)), h.c.same (heap_setCell_other _ _ _ _ (fun e => p2 e.symm)), h.ne, h.o.same (fun j hj => heap_setCell_other _ _ _ _ (p3 j hj).1), own_same h.a (fun j hj => heap_setCell_other _ _ _ _ (p4 j hj).1)⟩, (Turn.refl w _).setCell _ _ (fun _ => .inl rfl), fun j hj => .inl hj⟩
/-- A row that reads so, in a block of elements of this type. -/
def RowT (w : World) (e : TypeId) (size : Nat) (v : Value) (n : Nat) (xs : List Value) : Prop :=
  RowC w w.heap.size size v n xs ∧ ∀ b off n' c, v = .slice (some ⟨b, off, none⟩) n' c → ∃ cs, w.heap[b]? = some (Obj.cells cs e (0, 0))
theorem RowT.of_own {base : Nat} {e : TypeId} {s : Nat} {v : Value} {n : Nat} {xs : List Value} (h : w.ownsRow base e s v n xs) : RowT w e s v n xs :=
  ⟨RowC.of_own h, fun b off n' c hv => by subst hv; exact own_obj h rfl⟩
theorem RowT.same {e : TypeId} {s : Nat} {v : Value} {n : Nat} {xs : List Value} (h : RowT w e s v n xs) (hs : w.heap.size ≤ w'.heap.size) (hk : ∀ (j : Nat) (cs : Array Value), w.heap[j]? = some (Obj.cells cs e (0, 0)) → w'.heap[j]? = w.heap[j]?) : RowT w' e s v n xs := by
  refine ⟨(h.1.same (fun A c b off e1 e2 => ?_)).more hs, fun b off n' c hv => ?_⟩
  · obtain ⟨cs, hc⟩ := h.2 b off n c (by rw [e1, e2])
    exact hk b cs hc
  · obtain ⟨cs, hc⟩ := h.2 b off n' c hv
    exact ⟨cs, (hk b cs hc).trans hc⟩
theorem RowT.below {e : TypeId} {s : Nat} {v : Value} {n : Nat} {xs : List Value} (h : RowT w e s v n xs) (hb : Below w.heap.size w w') : RowT w' e s v n xs :=
  h.same hb.size (fun j cs hc => hb.block j (Array.getElem?_eq_some_iff.1 hc).1)
theorem RowT.goes {e : TypeId} {s : Nat} {v : Value} {n : Nat} {xs : List Value} {vo' va' : Value} (h : RowT w e s v n xs) (hp : PW lo w g b1 b2 n1 n2 env clock vo va files cmds op ac size) (hg : Goes w g b2 vo va w' vo' va') (he : e ≠ 75 ∧ e ≠ 81 ∧ e ≠ 39) : RowT w' e s v n xs := by
  refine h.same hg.1.size (fun j cs hc => hg.1.block j (Array.getElem?_eq_some_iff.1 hc).1 (fun x => ?_))
  rcases x with rfl | rfl | x | x
  · rw [hp.hd] at hc; simp at hc; exact he.1 hc.2.symm
  · obtain ⟨es, c, ho⟩ := hp.c.obj
    rw [ho] at hc; cases hc
  · obtain ⟨c, ho⟩ := hp.o.obj x
    rw [ho] at hc; simp at hc; exact he.2.1 hc.2.symm
  · obtain ⟨c, ho⟩ := own_obj hp.a x
    rw [ho] at hc; simp at hc; exact he.2.2 hc.2.symm
/-- The clock, read: as a row of numbers. -/
def ClockIs (w : World) (v : Value) (l : List Int) : Prop := RowT w 3 1 v l.length (l.map (Value.int .i64))
theorem RowC.tail {n : Nat} {x : Value} {xs : List Value} {b off c : Nat} (h : RowC w w.heap.size 1 (.slice (some ⟨b, off, none⟩) (n + 1) c) (n + 1) (x :: xs)) (hn : 0 < n) : RowC w w.heap.size 1 (.slice (some ⟨b, off + 1, none⟩) n (c - 1)) n xs := by
  obtain ⟨h1, A, c', e, h2, h3, h4⟩ := h
  cases e
  obtain ⟨b', off', e, hb, hc⟩ := h4 _ rfl
  cases e
  refine ⟨by simpa using h1, _, _, rfl, (fun e => by cases e), by omega, fun a e => ?_⟩
  cases e
  refine ⟨b, off + 1, rfl, hb, fun j u hj => ?_⟩
  have := hc (j + 1) u (by simpa using hj)
  rw [show off + 1 + j = off + (j + 1) by omega]
  exact this
set_option maxHeartbeats 4000000 in
theorem clock_nil (h : PW lo w g b1 b2 n1 n2 env clock vo va files cmds op ac size) (hl : ClockIs w clock ([])) (hn : ([] : List Int).length ≤ maxLen) :
    Calls Try.prog 25 #[.pointer (some ⟨g, 0, none⟩)] w fun e w' => e = .returned (.int .i64 (([]).headD 0)) ∧ ∃ clock', PW lo w' g b1 b2 n1 n2 env clock' vo va files cmds op ac size ∧ Goes w g b2 vo va w' vo va ∧ ClockIs w' clock' (tickL ([])) := by
  obtain ⟨⟨_, _, _, c3⟩, _, _, _, fz⟩ := h.cells
  have f3 := fz 3
  have hlr := hl
  obtain ⟨⟨hln, A, c, rfl, hA, hnc, h4⟩, hty⟩ := hl
  have H := Lib.hid (And.intro h hlr)
  unfold maxLen at hn
  clear h hlr h4 hA fz hty hln
  simp only [List.length_nil] at *
  go_enter Try.func25, Try.ntmps25
  go_wp2_with fail
  go_ret
  exact ⟨rfl, _, H.out.1, Goes.of_below (Below.refl _ _), H.out.2⟩
set_option maxHeartbeats 4000000 in
theorem clock_one (h : PW lo w g b1 b2 n1 n2 env clock vo va files cmds op ac size) (x : Int) (hl : ClockIs w clock ([x])) (hn : ([x] : List Int).length ≤ maxLen) :
    Calls Try.prog 25 #[.pointer (some ⟨g, 0, none⟩)] w fun e w' => e = .returned (.int .i64 (([x]).headD 0)) ∧ ∃ clock', PW lo w' g b1 b2 n1 n2 env clock' vo va files cmds op ac size ∧ Goes w g b2 vo va w' vo va ∧ ClockIs w' clock' (tickL ([x])) := by
  obtain ⟨⟨_, _, _, c3⟩, _, _, _, fz⟩ := h.cells
  have f3 := fz 3
  have hlr := hl
  obtain ⟨⟨hln, A, c, rfl, hA, hnc, h4⟩, hty⟩ := hl
  have H := Lib.hid (And.intro h hlr)
  unfold maxLen at hn
  cases A with
  | none => exact absurd (hA rfl).1 (by simp)
  | some a =>
    obtain ⟨b, off, rfl, _, hc⟩ := h4 a rfl
    have c0 : w.cell? ⟨b, off, none⟩ = some (.int .i64 x) := hc 0 _ rfl
    clear h hlr h4 hA fz hty hln hc
    simp only [List.length_cons, List.length_nil, Nat.zero_add] at c3 hnc
    go_enter Try.func25, Try.ntmps25
    go_wp2_with fail
    go_ret
    exact ⟨rfl, _, H.out.1, Goes.of_below (Below.refl _ _), H.out.2⟩
set_option maxHeartbeats 4000000 in
theorem clock_more (h : PW lo w g b1 b2 n1 n2 env clock vo va files cmds op ac size) (x y : Int) (l : List Int) (hl : ClockIs w clock (x :: y :: l)) (hn : (x :: y :: l : List Int).length ≤ maxLen) :
    Calls Try.prog 25 #[.pointer (some ⟨g, 0, none⟩)] w fun e w' => e = .returned (.int .i64 ((x :: y :: l).headD 0)) ∧ ∃ clock', PW lo w' g b1 b2 n1 n2 env clock' vo va files cmds op ac size ∧ Goes w g b2 vo va w' vo va ∧ ClockIs w' clock' (tickL (x :: y :: l)) := by
  obtain ⟨⟨_, _, _, c3⟩, _, _, _, fz⟩ := h.cells
  have f3 := fz 3
  have hlr := hl
  obtain ⟨⟨hln, A, c, rfl, hA, hnc, h4⟩, hty⟩ := hl
  have H := Lib.hid (And.intro h hlr)
  unfold maxLen at hn
  cases A with
  | none => exact absurd (hA rfl).1 (by simp)
  | some a =>
    obtain ⟨b, off, rfl, _, hc⟩ := h4 a rfl
    have c0 : w.cell? ⟨b, off, none⟩ = some (.int .i64 x) := hc 0 _ rfl
    have hfin : ∃ clock', clock' = .slice (some ⟨b, off + 1, none⟩) (l.length + 1) (c - 1) ∧ PW lo (w.setCell ⟨g, 3, none⟩ clock') g b1 b2 n1 n2 env clock' vo va files cmds op ac size ∧ Goes w g b2 vo va (w.setCell ⟨g, 3, none⟩ clock') vo va ∧ ClockIs (w.setCell ⟨g, 3, none⟩ clock') clock' (y :: l) := by
      obtain ⟨k1, k2⟩ := h.ticked (.slice (some ⟨b, off + 1, none⟩) (l.length + 1) (c - 1))
      refine ⟨_, rfl, k1, k2, ?_⟩
      obtain ⟨cs, hcs⟩ := hty b off _ c rfl
      have ht : RowT w 3 1 (.slice (some ⟨b, off + 1, none⟩) (l.length + 1) (c - 1)) (l.length + 1) ((y :: l).map (Value.int .i64)) :=
        ⟨RowC.tail (x := .int .i64 x) hlr.1 (by omega), fun b' off' n' c' e => by cases e; exact ⟨cs, hcs⟩⟩
      exact ht.goes h k2 (by decide)
    obtain ⟨clock', hck, hfin⟩ := hfin
    replace hfin := Lib.hid hfin
    subst hck
    simp only [List.length_cons] at c3 hnc hn
    have g1 : ((l.length : Int) + 1 + 1 == 0) = false := by rw [beq_eq_false_iff_ne]; omega
    have g2 : (1 : Int) < (l.length : Int) + 1 + 1 := by omega
    have g3 : (1 : Int) ≤ (c : Int) := by omega
    clear h hlr h4 hA fz hty hln hc
    go_enter Try.func25, Try.ntmps25
    go_wp2_with fail
    go_ret
    exact ⟨rfl, _, hfin.out⟩
theorem clock_any (h : PW lo w g b1 b2 n1 n2 env clock vo va files cmds op ac size) : ∀ (l : List Int), ClockIs w clock l → l.length ≤ maxLen →
    Calls Try.prog 25 #[.pointer (some ⟨g, 0, none⟩)] w fun e w' => e = .returned (.int .i64 (l.headD 0)) ∧ ∃ clock', PW lo w' g b1 b2 n1 n2 env clock' vo va files cmds op ac size ∧ Goes w g b2 vo va w' vo va ∧ ClockIs w' clock' (tickL l)
  | [], hl, hn => clock_nil h hl hn
  | [x], hl, hn => clock_one h x hl hn
  | x :: y :: l, hl, hn => clock_more h x y l hl hn
end

end Go.Proofs.Yticinbkgmfoeoaa
