/- A call begins, in the document: the walk. -/
import Derived.Test.YtbpaiocbgbpiaaaDfK
import Derived.Deep.Cut
import Derived.Deep.CutRange
import Derived.Deep.DeepCutAuto
namespace Go.Proofs.Ytbpaiocbgbpiaaa
open Go.RowKit
set_option linter.unusedVariables false
set_option linter.unusedSimpArgs false

def slA (s : SM) : Array Value := #[.int .i64 s.val.1, .float .f64 s.val.2.1, .string s.val.2.2, .bool s.given, .int .i64 (s.arr : Int), .int .i64 (frI s.frm)]
theorem slV_eq (s : SM) : slV s = .agg #[.int .i64 s.val.1, .float .f64 s.val.2.1, .string s.val.2.2, .bool s.given, .int .i64 (s.arr : Int), .int .i64 (frI s.frm)] := rfl
def PuL (m : Nat) (vC : Value) (cp : List CallT) (st : FS) (w : World) (args : List ArgT) (ps : List ByteArray) (i : Nat) (wr : World) : Prop :=
  ∃ vS vGN vGS pz gp vN vO l, PuD m vC cp w (parsS args (st, fun _ => none) 0 (ps.take i)).1 vS vGN vGS pz gp vN vO i (nmV l) i (noV l) wr ∧ l.length = i ∧ (parsS args (st, fun _ => none) 0 (ps.take i)).2 = lookP l
def PuM (m : Nat) (vC : Value) (cp : List CallT) (w : World) (q : FS) (vN vO : Value) (a : Nat) (nms : List Value) (b : Nat) (nos : List Value) (B : Nat) (s : SM) (wx : World) : Prop :=
  ∃ vS vGN vGS pz gp, PuD m vC cp w q vS vGN vGS pz gp vN vO a nms b nos wx ∧ wx.heap[B]? = some (.cells (slA s) 93 (0, 0))
theorem nmV_snoc (l : List (ByteArray × Nat)) (p : ByteArray) (k : Nat) : nmV (l ++ [(p, k)]) = nmV l ++ [.string p] := by simp [nmV]
theorem noV_snoc (l : List (ByteArray × Nat)) (p : ByteArray) (k : Nat) : noV (l ++ [(p, k)]) = noV l ++ [.int .i64 (k : Int)] := by simp [noV]
/-- A call of a function, as a step of a region that draws. -/
theorem step_call {P : Program} {w : World} {ops : Array Oper} {o : Oper} {a : Act} {K : Act → World → Prop} {Q : Exit → Act → World → Prop} {E : Prop} (f : FuncId) (args : Array Operand) (tys : Array TypeId) (hen : ∀ vs w, (callFunc f vs).run P w = .ok (.enter f vs) w) (hgd : o.guard = none) (ho : o.op = .call { callee := .value (.func f), args := args, argTypes := tys })
    {vs : Array Value} (hv : args.map a.eval = vs) {v : Value} {R : World → Prop} (hc : Calls P f vs w (fun e w' => e = .returned v ∧ R w')) (h : ∀ w', R w' → K (a.put o.dst v) w') : if Region.wanted o (yielded ops a.tmps) = true then Oper.wp P o a w K Q else E := by
  rw [if_pos (by simp [Region.wanted, hgd])]
  subst hv
  unfold Oper.wp execOp
  have e0 : a.eval (.func f) = .func (.func f) #[] #[] := rfl
  simp only [ho, resolve, invoke, e0, Deferred.ofValue, Sem.run_bind, Sem.run_pure, Result.andThen_ok, Array.append_empty, Array.empty_append, hen]
  rw [Oper.upon_enter]
  exact hc.mono fun e w' ⟨he, hr⟩ => by subst he; exact h w' hr
theorem step_call2 {P : Program} {w : World} {ops : Array Oper} {o : Oper} {a : Act} {K : Act → World → Prop} {Q : Exit → Act → World → Prop} {E : Prop} (f : FuncId) (x1 x2 : Operand) (tys : Array TypeId) (hen : ∀ vs w, (callFunc f vs).run P w = .ok (.enter f vs) w) (hgd : o.guard = none) (ho : o.op = .call { callee := .value (.func f), args := #[x1, x2], argTypes := tys })
    {v1 v2 : Value} (h1 : a.eval x1 = v1) (h2 : a.eval x2 = v2) {v : Value} {R : World → Prop} (hc : Calls P f #[v1, v2] w (fun e w' => e = .returned v ∧ R w')) (h : ∀ w', R w' → K (a.put o.dst v) w') : if Region.wanted o (yielded ops a.tmps) = true then Oper.wp P o a w K Q else E :=
  step_call f #[x1, x2] tys hen hgd ho (vs := #[v1, v2]) (by simp [h1, h2]) hc h
theorem step_call1 {P : Program} {w : World} {ops : Array Oper} {o : Oper} {a : Act} {K : Act → World → Prop} {Q : Exit → Act → World → Prop} {E : Prop} (f : FuncId) (x1 : Operand) (tys : Array TypeId) (hen : ∀ vs w, (callFunc f vs).run P w = .ok (.enter f vs) w) (hgd : o.guard = none) (ho : o.op = .call { callee := .value (.func f), args := #[x1], argTypes := tys })
    {v1 : Value} (h1 : a.eval x1 = v1) {v : Value} {R : World → Prop} (hc : Calls P f #[v1] w (fun e w' => e = .returned v ∧ R w')) (h : ∀ w', R w' → K (a.put o.dst v) w') : if Region.wanted o (yielded ops a.tmps) = true then Oper.wp P o a w K Q else E :=
  step_call f #[x1] tys hen hgd ho (vs := #[v1]) (by simp [h1]) hc h
theorem step_call3 {P : Program} {w : World} {ops : Array Oper} {o : Oper} {a : Act} {K : Act → World → Prop} {Q : Exit → Act → World → Prop} {E : Prop} (f : FuncId) (x1 x2 x3 : Operand) (tys : Array TypeId) (hen : ∀ vs w, (callFunc f vs).run P w = .ok (.enter f vs) w) (hgd : o.guard = none) (ho : o.op = .call { callee := .value (.func f), args := #[x1, x2, x3], argTypes := tys })
    {v1 v2 v3 : Value} (h1 : a.eval x1 = v1) (h2 : a.eval x2 = v2) (h3 : a.eval x3 = v3) {v : Value} {R : World → Prop} (hc : Calls P f #[v1, v2, v3] w (fun e w' => e = .returned v ∧ R w')) (h : ∀ w', R w' → K (a.put o.dst v) w') : if Region.wanted o (yielded ops a.tmps) = true then Oper.wp P o a w K Q else E :=
  step_call f #[x1, x2, x3] tys hen hgd ho (vs := #[v1, v2, v3]) (by simp [h1, h2, h3]) hc h
theorem enter_add : ∀ vs w, (callFunc 39 vs).run Try.prog w = .ok (.enter 39 vs) w := by intro vs w; go_simp
theorem DF.cp_one {m : Nat} {vS vGN vGS vC : Value} {ps : List Nat} {gp : List (ByteArray × Nat)} {cp : List CallT} {st : FS} {w : World} (h : DF m vS vGN vGS vC ps gp cp st w) : ∀ u ∈ cp.flatMap fun c => [c.1.1, c.1.2], u.oneCell' = true := by
  intro u hu
  obtain ⟨c, hc, hu⟩ := List.mem_flatMap.1 hu
  obtain ⟨k, hk⟩ := List.mem_iff_getElem?.1 hc
  obtain ⟨A, c', e⟩ := (h.ce k c hk).1.1.shape
  obtain ⟨A2, c2, e2⟩ := (h.ce k c hk).1.2.shape
  simp only [List.mem_cons, List.not_mem_nil, or_false] at hu
  rcases hu with rfl | rfl
  · rw [e]; rfl
  · rw [e2]; rfl
section
variable {m : Nat} {vS vGN vGS vC : Value} {ps : List Nat} {gp : List (ByteArray × Nat)} {cp : List CallT} {w wr w' : World} {q : FS} {vN vO : Value} {a b : Nat} {nms nos : List Value} {B : Nat} {s : SM}
theorem PuD.box3 (h : PuD m vC cp w q vS vGN vGS ps gp vN vO a nms b nos wr) {W w3 : World} (hW : Below wr.heap.size wr W) {v : Value} (hv : v = vN ∨ v = vO) (hgr : W.grownBy w3 v.ownBlock) : w3.cell? ⟨w.heap.size, 0, none⟩ = some vN ∧ w3.cell? ⟨w.heap.size, 1, none⟩ = some vO ∧ ∀ j, w3.frozen? ⟨w.heap.size, j, none⟩ = false := by
  have h1 := h.below hW
  have hvB : v.ownBlock ≠ some w.heap.size := fun e => by
    rcases hv with rfl | rfl
    · have := (h.rn.lt _ e).1; omega
    · have := (h.ro.lt _ e).1; omega
  have hb3 := ((Turn.of_grown hgr).block w.heap.size h1.lt (fun e => hvB e)).trans h1.box
  exact ⟨cell_of_row w3 _ 0 _ _ _ hb3, cell_of_row w3 _ 1 _ _ _ hb3, fun j => frozen_of_row w3 _ j _ _ hb3⟩
theorem PuD.slotB (h : PuD m vC cp w q vS vGN vGS ps gp vN vO a nms b nos wr) (hB : wr.heap[B]? = some (.cells (slA s) 93 (0, 0))) {W w3 : World} (hW : Below wr.heap.size wr W) {v : Value} (hv : v = vN ∨ v = vO) (hgr : W.grownBy w3 v.ownBlock) (k : Nat) (u : Value) : (w3.setCell ⟨w.heap.size, k, none⟩ u).heap[B]? = some (.cells (slA s) 93 (0, 0)) := by
  have h1 := h.below hW
  have hlt := (Array.getElem?_eq_some_iff.1 hB).1
  have hne : B ≠ w.heap.size := fun e => by
    subst e
    rw [h.box] at hB
    simp at hB
  have hB1 := (hW.block B hlt).trans hB
  have hvB : v.ownBlock ≠ some B := fun e => by
    rcases hv with rfl | rfl
    · obtain ⟨c, hc⟩ := own_obj h1.rn e; rw [hc] at hB1; simp at hB1
    · obtain ⟨c, hc⟩ := own_obj h1.ro e; rw [hc] at hB1; simp at hB1
  exact (heap_setCell_other _ _ _ _ hne).trans (((Turn.of_grown hgr).block B (Array.getElem?_eq_some_iff.1 hB1).1 (fun e => hvB e)).trans hB1)
end

set_option maxRecDepth 20000 in
set_option maxHeartbeats 4000000 in
theorem push24_any (m : Nat) (st : FS) (w : World) (A B : Option Addr) (c d : Nat) (ps : List ByteArray) (args : List ArgT) (hD0 : D m st w) (hok : OkF st) (hl : st.sl.length + 2 * ps.length ≤ 399999999)
    (hA : RowA w 1 (.slice A ps.length c) ps.length (ps.map Value.string)) (hB : RowA w 5 (.slice B args.length d) args.length (args.flatMap arg24C))
    (hAo : ∀ a n c', 0 < n → (Value.slice A ps.length c) = .slice (some a) n c' → ¬ DT m w a.block) (hBo : ∀ a n c', 0 < n → (Value.slice B args.length d) = .slice (some a) n c' → ¬ DT m w a.block) (hargs : ∀ a ∈ args, a.1 ≤ st.n) :
    Calls Try.prog 24 #[.pointer (some ⟨m, 0, none⟩), .slice A ps.length c, .slice B args.length d] w (DAt m (.int .i64 ((pushS st ps args).2 : Int)) (pushS st ps args).1 w) := by
  obtain ⟨vS, vGN, vGS, vC, pz, gp, cp, h⟩ := hD0
  obtain ⟨A3, c3, hvC⟩ := h.cr.shape
  obtain ⟨_, _, _, q3, _, fz⟩ := h.cells
  rw [hvC] at q3
  have HD := Lib.hid h
  by_cases hlen : ps.length < args.length
  · have HP := Lib.hid (show pushS st ps args = (st, 1) by unfold pushS; rw [if_pos hlen])
    have l1 : (ps.length : Int) < (args.length : Int) := by omega
    clear h hok hl hA hB hAo hBo hargs fz hlen hvC q3
    go_enter Try.func24, Try.ntmps24
    go_wp2_with fail
    go_ret
    unfold DAt
    rw [HP.out]
    exact ⟨rfl, ⟨_, _, _, _, _, _, _, HD.out⟩, Turn.refl _ _⟩
  · have l1 : ¬ (ps.length : Int) < (args.length : Int) := by omega
    by_cases hca : 24 ≤ st.ca.length
    · have HP := Lib.hid (show pushS st ps args = (st, 4) by unfold pushS; rw [if_neg hlen, if_pos hca])
      have l2 : (24 : Int) ≤ (st.ca.length : Int) := by omega
      clear h hok hl hA hB hAo hBo hargs fz hlen hca hvC
      go_enter Try.func24, Try.ntmps24
      go_wp2_with fail
      go_ret
      unfold DAt
      rw [HP.out]
      exact ⟨rfl, ⟨_, _, _, _, _, _, _, HD.out⟩, Turn.refl _ _⟩
    · have l2 : ¬ (24 : Int) ≤ (st.ca.length : Int) := by omega
      have hp : pushS st ps args = (⟨(parsS args (st, fun _ => none) 0 ps).1.sl, (parsS args (st, fun _ => none) 0 ps).1.gl, (parsS args (st, fun _ => none) 0 ps).1.ca ++ [(parsS args (st, fun _ => none) 0 ps).2], (parsS args (st, fun _ => none) 0 ps).1.n⟩, 0) := by unfold pushS; rw [if_neg hlen, if_neg hca]
      have HP := Lib.hid hp
      have hb0 : Below w.heap.size w (w.alloc (.cells #[.slice none 0 0, .slice none 0 0] 56)) := (Below.refl _ w).alloc (Nat.le_refl _) _
      have hst : PuL m vC cp st w args ps 0 (w.alloc (.cells #[.slice none 0 0, .slice none 0 0] 56)) :=
        ⟨vS, vGN, vGS, pz, gp, .slice none 0 0, .slice none 0 0, [], ⟨h.below hb0, heap_alloc_new _ _, own_none _ _ _, own_none _ _ _, (fun j hj => by cases hj), (fun j hj => by cases hj), Turn.of_below hb0 _, fun j hj => (h.cr.lt hj).2, (Array.getElem?_eq_some_iff.1 h.hd).1⟩, rfl, rfl⟩
      have H0 := Lib.hid hst
      have HR := Lib.hid (And.intro hA (And.intro hB (And.intro hAo (And.intro hBo hargs))))
      have HL := Lib.hid (And.intro hl (And.intro hca (And.intro hlen hok)))
      clear h hok hl hA hB hAo hBo hargs hp hlen hca hst hb0 fz
      go_enter Try.func24, Try.ntmps24
      go_wp2_with fail
      go_loopg [8] ps.length (fun g v8 wr => ∃ i : Nat, v8 = .int .i64 (i : Int) ∧ i ≤ ps.length ∧ g = ps.length - i ∧ PuL m vC cp st w args ps i wr)
      case atStart => exact ⟨0, rfl, Nat.zero_le _, by omega, H0.out⟩
      case round =>
        obtain ⟨i, rfl, hi, rfl, hI⟩ := hrel
        by_cases hlt : i < ps.length
        · have i1 : (i : Int) < (ps.length : Int) := by omega
          have i0 : (0 : Int) ≤ (i : Int) := by omega
          have i3 : (ps.length : Int) ≤ 399999999 := by have := HL.out.1; omega
          have htk : ps.take (i + 1) = ps.take i ++ [ps[i]] := List.take_succ_eq_append_getElem hlt
          obtain ⟨vS1, vGN1, vGS1, pz1, gp1, vN, vO, l, hP, hll, hlk⟩ := hI
          have hnx : parsS args (st, fun _ => none) 0 (ps.take (i + 1)) = parS args (parsS args (st, fun _ => none) 0 (ps.take i)) i ps[i] := by
            rw [htk, parsS_snoc, List.length_take, Nat.zero_add, Nat.min_eq_left (by omega)]
          rw [parS_slot] at hnx
          have hlen1 := parsS_len args (ps.take i) (st, fun _ => none) 0
          rw [List.length_take, Nat.min_eq_left (by omega)] at hlen1
          obtain ⟨x1, x2, x3, x4⟩ := parsS_ok args (ps.take i) (st, fun _ => none) 0 HL.out.2.2.2 (fun s j hj => by cases hj) HR.out.2.2.2.2
          generalize parsS args (st, fun _ => none) 0 (ps.take i) = x at hP hlk hnx hlen1 x1 x2 x3 x4
          dsimp only at hlen1 x3 x4
          obtain ⟨b0, off0, hA', d0⟩ := str_lies HR.out.1 hlt
          have hA2 : ¬ DT m w b0 := HR.out.2.2.1 ⟨b0, off0, none⟩ ps.length c (by omega) (by rw [hA'])
          have hA3 := hP.tu.cell d0 hA2
          have hsl := slotOf_facts (args := args) x1 i (fun a ha => by rw [x3]; exact HR.out.2.2.2.2 a ha)
          subst hA'
          generalize ps[i] = p at *
          obtain ⟨A4, c4, rfl⟩ := own_shape hP.rn
          obtain ⟨A5, c5, rfl⟩ := own_shape hP.ro
          have hbA : Below wr.heap.size wr (wr.alloc (.cells #[.int .i64 0, .float .f64 0, .string ⟨#[]⟩, .bool false, .int .i64 0, .int .i64 (-1)] 93)) := (Below.refl _ wr).alloc (Nat.le_refl _) _
          have HLT := Lib.hid (And.intro hlt (And.intro htk (And.intro hll (And.intro hlk (And.intro hnx (And.intro hlen1 (And.intro hsl (And.intro d0 (And.intro hA2 (And.intro x3 (And.intro x4 x1)))))))))))
          have HPU := Lib.hid (And.intro hP hbA)
          clear hlt htk hll hlk hnx hlen1 hsl d0 hA2 hA3 x1 x2 x3 x4 hP hbA hi
          go_upto_if 32 with fail
          go_cut [] (fun wx => PuM m vC cp w (slotOf args x.1 i).1 (.slice A4 i c4) (.slice A5 i c5) i (nmV l) i (noV l) wr.heap.size (slotOf args x.1 i).2 wx)
          case first =>
            by_cases hia : i < args.length
            · have i2 : (i : Int) < (args.length : Int) := by omega
              have ha : args[i]? = some args[i] := List.getElem?_eq_getElem hia
              have hso : slotOf args x.1 i = argS x.1 args[i] := by unfold slotOf; rw [ha]
              obtain ⟨b5, off5, hB', k0, k1, k2, k3, k4⟩ := arg24_lies HR.out.2.1 hia
              have hx5 : ¬ DT m w b5 := HR.out.2.2.2.1 ⟨b5, off5, none⟩ args.length d (by omega) (by rw [hB'])
              subst hB'
              obtain ⟨hP, hbA⟩ := HPU.out
              obtain ⟨hlt, htk, hll, hlk, hnx, hlen1, hsl, d0, hA2, x3, x4, x1⟩ := HLT.out
              have hT := hP.tu.trans (Turn.of_below hbA (fun _ => False)) (fun _ q => q) (fun _ _ q => q.elim)
              replace k0 := hT.cell k0 hx5
              replace k1 := hT.cell k1 hx5
              replace k2 := hT.cell k2 hx5
              replace k3 := hT.cell k3 hx5
              replace k4 := hT.cell k4 hx5
              generalize args[i] = a at *
              obtain ⟨k5, nm5, x5, y5, z5⟩ := a
              dsimp only at k0 k1 k2 k3 k4
              have HA := Lib.hid (arg24_any m vS1 vGN1 vGS1 vC pz1 gp1 cp x.1 _ k5 nm5 x5 y5 z5 (hP.below hbA).d x1 (by have := HL.out.1; omega) (by rw [x4]; have := HL.out.2.1; omega))
              have hsz : (wr.alloc (.cells #[.int .i64 0, .float .f64 0, .string ⟨#[]⟩, .bool false, .int .i64 0, .int .i64 (-1)] 93)).heap.size = wr.heap.size + 1 := by simp
              have hbx : (wr.alloc (.cells #[.int .i64 0, .float .f64 0, .string ⟨#[]⟩, .bool false, .int .i64 0, .int .i64 (-1)] 93)).heap[wr.heap.size]? = some (.cells #[.int .i64 0, .float .f64 0, .string ⟨#[]⟩, .bool false, .int .i64 0, .int .i64 (-1)] 93 (0, 0)) := at_new rfl
              have HBX := Lib.hid (And.intro hsz (And.intro hbx (And.intro hso hlt)))
              clear hlt htk hll hlk hnx hlen1 hsl d0 hA2 x3 x4 x1 hP hbA hT hx5 ha hia hsz hbx hso
              generalize wr.alloc (.cells #[.int .i64 0, .float .f64 0, .string ⟨#[]⟩, .bool false, .int .i64 0, .int .i64 (-1)] 93) = wA at *
              go_wp2_with fail
              refine HA.out.mono ?_
              rintro e w1 ⟨rfl, ⟨vS2, vGN2, vGS2, pz2, gp2, h2, n0, n1, n2⟩, ht1⟩
              obtain ⟨hP, hbA⟩ := HPU.out
              obtain ⟨hsz, hbx, hso, hlt⟩ := HBX.out
              have hPA := hP.below hbA
              have hvl : ∀ j, vS1.ownBlock = some j → j < wr.heap.size := fun j hj => (hP.d.sl.lt hj).2
              have hmB : m < wr.heap.size := (Array.getElem?_eq_some_iff.1 hP.d.hd).1
              have hb1 := (ht1.block wr.heap.size (by omega) (fun e => by
                rcases e with e | e
                · omega
                · have := hvl _ e; omega)).trans hbx
              have hP1 := hPA.turned h2 n1 n2 ht1 (fun j e => e)
              have hlw := hP.lt
              have c0 : w1.cell? ⟨wr.heap.size, 0, none⟩ = some (.int .i64 0) := cell_of_row w1 _ 0 _ _ _ hb1
              have c1 : w1.cell? ⟨wr.heap.size, 1, none⟩ = some (.float .f64 0) := cell_of_row w1 _ 1 _ _ _ hb1
              have c2 : w1.cell? ⟨wr.heap.size, 2, none⟩ = some (.string ⟨#[]⟩) := cell_of_row w1 _ 2 _ _ _ hb1
              have c3 : w1.cell? ⟨wr.heap.size, 3, none⟩ = some (.bool false) := cell_of_row w1 _ 3 _ _ _ hb1
              have c4 : w1.cell? ⟨wr.heap.size, 4, none⟩ = some (.int .i64 0) := cell_of_row w1 _ 4 _ _ _ hb1
              have c5 : w1.cell? ⟨wr.heap.size, 5, none⟩ = some (.int .i64 (-1)) := cell_of_row w1 _ 5 _ _ _ hb1
              have f0 := frozen_of_row w1 wr.heap.size 0 _ _ hb1
              have f1 := frozen_of_row w1 wr.heap.size 1 _ _ hb1
              have f2 := frozen_of_row w1 wr.heap.size 2 _ _ hb1
              have f3 := frozen_of_row w1 wr.heap.size 3 _ _ hb1
              have f4 := frozen_of_row w1 wr.heap.size 4 _ _ hb1
              have f5 := frozen_of_row w1 wr.heap.size 5 _ _ hb1
              have hv2 : vS2.ownBlock ≠ some wr.heap.size := fun e => by
                rcases n0 with n0 | n0
                · rw [n0] at e; have := hvl _ e; omega
                · have := n0 _ e; omega
              have HH := Lib.hid (And.intro hP1 (And.intro hb1 (And.intro hlw (And.intro hv2 hso))))
              clear hP hbA hsz hbx hso hlt hPA hvl hmB hb1 hP1 hlw h2 n0 n1 n2 ht1 hv2 k0 k1 k2 k3 k4
              rw [slV_eq]
              go_wp2_with fail
              go_meet
              obtain ⟨hP1, hb1, hlw, hv2, hso⟩ := HH.out
              rw [hso]
              exact ⟨_, _, _, _, _, hP1.past hb1 hv2 hlw (turn6 (X := fun j => j = wr.heap.size) (Turn.refl _ _) (fun _ => rfl) _ _ _ _ _ _), cells6 hb1⟩
            · have i2 : ¬ (i : Int) < (args.length : Int) := by omega
              have hso : slotOf args x.1 i = (x.1, SM.blank) := by unfold slotOf; rw [List.getElem?_eq_none (by omega)]
              clear hia
              go_wp2_with fail
              go_meet
              rw [hso]
              exact ⟨_, _, _, _, _, HPU.out.1.below HPU.out.2, at_new rfl⟩
          case rest =>
            obtain ⟨vS2, vGN2, vGS2, pz2, gp2, hP2, hb2⟩ := hcut
            obtain ⟨hlt, htk, hll, hlk, hnx, hlen1, hsl, d0, hA2, x3, x4, x1⟩ := HLT.out
            have d1 := hP2.tu.cell d0 hA2
            obtain ⟨k0, k1, kf⟩ := hP2.cells
            have kf0 := kf 0
            have hz : OwnZ wc (w.heap.size + 1) 9 1 (.slice A4 i c4) i (nmV l) := .inl hP2.rn
            have hB0 := hP2.lt
            have HP2 := Lib.hid (And.intro hP2 hb2)
            have hi9 : i ≤ 399999999 := by omega
            clear hlt htk hll hlk hnx hlen1 hsl d0 hA2 x3 x4 x1 hP2 hb2 kf
            go_upto_region 12 with fail
            go_cut [] (fun wx => ∃ g3 c3, PuM m vC cp w (slotOf args x.1 i).1 (.slice (some ⟨g3, 0, none⟩) (i + 1) c3) (.slice A5 i c5) (i + 1) (nmV l ++ [.string p]) i (noV l) wr.heap.size (slotOf args x.1 i).2 wx)
            case first =>
              go_region_law (refine step_app_el 27 9 (.tmp 40) (.tmp 45) rfl rfl (w.heap.size + 1) Try.underlying27 str24_info rfl (by decide) rfl (hz.below (by first | assumption | (repeat (first | exact Below.refl _ _ | assumption | refine Below.drew ?_ | refine Below.alloc ?_ (by simp <;> omega) _)))) rfl (news := [.string p]) rfl (cell_news _ #[.string p] _) (by omega) (by intro u hu; simp at hu; subst hu; rfl) (by unfold maxLen; omega) (by omega) (by simp <;> omega) ?_; intro g3 cap3 w3 hown3 hgr3 hloc3; obtain ⟨k0', k1', kf'⟩ := HP2.out.1.box3 (by first | assumption | (repeat (first | exact Below.refl _ _ | assumption | refine Below.drew ?_ | refine Below.alloc ?_ (by simp <;> omega) _))) (.inl rfl) hgr3; have kf0' := kf' 0)
              all_goals
                have HF := Lib.hid (And.intro hown3 (And.intro hgr3 hloc3))
                clear hown3 hgr3 hloc3 kf'
                go_wp2_with fail
                go_meet
                obtain ⟨hown3, hgr3, hloc3⟩ := HF.out
                refine ⟨_, _, _, _, _, _, _, HP2.out.1.name ?_ hown3 hgr3 hloc3, HP2.out.1.slotB HP2.out.2 ?_ (.inl rfl) hgr3 _ _⟩
                · (repeat (first | exact Below.refl _ _ | assumption | refine Below.drew ?_ | refine Below.alloc ?_ (by simp <;> omega) _))
                · (repeat (first | exact Below.refl _ _ | assumption | refine Below.drew ?_ | refine Below.alloc ?_ (by simp <;> omega) _))
            case rest =>
              obtain ⟨g3, cp3, vS3, vGN3, vGS3, pz3, gp3, hP3, hb3⟩ := hcut
              obtain ⟨hlt, htk, hll, hlk, hnx, hlen1, hsl, d0, hA2, x3, x4, x1⟩ := HLT.out
              generalize slotOf args x.1 i = qs at *
              obtain ⟨q, s⟩ := qs
              dsimp only at hP3 hb3 hsl hnx
              obtain ⟨y1, y2, y3, y4, y5, y6, y7⟩ := hsl
              have hB0 := hP3.lt
              have hB1 := (Array.getElem?_eq_some_iff.1 hb3).1
              obtain ⟨k0, k1, kf⟩ := hP3.cells
              have HADD := Lib.hid (fun (W : World) (hb : Below wc.heap.size wc W) => add_any m vS3 vGN3 vGS3 vC pz3 gp3 cp q W s (hP3.below hb).d y1 y2 y3 (by have := HL.out.1; omega))
              have hq9 : (q.sl.length : Int) ≤ 400000000 := by have := HL.out.1; omega
              have hi9 : i ≤ 399999999 := by omega
              have HP3 := Lib.hid hP3
              have HNX := Lib.hid (And.intro hll (And.intro hlk (And.intro hnx hlt)))
              have b0 : wc.cell? ⟨wr.heap.size, 0, none⟩ = some (.int .i64 s.val.1) := cell_of_row wc _ 0 _ _ _ hb3
              have b1 : wc.cell? ⟨wr.heap.size, 1, none⟩ = some (.float .f64 s.val.2.1) := cell_of_row wc _ 1 _ _ _ hb3
              have b2 : wc.cell? ⟨wr.heap.size, 2, none⟩ = some (.string s.val.2.2) := cell_of_row wc _ 2 _ _ _ hb3
              have b3 : wc.cell? ⟨wr.heap.size, 3, none⟩ = some (.bool s.given) := cell_of_row wc _ 3 _ _ _ hb3
              have b4 : wc.cell? ⟨wr.heap.size, 4, none⟩ = some (.int .i64 (s.arr : Int)) := cell_of_row wc _ 4 _ _ _ hb3
              have b5 : wc.cell? ⟨wr.heap.size, 5, none⟩ = some (.int .i64 (frI s.frm)) := cell_of_row wc _ 5 _ _ _ hb3
              clear hlt htk hll hlk hnx hlen1 d0 hA2 x3 x4 x1 hP3 hb3 kf k0 y1 y2 y3 y4 y5 y6 y7 HPU HLT
              go_upto_region 13 with fail
              go_region_law (first
                | (refine step_call2 39 (.tmp 50) (.tmp 51) #[53, 93] enter_add rfl rfl rfl rfl (HADD.out _ (by first | assumption | (repeat (first | exact Below.refl _ _ | assumption | refine Below.drew ?_ | refine Below.alloc ?_ (by simp <;> omega) _)))) ?_; rintro w5 ⟨⟨vS5, hD5, how5⟩, ht5⟩; have hP5 := (HP3.out.below (by first | assumption | (repeat (first | exact Below.refl _ _ | assumption | refine Below.drew ?_ | refine Below.alloc ?_ (by simp <;> omega) _)))).turned hD5 (.inl rfl) (.inl rfl) ht5 (fun j e => .inl e); have hz5 : OwnZ w5 (w.heap.size + 1) 3 1 (.slice A5 i c5) i (noV l) := .inl hP5.ro; have hB5 := hP5.lt; have k1' := hP5.cells.2.1; clear hD5 how5 ht5)
                | (refine step_app_el 54 3 (.tmp 49) (.tmp 53) rfl rfl (w.heap.size + 1) Try.underlying54 int24_info rfl (by decide) rfl (hz5.below (by first | assumption | (repeat (first | exact Below.refl _ _ | assumption | refine Below.drew ?_ | refine Below.alloc ?_ (by simp <;> omega) _)))) rfl (news := [.int .i64 (q.sl.length : Int)]) rfl (cell_news _ #[.int .i64 (q.sl.length : Int)] _) (by omega) (by intro u hu; simp at hu; subst hu; rfl) (by unfold maxLen; omega) (by omega) (by simp <;> omega) ?_; intro g6 cap6 w6 hown6 hgr6 hloc6; obtain ⟨k0', k1'', kf'⟩ := hP5.box3 (by first | assumption | (repeat (first | exact Below.refl _ _ | assumption | refine Below.drew ?_ | refine Below.alloc ?_ (by simp <;> omega) _))) (.inr rfl) hgr6; have kf1' := kf' 1))
              all_goals
                have HF := Lib.hid (And.intro hP5 (And.intro hown6 (And.intro hgr6 hloc6)))
                clear hP5 hown6 hgr6 hloc6 hz5 kf'
                go_wp2_with fail
                go_roundg (ps.length - (i + 1))
                case measure => have := HNX.out.2.2.2; omega
                case rel =>
                  obtain ⟨hP5, hown6, hgr6, hloc6⟩ := HF.out
                  obtain ⟨hll, hlk, hnx, hlt⟩ := HNX.out
                  have hfin := hP5.num (by first | assumption | (repeat (first | exact Below.refl _ _ | assumption | refine Below.drew ?_ | refine Below.alloc ?_ (by simp <;> omega) _))) hown6 hgr6 hloc6
                  rw [← nmV_snoc l p q.sl.length, ← noV_snoc l p q.sl.length] at hfin
                  refine ⟨i + 1, by go_num, hlt, rfl, ?_⟩
                  unfold PuL
                  rw [hnx]
                  exact ⟨_, _, _, _, _, _, _, _, hfin, by simp [hll], by rw [lookP_snoc, ← hlk]⟩
        · obtain rfl : i = ps.length := by omega
          unfold PuL at hI
          rw [List.take_length] at hI
          have hlen1 := parsS_len args ps (st, fun _ => none) 0
          obtain ⟨x1, x2, x3, x4⟩ := parsS_ok args ps (st, fun _ => none) 0 HL.out.2.2.2 (fun s j hj => by cases hj) HR.out.2.2.2.2
          generalize parsS args (st, fun _ => none) 0 ps = x at hI HP hlen1 x1 x2 x3 x4
          dsimp only at hlen1 x3 x4
          obtain ⟨vS1, vGN1, vGS1, pz1, gp1, vN, vO, l, hP, hll, hlk⟩ := hI
          obtain ⟨A4, c4, rfl⟩ := own_shape hP.rn
          obtain ⟨A5, c5, rfl⟩ := own_shape hP.ro
          have HPC := Lib.hid (fun W hb => (hP.below (w' := W) hb).cells)
          obtain ⟨b0, b1, _⟩ := hP.cells
          obtain ⟨_, _, _, e3, _, ef⟩ := hP.d.cells
          have hRA := hP.d.cr.rowC.a
          rw [x4, hvC] at hRA
          rw [hvC] at e3
          have ef3 := ef 3
          have hmA : m < wr.heap.size := lt_of_cell e3
          have hdA := hP.d.hd
          have hl9 : st.ca.length < 24 := by have := HL.out.2.1; omega
          have hB0 := hP.lt
          have hone := hP.d.cp_one
          have HX := Lib.hid (And.intro hP (And.intro hll (And.intro hlk (And.intro x4 hlen1))))
          clear hP hll hlk hi hlt ef x1 x2 x3 x4 hlen1
          go_upto_region 14 with fail
          go_region_law
            (first
              | (refine step_app_lit 58 56 (.tmp 57) (.tmp 61) rfl rfl wr.heap.size Try.underlying58 names_info rfl (by decide) rfl (by simp <;> omega) ⟨#[], by first | exact at_new (by simp) | (refine at_old ?_; exact at_new (by simp))⟩ (by simp <;> omega) rfl (hRA.below (by first | assumption | (repeat (first | exact Below.refl _ _ | assumption | refine Below.drew ?_ | refine Below.alloc ?_ (by simp <;> omega) _)))) hone (by unfold maxLen; omega) (by omega) ?_; intro A1 c1 w1 hz1 hb1; have hbw1 : Below wr.heap.size wr w1 := below_go (by first | assumption | (repeat (first | exact Below.refl _ _ | assumption | refine Below.drew ?_ | refine Below.alloc ?_ (by simp <;> omega) _))) hb1 (by simp <;> omega); obtain ⟨b0', b1', _⟩ := HPC.out w1 hbw1; have e3' := (hbw1.cell hmA).trans e3)
              | (refine step_app_el 58 56 (.tmp 62) (.tmp 64) rfl rfl wr.heap.size Try.underlying58 names_info rfl (by decide) rfl (by first | exact hz1 | exact hz1.below ((Below.refl _ _).alloc (Nat.le_refl _) _)) rfl (news := [.slice A4 ps.length c4, .slice A5 ps.length c5]) rfl (news_at (T := 56) (xs := #[.slice A4 ps.length c4, .slice A5 ps.length c5]) (by first | exact at_new (by simp) | exact (hb1.block _ (by simp <;> omega)).trans (by (first | exact at_new (by simp) | (refine at_old ?_; exact at_new (by simp)) | (rw [drew_heap]; exact at_new (by simp)) | (rw [drew_heap]; refine at_old ?_; exact at_new (by simp)) | (rw [drew_heap]; refine at_old ?_; rw [drew_heap]; exact at_new (by simp)))))) (by omega) (by intro u hu; simp at hu; rcases hu with rfl | rfl <;> rfl) (by unfold maxLen; omega) (by omega) (by have := hbw1.size; simp <;> omega) ?_; intro g2 cap2 w2 hown2 hgr2 hloc2; have hbw2 : Below wr.heap.size wr w2 := Below.grown (by first | exact hbw1 | exact hbw1.alloc hbw1.size _) hgr2 (by have := hbw1.size; simp <;> omega) (fun k hk => (hz1.lt hk).1); have e3'' := (hbw2.cell hmA).trans e3; have ef3'' := frozen_of_row w2 m 3 _ _ ((hbw2.block m hmA).trans hdA)))
          all_goals
            have HFIN := Lib.hid (And.intro hown2 hbw2)
            clear hown2 hbw2 hgr2 hloc2 hz1 hb1 hbw1 hdA
            go_wp2_with fail
            go_ret
            obtain ⟨hown2, hbw2⟩ := HFIN.out
            obtain ⟨hP, hll, hlk, x4, hlen1⟩ := HX.out
            have hfin := hP.pushed hll hll (by omega) hlk hbw2 (by rw [x4]; exact hown2)
            rw [x4] at hfin
            unfold DAt
            rw [HP.out, x4]
            exact ⟨rfl, hfin⟩
end Go.Proofs.Ytbpaiocbgbpiaaa
