/- The document's world in memory; an act more; one that is shut; where one stands: walked. -/
import Derived.Test.YticinbkgmfoeoaaWdWF
import Derived.Deep.Upon
namespace Go.Proofs.Yticinbkgmfoeoaa
open Go.RowKit
set_option linter.unusedVariables false

/-! ### 'append' of a row that lies wherever -/
theorem run_appendA {P : Program} {w : World} {base : Nat} {e : TypeId} {size : Nat} {v : Value} {n : Nat} {xs : List Value} (t ty : TypeId) {z : Value} {bytes : Nat} (ht : P.underlying t = some (.slice e)) (hinfo : (P.info? e).map (fun i => (i.zero, i.size, i.bytes)) = some (some z, size, bytes)) (hzs : z.cells.size = size) (hsz : 0 < size)
    (hown : w.ownsRow base e size v n xs) {x : Value} {m : Nat} {news : List Value} (hx : RowA w size x m news) (hu : ∀ u ∈ news, u.oneCell' = true) (h63 : n + m ≤ maxLen) (hbytes : (n + m) * bytes ≤ 140737488355328) (hbase : base ≤ w.heap.size) :
    ∃ v' w', (Builtin.append_ #[t, t] ty #[v, x]).run P w = .ok v' w' ∧ w'.ownsRow base e size v' (n + m) (xs ++ news) ∧ w.grownBy w' v.ownBlock ∧ (v'.ownBlock = v.ownBlock ∨ v'.ownBlock = some w.heap.size) := by
  obtain ⟨i0, hi, hz0, hz1, hz2⟩ := info_parts hinfo
  obtain ⟨hl, A, c, rfl, hA, hnc, hcells⟩ := hx
  cases A with
  | none =>
    obtain ⟨rfl, rfl⟩ := hA rfl
    have hle : news = [] := List.eq_nil_of_length_eq_zero (by omega)
    subst hle
    have key : ∃ b sLen sCap, v = .slice b sLen sCap ∧ sLen ≤ sCap := by
      rcases hown.2 with ⟨rfl, rfl⟩ | ⟨g, cap, cur, rfl, _, _, h3, _⟩
      · exact ⟨_, _, _, rfl, Nat.le_refl _⟩
      · exact ⟨_, _, _, rfl, h3⟩
    obtain ⟨b, sLen, sCap, rfl, hsc⟩ := key
    refine ⟨.slice b sLen sCap, w, run_append_nothing w t t ty e i0 ht hi b sLen sCap hsc _ (Src.ofNil w ht 0), ?_, ⟨rfl, rfl, rfl, Nat.le_refl _, fun _ _ _ => rfl⟩, .inl rfl⟩
    rw [Nat.add_zero, List.append_nil]
    exact hown
  | some a =>
    obtain ⟨v', w', hr, h2, h3, _, h5⟩ := run_append_own_at (P := P) w base t ty e i0 z size bytes ht hi hz0 hz1 hz2 hzs hsz v n xs hown a m c news hl (hcells a rfl) hu h63 hbytes hbase
    exact ⟨v', w', hr, h2, h3, h5⟩
theorem wpList_appendA {P : Program} (w : World) {ops : Array Oper} {rest : List Oper} {o : Oper} {a : Act} {Q : Exit → Act → World → Prop} (t e : TypeId) (s x : Operand) (hgd : o.guard = none)
    (ho : o.op = .call { callee := .builtin .append, args := #[s, x], argTypes := #[t, t] })
    (base : Nat) {z : Value} {size bytes : Nat} (ht : P.underlying t = some (.slice e)) (hinfo : (P.info? e).map (fun i => (i.zero, i.size, i.bytes)) = some (some z, size, bytes)) (hzs : z.cells.size = size) (hsz : 0 < size)
    {v : Value} {n : Nat} {xs : List Value} (hs : a.eval s = v) (hown : w.ownsRow base e size v n xs) {vx : Value} {m : Nat} {news : List Value} (hx : a.eval x = vx) (hr : RowA w size vx m news) (hu : ∀ u ∈ news, u.oneCell' = true)
    (h63 : n + m ≤ maxLen) (hbytes : (n + m) * bytes ≤ 140737488355328) (hbase : base ≤ w.heap.size)
    (h : ∀ v' w', w'.ownsRow base e size v' (n + m) (xs ++ news) → w.grownBy w' v.ownBlock → (v'.ownBlock = v.ownBlock ∨ v'.ownBlock = some w.heap.size) → wpList P ops Q rest (a.put o.dst v') w') :
    wpList P ops Q (o :: rest) a w := by
  refine wpList_plain hgd fun K hK => ?_
  obtain ⟨v', w', hrun, h2, h3, h4⟩ := run_appendA (P := P) t o.type ht hinfo hzs hsz hown hr hu h63 hbytes hbase
  unfold Oper.wp execOp
  simp only [ho, resolve, invoke, builtin, Sem.run_bind, Sem.run_pure, Result.andThen_ok, List.map_toArray, List.map_cons, List.map_nil, hs, hx, hrun]
  exact hK _ _ (h v' w' h2 h3 h4)
theorem step_appendA {P : Program} {w : World} {ops : Array Oper} {o : Oper} {a : Act} {K : Act → World → Prop} {Q : Exit → Act → World → Prop} {E : Prop} (t e : TypeId) (s x : Operand) (hgd : o.guard = none)
    (ho : o.op = .call { callee := .builtin .append, args := #[s, x], argTypes := #[t, t] })
    (base : Nat) {z : Value} {size bytes : Nat} (ht : P.underlying t = some (.slice e)) (hinfo : (P.info? e).map (fun i => (i.zero, i.size, i.bytes)) = some (some z, size, bytes)) (hzs : z.cells.size = size) (hsz : 0 < size)
    {v : Value} {n : Nat} {xs : List Value} (hs : a.eval s = v) (hown : w.ownsRow base e size v n xs) {vx : Value} {m : Nat} {news : List Value} (hx : a.eval x = vx) (hr : RowA w size vx m news) (hu : ∀ u ∈ news, u.oneCell' = true)
    (h63 : n + m ≤ maxLen) (hbytes : (n + m) * bytes ≤ 140737488355328) (hbase : base ≤ w.heap.size)
    (h : ∀ v' w', w'.ownsRow base e size v' (n + m) (xs ++ news) → w.grownBy w' v.ownBlock → (v'.ownBlock = v.ownBlock ∨ v'.ownBlock = some w.heap.size) → K (a.put o.dst v') w') :
    if Region.wanted o (yielded ops a.tmps) = true then Oper.wp P o a w K Q else E := by
  rw [if_pos (by simp [Region.wanted, hgd])]
  obtain ⟨v', w', hrun, h2, h3, h4⟩ := run_appendA (P := P) t o.type ht hinfo hzs hsz hown hr hu h63 hbytes hbase
  unfold Oper.wp execOp
  simp only [ho, resolve, invoke, builtin, Sem.run_bind, Sem.run_pure, Result.andThen_ok, List.map_toArray, List.map_cons, List.map_nil, hs, hx, hrun]
  exact h v' w' h2 h3 h4

theorem rstream_info : (Try.prog.info? 90).map (fun i => (i.zero, i.size, i.bytes)) = some (some (.agg #[.bool false, .string ByteArray.empty]), 2, 24) := by kernel_rfl

/-! ### the document's world -/
structure RW (w : World) (m : Nat) (fv cv sv ev kv qa qo qc : Value) (asked : List ByteArray) (ticks : Int) (op : List ST) (ac : List AT) (size : Int) : Prop where
  hd : w.heap[m]? = some (.cells #[fv, cv, sv, ev, kv, qa, .int .i64 ticks, qo, qc, .int .i64 size] 51 (0, 0))
  a : RowT w 9 1 qa asked.length (asked.map Value.string)
  o : RowT w 90 2 qo op.length (op.flatMap strC)
  c : RowT w 39 3 qc ac.length (ac.flatMap actC)
/-- What a call does to the document's own world, and to no other block. -/
def RGo (w : World) (m : Nat) (qa qo qc : Value) (w' : World) (qa' qo' qc' : Value) : Prop :=
  Turn w w' (fun j => j = m) ∧ ∀ j, (qa'.ownBlock = some j ∨ qo'.ownBlock = some j ∨ qc'.ownBlock = some j) → (qa.ownBlock = some j ∨ qo.ownBlock = some j ∨ qc.ownBlock = some j) ∨ w.heap.size ≤ j
def RStd (w0 : World) (m : Nat) (fv cv sv ev kv qa qo qc : Value) (asked : List ByteArray) (ticks : Int) (op : List ST) (ac : List AT) (size : Int) (w : World) : Prop :=
  ∃ qa' qo' qc', RW w m fv cv sv ev kv qa' qo' qc' asked ticks op ac size ∧ RGo w0 m qa qo qc w qa' qo' qc'
section
variable {w w' w1 w2 : World} {m : Nat} {fv cv sv ev kv qa qo qc qa' qo' qc' qa2 qo2 qc2 : Value} {asked : List ByteArray} {ticks : Int} {op : List ST} {ac : List AT} {size : Int}
theorem RGo.trans (h : RGo w m qa qo qc w1 qa' qo' qc') (k : RGo w1 m qa' qo' qc' w2 qa2 qo2 qc2) : RGo w m qa qo qc w2 qa2 qo2 qc2 :=
  ⟨h.1.trans k.1 (fun _ x => x) (fun _ _ x => x), fun j hj => by
    rcases k.2 j hj with z | z
    · exact h.2 j z
    · right; have := h.1.size; omega⟩
theorem RGo.of_below (h : Below w.heap.size w w') : RGo w m qa qo qc w' qa qo qc := ⟨Turn.of_below h _, fun j hj => .inl hj⟩
theorem RW.mlt (h : RW w m fv cv sv ev kv qa qo qc asked ticks op ac size) : m < w.heap.size := (Array.getElem?_eq_some_iff.1 h.hd).1
theorem RW.below (h : RW w m fv cv sv ev kv qa qo qc asked ticks op ac size) (hb : Below w.heap.size w w') : RW w' m fv cv sv ev kv qa qo qc asked ticks op ac size :=
  ⟨(hb.block _ h.mlt).trans h.hd, h.a.below hb, h.o.below hb, h.c.below hb⟩
theorem RW.std (h : RW w m fv cv sv ev kv qa qo qc asked ticks op ac size) (hb : Below w.heap.size w w') : RStd w m fv cv sv ev kv qa qo qc asked ticks op ac size w' := ⟨qa, qo, qc, h.below hb, RGo.of_below hb⟩
theorem r_cells (hd : w.heap[m]? = some (.cells #[fv, cv, sv, ev, kv, qa, .int .i64 ticks, qo, qc, .int .i64 size] 51 (0, 0))) :
    (w.cell? ⟨m, 0, none⟩ = some fv ∧ w.cell? ⟨m, 1, none⟩ = some cv ∧ w.cell? ⟨m, 2, none⟩ = some sv ∧ w.cell? ⟨m, 3, none⟩ = some ev ∧ w.cell? ⟨m, 4, none⟩ = some kv) ∧ w.cell? ⟨m, 5, none⟩ = some qa ∧ w.cell? ⟨m, 6, none⟩ = some (.int .i64 ticks) ∧ w.cell? ⟨m, 7, none⟩ = some qo ∧ w.cell? ⟨m, 8, none⟩ = some qc ∧ w.cell? ⟨m, 9, none⟩ = some (.int .i64 size) ∧ ∀ j, w.frozen? ⟨m, j, none⟩ = false := by
  refine ⟨⟨?_, ?_, ?_, ?_, ?_⟩, ?_, ?_, ?_, ?_, ?_, fun j => frozen_of_row w m j _ _ hd⟩ <;> simp [World.cell?, hd]
theorem RW.ty (h : RW w m fv cv sv ev kv qa qo qc asked ticks op ac size) {e : TypeId} (he : e ≠ 51) (ht : Turn w w' (fun j => j = m)) (j : Nat) (cs : Array Value) (hc : w.heap[j]? = some (Obj.cells cs e (0, 0))) : w'.heap[j]? = w.heap[j]? := by
  refine ht.block j (Array.getElem?_eq_some_iff.1 hc).1 (fun x => ?_)
  subst x
  rw [h.hd] at hc
  simp at hc
  exact he hc.2.symm
/-- Its head turns. -/
theorem RW.turned (h : RW w m fv cv sv ev kv qa qo qc asked ticks op ac size) (ht : Turn w w' (fun j => j = m)) {qa' qo' qc' : Value} {asked' : List ByteArray} {ticks' : Int} {op' : List ST} {ac' : List AT} {size' : Int}
    (hd : w'.heap[m]? = some (.cells #[fv, cv, sv, ev, kv, qa', .int .i64 ticks', qo', qc', .int .i64 size'] 51 (0, 0)))
    (ha : (qa' = qa ∧ asked' = asked) ∨ w'.ownsRow w.heap.size 9 1 qa' asked'.length (asked'.map Value.string))
    (ho : (qo' = qo ∧ op' = op) ∨ w'.ownsRow w.heap.size 90 2 qo' op'.length (op'.flatMap strC))
    (hc : (qc' = qc ∧ ac' = ac) ∨ w'.ownsRow w.heap.size 39 3 qc' ac'.length (ac'.flatMap actC)) :
    RW w' m fv cv sv ev kv qa' qo' qc' asked' ticks' op' ac' size' ∧ RGo w m qa qo qc w' qa' qo' qc' := by
  refine ⟨⟨hd, ?_, ?_, ?_⟩, ht, fun j hj => ?_⟩
  · rcases ha with ⟨rfl, rfl⟩ | ha
    · exact h.a.same ht.size (h.ty (by decide) ht)
    · exact RowT.of_own ha
  · rcases ho with ⟨rfl, rfl⟩ | ho
    · exact h.o.same ht.size (h.ty (by decide) ht)
    · exact RowT.of_own ho
  · rcases hc with ⟨rfl, rfl⟩ | hc
    · exact h.c.same ht.size (h.ty (by decide) ht)
    · exact RowT.of_own hc
  · rcases hj with hj | hj | hj
    · rcases ha with ⟨rfl, rfl⟩ | ha
      · exact .inl (.inl hj)
      · exact .inr (ha.lt j hj).1
    · rcases ho with ⟨rfl, rfl⟩ | ho
      · exact .inl (.inr (.inl hj))
      · exact .inr (ho.lt j hj).1
    · rcases hc with ⟨rfl, rfl⟩ | hc
      · exact .inl (.inr (.inr hj))
      · exact .inr (hc.lt j hj).1

theorem Turn.grow {w a b : World} {X : Nat → Prop} {r : Option Nat} (h : Turn w a X) (hg : a.grownBy b r) (hr : ∀ j, r = some j → w.heap.size ≤ j) : Turn w b X :=
  h.trans (Turn.of_grown hg) (fun _ x => x) (fun j hj e => absurd (hr j e) (by omega))
set_option maxHeartbeats 4000000 in
theorem r_do (h : RW w m fv cv sv ev kv qa qo qc asked ticks op ac size) (hn : ac.length ≤ 1048576) (k : Int) (nm dt : ByteArray) :
    Calls Try.prog 43 #[.pointer (some ⟨m, 0, none⟩), .int .i64 k, .string nm, .string dt] w fun e w' => e = .returned (.tuple #[]) ∧ ∃ qc', RW w' m fv cv sv ev kv qa qo qc' asked ticks op (ac ++ [(k, nm, dt)]) size ∧ RGo w m qa qo qc w' qa qo qc' := by
  obtain ⟨_, _, _, _, c8, _, fz⟩ := r_cells h.hd
  have hb1 : Below w.heap.size w (w.alloc (.cells #[] 39)) := (Below.refl _ w).alloc (Nat.le_refl _) _
  have hrow := (h.c.below hb1).1.a
  obtain ⟨A, c, rfl⟩ := hrow.shape
  have hml := h.mlt
  have hd := h.hd
  have hne0 : some m ≠ some w.heap.size := fun e => by injection e with e; omega
  have hlit : (w.alloc (.cells #[] 39)).ownsRow w.heap.size 39 3 (.slice (some ⟨w.heap.size, 0, none⟩) 0 0) 0 [] := World.ownsRow_lit w #[] 0 (Nat.le_refl _) (by unfold maxLen; omega) rfl
  have H := Lib.hid (And.intro h hb1)
  clear h fz hb1
  go_enter Try.func43, Try.ntmps43
  go_wp2_with (at_builtin; first
    | (refine wpList_appendA _ 35 39 (.tmp 9) (.tmp 13) rfl rfl w.heap.size Try.underlying35 act_info rfl (by decide) rfl hlit rfl hrow (actC_one ac) (by unfold maxLen; omega) (by omega) (by simp) ?_; intro v1 w1 hown1 hgrow1 hloc1; rw [Nat.zero_add, List.nil_append] at hown1; obtain ⟨A1, c1, rfl⟩ := own_shape hown1; have hs1 := Nat.le_trans H.out.2.size hgrow1.size)
    | (refine wpList_appendS 35 39 (.tmp 14) (.tmp 19) rfl rfl w.heap.size Try.underlying35 act_info rfl (by decide) rfl hown1 rfl rfl rfl (by intro u hu; simp only [List.mem_cons, List.not_mem_nil, or_false] at hu; rcases hu with rfl | rfl | rfl <;> rfl) (by unfold maxLen; omega) (by omega) hs1 ?_; intro v2 w2 hown2 hgrow2 hloc2; obtain ⟨A2, c2, rfl⟩ := own_shape hown2; have hne2 : some m ≠ (Value.slice A1 ac.length c1).ownBlock := (fun e => by have := (hown1.lt m e.symm).1; omega); have hd2 := (hgrow2.block m (by omega) hne2).trans ((hgrow1.block m (by simp; omega) hne0).trans ((H.out.2.block m hml).trans hd)); have f8 := frozen_of_row w2 m 8 _ _ hd2; have c8' := (r_cells hd2).2.2.2.2.1))
  go_end0
  obtain ⟨h, hb1⟩ := H.out
  have hT := ((Turn.of_below hb1 (fun j => j = m)).grow hgrow1 (fun j e => by cases e; exact Nat.le_refl _)).grow hgrow2 (fun j e => (hown1.lt j e).1)
  refine ⟨rfl, _, h.turned (hT.setCell _ _ (fun _ => rfl)) (by rw [heap_setCell_same _ _ _ _ _ _ hd2]; rfl) (.inl ⟨rfl, rfl⟩) (.inl ⟨rfl, rfl⟩) (.inr ?_)⟩
  rw [actC_snoc, List.length_append, List.length_singleton]
  exact own_same hown2 (fun j hj => heap_setCell_other _ _ _ _ (fun e => by have := (hown2.lt j hj).1; dsimp only at e; omega))
set_option maxHeartbeats 4000000 in
theorem r_shut (h : RW w m fv cv sv ev kv qa qo qc asked ticks op ac size) (hn : ac.length ≤ 1048576) (p : Bool) (nm : ByteArray) :
    Calls Try.prog 46 #[.pointer (some ⟨m, 0, none⟩), .agg #[.bool p, .string nm]] w fun e w' => e = .returned (.tuple #[]) ∧ ∃ qc', RW w' m fv cv sv ev kv qa qo qc' asked ticks op (ac ++ [(shutK (p, nm), nm, ⟨#[]⟩)]) size ∧ RGo w m qa qo qc w' qa qo qc' := by
  have hb1 : Below w.heap.size w (w.alloc (.cells #[.bool p, .string nm] 90)) := (Below.refl _ w).alloc (Nat.le_refl _) _
  have HD := r_do (h.below hb1) hn (shutK (p, nm)) nm ⟨#[]⟩
  have HB := Lib.hid hb1
  replace HD := Lib.hid HD
  clear h hb1
  cases p
  · rw [show shutK (false, nm) = 7 from rfl] at HD ⊢
    go_enter Try.func46, Try.ntmps46
    go_wp2_with fail
    refine HD.out.mono ?_
    rintro e w3 ⟨rfl, qc', h3, g3⟩
    go_wp2_with fail
    go_end0
    exact ⟨rfl, qc', h3, (RGo.of_below HB.out).trans g3⟩
  · rw [show shutK (true, nm) = 8 from rfl] at HD ⊢
    go_enter Try.func46, Try.ntmps46
    go_wp2_with fail
    refine HD.out.mono ?_
    rintro e w3 ⟨rfl, qc', h3, g3⟩
    go_wp2_with fail
    go_end0
    exact ⟨rfl, qc', h3, (RGo.of_below HB.out).trans g3⟩
theorem str_cells {c : Nat} {A : Option Addr} (h : RowA w 2 (.slice A op.length c) op.length (op.flatMap strC)) {i : Nat} (hi : i < op.length) : ∃ b off, A = some ⟨b, off, none⟩ ∧ w.cell? ⟨b, off + i * 2, none⟩ = some (.bool op[i].1) ∧ w.cell? ⟨b, off + i * 2 + 1, none⟩ = some (.string op[i].2) := by
  obtain ⟨b, off, rfl, _, h2⟩ := h.at (by rw [strC_len]; omega)
  exact ⟨b, off, rfl, h2 _ _ (strC_at hi).1, h2 _ _ (strC_at hi).2⟩
theorem box2 (w : World) (x0 x1 : Value) (e : TypeId) : (w.alloc (.cells #[x0, x1] e)).cell? ⟨w.heap.size, 0, none⟩ = some x0 ∧ (w.alloc (.cells #[x0, x1] e)).cell? ⟨w.heap.size, 1, none⟩ = some x1 := by
  refine ⟨?_, ?_⟩ <;> simp
set_option maxHeartbeats 4000000 in
theorem r_find (h : RW w m fv cv sv ev kv qa qo qc asked ticks op ac size) (p : Bool) (nm : ByteArray) (hn : op.length ≤ 1048576) :
    Calls Try.prog 45 #[.pointer (some ⟨m, 0, none⟩), .agg #[.bool p, .string nm]] w fun e w' => ∃ i : Int, e = .returned (.int .i64 i) ∧ (0 ≤ i ↔ (p, nm) ∈ op) ∧ Below w.heap.size w w' := by
  have hb1 : Below w.heap.size w (w.alloc (.cells #[.bool p, .string nm] 90)) := (Below.refl _ w).alloc (Nat.le_refl _) _
  have h1 := h.below hb1
  obtain ⟨x0, x1⟩ := box2 w (.bool p) (.string nm) 90
  have hc := (r_cells h1.hd).2.2.2.1
  have hrow := h1.o.1.a
  obtain ⟨A, c, rfl⟩ := hrow.shape
  have HB := Lib.hid hb1
  have HR := Lib.hid hrow
  have HX := Lib.hid (And.intro hc (And.intro x0 x1))
  clear h h1 hb1 x0 x1 hrow hc
  go_enter Try.func45, Try.ntmps45
  go_wp2_with fail
  generalize w.alloc (.cells #[.bool p, .string nm] 90) = w1 at *
  go_loopw [5] (fun v5 wr => ∃ i : Nat, v5 = .int .i64 (i : Int) ∧ i ≤ op.length ∧ (∀ j (h : j < op.length), j < i → op[j] ≠ (p, nm)) ∧ Below w1.heap.size w1 wr) (fun v5 _ => op.length - (intOf v5).toNat)
  case atStart => exact ⟨0, rfl, Nat.zero_le _, fun j _ h => by omega, Below.refl _ _⟩
  case round =>
    obtain ⟨i, rfl, hi, hno, hb⟩ := hrel
    obtain ⟨hc, d0, d1⟩ := HX.out
    replace hc := (hb.cell (lt_of_cell hc)).trans hc
    replace d0 := (hb.cell (lt_of_cell d0)).trans d0
    replace d1 := (hb.cell (lt_of_cell d1)).trans d1
    by_cases hlt : i < op.length
    · have i1 : (i : Int) < (op.length : Int) := by omega
      have i0 : (0 : Int) ≤ (i : Int) := by omega
      obtain ⟨g, off, rfl, e0, e1⟩ := str_cells HR.out hlt
      replace e0 := (hb.cell (lt_of_cell e0)).trans e0
      replace e1 := (hb.cell (lt_of_cell e1)).trans e1
      have hx : op[i] = (op[i].1, op[i].2) := rfl
      have hmem : op[i] ∈ op := List.getElem_mem hlt
      generalize op[i].1 = q at *
      generalize op[i].2 = nn at *
      by_cases hq : p = q
      · subst hq
        by_cases hnn : nm = nn
        · subst hnn
          have H := Lib.hid (And.intro hx (And.intro hmem (And.intro hno hb)))
          clear hx hmem hno hb
          go_wp2_with fail
          go_region_with (fail)
          all_goals
            go_wp2_with fail
            go_ret
            obtain ⟨hx, hmem, _, hb⟩ := H.out
            exact ⟨_, rfl, ⟨fun _ => by rw [← hx]; exact hmem, fun _ => by omega⟩, HB.out.trans ((hb.mono HB.out.size).drew)⟩
        · have hb1 := str_ne hnn
          have hb2 := str_ne (fun e => hnn e.symm : nn ≠ nm)
          have H := Lib.hid (And.intro hx (And.intro hmem (And.intro hno (And.intro hnn hb))))
          clear hx hmem hno hnn hb
          go_wp2_with fail
          go_region_with (fail)
          all_goals
            go_wp2_with fail
            go_roundw
            case rel =>
              obtain ⟨hx, _, hno, hne, hb⟩ := H.out
              refine ⟨i + 1, by go_num, by omega, fun j hj hji => ?_, hb.drew⟩
              rcases Nat.lt_or_ge j i with h | h
              · exact hno j hj h
              · obtain rfl : j = i := by omega
                rw [hx]
                intro e
                exact hne (congrArg Prod.snd e).symm
            case measure => simp [intOf]; omega
      · have hb1 : (p == q) = false := by rw [beq_eq_false_iff_ne]; exact hq
        have hb2 : (q == p) = false := by rw [beq_eq_false_iff_ne]; exact fun e => hq e.symm
        have hb3 : ¬ q = p := fun e => hq e.symm
        have H := Lib.hid (And.intro hx (And.intro hmem (And.intro hno (And.intro hq hb))))
        clear hx hmem hno hb
        go_wp2_with fail
        go_region_with (fail)
        all_goals
          go_wp2_with fail
          go_roundw
          case rel =>
            obtain ⟨hx, _, hno, hne, hb⟩ := H.out
            refine ⟨i + 1, by go_num, by omega, fun j hj hji => ?_, hb.drew⟩
            rcases Nat.lt_or_ge j i with h | h
            · exact hno j hj h
            · obtain rfl : j = i := by omega
              rw [hx]
              intro e
              exact hne (congrArg Prod.fst e).symm
          case measure => simp [intOf]; omega
    · have i1 : ¬ (i : Int) < (op.length : Int) := by omega
      have H := Lib.hid (And.intro hno hb)
      clear hno hb d0 d1
      go_wp2_with fail
      go_ret
      refine ⟨_, rfl, ⟨fun h => absurd h (by omega), fun h => ?_⟩, HB.out.trans (H.out.2.mono HB.out.size)⟩
      obtain ⟨j, hj, e⟩ := List.getElem_of_mem h
      exact absurd e (H.out.1 j hj (by omega))
end

end Go.Proofs.Yticinbkgmfoeoaa
