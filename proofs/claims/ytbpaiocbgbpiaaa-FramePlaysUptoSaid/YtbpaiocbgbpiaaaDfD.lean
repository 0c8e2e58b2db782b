/- A name found: Find, walked. -/
import Derived.Test.YtbpaiocbgbpiaaaDfE
import Derived.StillTailTactics
import Derived.IntWalk
namespace Go.Proofs.Ytbpaiocbgbpiaaa
open Go.RowKit
set_option linter.unusedVariables false
set_option linter.unusedSimpArgs false

theorem wpList_app_lit {P : Program} {w : World} {ops : Array Oper} {rest : List Oper} {o : Oper} {a : Act} {Q : Exit → Act → World → Prop} (t e : TypeId) (s x : Operand) (hgd : o.guard = none) (ho : o.op = .call { callee := .builtin .append, args := #[s, x], argTypes := #[t, t] })
    (lo : Nat) {z : Value} {size bytes : Nat} (ht : P.underlying t = some (.slice e)) (hinfo : (P.info? e).map (fun i => (i.zero, i.size, i.bytes)) = some (some z, size, bytes)) (hzs : z.cells.size = size) (hsz : 0 < size)
    {g : Nat} (hs : a.eval s = .slice (some ⟨g, 0, none⟩) 0 0) (hg : lo ≤ g) (hgc : ∃ c, w.heap[g]? = some (.cells c e (0, 0))) (hlo : lo ≤ w.heap.size) {vx : Value} {m : Nat} {news : List Value} (hx : a.eval x = vx) (hr : RowA w size vx m news) (hu : ∀ u ∈ news, u.oneCell' = true) (h63 : m ≤ maxLen) (hbytes : m * bytes ≤ 140737488355328)
    (h : ∀ A c w', OwnZ w' lo e size (.slice A m c) m news → Below w.heap.size w w' → wpList P ops Q rest (a.put o.dst (.slice A m c)) w') : wpList P ops Q (o :: rest) a w := by
  refine wpList_plain hgd fun K hK => ?_
  obtain ⟨A, c, w', hrun, h2, h3⟩ := run_append_lit (P := P) t o.type ht hinfo hzs hsz hg hgc hlo hr hu h63 hbytes
  unfold Oper.wp execOp
  simp only [ho, resolve, invoke, builtin, Sem.run_bind, Sem.run_pure, Result.andThen_ok, List.map_toArray, List.map_cons, List.map_nil, hs, hx, hrun]
  exact hK _ _ (h A c w' h2 h3)
theorem wpList_app_el {P : Program} {w : World} {ops : Array Oper} {rest : List Oper} {o : Oper} {a : Act} {Q : Exit → Act → World → Prop} (t e : TypeId) (s x : Operand) (hgd : o.guard = none) (ho : o.op = .call { callee := .builtin .append, args := #[s, x], argTypes := #[t, t] })
    (lo : Nat) {z : Value} {size bytes : Nat} (ht : P.underlying t = some (.slice e)) (hinfo : (P.info? e).map (fun i => (i.zero, i.size, i.bytes)) = some (some z, size, bytes)) (hzs : z.cells.size = size) (hsz : 0 < size)
    {v : Value} {n : Nat} {xs : List Value} (hs : a.eval s = v) (hown : OwnZ w lo e size v n xs) {ad : Addr} {m c : Nat} {news : List Value} (hx : a.eval x = .slice (some ad) m c) (hl : news.length = m * size) (hnews : ∀ j u, news[j]? = some u → w.cell? (ad.add j) = some u) (hm0 : 0 < m) (hu : ∀ u ∈ news, u.oneCell' = true)
    (h63 : n + m ≤ maxLen) (hbytes : (n + m) * bytes ≤ 140737488355328) (hlo : lo ≤ w.heap.size)
    (h : ∀ g cap w', w'.ownsRow lo e size (.slice (some ⟨g, 0, none⟩) (n + m) cap) (n + m) (xs ++ news) → w.grownBy w' v.ownBlock → (v.ownBlock = some g ∨ w.heap.size ≤ g) → wpList P ops Q rest (a.put o.dst (.slice (some ⟨g, 0, none⟩) (n + m) cap)) w') : wpList P ops Q (o :: rest) a w := by
  refine wpList_plain hgd fun K hK => ?_
  obtain ⟨g, cap, w', hrun, h2, h3, h4⟩ := run_append_el (P := P) (c := c) t o.type ht hinfo hzs hsz hown hl hnews hm0 hu h63 hbytes hlo
  unfold Oper.wp execOp
  simp only [ho, resolve, invoke, builtin, Sem.run_bind, Sem.run_pure, Result.andThen_ok, List.map_toArray, List.map_cons, List.map_nil, hs, hx, hrun]
  exact hK _ _ (h g cap w' h2 h3 h4)
theorem Turn.grow {a b c : World} {X : Nat → Prop} (h : Turn a b X) {v : Value} (hg : b.grownBy c v.ownBlock) (hv : ∀ j, v.ownBlock = some j → a.heap.size ≤ j) : Turn a c X :=
  ⟨hg.os.trans h.os, hg.tape.trans h.tape, hg.output.trans h.output, Nat.le_trans h.size hg.size, fun k hk hn => (hg.block k (Nat.lt_of_lt_of_le hk h.size) (fun e => by have := hv k e.symm; omega)).trans (h.block k hk hn)⟩
theorem own_past {w2 w4 : World} {m k : Nat} {X : Value} {o : Obj} {cs : Array Value} {T e : TypeId} {s : Nat} {v : Value} {n : Nat} {xs : List Value} (h : OwnZ w2 0 e s v n xs) (hd : w2.heap[m]? = some (.cells cs T (0, 0))) (he : e ≠ T) (hb : Below w2.heap.size w2 w4) (hm : m < w2.heap.size) : OwnZ ((w4.setCell ⟨m, k, none⟩ X).alloc o) 0 e s v n xs :=
  h.same fun j hj => by
    have hlt := (h.lt hj).2
    have hjm : j ≠ m := fun q => by
      subst q
      obtain ⟨c, hc⟩ := h.obj hj
      rw [hd] at hc
      simp at hc
      exact he hc.2.symm
    rw [heap_alloc_old _ _ (by have := hb.size; simp [World.setCell]; omega), heap_setCell_other _ _ _ _ hjm]
    exact hb.block j hlt
theorem past_m {a w5 w6 : World} {m : Nat} {o oo : Obj} {v : Value} (h : a.heap[m]? = some oo) (hb : Below a.heap.size a w5) (hg : (w5.alloc o).grownBy w6 v.ownBlock) (hv : ∀ j, v.ownBlock = some j → a.heap.size ≤ j) : w6.heap[m]? = some oo := by
  have hm := (Array.getElem?_eq_some_iff.1 h).1
  have h5 := (hb.block m hm).trans h
  have h5a := at_old (o := o) h5
  exact (hg.block m (Array.getElem?_eq_some_iff.1 h5a).1 (fun e => by have := hv m e.symm; omega)).trans h5a
theorem nmV_one (l : List (ByteArray × Nat)) : ∀ u ∈ nmV l, u.oneCell' = true := by
  intro u hu
  obtain ⟨p, _, rfl⟩ := List.mem_map.1 hu
  rfl
theorem noV_one (l : List (ByteArray × Nat)) : ∀ u ∈ noV l, u.oneCell' = true := by
  intro u hu
  obtain ⟨p, _, rfl⟩ := List.mem_map.1 hu
  rfl
theorem int24_info : (Try.prog.info? 3).map (fun i => (i.zero, i.size, i.bytes)) = some (some (.int .i64 0), 1, 8) := by kernel_rfl
theorem str24_info : (Try.prog.info? 9).map (fun i => (i.zero, i.size, i.bytes)) = some (some (.string ⟨#[]⟩), 1, 16) := by kernel_rfl
/-- The state, a name of all more. -/
theorem DF.named {m : Nat} {vS vGN vGS vC : Value} {ps : List Nat} {gp : List (ByteArray × Nat)} {cp : List CallT} {st : FS} {w wF : World} (h : DF m vS vGN vGS vC ps gp cp st w) (p : ByteArray × Nat) (hpl : gp.length + 1 ≤ st.sl.length) {vN vO : Value}
    (ht : Turn w wF (fun j => j = m)) (hd : wF.heap[m]? = some (.cells #[vS, vN, vO, vC, .int .i64 (st.n : Int)] 60 (0, 0))) (hn : NamesAt wF (vN, vO) (gp ++ [p])) : DF m vS vN vO vC ps (gp ++ [p]) cp ⟨st.sl, putN st.gl p.1 p.2, st.ca, st.n⟩ wF := by
  have hmd := h.hd
  have hX : ∀ j, j = m → ¬ ((∃ cs, w.heap[j]? = some (.cells cs 9 (0, 0))) ∨ ∃ cs, w.heap[j]? = some (.cells cs 3 (0, 0))) := fun j e hc => by
    subst e
    rw [hmd] at hc
    rcases hc with ⟨cs, hc⟩ | ⟨cs, hc⟩ <;> simp at hc
  refine ⟨hd, h.pl, h.pok, h.sl.same fun j hj => ht.block j (h.sl.lt hj).2 fun e => ?_, hn, by rw [lookP_snoc, ← h.g], h.cr.same fun j hj => ht.block j (h.cr.lt hj).2 fun e => ?_, h.cl, fun k c hc => ⟨(h.ce k c hc).1.turn ht hX, (h.ce k c hc).2⟩, by simpa using hpl, h.cb, h.lv⟩
  · subst e
    obtain ⟨cs, hc⟩ := h.sl.obj hj
    rw [hmd] at hc
    simp at hc
  · subst e
    obtain ⟨cs, hc⟩ := h.cr.obj hj
    rw [hmd] at hc
    simp at hc
def NewB (w : World) (v v' : Value) : Prop := v' = v ∨ ∀ j, v'.ownBlock = some j → w.heap.size ≤ j
theorem newB_at {w w' : World} {v : Value} {lo : Nat} {e : TypeId} {size g n c k : Nat} {xs : List Value} (h : w'.ownsRow lo e size (.slice (some ⟨g, 0, none⟩) n c) k xs) (hl : w.heap.size ≤ lo) : NewB w v (.slice (some ⟨g, 0, none⟩) n c) :=
  .inr fun j hj => by have := (h.lt j hj).1; omega
def FoundX (m : Nat) (vS vGN vGS vC : Value) (cp : List CallT) (st : FS) (nm : ByteArray) (w : World) (e : Ending) (w' : World) : Prop := e = .returned (.int .i64 ((findS st nm).2 : Int)) ∧ (∃ vS' vGN' vGS' ps gp, DF m vS' vGN' vGS' vC ps gp cp (findS st nm).1 w' ∧ NewB w vS vS' ∧ NewB w vGN vGN' ∧ NewB w vGS vGS') ∧ Turn w w' (fun j => j = m)
theorem lookI_some {l : List (ByteArray × Nat)} {nm : ByteArray} {i : Nat} (h : lookP l nm = some i) : lookI l nm = (i : Int) := by unfold lookI; rw [h]
theorem lookI_none {l : List (ByteArray × Nat)} {nm : ByteArray} (h : lookP l nm = none) : lookI l nm = -1 := by unfold lookI; rw [h]

set_option maxRecDepth 20000 in
set_option maxHeartbeats 16000000 in
theorem find24x (m : Nat) (vS vGN vGS vC : Value) (ps : List Nat) (gp : List (ByteArray × Nat)) (cp : List CallT) (st : FS) (nm : ByteArray) (w : World) (h : DF m vS vGN vGS vC ps gp cp st w) (hok : OkF st) (hl : st.sl.length ≤ 400000000) (hcl24 : st.ca.length ≤ 1000) :
    Calls Try.prog 34 #[.pointer (some ⟨m, 0, none⟩), .string nm] w (FoundX m vS vGN vGS vC cp st nm w) := by
  obtain ⟨A3, c3, rfl⟩ := h.cr.shape
  obtain ⟨q0, q1, q2, q3, q4, fz⟩ := h.cells
  have HOK := Lib.hid (And.intro hok hl)
  by_cases hca : st.ca = []
  · have hcl : ((st.ca.length : Int)) = 0 := by rw [hca]; rfl
    have hcn : callAt st nm = none := by unfold callAt; rw [hca]; rfl
    have hD := h
    have hbW := Below.refl w.heap.size w
    rw [hca] at q3
    replace q3 : w.cell? ⟨m, 3, none⟩ = some (.slice A3 0 c3) := q3
    clear h hok hca hcl fz hl
    go_enter Try.func34, Try.ntmps34
    have HL := Lib.hid (look_any (vGN, vGS) gp nm w hD.gn (by have := hD.gb; have := HOK.out.2; omega))
    obtain ⟨p0, p1, p2, p3, p4, pz⟩ := hD.cells
    have HD := Lib.hid (And.intro hD (And.intro hcn hbW))
    cases hg : lookP gp nm with
    | some i =>
      rw [lookI_some hg] at HL
      have HF := Lib.hid (show findS st nm = (st, i) by unfold findS; rw [hcn, hD.g, hg])
      have i0 : ¬ (i : Int) < 0 := by omega
      clear hD hcn hbW hg pz
      go_wp2_with fail
      refine HL.out.mono ?_
      rintro e w1 ⟨rfl, hb⟩
      go_wp2_with fail
      go_ret
      unfold FoundX
      rw [HF.out]
      exact ⟨rfl, ⟨_, _, _, _, _, HD.out.1.below hb, .inl rfl, .inl rfl, .inl rfl⟩, Turn.of_below (below_go HD.out.2.2 hb HD.out.2.2.size) _⟩
    | none =>
      rw [lookI_none hg] at HL
      have HF := Lib.hid (show findS st nm = (⟨st.sl ++ [SM.blank], putN st.gl nm st.sl.length, st.ca, st.n⟩, st.sl.length) by unfold findS; rw [hcn, hD.g, hg])
      clear hD hcn hbW hg pz
      go_wp2_with fail
      refine HL.out.mono ?_
      rintro e w1 ⟨rfl, hb⟩
      have HB1 := Lib.hid hb
      have HA := Lib.hid (add_any m vS vGN vGS _ ps gp cp st w1 SM.blank (HD.out.1.below hb) HOK.out.1 (by intro h; cases h) (by intro j h; cases h) HOK.out.2)
      clear hb
      go_wp2_with fail
      refine HA.out.mono ?_
      rintro e w2 ⟨rfl, ⟨vS', hD2, how2⟩, ht2⟩
      have hml : m < w2.heap.size := (Array.getElem?_eq_some_iff.1 hD2.hd).1
      obtain ⟨r0, r1, r2, r3, r4, rz⟩ := hD2.cells
      have hfz := fun W (hb : Below w2.heap.size w2 W) j => frozen_of_row W m j _ _ ((hb.block m hml).trans hD2.hd)
      have hra1 := hD2.gn.1.rowC.a
      have hgs2 := hD2.gn.2
      have hd2 := hD2.hd
      have hl9 : gp.length ≤ 400000000 := by have := HD.out.1.gb; have := HOK.out.2; omega
      have hn9 : (st.sl.length : Int) ≤ 400000000 := by have := HOK.out.2; omega
      have n0 : ¬ (st.sl.length : Int) < 0 := by omega
      have HD2 := Lib.hid (And.intro hD2 (And.intro ht2 how2))
      clear hD2 ht2 rz how2
      go_wp2_with (at_builtin; first
        | (refine wpList_app_lit 27 9 (.tmp 42) (.tmp 47) rfl rfl w2.heap.size Try.underlying27 str24_info rfl (by decide) rfl (by simp <;> omega) ⟨#[], by first | exact at_new (by simp) | (refine at_old ?_; exact at_new (by simp))⟩ (by simp <;> omega) rfl (hra1.below (by first | assumption | (repeat (first | exact Below.refl _ _ | assumption | refine Below.drew ?_ | refine Below.alloc ?_ (by simp <;> omega) _)))) (nmV_one _) (by unfold maxLen; omega) (by omega) ?_; intro A1 c1 w3 hz3 hb3; have hbw3 : Below w2.heap.size w2 w3 := below_go (by first | assumption | (repeat (first | exact Below.refl _ _ | assumption | refine Below.drew ?_ | refine Below.alloc ?_ (by simp <;> omega) _))) hb3 (by simp <;> omega))
        | (refine wpList_app_el 27 9 (.tmp 48) (.tmp 50) rfl rfl w2.heap.size Try.underlying27 str24_info rfl (by decide) rfl (hz3.below ((Below.refl _ _).alloc (Nat.le_refl _) _)) rfl (news := [.string nm]) rfl (cell_news _ #[.string nm] _) (by omega) (by intro u hu; simp at hu; subst hu; rfl) (by unfold maxLen; omega) (by omega) (by have := hbw3.size; simp <;> omega) ?_; intro g4 cap4 w4 hown4 hgr4 hloc4; have hbw4 : Below w2.heap.size w2 w4 := Below.grown (hbw3.alloc hbw3.size _) hgr4 (by have := hbw3.size; simp <;> omega) (fun k hk => (hz3.lt hk).1); have r1' := (hbw4.cell hml).trans r1; have r2' := (hbw4.cell hml).trans r2; have f1' := hfz w4 hbw4 1; have f2' := hfz w4 hbw4 2; have hml4 : m < w4.heap.size := Nat.lt_of_lt_of_le hml hbw4.size; have hd4 := heap_setCell_same w4 m 1 _ _ (.slice (some ⟨g4, 0, none⟩) (gp.length + 1) cap4) ((hbw4.block m hml).trans hd2))
        | (refine wpList_app_lit 54 3 (.tmp 56) (.tmp 61) rfl rfl w4.heap.size Try.underlying54 int24_info rfl (by decide) rfl (by simp) ⟨#[], at_new (by simp)⟩ (by simp) rfl (own_past hgs2 hd2 (by decide) hbw4 hml).rowC.a (noV_one gp) (by unfold maxLen; omega) (by omega) ?_; intro A5 c5 w5 hz5 hb5; have hT5 : Turn w4 w5 (fun j => j = m) := ((Turn.refl w4 (fun j => j = m)).setCell _ _ (fun _ => rfl)).trans (Turn.of_below (below_go ((Below.refl _ _).alloc (Nat.le_refl _) _) hb5 (by simp)) (fun _ => False)) (fun _ q => q) (fun _ _ q => q.elim); have hs5 : w4.heap.size ≤ w5.heap.size := by have := hb5.size; simp at this; omega)
        | (refine wpList_app_el 54 3 (.tmp 62) (.tmp 64) rfl rfl w4.heap.size Try.underlying54 int24_info rfl (by decide) rfl (hz5.below ((Below.refl _ _).alloc (Nat.le_refl _) _)) rfl (news := [.int .i64 (st.sl.length : Int)]) rfl (cell_news _ #[.int .i64 (st.sl.length : Int)] _) (by omega) (by intro u hu; simp at hu; subst hu; rfl) (by unfold maxLen; omega) (by omega) (by simp <;> omega) ?_; intro g6 cap6 w6 hown6 hgr6 hloc6; have hT6 : Turn w4 w6 (fun j => j = m) := (hT5.trans (Turn.alloc _ _ (fun _ => False)) (fun _ q => q) (fun _ _ q => q.elim)).grow hgr6 (fun j hj => (hz5.lt hj).1); have hm6 := past_m hd4 (below_go ((Below.refl _ _).alloc (Nat.le_refl _) _) hb5 (by simp)) hgr6 (fun j hj => by have := (hz5.lt hj).1; simp <;> omega); have p2' : w6.cell? ⟨m, 2, none⟩ = some vGS := (by simp [World.cell?, hm6]); have f6' := frozen_of_row w6 m 2 _ _ hm6))
      go_ret
      have hT26 : Turn w2 w6 (fun j => j = m) := (Turn.of_below hbw4 (fun j => j = m)).trans hT6 (fun _ q => q) (fun _ _ q => q)
      have hdF := heap_setCell_same w6 m 2 _ _ (.slice (some ⟨g6, 0, none⟩) (gp.length + 1) cap6) hm6
      have hTF := hT26.setCell ⟨m, 2, none⟩ (.slice (some ⟨g6, 0, none⟩) (gp.length + 1) cap6) (fun _ => rfl)
      have h4m : g4 ≠ m := by have := (hown4.lt g4 rfl).1; omega
      have h6m : g6 ≠ m := by have := (hown6.lt g6 rfl).1; omega
      have hN1 := own_more (own_same hown4 (w' := w6.setCell ⟨m, 2, none⟩ (.slice (some ⟨g6, 0, none⟩) (gp.length + 1) cap6)) (fun j hj => by cases hj; exact (heap_setCell_other _ _ _ _ h4m).trans (hT6.block g4 (hown4.lt g4 rfl).2 h4m))) (Nat.zero_le _)
      have hN2 := own_more (own_same hown6 (w' := w6.setCell ⟨m, 2, none⟩ (.slice (some ⟨g6, 0, none⟩) (gp.length + 1) cap6)) (fun j hj => by cases hj; exact heap_setCell_other _ _ _ _ h6m)) (Nat.zero_le _)
      obtain ⟨hD2, ht2, how2⟩ := HD2.out
      have hgb := HD.out.1.gb
      have hfin := hD2.named (nm, st.sl.length) (by simp [addS]; omega) hTF hdF ⟨.inl (by simpa [nmV] using hN1), .inl (by simpa [noV] using hN2)⟩
      unfold FoundX
      rw [HF.out]
      have hs01 := HD.out.2.2.size
      have hs12 := HB1.out.size
      refine ⟨rfl, ⟨_, _, _, _, _, hfin, .inr (fun j hj => by have := how2 j hj; omega), newB_at hown4 (by have := ht2.size; omega), newB_at hown6 (by have := ht2.size; have := hbw4.size; omega)⟩, ?_⟩
      exact ((Turn.of_below (below_go HD.out.2.2 HB1.out HD.out.2.2.size) _).trans ht2 (fun _ q => q) (fun _ _ q => q)).trans hTF (fun _ q => q) (fun _ _ q => q)
  · obtain ⟨k, hk⟩ : ∃ k, st.ca.length = k + 1 := by
      cases hq : st.ca with
      | nil => exact absurd hq hca
      | cons a l => exact ⟨l.length, by simp⟩
    have hkc : k < cp.length := by rw [h.cl, hk]; omega
    obtain ⟨hcn, hce⟩ := h.ce k cp[k] (List.getElem?_eq_getElem hkc)
    have hcb := h.cb k cp[k] (List.getElem?_eq_getElem hkc)
    have hcat : callAt st nm = lookP cp[k].2 nm := by
      unfold callAt
      rw [List.getLast?_eq_getElem?, show st.ca.length - 1 = k by omega, hce]
      rfl
    have hr1 := flat_get (C := fun c : CallT => [c.1.1, c.1.2]) (k := 2) (fun _ => rfl) cp (i := k) (r := 0) (List.getElem?_eq_getElem hkc) (by omega)
    have hr2 := flat_get (C := fun c : CallT => [c.1.1, c.1.2]) (k := 2) (fun _ => rfl) cp (i := k) (r := 1) (List.getElem?_eq_getElem hkc) (by omega)
    generalize cp[k] = c at hcn hce hcb hcat hr1 hr2
    replace hr1 : (cp.flatMap fun c : CallT => [c.1.1, c.1.2])[k * 2]? = some c.1.1 := hr1
    replace hr2 : (cp.flatMap fun c : CallT => [c.1.1, c.1.2])[k * 2 + 1]? = some c.1.2 := hr2
    obtain ⟨g3, hg3⟩ : ∃ g3, A3 = some ⟨g3, 0, none⟩ := by
      rcases h.cr with h1 | ⟨h1, _⟩
      · obtain ⟨g, cap, e, _, _⟩ := h1.form (by omega)
        cases e
        exact ⟨g, rfl⟩
      · omega
    subst hg3
    have hrw : w.ownsRow 0 56 2 (.slice (some ⟨g3, 0, none⟩) st.ca.length c3) st.ca.length (cp.flatMap fun c => [c.1.1, c.1.2]) := by
      rcases h.cr with h1 | ⟨h1, _⟩
      · exact h1
      · omega
    have n0 : w.cell? ⟨g3, k * 2, none⟩ = some c.1.1 := (hrw.cellAt _ (by omega)).trans hr1
    have n1 : w.cell? ⟨g3, k * 2 + 1, none⟩ = some c.1.2 := (hrw.cellAt _ (by omega)).trans hr2
    have HLc := Lib.hid (fun (W : World) (hb : Below w.heap.size w W) => show Calls Try.prog 44 #[.agg #[c.1.1, c.1.2], .string nm] W (fun e w' => e = .returned (.int .i64 (lookI c.2 nm)) ∧ Below w.heap.size w w') from by
      refine (look_any c.1 c.2 nm W (hcn.turn (X := fun _ => False) (Turn.of_below hb _) (fun _ x => x.elim)) (by omega)).mono ?_
      rintro e w2 ⟨rfl, hb2⟩
      exact ⟨rfl, below_go hb hb2 hb.size⟩)
    have HK := Lib.hid (fun (W : World) (hb : Below w.heap.size w W) => show W.cell? ⟨m, 3, none⟩ = some (.slice (some ⟨g3, 0, none⟩) (k + 1) c3) ∧ W.cell? ⟨g3, k * 2, none⟩ = some c.1.1 ∧ W.cell? ⟨g3, k * 2 + 1, none⟩ = some c.1.2 ∧ Below w.heap.size w W from
      ⟨(hb.cell (lt_of_cell q3)).trans (by rw [q3, hk]), (hb.cell (lt_of_cell n0)).trans n0, (hb.cell (lt_of_cell n1)).trans n1, hb⟩)
    rw [hk] at q3
    have hk1 : ((k + 1 : Nat) : Int) - 1 = (k : Int) := by omega
    have hk2 : ((k + 1 : Nat) : Int) ≤ 400000000 := by omega
    have hk0 : (0 : Int) ≤ (k : Int) := by omega
    have hk3 : (0 : Int) < ((k + 1 : Nat) : Int) := by omega
    have HHH := Lib.hid (And.intro h hcat)
    have hdr : Below w.heap.size w w.drew := (Below.refl _ w).drew
    clear h hok hca fz hl hcn hce hcb hcat hr1 hr2 hrw hkc
    obtain ⟨⟨c1, c2⟩, cl⟩ := c
    dsimp only at n0 n1 HLc HK
    have hk5 : (k : Int) < ((k + 1 : Nat) : Int) := by omega
    generalize k + 1 = n at hk q3 HK hk1 hk2 hk3 hk5
    have hkw : IntKind.i64.wrap ((n : Int) - 1) = (k : Int) := by rw [IntWalk.i64_in _ (by omega)]; omega
    have HKW := Lib.hid (And.intro hkw (And.intro hk0 hk5))
    clear hkw hk1 hk0 hk5 hk
    have hk7 : (0 : Int) ≤ (n : Int) := by omega
    cases hg0 : lookP cl nm with
    | some i =>
      rw [lookI_some hg0] at HLc
      have i0 : (0 : Int) ≤ (i : Int) := by omega
      have HFs := Lib.hid (show findS st nm = (st, i) by unfold findS; rw [HHH.out.2, hg0])
      go_enter Try.func34, Try.ntmps34
      go_wp2_with fail
      obtain ⟨hkw, hk0, hk5⟩ := HKW.out
      go_still_tail 13, (by kernel_rfl)
      change wpList _ _ _ _ _ w.drew
      clear hkw hk0 hk5
      go_wp2_with fail
      refine (HLc.out _ hdr).mono ?_
      rintro e wx ⟨rfl, hbx⟩
      go_wp2_with fail
      go_ret
      unfold FoundX
      rw [HFs.out]
      exact ⟨rfl, ⟨_, _, _, _, _, HHH.out.1.below hbx, .inl rfl, .inl rfl, .inl rfl⟩, Turn.of_below hbx _⟩
    | none =>
      rw [lookI_none hg0] at HLc
      go_enter Try.func34, Try.ntmps34
      go_wp2_with fail
      obtain ⟨hkw, hk0, hk5⟩ := HKW.out
      go_still_tail 13, (by kernel_rfl)
      change wpList _ _ _ _ _ w.drew
      clear hkw hk0 hk5
      go_wp2_with fail
      refine (HLc.out _ hdr).mono ?_
      rintro e wx ⟨rfl, hbx⟩
      have hD := HHH.out.1.below hbx
      have hbW := hbx
      have hcn : callAt st nm = none := HHH.out.2.trans hg0
      clear hbx q0 q1 q2 q3 q4 n0 n1 hk2 hk3 hk7 hdr hg0 HK HLc HKW
      have HL := Lib.hid (look_any (vGN, vGS) gp nm wx hD.gn (by have := hD.gb; have := HOK.out.2; omega))
      obtain ⟨p0, p1, p2, p3, p4, pz⟩ := hD.cells
      have HD := Lib.hid (And.intro hD (And.intro hcn hbW))
      cases hg : lookP gp nm with
      | some i =>
        rw [lookI_some hg] at HL
        have HF := Lib.hid (show findS st nm = (st, i) by unfold findS; rw [hcn, hD.g, hg])
        have i0 : ¬ (i : Int) < 0 := by omega
        clear hD hcn hbW hg pz
        go_wp2_with fail
        refine HL.out.mono ?_
        rintro e w1 ⟨rfl, hb⟩
        go_wp2_with fail
        go_ret
        unfold FoundX
        rw [HF.out]
        exact ⟨rfl, ⟨_, _, _, _, _, HD.out.1.below hb, .inl rfl, .inl rfl, .inl rfl⟩, Turn.of_below (below_go HD.out.2.2 hb HD.out.2.2.size) _⟩
      | none =>
        rw [lookI_none hg] at HL
        have HF := Lib.hid (show findS st nm = (⟨st.sl ++ [SM.blank], putN st.gl nm st.sl.length, st.ca, st.n⟩, st.sl.length) by unfold findS; rw [hcn, hD.g, hg])
        clear hD hcn hbW hg pz
        go_wp2_with fail
        refine HL.out.mono ?_
        rintro e w1 ⟨rfl, hb⟩
        have HB1 := Lib.hid hb
        have HA := Lib.hid (add_any m vS vGN vGS _ ps gp cp st w1 SM.blank (HD.out.1.below hb) HOK.out.1 (by intro h; cases h) (by intro j h; cases h) HOK.out.2)
        clear hb
        go_wp2_with fail
        refine HA.out.mono ?_
        rintro e w2 ⟨rfl, ⟨vS', hD2, how2⟩, ht2⟩
        have hml : m < w2.heap.size := (Array.getElem?_eq_some_iff.1 hD2.hd).1
        obtain ⟨r0, r1, r2, r3, r4, rz⟩ := hD2.cells
        have hfz := fun W (hb : Below w2.heap.size w2 W) j => frozen_of_row W m j _ _ ((hb.block m hml).trans hD2.hd)
        have hra1 := hD2.gn.1.rowC.a
        have hgs2 := hD2.gn.2
        have hd2 := hD2.hd
        have hl9 : gp.length ≤ 400000000 := by have := HD.out.1.gb; have := HOK.out.2; omega
        have hn9 : (st.sl.length : Int) ≤ 400000000 := by have := HOK.out.2; omega
        have n0 : ¬ (st.sl.length : Int) < 0 := by omega
        have HD2 := Lib.hid (And.intro hD2 (And.intro ht2 how2))
        clear hD2 ht2 rz how2
        go_wp2_with (at_builtin; first
          | (refine wpList_app_lit 27 9 (.tmp 42) (.tmp 47) rfl rfl w2.heap.size Try.underlying27 str24_info rfl (by decide) rfl (by simp <;> omega) ⟨#[], by first | exact at_new (by simp) | (refine at_old ?_; exact at_new (by simp))⟩ (by simp <;> omega) rfl (hra1.below (by first | assumption | (repeat (first | exact Below.refl _ _ | assumption | refine Below.drew ?_ | refine Below.alloc ?_ (by simp <;> omega) _)))) (nmV_one _) (by unfold maxLen; omega) (by omega) ?_; intro A1 c1 w3 hz3 hb3; have hbw3 : Below w2.heap.size w2 w3 := below_go (by first | assumption | (repeat (first | exact Below.refl _ _ | assumption | refine Below.drew ?_ | refine Below.alloc ?_ (by simp <;> omega) _))) hb3 (by simp <;> omega))
          | (refine wpList_app_el 27 9 (.tmp 48) (.tmp 50) rfl rfl w2.heap.size Try.underlying27 str24_info rfl (by decide) rfl (hz3.below ((Below.refl _ _).alloc (Nat.le_refl _) _)) rfl (news := [.string nm]) rfl (cell_news _ #[.string nm] _) (by omega) (by intro u hu; simp at hu; subst hu; rfl) (by unfold maxLen; omega) (by omega) (by have := hbw3.size; simp <;> omega) ?_; intro g4 cap4 w4 hown4 hgr4 hloc4; have hbw4 : Below w2.heap.size w2 w4 := Below.grown (hbw3.alloc hbw3.size _) hgr4 (by have := hbw3.size; simp <;> omega) (fun k hk => (hz3.lt hk).1); have r1' := (hbw4.cell hml).trans r1; have r2' := (hbw4.cell hml).trans r2; have f1' := hfz w4 hbw4 1; have f2' := hfz w4 hbw4 2; have hml4 : m < w4.heap.size := Nat.lt_of_lt_of_le hml hbw4.size; have hd4 := heap_setCell_same w4 m 1 _ _ (.slice (some ⟨g4, 0, none⟩) (gp.length + 1) cap4) ((hbw4.block m hml).trans hd2))
          | (refine wpList_app_lit 54 3 (.tmp 56) (.tmp 61) rfl rfl w4.heap.size Try.underlying54 int24_info rfl (by decide) rfl (by simp) ⟨#[], at_new (by simp)⟩ (by simp) rfl (own_past hgs2 hd2 (by decide) hbw4 hml).rowC.a (noV_one gp) (by unfold maxLen; omega) (by omega) ?_; intro A5 c5 w5 hz5 hb5; have hT5 : Turn w4 w5 (fun j => j = m) := ((Turn.refl w4 (fun j => j = m)).setCell _ _ (fun _ => rfl)).trans (Turn.of_below (below_go ((Below.refl _ _).alloc (Nat.le_refl _) _) hb5 (by simp)) (fun _ => False)) (fun _ q => q) (fun _ _ q => q.elim); have hs5 : w4.heap.size ≤ w5.heap.size := by have := hb5.size; simp at this; omega)
          | (refine wpList_app_el 54 3 (.tmp 62) (.tmp 64) rfl rfl w4.heap.size Try.underlying54 int24_info rfl (by decide) rfl (hz5.below ((Below.refl _ _).alloc (Nat.le_refl _) _)) rfl (news := [.int .i64 (st.sl.length : Int)]) rfl (cell_news _ #[.int .i64 (st.sl.length : Int)] _) (by omega) (by intro u hu; simp at hu; subst hu; rfl) (by unfold maxLen; omega) (by omega) (by simp <;> omega) ?_; intro g6 cap6 w6 hown6 hgr6 hloc6; have hT6 : Turn w4 w6 (fun j => j = m) := (hT5.trans (Turn.alloc _ _ (fun _ => False)) (fun _ q => q) (fun _ _ q => q.elim)).grow hgr6 (fun j hj => (hz5.lt hj).1); have hm6 := past_m hd4 (below_go ((Below.refl _ _).alloc (Nat.le_refl _) _) hb5 (by simp)) hgr6 (fun j hj => by have := (hz5.lt hj).1; simp <;> omega); have p2' : w6.cell? ⟨m, 2, none⟩ = some vGS := (by simp [World.cell?, hm6]); have f6' := frozen_of_row w6 m 2 _ _ hm6))
        go_ret
        have hT26 : Turn w2 w6 (fun j => j = m) := (Turn.of_below hbw4 (fun j => j = m)).trans hT6 (fun _ q => q) (fun _ _ q => q)
        have hdF := heap_setCell_same w6 m 2 _ _ (.slice (some ⟨g6, 0, none⟩) (gp.length + 1) cap6) hm6
        have hTF := hT26.setCell ⟨m, 2, none⟩ (.slice (some ⟨g6, 0, none⟩) (gp.length + 1) cap6) (fun _ => rfl)
        have h4m : g4 ≠ m := by have := (hown4.lt g4 rfl).1; omega
        have h6m : g6 ≠ m := by have := (hown6.lt g6 rfl).1; omega
        have hN1 := own_more (own_same hown4 (w' := w6.setCell ⟨m, 2, none⟩ (.slice (some ⟨g6, 0, none⟩) (gp.length + 1) cap6)) (fun j hj => by cases hj; exact (heap_setCell_other _ _ _ _ h4m).trans (hT6.block g4 (hown4.lt g4 rfl).2 h4m))) (Nat.zero_le _)
        have hN2 := own_more (own_same hown6 (w' := w6.setCell ⟨m, 2, none⟩ (.slice (some ⟨g6, 0, none⟩) (gp.length + 1) cap6)) (fun j hj => by cases hj; exact heap_setCell_other _ _ _ _ h6m)) (Nat.zero_le _)
        obtain ⟨hD2, ht2, how2⟩ := HD2.out
        have hgb := HD.out.1.gb
        have hfin := hD2.named (nm, st.sl.length) (by simp [addS]; omega) hTF hdF ⟨.inl (by simpa [nmV] using hN1), .inl (by simpa [noV] using hN2)⟩
        unfold FoundX
        rw [HF.out]
        have hs01 := HD.out.2.2.size
        have hs12 := HB1.out.size
        refine ⟨rfl, ⟨_, _, _, _, _, hfin, .inr (fun j hj => by have := how2 j hj; omega), newB_at hown4 (by have := ht2.size; omega), newB_at hown6 (by have := ht2.size; have := hbw4.size; omega)⟩, ?_⟩
        exact ((Turn.of_below (below_go HD.out.2.2 HB1.out HD.out.2.2.size) _).trans ht2 (fun _ q => q) (fun _ _ q => q)).trans hTF (fun _ q => q) (fun _ _ q => q)
def Found (m : Nat) (st : FS) (nm : ByteArray) (w : World) (e : Ending) (w' : World) : Prop := e = .returned (.int .i64 ((findS st nm).2 : Int)) ∧ D m (findS st nm).1 w' ∧ Turn w w' (DT m w)
theorem find24_any (m : Nat) (st : FS) (nm : ByteArray) (w : World) (hD0 : D m st w) (hok : OkF st) (hl : st.sl.length ≤ 400000000) (hcl24 : st.ca.length ≤ 1000) :
    Calls Try.prog 34 #[.pointer (some ⟨m, 0, none⟩), .string nm] w (Found m st nm w) := by
  obtain ⟨vS, vGN, vGS, vC, ps, gp, cp, h⟩ := hD0
  exact (find24x m vS vGN vGS vC ps gp cp st nm w h hok hl hcl24).mono fun e w' ⟨h1, ⟨_, _, _, _, _, h2, _⟩, h3⟩ => ⟨h1, ⟨_, _, _, _, _, _, _, h2⟩, h.dtm h3⟩
end Go.Proofs.Ytbpaiocbgbpiaaa
