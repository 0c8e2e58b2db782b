/- The document's frames: 'append' to an empty literal, and of one element that lies anywhere; the state; a variable more. -/
import Derived.Test.YtbpaiocbgbpiaaaNuY
import Derived.Deep.Upon
namespace Go.Proofs.Ytbpaiocbgbpiaaa
open Go.RowKit
set_option linter.unusedVariables false
set_option linter.unusedSimpArgs false

/-- Names and the numbers of their variables: the last of a name counts. -/
def lookP (l : List (ByteArray × Nat)) : ByteArray → Option Nat := l.foldl (fun f p => putN f p.1 p.2) (fun _ => none)
theorem lookP_snoc (l : List (ByteArray × Nat)) (p : ByteArray × Nat) : lookP (l ++ [p]) = putN (lookP l) p.1 p.2 := by simp [lookP]
theorem ba_ext {a b : ByteArray} (h : a.data.toList = b.data.toList) : a = b := by
  cases a; cases b
  congr 1
  exact Array.toList_inj.1 h
theorem putN_eq (f : ByteArray → Option Nat) (s : ByteArray) (i : Nat) (t : ByteArray) : putN f s i t = if t = s then some i else f t := by
  unfold putN
  by_cases e : t = s
  · subst e; simp
  · rw [if_neg (fun h => e (ba_ext h)), if_neg e]
theorem lookP_take {l : List (ByteArray × Nat)} {i : Nat} (h : i < l.length) (nm : ByteArray) : lookP (l.take (i + 1)) nm = if nm = l[i].1 then some l[i].2 else lookP (l.take i) nm := by
  rw [List.take_succ_eq_append_getElem h, lookP_snoc, putN_eq]
def nmV (l : List (ByteArray × Nat)) : List Value := l.map fun p => (.string p.1 : Value)
def noV (l : List (ByteArray × Nat)) : List Value := l.map fun p => (.int .i64 (p.2 : Int) : Value)
/-- A list of names lies there. -/
def NamesAt (w : World) (c : Value × Value) (l : List (ByteArray × Nat)) : Prop := OwnZ w 0 9 1 c.1 l.length (nmV l) ∧ OwnZ w 0 3 1 c.2 l.length (noV l)
def lookI (l : List (ByteArray × Nat)) (nm : ByteArray) : Int := match lookP l nm with | some i => (i : Int) | none => -1
theorem ownz_at {w : World} {e : TypeId} {A : Option Addr} {c n : Nat} {xs : List Value} (h : OwnZ w 0 e 1 (.slice A n c) n xs) {j : Nat} {u : Value} (hj : xs[j]? = some u) : ∃ b off, A = some ⟨b, off, none⟩ ∧ w.cell? ⟨b, off + j, none⟩ = some u := by
  have hn : j < n := by
    rcases Nat.lt_or_ge j n with h1 | h1
    · exact h1
    · rw [List.getElem?_eq_none (by rw [h.len]; omega)] at hj; cases hj
  obtain ⟨h1, A', c', e2, hA, _, h4⟩ := h.rowC
  cases e2
  cases A with
  | none => have := (hA rfl).1; omega
  | some a =>
    obtain ⟨b, off, rfl, _, hc⟩ := h4 a rfl
    exact ⟨b, off, rfl, hc j u hj⟩
theorem box2_cells {w : World} {T : TypeId} {x y : Value} : (w.alloc (.cells #[x, y] T)).cell? ⟨w.heap.size, 0, none⟩ = some x ∧ (w.alloc (.cells #[x, y] T)).cell? ⟨w.heap.size, 1, none⟩ = some y :=
  ⟨by rw [World.cell?_alloc_new]; rfl, by rw [World.cell?_alloc_new]; rfl⟩
set_option maxRecDepth 20000 in
set_option maxHeartbeats 4000000 in
theorem look_any (c : Value × Value) (l : List (ByteArray × Nat)) (nm : ByteArray) (w : World) (h : NamesAt w c l) (hl : l.length ≤ 400000000) :
    Calls Try.prog 44 #[.agg #[c.1, c.2], .string nm] w fun e w' => e = .returned (.int .i64 (lookI l nm)) ∧ Below w.heap.size w w' := by
  obtain ⟨v1, v2⟩ := c
  obtain ⟨h1, h2⟩ := h
  obtain ⟨A1, c1, e1⟩ := h1.shape
  obtain ⟨A2, c2, e2⟩ := h2.shape
  dsimp only at h1 h2 e1 e2
  subst e1 e2
  have H := Lib.hid (And.intro h1 h2)
  have HB := Lib.hid (show Below w.heap.size w (w.alloc (.cells #[.slice A1 l.length c1, .slice A2 l.length c2] 56)) from (Below.refl _ w).alloc (Nat.le_refl _) _)
  obtain ⟨x0, x1⟩ := box2_cells (w := w) (T := 56) (x := .slice A1 l.length c1) (y := .slice A2 l.length c2)
  have hl1 : (l.length : Int) ≤ 400000000 := by omega
  have HL := Lib.hid hl
  clear h1 h2 hl
  show Calls _ _ #[.agg #[.slice A1 l.length c1, .slice A2 l.length c2], .string nm] _ _
  go_enter Try.func44, Try.ntmps44
  generalize hwa : w.alloc (.cells #[.slice A1 l.length c1, .slice A2 l.length c2] 56) = wa at *
  go_wp2_with fail
  try rw [hwa]
  clear hwa
  go_loopw [5] (fun v5 wr => ∃ i : Nat, v5 = .int .i64 ((i : Int) - 1) ∧ i ≤ l.length ∧ lookP l nm = lookP (l.take i) nm ∧ wa = wr) (fun v5 _ => (intOf v5 + 1).toNat)
  case atStart => exact ⟨l.length, by go_num, Nat.le_refl _, by rw [List.take_length], rfl⟩
  case round =>
    obtain ⟨i, rfl, hi, hlk, rfl⟩ := hrel
    cases i with
    | zero =>
      have hi1 : (((0 : Nat) : Int) - 1) = -1 := by omega
      rw [hi1]
      have HR := Lib.hid (show lookI l nm = -1 by unfold lookI; rw [hlk]; rfl)
      clear hlk
      go_wp2_with fail
      go_ret
      rw [HR.out]
      exact ⟨rfl, HB.out⟩
    | succ j =>
      have hj : j < l.length := by omega
      have hi1 : (((j + 1 : Nat) : Int) - 1) = (j : Int) := by omega
      rw [hi1]
      have j0 : (0 : Int) ≤ (j : Int) := by omega
      have j1 : (j : Int) < (l.length : Int) := by omega
      obtain ⟨b1, o1, rfl, q1⟩ := ownz_at H.out.1 (j := j) (u := .string l[j].1) (by simp [nmV, hj])
      obtain ⟨b2, o2, rfl, q2⟩ := ownz_at H.out.2 (j := j) (u := .int .i64 (l[j].2 : Int)) (by simp [noV, hj])
      replace q1 := (HB.out.cell (lt_of_cell q1)).trans q1
      replace q2 := (HB.out.cell (lt_of_cell q2)).trans q2
      rw [lookP_take hj] at hlk
      generalize l[j] = p at *
      obtain ⟨s, k⟩ := p
      dsimp only at q1 q2 hlk
      by_cases e : nm = s
      · rw [if_pos e] at hlk
        have HR := Lib.hid (show lookI l nm = (k : Int) by unfold lookI; rw [hlk])
        subst e
        have z : (nm.toList == nm.toList) = true := beq_self_eq_true _
        clear hlk
        go_wp2_with fail
        go_ret
        rw [HR.out]
        exact ⟨rfl, HB.out⟩
      · rw [if_neg e] at hlk
        have z : (s.toList == nm.toList) = false := str_ne (fun x => e x.symm)
        have HLK := Lib.hid hlk
        clear hlk e
        go_wp2_with fail
        go_roundw
        case rel => exact ⟨j, by go_num, by omega, HLK.out, trivial⟩
        case measure => simp [intOf] <;> omega
end Go.Proofs.Ytbpaiocbgbpiaaa

namespace Go.Proofs.Ytbpaiocbgbpiaaa
open Go.RowKit
set_option linter.unusedVariables false
set_option linter.unusedSimpArgs false

/-- 'append' to an empty literal: nothing that was there is written. -/
theorem run_append_lit {P : Program} {w : World} {lo : Nat} {e : TypeId} {size g : Nat} (t ty : TypeId) {z : Value} {bytes : Nat} (ht : P.underlying t = some (.slice e)) (hinfo : (P.info? e).map (fun i => (i.zero, i.size, i.bytes)) = some (some z, size, bytes)) (hzs : z.cells.size = size) (hsz : 0 < size)
    (hg : lo ≤ g) (hgc : ∃ c, w.heap[g]? = some (.cells c e (0, 0))) (hlo : lo ≤ w.heap.size) {x : Value} {m : Nat} {news : List Value} (hx : RowA w size x m news) (hu : ∀ u ∈ news, u.oneCell' = true) (h63 : m ≤ maxLen) (hbytes : m * bytes ≤ 140737488355328) :
    ∃ A c w', (Builtin.append_ #[t, t] ty #[.slice (some ⟨g, 0, none⟩) 0 0, x]).run P w = .ok (.slice A m c) w' ∧ OwnZ w' lo e size (.slice A m c) m news ∧ Below w.heap.size w w' := by
  obtain ⟨i0, hi, hz0, hz1, hz2⟩ := info_parts hinfo
  obtain ⟨hl, A, c, rfl, hA, hnc, hcells⟩ := hx
  obtain ⟨cg, hcg⟩ := hgc
  by_cases hm : m = 0
  · subst hm
    have hle : news = [] := List.eq_nil_of_length_eq_zero (by omega)
    subst hle
    refine ⟨some ⟨g, 0, none⟩, 0, w, ?_, .inr ⟨rfl, rfl, g, cg, rfl, hg, hcg⟩, Below.refl _ _⟩
    cases A with
    | none => exact run_append_nothing w t t ty e i0 ht hi _ 0 0 (Nat.le_refl _) _ (Src.ofNil w ht c)
    | some a => exact run_append_nothing w t t ty e i0 ht hi _ 0 0 (Nat.le_refl _) _ (Src.ofSlice w ht a 0 c [] (by simp) (fun j u hj => by simp at hj) (fun u hu => by cases hu))
  · cases A with
    | none => exact absurd (hA rfl).1 hm
    | some a =>
      obtain ⟨v', w', hr, h2, h3⟩ := run_append_arg_grows (P := P) w t ty e i0 z size bytes ht hi hz0 hz1 hz2 hzs hsz ⟨g, 0, none⟩ 0 0 [] (by simp) (fun j u hj => by simp at hj) a m c news hl (hcells a rfl) (by omega) (by omega) (by rw [Nat.zero_add]; exact hbytes)
      rw [Nat.zero_add, List.nil_append] at h2
      obtain ⟨A', c', rfl⟩ := own_shape h2
      exact ⟨A', c', w', hr, .inl (own_more h2 hlo), ⟨h3.os, h3.tape, h3.output, h3.size, fun k hk => h3.block k hk (by simp)⟩⟩
/-- 'append' of elements that lie anywhere, to a row of one's own or an empty literal. -/
theorem run_append_el {P : Program} {w : World} {lo : Nat} {e : TypeId} {size : Nat} {v : Value} {n : Nat} {xs : List Value} (t ty : TypeId) {z : Value} {bytes : Nat} (ht : P.underlying t = some (.slice e)) (hinfo : (P.info? e).map (fun i => (i.zero, i.size, i.bytes)) = some (some z, size, bytes)) (hzs : z.cells.size = size) (hsz : 0 < size)
    (hown : OwnZ w lo e size v n xs) {ad : Addr} {m c : Nat} {news : List Value} (hl : news.length = m * size) (hnews : ∀ j u, news[j]? = some u → w.cell? (ad.add j) = some u) (hm0 : 0 < m) (hu : ∀ u ∈ news, u.oneCell' = true)
    (h63 : n + m ≤ maxLen) (hbytes : (n + m) * bytes ≤ 140737488355328) (hlo : lo ≤ w.heap.size) :
    ∃ g cap w', (Builtin.append_ #[t, t] ty #[v, .slice (some ad) m c]).run P w = .ok (.slice (some ⟨g, 0, none⟩) (n + m) cap) w' ∧
      w'.ownsRow lo e size (.slice (some ⟨g, 0, none⟩) (n + m) cap) (n + m) (xs ++ news) ∧ w.grownBy w' v.ownBlock ∧ (v.ownBlock = some g ∨ w.heap.size ≤ g) := by
  obtain ⟨i0, hi, hz0, hz1, hz2⟩ := info_parts hinfo
  rcases hown with h | ⟨rfl, rfl, g0, c0, rfl, hl0, hc⟩
  · obtain ⟨v', w', hr, h2, h3, _, h5⟩ := run_append_own_at (P := P) w lo t ty e i0 z size bytes ht hi hz0 hz1 hz2 hzs hsz v n xs h ad m c news hl hnews hu h63 hbytes hlo
    obtain ⟨g, cap, rfl, _, hlt⟩ := h2.form (by omega)
    refine ⟨g, cap, w', hr, h2, h3, ?_⟩
    rcases h5 with h5 | h5
    · exact .inl (by rw [← h5]; rfl)
    · right
      have : g = w.heap.size := by simpa [Value.ownBlock] using h5
      omega
  · obtain ⟨v', w', hr, h2, h3⟩ := run_append_arg_grows (P := P) w t ty e i0 z size bytes ht hi hz0 hz1 hz2 hzs hsz ⟨g0, 0, none⟩ 0 0 [] (by simp) (fun j u hj => by simp at hj) ad m c news hl hnews (by omega) h63 hbytes
    obtain ⟨g, cap, rfl, hb, hlt⟩ := h2.form (by omega)
    refine ⟨g, cap, w', hr, own_more h2 hlo, ⟨h3.os, h3.tape, h3.output, h3.size, fun k hk _ => h3.block k hk (by simp)⟩, .inr hb⟩
section
variable {P : Program} {w : World} {ops : Array Oper} {o : Oper} {a : Act} {K : Act → World → Prop} {Q : Exit → Act → World → Prop} {E : Prop}
theorem step_app_lit (t e : TypeId) (s x : Operand) (hgd : o.guard = none) (ho : o.op = .call { callee := .builtin .append, args := #[s, x], argTypes := #[t, t] })
    (lo : Nat) {z : Value} {size bytes : Nat} (ht : P.underlying t = some (.slice e)) (hinfo : (P.info? e).map (fun i => (i.zero, i.size, i.bytes)) = some (some z, size, bytes)) (hzs : z.cells.size = size) (hsz : 0 < size)
    {g : Nat} (hs : a.eval s = .slice (some ⟨g, 0, none⟩) 0 0) (hg : lo ≤ g) (hgc : ∃ c, w.heap[g]? = some (.cells c e (0, 0))) (hlo : lo ≤ w.heap.size) {vx : Value} {m : Nat} {news : List Value} (hx : a.eval x = vx) (hr : RowA w size vx m news) (hu : ∀ u ∈ news, u.oneCell' = true) (h63 : m ≤ maxLen) (hbytes : m * bytes ≤ 140737488355328)
    (h : ∀ A c w', OwnZ w' lo e size (.slice A m c) m news → Below w.heap.size w w' → K (a.put o.dst (.slice A m c)) w') :
    if Region.wanted o (yielded ops a.tmps) = true then Oper.wp P o a w K Q else E := by
  rw [if_pos (by simp [Region.wanted, hgd])]
  obtain ⟨A, c, w', hrun, h2, h3⟩ := run_append_lit (P := P) t o.type ht hinfo hzs hsz hg hgc hlo hr hu h63 hbytes
  unfold Oper.wp execOp
  simp only [ho, resolve, invoke, builtin, Sem.run_bind, Sem.run_pure, Result.andThen_ok, List.map_toArray, List.map_cons, List.map_nil, hs, hx, hrun]
  exact h A c w' h2 h3
theorem step_app_el (t e : TypeId) (s x : Operand) (hgd : o.guard = none) (ho : o.op = .call { callee := .builtin .append, args := #[s, x], argTypes := #[t, t] })
    (lo : Nat) {z : Value} {size bytes : Nat} (ht : P.underlying t = some (.slice e)) (hinfo : (P.info? e).map (fun i => (i.zero, i.size, i.bytes)) = some (some z, size, bytes)) (hzs : z.cells.size = size) (hsz : 0 < size)
    {v : Value} {n : Nat} {xs : List Value} (hs : a.eval s = v) (hown : OwnZ w lo e size v n xs) {ad : Addr} {m c : Nat} {news : List Value} (hx : a.eval x = .slice (some ad) m c) (hl : news.length = m * size) (hnews : ∀ j u, news[j]? = some u → w.cell? (ad.add j) = some u) (hm0 : 0 < m) (hu : ∀ u ∈ news, u.oneCell' = true)
    (h63 : n + m ≤ maxLen) (hbytes : (n + m) * bytes ≤ 140737488355328) (hlo : lo ≤ w.heap.size)
    (h : ∀ g cap w', w'.ownsRow lo e size (.slice (some ⟨g, 0, none⟩) (n + m) cap) (n + m) (xs ++ news) → w.grownBy w' v.ownBlock → (v.ownBlock = some g ∨ w.heap.size ≤ g) → K (a.put o.dst (.slice (some ⟨g, 0, none⟩) (n + m) cap)) w') :
    if Region.wanted o (yielded ops a.tmps) = true then Oper.wp P o a w K Q else E := by
  rw [if_pos (by simp [Region.wanted, hgd])]
  obtain ⟨g, cap, w', hrun, h2, h3, h4⟩ := run_append_el (P := P) (c := c) t o.type ht hinfo hzs hsz hown hl hnews hm0 hu h63 hbytes hlo
  unfold Oper.wp execOp
  simp only [ho, resolve, invoke, builtin, Sem.run_bind, Sem.run_pure, Result.andThen_ok, List.map_toArray, List.map_cons, List.map_nil, hs, hx, hrun]
  exact h g cap w' h2 h3 h4
end
/-! ### the state -/
def frI : Option Nat → Int
  | none => -1
  | some j => (j : Int)
/-- A variable's cells; its array is p. -/
def sl24 (s : SM) (p : Nat) : List Value := [.int .i64 s.val.1, .float .f64 s.val.2.1, .string s.val.2.2, .bool s.given, .int .i64 (p : Int), .int .i64 (frI s.frm)]
def slsV (sl : List SM) (ps : List Nat) : List Value := (sl.zip ps).flatMap fun x => sl24 x.1 x.2
abbrev CallT := (Value × Value) × List (ByteArray × Nat)
structure DF (m : Nat) (vS vGN vGS vC : Value) (ps : List Nat) (gp : List (ByteArray × Nat)) (cp : List CallT) (st : FS) (w : World) : Prop where
  hd : w.heap[m]? = some (.cells #[vS, vGN, vGS, vC, .int .i64 (st.n : Int)] 60 (0, 0))
  pl : ps.length = st.sl.length
  pok : ∀ (i : Nat) (s : SM) (p : Nat), st.sl[i]? = some s → ps[i]? = some p → (p = 0 ∨ p = resA st.sl i) ∧ (s.arr ≠ 0 → p = s.arr)
  sl : OwnZ w 0 93 6 vS st.sl.length (slsV st.sl ps)
  gn : NamesAt w (vGN, vGS) gp
  g : st.gl = lookP gp
  cr : OwnZ w 0 56 2 vC st.ca.length (cp.flatMap fun c => [c.1.1, c.1.2])
  cl : cp.length = st.ca.length
  ce : ∀ (k : Nat) (c : CallT), cp[k]? = some c → NamesAt w c.1 c.2 ∧ st.ca[k]? = some (lookP c.2)
  gb : gp.length ≤ st.sl.length
  cb : ∀ (k : Nat) (c : CallT), cp[k]? = some c → c.2.length ≤ st.sl.length
  lv : ∀ j, vS.ownBlock = some j → m ≤ j
/-- The document's frames mean this. -/
def D (m : Nat) (st : FS) (w : World) : Prop := ∃ vS vGN vGS vC ps gp cp, DF m vS vGN vGS vC ps gp cp st w
/-- A block of the document's kinds that may be written. -/
def DT (m : Nat) (w : World) (j : Nat) : Prop := m ≤ j ∧ ((∃ cs, w.heap[j]? = some (.cells cs 60 (0, 0))) ∨ ∃ cs, w.heap[j]? = some (.cells cs 93 (0, 0)))
theorem DT.trans {m : Nat} {a b c : World} (h : Turn a b (DT m a)) (k : Turn b c (DT m b)) : Turn a c (DT m a) :=
  h.trans k (fun j x => x) fun j hj x => by
    by_cases e : DT m a j
    · exact e
    · refine ⟨x.1, ?_⟩
      rcases x.2 with ⟨cs, x⟩ | ⟨cs, x⟩
      · exact .inl ⟨cs, (h.block j hj e).symm.trans x⟩
      · exact .inr ⟨cs, (h.block j hj e).symm.trans x⟩
/-- The document's state while blocks of other kinds turn. -/
theorem NamesAt.turn {w w' : World} {X : Nat → Prop} {c : Value × Value} {l : List (ByteArray × Nat)} (h : NamesAt w c l) (ht : Turn w w' X) (hX : ∀ j, X j → ¬ ((∃ cs, w.heap[j]? = some (.cells cs 9 (0, 0))) ∨ ∃ cs, w.heap[j]? = some (.cells cs 3 (0, 0)))) : NamesAt w' c l :=
  ⟨h.1.same fun j hj => ht.block j (h.1.lt hj).2 fun x => hX j x (.inl (h.1.obj hj)), h.2.same fun j hj => ht.block j (h.2.lt hj).2 fun x => hX j x (.inr (h.2.obj hj))⟩
theorem DF.turn {m : Nat} {vS vGN vGS vC : Value} {ps : List Nat} {gp : List (ByteArray × Nat)} {cp : List CallT} {st : FS} {w w' : World} {X : Nat → Prop} (h : DF m vS vGN vGS vC ps gp cp st w) (ht : Turn w w' X)
    (hX : ∀ j cs T, X j → w.heap[j]? = some (.cells cs T (0, 0)) → T ≠ 60 ∧ T ≠ 93 ∧ T ≠ 56 ∧ T ≠ 9 ∧ T ≠ 3) : DF m vS vGN vGS vC ps gp cp st w' := by
  have hN : ∀ j, X j → ¬ ((∃ cs, w.heap[j]? = some (.cells cs 9 (0, 0))) ∨ ∃ cs, w.heap[j]? = some (.cells cs 3 (0, 0))) := fun j x hc => by
    rcases hc with ⟨cs, hc⟩ | ⟨cs, hc⟩
    · exact (hX j cs _ x hc).2.2.2.1 rfl
    · exact (hX j cs _ x hc).2.2.2.2 rfl
  refine ⟨(ht.block m (Array.getElem?_eq_some_iff.1 h.hd).1 fun x => (hX m _ _ x h.hd).1 rfl).trans h.hd, h.pl, h.pok, h.sl.same fun j hj => ht.block j (h.sl.lt hj).2 fun x => ?_, h.gn.turn ht hN, h.g, h.cr.same fun j hj => ht.block j (h.cr.lt hj).2 fun x => ?_, h.cl, fun k c hc => ⟨(h.ce k c hc).1.turn ht hN, (h.ce k c hc).2⟩, h.gb, h.cb, h.lv⟩
  · obtain ⟨cs, hc⟩ := h.sl.obj hj
    exact (hX j cs _ x hc).2.1 rfl
  · obtain ⟨cs, hc⟩ := h.cr.obj hj
    exact (hX j cs _ x hc).2.2.1 rfl
theorem DF.below {m : Nat} {vS vGN vGS vC : Value} {ps : List Nat} {gp : List (ByteArray × Nat)} {cp : List CallT} {st : FS} {w w' : World} (h : DF m vS vGN vGS vC ps gp cp st w) (hb : Below w.heap.size w w') : DF m vS vGN vGS vC ps gp cp st w' :=
  h.turn (X := fun _ => False) (Turn.of_below hb _) (fun j cs T x => x.elim)
theorem DF.cells {m : Nat} {vS vGN vGS vC : Value} {ps : List Nat} {gp : List (ByteArray × Nat)} {cp : List CallT} {st : FS} {w : World} (h : DF m vS vGN vGS vC ps gp cp st w) :
    w.cell? ⟨m, 0, none⟩ = some vS ∧ w.cell? ⟨m, 1, none⟩ = some vGN ∧ w.cell? ⟨m, 2, none⟩ = some vGS ∧ w.cell? ⟨m, 3, none⟩ = some vC ∧ w.cell? ⟨m, 4, none⟩ = some (.int .i64 (st.n : Int)) ∧ ∀ j, w.frozen? ⟨m, j, none⟩ = false := by
  have hd := h.hd
  refine ⟨?_, ?_, ?_, ?_, ?_, fun j => frozen_of_row w m j _ _ hd⟩ <;> simp [World.cell?, hd]
theorem sl24_info : (Try.prog.info? 93).map (fun i => (i.zero, i.size, i.bytes)) = some (some (.agg #[.int .i64 0, .float .f64 0, .string ⟨#[]⟩, .bool false, .int .i64 0, .int .i64 0]), 6, 56) := by kernel_rfl
end Go.Proofs.Ytbpaiocbgbpiaaa
