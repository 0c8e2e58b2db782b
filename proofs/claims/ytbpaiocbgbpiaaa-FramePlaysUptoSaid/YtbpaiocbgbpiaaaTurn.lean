/- What turns in memory; rows of the call's own. No program in sight but by its imports. -/
import Derived.Test.YtbpaiocbgbpiaaaProg
import Derived.Test.YtbpaiocbgbpiaaaMem
import Derived.Test.YtbpaiocbgbpiaaaMapF
import Derived.Deep.RegionWith
import Derived.Deep.QuietTactic
import Derived.BigQuiet
import Derived.Deep.RegionHeld3
import Derived.Deep.AppendLies
import Derived.Deep.RegionLaw
import Derived.Lib.Hide
namespace Go.Proofs.Ytbpaiocbgbpiaaa
open Go.RowKit
set_option linter.unusedVariables false

/-! ### what turns -/
/-- Only the blocks of X, and new ones, are other than they were. -/
structure Turn (w w' : World) (X : Nat → Prop) : Prop where
  os : w'.os = w.os
  tape : w'.tape = w.tape
  output : w'.output = w.output
  size : w.heap.size ≤ w'.heap.size
  block : ∀ k, k < w.heap.size → ¬ X k → w'.heap[k]? = w.heap[k]?
theorem Turn.refl (w : World) (X : Nat → Prop) : Turn w w X := ⟨rfl, rfl, rfl, Nat.le_refl _, fun _ _ _ => rfl⟩
theorem Turn.trans {a b c : World} {X Y Z : Nat → Prop} (h : Turn a b X) (k : Turn b c Y) (hX : ∀ j, X j → Z j) (hY : ∀ j, j < a.heap.size → Y j → Z j) : Turn a c Z :=
  ⟨k.os.trans h.os, k.tape.trans h.tape, k.output.trans h.output, Nat.le_trans h.size k.size, fun i hi hn =>
    (k.block i (Nat.lt_of_lt_of_le hi h.size) (fun y => hn (hY i hi y))).trans (h.block i hi (fun x => hn (hX i x)))⟩
theorem Turn.mono {a b : World} {X Y : Nat → Prop} (h : Turn a b X) (hX : ∀ j, X j → Y j) : Turn a b Y := ⟨h.os, h.tape, h.output, h.size, fun i hi hn => h.block i hi (fun x => hn (hX i x))⟩
theorem Turn.of_grown {w w' : World} {r : Option Nat} (h : w.grownBy w' r) : Turn w w' (fun j => r = some j) := ⟨h.os, h.tape, h.output, h.size, fun k hk hn => h.block k hk (fun e => hn e.symm)⟩
theorem Turn.of_below {w w' : World} (h : Below w.heap.size w w') (X : Nat → Prop) : Turn w w' X := ⟨h.os, h.tape, h.output, h.size, fun k hk _ => h.block k hk⟩
theorem Turn.below {B : Nat} {w w' : World} {X : Nat → Prop} (h : Turn w w' X) (hB : B ≤ w.heap.size) (hX : ∀ j, X j → B ≤ j) : Below B w w' :=
  ⟨h.os, h.tape, h.output, h.size, fun k hk => h.block k (by omega) (fun x => by have := hX k x; omega)⟩
theorem Turn.setCell {w w' : World} {X : Nat → Prop} (h : Turn w w' X) (p : Addr) (v : Value) (hp : p.block < w.heap.size → X p.block) : Turn w (w'.setCell p v) X :=
  ⟨h.os, h.tape, h.output, by have := h.size; simp [World.setCell]; exact this, fun k hk hn => by
    rw [heap_setCell_other _ _ _ _ (fun e => hn (by rw [e]; exact hp (by omega)))]; exact h.block k hk hn⟩
theorem Turn.alloc (w : World) (o : Obj) (X : Nat → Prop) : Turn w (w.alloc o) X := (Turn.of_grown (World.grownBy_alloc w o none)).mono (fun j h => by cases h)
theorem Turn.cell {w w' : World} {X : Nat → Prop} (h : Turn w w' X) {p : Addr} {v : Value} (hc : w.cell? p = some v) (hn : ¬ X p.block) : w'.cell? p = some v :=
  (World.cell?_of_block (h.block p.block (lt_of_cell hc) hn)).trans hc

/-! ### rows -/
theorem own_same {w w' : World} {base : Nat} {e : TypeId} {s : Nat} {v : Value} {n : Nat} {xs : List Value} (h : w.ownsRow base e s v n xs) (hk : ∀ j, v.ownBlock = some j → w'.heap[j]? = w.heap[j]?) : w'.ownsRow base e s v n xs := by
  obtain ⟨h1, h2⟩ := h
  refine ⟨h1, ?_⟩
  rcases h2 with h | ⟨g, cap, cur, rfl, r1, r2, r3⟩
  · exact .inl h
  · exact .inr ⟨g, cap, cur, rfl, r1, (hk g rfl).trans r2, r3⟩
theorem own_turn {w w' : World} {X : Nat → Prop} {base : Nat} {e : TypeId} {s : Nat} {v : Value} {n : Nat} {xs : List Value} (h : w.ownsRow base e s v n xs) (ht : Turn w w' X) (hk : ∀ j, v.ownBlock = some j → ¬ X j) : w'.ownsRow base e s v n xs :=
  own_same h (fun j hj => ht.block j (h.lt j hj).2 (hk j hj))
theorem own_obj {w : World} {base : Nat} {e : TypeId} {s : Nat} {v : Value} {n : Nat} {xs : List Value} (h : w.ownsRow base e s v n xs) {j : Nat} (hj : v.ownBlock = some j) : ∃ c, w.heap[j]? = some (.cells c e (0, 0)) := by
  rcases h.2 with ⟨rfl, _⟩ | ⟨g, cap, cur, rfl, r1, r2, r3⟩
  · cases hj
  · cases hj; exact ⟨cur, r2⟩
theorem own_more {w : World} {base base' : Nat} {e : TypeId} {s : Nat} {v : Value} {n : Nat} {xs : List Value} (h : w.ownsRow base e s v n xs) (hb : base' ≤ base) : w.ownsRow base' e s v n xs := by
  obtain ⟨h1, h2⟩ := h
  refine ⟨h1, ?_⟩
  rcases h2 with h | ⟨g, cap, cur, rfl, r1, r2⟩
  · exact .inl h
  · exact .inr ⟨g, cap, cur, rfl, Nat.le_trans hb r1, r2⟩
theorem own_none {w : World} (base : Nat) (e : TypeId) (s : Nat) : w.ownsRow base e s (.slice none 0 0) 0 [] := ⟨by simp, .inl ⟨rfl, rfl⟩⟩
theorem own_shape {w : World} {base : Nat} {e : TypeId} {s : Nat} {v : Value} {n : Nat} {xs : List Value} (h : w.ownsRow base e s v n xs) : ∃ A c, v = .slice A n c := by
  rcases h.2 with ⟨rfl, rfl⟩ | ⟨g, cap, cur, rfl, _⟩
  · exact ⟨_, _, rfl⟩
  · exact ⟨_, _, rfl⟩
theorem cell_news (w : World) (xs : Array Value) (t : TypeId) : ∀ j u, xs.toList[j]? = some u → (w.alloc (.cells xs t)).cell? ((⟨w.heap.size, 0, none⟩ : Addr).add j) = some u := by
  intro j u hj
  rw [Array.getElem?_toList] at hj
  have e : ((⟨w.heap.size, 0, none⟩ : Addr).add j) = ⟨w.heap.size, j, none⟩ := by unfold Addr.add; split <;> simp_all
  rw [e, World.cell?_alloc_new]
  exact hj
/-- 'append' of elements that lie in a new block, whatever an element's size. -/
theorem wpList_appendS {P : Program} {w : World} {ops : Array Oper} {rest : List Oper} {o : Oper} {a : Act} {Q : Exit → Act → World → Prop} (t e : TypeId) (s x : Operand) (hgd : o.guard = none)
    (ho : o.op = .call { callee := .builtin .append, args := #[s, x], argTypes := #[t, t] })
    (base : Nat) {z : Value} {size bytes : Nat} (ht : P.underlying t = some (.slice e)) (hinfo : (P.info? e).map (fun i => (i.zero, i.size, i.bytes)) = some (some z, size, bytes)) (hzs : z.cells.size = size) (hsz : 0 < size)
    {v : Value} {us : Array Value} {n m : Nat} {xs : List Value} (hs : a.eval s = v) (hown : w.ownsRow base e size v n xs)
    {B : Nat} (hx : a.eval x = .slice (some ⟨B, 0, none⟩) m m) (hB : w.heap.size = B) (hm : us.size = m * size) (hu : ∀ u ∈ us.toList, u.oneCell' = true)
    (h63 : n + m ≤ maxLen) (hbytes : (n + m) * bytes ≤ 140737488355328) (hbase : base ≤ w.heap.size)
    (h : ∀ v' w', w'.ownsRow base e size v' (n + m) (xs ++ us.toList) → w.grownBy w' v.ownBlock → (v'.ownBlock = v.ownBlock ∨ v'.ownBlock = some (B + 1)) → wpList P ops Q rest (a.put o.dst v') w') :
    wpList P ops Q (o :: rest) a (w.alloc (.cells us e)) := by
  subst hB
  obtain ⟨i0, hi, hz0, hz1, hz2⟩ := info_parts hinfo
  refine wpList_append_own_at _ hgd s x t ho base e i0 z size bytes ht hi hz0 hz1 hz2 hzs hsz v n xs hs (hown.alloc _) ⟨w.heap.size, 0, none⟩ m m us.toList hx (by simpa using hm) (cell_news w us e) hu h63 hbytes (by simp; omega) ?_
  intro v' w' h1 h2 _ h4
  refine h v' w' h1 ((World.grownBy_alloc w _ _).trans h2) (by simpa using h4)

/-- A slice's cells, wherever they lie: below block B. -/
def RowC (w : World) (B : Nat) (size : Nat) (v : Value) (n : Nat) (xs : List Value) : Prop :=
  xs.length = n * size ∧ ∃ A c, v = .slice A n c ∧ (A = none → n = 0 ∧ c = 0) ∧ n ≤ c ∧ ∀ a, A = some a → ∃ b off, a = ⟨b, off, none⟩ ∧ b < B ∧ ∀ j u, xs[j]? = some u → w.cell? ⟨b, off + j, none⟩ = some u
theorem RowC.of_own {w : World} {base : Nat} {e : TypeId} {s : Nat} {v : Value} {n : Nat} {xs : List Value} (h : w.ownsRow base e s v n xs) : RowC w w.heap.size s v n xs := by
  refine ⟨h.1, ?_⟩
  rcases id h.2 with ⟨rfl, rfl⟩ | ⟨g, cap, cur, rfl, r1, r2, r3, r4⟩
  · exact ⟨none, 0, rfl, fun _ => ⟨rfl, rfl⟩, Nat.le_refl _, fun a e => by cases e⟩
  · refine ⟨some ⟨g, 0, none⟩, cap, rfl, (fun e => by cases e), r3, fun a e => ?_⟩
    cases e
    refine ⟨g, 0, rfl, (Array.getElem?_eq_some_iff.1 r2).1, fun j u hj => ?_⟩
    have hl : j < n * s := by
      rw [← h.1]
      rcases Nat.lt_or_ge j xs.length with h2 | h2
      · exact h2
      · rw [List.getElem?_eq_none h2] at hj; cases hj
    rw [Nat.zero_add, h.cellAt j hl, hj]
theorem RowC.same {w w' : World} {B s : Nat} {v : Value} {n : Nat} {xs : List Value} (h : RowC w B s v n xs) (hc : ∀ A c b off, v = .slice A n c → A = some ⟨b, off, none⟩ → w'.heap[b]? = w.heap[b]?) : RowC w' B s v n xs := by
  obtain ⟨h1, A, c, rfl, h2, h3, h4⟩ := h
  refine ⟨h1, A, c, rfl, h2, h3, fun a e => ?_⟩
  obtain ⟨b, off, rfl, hb, hj⟩ := h4 a e
  exact ⟨b, off, rfl, hb, fun j u hu => (World.cell?_of_block (hc A c b off rfl e)).trans (hj j u hu)⟩
theorem RowC.below {w w' : World} {B s : Nat} {v : Value} {n : Nat} {xs : List Value} (h : RowC w B s v n xs) (hb : Below B w w') : RowC w' B s v n xs := by
  refine h.same fun A c b off e1 e2 => ?_
  obtain ⟨h1, A', c', e', h2, h3, h4⟩ := h
  rw [e1] at e'
  cases e'
  obtain ⟨b', off', e, hb', _⟩ := h4 _ e2
  cases e
  exact hb.block b hb'
theorem RowC.more {w : World} {B B' s : Nat} {v : Value} {n : Nat} {xs : List Value} (h : RowC w B s v n xs) (hB : B ≤ B') : RowC w B' s v n xs := by
  obtain ⟨h1, A, c, rfl, h2, h3, h4⟩ := h
  refine ⟨h1, A, c, rfl, h2, h3, fun a e => ?_⟩
  obtain ⟨b, off, rfl, hb, hj⟩ := h4 a e
  exact ⟨b, off, rfl, Nat.lt_of_lt_of_le hb hB, hj⟩
theorem addr_add (b off j : Nat) : (⟨b, off, none⟩ : Addr).add j = ⟨b, off + j, none⟩ := by
  unfold Addr.add; split <;> simp_all

/-- A row of the call's own, or an empty slice that has no room. -/
def OwnZ (w : World) (lo : Nat) (e : TypeId) (size : Nat) (v : Value) (n : Nat) (xs : List Value) : Prop :=
  w.ownsRow lo e size v n xs ∨ (n = 0 ∧ xs = [] ∧ ∃ g c, v = .slice (some ⟨g, 0, none⟩) 0 0 ∧ lo ≤ g ∧ w.heap[g]? = some (.cells c e (0, 0)))
section
variable {w w' : World} {lo : Nat} {e : TypeId} {size : Nat} {v : Value} {n : Nat} {xs : List Value}
theorem OwnZ.obj (h : OwnZ w lo e size v n xs) {j : Nat} (hj : v.ownBlock = some j) : ∃ c, w.heap[j]? = some (.cells c e (0, 0)) := by
  rcases h with h | ⟨_, _, g, c, rfl, _, hc⟩
  · exact own_obj h hj
  · cases hj; exact ⟨c, hc⟩
theorem OwnZ.lt (h : OwnZ w lo e size v n xs) {j : Nat} (hj : v.ownBlock = some j) : lo ≤ j ∧ j < w.heap.size := by
  rcases h with h | ⟨_, _, g, c, rfl, hl, hc⟩
  · exact h.lt j hj
  · cases hj; exact ⟨hl, (Array.getElem?_eq_some_iff.1 hc).1⟩
theorem OwnZ.same (h : OwnZ w lo e size v n xs) (hk : ∀ j, v.ownBlock = some j → w'.heap[j]? = w.heap[j]?) : OwnZ w' lo e size v n xs := by
  rcases h with h | ⟨h1, h2, g, c, rfl, hl, hc⟩
  · exact .inl (own_same h hk)
  · exact .inr ⟨h1, h2, g, c, rfl, hl, (hk g rfl).trans hc⟩
theorem OwnZ.shape (h : OwnZ w lo e size v n xs) : ∃ A c, v = .slice A n c := by
  rcases h with h | ⟨h1, h2, g, c, rfl, hl, hc⟩
  · exact own_shape h
  · exact ⟨_, _, by rw [h1]⟩
theorem OwnZ.len (h : OwnZ w lo e size v n xs) : xs.length = n * size := by
  rcases h with h | ⟨h1, h2, _⟩
  · exact h.1
  · rw [h1, h2]; simp
theorem OwnZ.rowC (h : OwnZ w lo e size v n xs) : RowC w w.heap.size size v n xs := by
  rcases h with h | ⟨rfl, rfl, g, c, rfl, hl, hc⟩
  · exact RowC.of_own h
  · refine ⟨by simp, some ⟨g, 0, none⟩, 0, rfl, (fun e => by cases e), Nat.le_refl _, fun a e => ?_⟩
    cases e
    exact ⟨g, 0, rfl, (Array.getElem?_eq_some_iff.1 hc).1, fun j u hj => by simp at hj⟩
/-- 'append' to such a row, of elements that lie in a new block. -/
theorem run_appendZ {P : Program} (t ty : TypeId) {z : Value} {bytes : Nat} (ht : P.underlying t = some (.slice e)) (hinfo : (P.info? e).map (fun i => (i.zero, i.size, i.bytes)) = some (some z, size, bytes)) (hzs : z.cells.size = size) (hsz : 0 < size)
    (hown : OwnZ w lo e size v n xs) {us : Array Value} {m : Nat} (hm : us.size = m * size) (hm0 : 0 < m) (hu : ∀ u ∈ us.toList, u.oneCell' = true)
    (h63 : n + m ≤ maxLen) (hbytes : (n + m) * bytes ≤ 140737488355328) (hlo : lo ≤ w.heap.size) :
    ∃ g cap w', (Builtin.append_ #[t, t] ty #[v, .slice (some ⟨w.heap.size, 0, none⟩) m m]).run P (w.alloc (.cells us e)) = .ok (.slice (some ⟨g, 0, none⟩) (n + m) cap) w' ∧
      w'.ownsRow lo e size (.slice (some ⟨g, 0, none⟩) (n + m) cap) (n + m) (xs ++ us.toList) ∧ w.grownBy w' v.ownBlock ∧ (v.ownBlock = some g ∨ w.heap.size ≤ g) := by
  obtain ⟨i0, hi, hz0, hz1, hz2⟩ := info_parts hinfo
  rcases hown with h | ⟨rfl, rfl, g0, c0, rfl, hl, hc⟩
  · obtain ⟨v', w', hr, h2, h3, _, h5⟩ := run_append_own_at (P := P) (w.alloc (.cells us e)) lo t ty e i0 z size bytes ht hi hz0 hz1 hz2 hzs hsz v n xs (h.alloc _) ⟨w.heap.size, 0, none⟩ m m us.toList (by simpa using hm) (cell_news w us e) hu h63 hbytes (by simp; omega)
    obtain ⟨g, cap, rfl, _, hlt⟩ := h2.form (by omega)
    refine ⟨g, cap, w', hr, h2, (World.grownBy_alloc w _ _).trans h3, ?_⟩
    rcases h5 with h5 | h5
    · exact .inl (by rw [← h5]; rfl)
    · right
      have : g = w.heap.size + 1 := by simpa [Value.ownBlock] using h5
      omega
  · obtain ⟨v', w', hr, h2, h3⟩ := run_append_arg_grows (P := P) (w.alloc (.cells us e)) t ty e i0 z size bytes ht hi hz0 hz1 hz2 hzs hsz ⟨g0, 0, none⟩ 0 0 [] (by simp) (fun j u hj => by simp at hj) ⟨w.heap.size, 0, none⟩ m m us.toList (by simpa using hm) (cell_news w us e) (by omega) h63 hbytes
    obtain ⟨g, cap, rfl, hb, hlt⟩ := h2.form (by omega)
    have hg2 := (World.grownBy_alloc w (.cells us e) none).trans h3
    simp at hb
    refine ⟨g, cap, w', hr, own_more h2 (by simp; omega), ⟨hg2.os, hg2.tape, hg2.output, hg2.size, fun k hk _ => hg2.block k hk (by simp)⟩, .inr (by omega)⟩
end
theorem wpList_appendZ {P : Program} {w : World} {ops : Array Oper} {rest : List Oper} {o : Oper} {a : Act} {Q : Exit → Act → World → Prop} (t e : TypeId) (s x : Operand) (hgd : o.guard = none)
    (ho : o.op = .call { callee := .builtin .append, args := #[s, x], argTypes := #[t, t] })
    (lo : Nat) {z : Value} {size bytes : Nat} (ht : P.underlying t = some (.slice e)) (hinfo : (P.info? e).map (fun i => (i.zero, i.size, i.bytes)) = some (some z, size, bytes)) (hzs : z.cells.size = size) (hsz : 0 < size)
    {v : Value} {us : Array Value} {n m : Nat} {xs : List Value} (hs : a.eval s = v) (hown : OwnZ w lo e size v n xs)
    {B : Nat} (hx : a.eval x = .slice (some ⟨B, 0, none⟩) m m) (hB : w.heap.size = B) (hm : us.size = m * size) (hm0 : 0 < m) (hu : ∀ u ∈ us.toList, u.oneCell' = true)
    (h63 : n + m ≤ maxLen) (hbytes : (n + m) * bytes ≤ 140737488355328) (hlo : lo ≤ w.heap.size)
    (h : ∀ g cap w', w'.ownsRow lo e size (.slice (some ⟨g, 0, none⟩) (n + m) cap) (n + m) (xs ++ us.toList) → w.grownBy w' v.ownBlock → (v.ownBlock = some g ∨ w.heap.size ≤ g) → wpList P ops Q rest (a.put o.dst (.slice (some ⟨g, 0, none⟩) (n + m) cap)) w') :
    wpList P ops Q (o :: rest) a (w.alloc (.cells us e)) := by
  subst hB
  refine wpList_plain hgd fun K hK => ?_
  obtain ⟨g, cap, w', hr, h2, h3, h4⟩ := run_appendZ (P := P) t o.type ht hinfo hzs hsz hown hm hm0 hu h63 hbytes hlo
  unfold Oper.wp execOp
  simp only [ho, resolve, invoke, builtin, Sem.run_bind, Sem.run_pure, Result.andThen_ok, List.map_toArray, List.map_cons, List.map_nil, hs, hx, hr]
  exact hK _ _ (h g cap w' h2 h3 h4)
theorem step_appendZ {P : Program} {w : World} {ops : Array Oper} {o : Oper} {a : Act} {K : Act → World → Prop} {Q : Exit → Act → World → Prop} {E : Prop} (t e : TypeId) (s x : Operand) (hgd : o.guard = none)
    (ho : o.op = .call { callee := .builtin .append, args := #[s, x], argTypes := #[t, t] })
    (lo : Nat) {z : Value} {size bytes : Nat} (ht : P.underlying t = some (.slice e)) (hinfo : (P.info? e).map (fun i => (i.zero, i.size, i.bytes)) = some (some z, size, bytes)) (hzs : z.cells.size = size) (hsz : 0 < size)
    {v : Value} {us : Array Value} {n m : Nat} {xs : List Value} (hs : a.eval s = v) (hown : OwnZ w lo e size v n xs)
    {B : Nat} (hx : a.eval x = .slice (some ⟨B, 0, none⟩) m m) (hB : w.heap.size = B) (hm : us.size = m * size) (hm0 : 0 < m) (hu : ∀ u ∈ us.toList, u.oneCell' = true)
    (h63 : n + m ≤ maxLen) (hbytes : (n + m) * bytes ≤ 140737488355328) (hlo : lo ≤ w.heap.size)
    (h : ∀ g cap w', w'.ownsRow lo e size (.slice (some ⟨g, 0, none⟩) (n + m) cap) (n + m) (xs ++ us.toList) → w.grownBy w' v.ownBlock → (v.ownBlock = some g ∨ w.heap.size ≤ g) → K (a.put o.dst (.slice (some ⟨g, 0, none⟩) (n + m) cap)) w') :
    if Region.wanted o (yielded ops a.tmps) = true then Oper.wp P o a (w.alloc (.cells us e)) K Q else E := by
  subst hB
  rw [if_pos (by simp [Region.wanted, hgd])]
  obtain ⟨g, cap, w', hr, h2, h3, h4⟩ := run_appendZ (P := P) t o.type ht hinfo hzs hsz hown hm hm0 hu h63 hbytes hlo
  unfold Oper.wp execOp
  simp only [ho, resolve, invoke, builtin, Sem.run_bind, Sem.run_pure, Result.andThen_ok, List.map_toArray, List.map_cons, List.map_nil, hs, hx, hr]
  exact h g cap w' h2 h3 h4

end Go.Proofs.Ytbpaiocbgbpiaaa
