/- Rows of one's own by 'append'; blocks told apart by a colour. -/
import Derived.Test.YtpklbdgajbfaiaaNoB
import Derived.Deep.AppendLies
import Derived.Deep.Upon
namespace Go.Proofs.Ytpklbdgajbfaiaa
open Go.RowKit
set_option linter.unusedVariables false

/-- A row that reads so, wherever it lies. -/
def RowA (w : World) (size : Nat) (v : Value) (n : Nat) (xs : List Value) : Prop :=
  xs.length = n * size ∧ ∃ A c, v = .slice A n c ∧ (A = none → n = 0 ∧ c = 0) ∧ n ≤ c ∧ ∀ a, A = some a → ∀ j u, xs[j]? = some u → w.cell? (a.add j) = some u
theorem run_appendA {P : Program} {w : World} {base : Nat} {e : TypeId} {size : Nat} {v : Value} {n : Nat} {xs : List Value} (t ty : TypeId) {z : Value} {bytes : Nat} (ht : P.underlying t = some (.slice e)) (hinfo : (P.info? e).map (fun i => (i.zero, i.size, i.bytes)) = some (some z, size, bytes)) (hzs : z.cells.size = size) (hsz : 0 < size)
    (hown : w.ownsRow base e size v n xs) {x : Value} {m : Nat} {news : List Value} (hx : RowA w size x m news) (hu : ∀ u ∈ news, u.oneCell' = true) (h63 : n + m ≤ maxLen) (hbytes : (n + m) * bytes ≤ 140737488355328) (hbase : base ≤ w.heap.size) :
    ∃ v' w', (Builtin.append_ #[t, t] ty #[v, x]).run P w = .ok v' w' ∧ w'.ownsRow base e size v' (n + m) (xs ++ news) ∧ w.grownBy w' v.ownBlock ∧ (v'.ownBlock = v.ownBlock ∨ v'.ownBlock = some w.heap.size) := by
  obtain ⟨i0, hi, hz0, hz1, hz2⟩ := info_parts hinfo
  obtain ⟨hl, A, c, rfl, hA, hnc, hcells⟩ := hx
  cases A with
  | none =>
    obtain ⟨rfl, rfl⟩ := hA rfl
    have hle : news = [] := List.eq_nil_of_length_eq_zero (by omega)
    subst hle
    have key : ∃ b sLen sCap, v = .slice b sLen sCap ∧ sLen ≤ sCap := by
      rcases hown.2 with ⟨rfl, rfl⟩ | ⟨g, cap, cur, rfl, _, _, h3, _⟩
      · exact ⟨_, _, _, rfl, Nat.le_refl _⟩
      · exact ⟨_, _, _, rfl, h3⟩
    obtain ⟨b, sLen, sCap, rfl, hsc⟩ := key
    refine ⟨.slice b sLen sCap, w, run_append_nothing w t t ty e i0 ht hi b sLen sCap hsc _ (Src.ofNil w ht 0), ?_, ⟨rfl, rfl, rfl, Nat.le_refl _, fun _ _ _ => rfl⟩, .inl rfl⟩
    rw [Nat.add_zero, List.append_nil]
    exact hown
  | some a =>
    obtain ⟨v', w', hr, h2, h3, _, h5⟩ := run_append_own_at (P := P) w base t ty e i0 z size bytes ht hi hz0 hz1 hz2 hzs hsz v n xs hown a m c news hl (hcells a rfl) hu h63 hbytes hbase
    exact ⟨v', w', hr, h2, h3, h5⟩
theorem own_litB (w : World) (us : Array Value) (e : TypeId) (s n B base : Nat) (hB : w.heap.size = B) (hb : base ≤ B) (hm : n ≤ maxLen) (hs : us.size = n * s) : (w.alloc (.cells us e)).ownsRow base e s (.slice (some ⟨B, 0, none⟩) n n) n us.toList := by
  subst hB
  exact World.ownsRow_lit w us n hb hm hs
theorem rwA {w : World} {B : Nat} {A : Option Addr} {l : List Nat} {n c : Nat} (hn : n = l.length) (h : Rw .u32 w B A l) (hA : A = none → n = 0 ∧ c = 0) (hc : n ≤ c) : RowA w 1 (.slice A n c) n (cellsN .u32 l) := by
  subst hn
  refine ⟨by rw [cellsN_len]; omega, A, c, rfl, hA, hc, fun a e j u hj => ?_⟩
  have hjl : j < l.length := by have := (List.getElem?_eq_some_iff.1 hj).1; rw [cellsN_len] at this; exact this
  obtain ⟨b, off, e2, _, h2⟩ := h.at_ hjl
  rw [e] at e2
  cases e2
  rw [cellsN_at hjl] at hj
  cases hj
  rw [addr_add]
  exact h2
theorem cellsN_one (l : List Nat) : ∀ u ∈ cellsN .u32 l, u.oneCell' = true := fun u hu => by
  obtain ⟨z, _, rfl⟩ := List.mem_map.1 hu; rfl
/-- 'append' of a row to an empty literal. -/
theorem wpList_law1 {w : World} {ops : Array Oper} {rest : List Oper} {o : Oper} {a : Act} {Q : Exit → Act → World → Prop} (s x : Operand) (hgd : o.guard = none)
    (ho : o.op = .call { callee := .builtin .append, args := #[s, x], argTypes := #[22, 22] })
    {A : Option Addr} {n c : Nat} {l : List Nat} {B : Nat} (hs : a.eval s = .slice (some ⟨B, 0, none⟩) 0 0) (hB : w.heap.size = B) (hx : a.eval x = .slice A n c) (hn : n = l.length) (hr : Rw .u32 w w.heap.size A l) (hA : A = none → n = 0 ∧ c = 0) (hc : n ≤ c) (hl : n ≤ 1000)
    (h : ∀ A' c' w', w'.ownsRow w.heap.size 24 1 (.slice A' n c') n (cellsN .u32 l) → Below w.heap.size w w' → wpList Try.prog ops Q rest (a.put o.dst (.slice A' n c')) w') :
    wpList Try.prog ops Q (o :: rest) a (w.alloc (.cells #[] 24)) := by
  subst hB
  refine wpList_plain hgd fun K hK => ?_
  have hal : Below w.heap.size w (w.alloc (.cells #[] 24)) := (Below.refl _ w).alloc (Nat.le_refl _) _
  obtain ⟨v', w', hrun, h2, h3, h4⟩ := run_appendA (P := Try.prog) (w := w.alloc (.cells #[] 24)) 22 o.type Try.underlying22 uint_info rfl (by decide) (own_litB w #[] 24 1 0 _ w.heap.size rfl (Nat.le_refl _) (by unfold maxLen; omega) rfl) (rwA hn (hr.below hal) hA hc) (cellsN_one l) (by unfold maxLen; omega) (by omega) (by simp)
  obtain ⟨A', c', rfl⟩ := own_shape h2
  unfold Oper.wp execOp
  simp only [ho, resolve, invoke, builtin, Sem.run_bind, Sem.run_pure, Result.andThen_ok, List.map_toArray, List.map_cons, List.map_nil, hs, hx, hrun]
  rw [Nat.zero_add, List.nil_append] at h2
  rw [Nat.zero_add]
  exact hK _ _ (h A' c' w' h2 (hal.grown h3 (by simp) (fun k e => by cases e; exact Nat.le_refl _)))
/-- 'append' of a literal to a row of one's own. -/
theorem wpList_law2 {w : World} {ops : Array Oper} {rest : List Oper} {o : Oper} {a : Act} {Q : Exit → Act → World → Prop} (s x : Operand) (hgd : o.guard = none)
    (ho : o.op = .call { callee := .builtin .append, args := #[s, x], argTypes := #[22, 22] })
    {v : Value} {n base : Nat} {l : List Nat} {B : Nat} (x1 x2 : Nat) (hs : a.eval s = v) (hown : w.ownsRow base 24 1 v n (cellsN .u32 l)) (hbase : base ≤ w.heap.size) (hx : a.eval x = .slice (some ⟨B, 0, none⟩) 2 2) (hB : w.heap.size = B) (hl : n ≤ 1000)
    (h : ∀ g c' w', w'.ownsRow base 24 1 (.slice (some ⟨g, 0, none⟩) (n + 2) c') (n + 2) (cellsN .u32 (l ++ [x1, x2])) → Below base w w' → wpList Try.prog ops Q rest (a.put o.dst (.slice (some ⟨g, 0, none⟩) (n + 2) c')) w') :
    wpList Try.prog ops Q (o :: rest) a (w.alloc (.cells #[.int .u32 (x1 : Int), .int .u32 (x2 : Int)] 24)) := by
  subst hB
  refine wpList_appendZ 22 24 s x hgd ho base Try.underlying22 uint_info rfl (by decide) hs (.inl hown) hx rfl (by rfl) (by decide) (by intro u hu; simp at hu; rcases hu with rfl | rfl <;> rfl) (by unfold maxLen; omega) (by omega) hbase ?_
  intro g cap w' h1 h2 _
  refine h g cap w' ?_ ((Turn.of_grown h2).below hbase fun j e => (hown.lt j e).1)
  have e : cellsN .u32 (l ++ [x1, x2]) = cellsN .u32 l ++ #[Value.int .u32 (x1 : Int), .int .u32 (x2 : Int)].toList := by simp [cellsN]
  rw [e]
  exact h1
/-! ### colours -/
/-- Six answers, each in blocks of its own colour. -/
def Six (lo : Nat) (col : Nat → Nat) (w : World) (A : Nat → Option Addr) (n c : Nat → Nat) (L : Nat → List Nat) : Prop :=
  ∀ k, k < 6 → Fr lo w (A k) (c k) (L k) ∧ (L k).length = n k ∧ n k ≤ 256 ∧ ∀ g, A k = some ⟨g, 0, none⟩ → 0 < c k → col g = k
theorem six_of {w : World} {b0 b1 b2 b3 m b5 : Nat} {A0 A1 A2 A3 A4 A5 : Option Addr} {c0 c1 c2 c3 c4 c5 : Nat} {l0 l1 l2 l3 l4 l5 : List Nat}
    (f0 : Fr b0 w A0 c0 l0) (f1 : Fr b1 w A1 c1 l1) (f2 : Fr b2 w A2 c2 l2) (f3 : Fr b3 w A3 c3 l3) (f4 : Fr m w A4 c4 l4) (f5 : Fr b5 w A5 c5 l5)
    (u0 : ∀ p, A0 = some p → 0 < c0 → p.block < b1) (u1 : ∀ p, A1 = some p → 0 < c1 → p.block < b2) (u2 : ∀ p, A2 = some p → 0 < c2 → p.block < b3) (u3 : ∀ p, A3 = some p → 0 < c3 → p.block < m) (u4 : ∀ p, A4 = some p → 0 < c4 → p.block < b5) (u5 : ∀ p, A5 = some p → 0 < c5 → p.block < w.heap.size)
    (s0 : b0 ≤ b1) (s1 : b1 ≤ b2) (s2 : b2 ≤ b3) (s3 : b3 ≤ m) (s4 : m ≤ b5) (s5 : b5 ≤ w.heap.size)
    (n0 : l0.length ≤ 256) (n1 : l1.length ≤ 256) (n2 : l2.length ≤ 256) (n3 : l3.length ≤ 256) (n4 : l4.length ≤ 256) (n5 : l5.length ≤ 256) :
    ∃ (col : Nat → Nat) (A : Nat → Option Addr) (n c : Nat → Nat) (L : Nat → List Nat), Six b0 col w A n c L ∧ (∀ g, w.heap.size ≤ g → col g = 7) ∧
      #[Value.slice A0 l0.length c0, .slice A1 l1.length c1, .slice A2 l2.length c2, .slice A3 l3.length c3, .slice A4 l4.length c4, .slice A5 l5.length c5] = ((List.range 6).map fun k => Value.slice (A k) (n k) (c k)).toArray := by
  refine ⟨fun g => if g < b1 then 0 else if g < b2 then 1 else if g < b3 then 2 else if g < m then 3 else if g < b5 then 4 else if g < w.heap.size then 5 else 7,
    fun k => match k with | 0 => A0 | 1 => A1 | 2 => A2 | 3 => A3 | 4 => A4 | _ => A5,
    fun k => match k with | 0 => l0.length | 1 => l1.length | 2 => l2.length | 3 => l3.length | 4 => l4.length | _ => l5.length,
    fun k => match k with | 0 => c0 | 1 => c1 | 2 => c2 | 3 => c3 | 4 => c4 | _ => c5,
    fun k => match k with | 0 => l0 | 1 => l1 | 2 => l2 | 3 => l3 | 4 => l4 | _ => l5, ?_, ?_, rfl⟩
  · intro k hk
    match k, hk with
    | 0, _ => exact ⟨f0, rfl, n0, fun g e hc => by have h1 := u0 _ e hc; have h2 := (f0.lt e hc).1; dsimp only at h1 h2 ⊢; rw [if_pos h1]⟩
    | 1, _ => exact ⟨f1.low s0, rfl, n1, fun g e hc => by have h1 := u1 _ e hc; have h2 := (f1.lt e hc).1; dsimp only at h1 h2 ⊢; rw [if_neg (by omega), if_pos h1]⟩
    | 2, _ => exact ⟨f2.low (by omega), rfl, n2, fun g e hc => by have h1 := u2 _ e hc; have h2 := (f2.lt e hc).1; dsimp only at h1 h2 ⊢; rw [if_neg (by omega), if_neg (by omega), if_pos h1]⟩
    | 3, _ => exact ⟨f3.low (by omega), rfl, n3, fun g e hc => by have h1 := u3 _ e hc; have h2 := (f3.lt e hc).1; dsimp only at h1 h2 ⊢; rw [if_neg (by omega), if_neg (by omega), if_neg (by omega), if_pos h1]⟩
    | 4, _ => exact ⟨f4.low (by omega), rfl, n4, fun g e hc => by have h1 := u4 _ e hc; have h2 := (f4.lt e hc).1; dsimp only at h1 h2 ⊢; rw [if_neg (by omega), if_neg (by omega), if_neg (by omega), if_neg (by omega), if_pos h1]⟩
    | 5, _ => exact ⟨f5.low (by omega), rfl, n5, fun g e hc => by have h1 := u5 _ e hc; have h2 := (f5.lt e hc).1; dsimp only at h1 h2 ⊢; rw [if_neg (by omega), if_neg (by omega), if_neg (by omega), if_neg (by omega), if_neg (by omega), if_pos h1]⟩
  · intro g hg
    dsimp only
    rw [if_neg (by omega), if_neg (by omega), if_neg (by omega), if_neg (by omega), if_neg (by omega), if_neg (by omega)]
end Go.Proofs.Ytpklbdgajbfaiaa
