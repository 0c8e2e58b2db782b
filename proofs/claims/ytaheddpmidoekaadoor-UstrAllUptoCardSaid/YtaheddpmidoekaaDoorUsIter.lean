/- 'All': the iterator tells the places and the codes of the characters, to whatever loop body keeps what lay ahead of it. -/
import Derived.Test.YtaheddpmidoekaaDoorUsW3
import Derived.RangeFuncNested
import Derived.RangeFuncBound
import Derived.RangeFuncCalls
import Derived.RangeFuncLeaves
import Derived.Shelf.Abstract
import Derived.Shelf.RegionOpen
import Derived.OwnWalkIn
import Derived.TacticsInMore
import Derived.LoopNIn
import Derived.LoopIn
namespace Go.Proofs.YtaheddpmidoekaaDoor
open Go.RowKit Go.Shelf
set_option linter.unusedVariables false
attribute [local go_sem] Oper.semAt_some

/-- The places of the characters from place i on (at most f of them). -/
def plFrom (s : ByteArray) (m : Bool) : Nat → Nat → List Nat
  | 0, _ => []
  | f + 1, i => if i < s.size then i :: plFrom s m f (i + (chr s i m).2) else []
theorem plFrom_end (s : ByteArray) (m : Bool) (f i : Nat) (h : s.size ≤ i) : plFrom s m f i = [] := by
  cases f with
  | zero => rfl
  | succ f => unfold plFrom; rw [if_neg (by omega)]
theorem plFrom_fuel (s : ByteArray) (m : Bool) : ∀ f i, s.size - i ≤ f → plFrom s m f i = plFrom s m (s.size - i) i
  | 0, i, h => by rw [plFrom_end s m _ i (by omega), plFrom_end s m _ i (by omega)]
  | f + 1, i, h => by
    by_cases hi : i < s.size
    · have hw := chr_wide s i m hi
      obtain ⟨g, hg⟩ : ∃ g, s.size - i = g + 1 := ⟨s.size - i - 1, by omega⟩
      rw [hg]
      unfold plFrom
      rw [if_pos hi, if_pos hi, plFrom_fuel s m f _ (by omega), ← plFrom_fuel s m g _ (by omega)]
    · rw [plFrom_end s m _ i (by omega), plFrom_end s m _ i (by omega)]
termination_by f => f
/-- The places from i on. -/
def rest (s : ByteArray) (m : Bool) (i : Nat) : List Nat := plFrom s m (s.size - i) i
theorem rest_end {s : ByteArray} {m : Bool} {i : Nat} (h : s.size ≤ i) : rest s m i = [] := plFrom_end s m _ i h
theorem rest_step {s : ByteArray} {m : Bool} {i : Nat} (h : i < s.size) : rest s m i = i :: rest s m (i + (chr s i m).2) := by
  have hw := chr_wide s i m h
  unfold rest
  obtain ⟨g, hg⟩ : ∃ g, s.size - i = g + 1 := ⟨s.size - i - 1, by omega⟩
  rw [hg]
  show (if i < s.size then _ else _) = _
  rw [if_pos h, plFrom_fuel s m g _ (by omega)]
/-- All places. -/
def places (s : ByteArray) (m : Bool) : List Nat := rest s m 0

/-- A place of a string. -/
abbrev Pl (s : ByteArray) : Type := { i : Nat // i < s.size }
/-- What a round is handed. -/
def encP (s : ByteArray) (m : Bool) (x : Pl s) : Array Value := #[.int .i64 (x.1 : Int), .int .i64 ((chr s x.1 m).1 : Int)]
def pls {s : ByteArray} (l : List (Pl s)) : List Nat := l.map (·.1)
theorem pls_snoc {s : ByteArray} (l : List (Pl s)) (x : Pl s) : pls (l ++ [x]) = pls l ++ [x.1] := by simp [pls]
theorem rest_len (s : ByteArray) (m : Bool) : ∀ f i, s.size - i ≤ f → (rest s m i).length ≤ s.size - i
  | 0, i, h => by rw [rest_end (by omega)]; simp
  | f + 1, i, h => by
    by_cases hi : i < s.size
    · have hw := chr_wide s i m hi
      have := rest_len s m f (i + (chr s i m).2) (by omega)
      rw [rest_step hi]
      simp only [List.length_cons]
      omega
    · rw [rest_end (by omega)]; simp
theorem places_len (s : ByteArray) (m : Bool) : (places s m).length ≤ s.size := by have := rest_len s m s.size 0 (by omega); simpa [places] using this

set_option maxHeartbeats 400000 in
theorem all_call (s : ByteArray) (m : Bool) (w : World) :
    Calls Tryd.prog 17 #[.string s, .bool m] w fun e w' => e = .returned (.func (.func 33) #[] #[.pointer (some ⟨w.heap.size, 0, none⟩), .pointer (some ⟨w.heap.size + 1, 0, none⟩)]) ∧
      w' = (w.alloc (.cells #[.string s] 9)).alloc (.cells #[.bool m] 4) := by
  go_enter Tryd.func17, Tryd.ntmps17
  go_wp2_with fail
  go_ret
  exact ⟨rfl, rfl⟩

/-- What the iterator reads between two rounds lies as it lay: the tables, its two variables. -/
structure KeepIt (Bs Bm : Nat) (W W' : World) : Prop where
  size : W.heap.size ≤ W'.heap.size
  same : ∀ k, k < 2 ∨ k = Bs ∨ k = Bm → W'.heap[k]? = W.heap[k]?
theorem KeepIt.refl (Bs Bm : Nat) (W : World) : KeepIt Bs Bm W W := ⟨Nat.le_refl _, fun _ _ => rfl⟩
theorem KeepIt.trans {Bs Bm : Nat} {A B C : World} (h : KeepIt Bs Bm A B) (k : KeepIt Bs Bm B C) : KeepIt Bs Bm A C :=
  ⟨Nat.le_trans h.size k.size, fun i hi => (k.same i hi).trans (h.same i hi)⟩
theorem KeepIt.below {Bs Bm B : Nat} {W W' : World} (h : Below B W W') (hs : Bs < B) (hm : Bm < B) (h2 : 2 ≤ B) : KeepIt Bs Bm W W' :=
  ⟨h.size, fun k hk => h.block k (by rcases hk with h | rfl | rfl <;> omega)⟩
theorem KeepIt.cell {Bs Bm : Nat} {W W' : World} (h : KeepIt Bs Bm W W') {p : Addr} (hp : p.block < 2 ∨ p.block = Bs ∨ p.block = Bm) : W'.cell? p = W.cell? p := World.cell?_of_block (w := W) (h.same p.block hp)
theorem KeepIt.setCell {Bs Bm : Nat} (W : World) {p : Addr} (h2 : 2 ≤ p.block) (hs : p.block ≠ Bs) (hm : p.block ≠ Bm) (u : Value) : KeepIt Bs Bm W (W.setCell p u) :=
  ⟨by simp [World.setCell], fun k hk => Below.heap_setCell _ _ _ _ (by rcases hk with h | rfl | rfl <;> omega)⟩
theorem KeepIt.putObj {Bs Bm : Nat} {w : World} (h2 : 2 ≤ w.heap.size) (hs : Bs < w.heap.size) (hm : Bm < w.heap.size) (W : World) (l : Nat) (o o' : Obj) (hl : w.heap.size ≤ l) (h : W.heap[l]? = some o) (_ : o.isCells = false) (_ : o.isWalk = false) : KeepIt Bs Bm W (W.putObj l o') :=
  ⟨(grownBy_putObj' W l o').size, fun k hk => World.putObj_heap_other (by rcases hk with h | rfl | rfl <;> omega)⟩
theorem Tab.keep {w w' : World} {Bs Bm : Nat} (h : Tab w) (hb : KeepIt Bs Bm w w') : Tab w' := by
  refine ⟨⟨fun c hc => ?_, fun i hi => ⟨?_, ?_⟩⟩, Nat.le_trans h.2 hb.size⟩
  · exact (hb.cell (p := ⟨_, c, none⟩) (.inl (by simp))).trans (h.1.1 c hc)
  · exact (hb.cell (p := ⟨_, 2 * i, none⟩) (.inl (by simp))).trans (h.1.2 i hi).1
  · exact (hb.cell (p := ⟨_, 2 * i + 1, none⟩) (.inl (by simp))).trans (h.1.2 i hi).2

set_option maxRecDepth 100000 in
set_option maxHeartbeats 2000000 in
theorem all_stops (n : Nat) (hn : 1 ≤ n) (s : ByteArray) (m : Bool) (hs : s.size ≤ maxLen) (Bs Bm : Nat) (w : World) (hBs : Bs < w.heap.size) (hBm : Bm < w.heap.size)
    (hcs : w.cell? ⟨Bs, 0, none⟩ = some (.string s)) (hcm : w.cell? ⟨Bm, 0, none⟩ = some (.bool m)) (hT : Tab w) :
    SeqStopsK Fence.wide n Tryd.prog 33 #[.pointer (some ⟨Bs, 0, none⟩), .pointer (some ⟨Bm, 0, none⟩)] (encP s m) (KeepIt Bs Bm) (fun ys => pls ys = places s m) (fun pre => pls pre <+: places s m) s.size w := fun l J Jx W hW hJ hJx hY h0 => by
  have hs' := hs
  unfold maxLen at hs
  refine callsIn_of_wp Tryd.func33 rfl trivial ?_ rfl
  simp only [Tryd.ntmps33, List.size_toArray, List.length_cons, List.length_nil, Nat.reduceAdd, Nat.reduceSub, Array.replicate_succ, Array.replicate_zero, List.push_toArray, List.append_toArray, List.nil_append, List.cons_append]
  have h2 := hT.2
  have hW0 : KeepIt Bs Bm w W := .below hW hBs hBm h2
  gi_wp2
  gi_loopw [4] (fun v wr => ∃ (pre : List (Pl s)) (i : Nat), v = .int .i64 (i : Int) ∧ i ≤ s.size ∧ pls pre ++ rest s m i = places s m ∧ J pre wr ∧ KeepIt Bs Bm w wr ∧ W.heap.size ≤ wr.heap.size)
    (fun v _ => s.size - (intOf v).toNat)
  case atStart => exact ⟨[], 0, rfl, Nat.zero_le _, rfl, h0, hW0, Nat.le_refl _⟩
  case round =>
    obtain ⟨pre, i, rfl, hi, hpl, hJp, hB, hsz⟩ := hrel
    have c1 : wr.cell? ⟨Bs, 0, none⟩ = some (.string s) := (hB.cell (p := ⟨Bs, 0, none⟩) (.inr (.inl rfl))).trans hcs
    have c2 : wr.cell? ⟨Bm, 0, none⟩ = some (.bool m) := (hB.cell (p := ⟨Bm, 0, none⟩) (.inr (.inr rfl))).trans hcm
    by_cases hlt : i < s.size
    · have hw := chr_wide s i m hlt
      have hstep := rest_step (m := m) hlt
      have hlen : pre.length < s.size := by
        have h1 := congrArg List.length hpl
        have h3 := places_len s m
        rw [List.length_append, hstep, List.length_cons] at h1
        have h4 : (pls pre).length = pre.length := by simp [pls]
        omega
      have HS := Lib.hid hstep
      have HP := Lib.hid hpl
      clear hstep hpl
      have hTr : Tab wr := hT.keep hB
      have hwr := hB.size
      gi_wp2_with fail
      refine ⟨trivial, ?_⟩
      refine (callsIn_wide.2 (next_in s i m wr hs' hlt hTr)).mono ?_
      rintro e w1 ⟨rfl, hb1⟩
      have hB1 : KeepIt Bs Bm w w1 := hB.trans (.below hb1 (by omega) (by omega) (by omega))
      have hJ1 : J pre w1 := hJ pre wr w1 none hJp ⟨hb1.os, hb1.tape, hb1.output, hb1.size, fun k hk _ => hb1.block k hk⟩ (fun r e => by cases e)
      have hsz1 : W.heap.size ≤ w1.heap.size := Nat.le_trans hsz hb1.size
      obtain ⟨fn, tmps, assign, body, hy, hR⟩ := hY pre ⟨i, hlt⟩ w1 hJ1 hlen
      dsimp only [encP] at hy
      have HR := Lib.hid hR
      clear hR hY hJ hJx hJp hJ1 hTr
      generalize chr s i m = p at *
      obtain ⟨c, d⟩ := p
      dsimp only at hw hy HS ⊢
      gi_wp2_with fail
      refine HR.out.mono ?_
      rintro e W3 (⟨rfl, hJ3, hk3⟩ | ⟨rfl, hJx3⟩)
      · gi_wp2_with fail
        go_roundw
        case rel =>
          refine ⟨pre ++ [⟨i, hlt⟩], i + d, by go_num, by omega, ?_, hJ3, hB1.trans hk3, Nat.le_trans hsz1 hk3.size⟩
          rw [pls_snoc, List.append_assoc, ← HP.out, HS.out]
          rfl
        case measure => simp [intOf]; omega
      · gi_wp2_with fail
        refine bodyPost_ret (results_none rfl _ _ _) rfl ?_
        refine ⟨⟨_, rfl⟩, .inr ⟨_, ?_, hJx3⟩⟩
        rw [pls_snoc, ← HP.out, HS.out]
        exact ⟨rest s m (i + d), by simp⟩
    · obtain rfl : i = s.size := by omega
      gi_wp2_with fail
      go_end0
      refine ⟨⟨_, rfl⟩, .inl ⟨_, ?_, hJp⟩⟩
      rw [rest_end (Nat.le_refl _), List.append_nil] at hpl
      exact hpl

end Go.Proofs.YtaheddpmidoekaaDoor
