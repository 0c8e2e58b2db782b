/- The walk of 'Sub' of the program. -/
import Derived.Test.YtaheddpmidoekaaDoorUsIndex
import Derived.BigRegionIn
namespace Go.Proofs.YtaheddpmidoekaaDoor
open Go.RowKit Go.Shelf
set_option linter.unusedVariables false
attribute [local go_sem] Oper.semAt_some

theorem Boxes.alloc3 {B : Nat} {l : List (TypeId × Value)} {w W : World} (h : Boxes B l w W) (hs : W.heap.size = B + l.length) (t1 t2 t3 : TypeId) (v1 v2 v3 : Value) :
    Boxes B (l ++ [(t1, v1)] ++ [(t2, v2)] ++ [(t3, v3)]) w (((W.alloc (.cells #[v1] t1)).alloc (.cells #[v2] t2)).alloc (.cells #[v3] t3)) := by
  obtain ⟨h1, s1⟩ := h.alloc t1 v1 hs
  obtain ⟨h2, s2⟩ := h1.alloc t2 v2 s1
  exact (h2.alloc t3 v3 s2).1

/-- The boxes of 'Sub': three that stay, and lo, hi, k, in whatever order they were made. -/
structure SubI (B L H K : Nat) (s : ByteArray) (a b lo hi k : Int) (w W : World) : Prop where
  fix : Boxes B [(9, .string s), (3, .int .i64 a), (3, .int .i64 b)] w W
  bl : Boxed W L 3 (.int .i64 lo)
  bh : Boxed W H 3 (.int .i64 hi)
  bk : Boxed W K 3 (.int .i64 k)
  nL : B + 3 ≤ L ∧ B + 3 ≤ H ∧ B + 3 ≤ K ∧ L < B + 6 ∧ H < B + 6 ∧ K < B + 6
  nD : L ≠ H ∧ L ≠ K ∧ H ≠ K
theorem SubI.of {B : Nat} {s : ByteArray} {a b lo hi k : Int} {w W : World} {l : List (TypeId × Value)} (h : Boxes B l w W) (i j n : Nat) (hf : l.take 3 = [(9, .string s), (3, .int .i64 a), (3, .int .i64 b)])
    (hi' : l[i]? = some (3, .int .i64 lo)) (hj : l[j]? = some (3, .int .i64 hi)) (hn : l[n]? = some (3, .int .i64 k)) (hd : (3 ≤ i ∧ 3 ≤ j ∧ 3 ≤ n ∧ i < 6 ∧ j < 6 ∧ n < 6) ∧ i ≠ j ∧ i ≠ n ∧ j ≠ n) : SubI B (B + i) (B + j) (B + n) s a b lo hi k w W.drew :=
  ⟨⟨fun x y hx => by
      have : l[x]? = some y := by
        rw [← hf] at hx
        rw [List.getElem?_take] at hx
        split at hx
        · exact hx
        · cases hx
      exact h.1 x y this, ⟨h.2.1.os, h.2.1.tape, h.2.1.output, h.2.1.size, h.2.1.block⟩, by
      have := h.2.2
      have h3 : (l.take 3).length = 3 := by rw [hf]; rfl
      rw [List.length_take] at h3
      simp only [List.length_cons, List.length_nil]
      show _ ≤ W.heap.size
      omega⟩, h.1 i _ hi', h.1 j _ hj, h.1 n _ hn, by omega, by omega⟩
theorem SubI.same {B L H K : Nat} {s : ByteArray} {a b lo hi k : Int} {w W W' : World} (h : SubI B L H K s a b lo hi k w W) (hb : Below B w W') (hz : W.heap.size ≤ W'.heap.size) (hs : ∀ (p : Nat) (c : Array Value) (t : TypeId) (fz : Nat × Nat), W.heap[p]? = some (Obj.cells c t fz) → W'.heap[p]? = some (Obj.cells c t fz)) : SubI B L H K s a b lo hi k w W' :=
  ⟨⟨fun i x hx => hs _ _ _ _ (h.fix.1 i x hx), hb, Nat.le_trans h.fix.2.2 hz⟩, hs _ _ _ _ h.bl, hs _ _ _ _ h.bh, hs _ _ _ _ h.bk, h.nL, h.nD⟩
theorem SubI.own {B L H K C : Nat} {s : ByteArray} {a b lo hi k : Int} {w : World} (hB : B ≤ w.heap.size) (hC : B ≤ C) {W W' : World} {row : Option Nat} (h : SubI B L H K s a b lo hi k w W) (hg : W.grownBy W' row) (hr : ∀ r, row = some r → C ≤ r ∧ ∃ o : Obj, W.heap[r]? = some o ∧ o.isCells = false) : SubI B L H K s a b lo hi k w W' :=
  h.same (ownFrom_below (β := Unit) hB hC () W W' row h.fix.2.1 hg hr) hg.size fun p c t fz hk => (grownBy_keeps_cells hg (fun r e => (hr r e).2) hk rfl).trans hk
theorem boxFar {W : World} {B : Nat} {t : TypeId} {v : Value} (h : Boxed W B t v) {p : Addr} (hp : B ≠ p.block) (u : Value) : Boxed (W.setCell p u) B t v := (Below.heap_setCell _ _ _ _ hp).trans h
theorem SubI.fixFar {B : Nat} {l : List (TypeId × Value)} {w W : World} (h : Boxes B l w W) {p : Addr} (hp : B + l.length ≤ p.block) (u : Value) : Boxes B l w (W.setCell p u) :=
  ⟨fun i x hx => boxFar (h.1 i x hx) (by have := (List.getElem?_eq_some_iff.1 hx).1; omega) u, h.2.1.setCell (by omega) _, by simpa [World.setCell] using h.2.2⟩
theorem SubI.setL {B L H K : Nat} {s : ByteArray} {a b lo hi k : Int} {w W : World} (h : SubI B L H K s a b lo hi k w W) (v : Int) : SubI B L H K s a b v hi k w (W.setCell ⟨L, 0, none⟩ (.int .i64 v)) :=
  ⟨SubI.fixFar h.fix (by simp; exact h.nL.1) _, h.bl.set _, boxFar h.bh h.nD.1.symm _, boxFar h.bk h.nD.2.1.symm _, h.nL, h.nD⟩
theorem SubI.setH {B L H K : Nat} {s : ByteArray} {a b lo hi k : Int} {w W : World} (h : SubI B L H K s a b lo hi k w W) (v : Int) : SubI B L H K s a b lo v k w (W.setCell ⟨H, 0, none⟩ (.int .i64 v)) :=
  ⟨SubI.fixFar h.fix (by simp; exact h.nL.2.1) _, boxFar h.bl h.nD.1 _, h.bh.set _, boxFar h.bk h.nD.2.2.symm _, h.nL, h.nD⟩
theorem SubI.setK {B L H K : Nat} {s : ByteArray} {a b lo hi k : Int} {w W : World} (h : SubI B L H K s a b lo hi k w W) (v : Int) : SubI B L H K s a b lo hi v w (W.setCell ⟨K, 0, none⟩ (.int .i64 v)) :=
  ⟨SubI.fixFar h.fix (by simp; exact h.nL.2.2.1) _, boxFar h.bl h.nD.2.1 _, boxFar h.bh h.nD.2.2 _, h.bk.set _, h.nL, h.nD⟩
theorem SubI.al {B L H K : Nat} {s : ByteArray} {a b lo hi k : Int} {w W : World} (h : SubI B L H K s a b lo hi k w W) (o : Obj) : SubI B L H K s a b lo hi k w (W.alloc o) :=
  h.same (h.fix.2.1.alloc (by have := h.fix.2.2; simp at this; omega) _) (by simp) fun p c t fz hk => (Below.heap_alloc W o p (Array.getElem?_eq_some_iff.1 hk).1).trans hk

/-- 'lo' behind these places. -/
def loV (n : Nat) (a : Int) (l : List Nat) : Nat := l.getD (max a 1 - 1).toNat n
theorem loV_snoc (n : Nat) (a : Int) (l : List Nat) (x : Nat) (hl : ∀ y ∈ l, y < n) : loV n a (l ++ [x]) = if a ≤ (l.length : Int) + 1 ∧ loV n a l = n then x else loV n a l := by
  unfold loV
  simp only [List.getD_eq_getElem?_getD]
  rcases Nat.lt_or_ge (max a 1 - 1).toNat l.length with h | h
  · rw [List.getElem?_append_left h, List.getElem?_eq_getElem h]
    have := hl _ (List.getElem_mem h)
    rw [if_neg]
    simp only [Option.getD_some]
    omega
  · rw [List.getElem?_append_right h, List.getElem?_eq_none h]
    by_cases e : (max a 1 - 1).toNat = l.length
    · rw [e, Nat.sub_self]
      rw [if_pos ⟨by omega, rfl⟩]; rfl
    · have h2 : 1 ≤ (max a 1 - 1).toNat - l.length := by omega
      rw [if_neg (by omega)]
      cases hq : (max a 1 - 1).toNat - l.length with
      | zero => omega
      | succ q => simp

theorem ext_empty (s : ByteArray) (i j : Nat) (h : j ≤ i) : s.extract i j = ⟨#[]⟩ := by
  apply ByteArray.ext
  rw [ByteArray.data_extract]
  exact Array.eq_empty_of_size_eq_zero (by rw [Array.size_extract]; omega)
theorem starts_of (s : ByteArray) (m : Bool) {i p : Nat} (h : (places s m)[i]? = some p) : (starts s m).getD i 0 = p := by
  rw [List.getD_eq_getElem?_getD, (starts_at s m h).2.1]; rfl
theorem subV_done (s : ByteArray) (m : Bool) (a b : Int) (h : places s m = [] ∨ ((places s m).length : Int) < b) : s.extract (min (loV s.size a (places s m)) s.size) s.size = subV s m a b := by
  have hsl := starts_len s m
  unfold subV
  rcases h with h | h
  · have hz : s.size = 0 := by
      rcases Nat.eq_zero_or_pos s.size with h0 | h0
      · exact h0
      · unfold places at h; rw [rest_step h0] at h; cases h
    rw [h] at hsl
    rw [hsl, hz, if_pos (by simp; omega), ext_empty _ _ _ (by omega)]
  · rw [hsl]
    rcases Nat.lt_or_ge (max a 1 - 1).toNat (places s m).length with hl | hl
    · obtain ⟨p, hp⟩ : ∃ p, (places s m)[(max a 1 - 1).toNat]? = some p := ⟨_, List.getElem?_eq_getElem hl⟩
      have hps := (starts_at s m hp).1
      have hlo : loV s.size a (places s m) = p := by unfold loV; rw [List.getD_eq_getElem?_getD, hp]; rfl
      have hlast : (starts s m).getD (places s m).length 0 = s.size := by simp [starts]
      rw [if_neg (by omega), starts_of s m hp, show (min b (((places s m).length + 1 : Nat) : Int) - 1).toNat = (places s m).length by omega, hlast, hlo, Nat.min_eq_left (by omega)]
    · have hlo : loV s.size a (places s m) = s.size := by unfold loV; rw [List.getD_eq_getElem?_getD, List.getElem?_eq_none hl]; rfl
      rw [if_pos (by omega), hlo, ext_empty _ _ _ (by omega)]
theorem subV_stop (s : ByteArray) (m : Bool) (a b : Int) (l' : List Nat) (x : Nat) (hp : l' ++ [x] <+: places s m) (h1 : l' = [] ∨ (l'.length : Int) < b) (h2 : b ≤ (l'.length : Int) + 1) :
    s.extract (min (loV s.size a (l' ++ [x])) x) x = subV s m a b := by
  have hsl := starts_len s m
  obtain ⟨r, hr⟩ := hp
  have hat : ∀ i, i < (l' ++ [x]).length → (places s m)[i]? = (l' ++ [x])[i]? := fun i hi => by rw [← hr, List.getElem?_append_left hi]
  have hx : (places s m)[l'.length]? = some x := by rw [hat _ (by simp)]; simp
  have hn : l'.length < (places s m).length := by rw [← hr]; simp
  have hxs := (starts_at s m hx).1
  unfold subV
  rw [hsl]
  rcases Nat.lt_or_ge (max a 1 - 1).toNat (l' ++ [x]).length with hl | hl
  · obtain ⟨p, hp⟩ : ∃ p, (l' ++ [x])[(max a 1 - 1).toNat]? = some p := ⟨_, List.getElem?_eq_getElem hl⟩
    have hlo : loV s.size a (l' ++ [x]) = p := by unfold loV; rw [List.getD_eq_getElem?_getD, hp]; rfl
    have hpp := hp
    rw [← hat _ hl] at hpp
    simp only [List.length_append, List.length_cons, List.length_nil] at hl
    rcases Nat.lt_or_ge (max a 1 - 1).toNat l'.length with hl2 | hl2
    · have hmo := starts_mono s m hl2 (starts_at s m hpp).2.1 (starts_at s m hx).2.1
      rcases h1 with h1 | h1
      · rw [h1] at hl2; simp at hl2
      · rw [if_neg (by omega), starts_of s m hpp, show (min b (((places s m).length + 1 : Nat) : Int) - 1).toNat = l'.length by omega, starts_of s m hx, hlo, Nat.min_eq_left hmo.1]
    · have he : (max a 1 - 1).toNat = l'.length := by omega
      rw [he, hx] at hpp
      cases hpp
      rw [if_pos (by omega), hlo, Nat.min_self, ext_empty _ _ _ (Nat.le_refl _)]
  · have hlo : loV s.size a (l' ++ [x]) = s.size := by unfold loV; rw [List.getD_eq_getElem?_getD, List.getElem?_eq_none hl]; rfl
    simp only [List.length_append, List.length_cons, List.length_nil] at hl
    rw [if_pos (by omega), hlo, Nat.min_eq_right (by omega), ext_empty _ _ _ (Nat.le_refl _)]

def subGo (B L H K : Nat) (s : ByteArray) (a b : Int) (m : Bool) (w : World) (l : List (Pl s)) (W : World) : Prop :=
  SubI B L H K s a b (loV s.size a (pls l) : Nat) (s.size : Nat) ((l.length : Int) + 1) w W ∧ Boxed W (B + 6) 9 (.string s) ∧ Boxed W (B + 6 + 1) 4 (.bool m) ∧ (l = [] ∨ (l.length : Int) < b)
def subQuit (B L H K : Nat) (s : ByteArray) (a b : Int) (w : World) (c : Code) (l : List (Pl s)) (W : World) : Prop :=
  c = .exit 0 ∧ ∃ x l', l = l' ++ [x] ∧ (l' = [] ∨ (l'.length : Int) < b) ∧ b ≤ l.length ∧ SubI B L H K s a b (loV s.size a (pls l) : Nat) (x.1 : Nat) (l.length : Int) w W

set_option maxRecDepth 100000 in
set_option maxHeartbeats 8000000 in
theorem sub_any (s : ByteArray) (a b : Int) (m : Bool) (w : World) (hs : s.size ≤ 4398046511104) (hT : Tab w) :
    Calls Tryd.prog 25 #[.string s, .int .i64 a, .int .i64 b, .bool m] w fun e w' => e = .returned (.string (subV s m a b)) ∧ Below w.heap.size w w' := by
  have hs' : s.size ≤ maxLen := by unfold maxLen; omega
  refine (callsIn_wide (n := 6)).1 ?_
  refine callsIn_of_wp_marks Tryd.func25 rfl trivial ?_ rfl
  simp only [Tryd.ntmps25, List.size_toArray, List.length_cons, List.length_nil, Nat.reduceAdd, Nat.reduceSub, Array.replicate_succ, Array.replicate_zero, List.push_toArray, List.append_toArray, List.nil_append, List.cons_append]
  gi_wp2_with fail
  obtain ⟨x1, y1⟩ := (Boxes.nil w).alloc 9 (.string s) (by simp)
  obtain ⟨x2, y2⟩ := x1.alloc 3 (.int .i64 a) y1
  obtain ⟨x3, y3⟩ := x2.alloc 3 (.int .i64 b) y2
  have hn2 := hT.2
  have y3' : ((((w.alloc (.cells #[.string s] 9)).alloc (.cells #[.int .i64 a] 3)).alloc (.cells #[.int .i64 b] 3))).heap.size = w.heap.size + 3 := y3
  generalize ((((w.alloc (.cells #[.string s] 9)).alloc (.cells #[.int .i64 a] 3)).alloc (.cells #[.int .i64 b] 3))) = W0 at *
  have c0 : W0.cell? ⟨w.heap.size, 0, none⟩ = _ := x3.cell 0 rfl
  generalize hB : w.heap.size = B at *
  refine wpIn_mono (Q := fun e act W => e = .normal ∧ ∃ L H K : Nat, act = { tmps := (.string s :: .int .i64 a :: .int .i64 b :: .bool m :: .pointer (some ⟨B, 0, none⟩) :: .pointer (some ⟨B + 1, 0, none⟩) :: .pointer (some ⟨B + 1 + 1, 0, none⟩) :: undef :: .string ⟨#[]⟩ :: .pointer (some ⟨L, 0, none⟩) :: .pointer (some ⟨H, 0, none⟩) :: .pointer (some ⟨K, 0, none⟩) :: undef :: .string s :: .int .i64 (s.size : Int) :: .string s :: .int .i64 (s.size : Int) :: undef :: undef :: undef :: undef :: undef :: undef :: undef :: undef :: undef :: undef :: undef :: undef :: undef :: undef :: undef :: undef :: undef :: undef :: undef :: undef :: undef :: undef :: undef :: undef :: undef :: undef :: undef :: []).toArray, defers := [] } ∧ SubI B L H K s a b (s.size : Int) (s.size : Int) 1 w W ∧ W.heap.size = B + 6) ?_ ?_
  · gi_region
    all_goals
      refine ⟨rfl, _, _, _, rfl, ?_, by show _ = _; simp; omega⟩
      first
      | exact SubI.of (Boxes.alloc3 x3 y3 _ _ _ _ _ _) 3 4 5 rfl rfl rfl rfl (by decide)
      | exact SubI.of (Boxes.alloc3 x3 y3 _ _ _ _ _ _) 3 5 4 rfl rfl rfl rfl (by decide)
      | exact SubI.of (Boxes.alloc3 x3 y3 _ _ _ _ _ _) 4 3 5 rfl rfl rfl rfl (by decide)
      | exact SubI.of (Boxes.alloc3 x3 y3 _ _ _ _ _ _) 4 5 3 rfl rfl rfl rfl (by decide)
      | exact SubI.of (Boxes.alloc3 x3 y3 _ _ _ _ _ _) 5 3 4 rfl rfl rfl rfl (by decide)
      | exact SubI.of (Boxes.alloc3 x3 y3 _ _ _ _ _ _) 5 4 3 rfl rfl rfl rfl (by decide)
  · rintro e act W ⟨rfl, L, H, K, rfl, hI, hz⟩
    clear x1 y1 x2 y2 x3 y3 c0 y3'
    have c0 : W.cell? ⟨B, 0, none⟩ = _ := hI.fix.cell 0 rfl
    gi_wp2_with fail
    refine ⟨trivial, ?_⟩
    refine (callsIn_wide.2 (all_call s m _)).mono ?_
    rintro e w1 ⟨rfl, rfl⟩
    gi_wp2_with fail
    have e5 := (Boxed.new W 9 (.string s)).alloc (.cells #[.bool m] 4)
    have e6 := Boxed.new (W.alloc (.cells #[.string s] 9)) 4 (.bool m)
    rw [World.size_alloc] at e6
    rw [hz] at e5 e6
    have X := (hI.al (.cells #[.string s] 9)).al (.cells #[.bool m] 4)
    have hz6 : ((W.alloc (.cells #[.string s] 9)).alloc (.cells #[.bool m] 4)).heap.size = B + 8 := by simp [hz]
    generalize ((W.alloc (.cells #[.string s] 9)).alloc (.cells #[.bool m] 4)) = W6 at *
    clear hI c0 hz
    have hT6 := hT.below X.fix.2.1 hn2
    have hnL := X.nL
    refine wpIn_rangeFunc_ownG rfl (by omega) (gf := 33) (lb := #[.pointer (some ⟨B + 6, 0, none⟩), .pointer (some ⟨B + 6 + 1, 0, none⟩)]) rfl trivial (enters_of Tryd.func33 (by kernel_rfl) rfl)
      (all_stops 5 (by omega) s m hs' (B + 6) (B + 6 + 1) W6 (by omega) (by omega) e5.cell e6.cell hT6) (fun h k => h.trans k) (KeepIt.putObj (by omega) (by omega) (by omega)) (Below.refl _ _) (fun _ => rfl)
      (fun l W => subGo B L H K s a b m w l W)
      (fun c l W => subQuit B L H K s a b w c l W)
      (fun l W W' row hs hg hr => ⟨hs.1.own (by omega) (by omega) hg hr, boxed_own _ _ _ _ () W W' row hs.2.1 hg hr, boxed_own _ _ _ _ () W W' row hs.2.2.1 hg hr, hs.2.2.2⟩)
      (fun c l W W' row hs hg hr => by
        obtain ⟨h1, x, l', h3, h4, h5, h6⟩ := hs
        exact ⟨h1, x, l', h3, h4, h5, h6.own (by omega) (by omega) hg hr⟩)
      ⟨by simpa [loV, pls] using X, e5, e6, .inl rfl⟩
      (fun x => { tmps := (.string s :: .int .i64 a :: .int .i64 b :: .bool m :: .pointer (some ⟨B, 0, none⟩) :: .pointer (some ⟨B + 1, 0, none⟩) :: .pointer (some ⟨B + 1 + 1, 0, none⟩) :: undef :: .string ⟨#[]⟩ :: .pointer (some ⟨L, 0, none⟩) :: .pointer (some ⟨H, 0, none⟩) :: .pointer (some ⟨K, 0, none⟩) :: .int .i64 (x.1 : Int) :: .string s :: .int .i64 (s.size : Int) :: .string s :: .int .i64 (s.size : Int) :: .string s :: .bool m :: .func (.func 33) #[] #[.pointer (some ⟨B + 6, 0, none⟩), .pointer (some ⟨B + 6 + 1, 0, none⟩)] :: .int .i64 (x.1 : Int) :: .int .i64 ((chr s x.1 m).1 : Int) :: undef :: undef :: undef :: undef :: undef :: undef :: undef :: undef :: undef :: undef :: undef :: undef :: undef :: undef :: undef :: undef :: undef :: undef :: undef :: undef :: undef :: undef :: []).toArray, defers := [] }) ?assign ?body ?done ?stop
    case assign =>
      intro l x W K hK
      gi_wp2
      simpa [encP] using hK
    case body =>
      rintro l pr x W ⟨hI, h5, h6, hb⟩ hlen
      have el : (((pr ++ [x]).length : Nat) : Int) = (pr.length : Int) + 1 := by simp
      have hpl : (pls pr).length = pr.length := by simp [pls]
      have hst := loV_snoc s.size a (pls pr) x.1 (fun y hy => by simp [pls] at hy; obtain ⟨h, _⟩ := hy; exact h)
      rw [hpl, ← pls_snoc] at hst
      have hx := x.2
      have c0 : W.cell? ⟨B, 0, none⟩ = _ := hI.fix.cell 0 rfl
      have c1 : W.cell? ⟨B + 1, 0, none⟩ = _ := hI.fix.cell 1 rfl
      have c2 : W.cell? ⟨B + 1 + 1, 0, none⟩ = _ := hI.fix.cell 2 rfl
      have cL := hI.bl.cell
      have cH := hI.bh.cell
      have cK := hI.bk.cell
      have fL := hI.bl.frozen
      have fH := hI.bh.frozen
      have fK := hI.bk.frozen
      have d1 : ¬ L = K := hI.nD.2.1
      have d2 : ¬ K = L := fun h => d1 h.symm
      have d3 : ¬ L = H := hI.nD.1
      have d4 : ¬ H = L := fun h => d3 h.symm
      have d5 : ¬ H = K := hI.nD.2.2
      have d6 : ¬ K = H := fun h => d5 h.symm
      have d7 : ¬ B + 1 + 1 = L := by omega
      have d8 : ¬ L = B + 1 + 1 := by omega
      have HI := Lib.hid hI
      have HS := Lib.hid hst
      clear hI hst hz6
      have keep : ∀ W', SubI B L H K s a b (loV s.size a (pls (pr ++ [x])) : Nat) (s.size : Nat) ((pr.length : Int) + 1 + 1) w W' → Boxed W' (B + 6) 9 (.string s) → Boxed W' (B + 6 + 1) 4 (.bool m) → KeepsOthers W W' → KeepIt (B + 6) (B + 6 + 1) W W' → ¬ b ≤ (pr.length : Int) + 1 → ∀ act,
          ownPostG W6.heap.size (KeepIt (B + 6) (B + 6 + 1)) (fun l W => subGo B L H K s a b m w l W)
            (fun c l W => subQuit B L H K s a b w c l W) (pr ++ [x]) W .normal act W' := by
        intro W' h1 h2 h3 h4 h7 h8 act
        refine ⟨h4.from _, h7, ?_, h2, h3, .inr (by rw [el]; omega)⟩
        rw [el]; exact h1
      have quit : ∀ W', SubI B L H K s a b (loV s.size a (pls (pr ++ [x])) : Nat) (x.1 : Nat) ((pr.length : Int) + 1) w W' → KeepsOthers W W' → b ≤ (pr.length : Int) + 1 → ∀ act,
          ownPostG W6.heap.size (KeepIt (B + 6) (B + 6 + 1)) (fun l W => subGo B L H K s a b m w l W)
            (fun c l W => subQuit B L H K s a b w c l W) (pr ++ [x]) W (.exit 0) act W' := by
        intro W' h1 h4 h8 act
        refine ⟨h4.from _, rfl, x, pr, rfl, hb, by rw [el]; omega, ?_⟩
        rw [el]; exact h1
      have KP := Lib.hid keep
      have QT := Lib.hid quit
      clear keep quit
      generalize hlo : loV s.size a (pls pr) = lo at *
      by_cases ha : a ≤ (pr.length : Int) + 1
      · by_cases hl : lo = s.size
        · have hl' : ((lo : Int) == (s.size : Int)) = true := by rw [hl]; exact beq_self_eq_true _
          have hv := HS.out
          rw [if_pos ⟨ha, hl⟩] at hv
          by_cases hbb : b ≤ (pr.length : Int) + 1
          · gi_wp2_with fail
            refine QT.out _ ?_ ((KeepsOthers.setCell _ _ _).trans (KeepsOthers.setCell _ _ _)) hbb _
            rw [hv]
            exact (HI.out.setL _).setH _
          · gi_wp2_with fail
            refine KP.out _ ?_ (boxFar (boxFar h5 (by simp; omega) _) (by simp; omega) _) (boxFar (boxFar h6 (by simp; omega) _) (by simp; omega) _) ((KeepsOthers.setCell _ _ _).trans (KeepsOthers.setCell _ _ _)) ((KeepIt.setCell (p := ⟨L, 0, none⟩) _ (by simp; omega) (by simp; omega) (by simp; omega) _).trans (KeepIt.setCell (p := ⟨K, 0, none⟩) _ (by simp; omega) (by simp; omega) (by simp; omega) _)) hbb _
            rw [hv]
            exact (HI.out.setL _).setK _
        · have hl' : ((lo : Int) == (s.size : Int)) = false := by rw [beq_eq_false_iff_ne]; omega
          have hv := HS.out
          rw [if_neg (fun h => hl h.2)] at hv
          by_cases hbb : b ≤ (pr.length : Int) + 1
          · gi_wp2_with fail
            refine QT.out _ ?_ (KeepsOthers.setCell _ _ _) hbb _
            rw [hv]
            exact HI.out.setH _
          · gi_wp2_with fail
            refine KP.out _ ?_ (boxFar h5 (by simp; omega) _) (boxFar h6 (by simp; omega) _) (KeepsOthers.setCell _ _ _) (KeepIt.setCell (p := ⟨K, 0, none⟩) _ (by simp; omega) (by simp; omega) (by simp; omega) _) hbb _
            rw [hv]
            exact HI.out.setK _
      · have hv := HS.out
        rw [if_neg (fun h => ha h.1)] at hv
        by_cases hbb : b ≤ (pr.length : Int) + 1
        · gi_wp2_with fail
          refine QT.out _ ?_ (KeepsOthers.setCell _ _ _) hbb _
          rw [hv]
          exact HI.out.setH _
        · gi_wp2_with fail
          refine KP.out _ ?_ (boxFar h5 (by simp; omega) _) (boxFar h6 (by simp; omega) _) (KeepsOthers.setCell _ _ _) (KeepIt.setCell (p := ⟨K, 0, none⟩) _ (by simp; omega) (by simp; omega) (by simp; omega) _) hbb _
          rw [hv]
          exact HI.out.setK _
    case done =>
      rintro D ys W hD hys ⟨hI, _, _, hb⟩ hK
      have hyl : ys.length = (places s m).length := by rw [← hys]; simp [pls]
      have hv := subV_done s m a b (by
        rcases hb with h | h
        · exact .inl (by rw [← hys, h]; rfl)
        · exact .inr (by rw [← hyl]; exact h))
      rw [hys] at hI
      have HV := Lib.hid hv
      have c0 : W.cell? ⟨B, 0, none⟩ = _ := hI.fix.cell 0 rfl
      have cL := hI.bl.cell
      have cH := hI.bh.cell
      have hbe := hI.fix.2.1
      generalize loV s.size a (places s m) = lo at *
      clear hI hv
      obtain ⟨q, hq⟩ : ∃ q, min lo s.size = q := ⟨_, rfl⟩
      have hq' : min (lo : Int) (s.size : Int) = (q : Int) := by omega
      have hqs : (q : Int) ≤ (s.size : Int) := by omega
      gi_wp2_with fail
      refine ⟨by simp, .inl ⟨_, _, rfl, run_takeDeferred hK, ?_⟩⟩
      refine ⟨_, results_tmp rfl _ _ _, by rw [← HV.out, hq]; rfl, ?_⟩
      rw [hB]
      exact hbe.trans (by rw [← hB]; exact belowK_b (w := w) (Nat.le_refl _) W D _ _ (by omega) hK rfl rfl)
    case stop =>
      rintro D c l W hD hpre ⟨rfl, x, l', e, h1, h2, hI⟩ hK
      rw [e, pls_snoc] at hpre
      have hpl : (pls l').length = l'.length := by simp [pls]
      have hv := subV_stop s m a b (pls l') x.1 hpre (by
        rcases h1 with h | h
        · exact .inl (by rw [h]; rfl)
        · exact .inr (by rw [hpl]; exact h)) (by rw [hpl]; rw [e] at h2; simpa using h2)
      rw [e, pls_snoc] at hI
      have HV := Lib.hid hv
      have c0 : W.cell? ⟨B, 0, none⟩ = _ := hI.fix.cell 0 rfl
      have cL := hI.bl.cell
      have cH := hI.bh.cell
      have hbe := hI.fix.2.1
      have hxs := x.2
      generalize loV s.size a (pls l' ++ [x.1]) = lo at *
      clear hI hv
      obtain ⟨q, hq⟩ : ∃ q, min lo x.1 = q := ⟨_, rfl⟩
      have hq' : min (lo : Int) (x.1 : Int) = (q : Int) := by omega
      have hqs : (q : Int) ≤ (x.1 : Int) := by omega
      gi_wp2_with fail
      refine ⟨by simp, .inl ⟨_, _, rfl, run_takeDeferred hK, ?_⟩⟩
      refine ⟨_, results_tmp rfl _ _ _, by rw [← HV.out, hq]; rfl, ?_⟩
      rw [hB]
      exact hbe.trans (by rw [← hB]; exact belowK_b (w := w) (Nat.le_refl _) W D _ _ (by omega) hK rfl rfl)

end Go.Proofs.YtaheddpmidoekaaDoor
