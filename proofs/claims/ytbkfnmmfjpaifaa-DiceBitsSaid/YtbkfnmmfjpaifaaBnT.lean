/- The document's Text, walked, for any seat. -/
import Derived.Test.YtbkfnmmfjpaifaaBnD
namespace Go.Proofs.Ytbkfnmmfjpaifaa
open Go.RowKit
set_option linter.unusedVariables false

theorem byte_info : (Try.prog.info? 5).map (fun i => (i.zero, i.size, i.bytes)) = some (some (.int .u8 0), 1, 1) := by kernel_rfl

/-- A natural in base ten. -/
def decT (x : Nat) : List UInt8 := if x = 0 then [48] else (dg 10 x).reverse.map fun d => UInt8.ofNat (48 + d)
/-- Digits as bytes. -/
def asc (p : List Nat) : List Nat := p.map (48 + ·)
theorem asc_snoc (p : List Nat) (d : Nat) : asc (p ++ [d]) = asc p ++ [48 + d] := by simp [asc]
theorem asc_len (p : List Nat) : (asc p).length = p.length := by simp [asc]
/-- Four digits. -/
def quad (d : Nat) : List Nat := [d / 1000, d / 100 % 10, d / 10 % 10, d % 10]
def quads : List Nat → List Nat
  | [] => []
  | d :: l => quads l ++ quad d
theorem quads_drop (l : List Nat) {i : Nat} (h : i < l.length) : quads (l.drop i) = quads (l.drop (i + 1)) ++ quad (l.getD i 0) := by
  rw [List.drop_eq_getElem_cons h, List.getD_eq_getElem?_getD, List.getElem?_eq_getElem h]; rfl
theorem quads_len : ∀ l, (quads l).length = 4 * l.length
  | [] => rfl
  | d :: l => by rw [quads, List.length_append, quads_len l, List.length_cons]; simp [quad]; omega
theorem quads_vb : ∀ l, Lo 10000 l → vb 10 (quads l).reverse = vb 10000 l ∧ Lo 10 (quads l).reverse
  | [], _ => ⟨rfl, lo_nil _⟩
  | d :: l, h => by
    obtain ⟨i1, i2⟩ := quads_vb l (fun x hx => h x (by simp [hx]))
    have hd := h d (by simp)
    rw [quads, List.reverse_append]
    refine ⟨?_, fun x hx => ?_⟩
    · rw [vb_append, i1]
      simp [quad, vb]
      omega
    · rcases List.mem_append.1 hx with hx | hx
      · simp [quad] at hx; omega
      · exact i2 x hx
theorem trimL_split : ∀ l : List Nat, ∃ n, l = trimL l ++ List.replicate n 0
  | [] => ⟨0, rfl⟩
  | x :: l => by
    obtain ⟨n, hn⟩ := trimL_split l
    by_cases h : trimL l = [] ∧ x = 0
    · refine ⟨n + 1, ?_⟩
      show _ = (if _ then _ else _) ++ _
      rw [if_pos h, List.nil_append, List.replicate_succ, h.2]
      rw [h.1, List.nil_append] at hn
      rw [← hn]
    · refine ⟨n, ?_⟩
      show _ = (if _ then _ else _) ++ _
      rw [if_neg h, List.cons_append, ← hn]
/-- The digits of a number, behind noughts. -/
theorem quads_split {x : Nat} : ∃ n, quads (dg 10000 x) = List.replicate n 0 ++ (dg 10 x).reverse := by
  have hq := quads_vb _ (dg_lo (b := 10000) (by omega) x)
  rw [vb_dg (by omega)] at hq
  have ht := trimL_dg (b := 10) (by omega) _ hq.2
  rw [hq.1] at ht
  obtain ⟨n, hn⟩ := trimL_split (quads (dg 10000 x)).reverse
  refine ⟨n, ?_⟩
  rw [ht] at hn
  have := congrArg List.reverse hn
  rwa [List.reverse_reverse, List.reverse_append, List.reverse_replicate] at this
theorem bn_news (w : World) (xs : Array Value) (t : TypeId) : ∀ j u, xs.toList[j]? = some u → (w.alloc (.cells xs t)).cell? ((⟨w.heap.size, 0, none⟩ : Addr).add j) = some u := by
  intro j u hj
  rw [Array.getElem?_toList] at hj
  have e : ((⟨w.heap.size, 0, none⟩ : Addr).add j) = ⟨w.heap.size, j, none⟩ := by unfold Addr.add; split <;> simp_all
  rw [e, World.cell?_alloc_new]
  exact hj
theorem wpList_appendL {P : Program} {w : World} {ops : Array Oper} {rest : List Oper} {o : Oper} {a : Act} {Q : Exit → Act → World → Prop} (t e : TypeId) (s x : Operand) (hgd : o.guard = none)
    (ho : o.op = .call { callee := .builtin .append, args := #[s, x], argTypes := #[t, t] })
    (base : Nat) {z : Value} {bytes : Nat} (ht : P.underlying t = some (.slice e)) (hinfo : (P.info? e).map (fun i => (i.zero, i.size, i.bytes)) = some (some z, 1, bytes)) (hzs : z.cells.size = 1)
    {v : Value} {us : Array Value} {n m : Nat} {xs : List Value} (hs : a.eval s = v) (hown : w.ownsRow base e 1 v n xs)
    {B : Nat} (hx : a.eval x = .slice (some ⟨B, 0, none⟩) m m) (hB : w.heap.size = B) (hm : us.size = m) (hu : ∀ u ∈ us.toList, u.oneCell' = true)
    (h63 : n + m ≤ maxLen) (hbytes : (n + m) * bytes ≤ 140737488355328) (hbase : base ≤ w.heap.size)
    (h : ∀ v' w', w'.ownsRow base e 1 v' (n + m) (xs ++ us.toList) → w.grownBy w' v.ownBlock → (v'.ownBlock = v.ownBlock ∨ v'.ownBlock = some (B + 1)) → wpList P ops Q rest (a.put o.dst v') w') :
    wpList P ops Q (o :: rest) a (w.alloc (.cells us e)) := by
  subst hB
  obtain ⟨i0, hi, hz0, hz1, hz2⟩ := info_parts hinfo
  refine wpList_append_own_at _ hgd s x t ho base e i0 z 1 bytes ht hi hz0 hz1 hz2 hzs (by omega) v n xs hs (hown.alloc _) ⟨w.heap.size, 0, none⟩ m m us.toList hx (by simpa using hm) (bn_news w us e) hu h63 hbytes (by simp; omega) ?_
  intro v' w' h1 h2 _ h4
  refine h v' w' h1 ((World.grownBy_alloc w _ _).trans h2) (by simpa using h4)
theorem strOf_dec {x : Nat} (h : x ≠ 0) : strOfNums ((dg 10 x).reverse.map fun d => ((48 + d : Nat) : Int)) = ⟨(decT x).toArray⟩ := by
  unfold decT strOfNums
  rw [if_neg h, List.map_map]
  congr 3

set_option maxRecDepth 20000 in
set_option maxHeartbeats 8000000 in
theorem rtext_any (A : Option Addr) (c B x : Nat) (w : World) (hr : Rw .i64 w B A (dg 10000 x)) (hB0 : B ≤ w.heap.size) (hl : (dg 10000 x).length ≤ 1000000) :
    Calls Try.prog 41 #[.slice A (dg 10000 x).length c] w fun e w' => e = .returned (.string ⟨(decT x).toArray⟩) ∧ Below w.heap.size w w' := by
  by_cases hx0 : x = 0
  · subst hx0
    clear hr
    rw [show (dg 10000 0).length = 0 from rfl]
    go_enter Try.func41, Try.ntmps41
    go_wp2_with fail
    go_ret
    exact ⟨rfl, Below.refl _ _⟩
  obtain ⟨nz, hnz⟩ := quads_split (x := x)
  have hlo := dg_lo (b := 10000) (by omega) x
  have hl0 : (dg 10000 x).length ≠ 0 := by rw [dg_step (by omega) x (by omega)]; simp
  have htop : 0 < (dg 10 x).length := by rw [dg_step (by omega) x (by omega)]; simp
  have hlead : (dg 10 x).reverse.getD 0 0 ≠ 0 := by
    have h := dg_top (b := 10) (by omega) x (by intro h; rw [h] at htop; simp at htop)
    rw [List.getD_eq_getElem?_getD, List.getElem?_reverse htop]
    rw [List.getLast_eq_getElem] at h
    rw [show (dg 10 x).length - 1 - 0 = (dg 10 x).length - 1 by omega, List.getElem?_eq_getElem (by omega)]
    exact h
  have hP0 : ∀ k, k < nz → (quads (dg 10000 x)).getD k 0 = 0 := fun k hk => by
    rw [hnz, List.getD_eq_getElem?_getD, List.getElem?_append_left (by simpa using hk), List.getElem?_replicate, if_pos hk]; rfl
  have hPn : (quads (dg 10000 x)).getD nz 0 ≠ 0 := by
    rw [hnz, List.getD_eq_getElem?_getD, List.getElem?_append_right (by simp), List.length_replicate, Nat.sub_self, ← List.getD_eq_getElem?_getD]; exact hlead
  have hPl := quads_len (dg 10000 x)
  have hnl : nz < (quads (dg 10000 x)).length := by rw [hnz]; simp; omega
  have hPd : ∀ j, (quads (dg 10000 x)).getD (nz + j) 0 = (dg 10 x).reverse.getD j 0 := fun j => by
    rw [hnz, List.getD_eq_getElem?_getD, List.getElem?_append_right (by simp), List.length_replicate, Nat.add_sub_cancel_left, ← List.getD_eq_getElem?_getD]
  have hDl : (dg 10 x).length = (quads (dg 10000 x)).length - nz := by rw [hnz]; simp
  have hqd := fun i h => quads_drop (dg 10000 x) (i := i) h
  have hql := fun i => quads_len ((dg 10000 x).drop i)
  have hsd := strOf_dec hx0
  generalize dg 10000 x = l at *
  have H := Lib.hid (And.intro hP0 (And.intro hPn (And.intro hPl (And.intro hnl (And.intro hPd (And.intro hDl (And.intro hsd hqd)))))))
  have HL := Lib.hid hql
  clear hP0 hPn hPl hnl hPd hDl hqd hlead htop hnz hsd hx0 hql
  have y2 : ((l.length : Int) == 0) = false := by rw [beq_eq_false_iff_ne]; omega
  go_enter Try.func41, Try.ntmps41
  go_wp2_with fail
  go_loopw [3, 4] (fun v3 v4 wr => ∃ i : Nat, v4 = .int .i64 ((i : Int) - 1) ∧ i ≤ l.length ∧ wr.ownsRow w.heap.size 5 1 v3 (4 * (l.length - i)) (cellsN .u8 (asc (quads (l.drop i)))) ∧ Below w.heap.size w wr)
    (fun _ v4 _ => (intOf v4 + 1).toNat)
  case atStart => exact ⟨l.length, by go_num, Nat.le_refl _, by rw [List.drop_of_length_le (Nat.le_refl _), Nat.sub_self]; exact ⟨rfl, .inl ⟨rfl, rfl⟩⟩, Below.refl _ _⟩
  case round =>
    obtain ⟨i, rfl, hi, hown, hB⟩ := hrel
    have hgz := hB.size
    cases i with
    | succ i =>
      obtain ⟨b1, o1, rfl, _, hc1⟩ := (hr.below (hB.mono hB0)).at_ (i := i) (by omega)
      have hdl := lo_getD (b := 10000) (by omega) hlo i
      have hqd := H.out.2.2.2.2.2.2.2 i (by omega)
      generalize l.getD i 0 = d at *
      have hi1 : (((i + 1 : Nat) : Int) - 1) = (i : Int) := by omega
      rw [hi1]
      have i0 : (0 : Int) ≤ (i : Int) := by omega
      have i2 : (i : Int) < (l.length : Int) := by omega
      have e1 : (d : Int).tdiv 1000 = ((d / 1000 : Nat) : Int) := (Int.ofNat_tdiv d 1000).symm
      have e2 : (d : Int).tdiv 100 = ((d / 100 : Nat) : Int) := (Int.ofNat_tdiv d 100).symm
      have e3 : (d : Int).tdiv 10 = ((d / 10 : Nat) : Int) := (Int.ofNat_tdiv d 10).symm
      have e4 : ((d / 100 : Nat) : Int).tmod 10 = ((d / 100 % 10 : Nat) : Int) := (Int.ofNat_tmod (d / 100) 10).symm
      have e5 : ((d / 10 : Nat) : Int).tmod 10 = ((d / 10 % 10 : Nat) : Int) := (Int.ofNat_tmod (d / 10) 10).symm
      have e6 : (d : Int).tmod 10 = ((d % 10 : Nat) : Int) := (Int.ofNat_tmod d 10).symm
      obtain ⟨n, hn⟩ : ∃ n, n = 4 * (l.length - (i + 1)) := ⟨_, rfl⟩
      rw [← hn] at hown
      have hn1 : n ≤ 4000000 := by omega
      have HQ := Lib.hid (And.intro hqd hn)
      clear hqd hn
      go_wp2_with (at_builtin; refine wpList_appendL 62 5 (.tmp 21) (.tmp 40) rfl rfl w.heap.size Try.underlying62 byte_info rfl rfl hown rfl rfl rfl (by intro u hu; simp only [List.mem_cons, List.not_mem_nil, or_false] at hu; rcases hu with rfl | rfl | rfl | rfl <;> rfl) (by unfold maxLen; omega) (by omega) hgz ?_; intro v' w' hown' hgrow _)
      obtain ⟨hqd, hn⟩ := HQ.out
      have e : cellsN .u8 (asc (quads (l.drop i))) = cellsN .u8 (asc (quads (l.drop (i + 1)))) ++ [.int .u8 (48 + (d : Int) / 1000), .int .u8 (48 + (d : Int) / 100 % 10), .int .u8 (48 + (d : Int) / 10 % 10), .int .u8 (48 + (d : Int) % 10)] := by
        rw [hqd]; simp [cellsN, asc, quad]
      refine ⟨⟨i, rfl, by omega, ?_, hB.grown hgrow hgz (fun k hk => (hown.lt k hk).1)⟩, by simp [intOf]⟩
      rw [e, show 4 * (l.length - i) = n + 4 by omega]
      exact hown'
    | zero =>
      have hi1 : (((0 : Nat) : Int) - 1) = -1 := by omega
      rw [hi1]
      obtain ⟨hP0, hPn, hPl, hnl, hPd, hDl, hsd, _⟩ := H.out
      rw [List.drop_zero] at hown
      rw [Nat.sub_zero, ← hPl] at hown
      have hlenc : (cellsN .u8 (asc (quads l))).length = (quads l).length := by rw [cellsN_len, asc_len]
      obtain ⟨A3, c3, rfl, hc1, hc2, _⟩ := own_form hown
      obtain ⟨g, rfl, hg1, hg2, hx1, hx2⟩ := own_at hown (cellsN_at (k := .u8) (show nz < (asc (quads l)).length by rw [asc_len]; exact hnl))
      have hcell : ∀ k, k < (quads l).length → wr.cell? ⟨g, k, none⟩ = some (.int .u8 ((48 + (quads l).getD k 0 : Nat) : Int)) := fun k hk => by
        have h := hown.cellAt k (by omega)
        have h2 := cellsN_at (k := .u8) (show k < (asc (quads l)).length by rw [asc_len]; exact hk)
        refine h.trans (h2.trans ?_)
        congr 3
        unfold asc
        rw [List.getD_eq_getElem?_getD, List.getD_eq_getElem?_getD, List.getElem?_map, List.getElem?_eq_getElem hk]; rfl
      have hcv := run_convert_bytes_arg (P := Try.prog) wr 62 5 Try.underlying62 Try.underlying5 g nz ((quads l).length - nz) (c3 - nz) ((dg 10 x).reverse.map fun d => ((48 + d : Nat) : Int)) (by rw [List.length_map, List.length_reverse]; exact hDl)
        (fun k hk => by
          have hk2 : k < (dg 10 x).reverse.length := by rw [List.length_reverse]; omega
          rw [hcell (nz + k) (by omega), hPd k, List.getD_eq_getElem?_getD, List.getD_eq_getElem?_getD, List.getElem?_map, List.getElem?_eq_getElem hk2]; rfl) 9 Try.underlying9
      rw [hsd] at hcv
      have hPm : (quads l).length ≤ 4000000 := by omega
      generalize (quads l).length = N at *
      have HC := Lib.hid (And.intro hcell (And.intro hP0 hPn))
      clear hcell hP0 hPn hown hPd hsd hDl hlenc hPl hx1 hx2
      go_wp2_with fail
      go_loopw [6] (fun v6 wy => ∃ k : Nat, v6 = .int .i64 (k : Int) ∧ k ≤ nz ∧ wr = wy) (fun v6 _ => nz - (intOf v6).toNat)
      case atStart => exact ⟨0, rfl, Nat.zero_le _, rfl⟩
      case round =>
        obtain ⟨k, rfl, hk, rfl⟩ := hrel
        obtain ⟨hcell, hP0, hPn⟩ := HC.out
        have hck := hcell k (by omega)
        have k1 : (k : Int) < (N : Int) := by omega
        by_cases hlt : k < nz
        · rw [hP0 k hlt] at hck
          clear hcell hP0 hPn hcv
          go_wp2_with fail
          go_roundw
          case rel => exact ⟨k + 1, by go_num, by omega, trivial⟩
          case measure => simp [intOf]; omega
        · obtain rfl : k = nz := by omega
          have hne : (((48 + (quads l).getD k 0 : Nat) : Int) == 48) = false := by rw [beq_eq_false_iff_ne]; omega
          generalize (((48 + (quads l).getD k 0 : Nat) : Int)) = y at *
          clear hcell hP0 hPn
          have k2 : (k : Int) ≤ (N : Int) := by omega
          have k3 : (k : Int) ≤ (c3 : Int) := by omega
          go_wp2_with fail
          go_ret
          exact ⟨rfl, hB⟩


end Go.Proofs.Ytbkfnmmfjpaifaa
