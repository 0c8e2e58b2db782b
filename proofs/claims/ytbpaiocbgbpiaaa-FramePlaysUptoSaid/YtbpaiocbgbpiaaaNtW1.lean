/- The document's numbers, walked: trim, Small, Times, Add. -/
import Derived.Test.YtbpaiocbgbpiaaaProg
import Derived.Lib.Hide
import Derived.WalkKit
import Derived.WalkLawsBesides
import Derived.WalkSpells
import Derived.Test.YtbpaiocbgbpiaaaMem
import Derived.Test.YtbpaiocbgbpiaaaNtPlain
namespace Go.Proofs.Ytbpaiocbgbpiaaa
open Go.RowKit
set_option linter.unusedVariables false

/-- The slice at A reads as these numbers, below block B. -/
def Rw (k : IntKind) (w : World) (B : Nat) (A : Option Addr) (l : List Nat) : Prop :=
  0 < l.length → ∃ b off, A = some ⟨b, off, none⟩ ∧ b < B ∧ ∀ j, j < l.length → w.cell? ⟨b, off + j, none⟩ = some (.int k ((l.getD j 0 : Nat) : Int))
def cellsN (k : IntKind) (l : List Nat) : List Value := l.map fun (z : Nat) => Value.int k (z : Int)
theorem cellsN_snoc (k : IntKind) (l : List Nat) (x : Nat) : cellsN k (l ++ [x]) = cellsN k l ++ [.int k (x : Int)] := by simp [cellsN]
theorem cellsN_len (k : IntKind) (l : List Nat) : (cellsN k l).length = l.length := by simp [cellsN]
theorem cellsN_at {k : IntKind} {l : List Nat} {i : Nat} (h : i < l.length) : (cellsN k l)[i]? = some (.int k ((l.getD i 0 : Nat) : Int)) := by
  simp [cellsN, List.getD_eq_getElem?_getD, List.getElem?_eq_getElem h]

section
variable {k : IntKind} {w w' : World} {B B' : Nat} {A : Option Addr} {l : List Nat}
theorem Rw.nil (k : IntKind) (w : World) (B : Nat) (A : Option Addr) : Rw k w B A [] := fun h => absurd h (by simp)
theorem Rw.below (h : Rw k w B A l) (hb : Below B w w') : Rw k w' B A l := fun hl => by
  obtain ⟨b, off, e, hB, hc⟩ := h hl
  exact ⟨b, off, e, hB, fun j hj => (hb.cell (p := ⟨b, off + j, none⟩) hB).trans (hc j hj)⟩
theorem Rw.more (h : Rw k w B A l) (hB : B ≤ B') : Rw k w B' A l := fun hl => by
  obtain ⟨b, off, e, hb, hc⟩ := h hl
  exact ⟨b, off, e, by omega, hc⟩
theorem Rw.at_ (h : Rw k w B A l) {i : Nat} (hi : i < l.length) : ∃ b off, A = some ⟨b, off, none⟩ ∧ b < B ∧ w.cell? ⟨b, off + i, none⟩ = some (.int k ((l.getD i 0 : Nat) : Int)) := by
  obtain ⟨b, off, e, hb, hc⟩ := h (by omega)
  exact ⟨b, off, e, hb, hc i hi⟩
theorem Rw.take (h : Rw k w B A l) (n : Nat) : Rw k w B A (l.take n) := fun hl => by
  rw [List.length_take] at hl
  obtain ⟨b, off, e, hb, hc⟩ := h (by omega)
  refine ⟨b, off, e, hb, fun j hj => ?_⟩
  rw [List.length_take] at hj
  have : (l.take n).getD j 0 = l.getD j 0 := by rw [List.getD_eq_getElem?_getD, List.getD_eq_getElem?_getD, List.getElem?_take_of_lt (by omega)]
  rw [this]; exact hc j (by omega)
theorem Rw.of_own {base : Nat} {e : TypeId} {c n : Nat} (h : w.ownsRow base e 1 (.slice A n c) n (cellsN k l)) : Rw k w w.heap.size A l := fun hl => by
  obtain ⟨g, rfl, h1, h2, _⟩ := own_at h (cellsN_at (k := k) hl)
  refine ⟨g, 0, rfl, h2, fun j hj => ?_⟩
  obtain ⟨g', e', _, _, h3, _⟩ := own_at h (cellsN_at (k := k) hj)
  cases e'
  rw [Nat.zero_add]; exact h3
end
theorem trimL_take : ∀ l : List Nat, ∃ n, n ≤ l.length ∧ trimL l = l.take n
  | [] => ⟨0, by simp, rfl⟩
  | x :: l => by
    obtain ⟨n, hn, e⟩ := trimL_take l
    by_cases h : trimL l = [] ∧ x = 0
    · exact ⟨0, by simp, by show (if _ then _ else _) = _; rw [if_pos h]; rfl⟩
    · exact ⟨n + 1, by simp; exact hn, by show (if _ then _ else _) = _; rw [if_neg h, e]; rfl⟩
theorem Rw.trim {k : IntKind} {w : World} {B : Nat} {A : Option Addr} {l : List Nat} (h : Rw k w B A l) : Rw k w B A (trimL l) := by
  obtain ⟨n, _, e⟩ := trimL_take l
  rw [e]; exact h.take n
theorem trimL_len (l : List Nat) : (trimL l).length ≤ l.length := by
  obtain ⟨n, hn, e⟩ := trimL_take l
  rw [e, List.length_take]; omega
def lenOf : Value → Nat
  | .slice _ n _ => n
  | _ => 0

set_option maxHeartbeats 1000000 in
theorem rtrim_any (A : Option Addr) (c B : Nat) (l : List Nat) (w : World) (hr : Rw .i64 w B A l) (hc : l.length ≤ c) (hm : c ≤ maxLen) :
    Calls Try.prog 55 #[.slice A l.length c] w fun e w' => e = .returned (.slice A (trimL l).length c) ∧ w = w' := by
  unfold maxLen at hm
  go_enter Try.func55, Try.ntmps55
  go_wp2_with fail
  go_loopw [0] (fun v wr => ∃ n, n ≤ l.length ∧ v = .slice A n c ∧ trimL (l.take n) = trimL l ∧ wr = w) (fun v _ => lenOf v)
  case atStart => exact ⟨l.length, Nat.le_refl _, rfl, by rw [List.take_length], rfl⟩
  case round =>
    obtain ⟨n, hn, rfl, ht, rfl⟩ := hrel
    cases n with
    | zero =>
      go_wp2_with fail
      go_ret
      rw [← ht]
      exact ⟨rfl, rfl⟩
    | succ n =>
      obtain ⟨b, off, rfl, _, hcell⟩ := hr.at_ (i := n) (by omega)
      by_cases h0 : l.getD n 0 = 0
      · have ht2 := (take_trim (by omega) h0).symm.trans ht
        rw [h0] at hcell
        clear ht
        go_wp2_with fail
        go_roundw
        case rel => exact ⟨n, by omega, by go_num, ht2, trivial⟩
        case measure => simp [lenOf]
      · have ht2 := (take_stop (by omega) h0).symm.trans ht
        have hl2 := congrArg List.length ht2
        rw [List.length_take, Nat.min_eq_left (by omega)] at hl2
        replace hl2 := Lib.hid hl2
        have hne : (((l.getD n 0 : Nat) : Int) == 0) = false := by rw [beq_eq_false_iff_ne]; omega
        generalize l.getD n 0 = x at *
        go_wp2_with fail
        go_ret
        rw [← hl2.out]
        exact ⟨rfl, rfl⟩

/-- The answer is this number. -/
def NumIs (x : Nat) (w : World) (e : Ending) (w' : World) : Prop :=
  ∃ A c, e = .returned (.slice A (dg 10000 x).length c) ∧ (dg 10000 x).length ≤ c ∧ c ≤ maxLen ∧ Rw .i64 w' w'.heap.size A (dg 10000 x) ∧ Below w.heap.size w w'
theorem int_info : (Try.prog.info? 3).map (fun i => (i.zero, i.size, i.bytes)) = some (some (.int .i64 0), 1, 8) := by kernel_rfl
theorem lo_nil (b : Nat) : Lo b [] := fun x hx => by cases hx

set_option maxHeartbeats 1000000 in
theorem small_any (n : Nat) (w : World) (hn : n < 9223372036854775808) :
    Calls Try.prog 59 #[.int .i64 (n : Int)] w (NumIs n w) := by
  have hd19 : (dg 10000 n).length ≤ 19 := (dg_len (by omega) 19 n).2 (Nat.lt_of_lt_of_le hn (by decide))
  go_enter Try.func59, Try.ntmps59
  go_wp2_with fail
  go_loopw [0, 3] (fun v0 v3 wr => ∃ (pre : List Nat) (k : Nat), v0 = .int .i64 (k : Int) ∧ k ≤ n ∧ pre ++ dg 10000 k = dg 10000 n ∧ wr.ownsRow w.heap.size 3 1 v3 pre.length (cellsN .i64 pre) ∧ Below w.heap.size w wr)
    (fun v0 _ _ => (intOf v0).toNat)
  case atStart => exact ⟨[], n, rfl, Nat.le_refl _, rfl, ⟨rfl, .inl ⟨rfl, rfl⟩⟩, Below.refl _ _⟩
  case round =>
    obtain ⟨pre, k, rfl, hk, hpd, hown, hB⟩ := hrel
    have hgz := hB.size
    by_cases h0 : k = 0
    · subst h0
      have hpe : pre = dg 10000 n := by rw [← hpd, dg_zero, List.append_nil]
      subst hpe
      obtain ⟨A, c, rfl, hc1, hc2, _⟩ := own_form hown
      have HR := Lib.hid (Rw.of_own hown)
      have HO := Lib.hid hpd
      clear hpd hown
      go_wp2_with fail
      go_ret
      exact ⟨_, _, rfl, hc1, hc2, HR.out, hB⟩
    · have hst := dg_step (b := 10000) (by omega) k (by omega)
      have hl1 := congrArg List.length hpd
      rw [hst, List.length_append, List.length_cons] at hl1
      have HD := Lib.hid (show pre ++ (k % 10000 :: dg 10000 (k / 10000)) = dg 10000 n by rw [← hst]; exact hpd)
      have hlt : k / 10000 < k := Nat.div_lt_self (by omega) (by omega)
      have hpl : pre.length ≤ 19 := by omega
      have e1 : (k : Int).tmod 10000 = ((k % 10000 : Nat) : Int) := (Int.ofNat_tmod k 10000).symm
      have e2 : (k : Int).tdiv 10000 = ((k / 10000 : Nat) : Int) := (Int.ofNat_tdiv k 10000).symm
      have k0 : (0 : Int) < (k : Int) := by omega
      clear hpd hst hl1
      go_wp2_with (at_builtin; refine wpList_append1 113 3 (.tmp 6) (.tmp 9) rfl rfl w.heap.size Try.underlying113 int_info rfl rfl hown rfl rfl rfl (by unfold maxLen; omega) (by omega) hgz ?_; intro v' w' hown' hgrow _)
      rw [show ((k : Int) % 10000) = ((k % 10000 : Nat) : Int) by omega, ← cellsN_snoc] at hown'
      refine ⟨⟨pre ++ [k % 10000], k / 10000, by go_num, by omega, by rw [List.append_assoc]; exact HD.out, by simpa using hown', hB.grown hgrow hgz (fun k hk => (hown.lt k hk).1)⟩, ?_⟩
      simp [intOf]; omega

set_option maxHeartbeats 2000000 in
theorem times_any (A : Option Addr) (c B x n : Nat) (w : World) (hr : Rw .i64 w B A (dg 10000 x)) (hB0 : B ≤ w.heap.size) (hl : (dg 10000 x).length ≤ 1000000) (hn : n < 1099511627777) (hc : (dg 10000 x).length ≤ c) (hm : c ≤ maxLen) :
    Calls Try.prog 62 #[.slice A (dg 10000 x).length c, .int .i64 (n : Int)] w (NumIs (x * n) w) := by
  have hlo := dg_lo (b := 10000) (by omega) x
  have hv := vb_dg (b := 10000) (by omega) x
  generalize dg 10000 x = l at *
  subst hv
  unfold maxLen at hm
  go_enter Try.func62, Try.ntmps62
  go_wp2_with fail
  go_loopw [5, 6, 7] (fun v5 v6 v7 wr => ∃ (pre : List Nat) (k : Nat), v6 = .int .i64 (k : Int) ∧ v7 = .int .i64 (pre.length : Int) ∧ k ≤ n ∧ pre.length + k ≤ l.length + n ∧ Lo 10000 pre ∧ vb 10000 pre + 10000 ^ pre.length * k = vb 10000 (l.take pre.length) * n ∧
      wr.ownsRow w.heap.size 3 1 v5 pre.length (cellsN .i64 pre) ∧ Below w.heap.size w wr)
    (fun _ v6 v7 _ => (l.length - (intOf v7).toNat) * 2199023255552 + (intOf v6).toNat)
  case atStart => exact ⟨[], 0, rfl, rfl, Nat.zero_le _, by simp, lo_nil _, by simp [vb], ⟨rfl, .inl ⟨rfl, rfl⟩⟩, Below.refl _ _⟩
  case round =>
    obtain ⟨pre, k, rfl, rfl, hk, hpk, hlp, hval, hown, hB⟩ := hrel
    have hgz := hB.size
    have hrw : Rw .i64 wr B A l := hr.below (hB.mono hB0)
    have hd := lo_getD (b := 10000) (by omega) hlo pre.length
    have hvt := vb_take 10000 l pre.length
    by_cases hlt : pre.length < l.length
    · obtain ⟨b, off, rfl, _, hcell⟩ := hrw.at_ hlt
      have hse := step_eq 10000 pre (k + l.getD pre.length 0 * n) k _ (l.getD pre.length 0 * n) hval rfl
      have hmul : l.getD pre.length 0 * n ≤ 9999 * n := Nat.mul_le_mul_right n (by omega)
      have hlt' : (pre.length : Int) < (l.length : Int) := by omega
      have hg1 : (((l.getD pre.length 0) * n : Nat) : Int) = ((l.getD pre.length 0 : Nat) : Int) * (n : Int) := by push_cast; rfl
      generalize l.getD pre.length 0 = d at *
      have HV := Lib.hid (And.intro hse hvt)
      clear hse hvt hval hrw
      have hq0 : (0 : Int) ≤ (d : Int) * (n : Int) := by omega
      have hq1 : (d : Int) * (n : Int) ≤ 9999 * (n : Int) := by omega
      obtain ⟨q, hq⟩ : ∃ q, q = k + d * n := ⟨_, rfl⟩
      have eq : (k : Int) + (d : Int) * (n : Int) = (q : Int) := by subst hq; push_cast; rfl
      have HQ := Lib.hid (And.intro hq eq)
      clear hq eq
      go_wp2_with (at_builtin; refine wpList_append1 113 3 (.tmp 30) (.tmp 33) rfl rfl w.heap.size Try.underlying113 int_info rfl rfl hown rfl rfl rfl (by unfold maxLen; omega) (by omega) hgz ?_; intro v' w' hown' hgrow _)
      obtain ⟨hq, eq⟩ := HQ.out
      obtain ⟨hse, hvt⟩ := HV.out
      rw [eq, show ((q : Int) % 10000) = ((q % 10000 : Nat) : Int) by omega, ← cellsN_snoc] at hown'
      rw [eq]
      rw [← hq] at hse
      refine ⟨⟨pre ++ [q % 10000], q / 10000, by go_num, by simp, by omega, by simp; omega, lo_snoc hlp (by omega), ?_, by simpa using hown', hB.grown hgrow hgz (fun k hk => (hown.lt k hk).1)⟩, ?_⟩
      · rw [List.length_append, List.length_singleton, hse, hvt, Nat.add_mul, Nat.mul_assoc]
      · simp [intOf]; omega
    · have hd0 : l.getD pre.length 0 = 0 := by rw [List.getD_eq_getElem?_getD, List.getElem?_eq_none (by omega)]; rfl
      rw [hd0, Nat.mul_zero, Nat.add_zero] at hvt
      have hse := step_eq 10000 pre k k _ 0 hval rfl
      rw [Nat.mul_zero, Nat.add_zero] at hse
      have hlt' : ¬ (pre.length : Int) < (l.length : Int) := by omega
      have HV := Lib.hid (And.intro hse hvt)
      have HVal := Lib.hid hval
      clear hse hvt hval hrw hd hd0
      by_cases h0 : k = 0
      · subst h0
        obtain ⟨A', c', rfl, hc1, hc2, _⟩ := own_form hown
        have HR := Lib.hid (Rw.of_own hown)
        have HT := Lib.hid (fun w => rtrim_any A' c' w.heap.size pre w)
        clear hown
        go_wp2_with fail
        refine (HT.out wr HR.out hc1 hc2).mono ?_
        rintro e wx ⟨rfl, rfl⟩
        go_wp2_with fail
        go_ret
        have hv := HVal.out
        rw [Nat.mul_zero, Nat.add_zero, List.take_of_length_le (by omega)] at hv
        have ht := trimL_dg (b := 10000) (by omega) pre hlp
        rw [hv] at ht
        have hR := HR.out.trim
        have hle := trimL_len pre
        rw [ht] at hR hle ⊢
        exact ⟨_, _, rfl, by omega, hc2, hR, hB⟩
      · have k0 : (0 : Int) < (k : Int) := by omega
        go_wp2_with (at_builtin; refine wpList_append1 113 3 (.tmp 30) (.tmp 33) rfl rfl w.heap.size Try.underlying113 int_info rfl rfl hown rfl rfl rfl (by unfold maxLen; omega) (by omega) hgz ?_; intro v' w' hown' hgrow _)
        obtain ⟨hse, hvt⟩ := HV.out
        rw [show ((k : Int) % 10000) = ((k % 10000 : Nat) : Int) by omega, ← cellsN_snoc] at hown'
        refine ⟨⟨pre ++ [k % 10000], k / 10000, by go_num, by simp, by omega, by simp; omega, lo_snoc hlp (by omega), ?_, by simpa using hown', hB.grown hgrow hgz (fun k hk => (hown.lt k hk).1)⟩, ?_⟩
        · rw [List.length_append, List.length_singleton, hse, hvt]; simp
        · simp [intOf]; omega

end Go.Proofs.Ytbpaiocbgbpiaaa
