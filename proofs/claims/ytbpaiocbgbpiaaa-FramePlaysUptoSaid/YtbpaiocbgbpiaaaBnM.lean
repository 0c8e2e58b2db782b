/- The document's product, walked. -/
import Derived.Test.YtbpaiocbgbpiaaaNtW3
import Derived.OwnWalk
namespace Go.Proofs.Ytbpaiocbgbpiaaa
open Go.RowKit
set_option linter.unusedVariables false

theorem vb_set (b : Nat) : ∀ (l : List Nat) (p x : Nat), p < l.length → vb b (l.set p x) + b ^ p * l.getD p 0 = vb b l + b ^ p * x
  | [], p, x, h => by simp at h
  | y :: l, 0, x, h => by
    show x + b * vb b l + b ^ 0 * y = y + b * vb b l + b ^ 0 * x
    simp; omega
  | y :: l, p + 1, x, h => by
    have ih := vb_set b l p x (by simpa using h)
    show y + b * vb b (l.set p x) + b ^ (p + 1) * l.getD p 0 = y + b * vb b l + b ^ (p + 1) * x
    have e : b * (vb b (l.set p x) + b ^ p * l.getD p 0) = b * (vb b l + b ^ p * x) := by rw [ih]
    rw [Nat.mul_add, Nat.mul_add, ← Nat.mul_assoc, ← Nat.mul_assoc, Nat.mul_comm b (b ^ p), ← Nat.pow_succ] at e
    clear ih
    generalize b ^ (p + 1) = P at e ⊢
    omega
theorem lo_set {b : Nat} {l : List Nat} (h : Lo b l) {x : Nat} (hx : x < b) (p : Nat) : Lo b (l.set p x) := fun y hy => by
  rcases List.mem_or_eq_of_mem_set hy with hy | rfl
  · exact h y hy
  · exact hx
theorem lo_zero {b : Nat} (hb : 0 < b) (n : Nat) : Lo b (List.replicate n 0) := fun y hy => by rw [List.eq_of_mem_replicate hy]; exact hb
theorem vb_zero (b : Nat) : ∀ n, vb b (List.replicate n 0) = 0
  | 0 => rfl
  | n + 1 => by show 0 + b * vb b (List.replicate n 0) = 0; rw [vb_zero b n]; simp
theorem cellsN_set (k : IntKind) (l : List Nat) (p x : Nat) : (cellsN k l).set p (.int k (x : Int)) = cellsN k (l.set p x) := by simp [cellsN, List.map_set]
/-- One step of the product. -/
theorem mul_step (b : Nat) (o : List Nat) (p q carry V t : Nat) (hp : p < o.length) (h : vb b o + b ^ p * carry = V) (hq : q = carry + o.getD p 0 + t) :
    vb b (o.set p (q % b)) + b ^ (p + 1) * (q / b) = V + b ^ p * t := by
  have e := Nat.mod_add_div q b
  have e2 : b ^ p * (q % b + b * (q / b)) = b ^ p * (carry + o.getD p 0 + t) := by rw [e, hq]
  rw [Nat.mul_add, Nat.mul_add, Nat.mul_add, ← Nat.mul_assoc] at e2
  have h2 := vb_set b o p (q % b) hp
  rw [Nat.pow_succ]
  omega
theorem made_zero (n : Nat) : (madeCells (Value.int .i64 0).cells (n * 1)).toList = cellsN .i64 (List.replicate n 0) := by
  rw [Nat.mul_one, show (Value.int .i64 0).cells = #[Value.int .i64 0] from rfl, toList_madeCells_one]
  simp [cellsN]

set_option maxRecDepth 20000 in
set_option maxHeartbeats 8000000 in
theorem rmul_any (A : Option Addr) (c B x : Nat) (A2 : Option Addr) (c2 y : Nat) (w : World) (hr : Rw .i64 w B A (dg 10000 x)) (hr2 : Rw .i64 w B A2 (dg 10000 y)) (hB0 : B ≤ w.heap.size)
    (hl : (dg 10000 x).length ≤ 1000000) (hl2 : (dg 10000 y).length ≤ 1000000) :
    Calls Try.prog 58 #[.slice A (dg 10000 x).length c, .slice A2 (dg 10000 y).length c2] w (NumIs (x * y) w) := by
  have hlo1 := dg_lo (b := 10000) (by omega) x
  have hv1' := vb_dg (b := 10000) (by omega) x
  have hlo2 := dg_lo (b := 10000) (by omega) y
  have hv2' := vb_dg (b := 10000) (by omega) y
  generalize dg 10000 x = l1 at *
  generalize dg 10000 y = l2 at *
  subst hv1' hv2'
  obtain ⟨i0, hi, hz0, hz1, hz2⟩ := info_parts int_info
  go_enter Try.func58, Try.ntmps58
  go_wp2_with (refine wpList_make_full _ rfl (.tmp 14) (.tmp 14) 113 rfl w.heap.size 3 i0 (.int .i64 0) 1 Try.underlying113 hi hz0 hz1 .i64 .i64 _ _ (l1.length + l2.length + 1) rfl rfl (by go_num) (by go_num) (by rw [hz2]; omega) (by unfold maxLen; omega) (Nat.le_refl _) ?_; intro w0 hown0 hgrow0)
  rw [made_zero] at hown0
  have hB0' : Below w.heap.size w w0 := (Below.refl _ w).grown hgrow0 (Nat.le_refl _) (fun k e => by cases e)
  generalize hN : l1.length + l2.length + 1 = N at *
  have hg := (hown0.lt w.heap.size rfl).1
  go_loopw [6] (fun v6 wr => ∃ (i : Nat) (o : List Nat), v6 = .int .i64 (i : Int) ∧ i ≤ l1.length ∧ o.length = N ∧ Lo 10000 o ∧ vb 10000 o = vb 10000 (l1.take i) * vb 10000 l2 ∧
      wr.ownsRow w.heap.size 3 1 (.slice (some ⟨w.heap.size, 0, none⟩) N N) N (cellsN .i64 o) ∧ Below w.heap.size w wr)
    (fun v6 _ => l1.length - (intOf v6).toNat)
  case atStart => exact ⟨0, _, rfl, Nat.zero_le _, by simp, lo_zero (by omega) _, by rw [vb_zero]; simp [vb], hown0, hB0'⟩
  case round =>
    obtain ⟨i, o, rfl, hi1, hol, hoo, hov, hown, hBr⟩ := hrel
    by_cases hlt : i < l1.length
    · obtain ⟨b, off, rfl, _, hai⟩ := (hr.below (hBr.mono hB0)).at_ hlt
      have hda := lo_getD (b := 10000) (by omega) hlo1 i
      have hta := vb_take 10000 l1 i
      have hlta := vb_lt 10000 (by omega) _ (lo_take hlo1 (i + 1))
      rw [List.length_take, Nat.min_eq_left (by omega)] at hlta
      have i1 : (i : Int) < (l1.length : Int) := by omega
      obtain ⟨wo, rfl⟩ : ∃ wo : World, wo = wr := ⟨_, rfl⟩
      go_wp2_with fail
      have hV := Eq.refl (vb 10000 (l1.take i) * vb 10000 l2)
      generalize hda0 : l1.getD i 0 = a at *
      go_loopw [7, 8] (fun v7 v8 wi => ∃ (k j : Nat) (p : List Nat), v7 = .int .i64 (k : Int) ∧ v8 = .int .i64 (j : Int) ∧ k ≤ 9999 ∧ j ≤ l2.length + 1 ∧ p.length = N ∧ Lo 10000 p ∧ vb 10000 p + 10000 ^ (i + j) * k = vb 10000 (l1.take i) * vb 10000 l2 + 10000 ^ i * (a * vb 10000 (l2.take j)) ∧
          wi.ownsRow w.heap.size 3 1 (.slice (some ⟨w.heap.size, 0, none⟩) N N) N (cellsN .i64 p) ∧ Below w.heap.size w wi)
        (fun _ v8 _ => l2.length + 2 - (intOf v8).toNat)
      case atStart => exact ⟨0, 0, o, rfl, rfl, by omega, by omega, hol, hoo, by rw [hov]; simp [vb], hown, hBr⟩
      case round =>
        obtain ⟨k, j, p, rfl, rfl, hk, hj, hpn, hpo, hval, hown2, hBi⟩ := hrel
        have hrb : Rw .i64 wr B A2 l2 := hr2.below (hBi.mono hB0)
        have hai2 : wr.cell? ⟨b, off + i, none⟩ = some (.int .i64 (a : Int)) := by
          obtain ⟨b', off', e', _, h⟩ := (hr.below (hBi.mono hB0)).at_ hlt
          cases e'
          rw [hda0] at h
          exact h
        by_cases hj2 : j < l2.length
        · obtain ⟨b2, off2, rfl, _, hbj⟩ := hrb.at_ hj2
          have hbl := lo_getD (b := 10000) (by omega) hlo2 j
          have htb := vb_take 10000 l2 j
          generalize l2.getD j 0 = bj at *
          have hab : a * bj ≤ 9999 * 9999 := Nat.mul_le_mul (by omega) (by omega)
          have hab0 : (0 : Int) ≤ (a : Int) * (bj : Int) := by rw [← Int.natCast_mul]; omega
          have hab1 : (a : Int) * (bj : Int) ≤ 99980001 := by rw [← Int.natCast_mul]; omega
          have j1 : (j : Int) < (l2.length : Int) := by omega
          obtain ⟨r, hrr⟩ : ∃ r, i + j = r := ⟨_, rfl⟩
          rw [hrr] at hval
          have hpl : r < p.length := by omega
          have hst := mul_step 10000 p r (k + p.getD r 0 + a * bj) k _ (a * bj) hpl hval rfl
          have hcp : wr.cell? ⟨w.heap.size, r, none⟩ = some (.int .i64 ((p.getD r 0 : Nat) : Int)) := (hown2.cellAt r (by omega)).trans (cellsN_at hpl)
          have hfp : wr.frozen? ⟨w.heap.size, r, none⟩ = false := hown2.frozenAt r
          have hdl : p.getD r 0 < 10000 := lo_getD (by omega) hpo _
          generalize p.getD r 0 = d at *
          obtain ⟨q, hq⟩ : ∃ q, q = k + d + a * bj := ⟨_, rfl⟩
          rw [← hq] at hst
          have eq : (k : Int) + (d : Int) + (a : Int) * (bj : Int) = (q : Int) := by rw [hq]; push_cast; rfl
          have hq4 : q / 10000 ≤ 9999 := by omega
          have HQ := Lib.hid (And.intro hst (And.intro hq (And.intro eq (And.intro hpl (And.intro hval (And.intro hown2 hq4))))))
          have ij : (i : Int) + (j : Int) = (r : Int) := by omega
          have ij1 : (r : Int) < (N : Int) := by omega
          have ij0 : (0 : Int) ≤ (r : Int) := by omega
          have hb0 := Lib.hid hrr
          clear hst hval hq eq hpl hown2 hq4 hrr
          go_wp2_with fail
          go_quiet (fail)
          go_wp2_with fail
          obtain ⟨hst, hq, eq, hpl, hval, hown2, hq4⟩ := HQ.out
          rw [eq, show ((q : Int) % 10000) = ((q % 10000 : Nat) : Int) by omega]
          have hs := hown2.stored r (.int .i64 ((q % 10000 : Nat) : Int))
          rw [cellsN_set] at hs
          go_roundw
          case rel =>
            refine ⟨q / 10000, j + 1, p.set r (q % 10000), by go_num, by go_num, hq4, by omega, by rw [List.length_set]; exact hpn, lo_set hpo (by omega) r, ?_, hs.1, (quiet_below hBi _).setCell (p := ⟨w.heap.size, r, none⟩) (Nat.le_refl _) _⟩
            have e1 : 10000 ^ i * (a * (10000 ^ j * bj)) = 10000 ^ r * (a * bj) := by rw [← hb0.out, Nat.pow_add]; ac_rfl
            rw [htb, Nat.mul_add a, Nat.mul_add (10000 ^ i), e1, show i + (j + 1) = r + 1 by have := hb0.out; omega, hst]; omega
          case measure => simp [intOf]; omega
        · have htb : vb 10000 (l2.take (j + 1)) = vb 10000 (l2.take j) := by rw [List.take_of_length_le (by omega), List.take_of_length_le (by omega)]
          have j1 : ¬ (j : Int) < (l2.length : Int) := by omega
          by_cases hk0 : k = 0
          · subst hk0
            have HVal := Lib.hid hval
            have HO := Lib.hid hown2
            clear hval hown2
            go_wp2_with fail
            refine ⟨⟨i + 1, p, by go_num, by omega, hpn, hpo, ?_, HO.out, hBi⟩, by simp [intOf]; omega⟩
            have hv := HVal.out
            rw [Nat.mul_zero, Nat.add_zero, List.take_of_length_le (show l2.length ≤ j by omega)] at hv
            rw [hv, hta, Nat.add_mul, Nat.mul_assoc]
          · have k0 : (0 : Int) < (k : Int) := by omega
            have hjb : j ≤ l2.length := by
              have hy := vb_lt 10000 (by omega) _ hlo2
              have h1 : 10000 ^ (i + j) * 1 ≤ 10000 ^ (i + j) * k := Nat.mul_le_mul_left _ (by omega)
              have h2 : vb 10000 (l1.take (i + 1)) * vb 10000 l2 < 10000 ^ (i + 1) * 10000 ^ l2.length := Nat.mul_lt_mul_of_lt_of_le hlta (Nat.le_of_lt hy) (Nat.pow_pos (by omega))
              rw [← Nat.pow_add, hta, Nat.add_mul] at h2
              rw [List.take_of_length_le (show l2.length ≤ j by omega)] at hval
              have h3 : 10000 ^ i * a * vb 10000 l2 = 10000 ^ i * (a * vb 10000 l2) := Nat.mul_assoc _ _ _
              have h4 : 10000 ^ (i + j) < 10000 ^ (i + 1 + l2.length) := by omega
              have := (Nat.pow_lt_pow_iff_right (by omega : 1 < 10000)).1 h4
              omega
            obtain ⟨r, hrr⟩ : ∃ r, i + j = r := ⟨_, rfl⟩
            rw [hrr] at hval
            have hpl : r < p.length := by omega
            have hst := mul_step 10000 p r (k + p.getD r 0 + 0) k _ (0) hpl hval rfl
            have hcp : wr.cell? ⟨w.heap.size, r, none⟩ = some (.int .i64 ((p.getD r 0 : Nat) : Int)) := (hown2.cellAt r (by omega)).trans (cellsN_at hpl)
            have hfp : wr.frozen? ⟨w.heap.size, r, none⟩ = false := hown2.frozenAt r
            have hdl : p.getD r 0 < 10000 := lo_getD (by omega) hpo _
            generalize p.getD r 0 = d at *
            obtain ⟨q, hq⟩ : ∃ q, q = k + d + 0 := ⟨_, rfl⟩
            rw [← hq] at hst
            have eq : (k : Int) + (d : Int) = (q : Int) := by rw [hq]; push_cast; rfl
            have hq4 : q / 10000 ≤ 9999 := by omega
            have HQ := Lib.hid (And.intro hst (And.intro hq (And.intro eq (And.intro hpl (And.intro hval (And.intro hown2 hq4))))))
            have ij : (i : Int) + (j : Int) = (r : Int) := by omega
            have ij1 : (r : Int) < (N : Int) := by omega
            have ij0 : (0 : Int) ≤ (r : Int) := by omega
            have hb0 := Lib.hid hrr
            clear hst hval hq eq hpl hown2 hq4 hrr
            go_wp2_with fail
            obtain ⟨hst, hq, eq, hpl, hval, hown2, hq4⟩ := HQ.out
            rw [eq, show ((q : Int) % 10000) = ((q % 10000 : Nat) : Int) by omega]
            have hs := hown2.stored r (.int .i64 ((q % 10000 : Nat) : Int))
            rw [cellsN_set] at hs
            go_roundw
            case rel =>
              refine ⟨q / 10000, j + 1, p.set r (q % 10000), by go_num, by go_num, hq4, by omega, by rw [List.length_set]; exact hpn, lo_set hpo (by omega) r, ?_, hs.1, hBi.setCell (p := ⟨w.heap.size, r, none⟩) (Nat.le_refl _) _⟩
              rw [htb, show i + (j + 1) = r + 1 by have := hb0.out; omega, hst]; simp
            case measure => simp [intOf]; omega
    · have i1 : ¬ (i : Int) < (l1.length : Int) := by omega
      have HR := Lib.hid (Rw.of_own hown)
      have HT := rtrim_any (some ⟨w.heap.size, 0, none⟩) N wr.heap.size o wr (Rw.of_own hown) (by omega) (by unfold maxLen; omega)
      rw [hol] at HT
      replace HT := Lib.hid HT
      clear hown
      go_wp2_with fail
      refine HT.out.mono ?_
      rintro e wx ⟨rfl, rfl⟩
      go_wp2_with fail
      go_ret
      rw [List.take_of_length_le (by omega)] at hov
      have ht := trimL_dg (b := 10000) (by omega) o hoo
      rw [hov] at ht
      have hR := HR.out.trim
      have hle := trimL_len o
      rw [ht] at hR hle ⊢
      exact ⟨_, _, rfl, by omega, by unfold maxLen; omega, hR, hBr⟩

end Go.Proofs.Ytbpaiocbgbpiaaa
