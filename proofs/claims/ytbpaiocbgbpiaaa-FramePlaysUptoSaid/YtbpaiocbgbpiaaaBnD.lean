/- The document's Parse, walked, for any seat. -/
import Derived.Test.YtbpaiocbgbpiaaaBnP
import Derived.Lib.Strings
import Derived.Lib.MinMax
import Derived.Lib.ConvBytes
import Derived.Lib.UnsafeStr
import Derived.Deep.RegionHeld3
import Derived.Deep.RegionWith
namespace Go.Proofs.Ytbpaiocbgbpiaaa
open Go.RowKit
set_option linter.unusedVariables false

/-- The number that digits write. -/
def decV (l : List UInt8) : Nat := l.foldl (fun v c => 10 * v + (c.toNat - 48)) 0
theorem decV_snoc (l : List UInt8) (c : UInt8) : decV (l ++ [c]) = 10 * decV l + (c.toNat - 48) := by simp [decV]
def isDig (c : UInt8) : Prop := 48 ≤ c.toNat ∧ c.toNat ≤ 57
theorem fold_mono (r : List UInt8) : ∀ v, v ≤ r.foldl (fun v c => 10 * v + (c.toNat - 48)) v := by
  induction r with
  | nil => intro v; exact Nat.le_refl _
  | cons c r ih =>
    intro v
    exact Nat.le_trans (by omega) (ih (10 * v + (c.toNat - 48)))
theorem decV_mono (l : List UInt8) (i : Nat) : decV (l.take i) ≤ decV l := by
  have h := fold_mono (l.drop i) (decV (l.take i))
  unfold decV at h ⊢
  rw [← List.foldl_append, List.take_append_drop] at h
  exact h
theorem decV_take (l : List UInt8) {i : Nat} (h : i < l.length) : decV (l.take (i + 1)) = 10 * decV (l.take i) + ((l.getD i 0).toNat - 48) := by
  rw [List.take_succ_eq_append_getElem h, decV_snoc, List.getD_eq_getElem?_getD, List.getElem?_eq_getElem h]; rfl
def bD (s : ByteArray) (i : Nat) : Nat := (s.data.toList.getD i 0).toNat
theorem bD_get (s : ByteArray) (k : Nat) (h : k < s.size) : (s[k]'h).toNat = bD s k := by
  unfold bD
  cases s with
  | mk d =>
    have h2 : k < d.toList.length := by rw [Array.length_toList]; exact h
    show (d[k]'h).toNat = (d.toList.getD k 0).toNat
    rw [List.getD_eq_getElem?_getD, List.getElem?_eq_getElem h2]
    rfl
theorem bD_dig {s : ByteArray} (h : ∀ c ∈ s.data.toList, isDig c) {i : Nat} (hi : i < s.size) : 48 ≤ bD s i ∧ bD s i ≤ 57 := by
  have h2 : i < s.data.toList.length := by simpa using hi
  unfold bD
  rw [List.getD_eq_getElem?_getD, List.getElem?_eq_getElem h2]
  exact h _ (List.getElem_mem h2)
theorem decV_bD (s : ByteArray) {i : Nat} (h : i < s.size) : decV (s.data.toList.take (i + 1)) = 10 * decV (s.data.toList.take i) + (bD s i - 48) := decV_take _ (by rw [Array.length_toList]; exact h)
/-- One piece of four digits more. -/
theorem piece_step {q : List Nat} {D V b n t : Nat} (h : 10000 ^ q.length * D + vb 10000 q = V) (hD : D = b * 10 ^ t + n) (ht : t = 4 ∨ b = 0) : 10000 ^ (q.length + 1) * b + vb 10000 (q ++ [n]) = V := by
  rw [vb_snoc, ← h, hD, Nat.mul_add, Nat.pow_succ]
  rcases ht with rfl | rfl
  · rw [show (10 : Nat) ^ 4 = 10000 from rfl, Nat.mul_assoc, Nat.mul_comm b]; omega
  · simp; omega
theorem ten_more {V b n t d : Nat} (h : V = b * 10 ^ t + n) : 10 * V + d = b * 10 ^ (t + 1) + (10 * n + d) := by
  rw [h, Nat.mul_add, Nat.pow_succ, Nat.mul_comm 10 (b * 10 ^ t), Nat.mul_assoc]; omega

set_option maxRecDepth 20000 in
set_option maxHeartbeats 4000000 in
theorem rparse_ok (s : ByteArray) (w : World) (hs0 : s.size ≠ 0) (hs : s.size ≤ 1048576) (hd : ∀ c ∈ s.data.toList, isDig c) :
    Calls Try.prog 53 #[.string s] w fun e w' => ∃ A c, e = .returned (.tuple #[.slice A (dg 10000 (decV s.data.toList)).length c, .bool true]) ∧ Rw .i64 w' w'.heap.size A (dg 10000 (decV s.data.toList)) ∧ Below w.heap.size w w' := by
  have hlen : s.data.toList.length = s.size := by simp
  have hse : s.toList.isEmpty = false := by
    rw [Lib.toList_data]
    cases hx : s.data.toList with
    | nil => rw [hx] at hlen; simp at hlen; omega
    | cons => rfl
  have hbd := fun i hi => bD_dig hd (i := i) hi
  have hbg := fun i hi => bD_get s i hi
  have HBD := Lib.hid hbd
  have HBG := Lib.hid hbg
  clear hd hbd hbg
  go_enter Try.func53, Try.ntmps53
  go_wp2_with fail
  go_loopw [4] (fun v4 wr => ∃ i : Nat, v4 = .int .i64 (i : Int) ∧ i ≤ s.size ∧ w = wr) (fun v4 _ => s.size - (intOf v4).toNat)
  case atStart => exact ⟨0, rfl, Nat.zero_le _, rfl⟩
  case round =>
    obtain ⟨i, rfl, hi, rfl⟩ := hrel
    by_cases hlt : i < s.size
    · have hg := HBG.out i hlt
      have hdd := HBD.out i hlt
      have i1 : (i : Int) < (s.size : Int) := by omega
      generalize bD s i = x at *
      have x1 : ¬ (x : Int) < 48 := by omega
      have x2 : ¬ 57 < (x : Int) := by omega
      go_wp2_with fail
      go_roundw
      case rel => exact ⟨i + 1, by go_num, by omega, trivial⟩
      case measure => simp [intOf]; omega
    · have i1 : ¬ (i : Int) < (s.size : Int) := by omega
      go_wp2_with fail
      go_loopw [5, 6] (fun v5 v6 wx => ∃ (E : Int) (q : List Nat), v6 = .int .i64 E ∧ E = (s.size : Int) - 4 * (q.length : Int) ∧ -4 < E ∧ Lo 10000 q ∧ 10000 ^ q.length * decV (s.data.toList.take E.toNat) + vb 10000 q = decV s.data.toList ∧
          wx.ownsRow w.heap.size 3 1 v5 q.length (cellsN .i64 q) ∧ Below w.heap.size w wx)
        (fun _ v6 _ => (intOf v6).toNat)
      case atStart => exact ⟨s.size, [], rfl, by simp, by omega, lo_nil _, by simp [vb]; rw [List.take_of_length_le (by omega)], ⟨rfl, .inl ⟨rfl, rfl⟩⟩, Below.refl _ _⟩
      case round =>
        clear i1 hlt hi
        obtain ⟨E, q, rfl, hE, hE4, hqo, hval, hown, hB⟩ := hrel
        have hgz := hB.size
        by_cases hE0 : 0 < E
        · obtain ⟨e, rfl⟩ : ∃ e : Nat, E = (e : Int) := ⟨E.toNat, by omega⟩
          rw [Int.toNat_natCast] at hval
          obtain ⟨b, hb⟩ : ∃ b : Nat, b = e - 4 := ⟨_, rfl⟩
          have hmax : max ((e : Int) - 4) 0 = (b : Int) := by omega
          have he1 : (e : Int) ≤ 1048576 := by omega
          have hE0' : (0 : Int) < (e : Int) := hE0
          have hte : b + 4 = e ∨ b = 0 := by omega
          have HV := Lib.hid hval
          have HE := Lib.hid hE
          have HT := Lib.hid hte
          have hbe : b ≤ e ∧ e ≤ b + 4 ∧ e ≤ s.size := by omega
          clear hval hE hte hb
          obtain ⟨wo, rfl⟩ : ∃ wo : World, wo = wr := ⟨_, rfl⟩
          go_wp2_with fail
          go_loopw [7, 8] (fun v7 v8 wy => ∃ (t n r : Nat), v7 = .int .i64 (n : Int) ∧ v8 = .int .i64 (r : Int) ∧ b + t = r ∧ t ≤ 4 ∧ r ≤ e ∧ n < 10 ^ t ∧ decV (s.data.toList.take r) = decV (s.data.toList.take b) * 10 ^ t + n ∧ wy = wo)
            (fun _ v8 _ => e - (intOf v8).toNat)
          case atStart => exact ⟨0, 0, b, rfl, rfl, rfl, by omega, by omega, by omega, by simp, rfl⟩
          case round =>
            obtain ⟨t, n, r, rfl, rfl, hr, ht, hte, hn, hdv, rfl⟩ := hrel
            by_cases hlt : r < e
            · have ht3 : t ≤ 3 := by omega
              have hp := Nat.pow_le_pow_right (n := 10) (by omega) ht3
              have hps : 10 ^ (t + 1) = 10 ^ t * 10 := Nat.pow_succ ..
              have hbt : r < s.size := by omega
              have hg := HBG.out r hbt
              have hdd := HBD.out r (by omega)
              have hmv := decV_bD s (i := r) (by omega)
              have hmo := ten_more (d := bD s r - 48) hdv
              generalize bD s r = x at *
              obtain ⟨d, hxd⟩ : ∃ d, d = x - 48 := ⟨_, rfl⟩
              rw [← hxd] at hmv hmo
              have x3 : ((x : Int) - 48) % 256 = (d : Int) := by omega
              have x4 : (x : Int) - 48 = (d : Int) := by omega
              have hd9 : d ≤ 9 := by omega
              have hn1 : n ≤ 999 := by omega
              generalize 10 ^ t = P at *
              have i1 : (r : Int) < (e : Int) := by omega
              have H := Lib.hid (And.intro hdv (And.intro hmv (And.intro hmo (And.intro hn (And.intro hps hbe)))))
              clear hdv hmv hmo hn hps hp hxd
              have hr2 := Lib.hid hr
              clear hr hbe
              go_wp2_with fail
              go_roundw
              case rel =>
                obtain ⟨hdv, hmv, hmo, hn, hps, _⟩ := H.out
                have hr := hr2.out
                refine ⟨t + 1, 10 * n + d, r + 1, by go_num, by go_num, by omega, by omega, by omega, by rw [hps]; omega, ?_, trivial⟩
                rw [hmv, hmo]
              case measure => simp [intOf]; omega
            · obtain rfl : r = e := by omega
              have hp := Nat.pow_le_pow_right (n := 10) (by omega) ht
              have hn4 : n < 10000 := by omega
              have hps := piece_step HV.out hdv (by
                rcases HT.out with h1 | h1
                · exact .inl (by omega)
                · exact .inr (by rw [h1]; rfl))
              have hq1 : (q.length : Int) ≤ 1048576 := by have := HE.out; omega
              have H := Lib.hid (And.intro hps (And.intro hbe hn4))
              clear hdv hps hp hlt hte hbe hr
              go_wp2_with (at_builtin; refine wpList_append1 113 3 (.tmp 49) (.tmp 51) rfl rfl w.heap.size Try.underlying113 int_info rfl rfl hown rfl rfl rfl (by unfold maxLen; omega) (by omega) hgz ?_; intro v' w' hown' hgrow _)
              obtain ⟨hps, hbe, hn4⟩ := H.out
              rw [← cellsN_snoc] at hown'
              have hE := HE.out
              refine ⟨⟨(r : Int) - 4, q ++ [n], by go_num, by simp; omega, by omega, lo_snoc hqo hn4, ?_, by simpa using hown', hB.grown hgrow hgz (fun k hk => (hown.lt k hk).1)⟩, by simp [intOf]; omega⟩
              rw [show ((r : Int) - 4).toNat = b by omega, List.length_append, List.length_singleton]
              exact hps
        · have hE1 : ¬ 0 < E := hE0
          rw [show E.toNat = 0 by omega, List.take_zero] at hval
          have hvq : vb 10000 q = decV s.data.toList := by rw [← hval]; simp [decV]
          have hdl : (dg 10000 (decV s.data.toList)) = trimL q := by rw [trimL_dg (b := 10000) (by omega) q hqo, hvq]
          obtain ⟨A5, c5, rfl, hc1, hc2, _⟩ := own_form hown
          have hR := Rw.of_own hown
          have HT := rtrim_any A5 c5 _ q wr hR hc1 hc2
          have hRt := hR.trim
          rw [← hdl] at HT hRt
          have HX := Lib.hid hRt
          replace HT := Lib.hid HT
          clear hval hvq hdl hR hRt hown hE
          go_wp2_with fail
          refine HT.out.mono ?_
          rintro e wx ⟨he, hw⟩
          subst he
          subst hw
          dsimp only
          go_wp2_with fail
          go_ret2
          exact ⟨_, _, rfl, HX.out, hB⟩


end Go.Proofs.Ytbpaiocbgbpiaaa
