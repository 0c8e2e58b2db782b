/- The document's value of the digits of a whole number, walked. -/
import Derived.Test.YtbkfnmmfjpaifaaBnS
namespace Go.Proofs.Ytbkfnmmfjpaifaa
open Go.RowKit
set_option linter.unusedVariables false
set_option linter.unusedSimpArgs false

theorem nums_bytes (l : List UInt8) : strOfNums (l.map fun c => (c.toNat : Int)) = ⟨l.toArray⟩ := by
  unfold strOfNums
  rw [List.map_map]
  have e : ((fun z : Int => UInt8.ofNat z.toNat) ∘ fun b : UInt8 => (b.toNat : Int)) = id := by
    funext b; simp
  rw [e, List.map_id]
theorem decV_zero (l : List UInt8) (h : ∀ c ∈ l, c.toNat = 48) : decV l = 0 := by
  unfold decV
  induction l with
  | nil => rfl
  | cons c l ih =>
    rw [List.foldl_cons, h c (by simp)]
    exact ih fun x hx => h x (by simp [hx])
theorem decV_cons (c : UInt8) (l : List UInt8) : decV (c :: l) = (c.toNat - 48) * 10 ^ l.length + decV l := by
  have key : ∀ (l : List UInt8) (v : Nat), l.foldl (fun v c => 10 * v + (c.toNat - 48)) v = v * 10 ^ l.length + l.foldl (fun v c => 10 * v + (c.toNat - 48)) 0 := by
    intro l
    induction l with
    | nil => intro v; simp
    | cons d l ih =>
      intro v
      rw [List.foldl_cons, List.foldl_cons, ih, ih (10 * 0 + (d.toNat - 48)), List.length_cons, Nat.pow_succ]
      rw [Nat.add_mul]
      simp only [Nat.mul_zero, Nat.zero_add]
      have : 10 * v * 10 ^ l.length = v * (10 ^ l.length * 10) := by rw [Nat.mul_comm 10 v, Nat.mul_assoc, Nat.mul_comm 10]
      omega
  unfold decV
  rw [List.foldl_cons, key]
  simp
theorem decV_append (a b : List UInt8) : decV (a ++ b) = decV a * 10 ^ b.length + decV b := by
  induction a with
  | nil => simp [decV]
  | cons c a ih => rw [List.cons_append, decV_cons, decV_cons, ih, List.length_append, Nat.pow_add, Nat.add_mul, Nat.mul_assoc, Nat.add_assoc]
theorem decV_drop {l : List UInt8} {k : Nat} (h : ∀ j, j < k → (l.getD j 0).toNat = 48) (hk : k ≤ l.length) : decV l = decV (l.drop k) := by
  have e := List.take_append_drop k l
  have h0 : decV (l.take k) = 0 := decV_zero _ fun c hc => by
    obtain ⟨i, hi, rfl⟩ := List.getElem_of_mem hc
    rw [List.length_take] at hi
    have := h i (by omega)
    rw [List.getElem_take]
    rw [List.getD_eq_getElem?_getD, List.getElem?_eq_getElem (by omega)] at this
    exact this
  calc decV l = decV (l.take k ++ l.drop k) := by rw [e]
    _ = _ := by rw [decV_append, h0]; simp

set_option maxRecDepth 20000 in
set_option maxHeartbeats 4000000 in
theorem value_whole (b off c : Nat) (l : List UInt8) (w : World) (hc : ∀ i, i < l.length → w.cell? ⟨b, off + i, none⟩ = some (.int .u8 ((l.getD i 0).toNat : Int))) (hlc : l.length ≤ c) (hm : c ≤ maxLen) (hl : l.length ≤ 100000)
    (hd : ∀ x ∈ l, isDig x) (hv : decV l < 10 ^ 100) :
    Calls Try.prog 37 #[.slice (some ⟨b, off, none⟩) l.length c, .int .i64 0] w fun e w' => e = .returned (.float .f64 (readF (decV l) 0)) ∧ Below w.heap.size w w' := by
  have hm' : c ≤ 9223372036854775807 := by unfold maxLen at hm; exact hm
  have H := Lib.hid (And.intro hc (And.intro hd hv))
  have hlc1 : (l.length : Int) ≤ (c : Int) := by omega
  have hl1 : (l.length : Int) ≤ 100000 := by omega
  have hc1 : (c : Int) ≤ 9223372036854775807 := by omega
  clear hc hd hv
  go_enter Try.func37, Try.ntmps37
  go_wp2_with fail
  go_loopw [5] (fun v5 wr => ∃ k : Nat, v5 = .int .i64 (k : Int) ∧ k ≤ l.length ∧ (∀ j, j < k → (l.getD j 0).toNat = 48) ∧ w = wr) (fun v5 _ => l.length - (intOf v5).toNat)
  case atStart => exact ⟨0, rfl, Nat.zero_le _, fun j h => by omega, rfl⟩
  case round =>
    obtain ⟨k, rfl, hk, hz, rfl⟩ := hrel
    have HZ := Lib.hid hz
    clear hz
    by_cases hlt : k < l.length
    · have i1 : (k : Int) < (l.length : Int) := by omega
      have i0 : (0 : Int) ≤ (k : Int) := by omega
      have i2 : (k : Int) ≤ 100000 := by omega
      have hck := H.out.1 k hlt
      by_cases h48 : (l.getD k 0).toNat = 48
      · have z1 : (((l.getD k 0).toNat : Int) == 48) = true := by rw [beq_iff_eq]; omega
        have HK := Lib.hid (And.intro hlt h48)
        clear h48 hlt hk
        generalize (((l.getD k 0).toNat : Nat) : Int) = y at *
        go_wp2_with fail
        go_roundw
        case rel => exact ⟨k + 1, by go_num, HK.out.1, fun j hj => by
          by_cases e : j = k
          · subst e; exact HK.out.2
          · exact HZ.out j (by omega), trivial⟩
        case measure => have := HK.out.1; simp [intOf]; omega
      · have z1 : (((l.getD k 0).toNat : Int) == 48) = false := by rw [beq_eq_false_iff_ne]; omega
        have i3 : (k : Int) ≤ (c : Int) := by omega
        have hke : decV l = decV (l.drop k) := decV_drop HZ.out hk
        have hdk : isDig (l.getD k 0) := by
          rw [List.getD_eq_getElem?_getD, List.getElem?_eq_getElem hlt]
          exact H.out.2.1 _ (List.getElem_mem hlt)
        have hlen : l.length - k ≤ 100 := by
          have e := hke
          rw [List.drop_eq_getElem_cons hlt, decV_cons, List.length_drop] at e
          have hv := H.out.2.2
          have h49 : 1 ≤ (l[k].toNat - 48) := by
            rw [List.getD_eq_getElem?_getD, List.getElem?_eq_getElem hlt] at h48 hdk
            unfold isDig at hdk
            simp only [Option.getD_some] at h48 hdk
            omega
          have h2 : 10 ^ (l.length - (k + 1)) ≤ (l[k].toNat - 48) * 10 ^ (l.length - (k + 1)) := Nat.le_mul_of_pos_left _ h49
          have h3 : 10 ^ (l.length - (k + 1)) < 10 ^ 100 := by omega
          have := (Nat.pow_lt_pow_iff_right (a := 10) (by omega)).1 h3
          omega
        have hs : (⟨(l.drop k).toArray⟩ : ByteArray).data.toList = l.drop k := rfl
        have hsz : (⟨(l.drop k).toArray⟩ : ByteArray).size = l.length - k := by simp [ByteArray.size]
        have hcv := run_convert_bytes_arg (P := Try.prog) w 62 5 Try.underlying62 Try.underlying5 b (off + k) (l.length - k) (c - k) ((l.drop k).map fun c => (c.toNat : Int)) (by simp)
          (fun i hi => by
            rw [show off + k + i = off + (k + i) by omega, H.out.1 (k + i) (by omega)]
            rw [List.getD_eq_getElem?_getD, List.getD_eq_getElem?_getD, List.getElem?_map, List.getElem?_drop, List.getElem?_eq_getElem (by omega)]
            rfl) 9 Try.underlying9
        rw [nums_bytes] at hcv
        have HRd := Lib.hid (read_any ⟨(l.drop k).toArray⟩ 0 w (by rw [hsz]; omega) (by rw [hsz]; omega) (by rw [hs]; exact fun x hx => H.out.2.1 x (List.mem_of_mem_drop hx)) (by omega) (by omega))
        rw [hs, ← hke] at HRd
        generalize (⟨(l.drop k).toArray⟩ : ByteArray) = s at *
        have n2 : ((l.length - k : Nat) : Int) ≤ 100 := by omega
        have n3 : (((l.length - k : Nat) : Int) == 0) = false := by rw [beq_eq_false_iff_ne]; omega
        have n4 : (0 : Int) ≤ ((l.length - k : Nat) : Int) := by omega
        have HSZ := Lib.hid (And.intro hs hsz)
        clear hs hsz hke hdk hlen h48 hlt hk hm hm' hl hlc
        generalize (((l.getD k 0).toNat : Nat) : Int) = y at *
        go_wp2_with fail
        refine HRd.out.mono ?_
        rintro e w1 ⟨rfl, hb1⟩
        go_wp2_with fail
        go_ret
        exact ⟨rfl, hb1⟩
    · obtain rfl : k = l.length := by omega
      have hz : decV l = 0 := by
        have := decV_drop HZ.out (Nat.le_refl _)
        rw [this, List.drop_of_length_le (Nat.le_refl _)]; rfl
      have HZ0 := Lib.hid (show readF (decV l) 0 = 0 by rw [hz]; rfl)
      have i1 : ¬ (l.length : Int) < (l.length : Int) := by omega
      clear hz hlt hk
      go_wp2_with fail
      all_goals go_ret
      all_goals rw [HZ0.out]
      all_goals exact ⟨rfl, Below.refl _ _⟩
end Go.Proofs.Ytbkfnmmfjpaifaa
