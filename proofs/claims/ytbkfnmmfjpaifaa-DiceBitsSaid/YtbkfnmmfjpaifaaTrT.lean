/- The document's Trunc of a float below 2^53, walked. -/
import Derived.Test.YtbkfnmmfjpaifaaTrD
import Derived.Test.YtbkfnmmfjpaifaaRdN
import Derived.Test.YtbkfnmmfjpaifaaDiceW3
namespace Go.Proofs.Ytbkfnmmfjpaifaa
open Go.RowKit Flt
set_option linter.unusedVariables false
set_option linter.unusedSimpArgs false

theorem conv_bytes (s : ByteArray) (w : World) : (convert 9 62 (.string s)).run Try.prog w = .ok (.slice (some ⟨w.heap.size, 0, none⟩) s.size (grownCap w s.size 0 5)) (Lib.bytesWorld w 5 s) :=
  Lib.run_convert_string_bytes w _ _ _ s Try.underlying9 Try.underlying62 Try.underlying5
theorem bytes_below (w : World) (e : TypeId) (s : ByteArray) : Below w.heap.size w (Lib.bytesWorld w e s) := by
  refine ⟨rfl, rfl, rfl, by rw [Lib.bytesWorld_size]; omega, fun k hk => Lib.bytesWorld_at_old w e s k hk⟩
set_option maxHeartbeats 4000000 in
/-- Without what stands behind the point: the sign stays. -/
theorem rtrunc_any (b : Nat) (w : World) (hb : b < 18446744073709551616) (hf : b % 9223372036854775808 < 9218868437227405312) (he : pE b ≤ 0) :
    Calls Try.prog 33 #[.float .f64 b] w fun e w' => e = .returned (.float .f64 (natW (pM b / 2 ^ (-(pE b)).toNat) + b / 9223372036854775808 * 9223372036854775808)) ∧ Below w.heap.size w w' := by
  have hM := pM_lt b
  have HPa := Lib.hid (rparts_any b w hb hf)
  have HDi := Lib.hid (digits_any b w hb hf he)
  have hN : pM b / 2 ^ (-(pE b)).toNat < 9007199254740992 := Nat.lt_of_le_of_lt (Nat.div_le_self _ _) hM
  generalize pM b / 2 ^ (-(pE b)).toNat = N at *
  generalize pM b = m at *
  generalize pE b = x at *
  have hbits := rf_bits b
  have hbits2 := rf_bits (natW N)
  have hW := natW_lt63 hN
  obtain ⟨q, hq⟩ : ∃ q, q = b / 9223372036854775808 := ⟨_, rfl⟩
  have q1 : q ≤ 1 := by omega
  have e1 : (b : Int).tdiv 9223372036854775808 = (q : Int) := by rw [hq]; exact (Int.ofNat_tdiv b 9223372036854775808).symm
  have e2 : (b : Int) / 9223372036854775808 = (q : Int) := by omega
  have HN := Lib.hid hN
  rw [← hq]
  generalize hy : natW N = y at *
  have HY := Lib.hid hy
  have hfr := rf_from ((y : Int) + (q : Int) * 9223372036854775808)
  clear hM hN hf hq he hy
  go_enter Try.func33, Try.ntmps33
  go_wp2_with fail
  refine HPa.out.mono ?_
  rintro e w1 ⟨rfl, hw⟩
  subst hw
  go_wp2_with fail
  refine HDi.out.mono ?_
  rintro e w1 ⟨s1, s2, rfl, hd, hsz, hv, hb1⟩
  have hcv := conv_bytes s1 w1
  have hcell : ∀ i, i < s1.data.toList.length → (Lib.bytesWorld w1 5 s1).cell? ⟨w1.heap.size, 0 + i, none⟩ = some (.int .u8 ((s1.data.toList.getD i 0).toNat : Int)) := fun i hi => by
    rw [Nat.zero_add]
    exact Lib.bytesWorld_cell w1 _ s1 i (by simpa using hi)
  have hbb := bytes_below w1 5 s1
  have hcap : s1.size ≤ grownCap w1 s1.size 0 5 ∧ grownCap w1 s1.size 0 5 ≤ maxLen :=
    ⟨grownCap_ge _ _ _ _, grownCap_le_maxLen _ _ _ _ (by unfold maxLen; omega)⟩
  generalize Lib.bytesWorld w1 5 s1 = w2 at *
  generalize grownCap w1 s1.size 0 5 = cap at *
  have hl : s1.data.toList.length = s1.size := by simp
  have hVa := value_whole w1.heap.size 0 cap s1.data.toList w2 hcell (by rw [hl]; exact hcap.1) hcap.2 (by omega) hd (by rw [hv]; exact Nat.lt_trans HN.out (by decide))
  rw [hl, hv, readF_nat HN.out, HY.out] at hVa
  have HVa := Lib.hid hVa
  have HB := Lib.hid (hb1.trans (hbb.mono hb1.size))
  clear hVa hcell hcap hd hv hl hbb hb1 HDi HPa
  go_wp2_with fail
  refine HVa.out.mono ?_
  rintro e w3 ⟨rfl, hb3⟩
  have HB3 := Lib.hid (HB.out.trans (hb3.mono HB.out.size))
  clear hb3
  go_wp2_with fail
  go_ret
  refine ⟨?_, HB3.out⟩
  congr 2
end Go.Proofs.Ytbkfnmmfjpaifaa
