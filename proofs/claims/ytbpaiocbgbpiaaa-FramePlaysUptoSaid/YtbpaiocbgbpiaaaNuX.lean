/- Prefix, Looks, Input and the law's value, walked: each a function of the text. -/
import Derived.Test.YtbpaiocbgbpiaaaNuN
namespace Go.Proofs.Ytbpaiocbgbpiaaa
open Go.RowKit
set_option linter.unusedVariables false
set_option linter.unusedSimpArgs false

/-- The walk's law on a float with the other sign: the library has none. -/
@[go_sem] theorem run_neg_float {P : Program} (w : World) (k : FloatKind) (b : Nat) : (Go.Op.unary .neg (.float k b)).run P w = .ok (.float k (Go.Op.negFloat k b)) w := rfl
theorem numTail_le {s : ByteArray} {i : Nat} {exp : Int} (h : i ≤ s.size) : (numTail s i exp).2 ≤ s.size := by
  unfold numTail
  split
  · rename_i h1
    split
    · rename_i h2
      split
      · exact dE_le (by have := h2.1; omega)
      · exact h
    · split
      · exact dE_le (by have := h1.1; omega)
      · exact h
  · exact h
theorem numR_le {s : ByteArray} {frm : Nat} (h : frm ≤ s.size) : (numR s frm).2 ≤ s.size := by
  have hd := dE_le h
  unfold numR
  split
  · rename_i h1
    exact numTail_le (dE_le (by have := h1.1; omega))
  · split
    · exact numTail_le hd
    · exact h
/-- Where the blanks from i on end. -/
def blE (s : ByteArray) (i : Nat) : Nat := i + runL isBl (s.data.toList.drop i)
theorem blE_le {s : ByteArray} {i : Nat} (h : i ≤ s.size) : blE s i ≤ s.size := by
  have := runL_le isBl (s.data.toList.drop i)
  rw [List.length_drop] at this
  have hl : s.data.toList.length = s.size := by simp
  unfold blE
  omega
theorem blE_step {s : ByteArray} {i k : Nat} (h1 : i ≤ k) (h2 : k ≤ blE s i) (hk : k < s.size) : (blB (bD s k) = true → k < blE s i) ∧ (blB (bD s k) = false → k = blE s i) := by
  have hl : s.data.toList.length = s.size := by simp
  have hs := runL_step (p := isBl) (l := s.data.toList.drop i) (k := k - i) (by unfold blE at h2; omega) (by rw [List.length_drop]; omega)
  have e : (s.data.toList.drop i).getD (k - i) 0 = s.data.toList.getD k 0 := by
    rw [List.getD_eq_getElem?_getD, List.getElem?_drop, show i + (k - i) = k by omega, ← List.getD_eq_getElem?_getD]
  have e2 : isBl (s.data.toList.getD k 0) = blB (bD s k) := rfl
  rw [e, e2] at hs
  unfold blE
  exact ⟨fun h => by have := hs.1 h; omega, fun h => by have := hs.2 h; omega⟩
/-- The number that a text begins with, and how many bytes that takes. -/
def prefE (s : ByteArray) (i1 : Nat) (mn : Bool) : Nat × Nat :=
  if (numR s i1).2 = i1 then (0, 0) else (if mn = true then Go.Op.negFloat .f64 (numR s i1).1 else (numR s i1).1, (numR s i1).2)
def prefR (s : ByteArray) : Nat × Nat :=
  if blE s 0 < s.size then (if bD s (blE s 0) = 45 then prefE s (blE s 0 + 1) true else if bD s (blE s 0) = 43 then prefE s (blE s 0 + 1) false else prefE s (blE s 0) false)
  else prefE s (blE s 0) false
theorem prefE_le {s : ByteArray} {i : Nat} {mn : Bool} (h : i ≤ s.size) : (prefE s i mn).2 ≤ s.size := by
  unfold prefE
  split
  · exact Nat.zero_le _
  · exact numR_le h
theorem prefR_le (s : ByteArray) : (prefR s).2 ≤ s.size := by
  have h0 := blE_le (s := s) (i := 0) (Nat.zero_le _)
  unfold prefR
  split
  · split
    · exact prefE_le (by omega)
    · split
      · exact prefE_le (by omega)
      · exact prefE_le h0
  · exact prefE_le h0
set_option maxRecDepth 20000 in
set_option maxHeartbeats 8000000 in
theorem prefix_any (s : ByteArray) (w : World) (hs : s.size ≤ 1048576) :
    Calls Try.prog 46 #[.string s] w fun e w' => e = .returned (.tuple #[.float .f64 (prefR s).1, .int .i64 ((prefR s).2 : Int)]) ∧ Below w.heap.size w w' := by
  have s1 : (s.size : Int) ≤ 1048576 := by omega
  go_enter Try.func46, Try.ntmps46
  go_wp2_with fail
  go_loopw [4] (fun v4 wr => ∃ k : Nat, v4 = .int .i64 (k : Int) ∧ k ≤ blE s 0 ∧ w = wr) (fun v4 _ => s.size - (intOf v4).toNat)
  case atStart => exact ⟨0, rfl, Nat.zero_le _, rfl⟩
  case round =>
    obtain ⟨k, rfl, hk, rfl⟩ := hrel
    have hle := blE_le (s := s) (i := 0) (Nat.zero_le _)
    have k0 : (0 : Int) ≤ (k : Int) := by omega
    have k1 : (k : Int) ≤ 1048576 := by omega
    by_cases hlt : k < s.size
    · have ks : (k : Int) < (s.size : Int) := by omega
      have hg := bD_get s k hlt
      have hst := blE_step (Nat.zero_le k) hk hlt
      have HB := Lib.hid (blank_any (bD s k) w)
      cases hb : blB (bD s k) with
      | true =>
        have HK := Lib.hid (And.intro (hst.1 hb) hlt)
        rw [hb] at HB
        clear hst hk hle hb
        generalize bD s k = x at *
        go_wp2_with fail
        refine HB.out.mono ?_
        rintro e wi ⟨rfl, hw⟩
        subst hw
        go_wp2_with fail
        go_roundw
        case rel => exact ⟨k + 1, by go_num, HK.out.1, trivial⟩
        case measure => have := HK.out.2; simp [intOf]; omega
      | false =>
        have hke := hst.2 hb
        rw [hb] at HB
        have hP : prefR s = if bD s k = 45 then prefE s (k + 1) true else if bD s k = 43 then prefE s (k + 1) false else prefE s k false := by
          unfold prefR
          rw [← hke, if_pos hlt]
        have HP := Lib.hid hP
        clear hst hk hle hb hke hP
        by_cases h45 : bD s k = 45
        · have y1 : ((bD s k : Int) == 45) = true := by rw [beq_iff_eq]; omega
          obtain ⟨K, HK⟩ : ∃ K, Hid (K = k + 1) := ⟨_, Lib.hid rfl⟩
          have kK : (k : Int) + 1 = (K : Int) := by have := HK.out; omega
          have hKs : K ≤ s.size := by have := HK.out; omega
          have HN := Lib.hid (numeral_any s K w hKs hs)
          replace HP := Lib.hid (show prefR s = prefE s K true by rw [HP.out, if_pos h45, HK.out])
          clear h45
          generalize bD s k = x at *
          go_wp2_with fail
          refine HB.out.mono ?_
          rintro e wi ⟨rfl, hw⟩
          subst hw
          go_wp2_with fail
          refine HN.out.mono ?_
          rintro e wn ⟨rfl, hbn⟩
          have HBn := Lib.hid hbn
          have hle2 := numR_le (s := s) (frm := K) (by omega)
          have l1 : ((numR s K).2 : Int) ≤ 1048576 := by omega
          clear hbn
          by_cases heq : (numR s K).2 = K
          · have z : (((numR s K).2 : Int) == (K : Int)) = true := by rw [beq_iff_eq]; omega
            have HE := Lib.hid (show prefE s K true = (0, 0) by unfold prefE; rw [if_pos heq])
            clear heq hle2
            generalize numR s K = nr at *
            go_wp2_with fail
            go_ret2
            rw [HP.out, HE.out]
            exact ⟨rfl, HBn.out⟩
          · have z : (((numR s K).2 : Int) == (K : Int)) = false := by rw [beq_eq_false_iff_ne]; omega
            have HE := Lib.hid (show prefE s K true = (Go.Op.negFloat .f64 (numR s K).1, (numR s K).2) by unfold prefE; rw [if_neg heq]; rfl)
            clear heq hle2
            generalize numR s K = nr at *
            go_wp2_with fail
            go_ret2
            rw [HP.out, HE.out]
            exact ⟨rfl, HBn.out⟩
        · have y1 : ((bD s k : Int) == 45) = false := by rw [beq_eq_false_iff_ne]; omega
          by_cases h43 : bD s k = 43
          · have y2 : ((bD s k : Int) == 43) = true := by rw [beq_iff_eq]; omega
            obtain ⟨K, HK⟩ : ∃ K, Hid (K = k + 1) := ⟨_, Lib.hid rfl⟩
            have kK : (k : Int) + 1 = (K : Int) := by have := HK.out; omega
            have hKs : K ≤ s.size := by have := HK.out; omega
            have HN := Lib.hid (numeral_any s K w hKs hs)
            replace HP := Lib.hid (show prefR s = prefE s K false by rw [HP.out, if_neg h45, if_pos h43, HK.out])
            clear h45 h43
            generalize bD s k = x at *
            go_wp2_with fail
            refine HB.out.mono ?_
            rintro e wi ⟨rfl, hw⟩
            subst hw
            go_wp2_with fail
            refine HN.out.mono ?_
            rintro e wn ⟨rfl, hbn⟩
            have HBn := Lib.hid hbn
            have hle2 := numR_le (s := s) (frm := K) (by omega)
            have l1 : ((numR s K).2 : Int) ≤ 1048576 := by omega
            clear hbn
            by_cases heq : (numR s K).2 = K
            · have z : (((numR s K).2 : Int) == (K : Int)) = true := by rw [beq_iff_eq]; omega
              have HE := Lib.hid (show prefE s K false = (0, 0) by unfold prefE; rw [if_pos heq])
              clear heq hle2
              generalize numR s K = nr at *
              go_wp2_with fail
              go_ret2
              rw [HP.out, HE.out]
              exact ⟨rfl, HBn.out⟩
            · have z : (((numR s K).2 : Int) == (K : Int)) = false := by rw [beq_eq_false_iff_ne]; omega
              have HE := Lib.hid (show prefE s K false = ((numR s K).1, (numR s K).2) by unfold prefE; rw [if_neg heq]; rfl)
              clear heq hle2
              generalize numR s K = nr at *
              go_wp2_with fail
              go_ret2
              rw [HP.out, HE.out]
              exact ⟨rfl, HBn.out⟩
          · have y2 : ((bD s k : Int) == 43) = false := by rw [beq_eq_false_iff_ne]; omega
            have hks : k ≤ s.size := by omega
            have HN := Lib.hid (numeral_any s k w hks hs)
            replace HP := Lib.hid (show prefR s = prefE s k false by rw [HP.out, if_neg h45, if_neg h43])
            clear h45 h43
            generalize bD s k = x at *
            go_wp2_with fail
            refine HB.out.mono ?_
            rintro e wi ⟨rfl, hw⟩
            subst hw
            go_wp2_with fail
            refine HN.out.mono ?_
            rintro e wn ⟨rfl, hbn⟩
            have HBn := Lib.hid hbn
            have hle2 := numR_le (s := s) (frm := k) (by omega)
            have l1 : ((numR s k).2 : Int) ≤ 1048576 := by omega
            clear hbn
            by_cases heq : (numR s k).2 = k
            · have z : (((numR s k).2 : Int) == (k : Int)) = true := by rw [beq_iff_eq]; omega
              have HE := Lib.hid (show prefE s k false = (0, 0) by unfold prefE; rw [if_pos heq])
              clear heq hle2
              generalize numR s k = nr at *
              go_wp2_with fail
              go_ret2
              rw [HP.out, HE.out]
              exact ⟨rfl, HBn.out⟩
            · have z : (((numR s k).2 : Int) == (k : Int)) = false := by rw [beq_eq_false_iff_ne]; omega
              have HE := Lib.hid (show prefE s k false = ((numR s k).1, (numR s k).2) by unfold prefE; rw [if_neg heq]; rfl)
              clear heq hle2
              generalize numR s k = nr at *
              go_wp2_with fail
              go_ret2
              rw [HP.out, HE.out]
              exact ⟨rfl, HBn.out⟩
    · have ks : ¬ (k : Int) < (s.size : Int) := by omega
      have hP : prefR s = prefE s k false := by
        unfold prefR
        rw [show blE s 0 = k by omega, if_neg hlt]
      have HP := Lib.hid hP
      have hks : k ≤ s.size := by omega
      have HN := Lib.hid (numeral_any s k w hks hs)
      clear hP hk hle hlt
      go_wp2_with fail
      refine HN.out.mono ?_
      rintro e wn ⟨rfl, hbn⟩
      have HBn := Lib.hid hbn
      have hle2 := numR_le (s := s) (frm := k) (by omega)
      have l1 : ((numR s k).2 : Int) ≤ 1048576 := by omega
      clear hbn
      by_cases heq : (numR s k).2 = k
      · have z : (((numR s k).2 : Int) == (k : Int)) = true := by rw [beq_iff_eq]; omega
        have HE := Lib.hid (show prefE s k false = (0, 0) by unfold prefE; rw [if_pos heq])
        clear heq hle2
        generalize numR s k = nr at *
        go_wp2_with fail
        go_ret2
        rw [HP.out, HE.out]
        exact ⟨rfl, HBn.out⟩
      · have z : (((numR s k).2 : Int) == (k : Int)) = false := by rw [beq_eq_false_iff_ne]; omega
        have HE := Lib.hid (show prefE s k false = ((numR s k).1, (numR s k).2) by unfold prefE; rw [if_neg heq]; rfl)
        clear heq hle2
        generalize numR s k = nr at *
        go_wp2_with fail
        go_ret2
        rw [HP.out, HE.out]
        exact ⟨rfl, HBn.out⟩
end Go.Proofs.Ytbpaiocbgbpiaaa
