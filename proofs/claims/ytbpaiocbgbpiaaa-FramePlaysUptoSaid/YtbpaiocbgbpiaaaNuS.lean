/- Digits in a text: told plainly, and isDigit and blank walked. -/
import Derived.Test.YtbpaiocbgbpiaaaNuV
namespace Go.Proofs.Ytbpaiocbgbpiaaa
open Go.RowKit
set_option linter.unusedVariables false
set_option linter.unusedSimpArgs false

def isD (s : ByteArray) (i : Nat) : Bool := decide (i < s.size ∧ 48 ≤ bD s i ∧ bD s i ≤ 57)
/-- Where the digits that stand at i end. -/
def dE (s : ByteArray) (i : Nat) : Nat := i + runL isDB (s.data.toList.drop i)
def seg (s : ByteArray) (i k : Nat) : List UInt8 := (s.data.toList.drop i).take (k - i)
theorem dE_ge (s : ByteArray) (i : Nat) : i ≤ dE s i := Nat.le_add_right _ _
theorem dE_le {s : ByteArray} {i : Nat} (h : i ≤ s.size) : dE s i ≤ s.size := by
  have := runL_le isDB (s.data.toList.drop i)
  rw [List.length_drop] at this
  have hl : s.data.toList.length = s.size := by simp
  unfold dE
  omega
theorem isD_db {s : ByteArray} {k : Nat} (h : k < s.size) : isD s k = isDB (s.data.toList.getD k 0) := by
  unfold isD isDB bD
  by_cases q : 48 ≤ (s.data.toList.getD k 0).toNat ∧ (s.data.toList.getD k 0).toNat ≤ 57
  · rw [decide_eq_true q, decide_eq_true ⟨h, q⟩]
  · rw [decide_eq_false q, decide_eq_false fun x => q x.2]
theorem dE_step {s : ByteArray} {i k : Nat} (h1 : i ≤ k) (h2 : k ≤ dE s i) (hi : i ≤ s.size) : (isD s k = true → k < dE s i) ∧ (isD s k = false → k = dE s i) := by
  have hle := dE_le hi
  have hl : s.data.toList.length = s.size := by simp
  by_cases hk : k < s.size
  · have hs := runL_step (p := isDB) (l := s.data.toList.drop i) (k := k - i) (by unfold dE at h2; omega) (by rw [List.length_drop]; omega)
    have e : (s.data.toList.drop i).getD (k - i) 0 = s.data.toList.getD k 0 := by
      rw [List.getD_eq_getElem?_getD, List.getElem?_drop, show i + (k - i) = k by omega, ← List.getD_eq_getElem?_getD]
    rw [e, ← isD_db hk] at hs
    unfold dE
    exact ⟨fun h => by have := hs.1 h; omega, fun h => by have := hs.2 h; omega⟩
  · have : isD s k = false := decide_eq_false fun x => hk x.1
    rw [this]
    refine ⟨fun h => ?_, fun _ => ?_⟩
    · cases h
    · omega
theorem seg_nil (s : ByteArray) (i : Nat) : seg s i i = [] := by unfold seg; rw [Nat.sub_self, List.take_zero]
theorem seg_succ {s : ByteArray} {i k : Nat} (h1 : i ≤ k) (h2 : k < s.size) : seg s i (k + 1) = seg s i k ++ [s.data.toList.getD k 0] := by
  have hl : s.data.toList.length = s.size := by simp
  unfold seg
  rw [show k + 1 - i = (k - i) + 1 by omega, List.take_succ_eq_append_getElem (by rw [List.length_drop]; omega)]
  congr 2
  rw [List.getElem_drop, List.getD_eq_getElem?_getD, List.getElem?_eq_getElem (by omega)]
  simp [show i + (k - i) = k by omega]
theorem seg_len {s : ByteArray} {i k : Nat} (h2 : k ≤ s.size) : (seg s i k).length = k - i := by
  have hl : s.data.toList.length = s.size := by simp
  unfold seg
  rw [List.length_take, List.length_drop]
  omega
theorem seg_dig {s : ByteArray} {i k : Nat} (h2 : k ≤ dE s i) : ∀ x ∈ seg s i k, isDig x := by
  intro x hx
  obtain ⟨j, hj, rfl⟩ := List.getElem_of_mem hx
  unfold seg at hj ⊢
  rw [List.length_take] at hj
  have := runL_in isDB (s.data.toList.drop i) j (by unfold dE at h2; omega)
  rw [List.getElem_take]
  rw [List.getD_eq_getElem?_getD, List.getElem?_eq_getElem (by omega)] at this
  unfold isDB at this
  unfold isDig
  exact of_decide_eq_true this
def eN (l : List UInt8) : Nat := l.foldl (fun n c => min (10 * n + (c.toNat - 48)) 100000) 0
theorem eN_snoc (l : List UInt8) (c : UInt8) : eN (l ++ [c]) = min (10 * eN l + (c.toNat - 48)) 100000 := by simp [eN]
theorem eN_le (l : List UInt8) : eN l ≤ 100000 := by
  rcases List.eq_nil_or_concat l with rfl | ⟨l', c, rfl⟩
  · exact Nat.zero_le _
  · rw [List.concat_eq_append, eN_snoc]; exact Nat.min_le_right _ _
/-- The power behind the digits, and where the numeral ends. -/
def sgAt (s : ByteArray) (k : Nat) : Prop := k < s.size ∧ (bD s k = 43 ∨ bD s k = 45)
instance (s : ByteArray) (k : Nat) : Decidable (sgAt s k) := by unfold sgAt; infer_instance
def numTail (s : ByteArray) (i : Nat) (exp : Int) : Int × Nat :=
  if i < s.size ∧ (bD s i = 101 ∨ bD s i = 69) then
    if sgAt s (i + 1) then
      if isD s (i + 1 + 1) = true then (exp + (if bD s (i + 1) = 45 then -(eN (seg s (i + 1 + 1) (dE s (i + 1 + 1))) : Int) else (eN (seg s (i + 1 + 1) (dE s (i + 1 + 1))) : Int)), dE s (i + 1 + 1)) else (exp, i)
    else if isD s (i + 1) = true then (exp + (eN (seg s (i + 1) (dE s (i + 1))) : Int), dE s (i + 1)) else (exp, i)
  else (exp, i)
def dotAt (s : ByteArray) (frm i1 : Nat) : Prop := i1 < s.size ∧ bD s i1 = 46 ∧ (frm < i1 ∨ isD s (i1 + 1) = true)
instance (s : ByteArray) (a k : Nat) : Decidable (dotAt s a k) := by unfold dotAt; infer_instance
def numR (s : ByteArray) (frm : Nat) : Nat × Nat :=
  if dotAt s frm (dE s frm) then
    (valF (seg s frm (dE s frm) ++ seg s (dE s frm + 1) (dE s (dE s frm + 1))) (numTail s (dE s (dE s frm + 1)) (-((dE s (dE s frm + 1) - (dE s frm + 1) : Nat) : Int))).1, (numTail s (dE s (dE s frm + 1)) (-((dE s (dE s frm + 1) - (dE s frm + 1) : Nat) : Int))).2)
  else if frm < dE s frm then (valF (seg s frm (dE s frm)) (numTail s (dE s frm) 0).1, (numTail s (dE s frm) 0).2)
  else (0, frm)

set_option maxHeartbeats 1000000 in
theorem isdig_any (s : ByteArray) (i : Nat) (w : World) (hi : i ≤ 4194304) (hs : s.size ≤ 2097152) :
    Calls Try.prog 49 #[.string s, .int .i64 (i : Int)] w fun e w' => e = .returned (.bool (isD s i)) ∧ w = w' := by
  have i0 : (0 : Int) ≤ (i : Int) := by omega
  by_cases hlt : i < s.size
  · have i1 : (i : Int) < (s.size : Int) := by omega
    have hg := bD_get s i hlt
    have HD := Lib.hid (show isD s i = decide (48 ≤ bD s i ∧ bD s i ≤ 57) by
      unfold isD
      by_cases q : 48 ≤ bD s i ∧ bD s i ≤ 57
      · rw [decide_eq_true q, decide_eq_true ⟨hlt, q⟩]
      · rw [decide_eq_false q, decide_eq_false fun x => q x.2])
    generalize bD s i = x at *
    by_cases h1 : 48 ≤ x
    · have x1 : (48 : Int) ≤ (x : Int) := by omega
      by_cases h2 : x ≤ 57
      · have x2 : (x : Int) ≤ 57 := by omega
        have HX := Lib.hid (And.intro h1 h2)
        clear h1 h2
        go_enter Try.func49, Try.ntmps49
        go_wp2_with fail
        go_ret
        rw [HD.out, decide_eq_true HX.out]
        exact ⟨rfl, rfl⟩
      · have x2 : ¬ (x : Int) ≤ 57 := by omega
        have HX := Lib.hid h2
        clear h1 h2
        go_enter Try.func49, Try.ntmps49
        go_wp2_with fail
        go_ret
        rw [HD.out, decide_eq_false (fun q => HX.out q.2)]
        exact ⟨rfl, rfl⟩
    · have x1 : ¬ (48 : Int) ≤ (x : Int) := by omega
      have HX := Lib.hid h1
      clear h1
      go_enter Try.func49, Try.ntmps49
      go_wp2_with fail
      go_ret
      rw [HD.out, decide_eq_false (fun q => HX.out q.1)]
      exact ⟨rfl, rfl⟩
  · have i1 : ¬ (i : Int) < (s.size : Int) := by omega
    have HD := Lib.hid (show isD s i = false from decide_eq_false fun q => hlt q.1)
    clear hlt
    go_enter Try.func49, Try.ntmps49
    go_wp2_with fail
    go_ret
    rw [HD.out]
    exact ⟨rfl, rfl⟩
def blB (x : Nat) : Bool := decide (x = 32 ∨ x = 9 ∨ x = 10)
set_option maxHeartbeats 1000000 in
theorem blank_any (x : Nat) (w : World) :
    Calls Try.prog 47 #[.int .u8 (x : Int)] w fun e w' => e = .returned (.bool (blB x)) ∧ w = w' := by
  have e : blB x = ((x : Int) == 32 || ((x : Int) == 9 || (x : Int) == 10)) := by
    unfold blB
    by_cases h1 : x = 32
    · subst h1; rfl
    · by_cases h2 : x = 9
      · subst h2; rfl
      · by_cases h3 : x = 10
        · subst h3; rfl
        · rw [decide_eq_false (by omega)]
          have y1 : ((x : Int) == 32) = false := by rw [beq_eq_false_iff_ne]; omega
          have y2 : ((x : Int) == 9) = false := by rw [beq_eq_false_iff_ne]; omega
          have y3 : ((x : Int) == 10) = false := by rw [beq_eq_false_iff_ne]; omega
          rw [y1, y2, y3]; rfl
  rw [e]
  clear e
  cases h1 : ((x : Int) == 32) <;> cases h2 : ((x : Int) == 9) <;> cases h3 : ((x : Int) == 10)
  all_goals
    go_enter Try.func47, Try.ntmps47
    go_wp2_with fail
    go_ret
    exact ⟨rfl, rfl⟩
end Go.Proofs.Ytbpaiocbgbpiaaa
