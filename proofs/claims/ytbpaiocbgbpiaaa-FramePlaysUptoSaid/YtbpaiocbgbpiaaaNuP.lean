/- What a numeral in a text is, told plainly. -/
import Derived.Test.YtbpaiocbgbpiaaaBnS
namespace Go.Proofs.Ytbpaiocbgbpiaaa
set_option linter.unusedVariables false

theorem nums_bytes (l : List UInt8) : strOfNums (l.map fun c => (c.toNat : Int)) = ⟨l.toArray⟩ := by
  unfold strOfNums
  rw [List.map_map]
  have e : ((fun z : Int => UInt8.ofNat z.toNat) ∘ fun b : UInt8 => (b.toNat : Int)) = id := by
    funext b; simp
  rw [e, List.map_id]
/-- So many of the first that are p. -/
def runL (p : UInt8 → Bool) : List UInt8 → Nat
  | [] => 0
  | c :: l => if p c = true then runL p l + 1 else 0
theorem runL_le (p : UInt8 → Bool) : ∀ l, runL p l ≤ l.length
  | [] => Nat.le_refl _
  | c :: l => by
    have := runL_le p l
    unfold runL
    split <;> simp <;> omega
theorem runL_in (p : UInt8 → Bool) : ∀ l k, k < runL p l → p (l.getD k 0) = true
  | [], k, h => by simp [runL] at h
  | c :: l, k, h => by
    unfold runL at h
    split at h
    · rename_i hc
      cases k with
      | zero => exact hc
      | succ k => exact runL_in p l k (by omega)
    · omega
theorem runL_end (p : UInt8 → Bool) : ∀ l, runL p l < l.length → p (l.getD (runL p l) 0) = false
  | [], h => by simp [runL] at h
  | c :: l, h => by
    by_cases hc : p c = true
    · have e : runL p (c :: l) = runL p l + 1 := by rw [runL, if_pos hc]
      rw [e] at h ⊢
      have := runL_end p l (by simpa using h)
      simpa using this
    · have e : runL p (c :: l) = 0 := by rw [runL, if_neg hc]
      rw [e]
      simpa using hc
/-- What is met step by step. -/
theorem runL_step {p : UInt8 → Bool} {l : List UInt8} {k : Nat} (hk : k ≤ runL p l) (hl : k < l.length) : (p (l.getD k 0) = true → k < runL p l) ∧ (p (l.getD k 0) = false → k = runL p l) := by
  have hle := runL_le p l
  refine ⟨fun h => ?_, fun h => ?_⟩
  · rcases Nat.lt_or_ge k (runL p l) with h1 | h1
    · exact h1
    · obtain rfl : k = runL p l := by omega
      rw [runL_end p l hl] at h
      cases h
  · rcases Nat.lt_or_ge k (runL p l) with h1 | h1
    · rw [runL_in p l k h1] at h
      cases h
    · omega

def isZ (c : UInt8) : Bool := decide (c.toNat = 48)
def isDB (c : UInt8) : Bool := decide (48 ≤ c.toNat ∧ c.toNat ≤ 57)
def isBl (c : UInt8) : Bool := decide (c.toNat = 32 ∨ c.toNat = 9 ∨ c.toNat = 10)
/-- The value of digits and a power. -/
def restC (l : List UInt8) : UInt8 := if runL isZ l = l.length then 48 else 49
def cutL (l : List UInt8) : List UInt8 := if 1000 < l.length then l.take 1000 ++ [restC (l.drop 1000)] else l
def cutE (l : List UInt8) (exp : Int) : Int := if 1000 < l.length then exp + (l.length : Int) - 1001 else exp
def endF (l : List UInt8) (exp : Int) : Nat := if exp + (l.length : Int) < -400 then 0 else if 400 < exp + (l.length : Int) then 9218868437227405312 else readF (decV l) exp
def valF (l : List UInt8) (exp : Int) : Nat := if runL isZ l = l.length then 0 else endF (cutL (l.drop (runL isZ l))) (cutE (l.drop (runL isZ l)) exp)
end Go.Proofs.Ytbpaiocbgbpiaaa
