/- Numbers as lists of digits to a base: their value, the digits of a number, what trimming does. Plain Lean. -/
import Derived.ProofKit
namespace Go.Proofs.Ytbpaiocbgbpiaaa
set_option linter.unusedVariables false

/-- The value of digits to base b, the lowest first. -/
def vb (b : Nat) : List Nat → Nat
  | [] => 0
  | x :: l => x + b * vb b l
def dgF (b : Nat) : Nat → Nat → List Nat
  | 0, _ => []
  | f + 1, n => if n = 0 then [] else n % b :: dgF b f (n / b)
/-- The digits of a number to base b, none at the top that is 0. -/
def dg (b n : Nat) : List Nat := dgF b n n
/-- All digits are below b. -/
def Lo (b : Nat) (l : List Nat) : Prop := ∀ x ∈ l, x < b
/-- None at the top is 0. -/
def Top (l : List Nat) : Prop := ∀ h : l ≠ [], l.getLast h ≠ 0
/-- Without noughts at the top. -/
def trimL : List Nat → List Nat
  | [] => []
  | x :: l => if trimL l = [] ∧ x = 0 then [] else x :: trimL l

theorem vb_append (b : Nat) : ∀ (l r : List Nat), vb b (l ++ r) = vb b l + b ^ l.length * vb b r
  | [], r => by simp [vb]
  | x :: l, r => by
    show x + b * vb b (l ++ r) = _
    rw [vb_append b l r]
    show _ = x + b * vb b l + b ^ (l.length + 1) * vb b r
    rw [Nat.pow_succ, Nat.mul_add]
    rw [show b ^ l.length * b * vb b r = b * (b ^ l.length * vb b r) by rw [Nat.mul_comm (b ^ l.length) b, Nat.mul_assoc]]
    omega
theorem vb_snoc (b : Nat) (l : List Nat) (x : Nat) : vb b (l ++ [x]) = vb b l + b ^ l.length * x := by
  rw [vb_append]; simp [vb]
theorem vb_lt (b : Nat) (hb : 0 < b) : ∀ l, Lo b l → vb b l < b ^ l.length
  | [], _ => by simp [vb]
  | x :: l, h => by
    have h1 := h x (by simp)
    have h2 := vb_lt b hb l (fun y hy => h y (by simp [hy]))
    show x + b * vb b l < b ^ (l.length + 1)
    rw [Nat.pow_succ, Nat.mul_comm _ b]
    have : b * (vb b l + 1) ≤ b * b ^ l.length := Nat.mul_le_mul_left b h2
    rw [Nat.mul_add] at this
    omega
theorem vb_take (b : Nat) (l : List Nat) (i : Nat) : vb b (l.take (i + 1)) = vb b (l.take i) + b ^ i * l.getD i 0 := by
  rcases Nat.lt_or_ge i l.length with h | h
  · rw [List.take_succ_eq_append_getElem h, vb_snoc, List.length_take, Nat.min_eq_left (Nat.le_of_lt h), List.getD_eq_getElem?_getD, List.getElem?_eq_getElem h]; rfl
  · rw [List.take_of_length_le (by omega), List.take_of_length_le h, List.getD_eq_getElem?_getD, List.getElem?_eq_none h]; simp
theorem lo_getD {b : Nat} (hb : 0 < b) {l : List Nat} (h : Lo b l) (i : Nat) : l.getD i 0 < b := by
  rcases Nat.lt_or_ge i l.length with hl | hl
  · rw [List.getD_eq_getElem?_getD, List.getElem?_eq_getElem hl]; exact h _ (List.getElem_mem hl)
  · rw [List.getD_eq_getElem?_getD, List.getElem?_eq_none hl]; exact hb
theorem lo_snoc {b : Nat} {l : List Nat} {x : Nat} (h : Lo b l) (hx : x < b) : Lo b (l ++ [x]) := fun y hy => by
  rcases List.mem_append.1 hy with hy | hy
  · exact h y hy
  · simp at hy; omega
theorem lo_take {b : Nat} {l : List Nat} (h : Lo b l) (i : Nat) : Lo b (l.take i) := fun y hy => h y (List.mem_of_mem_take hy)

section
variable {b : Nat} (hb : 2 ≤ b)
include hb
theorem dgF_fuel : ∀ f n, n ≤ f → dgF b f n = dgF b n n
  | 0, n, h => by rw [show n = 0 by omega]
  | f + 1, 0, h => rfl
  | f + 1, n + 1, h => by
    have hd : (n + 1) / b ≤ n := by
      have : (n + 1) / b < n + 1 := Nat.div_lt_self (by omega) (by omega)
      omega
    show (if n + 1 = 0 then [] else _ :: dgF b f ((n + 1) / b)) = (if n + 1 = 0 then [] else _ :: dgF b n ((n + 1) / b))
    rw [if_neg (by omega), if_neg (by omega), dgF_fuel f _ (by omega), dgF_fuel n _ hd]
omit hb in
theorem dg_zero : dg b 0 = [] := rfl
theorem dg_step (n : Nat) (h : 0 < n) : dg b n = n % b :: dg b (n / b) := by
  obtain ⟨m, rfl⟩ : ∃ m, n = m + 1 := ⟨n - 1, by omega⟩
  have hd : (m + 1) / b ≤ m := by
    have : (m + 1) / b < m + 1 := Nat.div_lt_self (by omega) (by omega)
    omega
  unfold dg
  show (if m + 1 = 0 then [] else _ :: dgF b m ((m + 1) / b)) = _
  rw [if_neg (by omega), dgF_fuel hb m _ hd]
theorem dg_cons (x n : Nat) (hx : x < b) (h : 0 < x + b * n) : dg b (x + b * n) = x :: dg b n := by
  rw [dg_step hb _ h]
  congr 1
  · rw [Nat.add_mul_mod_self_left, Nat.mod_eq_of_lt hx]
  · rw [Nat.add_mul_div_left _ _ (by omega), Nat.div_eq_of_lt hx, Nat.zero_add]
theorem trimL_dg : ∀ l, Lo b l → trimL l = dg b (vb b l)
  | [], _ => rfl
  | x :: l, h => by
    have hx := h x (by simp)
    have ih := trimL_dg l (fun y hy => h y (by simp [hy]))
    show (if trimL l = [] ∧ x = 0 then [] else x :: trimL l) = dg b (x + b * vb b l)
    rw [ih]
    rcases Nat.eq_zero_or_pos (vb b l) with hz | hp
    · rw [hz]
      rcases Nat.eq_zero_or_pos x with rfl | hx0
      · rw [if_pos ⟨rfl, rfl⟩]; rfl
      · rw [if_neg (by omega), dg_cons hb x 0 hx (by omega)]
    · have hp' : 0 < b * vb b l := Nat.mul_pos (by omega) hp
      rw [if_neg (by rw [dg_step hb _ hp]; simp), dg_cons hb x _ hx (by omega)]
theorem vb_dg (n : Nat) : vb b (dg b n) = n := by
  induction n using Nat.strongRecOn with
  | _ n ih =>
    rcases Nat.eq_zero_or_pos n with rfl | hp
    · rfl
    · rw [dg_step hb n hp]
      show n % b + b * vb b (dg b (n / b)) = n
      rw [ih _ (Nat.div_lt_self hp (by omega))]
      exact Nat.mod_add_div n b
theorem dg_lo (n : Nat) : Lo b (dg b n) := by
  induction n using Nat.strongRecOn with
  | _ n ih =>
    rcases Nat.eq_zero_or_pos n with rfl | hp
    · intro x hx; cases hx
    · rw [dg_step hb n hp]
      intro x hx
      rcases List.mem_cons.1 hx with rfl | hx
      · exact Nat.mod_lt _ (by omega)
      · exact ih _ (Nat.div_lt_self hp (by omega)) x hx
theorem dg_nil {n : Nat} : dg b n = [] ↔ n = 0 := by
  constructor
  · intro h
    rcases Nat.eq_zero_or_pos n with h0 | hp
    · exact h0
    · rw [dg_step hb n hp] at h; cases h
  · rintro rfl; rfl
theorem dg_top (n : Nat) : Top (dg b n) := by
  induction n using Nat.strongRecOn with
  | _ n ih =>
    intro h
    rcases Nat.eq_zero_or_pos n with rfl | hp
    · exact absurd rfl h
    · have e := dg_step hb n hp
      rcases Nat.eq_zero_or_pos (n / b) with hz | hq
      · rw [hz] at e
        simp only [e, dg_zero, List.getLast_singleton]
        have := Nat.mod_add_div n b
        rw [hz] at this; omega
      · have h2 : dg b (n / b) ≠ [] := fun h => by rw [dg_nil hb] at h; omega
        have := ih _ (Nat.div_lt_self hp (by omega)) h2
        simp only [e, List.getLast_cons h2]
        exact this
theorem top_dg (l : List Nat) (hl : Lo b l) (ht : Top l) : dg b (vb b l) = l := by
  rw [← trimL_dg hb l hl]
  induction l with
  | nil => rfl
  | cons x l ih =>
    show (if trimL l = [] ∧ x = 0 then [] else x :: trimL l) = _
    cases l with
    | nil =>
      have := ht (by simp)
      simp at this
      simp [trimL, this]
    | cons y r =>
      have h2 := ih (fun z hz => hl z (by simp [hz])) (fun h => by have := ht (by simp); rwa [List.getLast_cons (by simp)] at this)
      rw [h2, if_neg (by simp)]
theorem dg_len (k n : Nat) : (dg b n).length ≤ k ↔ n < b ^ k := by
  constructor
  · intro h
    have h1 := vb_lt b (by omega) _ (dg_lo hb n)
    rw [vb_dg hb] at h1
    exact Nat.lt_of_lt_of_le h1 (Nat.pow_le_pow_right (by omega) h)
  · intro h
    induction k generalizing n with
    | zero => rw [Nat.pow_zero] at h; rw [show n = 0 by omega]; simp [dg_zero]
    | succ k ih =>
      rcases Nat.eq_zero_or_pos n with rfl | hp
      · simp [dg_zero]
      · rw [dg_step hb n hp, List.length_cons]
        have := ih (n / b) (by rw [Nat.pow_succ] at h; exact Nat.div_lt_of_lt_mul (by rw [Nat.mul_comm]; exact h))
        omega
theorem dg_inj {n m : Nat} (h : dg b n = dg b m) : n = m := by rw [← vb_dg hb n, h, vb_dg hb]
end

/-- The steps of trimming. -/
theorem trimL_snoc : ∀ (l : List Nat) (x : Nat), trimL (l ++ [x]) = if x = 0 then trimL l else l ++ [x]
  | [], x => by
    show (if trimL [] = [] ∧ x = 0 then [] else x :: trimL []) = _
    by_cases h : x = 0
    · rw [if_pos ⟨rfl, h⟩, if_pos h]; rfl
    · rw [if_neg (by omega), if_neg h]; rfl
  | y :: l, x => by
    show (if trimL (l ++ [x]) = [] ∧ y = 0 then [] else y :: trimL (l ++ [x])) = _
    rw [trimL_snoc l x]
    by_cases h : x = 0
    · rw [if_pos h, if_pos h]; rfl
    · rw [if_neg h, if_neg h, if_neg (by simp)]; rfl
theorem take_trim {l : List Nat} {k : Nat} (h : k < l.length) (h0 : l.getD k 0 = 0) : trimL (l.take (k + 1)) = trimL (l.take k) := by
  rw [List.take_succ_eq_append_getElem h, trimL_snoc, if_pos]
  rw [List.getD_eq_getElem?_getD, List.getElem?_eq_getElem h] at h0; exact h0
theorem take_stop {l : List Nat} {k : Nat} (h : k < l.length) (h0 : l.getD k 0 ≠ 0) : trimL (l.take (k + 1)) = l.take (k + 1) := by
  rw [List.take_succ_eq_append_getElem h, trimL_snoc, if_neg]
  rw [List.getD_eq_getElem?_getD, List.getElem?_eq_getElem h] at h0; exact h0

/-- One digit more. -/
theorem step_eq (b : Nat) (pre : List Nat) (q carry V t : Nat) (h : vb b pre + b ^ pre.length * carry = V) (hq : q = carry + t) :
    vb b (pre ++ [q % b]) + b ^ (pre.length + 1) * (q / b) = V + b ^ pre.length * t := by
  have e := Nat.mod_add_div q b
  have e2 : b ^ pre.length * (q % b + b * (q / b)) = b ^ pre.length * (carry + t) := by rw [e, hq]
  rw [Nat.mul_add, Nat.mul_add, ← Nat.mul_assoc] at e2
  rw [vb_snoc, Nat.pow_succ]
  omega

end Go.Proofs.Ytbpaiocbgbpiaaa
