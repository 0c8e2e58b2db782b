/- 'Texts of naturals, and naturals of texts, are right, or refused as the document says', walked. Printed by wip/tools/ntexts.py. -/
import Derived.Test.YtpklbdgajbfaiaaNtW30
namespace Go.Proofs.Ytpklbdgajbfaiaa
open Go.RowKit
set_option linter.unusedVariables false

theorem fold_lt (r : List UInt8) : (∀ c ∈ r, isDig c) → ∀ v, r.foldl (fun v c => 10 * v + (c.toNat - 48)) v < (v + 1) * 10 ^ r.length := by
  induction r with
  | nil => intro _ v; simp
  | cons c r ih =>
    intro h v
    have h2 := ih (fun x hx => h x (by simp [hx])) (10 * v + (c.toNat - 48))
    have hc := (h c (by simp)).2
    have h3 : (10 * v + (c.toNat - 48) + 1) * 10 ^ r.length ≤ (v + 1) * 10 * 10 ^ r.length := Nat.mul_le_mul_right _ (by omega)
    rw [List.foldl_cons, List.length_cons, Nat.pow_succ, Nat.mul_comm (10 ^ r.length), ← Nat.mul_assoc]
    exact Nat.lt_of_lt_of_le h2 h3
theorem decV_lt {l : List UInt8} (h : ∀ c ∈ l, isDig c) : decV l < 10 ^ l.length := by
  have := fold_lt l h 0
  simpa [decV] using this
theorem decV_pieces {l : List UInt8} (h : ∀ c ∈ l, isDig c) (hl : l.length ≤ 1000000) : (dg 10000 (decV l)).length ≤ 1000000 :=
  Nat.le_trans ((dg_len (b := 10000) (by omega) l.length _).2 (Nat.lt_of_lt_of_le (decV_lt h) (Nat.pow_le_pow_left (by omega) _))) hl
theorem ans_cut {w : World} {A : Option Addr} {n : Nat} {v : Int} {x : Nat} {f : Bool} (h : Ans w A n v x f) : Ans w A n v (if f then x else 0) f := by
  cases f
  · rcases h with h | ⟨h, _⟩
    · exact .inl h
    · cases h
  · exact h
theorem texts_far (A : Option Addr) (n c : Nat) (s : ByteArray) (w : World) (h : 400 < n ∨ 3000 < s.size) :
    Calls Try.prog 6 #[.slice A n c, .string s] w (Yes w) := by
  unfold Yes
  have HF := Lib.hid (fixed_any w)
  by_cases hn : 400 < n
  · have hn' : (400 : Int) < (n : Int) := by omega
    clear h hn
    go_enter Try.func6, Try.ntmps6
    go_wp2_with fail
    refine HF.out.mono ?_
    rintro e w1 ⟨rfl, hb⟩
    go_wp2_with fail
    go_ret
    exact ⟨rfl, hb⟩
  · have hn' : ¬ (400 : Int) < (n : Int) := by omega
    have hn2 : (3000 : Int) < (s.size : Int) := by omega
    clear h hn
    go_enter Try.func6, Try.ntmps6
    go_wp2_with fail
    refine HF.out.mono ?_
    rintro e w1 ⟨rfl, hb⟩
    go_wp2_with fail
    go_ret
    exact ⟨rfl, hb⟩


set_option maxRecDepth 100000 in
set_option maxHeartbeats 8000000 in
theorem texts_ok (A : Option Addr) (c : Nat) (x : Nat) (s : ByteArray) (f : Bool) (w : World) (hr : Rw .u32 w w.heap.size A (dg 4294967296 x)) (hx : x < 2 ^ 8192) (hA : A = none → (dg 4294967296 x).length = 0 ∧ c = 0) (hs : s.size ≤ 3000) (hf : f = true ↔ digits s.data.toList) :
    Calls Try.prog 6 #[.slice A (dg 4294967296 x).length c, .string s] w (Yes w) := by
  unfold Yes
  have HF := Lib.hid (fixed_any w)
  have HP := fun (w' : World) => parse_told s w' (by omega) f hf
  have HR := fun (w' : World) => rparse_told s w' (by omega) f hf
  have hXl : (dg 10000 (if f then decV s.data.toList else 0)).length ≤ 1000000 := by
    cases f
    · exact Nat.zero_le _
    · exact decV_pieces (hf.1 rfl).2 (by rw [Array.length_toList]; show s.size ≤ _; omega)
  have hAC := fun (w' : World) (A : Option Addr) (n : Nat) (v : Int) (h : Ans w' A n v (decV s.data.toList) f) => ans_cut h
  generalize (if f then decV s.data.toList else 0) = X at *
  generalize decV s.data.toList = V at *
  have s1 : ¬ (3000 : Int) < (s.size : Int) := by omega
  have hl := fit_len.2 hx
  have HT := fun (w' : World) (hb : Below w.heap.size w w') => ntext_ok A c w'.heap.size x w' (hr.go hb) (Nat.le_refl _) hl hA
  have HV := fun (w' : World) (hb : Below w.heap.size w w') => rvalid_dg A c x w' (hr.go hb) hl
  have HO := fun (w' : World) (hb : Below w.heap.size w w') => of_dg A c x w' (hr.go hb) (by omega)
  have hxd := dec_fit hl
  have t1 : ¬ (400 : Int) < ((dg 4294967296 x).length : Int) := by omega
  have HTx := fun (A : Option Addr) (c : Nat) (w' : World) (h : Rw .i64 w' w'.heap.size A (dg 10000 x)) => rtext_any A c w'.heap.size x w' h (Nat.le_refl _) (by omega)
  generalize hT : (⟨(decT x).toArray⟩ : ByteArray) = T at *
  clear hr hx hA hl hT hxd
  generalize (dg 4294967296 x).length = m at *
  replace HO := Lib.hid HO
  replace HTx := Lib.hid HTx
  have HX := Lib.hid (And.intro hXl hAC)
  clear hXl hAC hs hf
  replace HP := Lib.hid HP
  replace HR := Lib.hid HR
  replace HT := Lib.hid HT
  replace HV := Lib.hid HV
  go_enter Try.func6, Try.ntmps6
  go_wp2_with fail
  refine HF.out.mono ?_
  rintro e w1 ⟨rfl, hB1⟩
  go_wp2_with fail
  refine (HT.out w1 hB1).mono ?_
  rintro e w2 ⟨rfl, hb2⟩
  have hB2 := hB1.trans (hb2.mono hB1.size)
  clear hb2 hB1
  go_wp2_with fail
  refine (HV.out w2 hB2).mono ?_
  rintro e w' ⟨he, hw⟩
  subst he
  subst hw
  dsimp only
  go_wp2_with fail
  refine (HO.out w2 hB2).mono ?_
  rintro e w3 ⟨Ao, co, rfl, _, _, ro, hb3⟩
  have hB3 := hB2.trans (hb3.mono hB2.size)
  clear hb3 hB2
  go_wp2_with fail
  refine (HTx.out Ao co w3 ro).mono ?_
  rintro e w4 ⟨rfl, hb4⟩
  have hB4 := hB3.trans (hb4.mono hB3.size)
  clear hb4 hB3 ro
  go_wp2_with fail
  refine (HP.out w4).mono ?_
  rintro e w5 ⟨Ap, np, cp, vp, rfl, hp, hb5⟩
  have hB5 := hB4.trans (hb5.mono hB4.size)
  clear hb5 hB4
  go_wp2_with fail
  refine (HR.out w5).mono ?_
  rintro e w6 ⟨Aq, cq, rfl, rq, hb6⟩
  have hB6 := hB5.trans (hb6.mono hB5.size)
  replace hp := hp.go hb6
  clear hb6 hB5
  go_wp2_with fail
  refine (answered_any Ap np cp vp X Aq cq f w6 (HX.out.2 w6 Ap np vp hp) rq HX.out.1).mono ?_
  rintro e w7 ⟨rfl, hb7⟩
  have hB7 := hB6.trans (hb7.mono hB6.size)
  go_wp2_with fail
  go_ret
  exact ⟨rfl, hB7⟩

set_option maxRecDepth 100000 in
set_option maxHeartbeats 8000000 in
theorem texts_bad (A : Option Addr) (c : Nat) (l : List Nat) (s : ByteArray) (f : Bool) (w : World) (hr : Rw .u32 w w.heap.size A l) (hl : l.length ≤ 400) (hk : okL l = false) (hs : s.size ≤ 3000) (hf : f = true ↔ digits s.data.toList) :
    Calls Try.prog 6 #[.slice A l.length c, .string s] w (Yes w) := by
  unfold Yes
  have HF := Lib.hid (fixed_any w)
  have HP := fun (w' : World) => parse_told s w' (by omega) f hf
  have HR := fun (w' : World) => rparse_told s w' (by omega) f hf
  have hXl : (dg 10000 (if f then decV s.data.toList else 0)).length ≤ 1000000 := by
    cases f
    · exact Nat.zero_le _
    · exact decV_pieces (hf.1 rfl).2 (by rw [Array.length_toList]; show s.size ≤ _; omega)
  have hAC := fun (w' : World) (A : Option Addr) (n : Nat) (v : Int) (h : Ans w' A n v (decV s.data.toList) f) => ans_cut h
  generalize (if f then decV s.data.toList else 0) = X at *
  generalize decV s.data.toList = V at *
  have s1 : ¬ (3000 : Int) < (s.size : Int) := by omega
  have HT := fun (w' : World) (hb : Below w.heap.size w w') => ntext_bad A c w'.heap.size l w' (hr.go hb) (by omega) hk
  have HV := fun (w' : World) (hb : Below w.heap.size w w') => rvalid_any A c w'.heap.size l w' (hr.go hb) (by unfold maxLen; omega)
  rw [hk] at HV
  have t1 : ¬ (400 : Int) < (l.length : Int) := by omega
  clear hr hk hl
  generalize l.length = m at *
  have HX := Lib.hid (And.intro hXl hAC)
  clear hXl hAC hs hf
  replace HP := Lib.hid HP
  replace HR := Lib.hid HR
  replace HT := Lib.hid HT
  replace HV := Lib.hid HV
  go_enter Try.func6, Try.ntmps6
  go_wp2_with fail
  refine HF.out.mono ?_
  rintro e w1 ⟨rfl, hB1⟩
  go_wp2_with fail
  refine (HT.out w1 hB1).mono ?_
  rintro e w' ⟨he, hw⟩
  subst he
  subst hw
  dsimp only
  go_wp2_with fail
  refine (HV.out w1 hB1).mono ?_
  rintro e w' ⟨he, hw⟩
  subst he
  subst hw
  dsimp only
  go_wp2_with fail
  refine (HP.out w1).mono ?_
  rintro e w5 ⟨Ap, np, cp, vp, rfl, hp, hb5⟩
  have hB5 := hB1.trans (hb5.mono hB1.size)
  clear hb5 hB1
  go_wp2_with fail
  refine (HR.out w5).mono ?_
  rintro e w6 ⟨Aq, cq, rfl, rq, hb6⟩
  have hB6 := hB5.trans (hb6.mono hB5.size)
  replace hp := hp.go hb6
  clear hb6 hB5
  go_wp2_with fail
  refine (answered_any Ap np cp vp X Aq cq f w6 (HX.out.2 w6 Ap np vp hp) rq HX.out.1).mono ?_
  rintro e w7 ⟨rfl, hb7⟩
  have hB7 := hB6.trans (hb7.mono hB6.size)
  go_wp2_with fail
  go_ret
  exact ⟨rfl, hB7⟩

theorem texts_walk (A : Option Addr) (n c : Nat) (zs : List Int) (s : ByteArray) (w : World) (h1 : IsRow .u32 w A n c zs) :
    Calls Try.prog 6 #[.slice A n c, .string s] w (Yes w) := by
  obtain ⟨l, rfl, hlo, hr, hA, hc, hm⟩ := row_limbs h1
  by_cases hf : 400 < l.length ∨ 3000 < s.size
  · exact texts_far A _ c s w hf
  obtain ⟨f, hfd⟩ : ∃ f : Bool, f = true ↔ digits s.data.toList := by
    by_cases h : digits s.data.toList
    · exact ⟨true, by simp [h]⟩
    · exact ⟨false, by simp [h]⟩
  cases hk : okL l
  · exact texts_bad A c l s f w hr (by omega) hk (by omega) hfd
  have e1 := top_dg (b := 4294967296) (by omega) l hlo (okL_top hk).2
  have hx : vb 4294967296 l < 2 ^ 8192 := fit_len.1 (by rw [e1]; exact (okL_top hk).1)
  rw [← e1] at hr hA ⊢
  exact texts_ok A c _ s f w hr hx hA (by omega) hfd

end Go.Proofs.Ytpklbdgajbfaiaa
