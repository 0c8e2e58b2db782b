/- Is an answer right?, walked; a difference of less; the program's answers for any limbs. -/
import Derived.Test.YtpklbdgajbfaiaaNtW24
namespace Go.Proofs.Ytpklbdgajbfaiaa
open Go.RowKit
set_option linter.unusedVariables false

def Yes (w : World) (e : Ending) (w' : World) : Prop := e = .returned (.bool true) ∧ Below w.heap.size w w'
/-- An answer of the program for the number x. -/
def Ans (w : World) (A : Option Addr) (n : Nat) (v : Int) (x : Nat) (fine : Bool) : Prop :=
  (fine = false ∧ n = 0 ∧ v = 30) ∨ (fine = true ∧ ((x < 2 ^ 8192 ∧ n = (dg 4294967296 x).length ∧ v = 0 ∧ Rw .u32 w w.heap.size A (dg 4294967296 x)) ∨ (¬ x < 2 ^ 8192 ∧ n = 0 ∧ v = 3)))
theorem Ans.go {w w' : World} {A : Option Addr} {n : Nat} {v : Int} {x : Nat} {fine : Bool} (h : Ans w A n v x fine) (hb : Below w.heap.size w w') : Ans w' A n v x fine := by
  rcases h with h | ⟨h, h1 | h1⟩
  · exact .inl h
  · exact .inr ⟨h, .inl ⟨h1.1, h1.2.1, h1.2.2.1, h1.2.2.2.go hb⟩⟩
  · exact .inr ⟨h, .inr h1⟩
/-- Two results: an answer. -/
def Told (x : Nat) (fine : Bool) (w : World) (e : Ending) (w' : World) : Prop :=
  ∃ A n c v, e = .returned (.tuple #[.slice A n c, .int .i64 v]) ∧ Ans w' A n v x fine ∧ Below w.heap.size w w'
theorem told_is {x : Nat} {w : World} {e : Ending} {w' : World} (h : NatIs x w e w') : Told x true w e w' := by
  obtain ⟨⟨hx, A, c, rfl, hf⟩ | ⟨hx, rfl⟩, hb⟩ := h
  · exact ⟨A, _, c, 0, rfl, .inr ⟨rfl, .inl ⟨hx, rfl, rfl, hf.rw⟩⟩, hb⟩
  · exact ⟨none, 0, 0, 3, rfl, .inr ⟨rfl, .inr ⟨hx, rfl, rfl⟩⟩, hb⟩
theorem told_ok {x : Nat} {w : World} {e : Ending} {w' : World} (hx : x < 2 ^ 8192) (h : NatOk x w e w') : Told x true w e w' := by
  obtain ⟨⟨A, c, rfl, hf⟩, hb⟩ := h
  exact ⟨A, _, c, 0, rfl, .inr ⟨rfl, .inl ⟨hx, rfl, rfl, hf.rw⟩⟩, hb⟩

set_option maxHeartbeats 4000000 in
theorem answered_any (A : Option Addr) (n c : Nat) (v : Int) (x : Nat) (A2 : Option Addr) (c2 : Nat) (fine : Bool) (w : World) (h : Ans w A n v x fine) (hr2 : Rw .i64 w w.heap.size A2 (dg 10000 x)) (hl : (dg 10000 x).length ≤ 1000000) :
    Calls Try.prog 25 #[.slice A n c, .int .i64 v, .slice A2 (dg 10000 x).length c2, .bool fine] w (Yes w) := by
  unfold Yes
  rcases h with ⟨rfl, rfl, rfl⟩ | ⟨rfl, ⟨hx, rfl, rfl, hr⟩ | ⟨hx, rfl, rfl⟩⟩
  · generalize (dg 10000 x).length = n2 at *
    clear hr2
    go_enter Try.func25, Try.ntmps25
    go_wp2_with fail
    go_ret
    exact ⟨rfl, Below.refl _ _⟩
  · have HF := fits_any A2 c2 w.heap.size x w hr2 (Nat.le_refl _) hl
    rw [decide_eq_true hx] at HF
    have hlo := dg_lo (b := 4294967296) (by omega) x
    have hok := okL_dg hx
    have hv := vb_dg (b := 4294967296) (by omega) x
    have HI := fun (w' : World) (hb : Below w.heap.size w w') => is_yes A c w'.heap.size (dg 4294967296 x) A2 c2 w' (hr.go hb) (Nat.le_refl _) hlo hok (by rw [hv]; exact hr2.go hb)
    rw [hv] at HI
    replace HF := Lib.hid HF
    replace HI := Lib.hid HI
    clear hx hr hr2 hlo hok hv
    generalize (dg 10000 x).length = n2 at *
    generalize (dg 4294967296 x).length = n1 at *
    go_enter Try.func25, Try.ntmps25
    go_wp2_with fail
    refine HF.out.mono ?_
    rintro e w1 ⟨rfl, hb1⟩
    go_wp2_with fail
    refine (HI.out w1 hb1).mono ?_
    rintro e w2 ⟨rfl, hb2⟩
    go_wp2_with fail
    go_ret
    exact ⟨rfl, hb1.trans (hb2.mono hb1.size)⟩
  · have HF := fits_any A2 c2 w.heap.size x w hr2 (Nat.le_refl _) hl
    rw [decide_eq_false hx] at HF
    replace HF := Lib.hid HF
    clear hx hr2
    generalize (dg 10000 x).length = n2 at *
    go_enter Try.func25, Try.ntmps25
    go_wp2_with fail
    refine HF.out.mono ?_
    rintro e w1 ⟨rfl, hb1⟩
    go_wp2_with fail
    go_ret
    exact ⟨rfl, hb1⟩

set_option maxHeartbeats 4000000 in
theorem nsub_lt (A : Option Addr) (c x : Nat) (A2 : Option Addr) (c2 y : Nat) (w : World) (hr : Rw .u32 w w.heap.size A (dg 4294967296 x)) (hr2 : Rw .u32 w w.heap.size A2 (dg 4294967296 y))
    (hl1 : (dg 4294967296 x).length ≤ 256) (hl2 : (dg 4294967296 y).length ≤ 256) (hxy : x < y) :
    Calls Try.prog 11 #[.slice A (dg 4294967296 x).length c, .slice A2 (dg 4294967296 y).length c2] w fun e w' => e = .returned (.tuple #[.slice none 0 0, .int .i64 1]) ∧ Below w.heap.size w w' := by
  have HV1 := valid_any A c w.heap.size _ w hr (by unfold maxLen; omega)
  rw [okL_of hl1 (dg_top (by omega) x)] at HV1
  have HV2 := valid_any A2 c2 w.heap.size _ w hr2 (by unfold maxLen; omega)
  rw [okL_of hl2 (dg_top (by omega) y)] at HV2
  have HC := ncmp_any A c w.heap.size x A2 c2 y w hr hr2 (Nat.le_refl _) (by omega) (by omega)
  rw [cmpI_lt hxy] at HC
  generalize (dg 4294967296 x).length = n1 at *
  generalize (dg 4294967296 y).length = n2 at *
  replace HV1 := Lib.hid HV1
  replace HV2 := Lib.hid HV2
  replace HC := Lib.hid HC
  clear hr hr2 hxy
  go_enter Try.func11, Try.ntmps11
  go_wp2_with fail
  refine HV1.out.mono ?_
  rintro e w' ⟨he, hw⟩
  subst he
  subst hw
  dsimp only
  go_wp2_with fail
  refine HV2.out.mono ?_
  rintro e w' ⟨he, hw⟩
  subst he
  subst hw
  dsimp only
  go_wp2_with fail
  refine HC.out.mono ?_
  rintro e w1 ⟨rfl, hb1⟩
  go_wp2_with fail
  go_ret2
  exact ⟨rfl, hb1⟩

theorem ok_cases {l1 l2 : List Nat} (hlo1 : Lo 4294967296 l1) (hlo2 : Lo 4294967296 l2) : (okL l1 && okL l2) = false ∧ (okL l1 = false ∨ okL l2 = false) ∨
    (okL l1 && okL l2) = true ∧ okL l1 = true ∧ okL l2 = true ∧ dg 4294967296 (vb 4294967296 l1) = l1 ∧ dg 4294967296 (vb 4294967296 l2) = l2 ∧ l1.length ≤ 256 ∧ l2.length ≤ 256 ∧ vb 4294967296 l1 < 2 ^ 8192 ∧ vb 4294967296 l2 < 2 ^ 8192 := by
  cases h1 : okL l1 <;> cases h2 : okL l2
  · exact .inl ⟨rfl, .inl rfl⟩
  · exact .inl ⟨rfl, .inl rfl⟩
  · exact .inl ⟨rfl, .inr rfl⟩
  · have k1 := okL_top h1
    have k2 := okL_top h2
    have e1 := top_dg (b := 4294967296) (by omega) l1 hlo1 k1.2
    have e2 := top_dg (b := 4294967296) (by omega) l2 hlo2 k2.2
    exact .inr ⟨rfl, rfl, rfl, e1, e2, k1.1, k2.1, fit_len.1 (by rw [e1]; exact k1.1), fit_len.1 (by rw [e2]; exact k2.1)⟩

theorem nadd_told (A : Option Addr) (c : Nat) (l1 : List Nat) (A2 : Option Addr) (c2 : Nat) (l2 : List Nat) (w : World) (hr : Rw .u32 w w.heap.size A l1) (hr2 : Rw .u32 w w.heap.size A2 l2) (hlo1 : Lo 4294967296 l1) (hlo2 : Lo 4294967296 l2) (hl1 : l1.length ≤ 400) (hl2 : l2.length ≤ 400) :
    Calls Try.prog 10 #[.slice A l1.length c, .slice A2 l2.length c2] w (Told (vb 4294967296 l1 + vb 4294967296 l2) (okL l1 && okL l2) w) := by
  rcases ok_cases hlo1 hlo2 with ⟨e, h⟩ | ⟨e, k1, k2, e1, e2, b1, b2, f1, f2⟩
  · rw [e]
    refine (nadd_bad A c w.heap.size l1 A2 c2 l2 w hr hr2 (by omega) (by omega) h).mono ?_
    rintro e w' ⟨rfl, rfl⟩
    exact ⟨_, _, _, _, rfl, .inl ⟨rfl, rfl, rfl⟩, Below.refl _ _⟩
  · rw [e]
    have h := nadd_any A c w.heap.size (vb 4294967296 l1) A2 c2 (vb 4294967296 l2) w (by rw [e1]; exact hr) (by rw [e2]; exact hr2) (Nat.le_refl _) f1 f2
    rw [e1, e2] at h
    exact h.mono fun e w' h => told_is h
theorem nmul_told (A : Option Addr) (c : Nat) (l1 : List Nat) (A2 : Option Addr) (c2 : Nat) (l2 : List Nat) (w : World) (hr : Rw .u32 w w.heap.size A l1) (hr2 : Rw .u32 w w.heap.size A2 l2) (hlo1 : Lo 4294967296 l1) (hlo2 : Lo 4294967296 l2) (hl1 : l1.length ≤ 400) (hl2 : l2.length ≤ 400) :
    Calls Try.prog 12 #[.slice A l1.length c, .slice A2 l2.length c2] w (Told (vb 4294967296 l1 * vb 4294967296 l2) (okL l1 && okL l2) w) := by
  rcases ok_cases hlo1 hlo2 with ⟨e, h⟩ | ⟨e, k1, k2, e1, e2, b1, b2, f1, f2⟩
  · rw [e]
    refine (nmul_bad A c w.heap.size l1 A2 c2 l2 w hr hr2 (by omega) (by omega) h).mono ?_
    rintro e w' ⟨rfl, rfl⟩
    exact ⟨_, _, _, _, rfl, .inl ⟨rfl, rfl, rfl⟩, Below.refl _ _⟩
  · rw [e]
    have h := nmul_any A c w.heap.size (vb 4294967296 l1) A2 c2 (vb 4294967296 l2) w (by rw [e1]; exact hr) (by rw [e2]; exact hr2) (Nat.le_refl _) f1 f2
    rw [e1, e2] at h
    exact h.mono fun e w' h => told_is h
/-- A difference's answer. -/
def SubAns (w : World) (A : Option Addr) (n : Nat) (v : Int) (x y : Nat) (fine : Bool) : Prop :=
  (fine = false ∧ n = 0 ∧ v = 30) ∨ (fine = true ∧ ((y ≤ x ∧ n = (dg 4294967296 (x - y)).length ∧ v = 0 ∧ Rw .u32 w w.heap.size A (dg 4294967296 (x - y))) ∨ (x < y ∧ n = 0 ∧ v = 1)))
theorem SubAns.go {w w' : World} {A : Option Addr} {n : Nat} {v : Int} {x y : Nat} {fine : Bool} (h : SubAns w A n v x y fine) (hb : Below w.heap.size w w') : SubAns w' A n v x y fine := by
  rcases h with h | ⟨h, h1 | h1⟩
  · exact .inl h
  · exact .inr ⟨h, .inl ⟨h1.1, h1.2.1, h1.2.2.1, h1.2.2.2.go hb⟩⟩
  · exact .inr ⟨h, .inr h1⟩
theorem nsub_told (A : Option Addr) (c : Nat) (l1 : List Nat) (A2 : Option Addr) (c2 : Nat) (l2 : List Nat) (w : World) (hr : Rw .u32 w w.heap.size A l1) (hr2 : Rw .u32 w w.heap.size A2 l2) (hlo1 : Lo 4294967296 l1) (hlo2 : Lo 4294967296 l2) (hl1 : l1.length ≤ 400) (hl2 : l2.length ≤ 400) (hA : A = none → l1.length = 0 ∧ c = 0) :
    Calls Try.prog 11 #[.slice A l1.length c, .slice A2 l2.length c2] w fun e w' => ∃ A n c v, e = .returned (.tuple #[.slice A n c, .int .i64 v]) ∧ SubAns w' A n v (vb 4294967296 l1) (vb 4294967296 l2) (okL l1 && okL l2) ∧ Below w.heap.size w w' := by
  rcases ok_cases hlo1 hlo2 with ⟨e, h⟩ | ⟨e, k1, k2, e1, e2, b1, b2, f1, f2⟩
  · rw [e]
    refine (nsub_bad A c w.heap.size l1 A2 c2 l2 w hr hr2 (by omega) (by omega) h).mono ?_
    rintro e w' ⟨rfl, rfl⟩
    exact ⟨_, _, _, _, rfl, .inl ⟨rfl, rfl, rfl⟩, Below.refl _ _⟩
  · rw [e]
    by_cases hxy : vb 4294967296 l1 < vb 4294967296 l2
    · have h := nsub_lt A c (vb 4294967296 l1) A2 c2 (vb 4294967296 l2) w (by rw [e1]; exact hr) (by rw [e2]; exact hr2) (by rw [e1]; exact b1) (by rw [e2]; exact b2) hxy
      rw [e1, e2] at h
      refine h.mono ?_
      rintro e w' ⟨rfl, hb⟩
      exact ⟨_, _, _, _, rfl, .inr ⟨rfl, .inr ⟨hxy, rfl, rfl⟩⟩, hb⟩
    · have h := nsub_ok A c w.heap.size (vb 4294967296 l1) A2 c2 (vb 4294967296 l2) w (by rw [e1]; exact hr) (by rw [e2]; exact hr2) (Nat.le_refl _) f1 (by omega) (by rw [e1]; exact hA)
      rw [e1, e2] at h
      refine h.mono ?_
      rintro e w' ⟨⟨A', c', rfl, hf⟩, hb⟩
      exact ⟨_, _, _, _, rfl, .inr ⟨rfl, .inl ⟨by omega, rfl, rfl, hf.rw⟩⟩, hb⟩

end Go.Proofs.Ytpklbdgajbfaiaa
