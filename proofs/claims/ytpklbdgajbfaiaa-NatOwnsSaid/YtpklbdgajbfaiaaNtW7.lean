/- The program's naturals: trim, Clip, told, Add. -/
import Derived.Test.YtpklbdgajbfaiaaNtW6
namespace Go.Proofs.Ytpklbdgajbfaiaa
open Go.RowKit
set_option linter.unusedVariables false

set_option maxHeartbeats 1000000 in
theorem trim_any (A : Option Addr) (c B : Nat) (l : List Nat) (w : World) (hr : Rw .u32 w B A l) (hc : l.length ≤ c) (hm : c ≤ maxLen) :
    Calls Try.prog 37 #[.slice A l.length c] w fun e w' => e = .returned (.slice A (trimL l).length c) ∧ w = w' := by
  unfold maxLen at hm
  go_enter Try.func37, Try.ntmps37
  go_wp2_with fail
  go_loopw [0] (fun v wr => ∃ n, n ≤ l.length ∧ v = .slice A n c ∧ trimL (l.take n) = trimL l ∧ wr = w) (fun v _ => lenOf v)
  case atStart => exact ⟨l.length, Nat.le_refl _, rfl, by rw [List.take_length], rfl⟩
  case round =>
    obtain ⟨n, hn, rfl, ht, rfl⟩ := hrel
    cases n with
    | zero =>
      go_wp2_with fail
      go_ret
      rw [← ht]
      exact ⟨rfl, rfl⟩
    | succ n =>
      obtain ⟨b, off, rfl, _, hcell⟩ := hr.at_ (i := n) (by omega)
      by_cases h0 : l.getD n 0 = 0
      · have ht2 := (take_trim (by omega) h0).symm.trans ht
        rw [h0] at hcell
        clear ht
        go_wp2_with fail
        go_roundw
        case rel => exact ⟨n, by omega, by go_num, ht2, trivial⟩
        case measure => simp [lenOf]
      · have ht2 := (take_stop (by omega) h0).symm.trans ht
        have hl2 := congrArg List.length ht2
        rw [List.length_take, Nat.min_eq_left (by omega)] at hl2
        replace hl2 := Lib.hid hl2
        have hne : (((l.getD n 0 : Nat) : Int) == 0) = false := by rw [beq_eq_false_iff_ne]; omega
        generalize l.getD n 0 = x at *
        go_wp2_with fail
        go_ret
        rw [← hl2.out]
        exact ⟨rfl, rfl⟩


/-- A slice of limbs whose block was made at or behind 'base'; what it reads. -/
def Fr (base : Nat) (w : World) (A : Option Addr) (c : Nat) (l : List Nat) : Prop :=
  l.length ≤ c ∧ c ≤ maxLen ∧ (0 < c → ∃ g cur, A = some ⟨g, 0, none⟩ ∧ base ≤ g ∧ w.heap[g]? = some (.cells cur 24 (0, 0)) ∧ c ≤ cur.size ∧ cur.toList.take l.length = cellsN .u32 l)
theorem Fr.rw {base c : Nat} {w : World} {A : Option Addr} {l : List Nat} (h : Fr base w A c l) : Rw .u32 w w.heap.size A l := fun hl => by
  obtain ⟨g, cur, rfl, _, hg, hc, ht⟩ := h.2.2 (by have := h.1; omega)
  refine ⟨g, 0, rfl, (Array.getElem?_eq_some_iff.1 hg).1, fun j hj => ?_⟩
  rw [Nat.zero_add, cell_of_row w g j cur _ (0, 0) hg]
  have := cellsN_at (k := .u32) hj
  rw [← ht, List.getElem?_take_of_lt hj] at this
  simpa using this
theorem Fr.take {base c : Nat} {w : World} {A : Option Addr} {l : List Nat} (h : Fr base w A c l) (n : Nat) : Fr base w A c (l.take n) := by
  refine ⟨by rw [List.length_take]; have := h.1; omega, h.2.1, fun hc => ?_⟩
  obtain ⟨g, cur, e, hb, hg, hcc, ht⟩ := h.2.2 hc
  refine ⟨g, cur, e, hb, hg, hcc, ?_⟩
  rw [List.length_take, ← List.take_take, ht]
  simp [cellsN, List.map_take]
theorem Fr.trim {base c : Nat} {w : World} {A : Option Addr} {l : List Nat} (h : Fr base w A c l) : Fr base w A c (trimL l) := by
  obtain ⟨n, _, e⟩ := trimL_take l
  rw [e]; exact h.take n
theorem Fr.clip {base c : Nat} {w : World} {A : Option Addr} {l : List Nat} (h : Fr base w A c l) : Fr base w A l.length l := by
  refine ⟨Nat.le_refl _, Nat.le_trans h.1 h.2.1, fun hc => ?_⟩
  have h1 := h.1
  obtain ⟨g, cur, e, hb, hg, hcc, ht⟩ := h.2.2 (by omega)
  exact ⟨g, cur, e, hb, hg, by omega, ht⟩
theorem Fr.of_own {base c n : Nat} {w : World} {A : Option Addr} {l : List Nat} (h : w.ownsRow base 24 1 (.slice A n c) n (cellsN .u32 l)) : Fr base w A c l := by
  have hl : l.length = n := by have := h.1; rw [cellsN_len] at this; omega
  rcases h.2 with ⟨e, _⟩ | ⟨g, cap, cur, e, hb, hg, hn, hm, hs, ht⟩
  · cases e
    exact ⟨by omega, by unfold maxLen; omega, fun h => absurd h (by omega)⟩
  · cases e
    exact ⟨by omega, hm, fun _ => ⟨g, cur, rfl, hb, hg, by omega, by rw [hl]; simpa using ht⟩⟩
theorem Fr.below {base c : Nat} {w w' : World} {A : Option Addr} {l : List Nat} (h : Fr base w A c l) (hb : Below w.heap.size w w') : Fr base w' A c l := by
  refine ⟨h.1, h.2.1, fun hc => ?_⟩
  obtain ⟨g, cur, e, h1, hg, hcc, ht⟩ := h.2.2 hc
  exact ⟨g, cur, e, h1, (hb.block g (Array.getElem?_eq_some_iff.1 hg).1).trans hg, hcc, ht⟩
theorem Fr.more {base base' c : Nat} {w : World} {A : Option Addr} {l : List Nat} (h : Fr base w A c l) (hb : base' ≤ base) : Fr base' w A c l := by
  refine ⟨h.1, h.2.1, fun hc => ?_⟩
  obtain ⟨g, cur, e, h1, r⟩ := h.2.2 hc
  exact ⟨g, cur, e, by omega, r⟩
theorem Fr.nil (base : Nat) (w : World) : Fr base w none 0 [] := ⟨Nat.le_refl _, by unfold maxLen; omega, fun h => absurd h (by omega)⟩

theorem clip_any (A : Option Addr) (n c : Nat) (w : World) (h1 : n ≤ c) (h2 : c ≤ maxLen) (h3 : 0 < c → ∃ g, A = some ⟨g, 0, none⟩) :
    Calls Try.prog 36 #[.slice A n c] w fun e w' => e = .returned (.slice A n n) ∧ w = w' := by
  unfold maxLen at h2
  have i1 : (n : Int) ≤ (c : Int) := by omega
  have i0 : (0 : Int) ≤ (n : Int) := by omega
  cases A with
  | none =>
    obtain rfl : c = 0 := by
      rcases Nat.eq_zero_or_pos c with h | h
      · exact h
      · obtain ⟨g, e⟩ := h3 h; cases e
    obtain rfl : n = 0 := by omega
    go_enter Try.func36, Try.ntmps36
    go_wp2_with fail
    go_ret
    exact ⟨rfl, rfl⟩
  | some a =>
    clear h3
    go_enter Try.func36, Try.ntmps36
    go_wp2_with fail
    go_ret
    exact ⟨rfl, rfl⟩

theorem pow_pow (a b : Nat) {c d : Nat} (h : c = 2 ^ a) (hd : d = a * b) : c ^ b = 2 ^ d := by subst h hd; exact (Nat.pow_mul 2 a b).symm
theorem r256 : (4294967296 : Nat) ^ 256 = 2 ^ 8192 := @pow_pow 32 256 4294967296 8192 (by decide) (by decide)
theorem fit_len {x : Nat} : (dg 4294967296 x).length ≤ 256 ↔ x < 2 ^ 8192 := by rw [dg_len (by omega), r256]
theorem okL_dg {x : Nat} (h : x < 2 ^ 8192) : okL (dg 4294967296 x) = true := okL_of (fit_len.2 h) (dg_top (by omega) x)

theorem told_fit (A : Option Addr) (c base : Nat) (l : List Nat) (w : World) (hf : Fr base w A c l) (hlo : Lo 4294967296 l) (hx : vb 4294967296 l < 2 ^ 8192) :
    Calls Try.prog 32 #[.slice A l.length c] w fun e w' => e = .returned (.tuple #[.slice A (dg 4294967296 (vb 4294967296 l)).length (dg 4294967296 (vb 4294967296 l)).length, .int .i64 0]) ∧ w = w' := by
  have ht := trimL_dg (b := 4294967296) (by omega) l hlo
  have hl := fit_len.2 hx
  have HT := trim_any A c w.heap.size l w hf.rw hf.1 hf.2.1
  have hft := hf.trim
  rw [ht] at HT hft
  generalize dg 4294967296 (vb 4294967296 l) = d at *
  have HC := clip_any A d.length c w hft.1 hft.2.1 (fun h => by obtain ⟨g, cur, e, _⟩ := hft.2.2 h; exact ⟨g, e⟩)
  have hl' : ¬ 256 < (d.length : Int) := by omega
  replace HT := Lib.hid HT
  replace HC := Lib.hid HC
  clear hf hft ht hl hx
  generalize d.length = n at *
  go_enter Try.func32, Try.ntmps32
  go_wp2_with fail
  refine HT.out.mono ?_
  rintro e w' ⟨he, hw⟩
  subst he
  subst hw
  dsimp only
  go_wp2_with fail
  refine HC.out.mono ?_
  rintro e w' ⟨he, hw⟩
  subst he
  subst hw
  dsimp only
  go_wp2_with fail
  go_ret2
  exact ⟨rfl, rfl⟩
theorem told_long (A : Option Addr) (c base : Nat) (l : List Nat) (w : World) (hf : Fr base w A c l) (hlo : Lo 4294967296 l) (hx : ¬ vb 4294967296 l < 2 ^ 8192) :
    Calls Try.prog 32 #[.slice A l.length c] w fun e w' => e = .returned (.tuple #[.slice none 0 0, .int .i64 3]) ∧ w = w' := by
  have ht := trimL_dg (b := 4294967296) (by omega) l hlo
  have hl : ¬ (dg 4294967296 (vb 4294967296 l)).length ≤ 256 := fun h => hx (fit_len.1 h)
  have HT := trim_any A c w.heap.size l w hf.rw hf.1 hf.2.1
  rw [ht] at HT
  have hl' : 256 < ((dg 4294967296 (vb 4294967296 l)).length : Int) := by omega
  generalize dg 4294967296 (vb 4294967296 l) = d at *
  replace HT := Lib.hid HT
  clear hf ht hl hx
  generalize d.length = n at *
  go_enter Try.func32, Try.ntmps32
  go_wp2_with fail
  refine HT.out.mono ?_
  rintro e w' ⟨he, hw⟩
  subst he
  subst hw
  dsimp only
  go_wp2_with fail
  go_ret2
  exact ⟨rfl, rfl⟩

end Go.Proofs.Ytpklbdgajbfaiaa
