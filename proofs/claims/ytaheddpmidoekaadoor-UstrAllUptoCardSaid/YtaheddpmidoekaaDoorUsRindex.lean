/- The walk of the document's 'Index'. -/
import Derived.Test.YtaheddpmidoekaaDoorUsRsub
namespace Go.Proofs.YtaheddpmidoekaaDoor
open Go.RowKit
set_option linter.unusedVariables false

/-- t stands at place p. -/
def pre (s : ByteArray) (p : Nat) (t : ByteArray) : Prop := p + t.size ≤ s.size ∧ s.extract p (p + t.size) = t
noncomputable instance (s : ByteArray) (p : Nat) (t : ByteArray) : Decidable (pre s p t) := inferInstanceAs (Decidable (_ ∧ _))
/-- The number of the first place at which t stands; 0: none. -/
noncomputable def idxL (s t : ByteArray) : List Nat → Nat → Nat
  | [], _ => 0
  | p :: l, k => if pre s p t then k + 1 else idxL s t l (k + 1)
noncomputable def idxV (s t : ByteArray) (m : Bool) : Nat := if t.size = 0 then 0 else idxL s t (places s m) 0
theorem idxL_drop (s t : ByteArray) {l : List Nat} {k p : Nat} (h : l[k]? = some p) : idxL s t (l.drop k) k = if pre s p t then k + 1 else idxL s t (l.drop (k + 1)) (k + 1) := by
  have hk : k < l.length := by
    rcases Nat.lt_or_ge k l.length with h2 | h2
    · exact h2
    · rw [List.getElem?_eq_none h2] at h; cases h
  rw [List.drop_eq_getElem_cons hk]
  have : l[k] = p := by rw [List.getElem?_eq_getElem hk] at h; exact Option.some.inj h
  rw [this]; rfl

theorem str_ne {t : ByteArray} (h : t.size ≠ 0) : t.toList.isEmpty = false := by
  rw [Lib.toList_data]
  cases hd : t.data.toList with
  | nil => exact absurd (by rw [Lib.size_eq, hd]; rfl) h
  | cons => rfl
theorem str_eq (a b : ByteArray) : (a.toList == b.toList) = decide (a = b) := by
  rw [Lib.toList_data, Lib.toList_data]
  by_cases h : a = b
  · subst h; simp
  · rw [decide_eq_false h, beq_eq_false_iff_ne]
    intro e
    apply h
    cases a; cases b
    simp at e
    rw [e]

set_option maxHeartbeats 4000000 in
set_option maxRecDepth 100000 in
theorem rindex_any (s t : ByteArray) (m : Bool) (w : World) (hs : s.size ≤ 4398046511104) (ht : t.size ≤ 4398046511104) :
    Calls Tryd.prog 30 #[.string s, .string t, .bool m] w fun e w' => e = .returned (.int .i64 (idxV s t m : Int)) ∧ Below w.heap.size w w' := by
  have hpz := places_len s m
  have hsl := starts_len s m
  by_cases ht0 : t.size = 0
  · have hv : idxV s t m = 0 := if_pos ht0
    rw [hv]
    have hte : t = ⟨#[]⟩ := by
      cases t with
      | mk d => congr 1; exact Array.eq_empty_of_size_eq_zero ht0
    go_enter Tryd.func30, Tryd.ntmps30
    go_wp2_with fail
    refine (starts_any s m w hs).mono ?_
    rintro e w1 ⟨v, rfl, hL, hB⟩
    rw [hsl] at hL
    obtain ⟨A, cp, rfl, hc1, hc2, _⟩ := own_form hL
    clear hv
    subst hte
    go_wp2_with fail
    refine wp_loop_once ?_
    by_cases h0 : 0 < (places s m).length
    · go_wp2_with fail
      go_ret
      exact ⟨rfl, hB⟩
    · go_wp2_with fail
      go_ret
      exact ⟨rfl, hB⟩
  · have hv : idxV s t m = idxL s t (places s m) 0 := if_neg ht0
    rw [hv]
    have hne := str_ne ht0
    go_enter Tryd.func30, Tryd.ntmps30
    go_wp2_with fail
    refine (starts_any s m w hs).mono ?_
    rintro e w1 ⟨v, rfl, hL, hB⟩
    rw [hsl] at hL
    obtain ⟨A, cp, rfl, hc1, hc2, _⟩ := own_form hL
    clear hv
    unfold maxLen at hc2
    go_wp2_with fail
    go_loopw [8] (fun v8 wr => ∃ k : Nat, v8 = .int .i64 (k : Int) ∧ k ≤ (places s m).length ∧ idxL s t (places s m) 0 = idxL s t ((places s m).drop k) k ∧ wr.heap = w1.heap ∧ Below w.heap.size w wr)
      (fun v8 _ => (places s m).length - (intOf v8).toNat)
    case atStart => exact ⟨0, rfl, Nat.zero_le _, rfl, rfl, hB⟩
    case round =>
      obtain ⟨k, rfl, hk, hix, hh, hBr⟩ := hrel
      by_cases hlt : k < (places s m).length
      · obtain ⟨p, hp⟩ : ∃ p, (places s m)[k]? = some p := ⟨_, List.getElem?_eq_getElem hlt⟩
        obtain ⟨hps, st1, st2⟩ := starts_at s m hp
        have hstep := idxL_drop s t hp
        obtain ⟨g, rfl, _, _, ci, _⟩ := own_at hL (ints_at st1)
        have ce : wr.cell? ⟨g, k, none⟩ = some (.int .i64 (p : Int)) := by
          rw [← ci]; simp [World.cell?, hh]
        have HS := Lib.hid hstep
        have HI := Lib.hid hix
        have HH := Lib.hid hh
        clear hstep hix hh
        generalize hpn : (places s m).length = n at *
        have g1 : (k : Int) < (n : Int) + 1 := by omega
        have g0 : (0 : Int) ≤ (k : Int) := by omega
        by_cases hfit : p + t.size ≤ s.size
        · have hf : (t.size : Int) ≤ (s.size : Int) - (p : Int) := by omega
          have g3 : (p : Int) ≤ (p : Int) + (t.size : Int) := by omega
          have g4 : (p : Int) + (t.size : Int) ≤ (s.size : Int) := by omega
          have g5 : (0 : Int) ≤ (p : Int) := by omega
          go_wp2_with fail
          go_quiet (fail)
          have HB2 : Below w.heap.size w (wr.drewN nq) := ⟨hBr.os, hBr.tape, hBr.output, hBr.size, hBr.block⟩
          have HH2 : (wr.drewN nq).heap = w1.heap := HH.out
          go_wp2_with fail
          · rename_i hq
            rw [str_eq] at hq
            have hq2 := of_decide_eq_true hq
            go_ret
            refine ⟨?_, HB2⟩
            rw [HI.out, HS.out, if_pos ⟨hfit, hq2⟩]
            rfl
          · rename_i hq
            have hq1 : ((s.extract p (p + t.size)).toList == t.toList) = false := by first | exact hq | simpa using hq
            rw [str_eq] at hq1
            have hq2 := of_decide_eq_false hq1
            go_roundw
            case rel =>
              refine ⟨k + 1, by go_num, by omega, ?_, HH2, HB2⟩
              rw [HI.out, HS.out, if_neg (fun h => hq2 h.2)]
            case measure => simp [intOf]; omega
        · have hf : decide ((t.size : Int) ≤ (s.size : Int) - (p : Int)) = false := by simp; omega
          go_wp2_with fail
          go_quiet (fail)
          have HB2 : Below w.heap.size w (wr.drewN nq) := ⟨hBr.os, hBr.tape, hBr.output, hBr.size, hBr.block⟩
          have HH2 : (wr.drewN nq).heap = w1.heap := HH.out
          go_wp2_with fail
          go_roundw
          case rel =>
            refine ⟨k + 1, by go_num, by omega, ?_, HH2, HB2⟩
            rw [HI.out, HS.out, if_neg (fun h => hfit h.1)]
          case measure => simp [intOf]; omega
      · obtain rfl : k = (places s m).length := by omega
        rw [List.drop_length] at hix
        go_wp2_with fail
        go_ret
        exact ⟨by rw [hix]; rfl, hBr⟩

end Go.Proofs.YtaheddpmidoekaaDoor
