/- The document's number of limbs, walked; and which lists are naturals. -/
import Derived.Test.YtpklbdgajbfaiaaNtW3
import Derived.Deep.RegionHeld3
namespace Go.Proofs.Ytpklbdgajbfaiaa
open Go.RowKit
set_option linter.unusedVariables false

theorem dec_len {l : List Nat} (h : Lo 4294967296 l) : (dg 10000 (vb 4294967296 l)).length ≤ 3 * l.length := by
  have h1 := vb_lt 4294967296 (by omega) l h
  refine (dg_len (by omega) _ _).2 (Nat.lt_of_lt_of_le h1 ?_)
  rw [Nat.pow_mul]
  exact Nat.pow_le_pow_left (by decide) _
theorem lo_drop {b : Nat} {l : List Nat} (h : Lo b l) (i : Nat) : Lo b (l.drop i) := fun y hy => h y (List.mem_of_mem_drop hy)
theorem vb_drop (b : Nat) (l : List Nat) {k : Nat} (h : k < l.length) : vb b (l.drop k) = l.getD k 0 + b * vb b (l.drop (k + 1)) := by
  rw [List.drop_eq_getElem_cons h, List.getD_eq_getElem?_getD, List.getElem?_eq_getElem h]; rfl

structure OfH (b : Nat) (Ao : Option Addr) (x : Nat) (wr W : World) : Prop where
  rw : Rw .i64 W W.heap.size Ao (dg 10000 x)
  be : Below wr.heap.size wr W
  lt : b < W.heap.size
theorem ofKeep {b o d x : Nat} {Ao : Option Addr} {wr W W' : World} (hc : W.cell? ⟨b, o, none⟩ = some (.int .u32 (d : Int))) (h : OfH b Ao x wr W) (hb : Below W.heap.size W W') :
    W'.cell? ⟨b, o, none⟩ = some (.int .u32 (d : Int)) ∧ OfH b Ao x wr W' :=
  ⟨(Below.cell (p := ⟨b, o, none⟩) hb h.lt).trans hc, (h.rw.below hb).more hb.size, h.be.trans (hb.mono h.be.size), Nat.lt_of_lt_of_le h.lt hb.size⟩

set_option maxHeartbeats 4000000 in
theorem of_any (A : Option Addr) (c B : Nat) (l : List Nat) (w : World) (hr : Rw .u32 w B A l) (hB0 : B ≤ w.heap.size) (hlo : Lo 4294967296 l) (hl : l.length ≤ 10000) :
    Calls Try.prog 17 #[.slice A l.length c] w (NumIs (vb 4294967296 l) w) := by
  go_enter Try.func17, Try.ntmps17
  go_wp2_with fail
  go_loopw [3, 4] (fun v3 v4 wr => ∃ (k : Nat) (Ao : Option Addr) (co : Nat), v4 = .int .i64 ((k : Int) - 1) ∧ k ≤ l.length ∧ v3 = .slice Ao (dg 10000 (vb 4294967296 (l.drop k))).length co ∧ (dg 10000 (vb 4294967296 (l.drop k))).length ≤ co ∧ co ≤ maxLen ∧
      Rw .i64 wr wr.heap.size Ao (dg 10000 (vb 4294967296 (l.drop k))) ∧ Below w.heap.size w wr)
    (fun _ v4 _ => (intOf v4 + 1).toNat)
  case atStart =>
    refine ⟨l.length, none, 0, by go_num, Nat.le_refl _, ?_, ?_, by unfold maxLen; omega, ?_, Below.refl _ _⟩
    · rw [List.drop_length]; rfl
    · rw [List.drop_length]; exact Nat.le_refl _
    · rw [List.drop_length]; exact Rw.nil _ _ _ _
  case round =>
    obtain ⟨k, Ao, co, rfl, hk, rfl, hco, hcm, hRo, hB⟩ := hrel
    cases k with
    | zero =>
      rw [List.drop_zero] at hco hRo ⊢
      have HR := Lib.hid hRo
      clear hRo
      generalize hx : dg 10000 (vb 4294967296 l) = d at *
      go_wp2_with fail
      go_ret
      subst hx
      exact ⟨_, _, rfl, hco, hcm, HR.out, hB⟩
    | succ k =>
      have hrw : Rw .u32 wr B A l := hr.below (hB.mono hB0)
      obtain ⟨b, off, rfl, hbB, hcell⟩ := hrw.at_ (i := k) (by omega)
      have hd := lo_getD (b := 4294967296) (by omega) hlo k
      have hdl := dec_len (lo_drop hlo (k + 1))
      rw [List.length_drop] at hdl
      have hvd := vb_drop 4294967296 l (k := k) (by omega)
      have hdl2 := dec_len (lo_drop hlo k)
      rw [List.length_drop] at hdl2
      generalize l.getD k 0 = d at *
      generalize vb 4294967296 (l.drop (k + 1)) = x at *
      have hxl : (dg 10000 (x * 4294967296)).length ≤ 1000000 := by
        refine Nat.le_trans ((dg_len (by omega) (3 * (l.length - k)) _).2 ?_) (by omega : 3 * (l.length - k) ≤ 1000000)
        have := (dg_len (b := 10000) (by omega) (3 * (l.length - k)) (vb 4294967296 (l.drop k))).1 hdl2
        omega
      have hdd : (dg 10000 d).length ≤ 1000000 := Nat.le_trans ((dg_len (by omega) 3 d).2 (Nat.lt_of_lt_of_le hd (by decide))) (by omega)
      have HT := Lib.hid (fun W (h : Rw .i64 W W.heap.size Ao (dg 10000 x)) => show Calls Try.prog 38 #[.slice Ao (dg 10000 x).length co, .int .i64 4294967296] W (NumIs (x * 4294967296) W) from times_any Ao co W.heap.size x 4294967296 W h (Nat.le_refl _) (by omega) (by omega) hco hcm)
      have HS := Lib.hid (fun W => small_any d W (by omega))
      have HA := Lib.hid (fun A1 c1 A2 c2 W (h1 : Rw .i64 W W.heap.size A1 (dg 10000 (x * 4294967296))) (h2 : Rw .i64 W W.heap.size A2 (dg 10000 d)) => radd_any A1 c1 W.heap.size (x * 4294967296) A2 c2 d W h1 h2 (Nat.le_refl _) hxl hdd)
      generalize hy : x * 4294967296 = y at HT HA
      have HY := Lib.hid hy
      clear hy hxl
      have hk1 : (((k + 1 : Nat) : Int) - 1) = (k : Int) := by omega
      rw [hk1]
      have hwr : IntKind.i64.wrap (d : Int) = (d : Int) := by rw [IntKind.wrap_i64]; omega
      have i0 : (0 : Int) ≤ (k : Int) := by omega
      have i1 : (k : Int) < (l.length : Int) := by omega
      have hbw : b < wr.drew.heap.size := by show b < wr.heap.size; have := hB.size; omega
      have HX := Lib.hid (And.intro hvd (And.intro hB hRo))
      have hcell' : wr.drew.cell? ⟨b, off + k, none⟩ = some (.int .u32 (d : Int)) := hcell
      clear hvd hrw hr hdl hdl2 hdd hcell hco hB
      have hRo' : Rw .i64 wr.drew wr.drew.heap.size Ao (dg 10000 x) := hRo
      have hO0 : OfH b Ao x wr wr.drew := ⟨hRo', (Below.refl _ _).drew, hbw⟩
      clear hRo
      go_wp2_with fail
      go_region_held3 (fun W' => W'.cell? ⟨b, off + k, none⟩ = some (.int .u32 (d : Int)) ∧ OfH b Ao x wr W')
        (first | (exact ⟨hcell', hO0⟩) | (go_split_ands; exact ofKeep (by assumption) (by assumption) (by assumption)))
        (first
          | (go_at_call 38; refine Calls.mono (HT.out wr.drew hRo') ?_; rintro e wT ⟨A1, c1, rfl, q1, q2, hR1, hbT⟩)
          | (go_at_call 39; refine Calls.mono (HS.out _) ?_; rintro e wS ⟨A2, c2, rfl, q3, q4, hR2, hbS⟩)
          | (go_at_call 19; refine Calls.mono (HA.out A1 c1 A2 c2 _ ((hR1.below hbS).more hbS.size) hR2) ?_; rintro e wA ⟨A3, c3, rfl, q5, q6, hR3, hbA⟩))
      have hO : OfH b Ao x wr wA := by go_split_ands; assumption
      go_wp2_with fail
      go_roundw
      case rel =>
        have e : vb 4294967296 (l.drop k) = y + d := by rw [HX.out.1, ← HY.out]; omega
        refine ⟨k, A3, c3, by go_num, by omega, by rw [e], by rw [e]; exact q5, q6, by rw [e]; exact hR3, HX.out.2.1.trans (hO.be.mono HX.out.2.1.size)⟩
      case measure => simp [intOf]

/-- Is it a natural? -/
def okL (l : List Nat) : Bool := decide (l.length ≤ 256) && (l.length == 0 || l.getD (l.length - 1) 0 != 0)
theorem okL_top {l : List Nat} (h : okL l = true) : l.length ≤ 256 ∧ Top l := by
  unfold okL at h
  rw [Bool.and_eq_true, Bool.or_eq_true, decide_eq_true_eq] at h
  refine ⟨h.1, fun hne => ?_⟩
  have hp : 0 < l.length := List.length_pos_iff.2 hne
  rcases h.2 with h2 | h2
  · simp at h2; exact absurd h2 hne
  · rw [List.getLast_eq_getElem]
    rw [List.getD_eq_getElem?_getD, List.getElem?_eq_getElem (by omega)] at h2
    simpa using h2
theorem okL_of {l : List Nat} (h : l.length ≤ 256) (ht : Top l) : okL l = true := by
  unfold okL
  rw [Bool.and_eq_true, Bool.or_eq_true, decide_eq_true_eq]
  refine ⟨h, ?_⟩
  rcases Nat.eq_zero_or_pos l.length with h0 | hp
  · left; rw [h0]; rfl
  · right
    have hne : l ≠ [] := List.length_pos_iff.1 hp
    have := ht hne
    rw [List.getLast_eq_getElem] at this
    rw [List.getD_eq_getElem?_getD, List.getElem?_eq_getElem (by omega)]
    simpa using this

set_option maxHeartbeats 1000000 in
theorem rvalid_any (A : Option Addr) (c B : Nat) (l : List Nat) (w : World) (hr : Rw .u32 w B A l) (hl : l.length ≤ maxLen) :
    Calls Try.prog 16 #[.slice A l.length c] w fun e w' => e = .returned (.bool (okL l)) ∧ w = w' := by
  unfold maxLen at hl
  unfold okL
  by_cases h1 : l.length ≤ 256
  · have t1 : (l.length : Int) ≤ 256 := by omega
    rw [decide_eq_true h1, Bool.true_and]
    by_cases h0 : l.length = 0
    · rw [h0]
      clear hr t1 h1
      go_enter Try.func16, Try.ntmps16
      go_wp2_with fail
      go_ret
      exact ⟨rfl, rfl⟩
    · obtain ⟨b, off, rfl, _, hcell⟩ := hr.at_ (i := l.length - 1) (by omega)
      generalize l.getD (l.length - 1) 0 = x at *
      clear hr
      obtain ⟨n, hn⟩ : ∃ n, l.length = n + 1 := ⟨l.length - 1, by omega⟩
      rw [hn] at hl t1 hcell ⊢
      clear hn h1 h0
      rw [show n + 1 - 1 = n by omega] at hcell
      have e0 : (n + 1 == 0) = false := by simp
      rw [e0, Bool.false_or]
      replace t1 : (n : Int) + 1 ≤ 256 := by omega
      have t2 : ((n : Int) + 1 == 0) = false := by rw [beq_eq_false_iff_ne]; omega
      clear e0
      by_cases hx : x = 0
      · subst hx
        go_enter Try.func16, Try.ntmps16
        go_wp2_with fail
        go_ret
        exact ⟨rfl, rfl⟩
      · have t3 : ((x : Int) == 0) = false := by rw [beq_eq_false_iff_ne]; omega
        have t4 : (x != 0) = true := by simp [hx]
        rw [t4]
        go_enter Try.func16, Try.ntmps16
        go_wp2_with fail
        go_ret
        exact ⟨by simpa using hx, rfl⟩
  · have t1 : ¬ (l.length : Int) ≤ 256 := by omega
    rw [decide_eq_false h1, Bool.false_and]
    generalize l.length = n at *
    clear hr
    go_enter Try.func16, Try.ntmps16
    go_wp2_with fail
    go_ret
    exact ⟨rfl, rfl⟩

set_option maxHeartbeats 1000000 in
theorem valid_any (A : Option Addr) (c B : Nat) (l : List Nat) (w : World) (hr : Rw .u32 w B A l) (hl : l.length ≤ maxLen) :
    Calls Try.prog 30 #[.slice A l.length c] w fun e w' => e = .returned (.bool (okL l)) ∧ w = w' := by
  unfold maxLen at hl
  unfold okL
  by_cases h1 : l.length ≤ 256
  · have t1 : (l.length : Int) ≤ 256 := by omega
    rw [decide_eq_true h1, Bool.true_and]
    by_cases h0 : l.length = 0
    · rw [h0]
      clear hr t1 h1
      go_enter Try.func30, Try.ntmps30
      go_wp2_with fail
      go_ret
      exact ⟨rfl, rfl⟩
    · obtain ⟨b, off, rfl, _, hcell⟩ := hr.at_ (i := l.length - 1) (by omega)
      generalize l.getD (l.length - 1) 0 = x at *
      clear hr
      obtain ⟨n, hn⟩ : ∃ n, l.length = n + 1 := ⟨l.length - 1, by omega⟩
      rw [hn] at hl t1 hcell ⊢
      clear hn h1 h0
      rw [show n + 1 - 1 = n by omega] at hcell
      have e0 : (n + 1 == 0) = false := by simp
      rw [e0, Bool.false_or]
      replace t1 : (n : Int) + 1 ≤ 256 := by omega
      have t2 : ((n : Int) + 1 == 0) = false := by rw [beq_eq_false_iff_ne]; omega
      clear e0
      by_cases hx : x = 0
      · subst hx
        go_enter Try.func30, Try.ntmps30
        go_wp2_with fail
        go_ret
        exact ⟨rfl, rfl⟩
      · have t3 : ((x : Int) == 0) = false := by rw [beq_eq_false_iff_ne]; omega
        have t4 : (x != 0) = true := by simp [hx]
        rw [t4]
        go_enter Try.func30, Try.ntmps30
        go_wp2_with fail
        go_ret
        exact ⟨by simpa using hx, rfl⟩
  · have t1 : ¬ (l.length : Int) ≤ 256 := by omega
    rw [decide_eq_false h1, Bool.false_and]
    generalize l.length = n at *
    clear hr
    go_enter Try.func30, Try.ntmps30
    go_wp2_with fail
    go_ret
    exact ⟨rfl, rfl⟩

end Go.Proofs.Ytpklbdgajbfaiaa
