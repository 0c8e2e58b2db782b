/- The walks of the document's 'Next' and of 'Text', of the program and of the document. -/
import Derived.Test.YtaheddpmidoekaaDoorUsW2
namespace Go.Proofs.YtaheddpmidoekaaDoor
open Go.RowKit
set_option linter.unusedVariables false

theorem size_any (s : ByteArray) (w : World) (hs : s.size ≤ maxLen) (h0 : 0 < s.size) :
    Calls Tryd.prog 32 #[.string s] w (SizeIs (sizeAt s 0) w) := by
  by_cases h1 : bt s 0 < 194 ∨ 244 < bt s 0
  · exact size_lo s w hs h0 h1
  · by_cases h2 : bt s 0 ≤ 223
    · exact size_2 s w hs h0 ⟨by omega, h2⟩
    · by_cases h3 : bt s 0 ≤ 239
      · exact size_3 s w hs h0 ⟨by omega, h3⟩
      · exact size_4 s w hs h0 ⟨by omega, by omega⟩

theorem sizeAt_tail (s : ByteArray) (i : Nat) : sizeAt (s.extract i s.size) 0 = sizeAt s i := by
  unfold sizeAt
  rw [Lib.tail_size, bt_tail, bt_tail, bt_tail, bt_tail]
  rfl

set_option maxHeartbeats 400000 in
theorem rnext_out (s : ByteArray) (a : Int) (m : Bool) (w : World) (hs : s.size ≤ maxLen) (h : a < 0 ∨ (s.size : Int) ≤ a) :
    Calls Tryd.prog 13 #[.string s, .int .i64 a, .bool m] w fun e w' => e = .returned (.tuple #[.int .i64 0, .int .i64 0]) ∧ w = w' := by
  by_cases h0 : a < 0
  · go_enter Tryd.func13, Tryd.ntmps13
    go_wp2_with fail
    go_ret2
    exact ⟨rfl, rfl⟩
  · have h1 : (s.size : Int) ≤ a := by omega
    go_enter Tryd.func13, Tryd.ntmps13
    go_wp2_with fail
    go_ret2
    exact ⟨rfl, rfl⟩

set_option maxHeartbeats 400000 in
theorem rnext_in (s : ByteArray) (i : Nat) (m : Bool) (w : World) (hs : s.size ≤ maxLen) (h : i < s.size) :
    Calls Tryd.prog 13 #[.string s, .int .i64 (i : Int), .bool m] w fun e w' => e = .returned (.tuple #[.int .i64 ((chr s i m).1 : Int), .int .i64 ((chr s i m).2 : Int)]) ∧ w = w' := by
  have hs' := hs
  unfold maxLen at hs
  have hg := bt_get s i h
  have hb := bt_lt s i
  cases m with
  | true =>
    rw [show chr s i true = (bt s i, 1) from rfl]
    generalize bt s i = b at *
    go_enter Tryd.func13, Tryd.ntmps13
    go_wp2_with fail
    go_ret2
    exact ⟨rfl, rfl⟩
  | false =>
    have hc := chr_size s i h
    have hd := Lib.hid (size_any (s.extract i s.size) w (by rw [Lib.tail_size]; unfold maxLen; omega) (by rw [Lib.tail_size]; omega))
    rw [sizeAt_tail] at hd
    have hw := chr_wide s i false h
    rw [hc] at hw ⊢
    clear hc
    generalize sizeAt s i = p at *
    obtain ⟨n, r⟩ := p
    generalize bt s i = b at *
    dsimp only at hw ⊢
    by_cases h1 : n = 0
    · subst h1
      rw [if_pos (by simp)]
      clear hw
      go_enter Tryd.func13, Tryd.ntmps13
      go_wp2_with fail
      refine hd.out.mono ?_
      rintro e w1 ⟨rfl, rfl⟩
      go_wp2_with fail
      go_ret2
      exact ⟨by simp, rfl⟩
    · rw [if_neg h1] at hw ⊢
      have h1' : ((n : Int) == 0) = false := by rw [beq_eq_false_iff_ne]; omega
      go_enter Tryd.func13, Tryd.ntmps13
      go_wp2_with fail
      refine hd.out.mono ?_
      rintro e w1 ⟨rfl, rfl⟩
      go_wp2_with fail
      go_ret2
      exact ⟨by simp, rfl⟩

/-- The bytes of a code. -/
def textB (c : Int) : ByteArray :=
  if 1114112 ≤ c ∧ c < 1114368 then ⟨#[UInt8.ofNat (c - 1114112).toNat]⟩
  else if c < 0 ∨ 1114111 < c ∨ (55296 ≤ c ∧ c < 57344) then ⟨#[]⟩
  else Utf8.encode c

/-- '[]byte{..}' as a string. -/
theorem conv_lit (w : World) (xs : List Int) : (convert 51 9 (.slice (some ⟨w.heap.size, 0, none⟩) xs.length xs.length)).run Tryd.prog (w.alloc (.cells (xs.map (Value.int .u8)).toArray 5)) = .ok (.string (strOfNums xs)) (w.alloc (.cells (xs.map (Value.int .u8)).toArray 5)) := by
  refine run_convert_bytes_arg _ 51 5 Tryd.underlying51 Tryd.underlying5 w.heap.size 0 xs.length xs.length xs rfl (fun i hi => ?_) 9 Tryd.underlying9
  rw [World.cell?_alloc_new]
  simp [hi]

theorem enc_valid (c : Int) (h : 0 ≤ c ∧ c ≤ 1114111 ∧ ¬ (55296 ≤ c ∧ c < 57344)) : Utf8.valid c = true := by
  unfold Utf8.valid
  simp only [Bool.or_eq_true, Bool.and_eq_true, decide_eq_true_eq]
  omega
theorem enc1 (c : Int) (h : 0 ≤ c ∧ c < 128) : Utf8.encode c = strOfNums [c] := by
  unfold Utf8.encode strOfNums
  rw [enc_valid c (by omega)]
  simp only [if_true]
  rw [if_pos (by omega)]
  rfl
theorem enc2 (c : Int) (h : 128 ≤ c ∧ c < 2048) : Utf8.encode c = strOfNums [192 + c / 64, 128 + c % 64] := by
  unfold Utf8.encode strOfNums
  rw [enc_valid c (by omega)]
  simp only [if_true]
  rw [if_neg (by omega), if_pos (by omega)]
  simp only [List.map_cons, List.map_nil]
  rw [show (192 + c / 64).toNat = 192 + c.toNat / 64 from by omega, show (128 + c % 64).toNat = 128 + c.toNat % 64 from by omega]
theorem enc3 (c : Int) (h : 2048 ≤ c ∧ c < 65536 ∧ ¬ (55296 ≤ c ∧ c < 57344)) : Utf8.encode c = strOfNums [224 + c / 4096, 128 + c / 64 % 64, 128 + c % 64] := by
  unfold Utf8.encode strOfNums
  rw [enc_valid c (by omega)]
  simp only [if_true]
  rw [if_neg (by omega), if_neg (by omega), if_pos (by omega)]
  simp only [List.map_cons, List.map_nil]
  rw [show (224 + c / 4096).toNat = 224 + c.toNat / 4096 from by omega, show (128 + c / 64 % 64).toNat = 128 + c.toNat / 64 % 64 from by omega, show (128 + c % 64).toNat = 128 + c.toNat % 64 from by omega]
theorem enc4 (c : Int) (h : 65536 ≤ c ∧ c ≤ 1114111) : Utf8.encode c = strOfNums [240 + c / 262144, 128 + c / 4096 % 64, 128 + c / 64 % 64, 128 + c % 64] := by
  unfold Utf8.encode strOfNums
  rw [enc_valid c (by omega)]
  simp only [if_true]
  rw [if_neg (by omega), if_neg (by omega), if_neg (by omega)]
  simp only [List.map_cons, List.map_nil]
  rw [show (240 + c / 262144).toNat = 240 + c.toNat / 262144 from by omega, show (128 + c / 4096 % 64).toNat = 128 + c.toNat / 4096 % 64 from by omega, show (128 + c / 64 % 64).toNat = 128 + c.toNat / 64 % 64 from by omega, show (128 + c % 64).toNat = 128 + c.toNat % 64 from by omega]

/-- What 'Text' answers; behind a name. -/
def TextIs (c : Int) (w : World) (e : Ending) (w' : World) : Prop := e = .returned (.string (textB c)) ∧ Below w.heap.size w w'

theorem TextIs.mk {c : Int} {t : ByteArray} {w w' : World} (h : textB c = t) (hb : Below w.heap.size w w') : TextIs c w (.returned (.string t)) w' := by
  subst h; exact ⟨rfl, hb⟩

set_option maxHeartbeats 400000 in
theorem text_any (c : Int) (w : World) : Calls Tryd.prog 14 #[.int .i64 c] w (TextIs c w) := by
  by_cases h : 1114112 ≤ c ∧ c < 1114368
  · have h1 := h.1
    have h2 := h.2
    have ht : textB c = strOfNums [c - 1114112] := if_pos h
    have HT := Lib.hid ht
    clear ht
    have hcv := conv_lit w [c - 1114112]
    simp only [List.length_cons, List.length_nil, List.map_cons, List.map_nil, Nat.zero_add] at hcv
    generalize strOfNums [c - 1114112] = t at *
    go_enter Tryd.func14, Tryd.ntmps14
    go_wp2_with fail
    go_ret
    exact TextIs.mk HT.out ((Below.refl _ _).alloc (Nat.le_refl _) _)
  · by_cases h0 : c < 0 ∨ 1114111 < c ∨ (55296 ≤ c ∧ c < 57344)
    · have ht : textB c = ⟨#[]⟩ := by unfold textB; rw [if_neg h, if_pos h0]
      have HT := Lib.hid ht
      clear ht
      by_cases h1 : c < 0
      · go_enter Tryd.func14, Tryd.ntmps14
        go_wp2_with fail
        go_ret
        exact TextIs.mk HT.out (Below.refl _ _)
      · by_cases h2 : 1114111 < c
        · have h3 : ¬ c < 1114368 := by omega
          go_enter Tryd.func14, Tryd.ntmps14
          go_wp2_with fail
          go_ret
          exact TextIs.mk HT.out (Below.refl _ _)
        · have h3 : 55296 ≤ c := by omega
          have h4 : c < 57344 := by omega
          go_enter Tryd.func14, Tryd.ntmps14
          go_wp2_with fail
          go_ret
          exact TextIs.mk HT.out (Below.refl _ _)
    · have ht : textB c = Utf8.encode c := by unfold textB; rw [if_neg h, if_neg h0]
      have HT := Lib.hid ht
      clear ht
      have h1 : ¬ c < 0 := by omega
      have h2 : c < 1114112 := by omega
      by_cases h3 : c < 55296
      · clear h h0
        go_enter Tryd.func14, Tryd.ntmps14
        go_wp2_with fail
        go_ret
        exact TextIs.mk HT.out (Below.refl _ _)
      · have h4 : ¬ c < 57344 := by omega
        clear h h0
        go_enter Tryd.func14, Tryd.ntmps14
        go_wp2_with fail
        go_ret
        exact TextIs.mk HT.out (Below.refl _ _)

set_option maxRecDepth 100000 in
set_option maxHeartbeats 800000 in
theorem rtext_any (c : Int) (w : World) : Calls Tryd.prog 15 #[.int .i64 c] w (TextIs c w) := by
  by_cases h : 1114112 ≤ c ∧ c < 1114368
  · have h1 := h.1
    have h2 := h.2
    have ht : textB c = strOfNums [c - 1114112] := if_pos h
    have HT := Lib.hid ht
    clear ht
    have hcv := conv_lit w [c - 1114112]
    simp only [List.length_cons, List.length_nil, List.map_cons, List.map_nil, Nat.zero_add] at hcv
    generalize strOfNums [c - 1114112] = t at *
    go_enter Tryd.func15, Tryd.ntmps15
    go_wp2_with fail
    go_ret
    exact TextIs.mk HT.out ((Below.refl _ _).alloc (Nat.le_refl _) _)
  · by_cases h0 : c < 0 ∨ 1114111 < c ∨ (55296 ≤ c ∧ c < 57344)
    · have ht : textB c = ⟨#[]⟩ := by unfold textB; rw [if_neg h, if_pos h0]
      have HT := Lib.hid ht
      clear ht
      by_cases h1 : c < 0
      · go_enter Tryd.func15, Tryd.ntmps15
        go_wp2_with fail
        go_ret
        exact TextIs.mk HT.out (Below.refl _ _)
      · by_cases h2 : 1114111 < c
        · by_cases h3 : 1114112 ≤ c
          · have h4 : ¬ c < 1114368 := by omega
            go_enter Tryd.func15, Tryd.ntmps15
            go_wp2_with fail
            go_ret
            exact TextIs.mk HT.out (Below.refl _ _)
          · exfalso; omega
        · have h3 : 55296 ≤ c := by omega
          have h4 : c ≤ 57343 := by omega
          go_enter Tryd.func15, Tryd.ntmps15
          go_wp2_with fail
          go_ret
          exact TextIs.mk HT.out (Below.refl _ _)
    · have ht : textB c = Utf8.encode c := by unfold textB; rw [if_neg h, if_neg h0]
      have h1 : ¬ c < 0 := by omega
      have h2 : ¬ 1114112 ≤ c := by omega
      have h2' : ¬ 1114111 < c := by omega
      have h2c : c < 55296 ∨ 57344 ≤ c := by omega
      clear h h0
      by_cases k1 : c < 128
      · rw [enc1 c (by omega)] at ht
        have HT := Lib.hid ht
        clear ht h2c
        have h3 : ¬ 55296 ≤ c := by omega
        have hcv := conv_lit w [c]
        simp only [List.length_cons, List.length_nil, List.map_cons, List.map_nil, Nat.zero_add] at hcv
        generalize strOfNums [c] = t at *
        go_enter Tryd.func15, Tryd.ntmps15
        go_wp2_with fail
        go_ret
        exact TextIs.mk HT.out ((Below.refl _ _).alloc (Nat.le_refl _) _)
      · by_cases k2 : c < 2048
        · rw [enc2 c (by omega)] at ht
          have HT := Lib.hid ht
          clear ht h2c
          have h3 : ¬ 55296 ≤ c := by omega
          have hcv := conv_lit w [192 + c / 64, 128 + c % 64]
          simp only [List.length_cons, List.length_nil, List.map_cons, List.map_nil, Nat.zero_add, Nat.reduceAdd] at hcv
          generalize strOfNums [192 + c / 64, 128 + c % 64] = t at *
          go_enter Tryd.func15, Tryd.ntmps15
          go_wp2_with fail
          go_ret
          exact TextIs.mk HT.out ((Below.refl _ _).alloc (Nat.le_refl _) _)
        · by_cases k3 : c < 65536
          · rw [enc3 c (by omega)] at ht
            have HT := Lib.hid ht
            clear ht
            have hcv := conv_lit w [224 + c / 4096, 128 + c / 64 % 64, 128 + c % 64]
            simp only [List.length_cons, List.length_nil, List.map_cons, List.map_nil, Nat.zero_add, Nat.reduceAdd] at hcv
            generalize strOfNums [224 + c / 4096, 128 + c / 64 % 64, 128 + c % 64] = t at *
            rcases h2c with h3 | h3
            · go_enter Tryd.func15, Tryd.ntmps15
              go_wp2_with fail
              go_ret
              exact TextIs.mk HT.out ((Below.refl _ _).alloc (Nat.le_refl _) _)
            · have h4 : ¬ c ≤ 57343 := by omega
              go_enter Tryd.func15, Tryd.ntmps15
              go_wp2_with fail
              go_ret
              exact TextIs.mk HT.out ((Below.refl _ _).alloc (Nat.le_refl _) _)
          · rw [enc4 c (by omega)] at ht
            have HT := Lib.hid ht
            clear ht h2c
            have h4 : ¬ c ≤ 57343 := by omega
            have hcv := conv_lit w [240 + c / 262144, 128 + c / 4096 % 64, 128 + c / 64 % 64, 128 + c % 64]
            simp only [List.length_cons, List.length_nil, List.map_cons, List.map_nil, Nat.zero_add, Nat.reduceAdd] at hcv
            generalize strOfNums [240 + c / 262144, 128 + c / 4096 % 64, 128 + c / 64 % 64, 128 + c % 64] = t at *
            go_enter Tryd.func15, Tryd.ntmps15
            go_wp2_with fail
            go_ret
            exact TextIs.mk HT.out ((Below.refl _ _).alloc (Nat.le_refl _) _)

end Go.Proofs.YtaheddpmidoekaaDoor
