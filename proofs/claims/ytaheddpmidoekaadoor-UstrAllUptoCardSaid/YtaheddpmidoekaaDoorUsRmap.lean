/- The walk of the document's 'Mapped', in small letters and in capitals. -/
import Derived.Test.YtaheddpmidoekaaDoorUsStarts
import Derived.Test.YtaheddpmidoekaaDoorUsLaw2
import Derived.StillTailTactics
import Derived.Lib.AppendStr
import Derived.Laws.BytesArg
namespace Go.Proofs.YtaheddpmidoekaaDoor
open Go.RowKit
set_option linter.unusedVariables false

theorem own_kept {w w' : World} {b b' : Nat} {e e' : TypeId} {v u : Value} {n k : Nat} {xs ys : List Value} (hl : w.ownsRow b e 1 v n xs) (ho : w.ownsRow b' e' 1 u k ys) (hne : e ≠ e') (hg : w.grownBy w' u.ownBlock) : w'.ownsRow b e 1 v n xs := by
  refine hl.kept hg ?_
  rcases hl.2 with ⟨rfl, _⟩ | ⟨g, cap, cur, rfl, _, hh, _⟩
  · exact .inl rfl
  · rcases ho.2 with ⟨rfl, _⟩ | ⟨g', cap', cur', rfl, _, hh', _⟩
    · exact .inr (by simp [Value.ownBlock])
    · refine .inr fun e => ?_
      simp only [Value.ownBlock, Option.some.injEq] at e
      subst e
      rw [hh] at hh'
      simp at hh'
      exact hne hh'.2

theorem conv_own (w : World) {base : Nat} {v : Value} {n : Nat} {l : List UInt8} (h : w.ownsRow base 5 1 v n (Lib.byteCells l)) :
    (convert 51 9 v).run Tryd.prog w = .ok (.string ⟨l.toArray⟩) w := by
  have hl := h.1
  rcases id h.2 with ⟨rfl, rfl⟩ | ⟨g, cap, cur, rfl, _⟩
  · have : l = [] := List.eq_nil_of_length_eq_zero (by simpa [Lib.byteCells_length] using hl)
    subst this
    exact run_convert_bytes_nil w 51 5 Tryd.underlying51 Tryd.underlying5 0 0 9 Tryd.underlying9
  · have := run_convert_bytes_arg (P := Tryd.prog) w 51 5 Tryd.underlying51 Tryd.underlying5 g 0 n cap (l.map fun b => (b.toNat : Int)) (by simpa [Lib.byteCells_length] using hl)
      (fun i hi => by
        have hil : i < l.length := by have := hl; simp [Lib.byteCells_length] at this; omega
        obtain ⟨g', hA, _, _, hc, _⟩ := own_at h (j := i) (u := .int .u8 ((l[i].toNat : Nat) : Int)) (by simp [Lib.byteCells, hil])
        simp only [Option.some.injEq, Addr.mk.injEq] at hA
        rw [hA.1, Nat.zero_add, hc]
        simp [List.getD, hil]) 9 Tryd.underlying9
    rw [this]
    simp only [strOfNums, List.map_map]
    congr 3
    have e : ((fun z : Int => UInt8.ofNat z.toNat) ∘ fun b : UInt8 => (b.toNat : Int)) = id := by
      funext b; simp
    first | rw [e, List.map_id] | simp
theorem byte_info : (Tryd.prog.info? 5).map (fun i => (i.zero, i.size, i.bytes)) = some (some (.int .u8 0), 1, 1) := by kernel_rfl

/-- The place behind a character is where the next one begins, or the end. -/
theorem rest_next (s : ByteArray) (m : Bool) : ∀ f i, s.size - i ≤ f → i ≤ s.size → ∀ k p, (rest s m i)[k]? = some p → p < s.size ∧ (rest s m i ++ [s.size])[k + 1]? = some (p + (chr s p m).2)
  | 0, i, h, hi, k, p, hp => by rw [rest_end (by omega)] at hp; simp at hp
  | f + 1, i, h, hi, k, p, hp => by
    by_cases hlt : i < s.size
    · have hw := chr_wide s i m hlt
      rw [rest_step hlt] at hp ⊢
      cases k with
      | zero =>
        simp at hp; subst hp
        refine ⟨hlt, ?_⟩
        rw [List.cons_append, List.getElem?_cons_succ]
        rcases Nat.lt_or_ge (i + (chr s i m).2) s.size with h2 | h2
        · rw [rest_step h2]; rfl
        · rw [rest_end h2]; simp; omega
      | succ k =>
        rw [List.getElem?_cons_succ] at hp
        have := rest_next s m f (i + (chr s i m).2) (by omega) (by omega) k p hp
        refine ⟨this.1, ?_⟩
        rw [List.cons_append, List.getElem?_cons_succ]; exact this.2
    · rw [rest_end (by omega)] at hp; simp at hp
theorem starts_at (s : ByteArray) (m : Bool) {k p : Nat} (h : (places s m)[k]? = some p) : p < s.size ∧ (starts s m)[k]? = some p ∧ (starts s m)[k + 1]? = some (p + (chr s p m).2) := by
  have := rest_next s m s.size 0 (by omega) (by omega) k p h
  refine ⟨this.1, ?_, this.2⟩
  unfold starts
  have hk : k < (places s m).length := by
    rcases Nat.lt_or_ge k (places s m).length with h2 | h2
    · exact h2
    · rw [List.getElem?_eq_none h2] at h; cases h
  rw [List.getElem?_append_left hk]; exact h
theorem starts_len (s : ByteArray) (m : Bool) : (starts s m).length = (places s m).length + 1 := by simp [starts]
theorem ints_at {l : List Nat} {k p : Nat} (h : l[k]? = some p) : (ints l)[k]? = some (.int .i64 (p : Int)) := by simp [ints, h]
theorem take_snoc {α : Type} {l : List α} {k : Nat} {p : α} (h : l[k]? = some p) : l.take (k + 1) = l.take k ++ [p] := by
  rw [List.take_add_one, h]; rfl

theorem text_r (c : Int) (w : World) : Calls Tryd.prog 15 #[.int .i64 c] w fun e w' => e = .returned (.string (textB c)) ∧ Below w.heap.size w w' := rtext_any c w

theorem own_below {w w' : World} {b : Nat} {e : TypeId} {v : Value} {n : Nat} {xs : List Value} (h : w.ownsRow b e 1 v n xs) (hb : Below w.heap.size w w') : w'.ownsRow b e 1 v n xs :=
  h.kept (row := none) ⟨hb.os, hb.tape, hb.output, hb.size, fun k hk _ => hb.block k hk⟩ (by cases v.ownBlock <;> simp)

set_option maxRecDepth 100000 in
set_option maxHeartbeats 4000000 in
theorem rmap_foldC_any (s : ByteArray) (m : Bool) (w : World) (hs : s.size ≤ 4398046511104) :
    Calls Tryd.prog 19 #[.string s, .bool m, .bool false] w fun e w' => e = .returned (.string (mapS foldC s m)) ∧ Below w.heap.size w w' := by
  have hs' : s.size ≤ maxLen := by unfold maxLen; omega
  have hpz := places_len s m
  obtain ⟨i0, hi, hz0, hz1, hz2⟩ := info_parts byte_info
  have hsl := starts_len s m
  go_enter Tryd.func19, Tryd.ntmps19
  go_wp2_with fail
  refine (starts_any s m w hs).mono ?_
  rintro e w1 ⟨v, rfl, hL, hB⟩
  rw [hsl] at hL
  obtain ⟨A, cp, rfl, hc1, hc2, _⟩ := own_form hL
  unfold maxLen at hc2
  go_wp2_with fail
  go_loopw [7, 9] (fun v7 v9 wr => ∃ k : Nat, v9 = .int .i64 (k : Int) ∧ k ≤ (places s m).length ∧ wr.ownsRow w.heap.size 5 1 v7 (mapL foldC s m ((places s m).take k)).length (Lib.byteCells (mapL foldC s m ((places s m).take k))) ∧
      wr.ownsRow w.heap.size 3 1 (.slice A ((places s m).length + 1) cp) ((places s m).length + 1) (ints (starts s m)) ∧ Below w.heap.size w wr)
    (fun _ v9 _ => (places s m).length - (intOf v9).toNat)
  case atStart => exact ⟨0, rfl, Nat.zero_le _, ⟨rfl, .inl ⟨rfl, rfl⟩⟩, hL, hB⟩
  case round =>
    obtain ⟨k, rfl, hk, hown, hl, hBr⟩ := hrel
    clear hL hB
    have hgz := hBr.size
    have hol : (mapL foldC s m ((places s m).take k)).length ≤ 4 * s.size := by
      have := mapL_len foldC s m ((places s m).take k)
      rw [List.length_take] at this; omega
    by_cases hlt : k < (places s m).length
    · obtain ⟨p, hp⟩ : ∃ p, (places s m)[k]? = some p := ⟨_, List.getElem?_eq_getElem hlt⟩
      obtain ⟨hps, st1, st2⟩ := starts_at s m hp
      have hw := chr_wide s p m hps
      obtain ⟨g, rfl, hg1, hg2, ce1, _⟩ := own_at hl (ints_at st1)
      obtain ⟨g', hgg, _, _, ce2, _⟩ := own_at hl (ints_at st2)
      simp only [Option.some.injEq, Addr.mk.injEq] at hgg
      obtain ⟨rfl, _⟩ := hgg
      have hsn : mapL foldC s m ((places s m).take (k + 1)) = mapL foldC s m ((places s m).take k) ++ piece foldC s m p := by rw [take_snoc hp, mapL_snoc]
      have hpe : piece foldC s m p = encL (foldC ((chr s p m).1 : Int) m) m := piece_enc foldC s m p hps
      have hxe := extract_enc s p m hps
      have hpl := piece_len foldC s m p
      have HN := Lib.hid (fun w => rnext_in s p m w hs' hps)
      have HF := Lib.hid (fun w => rfold_any ((chr s p m).1 : Int) m w)
      have HC := Lib.hid (fun w => rcap_any ((chr s p m).1 : Int) m w)
      have hby : m = true → 0 ≤ foldC ((chr s p m).1 : Int) m ∧ foldC ((chr s p m).1 : Int) m < 256 := by
        rintro rfl; exact foldK.by1 _ (by simpa [chr] using bt_lt s p)
      generalize foldC ((chr s p m).1 : Int) m = to at *
      generalize chr s p m = q at *
      obtain ⟨c, d⟩ := q
      dsimp only at *
      generalize piece foldC s m p = pc at *
      generalize mapL foldC s m ((places s m).take k) = old at *
      have HE := Lib.hid hpe
      have HX := Lib.hid hxe
      have HS := Lib.hid hsn
      have hkk : (places s m).length = (places s m).length := rfl
      clear hsn hpe hxe hkk st1 st2 hp
      generalize hpn : (places s m).length = n at *
      go_wp2_with fail
      refine (HN.out _).mono ?_
      rintro e w2 ⟨rfl, rfl⟩
      go_wp2_with fail
      refine (HF.out _).mono ?_
      rintro e w2 ⟨rfl, rfl⟩
      by_cases ht : to = (c : Int)
      · subst ht
        have hpd : p + d ≤ s.size := hw.2.1
        have i1 : (0 : Int) ≤ (k : Int) := by omega
        have i2 : (k : Int) < (n : Int) + 1 := by omega
        have i3 : (0 : Int) ≤ (k : Int) + 1 := by omega
        have i4 : (k : Int) + 1 < (n : Int) + 1 := by omega
        have i5 : (k : Int) < (n : Int) := by omega
        have i6 : (0 : Int) ≤ (p : Int) := by omega
        have i7 : (p : Int) ≤ (p : Int) + (d : Int) := by omega
        have i8 : (p : Int) + (d : Int) ≤ (s.size : Int) := by omega
        have i9 : IntKind.i64.wrap ((k : Int) + 1) = (k : Int) + 1 := by rw [IntKind.wrap_i64]; omega
        have d1 : ({ wr with drawn := wr.drawn + 1 } : World).cell? ⟨g, k, none⟩ = some (.int .i64 (p : Int)) := ce1
        have d2 : ({ wr with drawn := wr.drawn + 1 } : World).cell? ⟨g, k + 1, none⟩ = some (.int .i64 ((p + d : Nat) : Int)) := ce2
        go_wp2_with fail
        go_still_tail 12, (by kernel_rfl)
        change wpList _ _ _ _ _ wr.drew
        have hownD : wr.drew.ownsRow w.heap.size 5 1 u7 old.length (Lib.byteCells old) := hown
        have hlD : wr.drew.ownsRow w.heap.size 3 1 (.slice (some ⟨g, 0, none⟩) (n + 1) cp) (n + 1) (ints (starts s m)) := hl
        have hBD : Below w.heap.size w wr.drew := hBr.drew
        have hgD : w.heap.size ≤ wr.drew.heap.size := hgz
        have hps : (s.extract p (p + d)).size ≤ 4 := by rw [HE.out, ← HX.out] at hpl; exact hpl
        clear d1 d2 hown hl hBr hgz ce1 ce2
        generalize wr.drew = wd at *
        refine Lib.wpList_append_own_string _ rfl (.tmp 43) (.tmp 54) 51 9 rfl w.heap.size 5 i0 Tryd.underlying51 Tryd.underlying9 hi hz0 hz1 hz2 u7 old.length (Lib.byteCells old) ?e1 hownD (s.extract p (p + d)) ?e2 (by unfold maxLen; omega) (by omega) hgD ?_
        case e1 => rfl
        case e2 => first | rfl | go_simp
        intro v' w' hown' hgrow _
        go_wp2_with fail
        go_roundw
        case rel =>
          refine ⟨k + 1, by go_num, by omega, ?_, own_kept hlD hownD (by decide) hgrow, hBD.grown hgrow hgD (fun k hk => (hownD.lt k hk).1)⟩
          rw [HS.out, bytes_app, HE.out, ← HX.out, ← bytes_str, List.length_append]
          exact hown'
        case measure => simp [intOf]; omega
      · have ht' : (to == (c : Int)) = false := by rw [beq_eq_false_iff_ne]; exact ht
        cases m with
        | true =>
          have hb := hby rfl
          go_wp2_with (at_builtin; refine wpList_append1 51 5 (.tmp 57) (.tmp 60) rfl rfl w.heap.size Tryd.underlying51 byte_info rfl rfl hown rfl rfl rfl (by unfold maxLen; omega) (by omega) hgz ?_; intro v' w' hown' hgrow _)
          go_roundw
          case rel =>
            refine ⟨k + 1, by go_num, by omega, ?_, own_kept hl hown (by decide) hgrow, hBr.grown hgrow hgz (fun k hk => (hown.lt k hk).1)⟩
            rw [HS.out, bytes_app, HE.out, show encL to true = [UInt8.ofNat to.toNat] from rfl, byteCell1 to hb, List.length_append]
            exact hown'
          case measure => simp [intOf]; omega
        | false =>
          go_wp2_with fail
          refine (text_r to _).mono ?_
          rintro e w2 ⟨rfl, hb2⟩
          have hown2 : w2.ownsRow w.heap.size 5 1 u7 old.length (Lib.byteCells old) := own_below hown hb2
          have hl2 : w2.ownsRow w.heap.size 3 1 (.slice (some ⟨g, 0, none⟩) (n + 1) cp) (n + 1) (ints (starts s false)) := own_below hl hb2
          have hB2 : Below w.heap.size w w2 := hBr.trans (hb2.mono hgz)
          have hg2 : w.heap.size ≤ w2.heap.size := hB2.size
          have htz : (textB to).size ≤ 4 := textB_len to
          go_wp2_with (at_builtin; refine Lib.wpList_append_own_string _ rfl (.tmp 62) (.tmp 64) 51 9 rfl w.heap.size 5 i0 Tryd.underlying51 Tryd.underlying9 hi hz0 hz1 hz2 _ _ _ rfl hown2 _ rfl (by unfold maxLen; omega) (by omega) hg2 ?_; intro v' w' hown' hgrow _)
          go_roundw
          case rel =>
            refine ⟨k + 1, by go_num, by omega, ?_, own_kept hl2 hown2 (by decide) hgrow, hB2.grown hgrow hg2 (fun k hk => (hown2.lt k hk).1)⟩
            rw [HS.out, bytes_app, HE.out, show encL to false = (textB to).data.toList from rfl, ← bytes_str, List.length_append]
            exact hown'
          case measure => simp [intOf]; omega
    · obtain rfl : k = (places s m).length := by omega
      rw [List.take_length] at hown
      have HV := conv_own wr hown
      go_wp2_with fail
      go_ret
      exact ⟨rfl, hBr⟩

set_option maxRecDepth 100000 in
set_option maxHeartbeats 4000000 in
theorem rmap_capC_any (s : ByteArray) (m : Bool) (w : World) (hs : s.size ≤ 4398046511104) :
    Calls Tryd.prog 19 #[.string s, .bool m, .bool true] w fun e w' => e = .returned (.string (mapS capC s m)) ∧ Below w.heap.size w w' := by
  have hs' : s.size ≤ maxLen := by unfold maxLen; omega
  have hpz := places_len s m
  obtain ⟨i0, hi, hz0, hz1, hz2⟩ := info_parts byte_info
  have hsl := starts_len s m
  go_enter Tryd.func19, Tryd.ntmps19
  go_wp2_with fail
  refine (starts_any s m w hs).mono ?_
  rintro e w1 ⟨v, rfl, hL, hB⟩
  rw [hsl] at hL
  obtain ⟨A, cp, rfl, hc1, hc2, _⟩ := own_form hL
  unfold maxLen at hc2
  go_wp2_with fail
  go_loopw [7, 9] (fun v7 v9 wr => ∃ k : Nat, v9 = .int .i64 (k : Int) ∧ k ≤ (places s m).length ∧ wr.ownsRow w.heap.size 5 1 v7 (mapL capC s m ((places s m).take k)).length (Lib.byteCells (mapL capC s m ((places s m).take k))) ∧
      wr.ownsRow w.heap.size 3 1 (.slice A ((places s m).length + 1) cp) ((places s m).length + 1) (ints (starts s m)) ∧ Below w.heap.size w wr)
    (fun _ v9 _ => (places s m).length - (intOf v9).toNat)
  case atStart => exact ⟨0, rfl, Nat.zero_le _, ⟨rfl, .inl ⟨rfl, rfl⟩⟩, hL, hB⟩
  case round =>
    obtain ⟨k, rfl, hk, hown, hl, hBr⟩ := hrel
    clear hL hB
    have hgz := hBr.size
    have hol : (mapL capC s m ((places s m).take k)).length ≤ 4 * s.size := by
      have := mapL_len capC s m ((places s m).take k)
      rw [List.length_take] at this; omega
    by_cases hlt : k < (places s m).length
    · obtain ⟨p, hp⟩ : ∃ p, (places s m)[k]? = some p := ⟨_, List.getElem?_eq_getElem hlt⟩
      obtain ⟨hps, st1, st2⟩ := starts_at s m hp
      have hw := chr_wide s p m hps
      obtain ⟨g, rfl, hg1, hg2, ce1, _⟩ := own_at hl (ints_at st1)
      obtain ⟨g', hgg, _, _, ce2, _⟩ := own_at hl (ints_at st2)
      simp only [Option.some.injEq, Addr.mk.injEq] at hgg
      obtain ⟨rfl, _⟩ := hgg
      have hsn : mapL capC s m ((places s m).take (k + 1)) = mapL capC s m ((places s m).take k) ++ piece capC s m p := by rw [take_snoc hp, mapL_snoc]
      have hpe : piece capC s m p = encL (capC ((chr s p m).1 : Int) m) m := piece_enc capC s m p hps
      have hxe := extract_enc s p m hps
      have hpl := piece_len capC s m p
      have HN := Lib.hid (fun w => rnext_in s p m w hs' hps)
      have HF := Lib.hid (fun w => rfold_any ((chr s p m).1 : Int) m w)
      have HC := Lib.hid (fun w => rcap_any ((chr s p m).1 : Int) m w)
      have hby : m = true → 0 ≤ capC ((chr s p m).1 : Int) m ∧ capC ((chr s p m).1 : Int) m < 256 := by
        rintro rfl; exact capK.by1 _ (by simpa [chr] using bt_lt s p)
      generalize foldC ((chr s p m).1 : Int) m = fo at *
      generalize capC ((chr s p m).1 : Int) m = to at *
      generalize chr s p m = q at *
      obtain ⟨c, d⟩ := q
      dsimp only at *
      generalize piece capC s m p = pc at *
      generalize mapL capC s m ((places s m).take k) = old at *
      have HE := Lib.hid hpe
      have HX := Lib.hid hxe
      have HS := Lib.hid hsn
      have hkk : (places s m).length = (places s m).length := rfl
      clear hsn hpe hxe hkk st1 st2 hp
      generalize hpn : (places s m).length = n at *
      go_wp2_with fail
      refine (HN.out _).mono ?_
      rintro e w2 ⟨rfl, rfl⟩
      go_wp2_with fail
      refine (HF.out _).mono ?_
      rintro e w2 ⟨rfl, rfl⟩
      go_wp2_with fail
      refine (HC.out _).mono ?_
      rintro e w2 ⟨rfl, rfl⟩
      by_cases ht : to = (c : Int)
      · subst ht
        have hpd : p + d ≤ s.size := hw.2.1
        have i1 : (0 : Int) ≤ (k : Int) := by omega
        have i2 : (k : Int) < (n : Int) + 1 := by omega
        have i3 : (0 : Int) ≤ (k : Int) + 1 := by omega
        have i4 : (k : Int) + 1 < (n : Int) + 1 := by omega
        have i5 : (k : Int) < (n : Int) := by omega
        have i6 : (0 : Int) ≤ (p : Int) := by omega
        have i7 : (p : Int) ≤ (p : Int) + (d : Int) := by omega
        have i8 : (p : Int) + (d : Int) ≤ (s.size : Int) := by omega
        have i9 : IntKind.i64.wrap ((k : Int) + 1) = (k : Int) + 1 := by rw [IntKind.wrap_i64]; omega
        have d1 : ({ wr with drawn := wr.drawn + 1 } : World).cell? ⟨g, k, none⟩ = some (.int .i64 (p : Int)) := ce1
        have d2 : ({ wr with drawn := wr.drawn + 1 } : World).cell? ⟨g, k + 1, none⟩ = some (.int .i64 ((p + d : Nat) : Int)) := ce2
        go_wp2_with fail
        go_still_tail 12, (by kernel_rfl)
        change wpList _ _ _ _ _ wr.drew
        have hownD : wr.drew.ownsRow w.heap.size 5 1 u7 old.length (Lib.byteCells old) := hown
        have hlD : wr.drew.ownsRow w.heap.size 3 1 (.slice (some ⟨g, 0, none⟩) (n + 1) cp) (n + 1) (ints (starts s m)) := hl
        have hBD : Below w.heap.size w wr.drew := hBr.drew
        have hgD : w.heap.size ≤ wr.drew.heap.size := hgz
        have hps : (s.extract p (p + d)).size ≤ 4 := by rw [HE.out, ← HX.out] at hpl; exact hpl
        clear d1 d2 hown hl hBr hgz ce1 ce2
        generalize wr.drew = wd at *
        refine Lib.wpList_append_own_string _ rfl (.tmp 43) (.tmp 54) 51 9 rfl w.heap.size 5 i0 Tryd.underlying51 Tryd.underlying9 hi hz0 hz1 hz2 u7 old.length (Lib.byteCells old) ?e1 hownD (s.extract p (p + d)) ?e2 (by unfold maxLen; omega) (by omega) hgD ?_
        case e1 => rfl
        case e2 => first | rfl | go_simp
        intro v' w' hown' hgrow _
        go_wp2_with fail
        go_roundw
        case rel =>
          refine ⟨k + 1, by go_num, by omega, ?_, own_kept hlD hownD (by decide) hgrow, hBD.grown hgrow hgD (fun k hk => (hownD.lt k hk).1)⟩
          rw [HS.out, bytes_app, HE.out, ← HX.out, ← bytes_str, List.length_append]
          exact hown'
        case measure => simp [intOf]; omega
      · have ht' : (to == (c : Int)) = false := by rw [beq_eq_false_iff_ne]; exact ht
        cases m with
        | true =>
          have hb := hby rfl
          go_wp2_with (at_builtin; refine wpList_append1 51 5 (.tmp 57) (.tmp 60) rfl rfl w.heap.size Tryd.underlying51 byte_info rfl rfl hown rfl rfl rfl (by unfold maxLen; omega) (by omega) hgz ?_; intro v' w' hown' hgrow _)
          go_roundw
          case rel =>
            refine ⟨k + 1, by go_num, by omega, ?_, own_kept hl hown (by decide) hgrow, hBr.grown hgrow hgz (fun k hk => (hown.lt k hk).1)⟩
            rw [HS.out, bytes_app, HE.out, show encL to true = [UInt8.ofNat to.toNat] from rfl, byteCell1 to hb, List.length_append]
            exact hown'
          case measure => simp [intOf]; omega
        | false =>
          go_wp2_with fail
          refine (text_r to _).mono ?_
          rintro e w2 ⟨rfl, hb2⟩
          have hown2 : w2.ownsRow w.heap.size 5 1 u7 old.length (Lib.byteCells old) := own_below hown hb2
          have hl2 : w2.ownsRow w.heap.size 3 1 (.slice (some ⟨g, 0, none⟩) (n + 1) cp) (n + 1) (ints (starts s false)) := own_below hl hb2
          have hB2 : Below w.heap.size w w2 := hBr.trans (hb2.mono hgz)
          have hg2 : w.heap.size ≤ w2.heap.size := hB2.size
          have htz : (textB to).size ≤ 4 := textB_len to
          go_wp2_with (at_builtin; refine Lib.wpList_append_own_string _ rfl (.tmp 62) (.tmp 64) 51 9 rfl w.heap.size 5 i0 Tryd.underlying51 Tryd.underlying9 hi hz0 hz1 hz2 _ _ _ rfl hown2 _ rfl (by unfold maxLen; omega) (by omega) hg2 ?_; intro v' w' hown' hgrow _)
          go_roundw
          case rel =>
            refine ⟨k + 1, by go_num, by omega, ?_, own_kept hl2 hown2 (by decide) hgrow, hB2.grown hgrow hg2 (fun k hk => (hown2.lt k hk).1)⟩
            rw [HS.out, bytes_app, HE.out, show encL to false = (textB to).data.toList from rfl, ← bytes_str, List.length_append]
            exact hown'
          case measure => simp [intOf]; omega
    · obtain rfl : k = (places s m).length := by omega
      rw [List.take_length] at hown
      have HV := conv_own wr hown
      go_wp2_with fail
      go_ret
      exact ⟨rfl, hBr⟩

end Go.Proofs.YtaheddpmidoekaaDoor
