/- A string with its letters changed has its characters at the same places, each the changed one. Plain Lean. -/
import Derived.Test.YtaheddpmidoekaaDoorUsLaw1
namespace Go.Proofs.YtaheddpmidoekaaDoor
open Go.RowKit
set_option linter.unusedVariables false

/-- What a change of letters keeps: a code's width. -/
structure Keeps (g : Int → Bool → Int) : Prop where
  by1 : ∀ c : Nat, c < 256 → 0 ≤ g c true ∧ g c true < 256
  lo : ∀ c : Nat, c < 128 → 0 ≤ g c false ∧ g c false < 128
  mid : ∀ c : Nat, 128 ≤ c → c < 2048 → 128 ≤ g c false ∧ g c false < 2048
  hi : ∀ c : Nat, 2048 ≤ c → g c false = c
theorem foldK : Keeps foldC := by
  constructor <;> intro c <;> intros <;> unfold foldC <;> split <;> omega
theorem capK : Keeps capC := by
  constructor <;> intro c <;> intros <;> unfold capC <;> split <;> omega

/-- A following byte. -/
def ct (b : Nat) : Prop := 128 ≤ b ∧ b ≤ 191
/-- What a first byte looks ahead to is the same. -/
def Look (s t : ByteArray) (i : Nat) : Prop :=
  (¬ ct (bt s i) ∧ ¬ ct (bt t i)) ∨ (ct (bt s i) ∧ bt t i = bt s i ∧
    ((¬ ct (bt s (i + 1)) ∧ ¬ ct (bt t (i + 1))) ∨ (ct (bt s (i + 1)) ∧ bt t (i + 1) = bt s (i + 1) ∧
      ((¬ ct (bt s (i + 2)) ∧ ¬ ct (bt t (i + 2))) ∨ (ct (bt s (i + 2)) ∧ bt t (i + 2) = bt s (i + 2))))))

theorem look_size (s t : ByteArray) (i : Nat) (hs : t.size = s.size) (hb : bt t i = bt s i) (h : 128 ≤ bt s i) (hl : Look s t (i + 1)) (hz : sizeAt s i = (0, 0)) : sizeAt t i = (0, 0) := by
  have h0 := bt_lt s i
  have h1 := bt_lt s (i + 1)
  have h2 := bt_lt s (i + 2)
  have h3 := bt_lt s (i + 3)
  have k1 := bt_lt t (i + 1)
  have k2 := bt_lt t (i + 2)
  have k3 := bt_lt t (i + 3)
  unfold Look ct at hl
  rw [show i + 1 + 1 = i + 2 by omega, show i + 1 + 2 = i + 3 by omega] at hl
  unfold sizeAt at *
  rw [hs, hb]
  generalize bt s i = b0 at *
  generalize bt s (i + 1) = b1 at *
  generalize bt s (i + 2) = b2 at *
  generalize bt s (i + 3) = b3 at *
  generalize bt t (i + 1) = d1 at *
  generalize bt t (i + 2) = d2 at *
  generalize bt t (i + 3) = d3 at *
  generalize s.size - i = n at *
  by_cases c1 : 194 ≤ b0 ∧ b0 ≤ 223
  · rw [size_two _ _ _ _ _ c1 h1] at hz
    rw [size_two _ _ _ _ _ c1 k1]
    split at hz
    · simp at hz
    · rw [if_neg (by omega)]
  · by_cases c2 : 224 ≤ b0 ∧ b0 ≤ 239
    · rw [size_three _ _ _ _ _ c2 h1 h2] at hz
      rw [size_three _ _ _ _ _ c2 k1 k2]
      split at hz
      · simp at hz
      · rename_i hn
        rw [if_neg]
        rintro ⟨g1, g2, g3, g4⟩
        obtain ⟨e1, e2⟩ : d1 = b1 ∧ d2 = b2 := by omega
        subst e1 e2
        exact hn ⟨g1, g2, g3, g4⟩
    · by_cases c3 : 240 ≤ b0 ∧ b0 ≤ 244
      · rw [size_four _ _ _ _ _ c3 h1 h2 h3] at hz
        rw [size_four _ _ _ _ _ c3 k1 k2 k3]
        split at hz
        · simp at hz
        · rename_i hn
          rw [if_neg]
          rintro ⟨g1, g2, g3, g4, g5⟩
          obtain ⟨e1, e2, e3⟩ : d1 = b1 ∧ d2 = b2 ∧ d3 = b3 := by omega
          subst e1 e2 e3
          exact hn ⟨g1, g2, g3, g4, g5⟩
      · exact size_none _ _ _ _ _ h0 (by omega) k1 k2 k3

theorem encL_len (g : Int → Bool → Int) (G : Keeps g) (s : ByteArray) (m : Bool) (i : Nat) (h : i < s.size) : (encL (g ((chr s i m).1 : Int) m) m).length = (chr s i m).2 := by
  cases m with
  | true => simp [encL, chr]
  | false =>
    have h0 := bt_lt s i
    unfold encL
    rw [if_neg (by simp)]
    rcases shape s i h with ⟨hb, e⟩ | ⟨hb, h1, hn, e⟩ | ⟨hb, h1, h2, hn, hc, e⟩ | ⟨hb, h1, h2, h3, hn, hc, e⟩ | ⟨hb, hz, e⟩
    · rw [e]
      have := G.lo _ hb
      obtain ⟨d, hd⟩ := Int.eq_ofNat_of_zero_le this.1
      simp only []
      rw [hd] at this ⊢
      rw [text1 d (by omega)]; rfl
    · rw [e]
      have := G.mid (64 * (bt s i % 32) + bt s (i + 1) - 128) (by omega) (by omega)
      obtain ⟨d, hd⟩ := Int.eq_ofNat_of_zero_le (show 0 ≤ g ((64 * (bt s i % 32) + bt s (i + 1) - 128 : Nat) : Int) false by omega)
      simp only []
      rw [hd] at this ⊢
      rw [text2 d (by omega)]; rfl
    · rw [e] at hc; simp only [] at hc
      rw [e]; simp only []
      rw [G.hi _ hc.1, text3 _ (by omega)]; rfl
    · rw [e] at hc; simp only [] at hc
      rw [e]; simp only []
      rw [G.hi _ (by omega), text4 _ (by omega)]; rfl
    · rw [e]; simp only []
      rw [G.hi _ (by omega), textX _ h0]; rfl

theorem of_nat (n : Nat) (h : n < 256) : (UInt8.ofNat n).toNat = n := by
  rw [UInt8.toNat_ofNat']; omega

/-- One character of the changed string. -/
theorem chr_map (g : Int → Bool → Int) (G : Keeps g) (s t : ByteArray) (m : Bool) (i : Nat) (hs : t.size = s.size) (h : i < s.size) (r : List UInt8)
    (hd : t.data.toList.drop i = encL (g ((chr s i m).1 : Int) m) m ++ r) (hl : m = false → Look s t (i + (chr s i m).2)) :
    ((chr t i m).1 : Int) = g ((chr s i m).1 : Int) m ∧ (chr t i m).2 = (chr s i m).2 ∧ (m = false → Look s t i) := by
  have B : ∀ j, bt t (i + j) = _ := bt_drop hd
  cases m with
  | true =>
    have hb := bt_lt s i
    have := G.by1 (bt s i) hb
    have b0 := B 0
    simp only [chr, if_true, encL, List.singleton_append, List.getElem?_cons_zero, Option.getD_some, Nat.add_zero] at b0 ⊢
    rw [of_nat _ (by omega)] at b0
    exact ⟨by rw [b0]; omega, by simp⟩
  | false =>
    have h0 := bt_lt s i
    have h1' := bt_lt s (i + 1)
    unfold encL at B
    simp only [Bool.false_eq_true, if_false] at B
    have HL := hl rfl
    rcases shape s i h with ⟨hb, e⟩ | ⟨hb, h1, hn, e⟩ | ⟨hb, h1, h2, hn, hc, e⟩ | ⟨hb, h1, h2, h3, hn, hc, e⟩ | ⟨hb, hz, e⟩
    · rw [e] at B ⊢
      have := G.lo _ hb
      obtain ⟨d, hd'⟩ := Int.eq_ofNat_of_zero_le this.1
      simp only [] at B ⊢
      rw [hd'] at this B ⊢
      rw [text1 d (by omega)] at B
      have b0 := B 0
      simp only [List.singleton_append, List.getElem?_cons_zero, Option.getD_some, Nat.add_zero] at b0
      rw [of_nat _ (by omega)] at b0
      have ht : i < t.size := by omega
      have : chr t i false = (d, 1) := by
        rw [chr_size t i ht, show sizeAt t i = (1, bt t i) from size_ascii _ _ _ _ _ (by omega), b0]; rfl
      rw [this]
      refine ⟨rfl, rfl, fun _ => .inl ⟨?_, ?_⟩⟩ <;> unfold ct <;> omega
    · rw [e] at B ⊢
      have := G.mid (64 * (bt s i % 32) + bt s (i + 1) - 128) (by omega) (by omega)
      obtain ⟨d, hd'⟩ := Int.eq_ofNat_of_zero_le (show 0 ≤ g ((64 * (bt s i % 32) + bt s (i + 1) - 128 : Nat) : Int) false by omega)
      simp only [] at B ⊢
      rw [hd'] at this B ⊢
      rw [text2 d (by omega)] at B
      have b0 := B 0
      have b1 := B 1
      simp only [List.cons_append, List.nil_append, List.getElem?_cons_zero, List.getElem?_cons_succ, Option.getD_some, Nat.add_zero] at b0 b1
      rw [of_nat _ (by omega)] at b0 b1
      have ht : i < t.size := by omega
      have : chr t i false = (d, 2) := by
        have e2 : sizeAt t i = _ := size_two (t.size - i) (bt t i) (bt t (i + 1)) (bt t (i + 2)) (bt t (i + 3)) (by omega) (by omega)
        rw [if_pos (by omega)] at e2
        rw [chr_size t i ht, e2, if_neg (by simp)]
        simp only [Prod.mk.injEq, and_true]
        omega
      rw [this]
      refine ⟨rfl, rfl, fun _ => .inl ⟨?_, ?_⟩⟩ <;> unfold ct <;> omega
    · rw [e] at hc B ⊢; simp only [] at hc B ⊢
      rw [G.hi _ hc.1] at B ⊢
      rw [text3 _ (by omega)] at B
      have b0 := B 0
      have b1 := B 1
      have b2 := B 2
      simp only [List.cons_append, List.nil_append, List.getElem?_cons_zero, List.getElem?_cons_succ, Option.getD_some, Nat.add_zero] at b0 b1 b2
      rw [of_nat _ (by omega)] at b0 b1 b2
      have ht : i < t.size := by omega
      have a0 : bt t i = bt s i := by omega
      have a1 : bt t (i + 1) = bt s (i + 1) := by omega
      have a2 : bt t (i + 2) = bt s (i + 2) := by omega
      have : chr t i false = (64 * (64 * (bt s i % 16) + bt s (i + 1) - 128) + bt s (i + 2) - 128, 3) := by
        have e2 : sizeAt t i = _ := size_three (t.size - i) (bt t i) (bt t (i + 1)) (bt t (i + 2)) (bt t (i + 3)) (by omega) (by omega) (by omega)
        rw [a0, a1, a2, if_pos (by omega)] at e2
        rw [chr_size t i ht, e2, if_neg (by simp)]
      rw [this]
      refine ⟨rfl, rfl, fun _ => .inl ⟨?_, ?_⟩⟩ <;> unfold ct <;> omega
    · rw [e] at hc B ⊢; simp only [] at hc B ⊢
      rw [G.hi _ (by omega)] at B ⊢
      rw [text4 _ (by omega)] at B
      have b0 := B 0
      have b1 := B 1
      have b2 := B 2
      have b3 := B 3
      simp only [List.cons_append, List.nil_append, List.getElem?_cons_zero, List.getElem?_cons_succ, Option.getD_some, Nat.add_zero] at b0 b1 b2 b3
      rw [of_nat _ (by omega)] at b0 b1 b2 b3
      have ht : i < t.size := by omega
      have a0 : bt t i = bt s i := by omega
      have a1 : bt t (i + 1) = bt s (i + 1) := by omega
      have a2 : bt t (i + 2) = bt s (i + 2) := by omega
      have a3 : bt t (i + 3) = bt s (i + 3) := by omega
      have : chr t i false = (64 * (64 * (64 * (bt s i % 8) + bt s (i + 1) - 128) + bt s (i + 2) - 128) + bt s (i + 3) - 128, 4) := by
        have e2 : sizeAt t i = _ := size_four (t.size - i) (bt t i) (bt t (i + 1)) (bt t (i + 2)) (bt t (i + 3)) (by omega) (by omega) (by omega) (by omega)
        rw [a0, a1, a2, a3, if_pos (by omega)] at e2
        rw [chr_size t i ht, e2, if_neg (by simp)]
      rw [this]
      refine ⟨rfl, rfl, fun _ => .inl ⟨?_, ?_⟩⟩ <;> unfold ct <;> omega
    · rw [e] at B HL ⊢; simp only [] at B HL ⊢
      rw [G.hi _ (by omega)] at B ⊢
      rw [textX _ h0] at B
      have b0 := B 0
      simp only [List.singleton_append, List.getElem?_cons_zero, Option.getD_some, Nat.add_zero] at b0
      rw [of_nat _ (by omega)] at b0
      have ht : i < t.size := by omega
      have : chr t i false = (1114112 + bt s i, 1) := by
        rw [chr_size t i ht, look_size s t i hs b0 hb HL hz, b0]; rfl
      rw [this]
      refine ⟨rfl, rfl, fun _ => ?_⟩
      unfold Look at HL ⊢
      rw [show i + 1 + 1 = i + 2 by omega, show i + 1 + 2 = i + 3 by omega] at HL
      unfold ct at *
      omega

/-- The whole. -/
theorem map_rest (g : Int → Bool → Int) (G : Keeps g) (s t : ByteArray) (m : Bool) (hs : t.size = s.size) : ∀ f i, s.size - i ≤ f → i ≤ s.size → t.data.toList.drop i = mapL g s m (rest s m i) →
    rest t m i = rest s m i ∧ (∀ j ∈ rest s m i, ((chr t j m).1 : Int) = g ((chr s j m).1 : Int) m ∧ (chr t j m).2 = (chr s j m).2) ∧ (m = false → Look s t i)
  | 0, i, h, hi, hd => by
    rw [rest_end (by omega), rest_end (by omega)]
    refine ⟨rfl, by simp, fun _ => .inl ⟨?_, ?_⟩⟩
    · rw [bt_end s i (by omega)]; unfold ct; omega
    · rw [bt_end t i (by omega)]; unfold ct; omega
  | f + 1, i, h, hi, hd => by
    by_cases hlt : i < s.size
    · have hw := chr_wide s i m hlt
      rw [rest_step hlt] at hd ⊢
      have hd' : t.data.toList.drop i = encL (g ((chr s i m).1 : Int) m) m ++ mapL g s m (rest s m (i + (chr s i m).2)) := by
        rw [hd, ← piece_enc g s m i hlt]; simp [mapL]
      have hn : t.data.toList.drop (i + (chr s i m).2) = mapL g s m (rest s m (i + (chr s i m).2)) := by
        have := congrArg (List.drop (encL (g ((chr s i m).1 : Int) m) m).length) hd'
        rw [List.drop_drop, List.drop_left, encL_len g G s m i hlt] at this
        exact this
      obtain ⟨e1, e2, e3⟩ := map_rest g G s t m hs f (i + (chr s i m).2) (by omega) (by omega) hn
      obtain ⟨k1, k2, k3⟩ := chr_map g G s t m i hs hlt _ hd' e3
      refine ⟨?_, ?_, k3⟩
      · rw [rest_step (by omega : i < t.size), k2, e1]
      · intro j hj
        rcases List.mem_cons.1 hj with rfl | hj
        · exact ⟨k1, k2⟩
        · exact e2 j hj
    · rw [rest_end (by omega), rest_end (by omega)]
      refine ⟨rfl, by simp, fun _ => .inl ⟨?_, ?_⟩⟩
      · rw [bt_end s i (by omega)]; unfold ct; omega
      · rw [bt_end t i (by omega)]; unfold ct; omega

theorem mapL_size (g : Int → Bool → Int) (G : Keeps g) (s : ByteArray) (m : Bool) : ∀ f i, s.size - i ≤ f → i ≤ s.size → (mapL g s m (rest s m i)).length = s.size - i
  | 0, i, h, hi => by rw [rest_end (by omega)]; simp [mapL]; omega
  | f + 1, i, h, hi => by
    by_cases hlt : i < s.size
    · have hw := chr_wide s i m hlt
      have := mapL_size g G s m f (i + (chr s i m).2) (by omega) (by omega)
      rw [rest_step hlt]
      unfold mapL at *
      rw [List.flatMap_cons, List.length_append, this, piece_enc g s m i hlt, encL_len g G s m i hlt]
      omega
    · rw [rest_end (by omega)]; simp [mapL]; omega

theorem rest_lt (s : ByteArray) (m : Bool) : ∀ f i, s.size - i ≤ f → ∀ j ∈ rest s m i, j < s.size
  | 0, i, h, j, hj => by rw [rest_end (by omega)] at hj; cases hj
  | f + 1, i, h, j, hj => by
    by_cases hlt : i < s.size
    · have hw := chr_wide s i m hlt
      rw [rest_step hlt] at hj
      rcases List.mem_cons.1 hj with rfl | hj
      · exact hlt
      · exact rest_lt s m f _ (by omega) j hj
    · rw [rest_end (by omega)] at hj; cases hj

theorem flat_eq {α β : Type} {f g : α → List β} : ∀ {l : List α}, (∀ x ∈ l, f x = g x) → l.flatMap f = l.flatMap g
  | [], _ => rfl
  | x :: l, h => by rw [List.flatMap_cons, List.flatMap_cons, h x (by simp), flat_eq fun y hy => h y (by simp [hy])]
/-- The changed string. -/
def mapS (g : Int → Bool → Int) (s : ByteArray) (m : Bool) : ByteArray := ⟨(mapL g s m (places s m)).toArray⟩
theorem mapS_size (g : Int → Bool → Int) (G : Keeps g) (s : ByteArray) (m : Bool) : (mapS g s m).size = s.size := by
  have := mapL_size g G s m s.size 0 (by omega) (by omega)
  show (mapL g s m (places s m)).toArray.size = _
  rw [List.size_toArray]; exact this
theorem mapS_places (g : Int → Bool → Int) (G : Keeps g) (s : ByteArray) (m : Bool) : places (mapS g s m) m = places s m :=
  (map_rest g G s (mapS g s m) m (mapS_size g G s m) s.size 0 (by omega) (by omega) (by simp [mapS, places])).1
theorem mapS_chr (g : Int → Bool → Int) (G : Keeps g) (s : ByteArray) (m : Bool) : ∀ j ∈ places s m, ((chr (mapS g s m) j m).1 : Int) = g ((chr s j m).1 : Int) m ∧ (chr (mapS g s m) j m).2 = (chr s j m).2 :=
  (map_rest g G s (mapS g s m) m (mapS_size g G s m) s.size 0 (by omega) (by omega) (by simp [mapS, places])).2.1
/-- Twice. -/
theorem mapS_twice (g h : Int → Bool → Int) (G : Keeps g) (s : ByteArray) (m : Bool) : mapS h (mapS g s m) m = ⟨((places s m).flatMap (fun j => encL (h (g ((chr s j m).1 : Int) m) m) m)).toArray⟩ := by
  unfold mapS
  have hp := mapS_places g G s m
  have hc := mapS_chr g G s m
  have hz := mapS_size g G s m
  unfold mapS at hp hc hz
  rw [hp]
  congr 2
  unfold mapL
  apply flat_eq
  intro j hj
  have hlt : j < s.size := rest_lt s m s.size 0 (by omega) j hj
  have := (hc j hj).1
  unfold mapL at this hz
  rw [piece_enc h _ m j (by rw [hz]; exact hlt), this]
theorem mapS_once (g : Int → Bool → Int) (s : ByteArray) (m : Bool) : mapS g s m = ⟨((places s m).flatMap (fun j => encL (g ((chr s j m).1 : Int) m) m)).toArray⟩ := by
  unfold mapS
  congr 2
  unfold mapL
  apply flat_eq
  intro j hj
  exact piece_enc g s m j (rest_lt s m s.size 0 (by omega) j hj)
theorem fold_cap (c : Int) (m : Bool) : foldC (capC c m) m = foldC (foldC c m) m ∧ capC (foldC c m) m = capC (capC c m) m ∧ foldC (foldC c m) m = foldC c m := by
  unfold foldC capC
  cases m <;> simp <;> (refine ⟨?_, ?_, ?_⟩) <;> (repeat' split) <;> omega

end Go.Proofs.YtaheddpmidoekaaDoor
