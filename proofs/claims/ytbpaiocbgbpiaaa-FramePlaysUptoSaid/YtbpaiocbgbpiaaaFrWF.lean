/- The document's example: walked. -/
import Derived.Test.YtbpaiocbgbpiaaaFrWE
namespace Go.Proofs.Ytbpaiocbgbpiaaa
open Go.RowKit
set_option linter.unusedVariables false
set_option linter.unusedSimpArgs false

def sP : ByteArray := ⟨#[112]⟩
def sQ : ByteArray := ⟨#[113]⟩
def sX : ByteArray := ⟨#[120]⟩
def fxPs : List ByteArray := [⟨#[112]⟩, ⟨#[113]⟩]
def fxAs : List ArgT := [(0, ⟨#[120]⟩, (0, 0, ⟨#[]⟩)), (0, ⟨#[]⟩, (1, 4613937818241073152, ⟨#[]⟩))]
def fx1 : FS := (pushS FS.new fxPs fxAs).1
def fx2 : FS := (arrS fx1 ⟨#[112]⟩).1
def fx3 : FS := (setS fx2 ⟨#[113]⟩ (1, 4616189618054758400, ⟨#[]⟩)).1
def fx4 : FS := (setS fx3 ⟨#[112]⟩ (1, 4607182418800017408, ⟨#[]⟩)).1
def fx5 : FS := (popS fx4).1
def fx6 : FS := (arrS fx5 ⟨#[120]⟩).1
def fx7 : FS := (kindS fx6 ⟨#[120]⟩).1
def fx8 : FS := (kindS fx7 ⟨#[113]⟩).1
theorem fxr1 : pushS FS.new fxPs fxAs = (fx1, 0) := Prod.ext rfl (by decide +kernel)
theorem fxr2 : arrS fx1 ⟨#[112]⟩ = (fx2, 1, 0) := Prod.ext rfl (by decide +kernel)
theorem fxr3 : setS fx2 ⟨#[113]⟩ (1, 4616189618054758400, ⟨#[]⟩) = (fx3, 0) := Prod.ext rfl (by decide +kernel)
theorem fxr4 : setS fx3 ⟨#[112]⟩ (1, 4607182418800017408, ⟨#[]⟩) = (fx4, 80) := Prod.ext rfl (by decide +kernel)
theorem fxr5 : popS fx4 = (fx5, 0) := Prod.ext rfl (by decide +kernel)
theorem fxr6 : arrS fx5 ⟨#[120]⟩ = (fx6, 1, 0) := Prod.ext rfl (by decide +kernel)
theorem fxr7 : kindS fx6 ⟨#[120]⟩ = (fx7, 2) := Prod.ext rfl (by decide +kernel)
theorem fxr8 : kindS fx7 ⟨#[113]⟩ = (fx8, 0) := Prod.ext rfl (by decide +kernel)
theorem fxl : fx1.sl.length = 3 ∧ fx2.sl.length = 3 ∧ fx3.sl.length = 3 ∧ fx4.sl.length = 3 ∧ fx5.sl.length = 3 ∧ fx6.sl.length = 3 ∧ fx7.sl.length = 3 := by decide +kernel
theorem fxn : fx1.n = 0 ∧ fx2.n = 1 ∧ fx6.n = 1 ∧ fx4.n = 1 ∧ fx8.n = 1 := by decide +kernel
theorem Keeps.trans {G G1 G2 : GH} (h : Keeps G G1) (k : Keeps G1 G2) : Keeps G G2 := by
  obtain ⟨x1, e1⟩ := h.ab
  obtain ⟨x2, e2⟩ := k.ab
  obtain ⟨y1, f1⟩ := h.ks
  obtain ⟨y2, f2⟩ := k.ks
  exact ⟨k.F.trans h.F, ⟨x1 ++ x2, by rw [e2, e1, List.append_assoc]⟩, ⟨y1 ++ y2, by rw [f2, f1, List.append_assoc]⟩, k.q.trans h.q⟩
theorem get_pre {α : Type} {l l' : List α} {i : Nat} {a : α} (h : ∃ x, l' = l ++ x) (hi : l[i]? = some a) : l'[i]? = some a := by
  obtain ⟨x, rfl⟩ := h
  rw [List.getElem?_append_left (List.getElem?_eq_some_iff.1 hi).1]; exact hi
theorem own_new {lo : Nat} {w0 w : World} {G : GH} {st : FS} (h : LawSt lo w0 G st w) {b n : Nat} (hb : w.heap.size ≤ b) : ∀ a m c', 0 < m → (Value.slice (some ⟨b, 0, none⟩) n n) = .slice (some a) m c' → ¬ Own G a.block := fun a m c' _ e ho => by
  cases e
  have := h.fr.lt ho
  dsimp only at this
  omega
set_option maxRecDepth 20000 in
set_option maxHeartbeats 16000000 in
theorem fixed_any (w : World) : Calls Try.prog 7 #[] w fun e w' => e = .returned (.bool true) ∧ Below w.heap.size w w' := by
  have HN := Lib.hid (new_any w)
  go_enter Try.func7, Try.ntmps7
  go_wp2_with fail
  refine HN.out.mono ?_
  rintro e w1 ⟨G, rfl, hL, hq⟩
  have HL := Lib.hid (And.intro hL hq)
  have hbA : Below w1.heap.size w1 (w1.alloc (.cells #[.string ⟨#[112]⟩, .string ⟨#[113]⟩] 9)) := (Below.refl _ w1).alloc (Nat.le_refl _) _
  have hA : (w1.alloc (.cells #[.string ⟨#[112]⟩, .string ⟨#[113]⟩] 9)).heap[w1.heap.size]? = some (.cells #[.string ⟨#[112]⟩, .string ⟨#[113]⟩] 9 (0, 0)) := heap_alloc_new _ _
  have hlA : w1.heap.size < (w1.alloc (.cells #[.string ⟨#[112]⟩, .string ⟨#[113]⟩] 9)).heap.size := by simp
  have HA := Lib.hid (And.intro hbA (And.intro hA hlA))
  clear hL hq hbA hA hlA HN
  go_wp2_with fail
  refine (of_any _ _).mono ?_
  rintro e w2 ⟨rfl, hb2⟩
  have HB := Lib.hid hb2
  clear hb2
  go_wp2_with fail
  have hcall : Calls Try.prog 9 #[.pointer (some ⟨G.F, 0, none⟩), .slice (some ⟨w1.heap.size, 0, none⟩) 2 2, .slice (some ⟨w2.heap.size, 0, none⟩) 2 2] (w2.alloc (.cells #[.pointer none, .string ⟨#[120]⟩, .int .i64 0, .float .f64 0, .string ⟨#[]⟩, .pointer none, .string ⟨#[]⟩, .int .i64 1, .float .f64 4613937818241073152, .string ⟨#[]⟩] 34))
      fun e w' => ∃ G', e = .returned (.int .i64 0) ∧ LawSt w.heap.size w G' fx1 w' ∧ Keeps G G' := by
    obtain ⟨hL, hq⟩ := HL.out
    obtain ⟨hbA, hA, hlA⟩ := HA.out
    have hb2 := HB.out
    have hb3 : Below w2.heap.size w2 (w2.alloc (.cells #[.pointer none, .string ⟨#[120]⟩, .int .i64 0, .float .f64 0, .string ⟨#[]⟩, .pointer none, .string ⟨#[]⟩, .int .i64 1, .float .f64 4613937818241073152, .string ⟨#[]⟩] 34)) := (Below.refl _ w2).alloc (Nat.le_refl _) _
    have hsz := hb2.size
    exact law_push ((hL.more hbA).more hb2 |>.more hb3) fxPs fxAs (by decide) rfl rfl (RowA.of_block ((hb3.block _ (by omega)).trans ((hb2.block _ hlA).trans hA)) rfl rfl) (RowA.of_block (heap_alloc_new _ _) rfl rfl)
      (own_new hL (Nat.le_refl _)) (own_new hL (by omega)) (by decide) (by decide) fxr1 rfl rfl
  have HC := Lib.hid hcall
  clear hcall
  refine HC.out.mono ?_
  rintro e w3 ⟨G1, rfl, hL1, hK1⟩
  have HC1 := Lib.hid (law_arr hL1 ⟨#[112]⟩ (by decide) (by rw [fxl.1]; decide) fxr2 rfl hK1.F)
  have HK1 := Lib.hid (And.intro hK1 HL.out.2)
  clear hL1 hK1 HC HL HA HB
  go_wp2_with fail
  refine HC1.out.mono ?_
  rintro e w4 ⟨G2, rfl, hL2, hK2⟩
  obtain ⟨ba, mba, ksa, a1, a2, a3, a4, a5⟩ := hL2.arr (k := 0) (by rw [fxn.2.1]; decide)
  rw [a4]
  have HL2 := Lib.hid (And.intro hL2 (And.intro a1 (And.intro a2 (And.intro a3 (And.intro a4 a5)))))
  have HK2 := Lib.hid (HK1.out.1.trans hK2)
  clear hL2 hK2 a1 a2 a3 a4 a5 HC1
  go_wp2_with fail
  refine (of_any _ _).mono ?_
  rintro e w5 ⟨rfl, hb5⟩
  have HC2 := Lib.hid (law_set (HL2.out.1.more hb5) ⟨#[113]⟩ (by decide) (by rw [fxl.2.1]; decide) 1 4616189618054758400 ⟨#[]⟩ fxr3 rfl HK2.out.F)
  clear hb5
  go_wp2_with fail
  refine HC2.out.mono ?_
  rintro e w6 ⟨G3, rfl, hL3, hK3⟩
  have HL3 := Lib.hid (And.intro hL3 hK3)
  clear hL3 hK3 HC2
  go_wp2_with fail
  refine (of_any _ _).mono ?_
  rintro e w7 ⟨rfl, hb7⟩
  have HC3 := Lib.hid (law_set (HL3.out.1.more hb7) ⟨#[112]⟩ (by decide) (by rw [fxl.2.2.1]; decide) 1 4607182418800017408 ⟨#[]⟩ fxr4 rfl (HL3.out.2.F.trans HK2.out.F))
  clear hb7
  go_wp2_with fail
  refine HC3.out.mono ?_
  rintro e w8 ⟨G4, rfl, hL4, hK4⟩
  have HL4 := Lib.hid (And.intro hL4 hK4)
  clear hL4 hK4 HC3
  go_wp2_with fail
  refine (text_any _ _).mono ?_
  rintro e w9 ⟨rfl, hb9⟩
  have hset : Calls Try.prog 16 #[.pointer (some ⟨ba, 0, none⟩), .string ⟨#[107]⟩, .agg #[.int .i64 2, .float .f64 0, .string ⟨#[118]⟩]] w9 fun e w' => ∃ G5 ks, e = .returned (.int .i64 0) ∧ LawSt w.heap.size w G5 fx4 w' ∧ G5.F = G.F ∧ G5.ab[0]? = some ba ∧ G5.ks[0]? = some (putK ks ⟨#[107]⟩) := by
    obtain ⟨hL2, a1, a2, a3, a4, a5⟩ := HL2.out
    obtain ⟨hL4, hK4⟩ := HL4.out
    have hL9 := hL4.more hb9
    have hK := (HK2.out.trans HL3.out.2).trans hK4
    obtain ⟨b', mb', ks', c1, c2, c3, c4, c5⟩ := hL9.arr (k := 0) (by rw [fxn.2.2.2.1]; decide)
    have hb' := get_pre (HL3.out.2.trans hK4).ab a1
    rw [c1] at hb'
    cases hb'
    refine (c5.set (by rw [hK.q, HK1.out.2]; decide) ⟨#[107]⟩ (by decide) 2 0 ⟨#[118]⟩).mono ?_
    rintro e w' ⟨rfl, hA, hT⟩
    exact ⟨_, ks', rfl, hL9.aset c1 c2 c3 hA hT, hK.F, c1, by
      dsimp only
      rw [List.getElem?_set_self (List.getElem?_eq_some_iff.1 c3).1]⟩
  have HSet := Lib.hid hset
  clear hset hb9
  go_wp2_with fail
  refine HSet.out.mono ?_
  rintro e w10 ⟨G5, ks5, rfl, hL5, hF5, b5, k5⟩
  have HC5 := Lib.hid (law_pop hL5 fxr5 rfl hF5)
  have HK5 := Lib.hid (And.intro hF5 (And.intro b5 k5))
  clear hL5 hF5 b5 k5 HSet HL4 HL3 HL2 HK2 HK1
  go_wp2_with fail
  refine HC5.out.mono ?_
  rintro e w11 ⟨G6, rfl, hL6, hK6⟩
  have HC6 := Lib.hid (law_arr hL6 ⟨#[120]⟩ (by decide) (by rw [fxl.2.2.2.2.1]; decide) fxr6 rfl (hK6.F.trans HK5.out.1))
  have HK6 := Lib.hid hK6
  clear hL6 hK6 HC5
  go_wp2_with fail
  refine HC6.out.mono ?_
  rintro e w12 ⟨G7, rfl, hL7, hK7⟩
  have hp7 : arP G7.ab 1 = .pointer (some ⟨ba, 0, none⟩) := by
    have := get_pre (HK6.out.trans hK7).ab HK5.out.2.1
    simp only [arP]
    rw [List.getD_eq_getElem?_getD, this]
    rfl
  rw [hp7]
  have HC7 := Lib.hid (law_kind hL7 ⟨#[120]⟩ (by decide) (by rw [fxl.2.2.2.2.2.1]; decide) fxr7 rfl ((HK6.out.trans hK7).F.trans HK5.out.1))
  have HK7 := Lib.hid (HK6.out.trans hK7)
  clear hL7 hK7 HC6 hp7 HK6
  go_wp2_with fail
  refine HC7.out.mono ?_
  rintro e w13 ⟨G8, rfl, hL8, hK8⟩
  have HC8 := Lib.hid (law_kind hL8 ⟨#[113]⟩ (by decide) (by rw [fxl.2.2.2.2.2.2]; decide) fxr8 rfl ((HK7.out.trans hK8).F.trans HK5.out.1))
  have HK8 := Lib.hid (HK7.out.trans hK8)
  clear hL8 hK8 HC7 HK7
  go_wp2_with fail
  refine HC8.out.mono ?_
  rintro e w14 ⟨G9, rfl, hL9, hK9⟩
  have hkind : Calls Try.prog 27 #[.pointer (some ⟨ba, 0, none⟩), .string ⟨#[107]⟩] w14 fun e w' => e = .returned (.int .i64 1) ∧ Below w14.heap.size w14 w' := by
    obtain ⟨b', mb', ks', c1, c2, c3, c4, c5⟩ := hL9.arr (k := 0) (by rw [fxn.2.2.2.2]; decide)
    have hb' := get_pre (HK8.out.trans hK9).ab HK5.out.2.1
    have hk' := get_pre (HK8.out.trans hK9).ks HK5.out.2.2
    rw [c1] at hb'
    rw [c3] at hk'
    cases hb'
    cases hk'
    exact c5.kind ⟨#[107]⟩ (by decide)
  have HKi := Lib.hid (And.intro hkind hL9)
  clear hkind hL9 hK9 HC8 HK8
  go_wp2_with fail
  refine HKi.out.1.mono ?_
  rintro e w15 ⟨rfl, hb15⟩
  have HE := Lib.hid (HKi.out.2.more hb15).bl
  clear hb15 HKi
  go_wp2_with fail
  go_ret
  exact ⟨rfl, HE.out⟩
end Go.Proofs.Ytbpaiocbgbpiaaa
