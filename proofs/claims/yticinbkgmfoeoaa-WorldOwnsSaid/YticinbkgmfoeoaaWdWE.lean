/- The law's fixed example, walked. -/
import Derived.Test.YticinbkgmfoeoaaWdWD
namespace Go.Proofs.Yticinbkgmfoeoaa
open Go.RowKit
set_option linter.unusedVariables false

theorem row_new (w : World) (e : TypeId) (s n : Nat) (us : Array Value) (hus : us.size = n * s) (hn : n ≤ maxLen) : RowT (w.alloc (.cells us e)) e s (.slice (some ⟨w.heap.size, 0, none⟩) n n) n us.toList :=
  RowT.of_own (base := 0) ⟨by simpa using hus, .inr ⟨w.heap.size, n, us, rfl, Nat.zero_le _, heap_alloc_new _ _, Nat.le_refl _, hn, hus, by rw [List.take_of_length_le]; simp [hus]⟩⟩
theorem RowT.alloc {w : World} {e : TypeId} {s : Nat} {v : Value} {n : Nat} {xs : List Value} (h : RowT w e s v n xs) (o : Obj) : RowT (w.alloc o) e s v n xs := h.below ((Below.refl _ w).alloc (Nat.le_refl _) o)
theorem row_nil (w : World) (e : TypeId) (s : Nat) : RowT w e s (.slice none 0 0) 0 [] := RowT.of_own (base := 0) (own_nil _ _ _ _)
def bsA : ByteArray := ⟨#[97]⟩
def bsB : ByteArray := ⟨#[98]⟩
def bsF : ByteArray := ⟨#[102]⟩
def bsX : ByteArray := ⟨#[120]⟩
def bsDate : ByteArray := ⟨#[100, 97, 116, 101]⟩
def bs1 : ByteArray := ⟨#[49]⟩
def bs2 : ByteArray := ⟨#[50]⟩
def bsG : ByteArray := ⟨#[103]⟩
set_option maxRecDepth 20000 in
set_option maxHeartbeats 4000000 in
theorem fixed_any (w : World) : Calls Try.prog 8 #[] w fun e w' => e = .returned (.bool true) ∧ Below w.heap.size w w' := by
  have hb0 : Below w.heap.size w (((((w.alloc (.cells #[.string bsA, .string bsB] 9)).alloc (.cells #[.string bsF, .slice (some ⟨w.heap.size, 0, none⟩) 2 2] 57)).alloc (.cells #[.string bsX] 9)).alloc (.cells #[.string bsDate, .slice (some ⟨w.heap.size + 2, 0, none⟩) 1 1, .int .i64 3] 59)).alloc (.cells #[.int .i64 5, .int .i64 7] 3)) :=
    (((((Below.refl _ w).alloc (Nat.le_refl _) _).alloc (by simp) _).alloc (by simp; omega) _).alloc (by simp; omega) _).alloc (by simp; omega) _
  have hN := mw_new (w := (((((w.alloc (.cells #[.string bsA, .string bsB] 9)).alloc (.cells #[.string bsF, .slice (some ⟨w.heap.size, 0, none⟩) 2 2] 57)).alloc (.cells #[.string bsX] 9)).alloc (.cells #[.string bsDate, .slice (some ⟨w.heap.size + 2, 0, none⟩) 1 1, .int .i64 3] 59)).alloc (.cells #[.int .i64 5, .int .i64 7] 3)))
    (fv := .slice (some ⟨w.heap.size + 1, 0, none⟩) 1 1) (cv := .slice (some ⟨w.heap.size + 3, 0, none⟩) 1 1) (sv := .slice none 0 0) (ev := .slice none 0 0) (kv := .slice (some ⟨w.heap.size + 4, 0, none⟩) 2 2)
    (fs := [(bsF, .slice (some ⟨w.heap.size, 0, none⟩) 2 2, [bsA, bsB])]) (cl := [(bsDate, .slice (some ⟨w.heap.size + 2, 0, none⟩) 1 1, 3)]) (CL := [(bsDate, [bsX], 3)]) (sl := []) (E := []) (K := [5, 7])
    (hfv := by
      have := row_new (w.alloc (.cells #[.string bsA, .string bsB] 9)) 57 2 1 #[.string bsF, .slice (some ⟨w.heap.size, 0, none⟩) 2 2] rfl (by decide)
      rw [World.size_alloc] at this
      exact ((this.alloc _).alloc _).alloc _)
    (hfn := by simp)
    (hf1 := by
      intro f hf
      simp only [List.mem_singleton] at hf
      subst hf
      refine ⟨((((row_new w 9 1 2 #[.string bsA, .string bsB] rfl (by decide)).alloc _).alloc _).alloc _).alloc _, by simp, ?_⟩
      show bsF.size ≤ maxLen
      decide)
    (hcv := by
      have := row_new ((((w.alloc (.cells #[.string bsA, .string bsB] 9)).alloc (.cells #[.string bsF, .slice (some ⟨w.heap.size, 0, none⟩) 2 2] 57)).alloc (.cells #[.string bsX] 9))) 59 3 1 #[.string bsDate, .slice (some ⟨w.heap.size + 2, 0, none⟩) 1 1, .int .i64 3] rfl (by decide)
      rw [World.size_alloc, World.size_alloc, World.size_alloc] at this
      exact this.alloc _)
    (hcl := by simp)
    (hcm := by
      refine ⟨rfl, fun i x y hx hy => ?_⟩
      cases i with
      | zero =>
        cases hx; cases hy
        have := row_new (((w.alloc (.cells #[.string bsA, .string bsB] 9)).alloc (.cells #[.string bsF, .slice (some ⟨w.heap.size, 0, none⟩) 2 2] 57))) 9 1 1 #[.string bsX] rfl (by decide)
        rw [World.size_alloc, World.size_alloc] at this
        exact ⟨rfl, rfl, (this.alloc _).alloc _⟩
      | succ i => cases hx)
    (hcm2 := by
      intro y hy
      simp only [List.mem_singleton] at hy
      subst hy
      exact ⟨by decide, by decide⟩)
    (hsv := row_nil _ _ _) (hsl := by decide) (hev := row_nil _ _ _) (hpn := by decide)
    (hkv := by
      have := row_new ((((w.alloc (.cells #[.string bsA, .string bsB] 9)).alloc (.cells #[.string bsF, .slice (some ⟨w.heap.size, 0, none⟩) 2 2] 57)).alloc (.cells #[.string bsX] 9)).alloc (.cells #[.string bsDate, .slice (some ⟨w.heap.size + 2, 0, none⟩) 1 1, .int .i64 3] 59)) 3 1 2 #[.int .i64 5, .int .i64 7] rfl (by decide)
      rw [World.size_alloc, World.size_alloc, World.size_alloc, World.size_alloc] at this
      exact this)
    (hcn := by decide)
  have HN := Lib.hid hN
  have HB := Lib.hid hb0
  have HX := Lib.hid hb0.size
  clear hN hb0
  go_enter Try.func8, Try.ntmps8
  go_wp2_with fail
  refine HN.out.mono ?_
  rintro e w1 ⟨g, n2, rfl, hn2, hM, hB1⟩
  have hL : stdL (fileL [(bsF, Value.slice (some ⟨w.heap.size, 0, none⟩) 2 2, [bsA, bsB])]) [] 2 bsF = some [bsA, bsB] := by
    show putL (putL (fileL _) ⟨#[]⟩ []) ⟨#[45]⟩ [] bsF = _
    rw [putL_ne bsF (by decide), putL_ne bsF (by decide)]
    unfold fileL
    rw [if_pos rfl]
  have hF : cmdF [(bsDate, [bsX], 3)] bsDate = [(bsDate, [bsX], 3)] := by decide
  have hF2 : tailF (cmdF [(bsDate, [bsX], 3)]) bsDate bsDate = [] := by unfold tailF; rw [if_pos rfl, hF]; rfl
  generalize stdL (fileL [(bsF, Value.slice (some ⟨w.heap.size, 0, none⟩) 2 2, [bsA, bsB])]) [] 2 = L at *
  generalize cmdF [(bsDate, [bsX], 3)] = F at *
  have hn2' : n2 ≤ 1 := hn2
  clear hn2 HN
  have hB2 := HB.out.trans (hB1.mono HB.out.size)
  clear hB1 HB
  have HI := mw_input hM bsF (by decide) (by rw [hL]; simp)
  rw [hL] at HI
  simp only [Option.getD_some, Option.isSome_some] at HI
  have HB2 := Lib.hid hB2
  have HM := Lib.hid hM
  have HII := Lib.hid HI
  have HFF := Lib.hid (And.intro hF hF2)
  clear HI hM hB2 hF hF2
  go_wp2_with fail
  refine HII.out.mono ?_
  rintro e w2 ⟨v, rfl, hown, hb2⟩
  obtain ⟨A, c, rfl⟩ := own_shape hown
  have hM2 := HM.out.below hb2
  rw [show [bsA, bsB].length = 2 from rfl]
  have hRun := mw_run hM2 (by simp) bsDate (by decide) (by unfold maxLen; omega) (by rw [HFF.out.1]; simp) (by rw [HFF.out.1]; simp [nextM])
  rw [HFF.out.1] at hRun
  rw [show (nextM [(bsDate, [bsX], 3)]) = (bsDate, [bsX], 3) from rfl] at hRun
  dsimp only at hRun
  rw [show [bsX].length = 1 from rfl] at hRun
  have HRun := Lib.hid hRun
  have HBa := Lib.hid hb2
  clear hRun hM2 hown hb2 HM HII hL
  go_wp2_with fail
  refine HRun.out.mono ?_
  rintro e w3 ⟨v3, rfl, hown3, n3, hn3, hM3, hb3⟩
  obtain ⟨A3, c3, rfl⟩ := own_shape hown3
  have hSys := mw_system hM3 (by simp) bsDate (by decide) (by unfold maxLen; omega) (by rw [HFF.out.2]; simp)
  rw [HFF.out.2, show (nextM []) = (⟨#[]⟩, [], 127) from rfl] at hSys
  dsimp only at hSys
  have HSys := Lib.hid hSys
  have HB3 := Lib.hid hb3
  clear hSys hM3 hown3 hb3 HRun
  go_wp2_with fail
  refine HSys.out.mono ?_
  rintro e w4 ⟨rfl, n4, hn4, hM4, hb4⟩
  have hW := mw_write hM4 (by simp) (by simp) (by decide) (by decide) 3 bsG bs1
  rw [show wrS [] ([] ++ [(9, bsDate, ⟨#[]⟩)] ++ [(10, bsDate, ⟨#[]⟩)]) 0 3 bsG bs1 = (0, [(false, bsG)], [(9, bsDate, ⟨#[]⟩), (10, bsDate, ⟨#[]⟩), (3, bsG, ⟨#[]⟩), (5, bsG, bs1)], 1) from by decide] at hW
  have HW := Lib.hid hW
  have HB4 := Lib.hid hb4
  clear hW hM4 hb4 HSys hn3 hn4 hn2'
  go_wp2_with fail
  refine HW.out.mono ?_
  rintro e w5 ⟨rfl, hM5, hb5⟩
  have hV := mw_write hM5 (by simp) (by simp) (by decide) (by decide) 2 bsG bs2
  rw [show wrS [(false, bsG)] [(9, bsDate, ⟨#[]⟩), (10, bsDate, ⟨#[]⟩), (3, bsG, ⟨#[]⟩), (5, bsG, bs1)] 1 2 bsG bs2 = (0, [(false, bsG)], [(9, bsDate, ⟨#[]⟩), (10, bsDate, ⟨#[]⟩), (3, bsG, ⟨#[]⟩), (5, bsG, bs1), (5, bsG, bs2)], 2) from by decide] at hV
  have HV := Lib.hid hV
  have HB5 := Lib.hid hb5
  clear hV hM5 hb5 HW
  go_wp2_with fail
  refine HV.out.mono ?_
  rintro e w6 ⟨rfl, hM6, hb6⟩
  have hC := mw_close hM6 (by simp) (by simp) bsG
  rw [show (if (keepS [(false, bsG)] bsG).length = [(false, bsG)].length then (-1 : Int) else 0) = 0 from by decide, show keepS [(false, bsG)] bsG = [] from by decide, show shutS (goneS [(false, bsG)] bsG) = [(7, bsG, ⟨#[]⟩)] from by decide] at hC
  have HC := Lib.hid hC
  have HB6 := Lib.hid hb6
  clear hC hM6 hb6 HV
  go_wp2_with fail
  refine HC.out.mono ?_
  rintro e w7 ⟨rfl, hM7, hb7⟩
  have hD := mw_close hM7 (by simp) (by simp) bsG
  rw [show (if (keepS [] bsG).length = ([] : List ST).length then (-1 : Int) else 0) = -1 from by decide, show keepS [] bsG = [] from by decide, show shutS (goneS [] bsG) = [] from by decide] at hD
  have HD := Lib.hid hD
  have HB7 := Lib.hid hb7
  clear hD hM7 hb7 HC
  go_wp2_with fail
  refine HD.out.mono ?_
  rintro e w8 ⟨rfl, hM8, hb8⟩
  have hK := mw_clock hM8 (by decide)
  have HK := Lib.hid hK
  have HB8 := Lib.hid hb8
  clear hK hM8 hb8 HD
  go_wp2_with fail
  refine HK.out.mono ?_
  rintro e w9 ⟨rfl, hM9, hb9⟩
  have hK2 := mw_clock hM9 (by decide)
  have HK2 := Lib.hid hK2
  have HB9 := Lib.hid hb9
  clear hK2 hM9 hb9 HK
  go_wp2_with fail
  refine HK2.out.mono ?_
  rintro e w10 ⟨rfl, hM10, hb10⟩
  have hK3 := mw_clock hM10 (by decide)
  have HK3 := Lib.hid hK3
  have HB10 := Lib.hid hb10
  clear hK3 hM10 hb10 HK2
  go_wp2_with fail
  refine HK3.out.mono ?_
  rintro e w11 ⟨rfl, hM11, hb11⟩
  have hA := mw_acts (ac := [(9, bsDate, ⟨#[]⟩), (10, bsDate, ⟨#[]⟩), (3, bsG, ⟨#[]⟩), (5, bsG, bs1), (5, bsG, bs2), (7, bsG, ⟨#[]⟩)]) hM11 (by simp)
  have HA := Lib.hid hA
  have HB11 := Lib.hid hb11
  clear hA hM11 hb11 HK3
  go_wp2_with fail
  refine HA.out.mono ?_
  rintro e w12 ⟨v12, rfl, hownA, hb12⟩
  obtain ⟨A12, c12, rfl⟩ := own_shape hownA
  have hS := same_any A12 (some ⟨w12.heap.size, 0, none⟩) c12 6 [(9, bsDate, ⟨#[]⟩), (10, bsDate, ⟨#[]⟩), (3, bsG, ⟨#[]⟩), (5, bsG, bs1), (5, bsG, bs2), (7, bsG, ⟨#[]⟩)] [(9, bsDate, ⟨#[]⟩), (10, bsDate, ⟨#[]⟩), (3, bsG, ⟨#[]⟩), (5, bsG, bs1), (5, bsG, bs2), (7, bsG, ⟨#[]⟩)]
    (w12.alloc (.cells #[.int .i64 9, .string bsDate, .string ⟨#[]⟩, .int .i64 10, .string bsDate, .string ⟨#[]⟩, .int .i64 3, .string bsG, .string ⟨#[]⟩, .int .i64 5, .string bsG, .string bs1, .int .i64 5, .string bsG, .string bs2, .int .i64 7, .string bsG, .string ⟨#[]⟩] 39))
    (((RowT.of_own hownA).alloc _).1) ((row_new w12 39 3 6 #[.int .i64 9, .string bsDate, .string ⟨#[]⟩, .int .i64 10, .string bsDate, .string ⟨#[]⟩, .int .i64 3, .string bsG, .string ⟨#[]⟩, .int .i64 5, .string bsG, .string bs1, .int .i64 5, .string bsG, .string bs2, .int .i64 7, .string bsG, .string ⟨#[]⟩] rfl (by decide)).1) (by simp) (by simp)
  rw [decide_eq_true rfl] at hS
  have HS := Lib.hid hS
  have HB12 := Lib.hid hb12
  clear hS hb12 hownA HA
  go_wp2_with fail
  refine HS.out.mono ?_
  rintro e w14 ⟨rfl, hb14⟩
  go_wp2_with fail
  go_ret
  have hx := HX.out
  have t2 := HB2.out.trans (HBa.out.mono HB2.out.size)
  have t3 := t2.trans (HB3.out.mono hx)
  have t4 := t3.trans (HB4.out.mono hx)
  have t5 := t4.trans (HB5.out.mono hx)
  have t6 := t5.trans (HB6.out.mono hx)
  have t7 := t6.trans (HB7.out.mono hx)
  have t8 := t7.trans (HB8.out.mono hx)
  have t9 := t8.trans (HB9.out.mono hx)
  have t10 := t9.trans (HB10.out.mono hx)
  have t11 := t10.trans (HB11.out.mono hx)
  have t12 := t11.trans (HB12.out.mono t11.size)
  have t13 := t12.alloc t12.size (.cells #[.int .i64 9, .string bsDate, .string ⟨#[]⟩, .int .i64 10, .string bsDate, .string ⟨#[]⟩, .int .i64 3, .string bsG, .string ⟨#[]⟩, .int .i64 5, .string bsG, .string bs1, .int .i64 5, .string bsG, .string bs2, .int .i64 7, .string bsG, .string ⟨#[]⟩] 39)
  exact ⟨rfl, t13.trans (hb14.mono t13.size)⟩

end Go.Proofs.Yticinbkgmfoeoaa
