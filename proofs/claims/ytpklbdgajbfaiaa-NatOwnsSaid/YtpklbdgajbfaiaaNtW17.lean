/- A row of bytes turned round, walked. -/
import Derived.Test.YtpklbdgajbfaiaaNtW16
import Derived.Deep.RegionWith
namespace Go.Proofs.Ytpklbdgajbfaiaa
open Go.RowKit
set_option linter.unusedVariables false

/-- After k swaps. -/
def Sw (l p : List Nat) (k : Nat) : Prop := p.length = l.length ∧ ∀ q, q < l.length → p.getD q 0 = if q < k ∨ l.length ≤ q + k then l.getD (l.length - 1 - q) 0 else l.getD q 0
theorem getD_set_eq (l : List Nat) {i : Nat} (x : Nat) (h : i < l.length) : (l.set i x).getD i 0 = x := by
  rw [List.getD_eq_getElem?_getD, List.getElem?_set_self h]; rfl
theorem Sw.step {l p : List Nat} {k j : Nat} (h : Sw l p k) (hj : j + k + 1 = l.length) (hlt : k < j) : Sw l ((p.set k (p.getD j 0)).set j (p.getD k 0)) (k + 1) := by
  refine ⟨by simp [h.1], fun q hq => ?_⟩
  by_cases h1 : q = j
  · subst h1
    rw [getD_set_eq _ _ (by rw [List.length_set, h.1]; omega), if_pos (by omega), h.2 k (by omega), if_neg (by omega)]
    congr 1; omega
  · rw [getD_set_ne _ _ (fun e => h1 e.symm)]
    by_cases h2 : q = k
    · subst h2
      rw [getD_set_eq _ _ (by rw [h.1]; omega), if_pos (by omega), h.2 j (by omega), if_neg (by omega)]
      congr 1; omega
    · rw [getD_set_ne _ _ (fun e => h2 e.symm), h.2 q hq]
      by_cases h3 : q < k ∨ l.length ≤ q + k
      · rw [if_pos h3, if_pos (by omega)]
      · rw [if_neg h3, if_neg (by omega)]
theorem Sw.done {l p : List Nat} {k : Nat} (h : Sw l p k) (hk : l.length ≤ 2 * k + 1) : p = l.reverse := by
  apply List.ext_getElem (by rw [h.1, List.length_reverse])
  intro q h1 h2
  have hq : q < l.length := by rw [← h.1]; exact h1
  have e := h.2 q hq
  rw [List.getD_eq_getElem?_getD, List.getElem?_eq_getElem h1] at e
  have e2 : p[q] = if q < k ∨ l.length ≤ q + k then l.getD (l.length - 1 - q) 0 else l.getD q 0 := e
  rw [e2, List.getElem_reverse]
  have e3 : l.getD (l.length - 1 - q) 0 = l[l.length - 1 - q] := by rw [List.getD_eq_getElem?_getD, List.getElem?_eq_getElem (by omega)]; rfl
  split
  · exact e3
  · rw [← e3]; congr 1; omega

set_option maxRecDepth 20000 in
set_option maxHeartbeats 4000000 in
theorem reverse_any (g ca base : Nat) (l : List Nat) (w : World) (hown : w.ownsRow base 5 1 (.slice (some ⟨g, 0, none⟩) l.length ca) l.length (cellsN .u8 l)) (hl : l.length ≤ 1000000) :
    Calls Try.prog 41 #[.slice (some ⟨g, 0, none⟩) l.length ca] w fun e w' => e = .returned (.tuple #[]) ∧
      w'.ownsRow base 5 1 (.slice (some ⟨g, 0, none⟩) l.length ca) l.length (cellsN .u8 l.reverse) ∧ w.grownBy w' (some g) := by
  go_enter Try.func41, Try.ntmps41
  go_wp2_with fail
  go_loopw [2, 3] (fun v2 v3 wr => ∃ (k : Nat) (p : List Nat), v2 = .int .i64 (k : Int) ∧ v3 = .int .i64 ((l.length : Int) - 1 - (k : Int)) ∧ 2 * k ≤ l.length + 1 ∧ Sw l p k ∧
      wr.ownsRow base 5 1 (.slice (some ⟨g, 0, none⟩) l.length ca) l.length (cellsN .u8 p) ∧ w.grownBy wr (some g))
    (fun v2 _ _ => l.length - (intOf v2).toNat)
  case atStart =>
    refine ⟨0, l, rfl, by go_num, by omega, ⟨rfl, fun q hq => ?_⟩, hown, World.grownBy_refl' w _⟩
    rw [if_neg (by omega)]
  case round =>
    obtain ⟨k, p, rfl, rfl, hk, hsw, hop, hGr⟩ := hrel
    by_cases hlt : (k : Int) < (l.length : Int) - 1 - (k : Int)
    · obtain ⟨j, hj⟩ : ∃ j : Nat, j + k + 1 = l.length := ⟨l.length - 1 - k, by omega⟩
      have hj2 : (l.length : Int) - 1 - (k : Int) = (j : Int) := by omega
      rw [hj2] at hlt ⊢
      have hpl := hsw.1
      have hck : wr.cell? ⟨g, k, none⟩ = some (.int .u8 ((p.getD k 0 : Nat) : Int)) := (hop.cellAt k (by omega)).trans (cellsN_at (by omega))
      have hcj : wr.cell? ⟨g, j, none⟩ = some (.int .u8 ((p.getD j 0 : Nat) : Int)) := (hop.cellAt j (by omega)).trans (cellsN_at (by omega))
      have hfk : wr.frozen? ⟨g, k, none⟩ = false := hop.frozenAt k
      have hfj : wr.frozen? ⟨g, j, none⟩ = false := hop.frozenAt j
      have hst := hsw.step hj (by omega)
      generalize p.getD k 0 = x at *
      generalize p.getD j 0 = y at *
      have hne : k ≠ j := by omega
      have i0 : (0 : Int) ≤ (k : Int) := by omega
      have i1 : (k : Int) < (l.length : Int) := by omega
      have j0 : (0 : Int) ≤ (j : Int) := by omega
      have j1 : (j : Int) < (l.length : Int) := by omega
      have hHJ := Lib.hid hj
      have HX := Lib.hid (And.intro hop (And.intro hst hGr))
      clear hj hj2 hop hst hGr hsw hown
      go_wp2_with fail
      go_region_with (fail)
      all_goals
        obtain ⟨hop, hst, hGr⟩ := HX.out
        have hs1 := hop.stored k (.int .u8 (y : Int))
        rw [cellsN_set] at hs1
        have hs2 := hs1.1.stored j (.int .u8 (x : Int))
        rw [cellsN_set] at hs2
        have hG := (hGr.trans hs1.2).trans hs2.2
        have hj := hHJ.out
        go_wp2_with fail
        go_roundw
        case rel => exact ⟨k + 1, (p.set k y).set j x, by go_num, by go_num, by omega, hst, hs2.1, ⟨hG.os, hG.tape, hG.output, hG.size, hG.block⟩⟩
        case measure => simp [intOf]; omega
    · have HX := Lib.hid (And.intro hop hGr)
      clear hop hGr hown
      go_wp2_with fail
      go_end0
      have hd := hsw.done (by omega)
      subst hd
      exact ⟨rfl, HX.out.1, HX.out.2⟩

end Go.Proofs.Ytpklbdgajbfaiaa
