/- Division of any two naturals; how a read slice lasts; a row of words as limbs. -/
import Derived.Test.YtpklbdgajbfaiaaNtW23
namespace Go.Proofs.Ytpklbdgajbfaiaa
open Go.RowKit
set_option linter.unusedVariables false

theorem Rw.go {k : IntKind} {w w' : World} {A : Option Addr} {l : List Nat} (h : Rw k w w.heap.size A l) (hb : Below w.heap.size w w') : Rw k w' w'.heap.size A l := (h.below hb).more hb.size
theorem dec_fit {x : Nat} (h : (dg 4294967296 x).length ≤ 256) : (dg 10000 x).length ≤ 768 := by
  have := dec_len (dg_lo (b := 4294967296) (by omega) x)
  rw [vb_dg (by omega)] at this
  omega
theorem ndiv_any (A : Option Addr) (c B x : Nat) (A2 : Option Addr) (c2 y : Nat) (w : World) (hr : Rw .u32 w B A (dg 4294967296 x)) (hr2 : Rw .u32 w B A2 (dg 4294967296 y)) (hB0 : B ≤ w.heap.size)
    (hxl : (dg 4294967296 x).length ≤ 256) (hyl : (dg 4294967296 y).length ≤ 256) (hy : (dg 4294967296 y).length ≠ 0) (hA : A = none → (dg 4294967296 x).length = 0 ∧ c = 0) :
    Calls Try.prog 13 #[.slice A (dg 4294967296 x).length c, .slice A2 (dg 4294967296 y).length c2] w (DivAns w (x / y) (x % y)) := by
  by_cases h : (dg 4294967296 y).length = 1
  · exact ndiv_short A c B x A2 c2 y w hr hr2 hB0 hxl h hA
  · exact ndiv_long A c B x A2 c2 y w hr hr2 hB0 hxl hyl (by omega)
theorem of_dg (A : Option Addr) (c x : Nat) (w : World) (hr : Rw .u32 w w.heap.size A (dg 4294967296 x)) (hl : (dg 4294967296 x).length ≤ 10000) :
    Calls Try.prog 17 #[.slice A (dg 4294967296 x).length c] w (NumIs x w) := by
  have h := of_any A c w.heap.size _ w hr (Nat.le_refl _) (dg_lo (by omega) x) hl
  rw [vb_dg (by omega)] at h
  exact h
theorem rvalid_dg (A : Option Addr) (c x : Nat) (w : World) (hr : Rw .u32 w w.heap.size A (dg 4294967296 x)) (hl : (dg 4294967296 x).length ≤ 256) :
    Calls Try.prog 16 #[.slice A (dg 4294967296 x).length c] w fun e w' => e = .returned (.bool true) ∧ w = w' := by
  have h := rvalid_any A c w.heap.size _ w hr (by unfold maxLen; omega)
  rw [okL_of hl (dg_top (by omega) x)] at h
  exact h
/-- A row of words, read as limbs. -/
theorem row_limbs {w : World} {a : Option Addr} {len cap : Nat} {zs : List Int} (h : IsRow .u32 w a len cap zs) :
    ∃ l : List Nat, l.length = len ∧ Lo 4294967296 l ∧ Rw .u32 w w.heap.size a l ∧ (a = none → l.length = 0 ∧ cap = 0) ∧ len ≤ cap ∧ cap ≤ maxLen := by
  have hA : a = none → len = 0 ∧ cap = 0 := by
    intro ha
    rcases h with ⟨_, h1, h2, _⟩ | ⟨x, rfl, _⟩
    · exact ⟨h1, h2⟩
    · cases ha
  obtain ⟨⟨hl, hw, hc⟩, h1, h2, h3⟩ := h.row
  have hwz : ∀ z ∈ zs.take len, 0 ≤ z ∧ z < 4294967296 := fun z hz => wf_u32_bounds (hw z hz)
  refine ⟨(zs.take len).map Int.toNat, by rw [List.length_map]; exact hl, ?_, ?_, fun ha => by rw [List.length_map, hl]; exact hA ha, h2, h3⟩
  · intro x hx
    obtain ⟨z, hz, rfl⟩ := List.mem_map.1 hx
    have := hwz z hz
    omega
  · intro hp
    rw [List.length_map, hl] at hp
    obtain ⟨b, off, e, hb, hcj⟩ := hc hp
    refine ⟨b, off, e, hb, fun j hj => ?_⟩
    rw [List.length_map, hl] at hj
    rw [hcj j hj]
    have hj2 : j < (zs.take len).length := by omega
    have hz := hwz _ (List.getElem_mem hj2)
    rw [List.getD_eq_getElem?_getD, List.getD_eq_getElem?_getD, List.getElem?_map, List.getElem?_eq_getElem hj2]
    simp only [Option.map_some, Option.getD_some]
    rw [Int.toNat_of_nonneg hz.1]

end Go.Proofs.Ytpklbdgajbfaiaa
