/- What came in, opened: a name, two texts, a number. -/
import Derived.Test.YtbpaiocbgbpiaaaProg
import Derived.Test.YtbpaiocbgbpiaaaRdW
import Derived.Deep.Strs
import Derived.Lib.SmallJoins
namespace Go.Proofs.Ytbpaiocbgbpiaaa
open Go.ChangeShapes Go.WideShapes Go.RowKit Go.Deep
open Go.Joins (trod_struct4)
set_option linter.unusedVariables false

section
variable {H : Type} {enc : TypeId × Value → H} {W : World} {base : Nat} {spare : Nat → Bool} {held : Bool}
theorem c_str : Try.prog.cellsOf 9 = 1 := by kernel_rfl
theorem c_int : Try.prog.cellsOf 3 = 1 := by kernel_rfl
theorem sized_str {P : Program} {t : TypeId} {s : ByteArray} (h : Sized (H := H) P t (.lit (.string s.data.toList))) : s.size ≤ 140737488351232 := by
  have := h s.data.toList.length (by simp [DataW.weights])
  unfold reachBytes at this
  have e : s.data.toList.length = s.size := rfl
  omega
theorem open_hidden {fuel : Nat} {a b c d : Value} {x : DataW H × List MemPlace} (h : DataW.trod enc Try.prog W base spare held fuel 45 [a, b, c, d] = some x) (hz : Sized Try.prog 45 x.1) :
    ∃ (s t u : ByteArray) (k : Int), a = .string s ∧ b = .string t ∧ c = .string u ∧ d = .int .i64 k ∧ s.size ≤ maxLen ∧ t.size ≤ 140737488351232 ∧ u.size ≤ 140737488351232 := by
  obtain ⟨y0, y1, y2, y3, m, rfl, _, h0, h1, h2, h3⟩ := trod_struct4 Try.underlying45 h
  simp only [c_str, c_int, List.drop_zero, List.drop_succ_cons, List.take_succ_cons, List.take_zero] at h0 h1 h2 h3
  obtain ⟨s, e0, rfl, ws⟩ := DataW.trod_string Try.underlying9 h0
  obtain ⟨t, e1, rfl, wt⟩ := DataW.trod_string Try.underlying9 h1
  obtain ⟨u, e2, rfl, wu⟩ := DataW.trod_string Try.underlying9 h2
  obtain ⟨k, e3, rfl, wk⟩ := DataW.trod_int Try.underlying3 h3
  simp only [List.cons.injEq, and_true] at e0 e1 e2 e3
  exact ⟨s, t, u, k, e0, e1, e2, e3, ws, sized_str (hz.field Try.underlying45 1 rfl rfl), sized_str (hz.field Try.underlying45 2 rfl rfl)⟩
end
end Go.Proofs.Ytbpaiocbgbpiaaa
