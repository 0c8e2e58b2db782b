/- What New leaves, as a world. -/
import Derived.Test.YticinbkgmfoeoaaWdWB
namespace Go.Proofs.Yticinbkgmfoeoaa
open Go.RowKit
set_option linter.unusedVariables false

section
variable {w W W' : World} {B0 : Nat} {scr : Array Value} {np : Nat} {ps : List Value} {nc : Nat} {cs : List Value} {m1 m2 g : Nat} {v16 v19 : Value} {k1 k2 : Nat} {files cmds : ByteArray → Option Value} {L : ByteArray → Option (List ByteArray)} {F : ByteArray → List CM}
theorem NewSt.pw (h : NewSt w B0 scr np ps nc cs m1 m2 g v16 v19 k1 k2 files cmds L W) : PW w.heap.size W g m1 m2 k1 k2 v16 v19 (.slice none 0 0) (.slice none 0 0) files cmds [] [] 0 :=
  ⟨h.hd, h.f, h.c, h.ne, .inl (own_nil _ _ _ _), own_nil _ _ _ _⟩
/-- A file's chunks, as they lie. -/
theorem Holds.row (h : Holds W files L) (nm : ByteArray) : RowT W 9 1 ((files nm).getD (.slice none 0 0)) ((L nm).getD []).length (((L nm).getD []).map Value.string) ∧ (files nm).isSome = (L nm).isSome := by
  cases e : L nm with
  | some l =>
    obtain ⟨v, h1, h2⟩ := (h nm).1 l e
    rw [h1]
    exact ⟨h2, rfl⟩
  | none =>
    rw [(h nm).2 e]
    exact ⟨RowT.of_own (base := 0) (own_nil _ _ _ _), rfl⟩
/-- A line's commands, as they lie. -/
theorem CmdsHold.at {lo : Nat} (h : CmdsHold lo W cmds F) (nm : ByteArray) : ∃ l, AreCmds W l (F nm) ∧ CmdAt W cmds nm l := by
  obtain ⟨l, h1, h2⟩ := h.each nm
  exact ⟨l, h1, RowT.of_own h2⟩
theorem AreCmds.shape {l : List CT} {X : List CM} (h : AreCmds W l X) : ∀ x ∈ l, ∃ y1 y2 y3, x.2.1 = .slice y1 y2 y3 := by
  intro x hx
  obtain ⟨i, hi, rfl⟩ := List.getElem_of_mem hx
  have hi2 : i < X.length := by rw [← h.1]; exact hi
  obtain ⟨_, _, h3⟩ := h.2 i l[i] X[i] (List.getElem?_eq_getElem hi) (List.getElem?_eq_getElem hi2)
  obtain ⟨_, A, c, e, _⟩ := h3.1
  exact ⟨A, _, c, e⟩
/-- The next command is the next that is meant. -/
def nextM : List CM → CM
  | [] => (⟨#[]⟩, [], 127)
  | x :: _ => x
theorem AreCmds.next {l : List CT} {X : List CM} (h : AreCmds W l X) : CmdIs W (nextR l) (nextM X) ∧ AreCmds W l.tail X.tail := by
  cases l with
  | nil =>
    cases X with
    | nil => exact ⟨⟨rfl, rfl, RowT.of_own (base := 0) (own_nil _ _ _ _)⟩, h⟩
    | cons y X => have := h.1; simp at this
  | cons x l =>
    cases X with
    | nil => have := h.1; simp at this
    | cons y X => exact ⟨h.2 0 x y rfl rfl, by have := h.1; simpa using this, fun i a b ha hb => h.2 (i + 1) a b (by simpa using ha) (by simpa using hb)⟩
theorem AreCmds.below {l : List CT} {X : List CM} (h : AreCmds W l X) (hb : Below W.heap.size W W') : AreCmds W' l X := h.same hb.size (fun j cs hc => hb.block j (Array.getElem?_eq_some_iff.1 hc).1)
/-- The chunks stand through what the world's own methods do. -/
theorem CmdIs.goes {lo : Nat} {b1 b2 n1 n2 : Nat} {env clock vo va vo' va' : Value} {op : List ST} {ac : List AT} {size : Int} {x : CT} {y : CM} (h : CmdIs W x y) (hp : PW lo W g b1 b2 n1 n2 env clock vo va files cmds op ac size) (hg : Goes W g b2 vo va W' vo' va') : CmdIs W' x y :=
  ⟨h.1, h.2.1, RowT.goes (e := 9) h.2.2 hp hg (by decide)⟩
theorem AreCmds.goes {lo : Nat} {b1 b2 n1 n2 : Nat} {env clock vo va vo' va' : Value} {op : List ST} {ac : List AT} {size : Int} {l : List CT} {X : List CM} (h : AreCmds W l X) (hp : PW lo W g b1 b2 n1 n2 env clock vo va files cmds op ac size) (hg : Goes W g b2 vo va W' vo' va') : AreCmds W' l X :=
  ⟨h.1, fun i x y hx hy => (h.2 i x y hx hy).goes hp hg⟩
end

end Go.Proofs.Yticinbkgmfoeoaa
