/- A command, run, and waited for: walked. -/
import Derived.Test.YticinbkgmfoeoaaWdW7
namespace Go.Proofs.Yticinbkgmfoeoaa
open Go.RowKit
set_option linter.unusedVariables false

section
variable {lo : Nat} {w w' : World} {g b1 b2 n1 n2 : Nat} {env clock vo va : Value} {files cmds : ByteArray → Option Value} {op : List ST} {ac : List AT} {size : Int}
/-- What a line's commands are, as they lie. -/
def CmdAt (w : World) (cmds : ByteArray → Option Value) (nm : ByteArray) (l : List CT) : Prop := RowT w 59 3 ((cmds nm).getD (.slice none 0 0)) l.length (l.flatMap cmdC)
def nextR : List CT → CT
  | [] => (⟨#[]⟩, .slice none 0 0, 127)
  | x :: _ => x
theorem next_any (h : PW lo w g b1 b2 n1 n2 env clock vo va files cmds op ac size) (nm : ByteArray) (hs : nm.size ≤ maxLen) (hn2 : n2 < maxLen) (l : List CT) (hl : CmdAt w cmds nm l) (hln : l.length ≤ 2932031007402) (hy : ∀ x ∈ l, ∃ y1 y2 y3, x.2.1 = .slice y1 y2 y3) :
    Calls Try.prog 41 #[.pointer (some ⟨g, 0, none⟩), .string nm] w fun e w' => e = .returned (.agg (cmdC (nextR l)).toArray) ∧ ∃ cmds' n2', PW lo w' g b1 b2 n1 n2' env clock vo va files cmds' op ac size ∧ n2' ≤ n2 + 1 ∧ Goes w g b2 vo va w' vo va ∧ CmdAt w' cmds' nm l.tail ∧ ∀ t, t ≠ nm → cmds' t = cmds t := by
  cases l with
  | nil =>
    obtain ⟨_, A, c, hv, _⟩ := hl.1
    refine (next_none h nm hs A c hv).mono ?_
    rintro e w' ⟨rfl, hb⟩
    exact ⟨rfl, cmds, n2, h.below hb, Nat.le_succ _, Goes.of_below hb, hl.below hb, fun t _ => rfl⟩
  | cons x l =>
    obtain ⟨y1, y2, y3, hxy⟩ := hy x (by simp)
    have hl' := hl
    unfold CmdAt at hl
    cases hc : cmds nm with
    | none =>
      rw [hc] at hl
      obtain ⟨_, A, c, hv, hA, _⟩ := hl.1
      simp only [Option.getD_none] at hv
      injection hv with e1 e2 _
      simp at e2
    | some v =>
      rw [hc] at hl
      refine (next_some h nm hs hn2 x l v hc hl (by simp at hln; omega) y1 y2 y3 hxy).mono ?_
      rintro e w' ⟨rfl, v', n2', h1, h2, h3, h4⟩
      refine ⟨rfl, _, n2', h1, h2, h3, ?_, fun t ht => upd_ne ht⟩
      unfold CmdAt
      rw [upd_same]
      exact h4
set_option maxHeartbeats 4000000 in
theorem run_any (h : PW lo w g b1 b2 n1 n2 env clock vo va files cmds op ac size) (hlo : lo ≤ w.heap.size) (hn : ac.length ≤ 100000) (nm : ByteArray) (hs : nm.size ≤ maxLen) (hn2 : n2 < maxLen) (l : List CT) (hl : CmdAt w cmds nm l) (hln : l.length ≤ 2932031007402) (hy : ∀ x ∈ l, ∃ y1 y2 y3, x.2.1 = .slice y1 y2 y3)
    (ch : List ByteArray) (hch : RowT w 9 1 (nextR l).2.1 ch.length (ch.map Value.string)) (hcn : ch.length ≤ 8796093022208) :
    Calls Try.prog 24 #[.pointer (some ⟨g, 0, none⟩), .string nm] w fun e w' => ∃ v, e = .returned (.tuple #[v, .int .i64 (nextR l).2.2]) ∧ w'.ownsRow w.heap.size 9 1 v ch.length (ch.map Value.string) ∧
      ∃ cmds' n2' vo' va', PW lo w' g b1 b2 n1 n2' env clock vo' va' files cmds' op (ac ++ [(9, nm, ⟨#[]⟩)]) size ∧ n2' ≤ n2 + 1 ∧ Goes w g b2 vo va w' vo' va' ∧ CmdAt w' cmds' nm l.tail ∧ ∀ t, t ≠ nm → cmds' t = cmds t := by
  have HD := Lib.hid (do_stand h hlo (by omega) 9 nm ⟨#[]⟩)
  have HN := Lib.hid (fun (w1 : World) (vo1 va1 : Value) (h1 : PW lo w1 g b1 b2 n1 n2 env clock vo1 va1 files cmds op (ac ++ [(9, nm, ⟨#[]⟩)]) size) (g1 : Goes w g b2 vo va w1 vo1 va1) => next_any h1 nm hs hn2 l (RowT.goes (e := 59) hl h g1 (by decide)) hln hy)
  have HR := Lib.hid (fun (w1 : World) (vo1 va1 : Value) (g1 : Goes w g b2 vo va w1 vo1 va1) => RowT.goes (e := 9) hch h g1 (by decide))
  generalize nextR l = X at *
  obtain ⟨x1, x2, x3⟩ := X
  dsimp only at hch HR
  obtain ⟨_, A, c, rfl, _⟩ := hch.1
  clear h hl hch hln hy
  go_enter Try.func24, Try.ntmps24
  go_wp2_with fail
  refine HD.out.mono ?_
  rintro e w1 ⟨rfl, vo1, va1, h1, g1⟩
  go_wp2_with fail
  refine (HN.out w1 vo1 va1 h1 g1).mono ?_
  rintro e w2 ⟨rfl, cmds', n2', h2, k2, g2, m2, u2⟩
  have G := g1.trans g2
  have HRc := (HR.out w2 vo1 va1 G)
  have hb3 : Below w2.heap.size w2 (w2.alloc (.cells #[.string x1, .slice A ch.length c, .int .i64 x3] 59)) := (Below.refl _ w2).alloc (Nat.le_refl _) _
  have HC := Lib.hid (clone_str (.slice A ch.length c) ch.length (ch.map Value.string) (w2.alloc (.cells #[.string x1, .slice A ch.length c, .int .i64 x3] 59)).drew (((HRc.below hb3).same (w' := (w2.alloc (.cells #[.string x1, .slice A ch.length c, .int .i64 x3] 59)).drew) (Nat.le_refl _) (fun _ _ _ => rfl)).1) hcn (str_one ch))
  have hsg := G.1.size
  have H2 := Lib.hid (And.intro h2 (And.intro k2 (And.intro G (And.intro m2 (And.intro u2 hb3)))))
  have hcells : (w2.alloc (.cells #[.string x1, .slice A ch.length c, .int .i64 x3] 59)).cell? ⟨w2.heap.size, 1, none⟩ = some (.slice A ch.length c) ∧ (w2.alloc (.cells #[.string x1, .slice A ch.length c, .int .i64 x3] 59)).cell? ⟨w2.heap.size, 2, none⟩ = some (.int .i64 x3) := ⟨by simp, by simp⟩
  clear h1 g1 h2 k2 g2 m2 u2 G HRc hb3
  simp only [cmdC]
  go_wp2_with fail
  generalize w2.alloc (.cells #[.string x1, .slice A ch.length c, .int .i64 x3] 59) = w3 at *
  obtain ⟨d1, d2⟩ := hcells
  go_region_with (go_at_call 29; refine HC.out.mono ?_; rintro e wx ⟨v, rfl, hown, hbx⟩; have d2' := (hbx.cell (lt_of_cell (w := w3.drew) d2)).trans d2; obtain ⟨A', c', rfl⟩ := own_shape hown)
  all_goals
    go_wp2_with fail
    go_ret2
    obtain ⟨h2, k2, G, m2, u2, hb3⟩ := H2.out
    have hB : Below w2.heap.size w2 wx := ((hb3.drew).trans (hbx.mono hb3.size))
    exact ⟨_, rfl, own_more hown (Nat.le_trans hsg hb3.size), cmds', n2', vo1, va1, h2.below hB, k2, G.trans (Goes.of_below hB), RowT.below m2 hB, u2⟩
theorem field_cmd (x1 : ByteArray) (x2 : Value) (x3 : Int) (w : World) : (Instr.field 59 (.agg #[.string x1, x2, .int .i64 x3]) 2).run Try.prog w = .ok (.int .i64 x3) w := by kernel_rfl
set_option maxHeartbeats 4000000 in
theorem system_any (h : PW lo w g b1 b2 n1 n2 env clock vo va files cmds op ac size) (hlo : lo ≤ w.heap.size) (hn : ac.length ≤ 100000) (nm : ByteArray) (hs : nm.size ≤ maxLen) (hn2 : n2 < maxLen) (l : List CT) (hl : CmdAt w cmds nm l) (hln : l.length ≤ 2932031007402) (hy : ∀ x ∈ l, ∃ y1 y2 y3, x.2.1 = .slice y1 y2 y3) :
    Calls Try.prog 26 #[.pointer (some ⟨g, 0, none⟩), .string nm] w fun e w' => e = .returned (.int .i64 (nextR l).2.2) ∧
      ∃ cmds' n2' vo' va', PW lo w' g b1 b2 n1 n2' env clock vo' va' files cmds' op (ac ++ [(10, nm, ⟨#[]⟩)]) size ∧ n2' ≤ n2 + 1 ∧ Goes w g b2 vo va w' vo' va' ∧ CmdAt w' cmds' nm l.tail ∧ ∀ t, t ≠ nm → cmds' t = cmds t := by
  have HD := Lib.hid (do_stand h hlo (by omega) 10 nm ⟨#[]⟩)
  have HN := Lib.hid (fun (w1 : World) (vo1 va1 : Value) (h1 : PW lo w1 g b1 b2 n1 n2 env clock vo1 va1 files cmds op (ac ++ [(10, nm, ⟨#[]⟩)]) size) (g1 : Goes w g b2 vo va w1 vo1 va1) => next_any h1 nm hs hn2 l (RowT.goes (e := 59) hl h g1 (by decide)) hln hy)
  have hsh : ∃ y1 y2 y3, (nextR l).2.1 = .slice y1 y2 y3 := by
    cases l with
    | nil => exact ⟨_, _, _, rfl⟩
    | cons x l => exact hy x (by simp)
  generalize nextR l = X at *
  obtain ⟨x1, x2, x3⟩ := X
  obtain ⟨y1, y2, y3, hsh⟩ := hsh
  dsimp only at hsh
  subst hsh
  clear h hl hln hy
  go_enter Try.func26, Try.ntmps26
  go_wp2_with fail
  refine HD.out.mono ?_
  rintro e w1 ⟨rfl, vo1, va1, h1, g1⟩
  go_wp2_with fail
  refine (HN.out w1 vo1 va1 h1 g1).mono ?_
  rintro e w2 ⟨rfl, cmds', n2', h2, k2, g2, m2, u2⟩
  have G := g1.trans g2
  have H2 := Lib.hid (And.intro h2 (And.intro k2 (And.intro G (And.intro m2 u2))))
  clear h1 g1 h2 k2 g2 m2 u2 G
  have hfl := field_cmd x1 (.slice y1 y2 y3) x3 w2
  simp only [cmdC]
  go_wp2_with fail
  go_ret
  obtain ⟨h2, k2, G, m2, u2⟩ := H2.out
  exact ⟨rfl, cmds', n2', vo1, va1, h2, k2, G, m2, u2⟩
end

end Go.Proofs.Yticinbkgmfoeoaa
