/- The world, told by what it means, beside blocks that are not its own: every method's contract. -/
import Derived.Test.YticinbkgmfoeoaaWdWD
namespace Go.Proofs.Yticinbkgmfoeoaa
open Go.RowKit
set_option linter.unusedVariables false

section
variable {lo : Nat} {w w' : World} {g b1 b2 n1 n2 n1' n2' : Nat} {env clock vo va vo' va' : Value} {files cmds : ByteArray → Option Value} {op op' : List ST} {ac ac' : List AT} {size size' : Int}
  {E : List (ByteArray × ByteArray)} {L : ByteArray → Option (List ByteArray)} {F F' : ByteArray → List CM} {K K' : List Int} {D D' : Nat → Prop}
/-- Blocks that are none of the world's own. -/
def Aside (D : Nat → Prop) (w : World) (g b1 b2 : Nat) (vo va : Value) : Prop := ∀ j, D j → j < w.heap.size ∧ j ≠ g ∧ j ≠ b1 ∧ j ≠ b2 ∧ vo.ownBlock ≠ some j ∧ va.ownBlock ≠ some j
/-- They stand as they stood. -/
def Stood (D : Nat → Prop) (w w' : World) : Prop := ∀ j, D j → w'.heap[j]? = w.heap[j]?
theorem Stood.trans {a b c : World} (h : Stood D a b) (k : Stood D b c) : Stood D a c := fun j hj => (k j hj).trans (h j hj)
theorem Stood.mono (h : Stood D w w') (hD : ∀ j, D' j → D j) : Stood D' w w' := fun j hj => h j (hD j hj)
theorem Stood.cell (h : Stood D w w') {p : Addr} (hp : D p.block) {v : Value} (hc : w.cell? p = some v) : w'.cell? p = some v := (World.cell?_of_block (h p.block hp)).trans hc
theorem Stood.below (h : Below w.heap.size w w') (hD : ∀ j, D j → j < w.heap.size) : Stood D w w' := fun j hj => h.block j (hD j hj)
theorem Aside.goes (h : Aside D w g b1 b2 vo va) (hg : Goes w g b2 vo va w' vo' va') : Aside D w' g b1 b2 vo' va' ∧ Stood D w w' := by
  refine ⟨fun j hj => ?_, fun j hj => ?_⟩
  · obtain ⟨h1, h2, h3, h4, h5, h6⟩ := h j hj
    refine ⟨Nat.lt_of_lt_of_le h1 hg.1.size, h2, h3, h4, fun e => ?_, fun e => ?_⟩
    · rcases hg.2 j (.inl e) with (z | z) | z
      · exact h5 z
      · exact h6 z
      · omega
    · rcases hg.2 j (.inr e) with (z | z) | z
      · exact h5 z
      · exact h6 z
      · omega
  · obtain ⟨h1, h2, h3, h4, h5, h6⟩ := h j hj
    refine hg.1.block j h1 (fun x => ?_)
    rcases x with x | x | x | x
    · exact h2 x
    · exact h4 x
    · exact h5 x
    · exact h6 x
/-- A world of the program that means this, and these blocks are none of its own. -/
def MWD (D : Nat → Prop) (lo : Nat) (g n2 : Nat) (E : List (ByteArray × ByteArray)) (L : ByteArray → Option (List ByteArray)) (F : ByteArray → List CM) (K : List Int) (op : List ST) (ac : List AT) (size : Int) (w : World) : Prop :=
  ∃ b1 b2 n1 env clock vo va files cmds, PW lo w g b1 b2 n1 n2 env clock vo va files cmds op ac size ∧ Rest lo w g b2 env clock files cmds E L F K ∧ Aside D w g b1 b2 vo va
theorem MW.d (h : MW lo g n2 E L F K op ac size w) : MWD (fun _ => False) lo g n2 E L F K op ac size w := by
  obtain ⟨b1, b2, n1, env, clock, vo, va, files, cmds, hp, hr⟩ := h
  exact ⟨b1, b2, n1, env, clock, vo, va, files, cmds, hp, hr, fun j hj => hj.elim⟩
theorem MWD.m (h : MWD D lo g n2 E L F K op ac size w) : MW lo g n2 E L F K op ac size w := by
  obtain ⟨b1, b2, n1, env, clock, vo, va, files, cmds, hp, hr, _⟩ := h
  exact ⟨b1, b2, n1, env, clock, vo, va, files, cmds, hp, hr⟩
theorem MWD.le (h : MWD D lo g n2 E L F K op ac size w) : lo ≤ w.heap.size := h.m.le
theorem PW.lts (h : PW lo w g b1 b2 n1 n2 env clock vo va files cmds op ac size) {j : Nat} (hj : w.heap.size ≤ j) : j ≠ g ∧ j ≠ b1 ∧ j ≠ b2 ∧ vo.ownBlock ≠ some j ∧ va.ownBlock ≠ some j := by
  refine ⟨?_, ?_, ?_, ?_, ?_⟩
  · have := h.glt; omega
  · have := h.f.lt; omega
  · have := h.c.lt; omega
  · intro e; have := (h.o.lt e).2; omega
  · intro e; have := (h.a.lt j e).2; omega
/-- Other blocks come. -/
theorem MWD.below (h : MWD D lo g n2 E L F K op ac size w) (hb : Below w.heap.size w w') (hD : ∀ j, D' j → j < w'.heap.size ∧ (D j ∨ w.heap.size ≤ j)) : MWD D' lo g n2 E L F K op ac size w' := by
  obtain ⟨b1, b2, n1, env, clock, vo, va, files, cmds, hp, hr, hs⟩ := h
  refine ⟨b1, b2, n1, env, clock, vo, va, files, cmds, hp.below hb, hr.goes hp (Goes.of_below hb), fun j hj => ?_⟩
  rcases (hD j hj).2 with h | h
  · exact ⟨(hD j hj).1, (hs j h).2⟩
  · exact ⟨(hD j hj).1, hp.lts h⟩
/-- One of the other blocks, of another kind, turns. -/
theorem MWD.turn (h : MWD D lo g n2 E L F K op ac size w) {m : Nat} {cs : Array Value} {e : TypeId} (hm : w.heap[m]? = some (Obj.cells cs e (0, 0))) (he : e ≠ 9 ∧ e ≠ 59 ∧ e ≠ 3 ∧ e ≠ 61) (hDm : D m)
    (ht : Turn w w' (fun j => j = m)) (hD : ∀ j, D' j → j < w'.heap.size ∧ (D j ∨ w.heap.size ≤ j)) : MWD D' lo g n2 E L F K op ac size w' := by
  obtain ⟨b1, b2, n1, env, clock, vo, va, files, cmds, hp, hr, hs⟩ := h
  obtain ⟨_, m1, m2, m3, m4, m5⟩ := hs m hDm
  have hk : ∀ (e' : TypeId), e ≠ e' → ∀ (j : Nat) (cs : Array Value), w.heap[j]? = some (Obj.cells cs e' (0, 0)) → w'.heap[j]? = w.heap[j]? := fun e' hne j cs' hc => by
    refine ht.block j (Array.getElem?_eq_some_iff.1 hc).1 (fun x => ?_)
    subst x
    rw [hm] at hc
    simp at hc
    exact hne hc.2
  refine ⟨b1, b2, n1, env, clock, vo, va, files, cmds, hp.turn ht (fun x => m1 x.symm) (fun x => m2 x.symm) (fun x => m3 x.symm) (fun j hj x => m4 (by rw [← x]; exact hj)) (fun j hj x => m5 (by rw [← x]; exact hj)), ⟨Nat.le_trans hr.le ht.size, hr.lg, hr.lb, hr.holds.same ht.size (hk _ he.1), fun nm => ?_, hr.clk.same ht.size (hk _ he.2.2.1), hr.evr.same ht.size (hk _ he.2.2.2)⟩, fun j hj => ?_⟩
  · obtain ⟨l, h1, h2⟩ := hr.rows nm
    exact ⟨l, h1.same ht.size (hk _ he.1), h2.same ht.size (hk _ he.2.1)⟩
  · rcases (hD j hj).2 with h | h
    · exact ⟨(hD j hj).1, (hs j h).2⟩
    · exact ⟨(hD j hj).1, hp.lts h⟩
theorem MWD.of_stand (hs : Aside D w g b1 b2 vo va) (hp : PW lo w g b1 b2 n1 n2 env clock vo va files cmds op ac size) (hr : Rest lo w g b2 env clock files cmds E L F K) (h : Stand lo w g b1 b2 n1' n2' env clock vo va files cmds op' ac' size' w') : MWD D lo g n2' E L F K op' ac' size' w' ∧ Below lo w w' ∧ Stood D w w' := by
  obtain ⟨vo', va', h1, h2⟩ := h
  obtain ⟨a1, a2⟩ := hs.goes h2
  exact ⟨⟨b1, b2, n1', env, clock, vo', va', files, cmds, h1, hr.goes hp h2, a1⟩, goes_below hp h2 hr.le hr.lg hr.lb, a2⟩
theorem mwd_write (h : MWD D lo g n2 E L F K op ac size w) (hn : ac.length ≤ 100000) (hon : op.length ≤ 8) (hs0 : 0 ≤ size) (hs1 : size ≤ 16384) (to : Int) (nm dt : ByteArray) :
    Calls Try.prog 10 #[.pointer (some ⟨g, 0, none⟩), .int .i64 to, .string nm, .string dt] w fun e w' => e = .returned (.int .i64 (wrS op ac size to nm dt).1) ∧ MWD D lo g n2 E L F K (wrS op ac size to nm dt).2.1 (wrS op ac size to nm dt).2.2.1 (wrS op ac size to nm dt).2.2.2 w' ∧ Below lo w w' ∧ Stood D w w' := by
  obtain ⟨b1, b2, n1, env, clock, vo, va, files, cmds, hp, hr, hs⟩ := h
  exact (write_any hp hr.le hn hon hs0 hs1 to nm dt).mono fun e w' ⟨h1, h2⟩ => ⟨h1, MWD.of_stand hs hp hr h2⟩
theorem mwd_close (h : MWD D lo g n2 E L F K op ac size w) (hn : ac.length ≤ 100000) (hon : op.length ≤ 8) (nm : ByteArray) :
    Calls Try.prog 12 #[.pointer (some ⟨g, 0, none⟩), .string nm] w fun e w' => e = .returned (.int .i64 (if (keepS op nm).length = op.length then -1 else 0)) ∧ MWD D lo g n2 E L F K (keepS op nm) (ac ++ shutS (goneS op nm)) size w' ∧ Below lo w w' ∧ Stood D w w' := by
  obtain ⟨b1, b2, n1, env, clock, vo, va, files, cmds, hp, hr, hs⟩ := h
  exact (close_any hp hr.le hn hon nm).mono fun e w' ⟨h1, h2⟩ => ⟨h1, MWD.of_stand hs hp hr h2⟩
theorem mwd_end (h : MWD D lo g n2 E L F K op ac size w) (hn : ac.length ≤ 100000) (hon : op.length ≤ 8) :
    Calls Try.prog 13 #[.pointer (some ⟨g, 0, none⟩)] w fun e w' => e = .returned (.tuple #[]) ∧ MWD D lo g n2 E L F K [] (ac ++ shutS op) size w' ∧ Below lo w w' ∧ Stood D w w' := by
  obtain ⟨b1, b2, n1, env, clock, vo, va, files, cmds, hp, hr, hs⟩ := h
  exact (end_any hp hr.le hn hon).mono fun e w' ⟨h1, h2⟩ => ⟨h1, MWD.of_stand hs hp hr h2⟩
theorem mwd_run (h : MWD D lo g n2 E L F K op ac size w) (hn : ac.length ≤ 100000) (nm : ByteArray) (hsz : nm.size ≤ maxLen) (hn2 : n2 < maxLen) (hln : (F nm).length ≤ 2932031007402) (hcn : (nextM (F nm)).2.1.length ≤ 8796093022208) :
    Calls Try.prog 24 #[.pointer (some ⟨g, 0, none⟩), .string nm] w fun e w' => ∃ v, e = .returned (.tuple #[v, .int .i64 (nextM (F nm)).2.2]) ∧ w'.ownsRow w.heap.size 9 1 v (nextM (F nm)).2.1.length ((nextM (F nm)).2.1.map Value.string) ∧
      ∃ n2', n2' ≤ n2 + 1 ∧ MWD D lo g n2' E L (tailF F nm) K op (ac ++ [(9, nm, ⟨#[]⟩)]) size w' ∧ Below lo w w' ∧ Stood D w w' := by
  obtain ⟨b1, b2, n1, env, clock, vo, va, files, cmds, hp, hr, hs⟩ := h
  obtain ⟨l, h1, h2⟩ := hr.rows nm
  obtain ⟨k1, k2, k3⟩ := h1.next.1
  rw [← k2]
  refine (run_any hp hr.le hn nm hsz hn2 l h2 (by rw [h1.1]; exact hln) h1.shape _ k3 hcn).mono ?_
  rintro e w' ⟨v, e1, e2, cmds', n2', vo', va', e3, e4, e5, e6, e7⟩
  obtain ⟨a1, a2⟩ := hs.goes e5
  exact ⟨v, e1, e2, n2', e4, ⟨b1, b2, n1, env, clock, vo', va', files, cmds', e3, hr.next hp e5 nm h1 e6 e7, a1⟩, goes_below hp e5 hr.le hr.lg hr.lb, a2⟩
theorem mwd_system (h : MWD D lo g n2 E L F K op ac size w) (hn : ac.length ≤ 100000) (nm : ByteArray) (hsz : nm.size ≤ maxLen) (hn2 : n2 < maxLen) (hln : (F nm).length ≤ 2932031007402) :
    Calls Try.prog 26 #[.pointer (some ⟨g, 0, none⟩), .string nm] w fun e w' => e = .returned (.int .i64 (nextM (F nm)).2.2) ∧
      ∃ n2', n2' ≤ n2 + 1 ∧ MWD D lo g n2' E L (tailF F nm) K op (ac ++ [(10, nm, ⟨#[]⟩)]) size w' ∧ Below lo w w' ∧ Stood D w w' := by
  obtain ⟨b1, b2, n1, env, clock, vo, va, files, cmds, hp, hr, hs⟩ := h
  obtain ⟨l, h1, h2⟩ := hr.rows nm
  obtain ⟨k1, k2, k3⟩ := h1.next.1
  rw [← k2]
  refine (system_any hp hr.le hn nm hsz hn2 l h2 (by rw [h1.1]; exact hln) h1.shape).mono ?_
  rintro e w' ⟨e1, cmds', n2', vo', va', e3, e4, e5, e6, e7⟩
  obtain ⟨a1, a2⟩ := hs.goes e5
  exact ⟨e1, n2', e4, ⟨b1, b2, n1, env, clock, vo', va', files, cmds', e3, hr.next hp e5 nm h1 e6 e7, a1⟩, goes_below hp e5 hr.le hr.lg hr.lb, a2⟩
theorem mwd_clock (h : MWD D lo g n2 E L F K op ac size w) (hn : K.length ≤ maxLen) :
    Calls Try.prog 25 #[.pointer (some ⟨g, 0, none⟩)] w fun e w' => e = .returned (.int .i64 (K.headD 0)) ∧ MWD D lo g n2 E L F (tickL K) op ac size w' ∧ Below lo w w' ∧ Stood D w w' := by
  obtain ⟨b1, b2, n1, env, clock, vo, va, files, cmds, hp, hr, hs⟩ := h
  refine (clock_any hp K hr.clk hn).mono ?_
  rintro e w' ⟨e1, clock', e2, e3, e4⟩
  have h := hr.goes hp e3
  obtain ⟨a1, a2⟩ := hs.goes e3
  exact ⟨e1, ⟨b1, b2, n1, env, clock', vo, va, files, cmds, e2, ⟨h.le, h.lg, h.lb, h.holds, h.rows, e4, h.evr⟩, a1⟩, goes_below hp e3 hr.le hr.lg hr.lb, a2⟩
theorem mwd_input (h : MWD D lo g n2 E L F K op ac size w) (nm : ByteArray) (hs : nm.size ≤ maxLen) (hn : ((L nm).getD []).length ≤ 8796093022208) :
    Calls Try.prog 21 #[.pointer (some ⟨g, 0, none⟩), .string nm] w fun e w' => ∃ v, e = .returned (.tuple #[v, .bool (L nm).isSome]) ∧ w'.ownsRow w.heap.size 9 1 v ((L nm).getD []).length (((L nm).getD []).map Value.string) ∧ Below w.heap.size w w' := mw_input h.m nm hs hn
theorem mwd_acts (h : MWD D lo g n2 E L F K op ac size w) (hn : ac.length ≤ 1048576) :
    Calls Try.prog 11 #[.pointer (some ⟨g, 0, none⟩)] w fun e w' => ∃ v, e = .returned v ∧ w'.ownsRow w.heap.size 39 3 v ac.length (ac.flatMap actC) ∧ Below w.heap.size w w' := mw_acts h.m hn
end

end Go.Proofs.Yticinbkgmfoeoaa
