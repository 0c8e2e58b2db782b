/- The world, told by what it means: every method's contract. -/
import Derived.Test.YticinbkgmfoeoaaWdWC
namespace Go.Proofs.Yticinbkgmfoeoaa
open Go.RowKit
set_option linter.unusedVariables false

section
variable {lo : Nat} {w w' : World} {g b1 b2 n1 n2 n1' n2' : Nat} {env clock vo va vo' va' : Value} {files cmds : ByteArray → Option Value} {op op' : List ST} {ac ac' : List AT} {size size' : Int}
  {E : List (ByteArray × ByteArray)} {L : ByteArray → Option (List ByteArray)} {F : ByteArray → List CM} {K : List Int}
theorem goes_kept {e : TypeId} (hp : PW lo w g b1 b2 n1 n2 env clock vo va files cmds op ac size) (hg : Goes w g b2 vo va w' vo' va') (he : e ≠ 75 ∧ e ≠ 81 ∧ e ≠ 39) (j : Nat) (cs : Array Value) (hc : w.heap[j]? = some (Obj.cells cs e (0, 0))) : w'.heap[j]? = w.heap[j]? := by
  refine hg.1.block j (Array.getElem?_eq_some_iff.1 hc).1 (fun x => ?_)
  rcases x with rfl | rfl | x | x
  · rw [hp.hd] at hc; simp at hc; exact he.1 hc.2.symm
  · obtain ⟨es, c, ho⟩ := hp.c.obj
    rw [ho] at hc; cases hc
  · obtain ⟨c, ho⟩ := hp.o.obj x
    rw [ho] at hc; simp at hc; exact he.2.1 hc.2.symm
  · obtain ⟨c, ho⟩ := own_obj hp.a x
    rw [ho] at hc; simp at hc; exact he.2.2 hc.2.symm
theorem goes_below (hp : PW lo w g b1 b2 n1 n2 env clock vo va files cmds op ac size) (hg : Goes w g b2 vo va w' vo' va') (hlo : lo ≤ w.heap.size) (h1 : lo ≤ g) (h2 : lo ≤ b2) : Below lo w w' := by
  refine hg.1.below hlo (fun j x => ?_)
  rcases x with rfl | rfl | x | x
  · exact h1
  · exact h2
  · exact (hp.o.lt x).1
  · exact (hp.a.lt j x).1
/-- The rest of a world: its tables, its clock, its environment. -/
structure Rest (lo : Nat) (w : World) (g b2 : Nat) (env clock : Value) (files cmds : ByteArray → Option Value) (E : List (ByteArray × ByteArray)) (L : ByteArray → Option (List ByteArray)) (F : ByteArray → List CM) (K : List Int) : Prop where
  le : lo ≤ w.heap.size
  lg : lo ≤ g
  lb : lo ≤ b2
  holds : Holds w files L
  rows : ∀ nm, ∃ l, AreCmds w l (F nm) ∧ CmdAt w cmds nm l
  clk : ClockIs w clock K
  evr : RowT w 61 2 env E.length (E.flatMap pairC)
theorem Rest.goes (h : Rest lo w g b2 env clock files cmds E L F K) (hp : PW lo w g b1 b2 n1 n2 env clock vo va files cmds op ac size) (hg : Goes w g b2 vo va w' vo' va') : Rest lo w' g b2 env clock files cmds E L F K :=
  ⟨Nat.le_trans h.le hg.1.size, h.lg, h.lb, h.holds.same hg.1.size (goes_kept hp hg (by decide)), fun nm => by
    obtain ⟨l, h1, h2⟩ := h.rows nm
    exact ⟨l, h1.goes hp hg, RowT.goes (e := 59) h2 hp hg (by decide)⟩, RowT.goes (e := 3) h.clk hp hg (by decide), RowT.goes (e := 61) h.evr hp hg (by decide)⟩
/-- A world of the program that means this. -/
def MW (lo : Nat) (g n2 : Nat) (E : List (ByteArray × ByteArray)) (L : ByteArray → Option (List ByteArray)) (F : ByteArray → List CM) (K : List Int) (op : List ST) (ac : List AT) (size : Int) (w : World) : Prop :=
  ∃ b1 b2 n1 env clock vo va files cmds, PW lo w g b1 b2 n1 n2 env clock vo va files cmds op ac size ∧ Rest lo w g b2 env clock files cmds E L F K
theorem MW.below (h : MW lo g n2 E L F K op ac size w) (hb : Below w.heap.size w w') : MW lo g n2 E L F K op ac size w' := by
  obtain ⟨b1, b2, n1, env, clock, vo, va, files, cmds, hp, hr⟩ := h
  exact ⟨b1, b2, n1, env, clock, vo, va, files, cmds, hp.below hb, hr.goes hp (Goes.of_below hb)⟩
theorem MW.le (h : MW lo g n2 E L F K op ac size w) : lo ≤ w.heap.size := by
  obtain ⟨b1, b2, n1, env, clock, vo, va, files, cmds, hp, hr⟩ := h
  exact hr.le
theorem MW.of_stand (hp : PW lo w g b1 b2 n1 n2 env clock vo va files cmds op ac size) (hr : Rest lo w g b2 env clock files cmds E L F K) (h : Stand lo w g b1 b2 n1' n2' env clock vo va files cmds op' ac' size' w') : MW lo g n2' E L F K op' ac' size' w' ∧ Below lo w w' := by
  obtain ⟨vo', va', h1, h2⟩ := h
  exact ⟨⟨b1, b2, n1', env, clock, vo', va', files, cmds, h1, hr.goes hp h2⟩, goes_below hp h2 hr.le hr.lg hr.lb⟩
theorem mw_write (h : MW lo g n2 E L F K op ac size w) (hn : ac.length ≤ 100000) (hon : op.length ≤ 8) (hs0 : 0 ≤ size) (hs1 : size ≤ 16384) (to : Int) (nm dt : ByteArray) :
    Calls Try.prog 10 #[.pointer (some ⟨g, 0, none⟩), .int .i64 to, .string nm, .string dt] w fun e w' => e = .returned (.int .i64 (wrS op ac size to nm dt).1) ∧ MW lo g n2 E L F K (wrS op ac size to nm dt).2.1 (wrS op ac size to nm dt).2.2.1 (wrS op ac size to nm dt).2.2.2 w' ∧ Below lo w w' := by
  obtain ⟨b1, b2, n1, env, clock, vo, va, files, cmds, hp, hr⟩ := h
  exact (write_any hp hr.le hn hon hs0 hs1 to nm dt).mono fun e w' ⟨h1, h2⟩ => ⟨h1, MW.of_stand hp hr h2⟩
theorem mw_close (h : MW lo g n2 E L F K op ac size w) (hn : ac.length ≤ 100000) (hon : op.length ≤ 8) (nm : ByteArray) :
    Calls Try.prog 12 #[.pointer (some ⟨g, 0, none⟩), .string nm] w fun e w' => e = .returned (.int .i64 (if (keepS op nm).length = op.length then -1 else 0)) ∧ MW lo g n2 E L F K (keepS op nm) (ac ++ shutS (goneS op nm)) size w' ∧ Below lo w w' := by
  obtain ⟨b1, b2, n1, env, clock, vo, va, files, cmds, hp, hr⟩ := h
  exact (close_any hp hr.le hn hon nm).mono fun e w' ⟨h1, h2⟩ => ⟨h1, MW.of_stand hp hr h2⟩
theorem mw_end (h : MW lo g n2 E L F K op ac size w) (hn : ac.length ≤ 100000) (hon : op.length ≤ 8) :
    Calls Try.prog 13 #[.pointer (some ⟨g, 0, none⟩)] w fun e w' => e = .returned (.tuple #[]) ∧ MW lo g n2 E L F K [] (ac ++ shutS op) size w' ∧ Below lo w w' := by
  obtain ⟨b1, b2, n1, env, clock, vo, va, files, cmds, hp, hr⟩ := h
  exact (end_any hp hr.le hn hon).mono fun e w' ⟨h1, h2⟩ => ⟨h1, MW.of_stand hp hr h2⟩
theorem mw_acts (h : MW lo g n2 E L F K op ac size w) (hn : ac.length ≤ 1048576) :
    Calls Try.prog 11 #[.pointer (some ⟨g, 0, none⟩)] w fun e w' => ∃ v, e = .returned v ∧ w'.ownsRow w.heap.size 39 3 v ac.length (ac.flatMap actC) ∧ Below w.heap.size w w' := by
  obtain ⟨b1, b2, n1, env, clock, vo, va, files, cmds, hp, hr⟩ := h
  exact acts_any hp hn
theorem mw_input (h : MW lo g n2 E L F K op ac size w) (nm : ByteArray) (hs : nm.size ≤ maxLen) (hn : ((L nm).getD []).length ≤ 8796093022208) :
    Calls Try.prog 21 #[.pointer (some ⟨g, 0, none⟩), .string nm] w fun e w' => ∃ v, e = .returned (.tuple #[v, .bool (L nm).isSome]) ∧ w'.ownsRow w.heap.size 9 1 v ((L nm).getD []).length (((L nm).getD []).map Value.string) ∧ Below w.heap.size w w' := by
  obtain ⟨b1, b2, n1, env, clock, vo, va, files, cmds, hp, hr⟩ := h
  obtain ⟨h1, h2⟩ := hr.holds.row nm
  rw [← h2]
  exact input_any hp nm hs _ h1 hn
def tailF (F : ByteArray → List CM) (nm : ByteArray) (t : ByteArray) : List CM := if t = nm then (F t).tail else F t
theorem Rest.next {cmds' : ByteArray → Option Value} (hr : Rest lo w g b2 env clock files cmds E L F K) (hp : PW lo w g b1 b2 n1 n2 env clock vo va files cmds op ac size) (hg : Goes w g b2 vo va w' vo' va') (nm : ByteArray) {l : List CT} (hl : AreCmds w l (F nm))
    (h1 : CmdAt w' cmds' nm l.tail) (h2 : ∀ t, t ≠ nm → cmds' t = cmds t) : Rest lo w' g b2 env clock files cmds' E L (tailF F nm) K := by
  have h := hr.goes hp hg
  refine ⟨h.le, h.lg, h.lb, h.holds, fun t => ?_, h.clk, h.evr⟩
  by_cases e : t = nm
  · subst e
    unfold tailF
    rw [if_pos rfl]
    exact ⟨l.tail, (hl.next.2).goes hp hg, h1⟩
  · unfold tailF
    rw [if_neg e]
    obtain ⟨l', a1, a2⟩ := h.rows t
    refine ⟨l', a1, ?_⟩
    unfold CmdAt
    rw [h2 t e]
    exact a2
theorem mw_run (h : MW lo g n2 E L F K op ac size w) (hn : ac.length ≤ 100000) (nm : ByteArray) (hs : nm.size ≤ maxLen) (hn2 : n2 < maxLen) (hln : (F nm).length ≤ 2932031007402) (hcn : (nextM (F nm)).2.1.length ≤ 8796093022208) :
    Calls Try.prog 24 #[.pointer (some ⟨g, 0, none⟩), .string nm] w fun e w' => ∃ v, e = .returned (.tuple #[v, .int .i64 (nextM (F nm)).2.2]) ∧ w'.ownsRow w.heap.size 9 1 v (nextM (F nm)).2.1.length ((nextM (F nm)).2.1.map Value.string) ∧
      ∃ n2', n2' ≤ n2 + 1 ∧ MW lo g n2' E L (tailF F nm) K op (ac ++ [(9, nm, ⟨#[]⟩)]) size w' ∧ Below lo w w' := by
  obtain ⟨b1, b2, n1, env, clock, vo, va, files, cmds, hp, hr⟩ := h
  obtain ⟨l, h1, h2⟩ := hr.rows nm
  obtain ⟨k1, k2, k3⟩ := h1.next.1
  rw [← k2]
  refine (run_any hp hr.le hn nm hs hn2 l h2 (by rw [h1.1]; exact hln) h1.shape _ k3 hcn).mono ?_
  rintro e w' ⟨v, e1, e2, cmds', n2', vo', va', e3, e4, e5, e6, e7⟩
  exact ⟨v, e1, e2, n2', e4, ⟨b1, b2, n1, env, clock, vo', va', files, cmds', e3, hr.next hp e5 nm h1 e6 e7⟩, goes_below hp e5 hr.le hr.lg hr.lb⟩
theorem mw_system (h : MW lo g n2 E L F K op ac size w) (hn : ac.length ≤ 100000) (nm : ByteArray) (hs : nm.size ≤ maxLen) (hn2 : n2 < maxLen) (hln : (F nm).length ≤ 2932031007402) :
    Calls Try.prog 26 #[.pointer (some ⟨g, 0, none⟩), .string nm] w fun e w' => e = .returned (.int .i64 (nextM (F nm)).2.2) ∧
      ∃ n2', n2' ≤ n2 + 1 ∧ MW lo g n2' E L (tailF F nm) K op (ac ++ [(10, nm, ⟨#[]⟩)]) size w' ∧ Below lo w w' := by
  obtain ⟨b1, b2, n1, env, clock, vo, va, files, cmds, hp, hr⟩ := h
  obtain ⟨l, h1, h2⟩ := hr.rows nm
  obtain ⟨k1, k2, k3⟩ := h1.next.1
  rw [← k2]
  refine (system_any hp hr.le hn nm hs hn2 l h2 (by rw [h1.1]; exact hln) h1.shape).mono ?_
  rintro e w' ⟨e1, cmds', n2', vo', va', e3, e4, e5, e6, e7⟩
  exact ⟨e1, n2', e4, ⟨b1, b2, n1, env, clock, vo', va', files, cmds', e3, hr.next hp e5 nm h1 e6 e7⟩, goes_below hp e5 hr.le hr.lg hr.lb⟩
theorem mw_clock (h : MW lo g n2 E L F K op ac size w) (hn : K.length ≤ maxLen) :
    Calls Try.prog 25 #[.pointer (some ⟨g, 0, none⟩)] w fun e w' => e = .returned (.int .i64 (K.headD 0)) ∧ MW lo g n2 E L F (tickL K) op ac size w' ∧ Below lo w w' := by
  obtain ⟨b1, b2, n1, env, clock, vo, va, files, cmds, hp, hr⟩ := h
  refine (clock_any hp K hr.clk hn).mono ?_
  rintro e w' ⟨e1, clock', e2, e3, e4⟩
  have h := hr.goes hp e3
  exact ⟨e1, ⟨b1, b2, n1, env, clock', vo, va, files, cmds, e2, ⟨h.le, h.lg, h.lb, h.holds, h.rows, e4, h.evr⟩⟩, goes_below hp e3 hr.le hr.lg hr.lb⟩
end
theorem mw_newB (fv cv sv ev kv : Value) (fs : List FT) (cl : List CT) (CL : List CM) (sl : List ByteArray) (E : List (ByteArray × ByteArray)) (K : List Int) (w : World)
    (hfv : RowB w 57 2 fv fs.length (fs.flatMap fileC)) (hfn : fs.length ≤ 3518437208883) (hf1 : ∀ f ∈ fs, RowB w 9 1 f.2.1 f.2.2.length (f.2.2.map Value.string) ∧ f.2.2.length ≤ 8796093022208 ∧ f.1.size ≤ maxLen)
    (hcv : RowB w 59 3 cv cl.length (cl.flatMap cmdC)) (hcl : cl.length ≤ 2932031007402) (hcm : AreCmdsB w cl CL) (hcm2 : ∀ y ∈ CL, y.2.1.length ≤ 8796093022208 ∧ y.1.size ≤ maxLen) (hsv : RowB w 9 1 sv sl.length (sl.map Value.string)) (hsl : sl.length ≤ 8796093022208)
    (hev : RowB w 61 2 ev E.length (E.flatMap pairC)) (hpn : E.length ≤ 4398046511104) (hkv : RowB w 3 1 kv K.length (K.map (Value.int .i64))) (hcn : K.length ≤ 17592186044416) :
    Calls Try.prog 9 #[.agg #[fv, cv, sv, ev, kv]] w fun e w' => ∃ g n2, e = .returned (.pointer (some ⟨g, 0, none⟩)) ∧ n2 ≤ cl.length ∧ MW w.heap.size g n2 E (stdL (fileL fs) sl 2) (cmdF CL) K [] [] 0 w' ∧ Below w.heap.size w w' := by
  have hn := new_any (fv := fv) (cv := cv) (sv := sv) (ev := ev) (kv := kv) (fs := fs) (cl := cl) (CL := CL) (sl := sl) (np := E.length) (ps := E.flatMap pairC) (nc := K.length) (cs := K.map (Value.int .i64)) (w := w)
    (hfv := hfv) (hfn := hfn) (hf1 := hf1) (hcv := hcv) (hcl := hcl) (hcm := hcm) (hcm2 := hcm2) (hsv := hsv) (hsl := hsl) (hev := hev) (hpn := hpn) (hp1 := pairC_one E) (hkv := hkv) (hcn := hcn) (hc1 := int_one K)
  refine hn.mono ?_
  rintro e w' ⟨g, m1, m2, n1, n2, v16, v19, files, cmds, scr, he, h, _, hn2, hC⟩
  exact ⟨g, n2, he, hn2, ⟨m1, m2, n1, v16, v19, _, _, files, cmds, h.pw, ⟨h.below.size, h.lg, h.lb, h.holds, hC.at, RowT.of_own h.clock, RowT.of_own h.env⟩⟩, h.below⟩
theorem mw_new (fv cv sv ev kv : Value) (fs : List FT) (cl : List CT) (CL : List CM) (sl : List ByteArray) (E : List (ByteArray × ByteArray)) (K : List Int) (w : World)
    (hfv : RowT w 57 2 fv fs.length (fs.flatMap fileC)) (hfn : fs.length ≤ 3518437208883) (hf1 : ∀ f ∈ fs, RowT w 9 1 f.2.1 f.2.2.length (f.2.2.map Value.string) ∧ f.2.2.length ≤ 8796093022208 ∧ f.1.size ≤ maxLen)
    (hcv : RowT w 59 3 cv cl.length (cl.flatMap cmdC)) (hcl : cl.length ≤ 2932031007402) (hcm : AreCmds w cl CL) (hcm2 : ∀ y ∈ CL, y.2.1.length ≤ 8796093022208 ∧ y.1.size ≤ maxLen) (hsv : RowT w 9 1 sv sl.length (sl.map Value.string)) (hsl : sl.length ≤ 8796093022208)
    (hev : RowT w 61 2 ev E.length (E.flatMap pairC)) (hpn : E.length ≤ 4398046511104) (hkv : RowT w 3 1 kv K.length (K.map (Value.int .i64))) (hcn : K.length ≤ 17592186044416) :
    Calls Try.prog 9 #[.agg #[fv, cv, sv, ev, kv]] w fun e w' => ∃ g n2, e = .returned (.pointer (some ⟨g, 0, none⟩)) ∧ n2 ≤ cl.length ∧ MW w.heap.size g n2 E (stdL (fileL fs) sl 2) (cmdF CL) K [] [] 0 w' ∧ Below w.heap.size w w' :=
  mw_newB (fv := fv) (cv := cv) (sv := sv) (ev := ev) (kv := kv) (fs := fs) (cl := cl) (CL := CL) (sl := sl) (E := E) (K := K) (w := w)
    (hfv := hfv.b) (hfn := hfn) (hf1 := fun f hf => ⟨(hf1 f hf).1.b, (hf1 f hf).2⟩) (hcv := hcv.b) (hcl := hcl) (hcm := hcm.b) (hcm2 := hcm2) (hsv := hsv.b) (hsl := hsl) (hev := hev.b) (hpn := hpn) (hkv := hkv.b) (hcn := hcn)

end Go.Proofs.Yticinbkgmfoeoaa
