/- A script that came in, opened. -/
import Derived.Test.YticinbkgmfoeoaaWdWD
import Derived.Test.YticinbkgmfoeoaaRdW
import Derived.Deep.Strs
import Derived.Lib.SmallJoins
namespace Go.Proofs.Yticinbkgmfoeoaa
open Go.ChangeShapes Go.WideShapes Go.RowKit Go.Deep
open Go.Joins (trod_struct4)
set_option linter.unusedVariables false

/-- A script, as it lies. -/
structure ScriptIs (W : World) (fv cv sv ev kv : Value) (fs : List FT) (cl : List CT) (CL : List CM) (sl : List ByteArray) (E : List (ByteArray × ByteArray)) (K : List Int) : Prop where
  hfv : RowB W 57 2 fv fs.length (fs.flatMap fileC)
  hfn : fs.length ≤ 3518437208883
  hf1 : ∀ f ∈ fs, RowB W 9 1 f.2.1 f.2.2.length (f.2.2.map Value.string) ∧ f.2.2.length ≤ 8796093022208 ∧ f.1.size ≤ maxLen
  hcv : RowB W 59 3 cv cl.length (cl.flatMap cmdC)
  hcl : cl.length ≤ 2932031007402
  hcm : AreCmdsB W cl CL
  hcm2 : ∀ y ∈ CL, y.2.1.length ≤ 8796093022208 ∧ y.1.size ≤ maxLen
  hsv : RowB W 9 1 sv sl.length (sl.map Value.string)
  hsl : sl.length ≤ 8796093022208
  hev : RowB W 61 2 ev E.length (E.flatMap pairC)
  hpn : E.length ≤ 4398046511104
  hkv : RowB W 3 1 kv K.length (K.map (Value.int .i64))
  hcn : K.length ≤ 17592186044416
theorem ScriptIs.below {W W' : World} {fv cv sv ev kv : Value} {fs : List FT} {cl : List CT} {CL : List CM} {sl : List ByteArray} {E : List (ByteArray × ByteArray)} {K : List Int} (h : ScriptIs W fv cv sv ev kv fs cl CL sl E K) (hb : Below W.heap.size W W') : ScriptIs W' fv cv sv ev kv fs cl CL sl E K :=
  ⟨h.hfv.below hb, h.hfn, fun f hf => ⟨(h.hf1 f hf).1.below hb, (h.hf1 f hf).2⟩, h.hcv.below hb, h.hcl, ⟨h.hcm.1, fun i x y hx hy => ⟨(h.hcm.2 i x y hx hy).1, (h.hcm.2 i x y hx hy).2.1, (h.hcm.2 i x y hx hy).2.2.below hb⟩⟩, h.hcm2, h.hsv.below hb, h.hsl, h.hev.below hb, h.hpn, h.hkv.below hb, h.hcn⟩
theorem flat_one {α : Type} (l : List α) (f : α → Value) : l.flatMap (fun x => [f x]) = l.map f := by
  induction l with
  | nil => rfl
  | cons x l ih => rw [List.flatMap_cons, ih]; rfl

section
variable {H : Type} {enc : TypeId × Value → H} {W : World} {base : Nat} {spare : Nat → Bool} {held : Bool}
theorem c_str : Try.prog.cellsOf 9 = 1 := by kernel_rfl
theorem c_int : Try.prog.cellsOf 3 = 1 := by kernel_rfl
theorem c_strs : Try.prog.cellsOf 23 = 1 := by kernel_rfl
theorem c_file : Try.prog.cellsOf 57 = 2 := by kernel_rfl
theorem c_cmd : Try.prog.cellsOf 59 = 3 := by kernel_rfl
theorem c_pair : Try.prog.cellsOf 61 = 2 := by kernel_rfl
theorem c_files : Try.prog.cellsOf 26 = 1 := by kernel_rfl
theorem c_cmds : Try.prog.cellsOf 27 = 1 := by kernel_rfl
theorem c_pairs : Try.prog.cellsOf 28 = 1 := by kernel_rfl
theorem c_ints : Try.prog.cellsOf 29 = 1 := by kernel_rfl

theorem b_str : Try.prog.bytesOf 9 = 16 := by kernel_rfl
theorem b_int : Try.prog.bytesOf 3 = 8 := by kernel_rfl
theorem b_file : Try.prog.bytesOf 57 = 40 := by kernel_rfl
theorem b_cmd : Try.prog.bytesOf 59 = 48 := by kernel_rfl
theorem b_pair : Try.prog.bytesOf 61 = 32 := by kernel_rfl
theorem open_files {fuel : Nat} {v : Value} {x : DataW H × List MemPlace} (h : DataW.trod enc Try.prog W base spare held fuel 26 [v] = some x) (hz : Sized Try.prog 26 x.1) :
    ∃ l : List FT, RowA W 2 v l.length (l.flatMap fileC) ∧ l.length ≤ 3518437208883 ∧ ∀ z ∈ l, RowA W 1 z.2.1 z.2.2.length (z.2.2.map Value.string) ∧ z.2.2.length ≤ 8796093022208 ∧ z.1.size ≤ maxLen := by
  obtain ⟨l, h1, h2, h3⟩ := open_flatW Try.underlying26 fileC 2 (fun _ => rfl) c_file (fun z => RowA W 1 z.2.1 z.2.2.length (z.2.2.map Value.string) ∧ z.2.2.length ≤ 8796093022208 ∧ z.1.size ≤ maxLen) (fun n cs y hcs hy hzy => by
    obtain ⟨a, b, rfl⟩ := lis2 hcs
    obtain ⟨y0, y1, m, rfl, _, h0, h1⟩ := trod_struct2 Try.underlying57 hy
    simp only [c_str, c_strs, List.drop_zero, List.drop_succ_cons, List.take_succ_cons, List.take_zero] at h0 h1
    obtain ⟨s, e0, rfl, ws⟩ := DataW.trod_string Try.underlying9 h0
    obtain ⟨l, r1, r2, r3⟩ := open_slW Try.underlying23 Try.underlying9 c_str h1 (hzy.field Try.underlying57 1 rfl rfl)
    simp only [List.cons.injEq, and_true] at e0
    subst e0
    rw [b_str] at r2
    exact ⟨(s, b, l), rfl, r1, (by unfold reachBytes at r2; dsimp only; omega), ws⟩) h hz
  rw [b_file] at h2
  exact ⟨l, h1, (by unfold reachBytes at h2; omega), h3⟩
theorem open_cmds {fuel : Nat} {v : Value} {x : DataW H × List MemPlace} (h : DataW.trod enc Try.prog W base spare held fuel 27 [v] = some x) (hz : Sized Try.prog 27 x.1) :
    ∃ (cl : List CT) (CL : List CM), RowA W 3 v cl.length (cl.flatMap cmdC) ∧ cl.length ≤ 2932031007402 ∧ AreCmdsB W cl CL ∧ ∀ y ∈ CL, y.2.1.length ≤ 8796093022208 ∧ y.1.size ≤ maxLen := by
  obtain ⟨l, h1, h2, h3⟩ := open_flatW (α := CM × Value) Try.underlying27 (fun z => [.string z.1.1, z.2, .int .i64 z.1.2.2]) 3 (fun _ => rfl) c_cmd (fun z => RowA W 1 z.2 z.1.2.1.length (z.1.2.1.map Value.string) ∧ z.1.2.1.length ≤ 8796093022208 ∧ z.1.1.size ≤ maxLen) (fun n cs y hcs hy hzy => by
    obtain ⟨a, b, c, rfl⟩ := lis3 hcs
    obtain ⟨y0, y1, y2, m, rfl, _, h0, h1, h2⟩ := trod_struct3 Try.underlying59 hy
    simp only [c_str, c_strs, c_int, List.drop_zero, List.drop_succ_cons, List.take_succ_cons, List.take_zero] at h0 h1 h2
    obtain ⟨s, e0, rfl, ws⟩ := DataW.trod_string Try.underlying9 h0
    obtain ⟨l, r1, r2, r3⟩ := open_slW Try.underlying23 Try.underlying9 c_str h1 (hzy.field Try.underlying59 1 rfl rfl)
    obtain ⟨k, e2, rfl, wk⟩ := DataW.trod_int Try.underlying3 h2
    simp only [List.cons.injEq, and_true] at e0 e2
    subst e0 e2
    rw [b_str] at r2
    exact ⟨((s, l, k), b), rfl, r1, (by unfold reachBytes at r2; dsimp only; omega), ws⟩) h hz
  rw [b_cmd] at h2
  refine ⟨l.map (fun z => (z.1.1, z.2, z.1.2.2)), l.map (·.1), ?_, (by unfold reachBytes at h2; rw [List.length_map]; omega), ⟨by simp, fun i x y hx hy => ?_⟩, fun y hy => ?_⟩
  · rw [List.length_map, List.flatMap_map]
    exact h1
  · rw [List.getElem?_map] at hx hy
    cases hz : l[i]? with
    | none => rw [hz] at hx; cases hx
    | some z =>
      rw [hz] at hx hy
      simp only [Option.map_some, Option.some.injEq] at hx hy
      subst hx hy
      exact ⟨rfl, rfl, (h3 z (List.mem_of_getElem? hz)).1, trivial⟩
  · obtain ⟨z, hz, rfl⟩ := List.mem_map.1 hy
    exact (h3 z hz).2
theorem open_pairs {fuel : Nat} {v : Value} {x : DataW H × List MemPlace} (h : DataW.trod enc Try.prog W base spare held fuel 28 [v] = some x) (hz : Sized Try.prog 28 x.1) :
    ∃ l : List (ByteArray × ByteArray), RowA W 2 v l.length (l.flatMap pairC) ∧ l.length ≤ 4398046511104 := by
  obtain ⟨l, h1, h2, _⟩ := open_flatW (α := ByteArray × ByteArray) Try.underlying28 pairC 2 (fun _ => rfl) c_pair (fun _ => True) (fun n cs y hcs hy _ => by
    obtain ⟨a, b, rfl⟩ := lis2 hcs
    obtain ⟨y0, y1, m, rfl, _, h0, h1⟩ := trod_struct2 Try.underlying61 hy
    simp only [c_str, List.drop_zero, List.drop_succ_cons, List.take_succ_cons, List.take_zero] at h0 h1
    obtain ⟨s, e0, rfl, ws⟩ := DataW.trod_string Try.underlying9 h0
    obtain ⟨t, e1, rfl, wt⟩ := DataW.trod_string Try.underlying9 h1
    simp only [List.cons.injEq, and_true] at e0 e1
    subst e0 e1
    exact ⟨(s, t), rfl, trivial⟩) h hz
  rw [b_pair] at h2
  exact ⟨l, h1, (by unfold reachBytes at h2; omega)⟩
theorem open_nums {fuel : Nat} {v : Value} {x : DataW H × List MemPlace} (h : DataW.trod enc Try.prog W base spare held fuel 29 [v] = some x) (hz : Sized Try.prog 29 x.1) :
    ∃ l : List Int, RowA W 1 v l.length (l.map (Value.int .i64)) ∧ l.length ≤ 17592186044416 := by
  obtain ⟨l, h1, h2, _⟩ := open_flatW (α := Int) Try.underlying29 (fun k => [.int .i64 k]) 1 (fun _ => rfl) c_int (fun _ => True) (fun n cs y hcs hy _ => by
    obtain ⟨k, rfl, rfl, wk⟩ := DataW.trod_int Try.underlying3 hy
    exact ⟨k, rfl, trivial⟩) h hz
  rw [flat_one] at h1
  rw [b_int] at h2
  exact ⟨l, h1, (by unfold reachBytes at h2; omega)⟩
theorem open_script {fuel : Nat} {fv cv sv ev kv : Value} {x : DataW H × List MemPlace} (h : DataW.trod enc Try.prog W base spare held fuel 31 [fv, cv, sv, ev, kv] = some x) (hz : Sized Try.prog 31 x.1) :
    ∃ fs cl CL sl E K, ScriptIs W fv cv sv ev kv fs cl CL sl E K := by
  obtain ⟨xs, n, _, rfl, hl, hlen, hf⟩ := DataW.trod_struct Try.underlying31 h
  have key : ∃ y0 y1 y2 y3 y4, xs = [y0, y1, y2, y3, y4] := by
    match xs, hlen with
    | [y0, y1, y2, y3, y4], _ => exact ⟨y0, y1, y2, y3, y4, rfl⟩
  obtain ⟨y0, y1, y2, y3, y4, rfl⟩ := key
  have z0 := hz.field Try.underlying31 0 rfl rfl
  have z1 := hz.field Try.underlying31 1 rfl rfl
  have z2 := hz.field Try.underlying31 2 rfl rfl
  have z3 := hz.field Try.underlying31 3 rfl rfl
  have z4 := hz.field Try.underlying31 4 rfl rfl
  have h0 := hf 0 _ rfl
  have h1 := hf 1 _ rfl
  have h2 := hf 2 _ rfl
  have h3 := hf 3 _ rfl
  have h4 := hf 4 _ rfl
  simp only [List.getElem?_cons_zero, List.getElem?_cons_succ] at h0 h1 h2 h3 h4
  obtain ⟨fs, f1, f2, f3⟩ := open_files h0 z0
  obtain ⟨cl, CL, g1, g2, g3, g4⟩ := open_cmds h1 z1
  obtain ⟨sl, s1, s2, s3⟩ := open_slW Try.underlying23 Try.underlying9 c_str h2 z2
  obtain ⟨E, e1, e2⟩ := open_pairs h3 z3
  obtain ⟨K, k1, k2⟩ := open_nums h4 z4
  rw [b_str] at s2
  unfold reachBytes at s2
  exact ⟨fs, cl, CL, sl, E, K, ⟨⟨f1, trivial⟩, f2, fun f hf => ⟨⟨(f3 f hf).1, trivial⟩, (f3 f hf).2⟩, ⟨g1, trivial⟩, g2, g3, g4, ⟨s1, trivial⟩, by omega, ⟨e1, trivial⟩, e2, ⟨k1, trivial⟩, k2⟩⟩
end

end Go.Proofs.Yticinbkgmfoeoaa
