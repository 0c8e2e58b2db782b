/- The law 'WorldOwns' returns true, and writes nothing that was there. No condition. -/
import Derived.Test.YticinbkgmfoeoaaOwnsW
import Derived.Test.YticinbkgmfoeoaaRows
import Derived.ProofKit
import Derived.OpenShut
import Derived.ChangeOld
import Derived.Below
import Derived.ShutString
import Derived.JoinedCond
import Derived.JoinedOf
import Derived.Deep.CondSized
namespace Go.Proofs.Yticinbkgmfoeoaa
open Go.ChangeShapes Go.WideShapes Go.ChangeAt Go.RowKit
open Go.ChangeMaps (open_string shut_string)
set_option linter.unusedVariables false

theorem open_opS {H : Type} {enc : TypeId × Value → H} {W : World} {base : Nat} {spare : Nat → Bool} {held : Bool} {fuel : Nat} {a b c d : Value} {y : DataW H × List MemPlace} (hy : DataW.trod enc Try.prog W base spare held fuel 43 [a, b, c, d] = some y) : ∃ k t n s, a = .int .i64 k ∧ b = .int .i64 t ∧ c = .string n ∧ d = .string s ∧ n.size ≤ maxLen := by
  obtain ⟨⟨k, t, n, s⟩, e, h1, _⟩ := open_op rfl hy
  simp only [opC, List.cons.injEq, and_true] at e
  exact ⟨k, t, n, s, e.1, e.2.1, e.2.2.1, e.2.2.2, h1⟩
theorem worldOwns_walk (W : World) (fv cv sv ev kv : Value) (fs : List FT) (cl : List CT) (CL : List CM) (sl : List ByteArray) (E : List (ByteArray × ByteArray)) (K : List Int) (hS : ScriptIs W fv cv sv ev kv fs cl CL sl E K) (k to : Int) (nm dt : ByteArray) (hnm : nm.size ≤ maxLen) : Calls Try.prog 7 #[.agg #[fv, cv, sv, ev, kv], .agg #[.int .i64 k, .int .i64 to, .string nm, .string dt]] W fun e w' => e = .returned (.bool true) ∧ Below W.heap.size W w' :=
  owns_any fv cv sv ev kv fs cl CL sl E K k to nm dt W hS hnm

theorem worldOwns_own : ownKnob Try.prog.godebug = none := by kernel_rfl
theorem worldOwns_laidOut : laidOutB Try.prog = true := by kernel_rfl
set_option maxRecDepth 100000 in
set_option maxHeartbeats 2000000 in
theorem worldOwns_lifted (os : Os) (started : os.Started) (H : Type) (enc : TypeId × Value → H) :
    ReturnsInHanded {} Try.checked os 7 .any (Rows.worldOwnsSpec.pre6 enc Try.prog Try.f7 Rows.worldOwnsRow.domain false) (Rows.worldOwnsSpec.post enc Try.prog Try.f7 false true false false) := by
  refine returnsInHanded_of_change_sized (C := Try.checked) worldOwns_own started (by kernel_rfl) Try.func7
    (ChangeSpec.witness6 (enc := enc) (C := Try.checked) false ⟨#[], #[.agg #[.slice none 0 0, .slice none 0 0, .slice none 0 0, .slice none 0 0, .slice none 0 0], .agg #[.int .i64 0, .int .i64 0, .string ⟨#[]⟩, .string ⟨#[]⟩]], []⟩ 8 (by kernel_rfl) (by kernel_rfl) (by kernel_rfl) (by kernel_rfl)) ?_
  intro W base args ds gs before hval0 hW hcnd hsz0 _
  have hval : ∀ (j : Nat) t v, Try.f7.params[j]? = some t → args[j]? = some v → Value.okWide Try.prog W .any base t v := hval0
  have hsz : (DataW.weightsEach Try.prog (Try.f7.params.toList ++ []) (ds ++ gs)).all (· ≤ reachBytes) = true := hsz0
  have hW' := hW
  obtain ⟨p, q, hA0, hV, rfl, hfz, hnd⟩ := hW
  have hA : DataW.TrodAll enc Try.prog W 0 (fun _ => true) true Try.f7.params.toList args.toList ds p := hA0
  rw [Try.params7] at hA hval hsz
  obtain ⟨v0, vs0, d0, ds0, p0, q0, hargs, rfl, rfl, h0, r0⟩ := trodAll_cons hA
  obtain ⟨v1, vs1, d1, ds1, p1, q1, rfl, rfl, rfl, h1, r1⟩ := trodAll_cons r0
  obtain ⟨rfl, rfl, rfl⟩ := trodAll_nil r1
  obtain rfl : args = #[v0, v1] := by cases args; simp_all
  obtain ⟨rfl, rfl⟩ := trodVars_none hV
  have z0 : Sized Try.prog 31 d0 := Sized.arg hsz 0 rfl rfl
  have k0 := h0
  have lt0 : ∀ x ∈ p0, x.block < W.heap.size := by obtain ⟨m, hm⟩ := k0; exact DataW.trod_lt m _ _ _ hm
  obtain ⟨cs0, rfl, hcs0⟩ := okWide_struct Try.underlying31 (hval 0 31 v0 rfl rfl)
  obtain ⟨x0a, x0b, x0c, x0d, x0e, rfl⟩ := arr5 (hcs0.trans (by kernel_rfl))
  obtain ⟨m0, hm0⟩ := h0
  obtain ⟨fs0, cl0, CL0, sl0, E0, K0, hS0⟩ := open_script hm0 z0
  have z1 : Sized Try.prog 43 d1 := Sized.arg hsz 1 rfl rfl
  have k1 := h1
  have lt1 : ∀ x ∈ p1, x.block < W.heap.size := by obtain ⟨m, hm⟩ := k1; exact DataW.trod_lt m _ _ _ hm
  obtain ⟨cs1, rfl, hcs1⟩ := okWide_struct Try.underlying43 (hval 1 43 v1 rfl rfl)
  obtain ⟨x1a, x1b, x1c, x1d, rfl⟩ := arr4 (hcs1.trans (by kernel_rfl))
  obtain ⟨m1, hm1⟩ := h1
  obtain ⟨ok1, ot1, on1, os1, rfl, rfl, rfl, rfl, g1⟩ := open_opS hm1
  clear hA0 hval0 hsz0
  refine (worldOwns_walk W x0a x0b x0c x0d x0e fs0 cl0 CL0 sl0 E0 K0 hS0 ok1 ot1 on1 os1 g1).mono fun e W' ⟨he, bel⟩ => ?_
  subst he
  exact ⟨_, rfl, _, _, _, [], _, [], hW', trodAll_mk1 (shut_bool Try.underlying4 _), (trodAll_cons_mk (Below.trod worldOwns_laidOut (by kernel_rfl) (of_decide_eq_true (by kernel_rfl)) k0 bel lt0) (trodAll_cons_mk (Below.trod worldOwns_laidOut (by kernel_rfl) (of_decide_eq_true (by kernel_rfl)) k1 bel lt1) trodAll_mk0)), rfl, bel.frame _, fun h => by cases h⟩

/-- The statement. -/
theorem worldOwns_holds : Rows.WorldOwnsSaid :=
  OpenClaim.holds_of_wide 7 Try.f7 rfl rfl rfl rfl rfl rfl rfl ⟨rfl, rfl, rfl, rfl, rfl⟩ rfl rfl rfl rfl rfl (by kernel_rfl) Try.func7 (by kernel_rfl)
    (of_decide_eq_true (by kernel_rfl)) (by unfold Func.isWrapper; first | (rw [if_pos (by decide +kernel)]; kernel_rfl) | (rw [if_neg (by decide +kernel)]; exact ⟨rfl, rfl⟩))
    (fun os started H enc _ => worldOwns_lifted os started H enc)

end Go.Proofs.Yticinbkgmfoeoaa
