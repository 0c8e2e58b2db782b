/- The law 'WorldPlays' returns true, and writes nothing that was there. No condition. -/
import Derived.Test.YticinbkgmfoeoaaPlaysW
import Derived.Test.YticinbkgmfoeoaaRows
import Derived.ProofKit
import Derived.OpenShut
import Derived.ChangeOld
import Derived.Below
import Derived.ShutString
import Derived.JoinedCond
import Derived.JoinedOf
import Derived.Deep.CondSized
namespace Go.Proofs.Yticinbkgmfoeoaa
open Go.ChangeShapes Go.WideShapes Go.ChangeAt Go.RowKit
open Go.ChangeMaps (open_string shut_string)
set_option linter.unusedVariables false

theorem worldPlays_walk (W : World) (fv cv sv ev kv : Value) (fs : List FT) (cl : List CT) (CL : List CM) (sl : List ByteArray) (E : List (ByteArray × ByteArray)) (K : List Int) (hS : ScriptIs W fv cv sv ev kv fs cl CL sl E K) (v : Value) (l : List OT) (hr : RowA W 4 v l.length (l.flatMap opC)) (hq : ∀ z ∈ l, z.2.2.1.size ≤ maxLen ∧ z.2.2.2.size ≤ maxLen) : Calls Try.prog 6 #[.agg #[fv, cv, sv, ev, kv], v] W fun e w' => e = .returned (.bool true) ∧ Below W.heap.size W w' := by
  obtain ⟨A, c, rfl⟩ := hr.shape
  exact plays_any fv cv sv ev kv fs cl CL sl E K A c l W hS hr hq

theorem worldPlays_own : ownKnob Try.prog.godebug = none := by kernel_rfl
theorem worldPlays_laidOut : laidOutB Try.prog = true := by kernel_rfl
set_option maxRecDepth 100000 in
set_option maxHeartbeats 2000000 in
theorem worldPlays_lifted (os : Os) (started : os.Started) (H : Type) (enc : TypeId × Value → H) :
    ReturnsInHanded {} Try.checked os 6 .any (Rows.worldPlaysSpec.pre6 enc Try.prog Try.f6 Rows.worldPlaysRow.domain false) (Rows.worldPlaysSpec.post enc Try.prog Try.f6 false true false false) := by
  refine returnsInHanded_of_change_sized (C := Try.checked) worldPlays_own started (by kernel_rfl) Try.func6
    (ChangeSpec.witness6 (enc := enc) (C := Try.checked) false ⟨#[], #[.agg #[.slice none 0 0, .slice none 0 0, .slice none 0 0, .slice none 0 0, .slice none 0 0], .slice none 0 0], []⟩ 8 (by kernel_rfl) (by kernel_rfl) (by kernel_rfl) (by kernel_rfl)) ?_
  intro W base args ds gs before hval0 hW hcnd hsz0 _
  have hval : ∀ (j : Nat) t v, Try.f6.params[j]? = some t → args[j]? = some v → Value.okWide Try.prog W .any base t v := hval0
  have hsz : (DataW.weightsEach Try.prog (Try.f6.params.toList ++ []) (ds ++ gs)).all (· ≤ reachBytes) = true := hsz0
  have hW' := hW
  obtain ⟨p, q, hA0, hV, rfl, hfz, hnd⟩ := hW
  have hA : DataW.TrodAll enc Try.prog W 0 (fun _ => true) true Try.f6.params.toList args.toList ds p := hA0
  rw [Try.params6] at hA hval hsz
  obtain ⟨v0, vs0, d0, ds0, p0, q0, hargs, rfl, rfl, h0, r0⟩ := trodAll_cons hA
  obtain ⟨v1, vs1, d1, ds1, p1, q1, rfl, rfl, rfl, h1, r1⟩ := trodAll_cons r0
  obtain ⟨rfl, rfl, rfl⟩ := trodAll_nil r1
  obtain rfl : args = #[v0, v1] := by cases args; simp_all
  obtain ⟨rfl, rfl⟩ := trodVars_none hV
  have z0 : Sized Try.prog 31 d0 := Sized.arg hsz 0 rfl rfl
  have k0 := h0
  have lt0 : ∀ x ∈ p0, x.block < W.heap.size := by obtain ⟨m, hm⟩ := k0; exact DataW.trod_lt m _ _ _ hm
  obtain ⟨cs0, rfl, hcs0⟩ := okWide_struct Try.underlying31 (hval 0 31 v0 rfl rfl)
  obtain ⟨x0a, x0b, x0c, x0d, x0e, rfl⟩ := arr5 (hcs0.trans (by kernel_rfl))
  obtain ⟨m0, hm0⟩ := h0
  obtain ⟨fs0, cl0, CL0, sl0, E0, K0, hS0⟩ := open_script hm0 z0
  have z1 : Sized Try.prog 41 d1 := Sized.arg hsz 1 rfl rfl
  have k1 := h1
  have lt1 : ∀ x ∈ p1, x.block < W.heap.size := by obtain ⟨m, hm⟩ := k1; exact DataW.trod_lt m _ _ _ hm
  obtain ⟨a1, len1, cap1, rfl⟩ := okWide_slice Try.underlying41 (hval 1 41 v1 rfl rfl)
  obtain ⟨m1, hm1⟩ := h1
  obtain ⟨l1, hr1, hq1⟩ := open_ops hm1 z1
  clear hA0 hval0 hsz0
  refine (worldPlays_walk W x0a x0b x0c x0d x0e fs0 cl0 CL0 sl0 E0 K0 hS0 _ l1 hr1 hq1).mono fun e W' ⟨he, bel⟩ => ?_
  subst he
  exact ⟨_, rfl, _, _, _, [], _, [], hW', trodAll_mk1 (shut_bool Try.underlying4 _), (trodAll_cons_mk (Below.trod worldPlays_laidOut (by kernel_rfl) (of_decide_eq_true (by kernel_rfl)) k0 bel lt0) (trodAll_cons_mk (Below.trod worldPlays_laidOut (by kernel_rfl) (of_decide_eq_true (by kernel_rfl)) k1 bel lt1) trodAll_mk0)), rfl, bel.frame _, fun h => by cases h⟩

/-- The statement. -/
theorem worldPlays_holds : Rows.WorldPlaysSaid :=
  OpenClaim.holds_of_wide 6 Try.f6 rfl rfl rfl rfl rfl rfl rfl ⟨rfl, rfl, rfl, rfl, rfl⟩ rfl rfl rfl rfl rfl (by kernel_rfl) Try.func6 (by kernel_rfl)
    (of_decide_eq_true (by kernel_rfl)) (by unfold Func.isWrapper; first | (rw [if_pos (by decide +kernel)]; kernel_rfl) | (rw [if_neg (by decide +kernel)]; exact ⟨rfl, rfl⟩))
    (fun os started H enc _ => worldPlays_lifted os started H enc)

end Go.Proofs.Yticinbkgmfoeoaa
