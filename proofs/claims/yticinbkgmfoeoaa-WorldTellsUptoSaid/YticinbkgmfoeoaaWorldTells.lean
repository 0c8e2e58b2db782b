/- The law 'WorldTells' returns true, and writes nothing that was there. Condition: what it reads is of bulk at most 1048576. -/
import Derived.Test.YticinbkgmfoeoaaTellsW
import Derived.Test.YticinbkgmfoeoaaRd
import Derived.Test.YticinbkgmfoeoaaRows
import Derived.ProofKit
import Derived.OpenShut
import Derived.ChangeOld
import Derived.Below
import Derived.ShutString
import Derived.JoinedCond
import Derived.JoinedOf
namespace Go.Proofs.Yticinbkgmfoeoaa
open Go.ChangeShapes Go.WideShapes Go.ChangeAt Go.RowKit
open Go.ChangeMaps (open_string shut_string)
set_option linter.unusedVariables false

theorem worldTells_walk (W : World) (v : Value) (l : List ByteArray) (b : RowA W 1 v l.length (l.map Value.string)) (x : l.length ≤ 1048576) (y : ∀ s ∈ l, s.size ≤ 1048576) (nm : ByteArray) (u : nm.size ≤ 1048576) : Calls Try.prog 4 #[v, .string nm] W fun e w' => e = .returned (.bool true) ∧ Below W.heap.size W w' := by
  obtain ⟨A, c, rfl⟩ := b.shape
  exact tells_any A c l nm W b x y u

theorem worldTells_own : ownKnob Try.prog.godebug = none := by kernel_rfl
theorem worldTells_laidOut : laidOutB Try.prog = true := by kernel_rfl
set_option maxRecDepth 100000 in
set_option maxHeartbeats 2000000 in
theorem worldTells_lifted (os : Os) (started : os.Started) (H : Type) (enc : TypeId × Value → H) (F0 : Stop.Interp) :
    ReturnsInHanded {} Try.checked os 4 .any ((Rows.OpenSpec.upto Rows.worldTellsSpec).pre6 enc Try.prog Try.f4 Rows.worldTellsUptoRow.domain false) (((Rows.OpenSpec.upto Rows.worldTellsSpec).at F0).post enc Try.prog Try.f4 false true false false) := by
  refine returnsInHanded_of_cond (C := Try.checked) (s := (Rows.OpenSpec.upto Rows.worldTellsSpec)) (k := Rows.uptoSmall) rfl worldTells_own started (by kernel_rfl) Try.func4
    (OpenSpec.witness (enc := enc) (C := Try.checked) (s := (Rows.OpenSpec.upto Rows.worldTellsSpec)) (k := Rows.uptoSmall) rfl false ⟨#[], #[.slice none 0 0, .string ⟨#[]⟩], []⟩ 8 (by kernel_rfl) (by kernel_rfl) (by kernel_rfl)
      (x := ([.nil, .lit (.string [])], [], [])) (by kernel_rfl) (by kernel_rfl) (by kernel_rfl)) ?_
  intro W base args ds gs before hval0 hW _ hcond _
  have hval : ∀ (j : Nat) t v, Try.f4.params[j]? = some t → args[j]? = some v → Value.okWide Try.prog W .any base t v := hval0
  have hW' := hW
  obtain ⟨p, q, hA0, hV, rfl, hfz, hnd⟩ := hW
  have hA : DataW.TrodAll enc Try.prog W 0 (fun _ => true) true Try.f4.params.toList args.toList ds p := hA0
  rw [Try.params4] at hA hval
  obtain ⟨v0, vs0, d0, ds0, p0, q0, hargs, rfl, rfl, h0, r0⟩ := trodAll_cons hA
  obtain ⟨v1, vs1, d1, ds1, p1, q1, rfl, rfl, rfl, h1, r1⟩ := trodAll_cons r0
  obtain ⟨rfl, rfl, rfl⟩ := trodAll_nil r1
  obtain rfl : args = #[v0, v1] := by cases args; simp_all
  obtain ⟨rfl, rfl⟩ := trodVars_none hV
  have k0 := h0
  have lt0 : ∀ x ∈ p0, x.block < W.heap.size := by obtain ⟨m, hm⟩ := k0; exact DataW.trod_lt m _ _ _ hm
  obtain ⟨a0, len0, cap0, rfl⟩ := okWide_slice Try.underlying23 (hval 0 23 v0 rfl rfl)
  obtain ⟨l0, b0, c0, e0, f0⟩ := (fun ⟨m, hm⟩ => open_sl Try.underlying23 Try.underlying9 (by kernel_rfl) hm : _ → _) h0
  dsimp only at e0 f0
  obtain ⟨a1, rfl, rfl, rfl, w1⟩ := open_string Try.underlying9 (hval 1 9 v1 rfl rfl) h1
  clear hA0 hval0
  have hk := of_decide_eq_true hcond
  simp only [List.append_nil, Rows.uptoBulkAll, Rows.uptoBulk] at hk
  have x0 : l0.length ≤ 1048576 := by omega
  have y0 : ∀ s ∈ l0, s.size ≤ 1048576 := fun s hs => by have := f0 s hs; omega
  have u1 : a1.size ≤ 1048576 := by have : a1.data.toList.length = a1.size := rfl; omega
  refine (worldTells_walk W _ l0 b0 x0 y0 a1 u1).mono fun e W' ⟨he, bel⟩ => ?_
  subst he
  exact ⟨_, rfl, _, _, _, [], _, [], hW', trodAll_mk1 (shut_bool Try.underlying4 _), (trodAll_cons_mk (Below.trod worldTells_laidOut (by kernel_rfl) (of_decide_eq_true (by kernel_rfl)) k0 bel lt0) (trodAll_cons_mk (shut_string Try.underlying9 w1) trodAll_mk0)), rfl, bel.frame _, fun h => by cases h⟩

/-- The statement. -/
theorem worldTells_holds : Rows.WorldTellsUptoSaid :=
  OpenClaim.holds_of_cond 4 Try.f4 rfl rfl rfl rfl rfl rfl rfl ⟨rfl, rfl, rfl, rfl, rfl⟩ rfl rfl rfl rfl rfl (by kernel_rfl) Try.func4 (by kernel_rfl)
    (of_decide_eq_true (by kernel_rfl)) (by unfold Func.isWrapper; first | (rw [if_pos (by decide +kernel)]; kernel_rfl) | (rw [if_neg (by decide +kernel)]; exact ⟨rfl, rfl⟩))
    (fun os started H enc _ F0 => worldTells_lifted os started H enc F0)

end Go.Proofs.Yticinbkgmfoeoaa
