/- The law UstrParts answers true where what it reads is of bulk at most 1048576; what it is handed reads as before (a tied card). -/
import Derived.Test.YtaheddpmidoekaaDoorUstrPartsW
import Derived.Test.YtaheddpmidoekaaDoorUsCard
import Derived.Deep.Strs
import Derived.Lib.SmallJoins
import Derived.ShutString
namespace Go.Proofs.YtaheddpmidoekaaDoor
open Go.ChangeShapes Go.WideShapes Go.ChangeAt Go.RowKit
open Go.ChangeMaps (open_string shut_string)
open Go.Joins (trod_struct4)
open Go.Deep (trod_struct3)
set_option linter.unusedVariables false


theorem arr3 {cs : Array Value} (h : cs.size = 3) : ∃ a b c, cs = #[a, b, c] := by
  obtain ⟨l⟩ := cs
  match l, h with
  | [a, b, c], _ => exact ⟨a, b, c, rfl⟩
theorem arr4 {cs : Array Value} (h : cs.size = 4) : ∃ a b c d, cs = #[a, b, c, d] := by
  obtain ⟨l⟩ := cs
  match l, h with
  | [a, b, c, d], _ => exact ⟨a, b, c, d, rfl⟩
theorem ustrParts_cells44 : Tryd.prog.cellsOf 44 = 3 := by kernel_rfl
theorem ustrParts_reads (os : Os) {H : Type} (enc : TypeId × Value → H) : ∃ places, DataW.whole enc Tryd.prog ((laidWorld os).forCall (fun _ _ => 0) ⟨#[], #[.string ⟨#[]⟩, .string ⟨#[]⟩, .agg #[.int .i64 0, .int .i64 0, .bool false]], []⟩).memory Tryd.f9.params.toList Rows.ustrPartsSpec.vars false (#[.string ⟨#[]⟩, .string ⟨#[]⟩, .agg #[.int .i64 0, .int .i64 0, .bool false]] : Array Value).toList 8 = some ([.lit (.string []), .lit (.string []), .agg [.lit (.int .i64 0), .lit (.int .i64 0), .lit (.bool false)]], [], places) := ⟨[], by kernel_rfl⟩
theorem ustrParts_wok (os : Os) : Input.okWideB Tryd.checked.prog ((laidWorld os).forCall (fun _ _ => 0) ⟨#[], #[.string ⟨#[]⟩, .string ⟨#[]⟩, .agg #[.int .i64 0, .int .i64 0, .bool false]], []⟩) 9 ⟨#[], #[.string ⟨#[]⟩, .string ⟨#[]⟩, .agg #[.int .i64 0, .int .i64 0, .bool false]], []⟩ = true := by kernel_rfl

set_option maxRecDepth 100000 in
set_option maxHeartbeats 2000000 in
theorem ustrParts_lifted (os : Os) (started : os.Started) (H : Type) (enc : TypeId × Value → H) (F : Stop.Interp) :
    ReturnsInHanded {} Tryd.checked os 9 .any ((Rows.OpenSpec.upto Rows.ustrPartsSpec).preRow enc Tryd.prog Tryd.f9 Rows.ustrPartsUptoRow.domain false Rows.ustrPartsUptoRow.laid) (((Rows.OpenSpec.upto Rows.ustrPartsSpec).at F).post enc Tryd.prog Tryd.f9 false true false false) := by
  obtain ⟨places, hx⟩ := ustrParts_reads os enc
  refine returnsInHanded_of_row (C := Tryd.checked) (s := Rows.OpenSpec.upto Rows.ustrPartsSpec) row_own started (by kernel_rfl) Tryd.func9
    (witness_row_atRef (enc := enc) (C := Tryd.checked) false (laidWorld os) #[.string ⟨#[]⟩, .string ⟨#[]⟩, .agg #[.int .i64 0, .int .i64 0, .bool false]] rfl (by kernel_rfl) (by kernel_rfl) (ustrParts_wok os)
      (OpenSpec.preRow_of_cond 8 hx (by kernel_rfl) (fun k hk => by cases hk; kernel_rfl) (by kernel_rfl) (laid_met os _))) ?_
  intro W base args ds gs before hval0 hW _ hcond _ hL _ _
  have hval : ∀ (j : Nat) t v, Tryd.f9.params[j]? = some t → args[j]? = some v → Value.okWide Tryd.prog W .any base t v := hval0
  have hW' := hW
  obtain ⟨p, q, hA0, hV, rfl, hfz, hnd⟩ := hW
  have hA : DataW.TrodAll enc Tryd.prog W 0 (fun _ => true) true Tryd.f9.params.toList args.toList ds p := hA0
  rw [Tryd.params9] at hA hval
  obtain ⟨v0, vs0, d0, ds0, p0, q0, hargs, rfl, rfl, h0, r0⟩ := trodAll_cons hA
  obtain ⟨v1, vs1, d1, ds1, p1, q1, rfl, rfl, rfl, h1, r1⟩ := trodAll_cons r0
  obtain ⟨v2, vs2, d2, ds2, p2, q2, rfl, rfl, rfl, h2, r2⟩ := trodAll_cons r1
  obtain ⟨rfl, rfl, rfl⟩ := trodAll_nil r2
  obtain rfl : args = #[v0, v1, v2] := by cases args; simp_all
  obtain ⟨rfl, rfl⟩ := trodVars_none hV
  obtain ⟨a0, rfl, rfl, rfl, w0⟩ := open_string Tryd.underlying9 (hval 0 9 v0 rfl rfl) h0
  obtain ⟨a1, rfl, rfl, rfl, w1⟩ := open_string Tryd.underlying9 (hval 1 9 v1 rfl rfl) h1
  obtain ⟨cs2, rfl, hsz2⟩ := okWide_struct Tryd.underlying44 (hval 2 44 v2 rfl rfl)
  obtain ⟨c2_0, c2_1, c2_2, rfl⟩ : ∃ c2_0 c2_1 c2_2, cs2 = #[c2_0, c2_1, c2_2] := arr3 (hsz2.trans ustrParts_cells44)
  have k2 := h2
  obtain ⟨fuel2, hf2⟩ := h2
  obtain ⟨y2_0, y2_1, y2_2, m2, hx2, _, hy2_0, hy2_1, hy2_2⟩ := trod_struct3 Tryd.underlying44 hf2
  obtain ⟨a2_0, e2_0, rfl, w2_0⟩ := DataW.trod_int Tryd.underlying3 hy2_0
  obtain ⟨a2_1, e2_1, rfl, w2_1⟩ := DataW.trod_int Tryd.underlying3 hy2_1
  obtain ⟨a2_2, e2_2, rfl⟩ := DataW.trod_bool Tryd.underlying4 hy2_2
  simp [Value.cells, show Tryd.prog.cellsOf 4 = 1 by kernel_rfl, show Tryd.prog.cellsOf 3 = 1 by kernel_rfl] at e2_0 e2_1 e2_2
  subst e2_0 e2_1 e2_2
  simp only [Prod.mk.injEq] at hx2
  obtain ⟨rfl, rfl⟩ := hx2
  have lt2 : ∀ x ∈ (([] : List MemPlace)), x.block < W.heap.size := fun x hx => by cases hx
  simp only [List.append_nil] at k2
  clear hA0 hval0
  simp only [List.append_nil] at hW'
  have hk := of_decide_eq_true (hcond _ rfl)
  simp only [List.append_nil, Rows.uptoBulkAll, Rows.uptoBulk] at hk
  have u0 : a0.size ≤ 1048576 := by have : a0.data.toList.length = a0.size := rfl; omega
  have u1 : a1.size ≤ 1048576 := by have : a1.data.toList.length = a1.size := rfl; omega
  refine (ustrParts_walk a0 u0 a1 u1 a2_0 w2_0 a2_1 w2_1 a2_2 W (tab_of hL)).mono fun e W' ⟨he, bel⟩ => ?_
  subst he
  exact ⟨_, rfl, _, _, _, [], [], [], hW', trodAll_mk1 (shut_bool Tryd.underlying4 _), (trodAll_cons_mk (shut_string Tryd.underlying9 w0) (trodAll_cons_mk (shut_string Tryd.underlying9 w1) (trodAll_cons_mk (Below.trod row_laidOut (by kernel_rfl) (of_decide_eq_true (by kernel_rfl)) k2 bel lt2) trodAll_mk0))), rfl, bel.frame _, fun h => by cases h⟩

theorem ustrParts_said : Rows.UstrPartsUptoSaid :=
  OpenClaim.holds_of_cond 9 Tryd.f9 rfl rfl rfl rfl rfl rfl rfl ⟨rfl, rfl, rfl, rfl, rfl⟩ rfl rfl rfl rfl rfl (by kernel_rfl) Tryd.func9 (by kernel_rfl)
    (of_decide_eq_true (by kernel_rfl)) (by unfold Func.isWrapper; first | (rw [if_pos (by decide +kernel)]; kernel_rfl) | (rw [if_neg (by decide +kernel)]; exact ⟨rfl, rfl⟩))
    (fun os started H enc _ F => by rw [OpenClaim.pre_eq_preRow]; exact ustrParts_lifted os started H enc F)

theorem ustrParts_plain (f : FuncId) (fn : Func) (hf : Tryd.pinned.checked.prog.funcNamed "thresher/thresherlaw01.UstrParts" = some f) (hfn : Tryd.pinned.checked.prog.funcs[f]? = some fn) :
    false = Tryd.pinned.checked.prog.looks [] ∧ ∀ (j : Nat) t, fn.params[j]? = some t → Tryd.pinned.checked.prog.wantsStandIn t = false := by
  obtain rfl : f = 9 := Option.some.inj ((show Tryd.prog.funcNamed "thresher/thresherlaw01.UstrParts" = some 9 by kernel_rfl).symm.trans hf) |>.symm
  obtain rfl : fn = Tryd.f9 := (Option.some.inj (Tryd.func9.symm.trans hfn)).symm
  refine ⟨by kernel_rfl, fun j t ht => ?_⟩
  rw [Tryd.params9] at ht
  have hm : t ∈ [9, 9, 44] := by simpa using Array.mem_of_getElem? ht
  simp only [List.mem_cons, List.not_mem_nil, or_false] at hm
  rcases hm with rfl | rfl | rfl
  · exact (show Tryd.prog.wantsStandIn 9 = false by kernel_rfl)
  · exact (show Tryd.prog.wantsStandIn 9 = false by kernel_rfl)
  · exact (show Tryd.prog.wantsStandIn 44 = false by kernel_rfl)

/-- The card. -/
theorem ustrParts_holds : Rows.UstrPartsUptoCardSaid :=
  Claim7.holds_tied_plain_at .later [] _ _ _ _ ustrParts_said (fun _ h => by cases h) (by kernel_rfl) (fun _ h => by cases h) ustrPartsUpto_row_tie rfl ⟨rfl, rfl⟩ (by kernel_rfl) rfl ustrParts_plain (by kernel_rfl)

end Go.Proofs.YtaheddpmidoekaaDoor
