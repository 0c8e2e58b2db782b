/- What Copy gives is a script that reads the same. -/
import Derived.Test.YticinbkgmfoeoaaCpW1
import Derived.Test.YticinbkgmfoeoaaPlW2
namespace Go.Proofs.Yticinbkgmfoeoaa
open Go.RowKit
set_option linter.unusedVariables false

theorem fileZ_len {fs : List FT} {ys : List Value} (h : ys.length = fs.length) : (fileZ fs ys).length = fs.length := by simp [fileZ, h]
theorem cmdZ_len {cl : List CT} {ys : List Value} (h : ys.length = cl.length) : (cmdZ cl ys).length = cl.length := by simp [cmdZ, h]
theorem zip_at {α β γ : Type} {f : α → β → γ} {l : List α} {m : List β} {i : Nat} {z : γ} (h : (List.zipWith f l m)[i]? = some z) : ∃ a b, l[i]? = some a ∧ m[i]? = some b ∧ z = f a b := by
  rw [List.getElem?_zipWith] at h
  cases ha : l[i]? with
  | none => rw [ha] at h; simp at h
  | some a =>
    cases hb : m[i]? with
    | none => rw [ha, hb] at h; simp at h
    | some b => rw [ha, hb] at h; simp at h; exact ⟨a, b, rfl, rfl, h.symm⟩
theorem fileL_same (nm : ByteArray) : ∀ (fs : List FT) (ys : List Value), ys.length = fs.length → fileL (fileZ fs ys) nm = fileL fs nm := by
  intro fs
  induction fs with
  | nil => intro ys h; cases ys with
    | nil => rfl
    | cons y r => simp at h
  | cons f r ih =>
    intro ys h
    cases ys with
    | nil => simp at h
    | cons y s =>
      have e : fileZ (f :: r) (y :: s) = (f.1, y, f.2.2) :: fileZ r s := rfl
      rw [e, fileL, fileL, ih s (by simpa using h)]
theorem NewIs.b {lo : Nat} {e : TypeId} {size n : Nat} {xs : List Value} {x : Value} {w : World} (h : NewIs lo e size n xs x w) : RowB w e size x n xs := ⟨h.2.rowC.a, trivial⟩
theorem CpOut.script {w0 w : World} {lo : Nat} {fv cv sv ev kv vF vC y1 y2 y3 : Value} {fs : List FT} {cl : List CT} {CL : List CM} {sl : List ByteArray} {E : List (ByteArray × ByteArray)} {K : List Int} {yf yc : List Value} (h : CpOut lo fs cl CL sl E K vF vC y1 y2 y3 yf yc w) (hS : ScriptIs w0 fv cv sv ev kv fs cl CL sl E K) :
    ScriptIs w vF vC y1 y2 y3 (fileZ fs yf) (cmdZ cl yc) CL sl E K := by
  have l1 := fileZ_len h.lenF
  have l2 := cmdZ_len h.lenC
  refine ⟨?_, by rw [l1]; exact hS.hfn, fun f hf => ?_, ?_, by rw [l2]; exact hS.hcl, ⟨by rw [l2]; exact hS.hcm.1, fun i x y hx hy => ?_⟩, hS.hcm2, h.r1.b, hS.hsl, h.r2.b, hS.hpn, h.r3.b, hS.hcn⟩
  · rw [l1]; exact ⟨(RowC.of_own h.rowF).a, trivial⟩
  · obtain ⟨k, hk⟩ := List.mem_iff_getElem?.1 hf
    obtain ⟨g, y, hg, hy, rfl⟩ := zip_at hk
    obtain ⟨_, q2, q3⟩ := hS.hf1 g (List.mem_of_getElem? hg)
    exact ⟨(h.eachF k g y hg hy).b, q2, q3⟩
  · rw [l2]; exact ⟨(RowC.of_own h.rowC).a, trivial⟩
  · obtain ⟨c, z, hc, hz, rfl⟩ := zip_at hx
    obtain ⟨q1, q2, _⟩ := hS.hcm.2 i c y hc hy
    exact ⟨q1, q2, (h.eachC i y z hy hz).b⟩
theorem CpOut.files {w : World} {lo : Nat} {vF vC y1 y2 y3 : Value} {fs : List FT} {cl : List CT} {CL : List CM} {sl : List ByteArray} {E : List (ByteArray × ByteArray)} {K : List Int} {yf yc : List Value} (h : CpOut lo fs cl CL sl E K vF vC y1 y2 y3 yf yc w) : fileL (fileZ fs yf) = fileL fs := funext fun nm => fileL_same nm fs yf h.lenF
/-- Copy of a script. -/
theorem copy_of {w : World} {fv cv sv ev kv : Value} {fs : List FT} {cl : List CT} {CL : List CM} {sl : List ByteArray} {E : List (ByteArray × ByteArray)} {K : List Int} (hS : ScriptIs w fv cv sv ev kv fs cl CL sl E K) :
    Calls Try.prog 16 #[.agg #[fv, cv, sv, ev, kv]] w fun e w' => ∃ vF vC y1 y2 y3 yf yc, e = .returned (.agg #[vF, vC, y1, y2, y3]) ∧ CpOut w.heap.size fs cl CL sl E K vF vC y1 y2 y3 yf yc w' ∧ Below w.heap.size w w' := by
  obtain ⟨A3, c3, rfl⟩ := hS.hfv.1.shape
  obtain ⟨A4, c4, rfl⟩ := hS.hcv.1.shape
  exact copy_any (w := w) (hfv' := rfl) (hf := hS.hfv.1) (hfr' := fun f hf => ⟨(hS.hf1 f hf).1.1, (hS.hf1 f hf).2.1⟩) (hfn := hS.hfn) (hcv' := rfl) (hcr := hS.hcv.1) (hcm' := hS.hcm) (hcy' := fun y hy => (hS.hcm2 y hy).1) (hcln := hS.hcl) (hs := hS.hsv.1) (he := hS.hev.1) (hk := hS.hkv.1) (n1 := hS.hsl) (n2 := hS.hpn) (n3 := hS.hcn)
end Go.Proofs.Yticinbkgmfoeoaa
