/- The law 'FramePlays' returns true, and writes nothing that was there. Condition: what it reads is of bulk at most 1048576. -/
import Derived.Test.YtbpaiocbgbpiaaaRd
import Derived.SizedLaws
import Derived.Test.YtbpaiocbgbpiaaaLwI
import Derived.Deep.Strs
import Derived.Lib.SmallJoins
import Derived.Test.YtbpaiocbgbpiaaaLwC
import Derived.Test.YtbpaiocbgbpiaaaRows
import Derived.ProofKit
import Derived.OpenShut
import Derived.ChangeOld
import Derived.Below
import Derived.ShutString
import Derived.JoinedCond
import Derived.JoinedOf
import Derived.Deep.CondSized
namespace Go.Proofs.Ytbpaiocbgbpiaaa
open Go.ChangeShapes Go.WideShapes Go.Deep Go.RowKit
set_option linter.unusedVariables false

/-! ### by the reach -/
theorem weights_all {H : Type} {P : Program} {e : TypeId} {d : DataW H} {l : List (DataW H)} (h : d ∈ l) {n : Nat} (hn : n ∈ d.weights P e) : n ∈ DataW.weightsAll P e l := by
  induction l with
  | nil => cases h
  | cons y l ih =>
    simp only [DataW.weightsAll, List.mem_append]
    rcases List.mem_cons.1 h with rfl | h
    · exact .inl hn
    · exact .inr (ih h)
/-- What is read takes no more than an address space. -/
def Sized {H : Type} (P : Program) (t : TypeId) (d : DataW H) : Prop := ∀ n ∈ d.weights P t, n ≤ reachBytes
theorem Sized.arg {H : Type} {P : Program} {ts : List TypeId} {ds : List (DataW H)} (h : (DataW.weightsEach P ts ds).all (· ≤ reachBytes) = true) (j : Nat) {t : TypeId} {d : DataW H} (ht : ts[j]? = some t) (hd : ds[j]? = some d) : Sized P t d := fun n hn => by
  have := List.all_eq_true.1 h _ (DataW.weights_mem_each ht hd n hn)
  simpa using this
theorem Sized.field {H : Type} {P : Program} {t : TypeId} {fs : Array Field} {parts : List (DataW H)} (h : Sized P t (.agg parts)) (hu : P.underlying t = some (.struct fs)) (j : Nat) {u : TypeId} {d : DataW H} (ht : (fs.toList.map (·.type))[j]? = some u) (hd : parts[j]? = some d) : Sized P u d := fun n hn =>
  h n (by simp only [DataW.weights, hu]; exact DataW.weights_mem_each ht hd n hn)
section
variable {H : Type} {enc : TypeId × Value → H} {P : Program} {W : World} {base : Nat} {spare : Nat → Bool} {held : Bool}
theorem open_flatW {α : Type} [Inhabited α] {t e : TypeId} {fuel : Nat} {v : Value} {x : DataW H × List MemPlace} (ht : P.underlying t = some (.slice e)) (C : α → List Value) (k : Nat) (hC : ∀ x, (C x).length = k) (hk : P.cellsOf e = k)
    (Q : α → Prop) (each : ∀ n cs y, cs.length = k → DataW.trod enc P W base spare held n e cs = some y → Sized P e y.1 → ∃ z, cs = C z ∧ Q z)
    (h : DataW.trod enc P W base spare held fuel t [v] = some x) (hz : Sized P t x.1) :
    ∃ l : List α, RowA W k v l.length (l.flatMap C) ∧ l.length * P.bytesOf e ≤ reachBytes ∧ ∀ z ∈ l, Q z := by
  rcases open_slice ht h with ⟨h1, rfl⟩ | ⟨a, len, cap, m, n, D, Pl, h1, hb, hl, hm, hmm, rfl, hx⟩
  · simp at h1
    subst h1
    exact ⟨[], ⟨by simp, none, 0, rfl, fun _ => ⟨rfl, rfl⟩, Nat.le_refl _, fun a ha => (by cases ha)⟩, by simp, (fun s hs => by cases hs)⟩
  · simp at h1
    subst h1
    have hlm : len ≤ m := by rw [hmm]; split <;> omega
    obtain ⟨F, hF⟩ := choose_lt (α := α) (n := len) (p := fun i z => (∀ r u, (C z)[r]? = some u → W.cell? (a.add (i * k + r)) = some u) ∧ Q z) (fun i hi => by
      obtain ⟨cs, c1, c2⟩ := hx i (by omega)
      rw [hk] at c1
      obtain ⟨_, c3, c4⟩ := World.cells?_some c1
      obtain ⟨z, rfl, hz⟩ := each n cs _ c3 c2 (fun u hu => hz u (by
        simp only [DataW.weights, ht, List.mem_cons, List.mem_append]
        exact .inr (.inl (weights_all (List.mem_map.2 ⟨i, List.mem_range.2 hi, rfl⟩) hu))))
      refine ⟨z, fun r u hr => ?_, hz⟩
      have hr2 : r < k := by
        have := (List.getElem?_eq_some_iff.1 hr).1
        rw [hC] at this
        exact this
      rw [← add_add, c4 r hr2]
      exact hr)
    refine ⟨(List.range len).map F, ⟨by rw [flat_len hC], some a, cap, by simp, fun e => (by cases e), by simpa using hl, fun a' e j u hj => ?_⟩, ?_, fun z hz => ?_⟩
    · cases e
      obtain ⟨i, r, z, z1, z2, rfl⟩ := flat_at hC _ hj
      have hi : i < len := by
        have := (List.getElem?_eq_some_iff.1 z1).1
        simpa using this
      have : z = F i := by simpa [List.getElem?_map, List.getElem?_range hi] using z1.symm
      subst this
      exact (hF i hi).1 r u z2
    · have h2 := hz ((((List.range len).map D).length + ((List.range (m - len)).map (fun i => D (len + i))).length) * P.bytesOf e) (by simp [DataW.weights, ht])
      refine Nat.le_trans (Nat.mul_le_mul_right _ ?_) h2
      simp
    · obtain ⟨i, hi, rfl⟩ := List.mem_map.1 hz
      exact (hF i (List.mem_range.1 hi)).2
theorem open_slW {t e : TypeId} {fuel : Nat} {v : Value} {x : DataW H × List MemPlace} (ht : P.underlying t = some (.slice e)) (he : P.underlying e = some .string) (hc : P.cellsOf e = 1)
    (h : DataW.trod enc P W base spare held fuel t [v] = some x) (hz : Sized P t x.1) :
    ∃ l : List ByteArray, RowA W 1 v l.length (l.map Value.string) ∧ l.length * P.bytesOf e ≤ reachBytes ∧ ∀ s ∈ l, s.size ≤ maxLen := by
  obtain ⟨l, h1, h2, h3⟩ := open_flatW (α := ByteArray) ht (fun s => [.string s]) 1 (fun _ => rfl) hc (fun s => s.size ≤ maxLen) (fun n cs y hcs hy _ => by
    obtain ⟨s, rfl, rfl, ws⟩ := DataW.trod_string he hy
    exact ⟨s, rfl, ws⟩) h hz
  have e : l.flatMap (fun s => [Value.string s]) = l.map Value.string := by
    clear h1 h2 h3
    induction l with
    | nil => rfl
    | cons x l ih => rw [List.flatMap_cons, ih]; rfl
  rw [e] at h1
  exact ⟨l, h1, h2, h3⟩
end

end Go.Proofs.Ytbpaiocbgbpiaaa

namespace Go.Proofs.Ytbpaiocbgbpiaaa
open Go.ChangeShapes Go.WideShapes Go.RowKit Go.Deep
set_option linter.unusedVariables false
set_option linter.unusedSimpArgs false

section
variable {H : Type} {enc : TypeId × Value → H} {W : World} {base : Nat} {spare : Nat → Bool} {held : Bool}
theorem cw_str : Try.prog.cellsOf 9 = 1 := by kernel_rfl
theorem cw_int : Try.prog.cellsOf 3 = 1 := by kernel_rfl
theorem cw_strs : Try.prog.cellsOf 27 = 1 := by kernel_rfl
theorem cw_args : Try.prog.cellsOf 62 = 1 := by kernel_rfl
theorem cw_arg : Try.prog.cellsOf 72 = 3 := by kernel_rfl
theorem cw_op : Try.prog.cellsOf 64 = 5 := by kernel_rfl
theorem open_ads {fuel : Nat} {v : Value} {x : DataW H × List MemPlace} (h : DataW.trod enc Try.prog W base spare held fuel 62 [v] = some x) :
    ∃ l : List AD, RowA W 3 v l.length (l.flatMap adC) ∧ l.length ≤ Rows.uptoBulk x.1 ∧ ∀ z ∈ l, z.2.1.size ≤ Rows.uptoBulk x.1 ∧ z.2.1.size ≤ maxLen ∧ z.2.2.size ≤ Rows.uptoBulk x.1 := by
  refine open_flat (α := AD) Try.underlying62 adC 3 (fun _ => rfl) cw_arg (fun z b => z.2.1.size ≤ b ∧ z.2.1.size ≤ maxLen ∧ z.2.2.size ≤ b) (fun y a b hab hy => ⟨Nat.le_trans hy.1 hab, hy.2.1, Nat.le_trans hy.2.2 hab⟩) ?_ h
  intro n cs y hcs hy
  obtain ⟨c0, c1, c2, rfl⟩ := lis3 hcs
  obtain ⟨xs, n', _, rfl, hl, hlen, hf⟩ := DataW.trod_struct Try.underlying72 hy
  have key : ∃ y0 y1 y2, xs = [y0, y1, y2] := by
    match xs, hlen with
    | [y0, y1, y2], _ => exact ⟨y0, y1, y2, rfl⟩
  obtain ⟨y0, y1, y2, rfl⟩ := key
  have h0 := hf 0 _ rfl
  have h1 := hf 1 _ rfl
  have h2 := hf 2 _ rfl
  simp only [List.getElem?_cons_zero, List.getElem?_cons_succ] at h0 h1 h2
  obtain ⟨k, e0, rfl, _⟩ := DataW.trod_int Try.underlying3 h0
  obtain ⟨s, e1, rfl, ws⟩ := DataW.trod_string Try.underlying9 h1
  obtain ⟨t, e2, rfl, wt⟩ := DataW.trod_string Try.underlying9 h2
  have es : s.data.toList.length = s.size := rfl
  have et : t.data.toList.length = t.size := rfl
  refine ⟨(k, s, t), ?_, ?_⟩
  · change List.take (Try.prog.cellsOf 3) [c0, c1, c2] = _ at e0
    change List.take (Try.prog.cellsOf 9) [c1, c2] = _ at e1
    change List.take (Try.prog.cellsOf 9) [c2] = _ at e2
    rw [cw_int] at e0
    rw [cw_str] at e1 e2
    simp only [List.take_succ_cons, List.take_zero, List.cons.injEq, and_true] at e0 e1 e2
    rw [e0, e1, e2]
    rfl
  · simp only [List.map_cons, List.map_nil, Rows.uptoBulk, Rows.uptoBulkAll]
    refine ⟨?_, ws, ?_⟩ <;> omega
theorem open_plays {fuel : Nat} {v : Value} {x : DataW H × List MemPlace} (h : DataW.trod enc Try.prog W base spare held fuel 52 [v] = some x) (hb : Rows.uptoBulk x.1 ≤ 1048576) :
    ∃ l : List OpD, RowA W 5 v l.length (l.flatMap opC) ∧ ∀ o ∈ l, OpOk W o := by
  have key := open_flat (α := OpD) Try.underlying52 opC 5 (fun _ => rfl) cw_op (fun o b => b ≤ 1048576 → OpOk W o) (fun y a b hab hy hb => hy (Nat.le_trans hab hb)) ?_ h
  · obtain ⟨l, h1, _, h3⟩ := key
    exact ⟨l, h1, fun o ho => h3 o ho hb⟩
  intro n cs y hcs hy
  obtain ⟨c0, c1, c2, c3, c4, rfl⟩ : ∃ c0 c1 c2 c3 c4, cs = [c0, c1, c2, c3, c4] := by
    match cs, hcs with
    | [c0, c1, c2, c3, c4], _ => exact ⟨c0, c1, c2, c3, c4, rfl⟩
  obtain ⟨xs, n', _, rfl, hl, hlen, hf⟩ := DataW.trod_struct Try.underlying64 hy
  obtain ⟨y0, y1, y2, y3, y4, rfl⟩ : ∃ y0 y1 y2 y3 y4, xs = [y0, y1, y2, y3, y4] := by
    match xs, hlen with
    | [y0, y1, y2, y3, y4], _ => exact ⟨y0, y1, y2, y3, y4, rfl⟩
  have h0 := hf 0 _ rfl
  have h1 := hf 1 _ rfl
  have h2 := hf 2 _ rfl
  have h3 := hf 3 _ rfl
  have h4 := hf 4 _ rfl
  simp only [List.getElem?_cons_zero, List.getElem?_cons_succ] at h0 h1 h2 h3 h4
  obtain ⟨k, e0, rfl, _⟩ := DataW.trod_int Try.underlying3 h0
  obtain ⟨s, e1, rfl, ws⟩ := DataW.trod_string Try.underlying9 h1
  obtain ⟨t, e2, rfl, wt⟩ := DataW.trod_string Try.underlying9 h2
  change List.take (Try.prog.cellsOf 3) [c0, c1, c2, c3, c4] = _ at e0
  change List.take (Try.prog.cellsOf 9) [c1, c2, c3, c4] = _ at e1
  change List.take (Try.prog.cellsOf 9) [c2, c3, c4] = _ at e2
  change DataW.trod enc Try.prog W base spare held n' 27 (List.take (Try.prog.cellsOf 27) [c3, c4]) = some y3 at h3
  change DataW.trod enc Try.prog W base spare held n' 62 (List.take (Try.prog.cellsOf 62) [c4]) = some y4 at h4
  rw [cw_int] at e0
  rw [cw_str] at e1 e2
  rw [cw_strs] at h3
  rw [cw_args] at h4
  simp only [List.take_succ_cons, List.take_zero, List.cons.injEq, and_true] at e0 e1 e2 h3 h4
  obtain ⟨ps, p1, p2, p3, p4⟩ := open_sl Try.underlying27 Try.underlying9 cw_str h3
  obtain ⟨ag, a1, a2, a3⟩ := open_ads h4
  have es : s.data.toList.length = s.size := rfl
  have et : t.data.toList.length = t.size := rfl
  refine ⟨⟨k, s, t, c3, ps, c4, ag⟩, ?_, fun hb => ?_⟩
  · rw [e0, e1, e2]
    rfl
  · simp only [List.map_cons, List.map_nil, Rows.uptoBulk, Rows.uptoBulkAll] at hb
    exact ⟨ws, by dsimp only; omega, p1, a1, by dsimp only; omega, by dsimp only; omega, p2, fun z hz => by have := a3 z hz; exact ⟨this.2.1, by omega⟩⟩
end
end Go.Proofs.Ytbpaiocbgbpiaaa

namespace Go.Proofs.Ytbpaiocbgbpiaaa
open Go.ChangeShapes Go.WideShapes Go.ChangeAt Go.RowKit
open Go.ChangeMaps (open_string shut_string)
set_option linter.unusedVariables false

theorem framePlays_walk (W : World) (v : Value) (l : List OpD) (hr : RowA W 5 v l.length (l.flatMap opC)) (hq : ∀ o ∈ l, OpOk W o) : Calls Try.prog 6 #[v] W fun e w' => e = .returned (.bool true) ∧ Below W.heap.size W w' := by
  obtain ⟨A, c, rfl⟩ := hr.shape
  exact plays_any A c l W hr hq

theorem framePlays_own : ownKnob Try.prog.godebug = none := by kernel_rfl
theorem framePlays_laidOut : laidOutB Try.prog = true := by kernel_rfl
set_option maxRecDepth 100000 in
set_option maxHeartbeats 2000000 in
theorem framePlays_lifted (os : Os) (started : os.Started) (H : Type) (enc : TypeId × Value → H) (F0 : Stop.Interp) :
    ReturnsInHanded {} Try.checked os 6 .any ((Rows.OpenSpec.upto Rows.framePlaysSpec).pre6 enc Try.prog Try.f6 Rows.framePlaysUptoRow.domain false) (((Rows.OpenSpec.upto Rows.framePlaysSpec).at F0).post enc Try.prog Try.f6 false true false false) := by
  refine returnsInHanded_of_cond_sized (C := Try.checked) (s := (Rows.OpenSpec.upto Rows.framePlaysSpec)) (k := Rows.uptoSmall) rfl framePlays_own started (by kernel_rfl) Try.func6
    (OpenSpec.witness (enc := enc) (C := Try.checked) (s := (Rows.OpenSpec.upto Rows.framePlaysSpec)) (k := Rows.uptoSmall) rfl false ⟨#[], #[.slice none 0 0], []⟩ 8 (by kernel_rfl) (by kernel_rfl) (by kernel_rfl)
      (x := ([.nil], [], [])) (by kernel_rfl) (by kernel_rfl) (by kernel_rfl)) ?_
  intro W base args ds gs before hval0 hW _ hcond hsz0 _
  have hval : ∀ (j : Nat) t v, Try.f6.params[j]? = some t → args[j]? = some v → Value.okWide Try.prog W .any base t v := hval0
  have hsz : (DataW.weightsEach Try.prog (Try.f6.params.toList ++ []) (ds ++ gs)).all (· ≤ reachBytes) = true := hsz0
  have hW' := hW
  obtain ⟨p, q, hA0, hV, rfl, hfz, hnd⟩ := hW
  have hA : DataW.TrodAll enc Try.prog W 0 (fun _ => true) true Try.f6.params.toList args.toList ds p := hA0
  rw [Try.params6] at hA hval hsz
  obtain ⟨v0, vs0, d0, ds0, p0, q0, hargs, rfl, rfl, h0, r0⟩ := trodAll_cons hA
  obtain ⟨rfl, rfl, rfl⟩ := trodAll_nil r0
  obtain rfl : args = #[v0] := by cases args; simp_all
  obtain ⟨rfl, rfl⟩ := trodVars_none hV
  have z0 : Sized Try.prog 52 d0 := Sized.arg hsz 0 rfl rfl
  have k0 := h0
  have lt0 : ∀ x ∈ p0, x.block < W.heap.size := by obtain ⟨m, hm⟩ := k0; exact DataW.trod_lt m _ _ _ hm
  obtain ⟨a0, len0, cap0, rfl⟩ := okWide_slice Try.underlying52 (hval 0 52 v0 rfl rfl)
  obtain ⟨m0, hm0⟩ := h0
  have hbk0 := of_decide_eq_true hcond
  simp only [List.append_nil, Rows.uptoBulkAll] at hbk0
  obtain ⟨l0, hr0, hq0⟩ := open_plays hm0 (by omega)
  clear hA0 hval0 hsz0
  refine (framePlays_walk W _ l0 hr0 hq0).mono fun e W' ⟨he, bel⟩ => ?_
  subst he
  exact ⟨_, rfl, _, _, _, [], _, [], hW', trodAll_mk1 (shut_bool Try.underlying4 _), (trodAll_cons_mk (Below.trod framePlays_laidOut (by kernel_rfl) (of_decide_eq_true (by kernel_rfl)) k0 bel lt0) trodAll_mk0), rfl, bel.frame _, fun h => by cases h⟩

/-- The statement. -/
theorem framePlays_holds : Rows.FramePlaysUptoSaid :=
  OpenClaim.holds_of_cond 6 Try.f6 rfl rfl rfl rfl rfl rfl rfl ⟨rfl, rfl, rfl, rfl, rfl⟩ rfl rfl rfl rfl rfl (by kernel_rfl) Try.func6 (by kernel_rfl)
    (of_decide_eq_true (by kernel_rfl)) (by unfold Func.isWrapper; first | (rw [if_pos (by decide +kernel)]; kernel_rfl) | (rw [if_neg (by decide +kernel)]; exact ⟨rfl, rfl⟩))
    (fun os started H enc _ F0 => framePlays_lifted os started H enc F0)

end Go.Proofs.Ytbpaiocbgbpiaaa
