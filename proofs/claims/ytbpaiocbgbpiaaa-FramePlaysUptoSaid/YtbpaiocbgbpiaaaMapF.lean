/- Maps of strings, told as functions: what an entry holds, whatever that is. -/
import Derived.Maps.OwnSet
import Derived.WalkKit
import Derived.Below
namespace Go.Proofs.Ytbpaiocbgbpiaaa
open Go.RowKit
open Go.Maps (Keyed IsMap)
open Go.ChangeMaps Go.WideShapes
set_option linter.unusedVariables false

/-- What an element is, as it stands. -/
def rawElem (v : Value) : Option (DataW Value × List MemPlace) := some (.held v, [])
def kst (s : ByteArray) : Lit := .string s.data.toList
theorem kst_inj {s t : ByteArray} (h : kst s = kst t) : s = t := by
  cases s; cases t
  simp [kst] at h
  subst h; rfl
/-- The datum tells this function. -/
def Tells (D : DataW Value) (f : ByteArray → Option Value) : Prop :=
  IsMap D ∧ ∀ s, Maps.has D (kst s) = (f s).isSome ∧ ∀ z : Value, D.atKey (kst s) (.held z) = .held ((f s).getD z)
/-- Block b is a map of at most n entries that holds just what f says. -/
def MapF (P : Program) (k : TypeId) (w : World) (b n : Nat) (f : ByteArray → Option Value) : Prop :=
  ∃ D, w.ownsMap P k rawElem b n D ∧ Tells D f
/-- The function with one value more. -/
def upd (f : ByteArray → Option Value) (s : ByteArray) (v : Value) (t : ByteArray) : Option Value := if t.data.toList = s.data.toList then some v else f t
theorem upd_same (f : ByteArray → Option Value) (s : ByteArray) (v : Value) : upd f s v s = some v := by unfold upd; rw [if_pos rfl]
theorem upd_ne {f : ByteArray → Option Value} {s t : ByteArray} {v : Value} (h : t ≠ s) : upd f s v t = f t := by
  unfold upd
  rw [if_neg]
  intro e
  exact h (kst_inj (by unfold kst; rw [e]))

section
variable {P : Program} {k : TypeId} {w w' : World} {b n : Nat} {f : ByteArray → Option Value}
theorem MapF_made (w : World) (P : Program) (k : TypeId) : MapF P k (w.alloc (.map #[] 0)) w.heap.size 0 (fun _ => none) :=
  ⟨_, World.ownsMap_made w P k rawElem, ⟨[], rfl⟩, fun s => ⟨rfl, fun z => rfl⟩⟩
theorem MapF.mono (h : MapF P k w b n f) {n' : Nat} (hn : n ≤ n') : MapF P k w b n' f := by
  obtain ⟨D, h1, h2⟩ := h
  exact ⟨D, h1.mono hn, h2⟩
theorem MapF.lt (h : MapF P k w b n f) : b < w.heap.size := by
  obtain ⟨D, h1, _⟩ := h
  exact h1.lt
theorem MapF.obj (h : MapF P k w b n f) : ∃ es c, w.heap[b]? = some (.map es c) := by
  obtain ⟨D, ⟨es, c, h1, _⟩, _⟩ := h
  exact ⟨es, c, h1⟩
theorem MapF.same (h : MapF P k w b n f) (e : w'.heap[b]? = w.heap[b]?) : MapF P k w' b n f := by
  obtain ⟨D, ⟨es, c, h1, h3⟩, h2⟩ := h
  exact ⟨D, ⟨es, c, e.trans h1, h3⟩, h2⟩
theorem tells_put {D : DataW Value} (h : Tells D f) (K : Keyed P k) (s : ByteArray) (v : Value) (hk : WideAt.IsKeyLit (kst s)) : Tells (D.put (kst s) (.held v)) (upd f s v) := by
  obtain ⟨hm, ht⟩ := h
  have hm' : IsMap (D.put (kst s) (.held v)) := by obtain ⟨es, rfl⟩ := hm; exact ⟨_, rfl⟩
  refine ⟨hm', fun t => ?_⟩
  by_cases e : t = s
  · subst e
    rw [upd_same]
    exact ⟨Maps.has_put_same hm hk _, fun z => Maps.atKey_put_same hm hk _ _⟩
  · have hne : kst t ≠ kst s := fun h => e (kst_inj h)
    rw [upd_ne e]
    exact ⟨(Maps.has_put_other hne _).trans (ht t).1, fun z => (Maps.atKey_put_other hne _ _).trans ((ht t).2 z)⟩
end

section
variable {P : Program} (w : World) {ops : Array Oper} {rest : List Oper} {o : Oper} {a : Act} {Q : Exit → Act → World → Prop}
/-- 'v, ok := m[s]'. -/
theorem wpList_lookF_ok (hg : o.guard = none) (m x : Operand) (t : TypeId) (hop : o.op = Op.lookup t m x true)
    (k e : TypeId) (hk : P.underlying k = some .string) (ht : P.underlying t = some (.map k e)) {z : Value} (hz : (zeroValue e).run P w = .ok z w) (b n : Nat) (f : ByteArray → Option Value)
    (hm : a.eval m = .map (some b)) (hown : MapF P k w b n f) (s : ByteArray) (hx : a.eval x = .string s) (hs : s.size ≤ maxLen)
    (hK : wpList P ops Q rest (a.put o.dst (.tuple #[(f s).getD z, .bool (f s).isSome])) w) :
    wpList P ops Q (o :: rest) a w := by
  obtain ⟨D, h1, _, h2⟩ := hown
  refine wpList_lookup_own_ok w hg m x t hop k e (Maps.string_keyed hk) ht rawElem hz (.held z) [] rfl b n D hm h1 (.string s) (kst s) hx (Go.WideMaps.keyOf_string_mk hk hs) ?_
  intro v ps hv
  rw [(h2 s).2] at hv
  simp [rawElem] at hv
  obtain ⟨rfl, _⟩ := hv
  rw [(h2 s).1]
  exact hK
/-- 'm[s]'. -/
theorem wpList_lookF (hg : o.guard = none) (m x : Operand) (t : TypeId) (hop : o.op = Op.lookup t m x false)
    (k e : TypeId) (hk : P.underlying k = some .string) (ht : P.underlying t = some (.map k e)) {z : Value} (hz : (zeroValue e).run P w = .ok z w) (b n : Nat) (f : ByteArray → Option Value)
    (hm : a.eval m = .map (some b)) (hown : MapF P k w b n f) (s : ByteArray) (hx : a.eval x = .string s) (hs : s.size ≤ maxLen)
    (hK : wpList P ops Q rest (a.put o.dst ((f s).getD z)) w) :
    wpList P ops Q (o :: rest) a w := by
  obtain ⟨D, h1, _, h2⟩ := hown
  refine wpList_plain hg fun K' hK' => ?_
  obtain ⟨v, ps, hrun, hv⟩ := h1.lookup (Maps.string_keyed hk) ht hz (zd := .held z) (zp := []) rfl (Go.WideMaps.keyOf_string_mk hk hs)
  rw [show (Lit.string s.data.toList) = kst s from rfl, (h2 s).2] at hv
  simp [rawElem] at hv
  obtain ⟨rfl, _⟩ := hv
  unfold Oper.wp
  simp [execOp, hop, hm, hx, hrun, Result.andThen]
  exact hK' _ _ hK
/-- 'm[s] = v', as a run. -/
theorem run_storeF {w : World} (t k e : TypeId) (hk : P.underlying k = some .string) (ht : P.underlying t = some (.map k e)) (b n : Nat) (f : ByteArray → Option Value)
    (hown : MapF P k w b n f) (hn : n < maxLen) (s : ByteArray) (hs : s.size ≤ maxLen) (val : Value) :
    ∃ w', (Instr.mapUpdate t (.map (some b)) (.string s) val).run P w = .ok () w' ∧ MapF P k w' b (n + 1) (upd f s val) ∧ w.grownBy w' (some b) := by
  obtain ⟨D, h1, h2⟩ := hown
  have hkey := Go.WideMaps.keyOf_string_mk (P := P) hk hs
  obtain ⟨w', hr, h3, h4⟩ := h1.update (Maps.string_keyed hk) ht hn hkey (d := .held val) (ps := []) rfl
  exact ⟨w', hr, ⟨_, h3, tells_put h2 (Maps.string_keyed hk) s val ((Maps.string_keyed hk).key hkey)⟩, h4⟩
/-- 'm[s] = v'. -/
theorem wpList_storeF (hg : o.guard = none) (m x v : Operand) (t : TypeId) (hop : o.op = Op.mapUpdate t m x v)
    (k e : TypeId) (hk : P.underlying k = some .string) (ht : P.underlying t = some (.map k e)) (b n : Nat) (f : ByteArray → Option Value)
    (hm : a.eval m = .map (some b)) (hown : MapF P k w b n f) (hn : n < maxLen) (s : ByteArray) (hx : a.eval x = .string s) (hs : s.size ≤ maxLen) (val : Value) (hv : a.eval v = val)
    (hK : ∀ w', MapF P k w' b (n + 1) (upd f s val) → w.grownBy w' (some b) → wpList P ops Q rest (a.put o.dst undef) w') :
    wpList P ops Q (o :: rest) a w := by
  obtain ⟨D, h1, h2⟩ := hown
  have hkey := Go.WideMaps.keyOf_string_mk (P := P) hk hs
  refine wpList_mapUpdate_own w hg m x v t hop k e (Maps.string_keyed hk) ht rawElem b n D hm h1 hn (.string s) val (kst s) hx hv hkey (.held val) [] rfl ?_
  intro w' h3 h4
  exact hK w' ⟨_, h3, tells_put h2 (Maps.string_keyed hk) s val ((Maps.string_keyed hk).key hkey)⟩ h4
end

end Go.Proofs.Ytbpaiocbgbpiaaa
