/- The methods, as a law calls them. -/
import Derived.Test.YtbpaiocbgbpiaaaFrWD
namespace Go.Proofs.Ytbpaiocbgbpiaaa
open Go.RowKit
set_option linter.unusedVariables false
set_option linter.unusedSimpArgs false

/-- What stays. -/
structure Keeps (G G' : GH) : Prop where
  F : G'.F = G.F
  ab : ∃ x, G'.ab = G.ab ++ x
  ks : ∃ x, G'.ks = G.ks ++ x
  q : G'.q = G.q
theorem Keeps.of {G G' : GH} {st : FS} {w w' : World} (g : FrGo G st w G' w') : Keeps G G' := ⟨g.F, g.ab, g.ks, g.q⟩
section
variable {lo : Nat} {w0 w : World} {G : GH} {st st' : FS}
theorem law_kind (h : LawSt lo w0 G st w) (nm : ByteArray) (hs : nm.size ≤ maxLen) (hn : st.sl.length < 9007199254740992) {r : Nat} {ri : Int} (hr : kindS st nm = (st', r)) (hri : (r : Int) = ri) {F : Nat} (hF : G.F = F) :
    Calls Try.prog 10 #[.pointer (some ⟨F, 0, none⟩), .string nm] w fun e w' => ∃ G', e = .returned (.int .i64 ri) ∧ LawSt lo w0 G' st' w' ∧ Keeps G G' := by
  subst hF hri
  refine (kind_any G st w nm h.fr h.ok hs hn).mono ?_
  rintro e w' ⟨G', he, hg⟩
  have hok := kindS_ok h.ok nm
  rw [hr] at he hg hok
  exact ⟨G', he, h.go hg hok, Keeps.of hg⟩
theorem law_get (h : LawSt lo w0 G st w) (nm : ByteArray) (hs : nm.size ≤ maxLen) (hn : st.sl.length < 9007199254740992) {c : CellT} {r : Nat} {ri : Int} (hr : getS st nm = (st', c, r)) (hri : (r : Int) = ri) {F : Nat} (hF : G.F = F) :
    Calls Try.prog 18 #[.pointer (some ⟨F, 0, none⟩), .string nm] w fun e w' => ∃ G', e = .returned (.tuple #[.agg #[.int .i64 c.1, .float .f64 c.2.1, .string c.2.2], .int .i64 ri]) ∧ LawSt lo w0 G' st' w' ∧ Keeps G G' := by
  subst hF hri
  refine (get_any G st w nm h.fr h.ok hs hn).mono ?_
  rintro e w' ⟨G', he, hg⟩
  have hok := getS_ok h.ok nm
  rw [hr] at he hg hok
  exact ⟨G', he, h.go hg hok, Keeps.of hg⟩
theorem law_set (h : LawSt lo w0 G st w) (nm : ByteArray) (hs : nm.size ≤ maxLen) (hn : st.sl.length < 9007199254740992) (x : Int) (y : Nat) (z : ByteArray) {r : Nat} {ri : Int} (hr : setS st nm (x, y, z) = (st', r)) (hri : (r : Int) = ri) {F : Nat} (hF : G.F = F) :
    Calls Try.prog 11 #[.pointer (some ⟨F, 0, none⟩), .string nm, .agg #[.int .i64 x, .float .f64 y, .string z]] w fun e w' => ∃ G', e = .returned (.int .i64 ri) ∧ LawSt lo w0 G' st' w' ∧ Keeps G G' := by
  subst hF hri
  refine (set_any G st w nm x y z h.fr h.ok hs hn).mono ?_
  rintro e w' ⟨G', he, hg⟩
  have hok := setS_ok h.ok nm (x, y, z)
  rw [hr] at he hg hok
  exact ⟨G', he, h.go hg hok, Keeps.of hg⟩
theorem law_arr (h : LawSt lo w0 G st w) (nm : ByteArray) (hs : nm.size ≤ maxLen) (hn : st.sl.length < 9007199254740992) {a r : Nat} {ri : Int} (hr : arrS st nm = (st', a, r)) (hri : (r : Int) = ri) {F : Nat} (hF : G.F = F) :
    Calls Try.prog 14 #[.pointer (some ⟨F, 0, none⟩), .string nm] w fun e w' => ∃ G', e = .returned (.tuple #[arP G'.ab a, .int .i64 ri]) ∧ LawSt lo w0 G' st' w' ∧ Keeps G G' := by
  subst hF hri
  refine (array_any G st w nm h.fr h.ok hs hn).mono ?_
  rintro e w' ⟨G', he, hg⟩
  have hok := arrS_ok h.ok nm
  rw [hr] at he hg hok
  exact ⟨G', he, h.go hg hok, Keeps.of hg⟩
theorem law_pop (h : LawSt lo w0 G st w) {r : Nat} {ri : Int} (hr : popS st = (st', r)) (hri : (r : Int) = ri) {F : Nat} (hF : G.F = F) :
    Calls Try.prog 13 #[.pointer (some ⟨F, 0, none⟩)] w fun e w' => ∃ G', e = .returned (.int .i64 ri) ∧ LawSt lo w0 G' st' w' ∧ Keeps G G' := by
  subst hF hri
  refine (pop_any G st w h.fr).mono ?_
  rintro e w' ⟨G', he, hg⟩
  have hok := popS_ok h.ok
  rw [hr] at he hg hok
  exact ⟨G', he, h.go hg hok, Keeps.of hg⟩
theorem law_depth (h : LawSt lo w0 G st w) {ri : Int} (hr : (st.ca.length : Int) = ri) {F : Nat} (hF : G.F = F) :
    Calls Try.prog 15 #[.pointer (some ⟨F, 0, none⟩)] w fun e w' => e = .returned (.int .i64 ri) ∧ w = w' := by
  subst hF hr
  exact depth_any G st w h.fr
theorem RowA.of_block {w : World} {b n s : Nat} {cs : Array Value} {t : TypeId} {l : List Value} (h : w.heap[b]? = some (.cells cs t (0, 0))) (hl : cs.toList = l) (hs : l.length = n * s) : RowA w s (.slice (some ⟨b, 0, none⟩) n n) n l := by
  subst hl
  refine ⟨hs, some ⟨b, 0, none⟩, n, rfl, (fun e => by cases e), Nat.le_refl _, fun a ha j u hj => ?_⟩
  cases ha
  rw [rd_add, Nat.zero_add]
  rw [Array.getElem?_toList] at hj
  simp [World.cell?, h, hj]
/-- Params and args in blocks of the law's own. -/
theorem law_push (h : LawSt lo w0 G st w) (ps : List ByteArray) (args : List ArgT) (hn : st.sl.length + 2 * ps.length < 4503599627370496) {A B : Option Addr} {c d n m : Nat} (hnn : ps.length = n) (hmm : args.length = m)
    (hA : RowA w 1 (.slice A ps.length c) ps.length (ps.map Value.string)) (hB : RowA w 5 (.slice B args.length d) args.length (args.flatMap (argC G.ab)))
    (hAo : ∀ a n c', 0 < n → (Value.slice A ps.length c) = .slice (some a) n c' → ¬ Own G a.block) (hBo : ∀ a n c', 0 < n → (Value.slice B args.length d) = .slice (some a) n c' → ¬ Own G a.block)
    (hps : ∀ p ∈ ps, p.size ≤ maxLen) (hargs : ∀ a ∈ args, a.1 ≤ st.n ∧ a.2.1.size ≤ maxLen) {r : Nat} {ri : Int} (hr : pushS st ps args = (st', r)) (hri : (r : Int) = ri) {F : Nat} (hF : G.F = F) :
    Calls Try.prog 9 #[.pointer (some ⟨F, 0, none⟩), .slice A n c, .slice B m d] w fun e w' => ∃ G', e = .returned (.int .i64 ri) ∧ LawSt lo w0 G' st' w' ∧ Keeps G G' := by
  subst hF hri hnn hmm
  refine (push_any G st w A B c d ps args h.fr h.ok hn hA hB hAo hBo hps hargs).mono ?_
  rintro e w' ⟨G', he, hg⟩
  have hok := pushS_ok h.ok ps args (fun a ha => (hargs a ha).1)
  rw [hr] at he hg hok
  exact ⟨G', he, h.go hg hok, Keeps.of hg⟩
end
/-- The array of a number, as it lies. -/
theorem LawSt.arr {lo : Nat} {w0 w : World} {G : GH} {st : FS} (h : LawSt lo w0 G st w) {k : Nat} (hk : k < st.n) : ∃ b mb ks, G.ab[k]? = some b ∧ G.mbs[k]? = some mb ∧ G.ks[k]? = some ks ∧ arP G.ab (k + 1) = .pointer (some ⟨b, 0, none⟩) ∧ ArrIs w b mb G.q ks := by
  have h1 : G.ab[k]? = some (G.ab[k]'(by rw [h.fr.al]; exact hk)) := List.getElem?_eq_getElem _
  exact ⟨_, _, _, h1, List.getElem?_eq_getElem (by rw [h.fr.ml]; exact hk), List.getElem?_eq_getElem (by rw [h.fr.kl]; exact hk), by simp only [arP]; rw [List.getD_eq_getElem?_getD, h1]; rfl, h.fr.arAt hk⟩
end Go.Proofs.Ytbpaiocbgbpiaaa
