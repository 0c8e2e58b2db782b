/- A variable becomes an array, in the document: Become, walked. -/
import Derived.Test.YtbpaiocbgbpiaaaDfE
import Derived.Test.YtbpaiocbgbpiaaaFrW3
namespace Go.Proofs.Ytbpaiocbgbpiaaa
open Go.RowKit
set_option linter.unusedVariables false
set_option linter.unusedSimpArgs false

section
variable {m : Nat} {vS vGN vGS vC : Value} {ps : List Nat} {gp : List (ByteArray × Nat)} {cp : List CallT} {st : FS} {w : World} {i : Nat} {s : SM} {p : Nat}
theorem DF.gen (h : DF m vS vGN vGS vC ps gp cp st w) {w' : World} {st' : FS} {ps' : List Nat} (hl : st'.sl.length = st.sl.length) (hpl : ps'.length = ps.length) (hg : st'.gl = st.gl) (hc : st'.ca = st.ca)
    (hok : ∀ (i : Nat) (s : SM) (p : Nat), st'.sl[i]? = some s → ps'[i]? = some p → (p = 0 ∨ p = resA st'.sl i) ∧ (s.arr ≠ 0 → p = s.arr)) {g : Nat} (hgv : vS.ownBlock = some g) (ht : Turn w w' (fun j => j = m ∨ j = g))
    (hd : w'.heap[m]? = some (.cells #[vS, vGN, vGS, vC, .int .i64 (st'.n : Int)] 60 (0, 0)))
    (hs : w'.ownsRow 0 93 6 vS st.sl.length (slsV st'.sl ps')) : DF m vS vGN vGS vC ps' gp cp st' w' := by
  obtain ⟨c, hgd⟩ := h.sl.obj hgv
  have hmd := h.hd
  have hX : ∀ j, (j = m ∨ j = g) → ¬ ((∃ cs, w.heap[j]? = some (.cells cs 9 (0, 0))) ∨ ∃ cs, w.heap[j]? = some (.cells cs 3 (0, 0))) := fun j e hc => by
    rcases e with rfl | rfl
    · rw [hmd] at hc
      rcases hc with ⟨cs, hc⟩ | ⟨cs, hc⟩ <;> simp at hc
    · rw [hgd] at hc
      rcases hc with ⟨cs, hc⟩ | ⟨cs, hc⟩ <;> simp at hc
  have hcr : OwnZ w' 0 56 2 vC st.ca.length (cp.flatMap fun c => [c.1.1, c.1.2]) := h.cr.same fun j hj => ht.block j (h.cr.lt hj).2 fun e => by
    obtain ⟨cs, hcs⟩ := h.cr.obj hj
    rcases e with rfl | rfl
    · rw [hmd] at hcs; simp at hcs
    · rw [hgd] at hcs; simp at hcs
  exact ⟨hd, by rw [hpl, h.pl, hl], hok, by rw [hl]; exact .inl hs, h.gn.turn ht hX, by rw [hg]; exact h.g, by rw [hc]; exact hcr, by rw [hc]; exact h.cl, fun k c hk => ⟨(h.ce k c hk).1.turn ht hX, by rw [hc]; exact (h.ce k c hk).2⟩, by rw [hl]; exact h.gb, fun k c hk => (by rw [hl]; exact h.cb k c hk), h.lv⟩
theorem DF.became (h : DF m vS vGN vGS vC ps gp cp st w) (hok : OkF st) {g cap : Nat} (hv : vS = .slice (some ⟨g, 0, none⟩) st.sl.length cap) (hgm : g ≠ m) (hs : st.sl[i]? = some s) (ha : s.arr = 0) (hg : s.given = false) (hl : link st.sl s = none) {n : Int} (hn : n = ((st.n + 1 : Nat) : Int)) :
    DF m vS vGN vGS vC (ps.set i (st.n + 1)) gp cp (becS st i) ((w.setCell ⟨m, 4, none⟩ (.int .i64 n)).setCell ⟨g, i * 6 + 4, none⟩ (.int .i64 n)) ∧ Turn w ((w.setCell ⟨m, 4, none⟩ (.int .i64 n)).setCell ⟨g, i * 6 + 4, none⟩ (.int .i64 n)) (DT m w) := by
  subst hn
  have hi := (List.getElem?_eq_some_iff.1 hs).1
  obtain ⟨p, hp, _⟩ := h.arrAt hs
  subst hv
  have h1 : w.ownsRow 0 93 6 (.slice (some ⟨g, 0, none⟩) st.sl.length cap) st.sl.length (slsV st.sl ps) := by
    rcases h.sl with h1 | ⟨h1, _⟩
    · exact h1
    · omega
  have h1' : (w.setCell ⟨m, 4, none⟩ (.int .i64 ((st.n + 1 : Nat) : Int))).ownsRow 0 93 6 (.slice (some ⟨g, 0, none⟩) st.sl.length cap) st.sl.length (slsV st.sl ps) :=
    own_same h1 (fun j hj => by cases hj; exact heap_setCell_other _ _ _ _ hgm)
  obtain ⟨h2, h3⟩ := h1'.stored (i * 6 + 4) (.int .i64 ((st.n + 1 : Nat) : Int))
  rw [slsV_set (s' := ⟨st.n + 1, s.val, s.given, s.frm⟩) (p' := st.n + 1) hs hp (by omega) rfl] at h2
  have hz : resA st.sl i = 0 := by rw [resA_end hok.ok hs hl]; exact ha
  obtain ⟨k1, k2⟩ := resA_become hok.ok hs hg ha hl (m := st.n + 1) (by omega)
  have k3 := k1 i s hs hz hg (by rw [rootA_eq hok.ok hs, hl])
  have hbe := becS_self hok hs hl
  have ht : Turn w ((w.setCell ⟨m, 4, none⟩ (.int .i64 ((st.n + 1 : Nat) : Int))).setCell ⟨g, i * 6 + 4, none⟩ (.int .i64 ((st.n + 1 : Nat) : Int))) (fun j => j = m ∨ j = g) :=
    ((Turn.refl w _).setCell _ _ (fun _ => .inl rfl)).setCell _ _ (fun _ => .inr rfl)
  rw [hbe]
  refine ⟨h.gen (by simp) (by simp) rfl rfl (fun k t q hk hq => ?_) rfl ht ?_ h2, ht.mono fun j e => ?_⟩
  · dsimp only at hk ⊢
    by_cases e : k = i
    · subst e
      rw [List.getElem?_set_self (by rw [h.pl]; exact hi)] at hq
      rw [List.getElem?_set_self hi] at hk
      cases hq
      cases hk
      exact ⟨.inr k3.symm, fun _ => rfl⟩
    · rw [List.getElem?_set_ne (fun x => e x.symm)] at hq hk
      obtain ⟨h5, h6⟩ := h.pok k t q hk hq
      refine ⟨?_, h6⟩
      by_cases e0 : q = 0
      · exact .inl e0
      · have e1 := h5.resolve_left e0
        right
        rw [k2 k (by omega)]
        exact e1
  · rw [heap_setCell_other _ _ _ _ (by dsimp only; exact fun e => hgm e.symm), heap_setCell_same _ _ _ _ _ _ h.hd]
    rfl
  · rcases e with rfl | rfl
    · exact ⟨Nat.le_refl _, .inl ⟨_, h.hd⟩⟩
    · obtain ⟨c, hc⟩ := own_obj h1 (j := j) rfl
      exact ⟨h.lv j rfl, .inr ⟨c, hc⟩⟩
end
def BecAt (m : Nat) (vS vGN vGS vC : Value) (gp : List (ByteArray × Nat)) (cp : List CallT) (st : FS) (i : Nat) (w : World) (e : Ending) (w' : World) : Prop :=
  e = .returned (.int .i64 ((if resA st.sl i ≠ 0 then resA st.sl i else st.n + 1 : Nat) : Int)) ∧ (∃ ps', DF m vS vGN vGS vC ps' gp cp (if resA st.sl i ≠ 0 then st else becS st i) w') ∧ Turn w w' (DT m w)

set_option maxRecDepth 20000 in
set_option maxHeartbeats 16000000 in
theorem become24_any (m : Nat) : ∀ (i : Nat) (vS vGN vGS vC : Value) (ps : List Nat) (gp : List (ByteArray × Nat)) (cp : List CallT) (st : FS) (w : World), DF m vS vGN vGS vC ps gp cp st w → OkF st → i < st.sl.length → st.sl.length ≤ 400000000 → st.n ≤ 400000000 → (slotS st i).given = false →
    Calls Try.prog 37 #[.pointer (some ⟨m, 0, none⟩), .int .i64 (i : Int)] w (BecAt m vS vGN vGS vC gp cp st i w) := by
  intro i
  induction i using Nat.strongRecOn with
  | ind i ih =>
    intro vS vGN vGS vC ps gp cp st w h hok hi hl hn hgv
    have hs := slotS_get hi
    generalize slotS st i = s at hs hgv
    have HSn := Lib.hid (seen24_any m i vS vGN vGS vC ps gp cp st w h hok hi hl)
    have hi0 : (0 : Int) ≤ (i : Int) := by omega
    have hi1 : (i : Int) < (st.sl.length : Int) := by omega
    have hl1 : (st.sl.length : Int) ≤ 400000000 := by omega
    have hn0 : (0 : Int) ≤ (st.n : Int) := by omega
    have hn1 : (st.n : Int) ≤ 400000000 := by omega
    have HS := Lib.hid (And.intro hs hgv)
    have H := Lib.hid (And.intro hok (And.intro hi (And.intro hl hn)))
    have HI := Lib.hid ih
    clear ih h hok hi hl hs hgv hn
    by_cases hz : resA st.sl i = 0
    · have HZ := Lib.hid hz
      unfold SeenAt at HSn
      rw [hz] at HSn
      have ha := resA_zero H.out.1.ok HS.out.1 hz
      have HA := Lib.hid ha
      clear hz ha
      cases hf : s.frm with
      | none =>
        have HL := Lib.hid (show link st.sl s = none from link_no hf)
        go_enter Try.func37, Try.ntmps37
        go_wp2_with fail
        refine HSn.out.mono ?_
        rintro e w1 ⟨rfl, ⟨ps1, h1⟩, ht1⟩
        obtain ⟨d0, _, _, _, d4, dz⟩ := h1.cells
        obtain ⟨p1, hp1, _, _⟩ := h1.arrAt HS.out.1
        obtain ⟨g, cap, rfl, _, hgm, hgl, hcells, hfz⟩ := h1.slot HS.out.1 hp1
        obtain ⟨_, _, _, k3, k4, k5⟩ := sl24_at hcells
        rw [hf] at k5
        replace k5 : w1.cell? ⟨g, i * 6 + 5, none⟩ = some (.int .i64 (-1)) := k5
        have f4 := hfz (i * 6 + 4)
        have e4 := dz 4
        have H1 := Lib.hid (And.intro h1 (And.intro ht1 hgm))
        have hmg : m ≠ g := fun e => hgm e.symm
        clear h1 ht1 hp1 hcells hfz dz hf
        go_wp2_with fail
        go_ret
        obtain ⟨h1, ht1, _⟩ := H1.out
        unfold BecAt
        rw [if_neg (by rw [HZ.out]; exact fun e => e rfl), if_neg (by rw [HZ.out]; exact fun e => e rfl)]
        obtain ⟨q1, q2⟩ := h1.became H.out.1 rfl hgm HS.out.1 HA.out HS.out.2 HL.out (n := (st.n : Int) + 1) (by omega)
        exact ⟨rfl, ⟨_, q1⟩, DT.trans ht1 q2⟩
      | some j =>
        have hj : j < i := (H.out.1.ok i _ HS.out.1).2 j hf
        have hjl : j < st.sl.length := by have := H.out.2.1; omega
        have hjs := slotS_get hjl
        have hj0 : (0 : Int) ≤ (j : Int) := by omega
        have hj1 : (j : Int) < (st.sl.length : Int) := by omega
        cases hgj : (slotS st j).given with
        | true =>
          have HL := Lib.hid (link_given hf hjs hgj)
          have HJ := Lib.hid hjs
          generalize slotS st j = t at hjs hgj HJ
          clear hj hjl hjs
          go_enter Try.func37, Try.ntmps37
          go_wp2_with fail
          refine HSn.out.mono ?_
          rintro e w1 ⟨rfl, ⟨ps1, h1⟩, ht1⟩
          obtain ⟨d0, _, _, _, d4, dz⟩ := h1.cells
          obtain ⟨p1, hp1, _, _⟩ := h1.arrAt HS.out.1
          obtain ⟨p2, hp2, _, _⟩ := h1.arrAt HJ.out
          obtain ⟨g, cap, rfl, _, hgm, hgl, hcells, hfz⟩ := h1.slot HS.out.1 hp1
          obtain ⟨g', cap', e', _, _, _, hcells', _⟩ := h1.slot HJ.out hp2
          cases e'
          obtain ⟨_, _, _, k3, k4, k5⟩ := sl24_at hcells
          obtain ⟨_, _, _, l3, _, _⟩ := sl24_at hcells'
          rw [hf] at k5
          replace k5 : w1.cell? ⟨g, i * 6 + 5, none⟩ = some (.int .i64 (j : Int)) := k5
          rw [hgj] at l3
          have f4 := hfz (i * 6 + 4)
          have e4 := dz 4
          have H1 := Lib.hid (And.intro h1 (And.intro ht1 hgm))
          have hmg : m ≠ g := fun e => hgm e.symm
          clear h1 ht1 hp1 hp2 hcells hcells' hfz dz hf hgj
          go_wp2_with fail
          go_ret
          obtain ⟨h1, ht1, _⟩ := H1.out
          unfold BecAt
          rw [if_neg (by rw [HZ.out]; exact fun e => e rfl), if_neg (by rw [HZ.out]; exact fun e => e rfl)]
          obtain ⟨q1, q2⟩ := h1.became H.out.1 rfl hgm HS.out.1 HA.out HS.out.2 HL.out (n := (st.n : Int) + 1) (by omega)
          exact ⟨rfl, ⟨_, q1⟩, DT.trans ht1 q2⟩
        | false =>
          have hl := link_of hf hjs hgj
          have hzj : resA st.sl j = 0 := by rw [← resA_link H.out.1.ok HS.out.1 HA.out HS.out.2 hl]; exact HZ.out
          have hbe := becS_link H.out.1 HS.out.1 hl
          obtain ⟨q1, q2, q3, q4, q5, q6, q7⟩ := becS_facts H.out.1 H.out.2.1 HZ.out (by unfold slotS; rw [HS.out.1]; exact HS.out.2)
          have hrj : i ≠ rootA st.sl i := by
            rw [rootA_eq H.out.1.ok HS.out.1, hl]
            dsimp only
            have := (rootA_lt H.out.1.ok j hjl).1
            omega
          have hsi := (q7 i hrj).trans HS.out.1
          have hokB := H.out.1.bec hjl hzj hgj
          rw [hbe] at q1 q5 hsi
          have HB := Lib.hid (fun (w1 : World) (ps1 : List Nat) (h1 : DF m vS vGN vGS vC ps1 gp cp st w1) => HI.out j hj _ _ _ _ _ _ _ _ _ h1 H.out.1 hjl H.out.2.2.1 H.out.2.2.2 hgj)
          unfold BecAt at HB
          rw [if_neg (by rw [hzj]; exact fun e => e rfl), if_neg (by rw [hzj]; exact fun e => e rfl)] at HB
          have hq1 : ((becS st j).sl.length : Int) = (st.sl.length : Int) := by rw [q1]
          have HQ := Lib.hid (And.intro hbe (And.intro q5 (And.intro hsi (And.intro hokB q1))))
          have HJ := Lib.hid hjs
          generalize slotS st j = t at hjs hgj HJ
          generalize becS st j = stB at HB HQ hq1
          have hn2 : ((st.n + 1 : Nat) : Int) ≤ 400000001 := by omega
          clear hj hjl hjs hl hzj hbe q1 q2 q3 q4 q5 q6 q7 hrj hsi hokB
          go_enter Try.func37, Try.ntmps37
          go_wp2_with fail
          refine HSn.out.mono ?_
          rintro e w1 ⟨rfl, ⟨ps1, h1⟩, ht1⟩
          have HB1 := Lib.hid (HB.out w1 ps1 h1)
          obtain ⟨d0, _, _, _, d4, dz⟩ := h1.cells
          obtain ⟨p1, hp1, _, _⟩ := h1.arrAt HS.out.1
          obtain ⟨p2, hp2, _, _⟩ := h1.arrAt HJ.out
          obtain ⟨g, cap, rfl, _, hgm, hgl, hcells, hfz⟩ := h1.slot HS.out.1 hp1
          obtain ⟨g', cap', e', _, _, _, hcells', _⟩ := h1.slot HJ.out hp2
          cases e'
          obtain ⟨_, _, _, k3, k4, k5⟩ := sl24_at hcells
          obtain ⟨_, _, _, l3, _, _⟩ := sl24_at hcells'
          rw [hf] at k5
          replace k5 : w1.cell? ⟨g, i * 6 + 5, none⟩ = some (.int .i64 (j : Int)) := k5
          rw [hgj] at l3
          have H1 := Lib.hid (And.intro h1 (And.intro ht1 hgm))
          clear h1 ht1 hp1 hp2 hcells hcells' hfz dz hf hgj
          go_wp2_with fail
          refine HB1.out.mono ?_
          rintro e w2 ⟨rfl, ⟨ps2, h2⟩, ht2⟩
          obtain ⟨n0, _, _, _, _, _⟩ := h2.cells
          obtain ⟨p3, hp3, _, _⟩ := h2.arrAt HQ.out.2.2.1
          obtain ⟨g3, cap3, e3, _, hgm3, _, hcells3, hfz3⟩ := h2.slot HQ.out.2.2.1 hp3
          rw [HQ.out.2.2.2.2] at e3
          cases e3
          obtain ⟨_, _, _, _, n4, _⟩ := sl24_at hcells3
          have f4 := hfz3 (i * 6 + 4)
          have H2 := Lib.hid (And.intro h2 (And.intro ht2 hgm3))
          generalize hN : st.n + 1 = N at *
          have HN := Lib.hid hN
          clear h2 ht2 hgm3 hcells3 hfz3 hp3 hN
          go_wp2_with fail
          go_ret
          obtain ⟨h2, ht2, _⟩ := H2.out
          obtain ⟨h1, ht1, hgm⟩ := H1.out
          obtain ⟨r1, r2, r3, r4, r5⟩ := HQ.out
          unfold BecAt
          rw [if_neg (by rw [HZ.out]; exact fun e => e rfl), if_neg (by rw [HZ.out]; exact fun e => e rfl), r1]
          obtain ⟨q1, q2⟩ := h2.cache r4 (by rw [r5]) hgm r3 (a := N) (.inr r2.symm) (fun e => absurd HA.out e)
          refine ⟨by rw [HN.out]; rfl, ⟨_, q1⟩, DT.trans (DT.trans ht1 ht2) (h2.dts q2)⟩
    · have HZ := Lib.hid hz
      have hp : (0 : Int) < (resA st.sl i : Int) := by omega
      unfold SeenAt at HSn
      generalize ha : resA st.sl i = a at HSn hp
      have HA := Lib.hid ha
      clear hz ha
      go_enter Try.func37, Try.ntmps37
      go_wp2_with fail
      refine HSn.out.mono ?_
      rintro e w1 ⟨rfl, hd, ht1⟩
      have HD := Lib.hid hd
      clear hd
      go_wp2_with fail
      go_ret
      unfold BecAt
      rw [if_pos HZ.out, if_pos HZ.out, HA.out]
      exact ⟨rfl, HD.out, ht1⟩
end Go.Proofs.Ytbpaiocbgbpiaaa
