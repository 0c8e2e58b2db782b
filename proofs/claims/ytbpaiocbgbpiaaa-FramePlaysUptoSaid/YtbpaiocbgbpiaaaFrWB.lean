/- A call begins: the walk. -/
import Derived.Test.YtbpaiocbgbpiaaaFrWA
namespace Go.Proofs.Ytbpaiocbgbpiaaa
open Go.RowKit
set_option linter.unusedVariables false
set_option linter.unusedSimpArgs false

def PushAt (G : GH) (st : FS) (ps : List ByteArray) (args : List ArgT) (w : World) (e : Ending) (w' : World) : Prop := ∃ G', e = .returned (.int .i64 ((pushS st ps args).2 : Int)) ∧ FrGo G (pushS st ps args).1 w G' w'
def PuAt (G : GH) (st : FS) (w : World) (mb : Nat) (args : List ArgT) (ps : List ByteArray) (i : Nat) (wr : World) : Prop := PuI G st w mb i (parsS args (st, fun _ => none) 0 (ps.take i)) wr
set_option maxRecDepth 20000 in
set_option maxHeartbeats 16000000 in
theorem push_any (G : GH) (st : FS) (w : World) (A B : Option Addr) (c d : Nat) (ps : List ByteArray) (args : List ArgT) (h : FR XN G st w) (hok : OkF st) (hn : st.sl.length + 2 * ps.length < 4503599627370496)
    (hA : RowA w 1 (.slice A ps.length c) ps.length (ps.map Value.string)) (hB : RowA w 5 (.slice B args.length d) args.length (args.flatMap (argC G.ab)))
    (hAo : ∀ a n c', 0 < n → (Value.slice A ps.length c) = .slice (some a) n c' → ¬ Own G a.block) (hBo : ∀ a n c', 0 < n → (Value.slice B args.length d) = .slice (some a) n c' → ¬ Own G a.block)
    (hps : ∀ p ∈ ps, p.size ≤ maxLen) (hargs : ∀ a ∈ args, a.1 ≤ st.n ∧ a.2.1.size ≤ maxLen) :
    Calls Try.prog 9 #[.pointer (some ⟨G.F, 0, none⟩), .slice A ps.length c, .slice B args.length d] w (PushAt G st ps args w) := by
  obtain ⟨c0, c1, _⟩ := hd_cells h.hd
  obtain ⟨A3, c3, hcv⟩ := own_shape h.cr
  rw [hcv] at c1
  by_cases hlen : ps.length < args.length
  · have hp : pushS st ps args = (st, 1) := by unfold pushS; rw [if_pos hlen]
    have HP := Lib.hid (And.intro hp h)
    have l1 : (ps.length : Int) < (args.length : Int) := by omega
    clear h hok hA hB hAo hBo hps hargs hp hcv hlen hn
    go_enter Try.func9, Try.ntmps9
    go_wp2_with fail
    go_ret
    exact ⟨G, by rw [HP.out.1]; rfl, by rw [HP.out.1]; exact FrGo.refl HP.out.2⟩
  · have l1 : ¬ (ps.length : Int) < (args.length : Int) := by omega
    by_cases hca : 24 ≤ st.ca.length
    · have hp : pushS st ps args = (st, 4) := by unfold pushS; rw [if_neg hlen, if_pos hca]
      have HP := Lib.hid (And.intro hp h)
      have l2 : (24 : Int) ≤ (st.ca.length : Int) := by omega
      clear h hok hA hB hAo hBo hps hargs hp hcv hlen hn hca
      go_enter Try.func9, Try.ntmps9
      go_wp2_with fail
      go_ret
      exact ⟨G, by rw [HP.out.1]; rfl, by rw [HP.out.1]; exact FrGo.refl HP.out.2⟩
    · have l2 : ¬ (24 : Int) ≤ (st.ca.length : Int) := by omega
      have hp : pushS st ps args = (⟨(parsS args (st, fun _ => none) 0 ps).1.sl, (parsS args (st, fun _ => none) 0 ps).1.gl, (parsS args (st, fun _ => none) 0 ps).1.ca ++ [(parsS args (st, fun _ => none) 0 ps).2], (parsS args (st, fun _ => none) 0 ps).1.n⟩, 0) := by unfold pushS; rw [if_neg hlen, if_neg hca]
      have HP := Lib.hid hp
      have hb0 : Below w.heap.size w (w.alloc (.map #[] 0)) := (Below.refl _ w).alloc (Nat.le_refl _) _
      have hst : PuAt G st w w.heap.size args ps 0 (w.alloc (.map #[] 0)) :=
        ⟨⟨G, 0, (FrGo.refl h).more hb0, MapF_made w Try.prog 9, Nat.le_refl _, fun x => by have := h.lt x; omega⟩, Nat.le_refl _, hok, (fun s j hj => by cases hj), rfl, rfl, Nat.le_refl _⟩
      have H0 := Lib.hid hst
      have HR := Lib.hid (And.intro hA (And.intro hB (And.intro hAo (And.intro hBo (And.intro hps hargs)))))
      have HL := Lib.hid (And.intro hn (And.intro hca hlen))
      have HR0 := Lib.hid h.al
      have hmm := @run_makeMap Try.prog
      clear h hok hA hB hAo hBo hps hargs hp hcv hlen hn hca hst hb0
      go_enter Try.func9, Try.ntmps9
      go_wp2_with fail
      go_loopw [29] (fun v29 wr => ∃ i : Nat, v29 = .int .i64 (i : Int) ∧ i ≤ ps.length ∧ PuAt G st w w.heap.size args ps i wr) (fun v29 _ => ps.length - (intOf v29).toNat)
      case atStart => exact ⟨0, rfl, Nat.zero_le _, H0.out⟩
      case round =>
        obtain ⟨i, rfl, hi, hI⟩ := hrel
        by_cases hlt : i < ps.length
        · have i1 : (i : Int) < (ps.length : Int) := by omega
          have i0 : (0 : Int) ≤ (i : Int) := by omega
          have i3 : (ps.length : Int) < 4503599627370496 := by have := HL.out.1; omega
          obtain ⟨hA, hB, hAo, hBo, hps, hargs⟩ := HR.out
          have htk : ps.take (i + 1) = ps.take i ++ [ps[i]] := List.take_succ_eq_append_getElem hlt
          have hnx : PuAt G st w w.heap.size args ps (i + 1) = PuI G st w w.heap.size (i + 1) (parS args (parsS args (st, fun _ => none) 0 (ps.take i)) i ps[i]) := by
            unfold PuAt
            rw [htk, parsS_snoc, List.length_take, Nat.zero_add, Nat.min_eq_left (by omega)]
          have hsz := hps _ (List.getElem_mem hlt)
          have hI' : PuI G st w w.heap.size i (parsS args (st, fun _ => none) 0 (ps.take i)) wr := hI
          generalize parsS args (st, fun _ => none) 0 (ps.take i) = x at hI' hnx
          obtain ⟨G1, n, e1, e2, e3, e4⟩ := hI'.ex
          obtain ⟨b0, off0, hA', d0⟩ := str_lies hA hlt
          have d1 : wr.cell? ⟨b0, off0 + i, none⟩ = some (.string ps[i]) := e1.tu.cell d0 (hAo ⟨b0, off0, none⟩ ps.length c (by omega) (by rw [hA']))
          subst hA'
          have hb1 : Below wr.heap.size wr (wr.alloc (.cells #[.pointer none, .int .i64 0, .float .f64 0, .string ⟨#[]⟩, .bool false, .pointer none] 83)) := (Below.refl _ wr).alloc (Nat.le_refl _) _
          have hm1 := e2.same (hb1.block _ e2.lt)
          have hcap : n + 1 < maxLen := by unfold maxLen; have := HL.out.1; omega
          have hcap0 : n < maxLen := by omega
          generalize ps[i] = p at *
          have HX := Lib.hid (And.intro hI' (And.intro e1 (And.intro e2 (And.intro e3 (And.intro e4 (And.intro hnx hb1))))))
          have HM := Lib.hid hm1
          have HLT := Lib.hid hlt
          by_cases hia : i < args.length
          · have i2 : (i : Int) < (args.length : Int) := by omega
            have ha : args[i]? = some args[i] := List.getElem?_eq_getElem hia
            obtain ⟨ha1, ha2⟩ := hargs _ (List.getElem_mem hia)
            obtain ⟨b5, off5, hB', q0, q1, q2, q3, q4⟩ := arg_lies hB hia
            have hx5 : ¬ Own G b5 := hBo ⟨b5, off5, none⟩ args.length d (by omega) (by rw [hB'])
            subst hB'
            have hl5 := lt_of_cell q0
            generalize args[i] = a at *
            obtain ⟨k5, nm5, x5, y5, z5⟩ := a
            dsimp only at ha1 ha2 q0 q1 q2 q3 q4
            have hN : ∀ w2, (wr.alloc (.cells #[.pointer none, .int .i64 0, .float .f64 0, .string ⟨#[]⟩, .bool false, .pointer none] 83)).grownBy w2 (some w.heap.size) →
                FrGo G x.1 w G1 w2 ∧ (w2.cell? ⟨b5, off5 + i * 5, none⟩ = some (arP G1.ab k5) ∧ w2.cell? ⟨b5, off5 + i * 5 + 1, none⟩ = some (.string nm5) ∧ w2.cell? ⟨b5, off5 + i * 5 + 2, none⟩ = some (.int .i64 x5) ∧ w2.cell? ⟨b5, off5 + i * 5 + 3, none⟩ = some (.float .f64 y5) ∧ w2.cell? ⟨b5, off5 + i * 5 + 4, none⟩ = some (.string z5)) ∧
                Calls Try.prog 28 #[.pointer (some ⟨G.F, 0, none⟩), argV G1.ab (k5, nm5, (x5, y5, z5))] w2 (ArgAt G1 x.1 (k5, nm5, (x5, y5, z5)) w2) := fun w2 hg2 => by
              have g2 := (e1.more hb1).side ((Turn.of_grown hg2).mono (fun j e => by cases e; rfl)) (Nat.le_refl _) e4
              have hap : arP G.ab k5 = arP G1.ab k5 := by
                obtain ⟨y, hy⟩ := g2.ab
                rw [hy]
                exact (arP_apps (by rw [HR0.out]; exact ha1)).symm
              have hag := arg_any G1 x.1 w2 k5 nm5 x5 y5 z5 g2.fr hI'.ok (by rw [hI'.n]; exact ha1) ha2 (by have := hI'.len; have := HL.out.1; have := HLT.out; omega)
              rw [g2.F] at hag
              rw [hap] at q0
              exact ⟨g2, ⟨g2.tu.cell q0 hx5, g2.tu.cell q1 hx5, g2.tu.cell q2 hx5, g2.tu.cell q3 hx5, g2.tu.cell q4 hx5⟩, hag⟩
            have HN := Lib.hid hN
            have HA := Lib.hid (And.intro ha (And.intro ha1 ha2))
            clear hA hB hAo hBo hps hargs htk hnx hI hI' e1 e2 e3 e4 d0 ha hia ha1 ha2 q0 q1 q2 q3 q4 hx5 hl5 hb1 hN
            go_wp2_with (refine wpList_storeF _ rfl _ _ _ 77 rfl 9 81 Try.underlying9 Try.underlying77 w.heap.size n (mpF G1.sb x.2) rfl hm1 hcap0 p rfl hsz (.pointer (some ⟨wr.heap.size, 0, none⟩)) rfl ?_; intro w2 hm2 hg2; obtain ⟨g2, ⟨q0, q1, q2, q3, q4⟩, hag⟩ := HN.out w2 hg2; have HAG := Lib.hid hag; have HG2 := Lib.hid (And.intro g2 (And.intro hm2 hg2)); clear g2 hm2 hg2 hag)
            refine HAG.out.mono ?_
            rintro e w3 ⟨G2, b, rfl, hbp, hA3⟩
            obtain ⟨g2, hm2, hg2⟩ := HG2.out
            obtain ⟨hI', e1, e2, e3, e4, hnx, hb1⟩ := HX.out
            have hlt2 : w.heap.size < w2.heap.size := hm2.lt
            have hm3 := hm2.same (hA3.tu.block _ hlt2 e4)
            have HG3 := Lib.hid (And.intro hbp (And.intro hA3 hlt2))
            clear g2 hm2 hg2 hI' e1 e2 e3 e4 hnx hb1 hbp hA3 hlt2 HAG q0 q1 q2 q3 q4 d1 hm1 hcap0
            go_wp2_with (refine wpList_storeF _ rfl _ _ _ 77 rfl 9 81 Try.underlying9 Try.underlying77 w.heap.size (n + 1) (upd (mpF G1.sb x.2) p (.pointer (some ⟨wr.heap.size, 0, none⟩))) rfl hm3 hcap p rfl hsz (.pointer (some ⟨b, 0, none⟩)) rfl ?_; intro w4 hm4 hg4)
            go_roundw
            case rel =>
              obtain ⟨g2, hm2, hg2⟩ := HG2.out
              obtain ⟨hI', e1, e2, e3, e4, hnx, hb1⟩ := HX.out
              obtain ⟨hbp, hA3, hlt2⟩ := HG3.out
              refine ⟨i + 1, by go_num, HLT.out, ?_⟩
              rw [hnx]
              exact hI'.given p HA.out.1 HA.out.2.1 e1 hm2 (by omega) e4 hlt2 g2 hA3 hbp hm4 hg4
            case measure =>
              have hlt := HLT.out
              simp [intOf]; omega
          · have i2 : ¬ (i : Int) < (args.length : Int) := by omega
            have ha : args[i]? = none := List.getElem?_eq_none (by omega)
            have HA := Lib.hid ha
            clear hA hB hAo hBo hps hargs htk hnx hI hI' e1 e2 e3 e4 d0 hb1 ha hcap hia
            go_wp2_with (refine wpList_storeF _ rfl _ _ _ 77 rfl 9 81 Try.underlying9 Try.underlying77 w.heap.size n (mpF G1.sb x.2) rfl hm1 hcap0 p rfl hsz (.pointer (some ⟨wr.heap.size, 0, none⟩)) rfl ?_; intro w2 hm2 hg2)
            go_roundw
            case rel =>
              obtain ⟨hI', e1, e2, e3, e4, hnx, hb1⟩ := HX.out
              refine ⟨i + 1, by go_num, HLT.out, ?_⟩
              rw [hnx]
              exact hI'.blank p HA.out e1 e2 e3 e4 hm2 hg2
            case measure =>
              have hlt := HLT.out
              simp [intOf]; omega
        · obtain rfl : i = ps.length := by omega
          have hI' : PuI G st w w.heap.size ps.length (parsS args (st, fun _ => none) 0 ps) wr := by
            have := hI
            unfold PuAt at this
            rw [List.take_length] at this
            exact this
          generalize parsS args (st, fun _ => none) 0 ps = x at hI' HP
          obtain ⟨G1, n, e1, e2, e3, e4⟩ := hI'.ex
          obtain ⟨d0, d1, fz⟩ := hd_cells e1.fr.hd
          rw [e1.F] at d0 d1 fz
          have f1 := fz 1
          have hcr := e1.fr.cr
          obtain ⟨A4, c4, hcv4⟩ := own_shape hcr
          have HCV := Lib.hid hcv4
          rw [hcv4] at hcr d1
          have hca24 : x.1.ca.length < 24 := by rw [hI'.ca]; have := HL.out.2.1; omega
          have hF1 : G.F < wr.heap.size := lt_of_cell d0
          have HX := Lib.hid (And.intro hI' (And.intro e1 (And.intro e2 (And.intro e3 (And.intro e4 hca24)))))
          have hFb : some G.F ≠ (Value.slice A4 x.1.ca.length c4).ownBlock := fun e => by
            obtain ⟨cc, hc⟩ := own_obj hcr e.symm
            have := e1.fr.hd
            rw [e1.F, hc] at this
            simp at this
          have hfd := e1.fr.hd
          rw [e1.F] at hfd
          have HFd := Lib.hid hfd
          clear hfd
          clear hI hI' e1 e2 e3 e4 fz hcv4 hi hlt
          go_wp2_with (at_builtin; refine wpList_appendS 78 77 (.tmp 55) (.tmp 57) rfl rfl 0 Try.underlying78 mp_info rfl (by decide) rfl hcr rfl rfl rfl (by intro u hu; simp only [List.mem_cons, List.not_mem_nil, or_false] at hu; rcases hu with rfl; rfl) (by unfold maxLen; omega) (by omega) (Nat.zero_le _) ?_; intro v' w' hown' hgrow hloc; obtain ⟨A', c', rfl⟩ := own_shape hown'; have hd' := (hgrow.block G.F hF1 hFb).trans HFd.out; have f1' := frozen_of_row w' G.F 1 _ _ hd'; have d1' := (hd_cells hd').2.1)
          go_ret
          obtain ⟨hI', e1, e2, e3, e4, hca24⟩ := HX.out
          have hg : wr.grownBy w' G1.cv.ownBlock := by rw [HCV.out]; exact hgrow
          have hv : (Value.slice A' (x.1.ca.length + 1) c').ownBlock = G1.cv.ownBlock ∨ ∃ g, (Value.slice A' (x.1.ca.length + 1) c').ownBlock = some g ∧ wr.heap.size ≤ g := by
            rw [HCV.out]
            exact hloc.imp (fun e => e) (fun e => ⟨_, e, by omega⟩)
          have hE := e1.pushed hI'.mb e2 e4 hown' hg hv
          rw [e1.F] at hE
          exact ⟨_, by rw [HP.out]; rfl, by rw [HP.out]; exact hE⟩
end Go.Proofs.Ytbpaiocbgbpiaaa
