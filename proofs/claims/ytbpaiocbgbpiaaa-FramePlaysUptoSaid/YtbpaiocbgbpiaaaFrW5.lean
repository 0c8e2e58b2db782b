/- A variable is found: the walk. -/
import Derived.Test.YtbpaiocbgbpiaaaFrW4
namespace Go.Proofs.Ytbpaiocbgbpiaaa
open Go.RowKit
set_option linter.unusedVariables false
set_option linter.unusedSimpArgs false

def FindAt (G : GH) (st : FS) (nm : ByteArray) (w : World) (e : Ending) (w' : World) : Prop :=
  ∃ G', e = .returned (slP G'.sb (findS st nm).2) ∧ FrGo G (findS st nm).1 w G' w'
/-- What is behind the look into the call's map, of a name that is there or is not. -/
theorem find_old {G : GH} {st : FS} {w : World} (h : FR XN G st w) {nm : ByteArray} {i : Nat} (hf : findS st nm = (st, i)) : FindAt G st nm w (.returned (slP G.sb i)) w := by
  unfold FindAt
  rw [hf]
  exact ⟨G, rfl, FrGo.refl h⟩
theorem find_new {G : GH} {st : FS} {w : World} (h : FR XN G st w) (hok : OkF st) {nm : ByteArray} (hf : findS st nm = (⟨st.sl ++ [SM.blank], putN st.gl nm st.sl.length, st.ca, st.n⟩, st.sl.length)) {n : Nat} {w2 : World} (hn : n ≤ st.sl.length + 1)
    (hm : MapF Try.prog 9 w2 G.bg n (mpF (G.sb ++ [w.heap.size]) (putN st.gl nm st.sl.length)))
    (hg : (w.alloc (.cells #[.pointer none, .int .i64 0, .float .f64 0, .string ⟨#[]⟩, .bool false, .pointer none] 83)).grownBy w2 (some G.bg)) : FindAt G st nm w (.returned (.pointer (some ⟨w.heap.size, 0, none⟩))) w2 := by
  unfold FindAt
  rw [hf]
  have hb : Below w.heap.size w (w.alloc (.cells #[.pointer none, .int .i64 0, .float .f64 0, .string ⟨#[]⟩, .bool false, .pointer none] 83)) := (Below.refl _ w).alloc (Nat.le_refl _) _
  have k := h.addSlot hok hb (b := w.heap.size) (p := 0) (Nat.le_refl _) SM.blank (fun _ => rfl) (fun j hj => by simp [SM.blank] at hj) (by have := heap_alloc_new w (.cells #[.pointer none, .int .i64 0, .float .f64 0, .string ⟨#[]⟩, .bool false, .pointer none] 83); exact this) (.inl rfl) (fun x => absurd rfl x)
  have k2 := k.putGl (n := n) (by simp [addS]; exact hn) _ hm hg
  refine ⟨G.slot w.heap.size, ?_, k2, ?_, fun j x => ?_, rfl, ⟨_, rfl⟩, ⟨[], by simp [GH.slot]⟩, ⟨[], by simp [GH.slot]⟩, rfl⟩
  · simp only [GH.slot]
    rw [← h.sl, slP_last]
  · refine (Turn.of_below hb _).trans (Turn.of_grown hg) (fun _ x => x) (fun j _ x => ?_)
    cases x
    exact .inr (.inl rfl)
  · rcases x with x | x | x | x | x | x | x
    · exact .inl (.inl x)
    · exact .inl (.inr (.inl x))
    · exact .inl (.inr (.inr (.inl x)))
    · exact .inl (.inr (.inr (.inr (.inl x))))
    · simp only [GH.slot, List.mem_append, List.mem_singleton] at x
      rcases x with x | x
      · exact .inl (.inr (.inr (.inr (.inr (.inl x)))))
      · subst x; exact .inr (Nat.le_refl _)
    · exact .inl (.inr (.inr (.inr (.inr (.inr (.inl x))))))
    · exact .inl (.inr (.inr (.inr (.inr (.inr (.inr x))))))
theorem mpF_at (sb : List Nat) (f : ByteArray → Option Nat) (s : ByteArray) : mpF sb f s = (f s).map (slP sb) := rfl
set_option maxHeartbeats 8000000 in
theorem find_any (G : GH) (st : FS) (w : World) (nm : ByteArray) (h : FR XN G st w) (hok : OkF st) (hs : nm.size ≤ maxLen) (hn : st.sl.length < 9007199254740992) :
    Calls Try.prog 29 #[.pointer (some ⟨G.F, 0, none⟩), .string nm] w (FindAt G st nm w) := by
  obtain ⟨c0, c1, _⟩ := hd_cells h.hd
  obtain ⟨n0, hn0, hm0⟩ := h.gm
  have hm0' := hm0.same (Below.heap_alloc w (.cells #[.pointer none, .int .i64 0, .float .f64 0, .string ⟨#[]⟩, .bool false, .pointer none] 83) _ hm0.lt)
  have hcap : n0 < maxLen := by unfold maxLen; omega
  have hput := @mpF_app G.sb w.heap.size st.gl (fun s i hi => by rw [h.sl]; exact hok.g s i hi)
  rw [← hput] at hm0'
  have hpl : slP (G.sb ++ [w.heap.size]) st.sl.length = .pointer (some ⟨w.heap.size, 0, none⟩) := by rw [← h.sl]; exact slP_last _ _
  have hF : G.F < w.heap.size := (Array.getElem?_eq_some_iff.1 h.hd).1
  have c0' : (w.alloc (.cells #[.pointer none, .int .i64 0, .float .f64 0, .string ⟨#[]⟩, .bool false, .pointer none] 83)).cell? ⟨G.F, 0, none⟩ = some (.map (some G.bg)) := (((Below.refl w.heap.size w).alloc (Nat.le_refl _) _).cell (p := ⟨G.F, 0, none⟩) hF).trans c0
  have HP := Lib.hid (And.intro hpl hput)
  have HM := Lib.hid hm0'
  have HN0 := Lib.hid hn0
  have H := Lib.hid (And.intro h hok)
  by_cases hca : st.ca = []
  · have hcl : callAt st nm = none := by unfold callAt; rw [hca]; rfl
    obtain ⟨A, c, hcv⟩ := own_shape h.cr
    have hcv0 : G.cv = .slice A 0 c := by rw [hcv, hca]; rfl
    rw [hcv0] at c1
    cases hgl : st.gl nm with
    | some i =>
      have hfs : findS st nm = (st, i) := by unfold findS; rw [hcl, hgl]
      have HF := Lib.hid hfs
      have HG := Lib.hid hgl
      clear h hok hca hcl hcv0 hgl hfs hm0' hput hpl hn0 c0'
      go_enter Try.func29, Try.ntmps29
      go_wp2_with (at_lookup; refine wpList_lookF_ok _ rfl _ _ 77 rfl 9 81 Try.underlying9 Try.underlying77 (zero_sl _) G.bg n0 (mpF G.sb st.gl) rfl hm0 nm rfl hs ?_; rw [mpF_at, HG.out]; simp only [Option.map_some, Option.map_none, Option.getD_some, Option.getD_none, Option.isSome_some, Option.isSome_none])
      go_ret
      exact find_old H.out.1 HF.out
    | none =>
      have hfs : findS st nm = (⟨st.sl ++ [SM.blank], putN st.gl nm st.sl.length, st.ca, st.n⟩, st.sl.length) := by unfold findS; rw [hcl, hgl]
      have HF := Lib.hid hfs
      have HG := Lib.hid hgl
      clear h hok hca hcl hcv0 hgl hfs hput hpl hn0
      go_enter Try.func29, Try.ntmps29
      go_wp2_with (first | (at_lookup; refine wpList_lookF_ok _ rfl _ _ 77 rfl 9 81 Try.underlying9 Try.underlying77 (zero_sl _) G.bg n0 (mpF G.sb st.gl) rfl hm0 nm rfl hs ?_; rw [mpF_at, HG.out]; simp only [Option.map_some, Option.map_none, Option.getD_some, Option.getD_none, Option.isSome_some, Option.isSome_none]) | (refine wpList_storeF _ rfl _ _ _ 77 rfl 9 81 Try.underlying9 Try.underlying77 G.bg n0 (mpF (G.sb ++ [w.heap.size]) st.gl) rfl hm0' hcap nm rfl hs (.pointer (some ⟨w.heap.size, 0, none⟩)) rfl ?_; intro w2 hm2 hg2))
      go_ret
      obtain ⟨hpl, hput⟩ := HP.out
      rw [← hpl, mpF_put] at hm2
      exact find_new H.out.1 H.out.2 HF.out (Nat.succ_le_succ HN0.out) hm2 hg2
  · obtain ⟨g, c, cb, nc, fc, hcv0, hce, hmc, hfc⟩ := h.last hca
    have hl0 : 0 < st.ca.length := by
      rcases Nat.eq_zero_or_pos st.ca.length with e | e
      · exact absurd (List.eq_nil_of_length_eq_zero e) hca
      · exact e
    rw [hcv0] at c1
    have hmx : st.ca.length ≤ maxLen := by
      obtain ⟨_, _, _, m1, m2, _⟩ := own_form h.cr
      exact Nat.le_trans m1 m2
    unfold maxLen at hmx
    have q0 : (0 : Int) < (st.ca.length : Int) := by omega
    obtain ⟨k, hk⟩ : ∃ k, st.ca.length = k + 1 := ⟨st.ca.length - 1, by omega⟩
    rw [hk] at hce c1 hmx
    have q3 : (k : Int) < 9223372036854775807 := by omega
    clear hmx
    rw [Nat.add_sub_cancel] at hce
    have hce' : w.cell? ⟨g, 0 + k * 1, none⟩ = some (.map (some cb)) := by simpa using hce
    clear q0 hl0 hk
    have q0 : (0 : Int) ≤ (k : Int) := by omega
    have q1 : (k : Int) < (k : Int) + 1 := by omega
    have q2 : (0 : Int) < (k : Int) + 1 := by omega
    rw [show ((k + 1 : Nat) : Nat) = k + 1 from rfl] at c1
    have hfn := hfc nm
    cases hfi : fc nm with
    | some i =>
      have hcl : callAt st nm = some i := by rw [hfn, hfi]
      have hfs : findS st nm = (st, i) := by unfold findS; rw [hcl]
      have HF := Lib.hid hfs
      have HFC := Lib.hid hfi
      clear h hok hca hcl hcv0 hfs hm0' hput hpl hn0 c0' hfn hfc hfi
      go_enter Try.func29, Try.ntmps29
      go_wp2_with (at_lookup; refine wpList_lookF_ok _ rfl _ _ 77 rfl 9 81 Try.underlying9 Try.underlying77 (zero_sl _) cb nc (mpF G.sb fc) rfl hmc nm rfl hs ?_; rw [mpF_at, HFC.out]; simp only [Option.map_some, Option.map_none, Option.getD_some, Option.getD_none, Option.isSome_some, Option.isSome_none])
      go_ret
      exact find_old H.out.1 HF.out
    | none =>
      have hcl : callAt st nm = none := by rw [hfn, hfi]
      have HFC := Lib.hid hfi
      clear hfn hfc hfi
      cases hgl : st.gl nm with
      | some i =>
        have hfs : findS st nm = (st, i) := by unfold findS; rw [hcl, hgl]
        have HF := Lib.hid hfs
        have HG := Lib.hid hgl
        clear h hok hca hcl hcv0 hgl hfs hm0' hput hpl hn0 c0'
        go_enter Try.func29, Try.ntmps29
        go_wp2_with (first | (at_lookup; refine wpList_lookF_ok _ rfl _ _ 77 rfl 9 81 Try.underlying9 Try.underlying77 (zero_sl _) cb nc (mpF G.sb fc) rfl hmc nm rfl hs ?_; rw [mpF_at, HFC.out]; simp only [Option.map_some, Option.map_none, Option.getD_some, Option.getD_none, Option.isSome_some, Option.isSome_none]) | (at_lookup; refine wpList_lookF_ok _ rfl _ _ 77 rfl 9 81 Try.underlying9 Try.underlying77 (zero_sl _) G.bg n0 (mpF G.sb st.gl) rfl hm0 nm rfl hs ?_; rw [mpF_at, HG.out]; simp only [Option.map_some, Option.map_none, Option.getD_some, Option.getD_none, Option.isSome_some, Option.isSome_none]))
        go_ret
        exact find_old H.out.1 HF.out
      | none =>
        have hfs : findS st nm = (⟨st.sl ++ [SM.blank], putN st.gl nm st.sl.length, st.ca, st.n⟩, st.sl.length) := by unfold findS; rw [hcl, hgl]
        have HF := Lib.hid hfs
        have HG := Lib.hid hgl
        clear h hok hca hcl hcv0 hgl hfs hput hpl hn0
        go_enter Try.func29, Try.ntmps29
        go_wp2_with (first | (at_lookup; refine wpList_lookF_ok _ rfl _ _ 77 rfl 9 81 Try.underlying9 Try.underlying77 (zero_sl _) cb nc (mpF G.sb fc) rfl hmc nm rfl hs ?_; rw [mpF_at, HFC.out]; simp only [Option.map_some, Option.map_none, Option.getD_some, Option.getD_none, Option.isSome_some, Option.isSome_none]) | (at_lookup; refine wpList_lookF_ok _ rfl _ _ 77 rfl 9 81 Try.underlying9 Try.underlying77 (zero_sl _) G.bg n0 (mpF G.sb st.gl) rfl hm0 nm rfl hs ?_; rw [mpF_at, HG.out]; simp only [Option.map_some, Option.map_none, Option.getD_some, Option.getD_none, Option.isSome_some, Option.isSome_none]) | (refine wpList_storeF _ rfl _ _ _ 77 rfl 9 81 Try.underlying9 Try.underlying77 G.bg n0 (mpF (G.sb ++ [w.heap.size]) st.gl) rfl hm0' hcap nm rfl hs (.pointer (some ⟨w.heap.size, 0, none⟩)) rfl ?_; intro w2 hm2 hg2))
        go_ret
        obtain ⟨hpl, hput⟩ := HP.out
        rw [← hpl, mpF_put] at hm2
        exact find_new H.out.1 H.out.2 HF.out (Nat.succ_le_succ HN0.out) hm2 hg2

end Go.Proofs.Ytbpaiocbgbpiaaa
