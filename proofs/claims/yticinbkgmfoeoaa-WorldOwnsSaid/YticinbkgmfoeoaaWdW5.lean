/- What is open is closed, walked. -/
import Derived.Test.YticinbkgmfoeoaaWdW4
namespace Go.Proofs.Yticinbkgmfoeoaa
open Go.RowKit
set_option linter.unusedVariables false

/-- 'append' to an empty slice without room. -/
theorem wpList_append0 {P : Program} {w : World} {ops : Array Oper} {rest : List Oper} {o : Oper} {a : Act} {Q : Exit → Act → World → Prop} (t e : TypeId) (s x : Operand) (hgd : o.guard = none)
    (ho : o.op = .call { callee := .builtin .append, args := #[s, x], argTypes := #[t, t] })
    {z : Value} {size bytes : Nat} (ht : P.underlying t = some (.slice e)) (hinfo : (P.info? e).map (fun i => (i.zero, i.size, i.bytes)) = some (some z, size, bytes)) (hzs : z.cells.size = size) (hsz : 0 < size)
    {A : Option Addr} {us : Array Value} {m : Nat} (hs : a.eval s = .slice A 0 0)
    {B : Nat} (hx : a.eval x = .slice (some ⟨B, 0, none⟩) m m) (hB : w.heap.size = B) (hm : us.size = m * size) (hm0 : 0 < m) (hu : ∀ u ∈ us.toList, u.oneCell' = true)
    (h63 : m ≤ maxLen) (hbytes : m * bytes ≤ 140737488355328)
    (h : ∀ v' w', w'.ownsRow w.heap.size e size v' m us.toList → w.grownBy w' none → wpList P ops Q rest (a.put o.dst v') w') :
    wpList P ops Q (o :: rest) a (w.alloc (.cells us e)) := by
  subst hB
  obtain ⟨i0, hi, hz0, hz1, hz2⟩ := info_parts hinfo
  refine wpList_append_grows _ hgd s x t ho e i0 z size bytes ht hi hz0 hz1 hz2 hzs hsz A 0 0 [] hs (fun _ => ⟨rfl, rfl⟩) (by simp) (fun b _ j u hj => by simp at hj) ⟨w.heap.size, 0, none⟩ m m us.toList hx (by simpa using hm) (cell_news w us e) hu (by omega) (by omega) (by rw [Nat.zero_add]; exact hbytes) ?_
  intro v' w' h1 h2
  rw [Nat.zero_add, List.nil_append] at h1
  exact h v' w' (own_more h1 (by simp)) ((World.grownBy_alloc w _ none).trans h2)

section
variable {lo : Nat} {w w' : World} {g b1 b2 n1 n2 : Nat} {env clock vo va : Value} {files cmds : ByteArray → Option Value} {op : List ST} {ac : List AT} {size : Int}
theorem PW.turn (h : PW lo w g b1 b2 n1 n2 env clock vo va files cmds op ac size) {X : Nat → Prop} (ht : Turn w w' X) (hg : ¬ X g) (h1 : ¬ X b1) (h2 : ¬ X b2) (ho : ∀ j, vo.ownBlock = some j → ¬ X j) (ha : ∀ j, va.ownBlock = some j → ¬ X j) : PW lo w' g b1 b2 n1 n2 env clock vo va files cmds op ac size :=
  h.keep (ht.block g h.glt hg) (ht.block b1 h.f.lt h1) (ht.block b2 h.c.lt h2) (fun j hj => ht.block j (h.o.lt hj).2 (ho j hj)) (fun j hj => ht.block j (h.a.lt j hj).2 (ha j hj))
/-- What is open turns. -/
theorem PW.reopened (h : PW lo w g b1 b2 n1 n2 env clock vo va files cmds op ac size) {v : Value} {op' : List ST} (ho : OwnZ w lo 81 2 v op'.length (op'.flatMap strC)) :
    PW lo (w.setCell ⟨g, 4, none⟩ v) g b1 b2 n1 n2 env clock v va files cmds op' ac size := by
  obtain ⟨p1, p2, p3, p4, p5⟩ := h.apart
  have hd := h.hd
  refine ⟨by rw [heap_setCell_same _ _ _ _ _ _ h.hd]; rfl, h.f.same (heap_setCell_other _ _ _ _ (fun e => p1 e.symm)), h.c.same (heap_setCell_other _ _ _ _ (fun e => p2 e.symm)), h.ne, ho.same (fun j hj => heap_setCell_other _ _ _ _ ?_), own_same h.a (fun j hj => heap_setCell_other _ _ _ _ (p4 j hj).1)⟩
  rintro rfl
  obtain ⟨c, hc⟩ := ho.obj hj
  rw [hd] at hc
  simp at hc
def keepS (op : List ST) (nm : ByteArray) : List ST := op.filter fun s => !decide (s.2 = nm)
def shutS (op : List ST) : List AT := op.map fun s => (shutK s, s.2, ⟨#[]⟩)
def goneS (op : List ST) (nm : ByteArray) : List ST := op.filter fun s => decide (s.2 = nm)
theorem take_snoc (op : List ST) {i : Nat} (h : i < op.length) : op.take (i + 1) = op.take i ++ [op[i]] := List.take_succ_eq_append_getElem h
/-- What has been kept so far. -/
def KeptV (w0 w : World) (A : Option Addr) (v : Value) (k : List ST) : Prop :=
  (k = [] ∧ v = .slice A 0 0) ∨ (k ≠ [] ∧ w.ownsRow w0.heap.size 81 2 v k.length (k.flatMap strC))
structure Shutting (lo : Nat) (w : World) (g b1 b2 n1 n2 : Nat) (env clock vo va : Value) (files cmds : ByteArray → Option Value) (op : List ST) (ac : List AT) (size : Int) (A : Option Addr) (wr : World) (va' v6 : Value) (k : List ST) (ac' : List AT) : Prop where
  pw : PW lo wr g b1 b2 n1 n2 env clock vo va' files cmds op ac' size
  go : Goes w g b2 vo va wr vo va'
  kept : KeptV w wr A v6 k

/-- Acts alone have come. -/
def Acted (lo : Nat) (w : World) (g b1 b2 n1 n2 : Nat) (env clock vo va : Value) (files cmds : ByteArray → Option Value) (op : List ST) (ac' : List AT) (size : Int) (w' : World) : Prop :=
  ∃ va', PW lo w' g b1 b2 n1 n2 env clock vo va' files cmds op ac' size ∧ Turn w w' (fun j => j = g ∨ va.ownBlock = some j) ∧ (∀ j, va'.ownBlock = some j → va.ownBlock = some j ∨ w.heap.size ≤ j)
set_option maxHeartbeats 4000000 in
theorem shut_acted (h : PW lo w g b1 b2 n1 n2 env clock vo va files cmds op ac size) (hlo : lo ≤ w.heap.size) (hn : ac.length ≤ 1048576) (p : Bool) (nm : ByteArray) :
    Calls Try.prog 34 #[.pointer (some ⟨g, 0, none⟩), .agg #[.bool p, .string nm]] w fun e w' => e = .returned (.tuple #[]) ∧ Acted lo w g b1 b2 n1 n2 env clock vo va files cmds op (ac ++ [(shutK (p, nm), nm, ⟨#[]⟩)]) size w' := by
  have hb1 : Below w.heap.size w (w.alloc (.cells #[.bool p, .string nm] 81)) := (Below.refl _ w).alloc (Nat.le_refl _) _
  have HD := do_any (h.below hb1) (Nat.le_trans hlo hb1.size) hn (shutK (p, nm)) nm ⟨#[]⟩
  have key : ∀ w3 va', PW lo w3 g b1 b2 n1 n2 env clock vo va' files cmds op (ac ++ [(shutK (p, nm), nm, ⟨#[]⟩)]) size → Turn (w.alloc (.cells #[.bool p, .string nm] 81)) w3 (fun j => j = g ∨ va.ownBlock = some j) → (∀ j, va'.ownBlock = some j → va.ownBlock = some j ∨ (w.alloc (.cells #[.bool p, .string nm] 81)).heap.size ≤ j) →
      Acted lo w g b1 b2 n1 n2 env clock vo va files cmds op (ac ++ [(shutK (p, nm), nm, ⟨#[]⟩)]) size w3 := fun w3 va' h1 h2 h3 =>
    ⟨va', h1, (Turn.of_below hb1 _).trans h2 (fun j x => x) (fun j _ x => x), fun j hj => (h3 j hj).imp id (fun e => Nat.le_trans hb1.size e)⟩
  have HB := Lib.hid key
  replace HD := Lib.hid HD
  clear h hb1 key
  cases p
  · rw [show shutK (false, nm) = 7 from rfl] at HD HB ⊢
    go_enter Try.func34, Try.ntmps34
    go_wp2_with fail
    refine HD.out.mono ?_
    rintro e w3 ⟨rfl, va', h3, g3, c3⟩
    go_wp2_with fail
    go_end0
    exact ⟨rfl, HB.out w3 va' h3 g3 c3⟩
  · rw [show shutK (true, nm) = 8 from rfl] at HD HB ⊢
    go_enter Try.func34, Try.ntmps34
    go_wp2_with fail
    refine HD.out.mono ?_
    rintro e w3 ⟨rfl, va', h3, g3, c3⟩
    go_wp2_with fail
    go_end0
    exact ⟨rfl, HB.out w3 va' h3 g3 c3⟩
theorem KeptV.keep {w0 : World} {A : Option Addr} {v : Value} {k : List ST} (h : KeptV w0 w A v k) (hb : ∀ j, (k ≠ [] ∧ v.ownBlock = some j ∧ w0.heap.size ≤ j ∧ ∃ c, w.heap[j]? = some (.cells c 81 (0, 0))) → w'.heap[j]? = w.heap[j]?) : KeptV w0 w' A v k := by
  rcases h with h | ⟨h1, h2⟩
  · exact .inl h
  · exact .inr ⟨h1, own_same h2 (fun j hj => hb j ⟨h1, hj, (h2.lt j hj).1, own_obj h2 hj⟩)⟩
theorem Shutting.acted {A : Option Addr} {wr w3 : World} {va' v6 : Value} {k : List ST} {ac' ac3 : List AT} (hS : Shutting lo w g b1 b2 n1 n2 env clock vo va files cmds op ac size A wr va' v6 k ac')
    (h : Acted lo wr g b1 b2 n1 n2 env clock vo va' files cmds op ac3 size w3) : ∃ va3, Shutting lo w g b1 b2 n1 n2 env clock vo va files cmds op ac size A w3 va3 v6 k ac3 := by
  obtain ⟨va3, h1, h2, h3⟩ := h
  refine ⟨va3, h1, hS.go.trans ⟨h2.mono (fun j x => ?_), fun j hj => ?_⟩, hS.kept.keep (fun j hj => ?_)⟩
  · rcases x with x | x
    · exact .inl x
    · exact .inr (.inr (.inr x))
  · rcases hj with hj | hj
    · exact .inl (.inl hj)
    · exact (h3 j hj).imp .inr id
  · obtain ⟨_, hj, _, c, hc⟩ := hj
    refine h2.block j (Array.getElem?_eq_some_iff.1 hc).1 (fun x => ?_)
    rcases x with rfl | x
    · rw [hS.pw.hd] at hc; simp at hc
    · obtain ⟨c', hc'⟩ := own_obj hS.pw.a x
      rw [hc'] at hc; simp at hc
theorem Acted.from_below {wr w1 w3 : World} (hb : Below wr.heap.size wr w1) (h : Acted lo w1 g b1 b2 n1 n2 env clock vo va files cmds op ac size w3) : Acted lo wr g b1 b2 n1 n2 env clock vo va files cmds op ac size w3 := by
  obtain ⟨va', h1, h2, h3⟩ := h
  exact ⟨va', h1, (Turn.of_below hb _).trans h2 (fun j x => x) (fun j _ x => x), fun j hj => (h3 j hj).imp id (fun e => Nat.le_trans hb.size e)⟩
/-- A stream is kept. -/
theorem Shutting.keeps {A : Option Addr} {wr w3 : World} {va' v6 : Value} {k : List ST} {ac' : List AT} (hS : Shutting lo w g b1 b2 n1 n2 env clock vo va files cmds op ac size A wr va' v6 k ac')
    {s : ST} {v' : Value} {r : Option Nat} (hown : w3.ownsRow w.heap.size 81 2 v' (k ++ [s]).length ((k ++ [s]).flatMap strC)) (hg : wr.grownBy w3 r) (hr : r = none ∨ (k ≠ [] ∧ r = v6.ownBlock)) (hvo : ∀ j, vo.ownBlock = some j → j < w.heap.size) :
    Shutting lo w g b1 b2 n1 n2 env clock vo va files cmds op ac size A w3 va' v' (k ++ [s]) ac' := by
  have hno : ∀ j, r = some j → w.heap.size ≤ j ∧ ∃ c, wr.heap[j]? = some (.cells c 81 (0, 0)) := fun j hj => by
    rcases hr with e | ⟨hk, e⟩
    · rw [e] at hj; cases hj
    · rcases hS.kept with ⟨e2, _⟩ | ⟨_, h2⟩
      · exact absurd e2 hk
      · exact ⟨(h2.lt j (by rw [← e, hj])).1, own_obj h2 (by rw [← e, hj])⟩
  obtain ⟨e1, c1, o1⟩ := hS.pw.f.obj
  obtain ⟨e2, c2, o2⟩ := hS.pw.c.obj
  refine ⟨hS.pw.turn (Turn.of_grown hg) (fun x => ?_) (fun x => ?_) (fun x => ?_) (fun j hj x => ?_) (fun j hj x => ?_), ?_, .inr ⟨by simp, hown⟩⟩
  · obtain ⟨_, c, hc⟩ := hno g x
    rw [hS.pw.hd] at hc; simp at hc
  · obtain ⟨_, c, hc⟩ := hno b1 x
    rw [o1] at hc; cases hc
  · obtain ⟨_, c, hc⟩ := hno b2 x
    rw [o2] at hc; cases hc
  · have := (hno j x).1
    have := hvo j hj
    omega
  · obtain ⟨_, c, hc⟩ := hno j x
    obtain ⟨c', hc'⟩ := own_obj hS.pw.a hj
    rw [hc'] at hc; simp at hc
  · refine ⟨hS.go.1.trans (Turn.of_grown hg) (fun j x => x) (fun j hj x => ?_), fun j hj => hS.go.2 j hj⟩
    have := (hno j x).1
    omega
set_option maxRecDepth 20000 in
set_option maxHeartbeats 8000000 in
theorem close_any (h : PW lo w g b1 b2 n1 n2 env clock vo va files cmds op ac size) (hlo : lo ≤ w.heap.size) (hn : ac.length ≤ 100000) (hon : op.length ≤ 8) (nm : ByteArray) :
    Calls Try.prog 12 #[.pointer (some ⟨g, 0, none⟩), .string nm] w fun e w' => e = .returned (.int .i64 (if (keepS op nm).length = op.length then -1 else 0)) ∧
      Stand lo w g b1 b2 n1 n2 env clock vo va files cmds (keepS op nm) (ac ++ shutS (goneS op nm)) size w' := by
  obtain ⟨_, c4, _, _, fz⟩ := h.cells
  have HS : Shutting lo w g b1 b2 n1 n2 env clock vo va files cmds op ac size (match vo with | .slice A _ _ => A | _ => none) w va (.slice (match vo with | .slice A _ _ => A | _ => none) 0 0) [] ac := ⟨h, Goes.of_below (Below.refl _ _), .inl ⟨rfl, rfl⟩⟩
  have H := Lib.hid h
  obtain ⟨A, c, rfl⟩ := h.o.shape
  dsimp only at HS
  have HH := Lib.hid HS
  clear h fz HS
  generalize hR : (if (keepS op nm).length = op.length then (-1 : Int) else 0) = R at *
  replace hR := Lib.hid hR
  go_enter Try.func12, Try.ntmps12
  go_wp2_with fail
  have hnb : ∀ (wx : World) (va' v6 : Value) (k : List ST) (ac' : List AT), Shutting lo w g b1 b2 n1 n2 env clock (.slice A op.length c) va files cmds op ac size A wx va' v6 k ac' → w.heap.size ≤ wx.heap.size := fun _ _ _ _ _ h => h.go.1.size
  have HNB := Lib.hid hnb
  clear hnb
  go_loopw [6, 26] (fun v6 v26 wr => ∃ (i : Nat) (va' : Value), v26 = .int .i64 (i : Int) ∧ i ≤ op.length ∧ Shutting lo w g b1 b2 n1 n2 env clock (.slice A op.length c) va files cmds op ac size A wr va' v6 (keepS (op.take i) nm) (ac ++ shutS (goneS (op.take i) nm)))
    (fun _ v26 _ => op.length - (intOf v26).toNat)
  case atStart => exact ⟨0, va, rfl, Nat.zero_le _, by simpa [keepS, shutS, goneS] using HH.out⟩
  case round =>
    obtain ⟨i, va', rfl, hi, hS⟩ := hrel
    by_cases hlt : i < op.length
    · have i1 : (i : Int) < (op.length : Int) := by omega
      have i0 : (0 : Int) ≤ (i : Int) := by omega
      obtain ⟨_, A', c', e', hA, _, h4⟩ := hS.pw.o.rowC
      cases e'
      obtain ⟨go, off, rfl⟩ : ∃ go off, A = some ⟨go, off, none⟩ := by
        cases A with
        | none => have := (hA rfl).1; omega
        | some a => obtain ⟨b, off, rfl, _⟩ := h4 _ rfl; exact ⟨b, off, rfl⟩
      obtain ⟨b', off', e', _, hcc⟩ := h4 _ rfl
      cases e'
      have e0 := hcc (i * 2) _ (strC_at hlt).1
      have e1 : wr.cell? ⟨go, off + i * 2 + 1, none⟩ = _ := hcc (i * 2 + 1) _ (strC_at hlt).2
      have hx : op[i] = (op[i].1, op[i].2) := rfl
      have htk := take_snoc op hlt
      have hln : (ac ++ shutS (goneS (op.take i) nm)).length ≤ 1048576 := by
        have : (goneS (op.take i) nm).length ≤ (op.take i).length := List.length_filter_le _ _
        simp [shutS]
        simp at this
        omega
      generalize op[i].1 = p at *
      generalize op[i].2 = q at *
      rw [hx] at htk
      have hb1 : Below wr.heap.size wr (wr.alloc (.cells #[.bool p, .string q] 81)) := (Below.refl _ wr).alloc (Nat.le_refl _) _
      by_cases hq : q = nm
      · subst hq
        have hk1 : keepS (op.take (i + 1)) q = keepS (op.take i) q := by rw [htk]; simp [keepS]
        have hk2 : shutS (goneS (op.take (i + 1)) q) = shutS (goneS (op.take i) q) ++ [(shutK (p, q), q, ⟨#[]⟩)] := by rw [htk]; simp [shutS, goneS]
        have HC := shut_acted (hS.pw.below hb1) (Nat.le_trans (Nat.le_trans hlo hS.go.1.size) hb1.size) hln p q
        replace HC := Lib.hid HC
        have HX := Lib.hid (And.intro hS (And.intro hb1 (And.intro hk1 hk2)))
        clear hS hb1 hk1 hk2 hcc h4 hA htk hx hln
        go_wp2_with fail
        refine HC.out.mono ?_
        rintro e w3 ⟨rfl, h3⟩
        obtain ⟨hS, hb1, hk1, hk2⟩ := HX.out
        obtain ⟨va3, hS3⟩ := hS.acted (h3.from_below hb1)
        have H3 := Lib.hid (And.intro hS3 (And.intro hk1 hk2))
        clear hS hb1 hk1 hk2 h3 hS3
        go_wp2_with fail
        go_roundw
        case rel =>
          obtain ⟨hS3, hk1, hk2⟩ := H3.out
          exact ⟨i + 1, va3, by go_num, by omega, by rw [hk1, hk2, ← List.append_assoc]; exact hS3⟩
        case measure => simp [intOf]; omega
      · have hqn := str_ne hq
        have hk1 : keepS (op.take (i + 1)) nm = keepS (op.take i) nm ++ [(p, q)] := by rw [htk]; simp [keepS, hq]
        have hk2 : goneS (op.take (i + 1)) nm = goneS (op.take i) nm := by rw [htk]; simp [goneS, hq]
        have hvo : ∀ j, (Value.slice (some ⟨go, off, none⟩) op.length c).ownBlock = some j → j < w.heap.size := fun j hj => (H.out.o.lt hj).2
        have hkl : (keepS (op.take i) nm).length ≤ 8 := by
          have : (keepS (op.take i) nm).length ≤ (op.take i).length := List.length_filter_le _ _
          simp at this
          omega
        generalize hk : keepS (op.take i) nm = k at *
        have hwb := hS.go.1.size
        rcases hS.kept with ⟨rfl, rfl⟩ | ⟨hk0, hown⟩
        · have HX := Lib.hid (And.intro hS (And.intro hb1 (And.intro hk1 (And.intro hk2 hvo))))
          clear hS hb1 hk1 hk2 hcc h4 hA htk hx hln hvo hk
          go_wp2_with (at_builtin; refine wpList_append0 73 81 (.tmp 37) (.tmp 39) rfl rfl Try.underlying73 stream_info rfl (by decide) rfl rfl (by simp) rfl (by decide) (by intro u hu; simp only [List.mem_cons, List.not_mem_nil, or_false] at hu; rcases hu with rfl | rfl <;> rfl) (by unfold maxLen; omega) (by omega) ?_; intro v' w' hown' hgrow; obtain ⟨A', c', rfl⟩ := own_shape hown')
          obtain ⟨hS, hb1, hk1, hk2, hvo⟩ := HX.out
          have hS3 := hS.keeps (s := (p, q)) (own_more hown' (by have := hS.go.1.size; simp; omega)) ((World.grownBy_alloc wr _ none).trans hgrow) (.inl rfl) hvo
          exact ⟨⟨i + 1, va', by go_num, by omega, by rw [hk1, hk2]; exact hS3⟩, by simp [intOf]; omega⟩
        · have hwl := hown.lt
          have hown1 := own_same hown (fun j hj => hb1.block j (hown.lt j hj).2)
          have HX := Lib.hid (And.intro hS (And.intro hb1 (And.intro hk1 (And.intro hk2 (And.intro hvo hk0)))))
          obtain ⟨A6, c6, rfl⟩ := own_shape hown
          have hb1s := hb1.size
          clear hS hb1 hk1 hk2 hcc h4 hA htk hx hln hvo hk hown hk0
          go_wp2_with (at_builtin; refine wpList_appendS 73 81 (.tmp 37) (.tmp 39) rfl rfl w.heap.size Try.underlying73 stream_info rfl (by decide) rfl hown1 rfl (by simp) rfl (by intro u hu; simp only [List.mem_cons, List.not_mem_nil, or_false] at hu; rcases hu with rfl | rfl <;> rfl) (by unfold maxLen; omega) (by omega) (Nat.le_trans hwb hb1s) ?_; intro v' w' hown' hgrow _; obtain ⟨A', c', rfl⟩ := own_shape hown')
          obtain ⟨hS, hb1, hk1, hk2, hvo, hk0⟩ := HX.out
          have hS3 := hS.keeps (s := (p, q)) (r := (Value.slice A6 k.length c6).ownBlock) (by rw [strC_snoc, List.length_append, List.length_singleton]; exact hown') (((World.grownBy_alloc wr _ _)).trans hgrow) (.inr ⟨hk0, rfl⟩) hvo
          exact ⟨⟨i + 1, va', by go_num, by omega, by rw [hk1, hk2]; exact hS3⟩, by simp [intOf]; omega⟩
    · have i1 : ¬ (i : Int) < (op.length : Int) := by omega
      rw [List.take_of_length_le (by omega)] at hS
      have hPW := hS.pw
      have hd := hPW.hd
      have f4 := frozen_of_row wr g 4 _ _ hd
      have d4 := (hd_cells hd).2.1
      have hoz : OwnZ wr lo 81 2 u6 (keepS op nm).length ((keepS op nm).flatMap strC) := by
        rcases hS.kept with ⟨e1, e2⟩ | ⟨_, h2⟩
        · rw [e1, e2]
          cases A with
          | none => exact .inl (own_none _ _ _)
          | some a =>
            have hj : (Value.slice (some a) op.length c).ownBlock = some a.block := rfl
            obtain ⟨cc, hcc⟩ := hPW.o.obj hj
            obtain ⟨_, A', c', e', _, _, h4⟩ := hPW.o.rowC
            cases e'
            have hof : a = ⟨a.block, 0, none⟩ := by
              rcases hPW.o with h | ⟨_, _, g0, c0, e, _⟩
              · rcases h.2 with ⟨e, _⟩ | ⟨g0, cap, cur, e, _⟩
                · cases e
                · cases e; rfl
              · injection e with e1 _ _
                injection e1 with e1
                rw [e1]
            rw [hof]
            exact .inr ⟨rfl, rfl, a.block, cc, rfl, (hPW.o.lt hj).1, hcc⟩
        · exact .inl (own_more h2 hlo)
      obtain ⟨A6, c6, rfl⟩ := hoz.shape
      have hne6 : ∀ j, (Value.slice A6 (keepS op nm).length c6).ownBlock = some j → (Value.slice A op.length c).ownBlock = some j ∨ w.heap.size ≤ j := fun j hj => by
        rcases hS.kept with ⟨e1, e2⟩ | ⟨_, h2⟩
        · injection e2 with e3 _ _
          subst e3
          left
          cases A6 with
          | none => cases hj
          | some a => exact hj
        · exact .inr (h2.lt j hj).1
      have hfin : Stand lo w g b1 b2 n1 n2 env clock (.slice A op.length c) va files cmds (keepS op nm) (ac ++ shutS (goneS op nm)) size (wr.setCell ⟨g, 4, none⟩ (.slice A6 (keepS op nm).length c6)) := by
        refine ⟨_, va', hPW.reopened hoz, hS.go.1.setCell _ _ (fun _ => .inl rfl), fun j hj => ?_⟩
        rcases hj with hj | hj
        · exact (hne6 j hj).imp .inl id
        · exact hS.go.2 j (.inr hj)
      replace hfin := Lib.hid hfin
      have hkn : (keepS op nm).length ≤ op.length := List.length_filter_le _ _
      generalize hkl : (keepS op nm).length = kl at *
      replace hkl := Lib.hid hkl
      clear hS hPW hd hoz hne6
      by_cases he : kl = op.length
      · have hRR : R = -1 := by rw [← hR.out, if_pos he]
        have he2 : ((kl : Int) == (op.length : Int)) = true := by rw [he]; simp
        subst hRR
        clear he hkn
        go_wp2_with fail
        go_ret
        exact ⟨rfl, hfin.out⟩
      · have hRR : R = 0 := by rw [← hR.out, if_neg he]
        have he2 : ((kl : Int) == (op.length : Int)) = false := by rw [beq_eq_false_iff_ne]; omega
        subst hRR
        clear he hkn
        go_wp2_with fail
        go_ret
        exact ⟨rfl, hfin.out⟩
end

end Go.Proofs.Yticinbkgmfoeoaa
