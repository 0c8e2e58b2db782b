/- What 'mapped' keeps between two characters, and what it makes of a string. -/
import Derived.Test.YtaheddpmidoekaaDoorUsBuild
import Derived.Test.YtaheddpmidoekaaDoorUsFold
import Derived.Test.YtaheddpmidoekaaDoorUsIter
import Derived.RangeFuncBox
namespace Go.Proofs.YtaheddpmidoekaaDoor
open Go.RowKit Go.Shelf
set_option linter.unusedVariables false

/-- What becomes of the character at place i. -/
def piece (g : Int → Bool → Int) (s : ByteArray) (m : Bool) (i : Nat) : List UInt8 :=
  if g ((chr s i m).1 : Int) m = ((chr s i m).1 : Int) then (s.extract i (i + (chr s i m).2)).data.toList
  else if m = true then [UInt8.ofNat (g ((chr s i m).1 : Int) m).toNat]
  else (textB (g ((chr s i m).1 : Int) m)).data.toList
/-- The whole. -/
def mapL (g : Int → Bool → Int) (s : ByteArray) (m : Bool) (l : List Nat) : List UInt8 := l.flatMap (piece g s m)
theorem mapL_snoc (g : Int → Bool → Int) (s : ByteArray) (m : Bool) (l : List Nat) (i : Nat) : mapL g s m (l ++ [i]) = mapL g s m l ++ piece g s m i := by simp [mapL]
theorem bytes_app (a b : List UInt8) : Lib.byteCells (a ++ b) = Lib.byteCells a ++ Lib.byteCells b := by simp [Lib.byteCells]
theorem bytes_str (t : ByteArray) : Lib.strCells t = Lib.byteCells t.data.toList := rfl

theorem textB_len (c : Int) : (textB c).data.toList.length ≤ 4 := by
  unfold textB
  split
  · simp
  · split
    · simp
    · rename_i h1 h2
      rcases Int.lt_or_le c 128 with h | h
      · rw [enc1 c ⟨by omega, h⟩]; simp [strOfNums]
      · rcases Int.lt_or_le c 2048 with h' | h'
        · rw [enc2 c ⟨h, h'⟩]; simp [strOfNums]
        · rcases Int.lt_or_le c 65536 with h'' | h''
          · rw [enc3 c ⟨h', h'', by omega⟩]; simp [strOfNums]
          · rw [enc4 c ⟨h'', by omega⟩]; simp [strOfNums]

theorem chr_le4 (s : ByteArray) (i : Nat) (m : Bool) : (chr s i m).2 ≤ 4 := by
  unfold chr
  split
  · simp
  · split
    · simp
    · rw [Lib.decode_at]; unfold Lib.decodeN
      repeat' split
      all_goals simp

theorem piece_len (g : Int → Bool → Int) (s : ByteArray) (m : Bool) (i : Nat) : (piece g s m i).length ≤ 4 := by
  unfold piece
  have := chr_le4 s i m
  split
  · show (s.extract i (i + (chr s i m).2)).size ≤ 4
    rw [ByteArray.size_extract]; omega
  · split
    · simp
    · exact textB_len _

theorem mapL_len (g : Int → Bool → Int) (s : ByteArray) (m : Bool) : ∀ l : List Nat, (mapL g s m l).length ≤ 4 * l.length
  | [] => by simp [mapL]
  | i :: l => by
    have h1 := mapL_len g s m l
    have h2 := piece_len g s m i
    simp only [mapL, List.flatMap_cons, List.length_append, List.length_cons] at *
    omega

/-- All cells lie as they lay. -/
def Cls (W W' : World) : Prop := ∀ (k : Nat) (c : Array Value) (t : TypeId) (fz : Nat × Nat), W.heap[k]? = some (Obj.cells c t fz) → W'.heap[k]? = some (Obj.cells c t fz)
/-- A builder lies as it lay where all cells lie as they lay. -/
theorem Bu.same {B b : Nat} {l : List Value} {W W' : World} (h : Bu B b l W) (hs : Cls W W') : Bu B b l W' := by
  have one : ∀ p, Lib.BuilderAtF 56 5 B b p l W → Lib.BuilderAtF 56 5 B b p l W' := by
    rintro p ⟨hB, v, hb, ho, hne⟩
    refine ⟨hB, v, hs _ _ _ _ hb, ⟨ho.1, ?_⟩, hne⟩
    rcases ho.2 with hn | ⟨g, cap, cur, fz, hv, hg, hc, r⟩
    · exact .inl hn
    · exact .inr ⟨g, cap, cur, fz, hv, hg, hs _ _ _ _ hc, r⟩
  rcases h with h | h
  · exact .inl (one _ h)
  · exact .inr (one _ h)
theorem Bu.below {B b : Nat} {l : List Value} {W W' : World} (h : Bu B b l W) (hb : Below W.heap.size W W') : Bu B b l W' :=
  h.same fun k c t fz hk => (hb.block k (Array.getElem?_eq_some_iff.1 hk).1).trans hk

/-- What 'mapped' keeps: its three variables, its builder. -/
structure MI (B : Nat) (s : ByteArray) (m : Bool) (f : Value) (w : World) (l : List Value) (W : World) : Prop where
  bs : Boxed W B 9 (.string s)
  bm : Boxed W (B + 1) 4 (.bool m)
  bf : Boxed W (B + 1 + 1) 37 f
  bu : Bu B (B + 1 + 1 + 1) l W
  be : Below B w W
theorem MI.same {B : Nat} {s : ByteArray} {m : Bool} {f : Value} {w : World} {l : List Value} {W W' : World} (h : MI B s m f w l W) (hb : Below B w W') (hs : Cls W W') : MI B s m f w l W' :=
  ⟨hs _ _ _ _ h.bs, hs _ _ _ _ h.bm, hs _ _ _ _ h.bf, h.bu.same hs, hb⟩
theorem MI.below {B : Nat} {s : ByteArray} {m : Bool} {f : Value} {w : World} {l : List Value} {W W' : World} (h : MI B s m f w l W) (hb : Below W.heap.size W W') : MI B s m f w l W' :=
  h.same (h.be.trans (hb.mono (Nat.le_of_lt h.bs.lt))) fun k c t fz hk => (hb.block k (Array.getElem?_eq_some_iff.1 hk).1).trans hk
theorem MI.wrote {B : Nat} {s : ByteArray} {m : Bool} {f : Value} {w : World} {l l' : List Value} {W W' : World} (h : MI B s m f w l W) (hb : Bu B (B + 1 + 1 + 1) l' W') (hbe : Below B W W') (ho : Lib.OthersKept 5 (some (B + 1 + 1 + 1)) W W') : MI B s m f w l' W' :=
  ⟨ho _ _ h.bs (by simp; omega) (by simp), ho _ _ h.bm (by simp) (by simp), ho _ _ h.bf (by simp) (by simp), hb, h.be.trans hbe⟩
theorem MI.own {α : Type} {B C : Nat} {s : ByteArray} {m : Bool} {f : Value} {w : World} (L : α → List Value) (hB : B ≤ w.heap.size) (hC : B ≤ C) : OwnFrom C (fun (pre : α) W => MI B s m f w (L pre) W) := by
  intro pre W W' row h hg hr
  refine h.same (ownFrom_below (β := Unit) hB hC () W W' row h.be hg hr) fun k c t fz hk => ?_
  exact (grownBy_keeps_cells hg (fun r e => (hr r e).2) hk rfl).trans hk

theorem foldB (c : Int) (h : foldC c true ≠ c) : 0 ≤ foldC c true ∧ foldC c true < 256 := by
  unfold foldC at *
  split
  · omega
  · rename_i hn; rw [if_neg hn] at h; exact absurd rfl h
theorem capB (c : Int) (h : capC c true ≠ c) : 0 ≤ capC c true ∧ capC c true < 256 := by
  unfold capC at *
  split
  · omega
  · rename_i hn; rw [if_neg hn] at h; exact absurd rfl h
theorem byteCell1 (t : Int) (h : 0 ≤ t ∧ t < 256) : Lib.byteCells [UInt8.ofNat t.toNat] = [.int .u8 t] := by
  simp [Lib.byteCells]; omega

/-- The frame of one round: what is no row of bytes lies as it lay, but for the builder. -/
structure Rnd (B b : Nat) (W W' : World) : Prop where
  be : Below B W W'
  ot : Lib.OthersKept 5 (some b) W W'
theorem Rnd.of {B b : Nat} {W W' : World} (h : Below W.heap.size W W') (hB : B ≤ W.heap.size) : Rnd B b W W' := ⟨h.mono hB, fun k o hk _ _ => (h.block k (Array.getElem?_eq_some_iff.1 hk).1).trans hk⟩
theorem Rnd.trans {B b : Nat} {X Y Z : World} (h : Rnd B b X Y) (k : Rnd B b Y Z) : Rnd B b X Z := ⟨h.be.trans k.be, h.ot.trans k.ot⟩
theorem Rnd.keeps {B b C : Nat} {W W' : World} (h : Rnd B b W W') (hb : b < C) : KeepsFrom C W W' :=
  ⟨h.be.size, fun k o hC hk ho => h.ot k o hk (by simp; omega) (fun c fz e => by subst e; cases ho)⟩
theorem Rnd.it {B b Bs Bm : Nat} {W W' : World} (h : Rnd B b W W') (h2 : 2 ≤ B) (hs : Bs ≠ b) (hm : Bm ≠ b) {s : ByteArray} {m : Bool} (cs : Boxed W Bs 9 (.string s)) (cm : Boxed W Bm 4 (.bool m)) : KeepIt Bs Bm W W' :=
  ⟨h.be.size, fun k hk => by
    rcases hk with hk | rfl | rfl
    · exact h.be.block k (by omega)
    · exact (h.ot _ _ cs (by simp; omega) (by simp)).trans (Eq.symm cs)
    · exact (h.ot _ _ cm (by simp; omega) (by simp)).trans (Eq.symm cm)⟩

end Go.Proofs.YtaheddpmidoekaaDoor
