/- What FrameHides' variables are, told plainly. -/
import Derived.Test.YtbpaiocbgbpiaaaFrP
namespace Go.Proofs.Ytbpaiocbgbpiaaa
set_option linter.unusedVariables false

def gS (c : CellT) : SM := ⟨0, c, true, none⟩
theorem resA_gS {l : List SM} {i : Nat} {c : CellT} (h : l[i]? = some (gS c)) : resA l i = 0 := by
  unfold resA res
  rw [h]
  simp [gS]
theorem putN_self (f : ByteArray → Option Nat) (s : ByteArray) (i : Nat) : putN f s i s = some i := by unfold putN; rw [if_pos rfl]
section
variable (nm : ByteArray) (ca cb cc : CellT)
def hidC (m : Nat) : List (ByteArray → Option Nat) := (List.range m).map fun i => putN (fun _ => none) nm (i + 1)
/-- n parameters were made, m calls are open. -/
def hidP (n m : Nat) : FS := ⟨gS ca :: List.replicate n (gS cb), putN (fun _ => none) nm 0, hidC nm m, 0⟩
/-- A call has just begun: its parameter has another value. -/
def hidQ (k : Nat) : FS := ⟨(gS ca :: List.replicate k (gS cb)) ++ [gS cc], putN (fun _ => none) nm 0, hidC nm (k + 1), 0⟩
theorem hidC_len (m : Nat) : (hidC nm m).length = m := by simp [hidC]
theorem hidC_snoc (m : Nat) : hidC nm (m + 1) = hidC nm m ++ [putN (fun _ => none) nm (m + 1)] := by simp [hidC, List.range_succ]
theorem callAt_hid (st : FS) (m : Nat) (h : st.ca = hidC nm m) : callAt st nm = if m = 0 then none else some m := by
  unfold callAt
  rw [h]
  cases m with
  | zero => rfl
  | succ m => rw [hidC_snoc, List.getLast?_append]; simp [putN_self]
theorem findS_hid (st : FS) (m : Nat) (h : st.ca = hidC nm m) (hg : st.gl = putN (fun _ => none) nm 0) : findS st nm = (st, m) := by
  unfold findS
  rw [callAt_hid nm st m h]
  cases m with
  | zero => simp [hg, putN_self]
  | succ m => simp
theorem getS_hid (st : FS) (m : Nat) (h : st.ca = hidC nm m) (hg : st.gl = putN (fun _ => none) nm 0) {c : CellT} (hc : st.sl[m]? = some (gS c)) : getS st nm = (st, c, 0) := by
  unfold getS
  rw [findS_hid nm st m h hg]
  dsimp only
  rw [resA_gS hc, if_neg (by simp)]
  unfold slotS
  rw [hc]
  rfl
theorem hidP_at {n m : Nat} (h : m ≤ n) : (hidP nm ca cb n m).sl[m]? = some (gS (if m = 0 then ca else cb)) := by
  cases m with
  | zero => rfl
  | succ m => simp [hidP, List.getElem?_replicate]; omega
theorem getS_hidP {n m : Nat} (h : m ≤ n) : getS (hidP nm ca cb n m) nm = (hidP nm ca cb n m, if m = 0 then ca else cb, 0) := getS_hid nm _ m rfl rfl (hidP_at nm ca cb h)
theorem getS_hidQ (k : Nat) : getS (hidQ nm ca cb cc k) nm = (hidQ nm ca cb cc k, cc, 0) := by
  refine getS_hid nm _ (k + 1) rfl rfl ?_
  simp [hidQ]
theorem setS_hidQ (k : Nat) : setS (hidQ nm ca cb cc k) nm cb = (hidP nm ca cb (k + 1) (k + 1), 0) := by
  have hc : (hidQ nm ca cb cc k).sl[k + 1]? = some (gS cc) := by simp [hidQ]
  unfold setS
  rw [findS_hid nm _ (k + 1) rfl rfl]
  dsimp only
  rw [resA_gS hc, if_neg (by simp)]
  unfold valS slotS
  rw [hc]
  have : (hidQ nm ca cb cc k).sl.set (k + 1) (gS cb) = gS ca :: List.replicate (k + 1) (gS cb) := by
    simp only [hidQ]
    rw [List.set_append]
    simp [List.replicate_succ']
  simp only [Option.getD_some]
  rw [show (⟨(gS cc).arr, cb, true, (gS cc).frm⟩ : SM) = gS cb from rfl, this]
  rfl
theorem setS_hid0 : setS FS.new nm ca = (hidP nm ca cb 0 0, 0) := by
  have hf : findS FS.new nm = (⟨[SM.blank], putN (fun _ => none) nm 0, [], 0⟩, 0) := rfl
  unfold setS
  rw [hf]
  rfl
theorem pushS_hid {k : Nat} (hk : k < 24) (b : ByteArray) : pushS (hidP nm ca cb k k) [nm] [(0, ⟨#[]⟩, (2, 0, b))] = (hidQ nm ca cb (2, 0, b) k, 0) := by
  unfold pushS
  rw [if_neg (by simp), if_neg (by simp [hidP, hidC_len]; omega)]
  have : parsS [(0, ⟨#[]⟩, (2, 0, b))] (hidP nm ca cb k k, fun _ => none) 0 [nm] = (addS (hidP nm ca cb k k) (gS (2, 0, b)), putN (fun _ => none) nm (k + 1)) := by
    simp [parsS, parS, argS, gS, hidP]
  rw [this]
  simp only [addS, hidQ, hidP, hidC_snoc]
theorem popS_hid (n m : Nat) : popS (hidP nm ca cb n (m + 1)) = (hidP nm ca cb n m, 0) := by
  unfold popS
  rw [if_neg (by simp [hidP, hidC_len])]
  simp [hidP, hidC_snoc]
theorem hidP_len (n m : Nat) : (hidP nm ca cb n m).sl.length = n + 1 := by simp [hidP]
theorem hidQ_len (k : Nat) : (hidQ nm ca cb cc k).sl.length = k + 2 := by simp [hidQ]
end
end Go.Proofs.Ytbpaiocbgbpiaaa
