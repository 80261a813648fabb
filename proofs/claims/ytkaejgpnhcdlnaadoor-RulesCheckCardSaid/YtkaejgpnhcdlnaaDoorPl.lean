/- Plain laws for the rules: lists of bytes alone, no program. -/
import Derived.Lib.SplitLaws
import Derived.Lib.Split
import Derived.Lib.Bytes2
import Derived.Lib.CutLaws
namespace Go.Proofs.YtkaejgpnhcdlnaaDoor
abbrev Bs := List UInt8
/-- The text of a list of bytes. -/
def mk (l : Bs) : ByteArray := ⟨l.toArray⟩
theorem mk_list (s : ByteArray) : mk s.data.toList = s := rfl
theorem mk_data (l : Bs) : (mk l).data.toList = l := by simp [mk]
theorem mk_size (l : Bs) : (mk l).size = l.length := by simp [mk, ByteArray.size]
def nameC (c : UInt8) : Bool := c == 45 || (48 ≤ c && c ≤ 57) || (97 ≤ c && c ≤ 122)
def patC (c : UInt8) : Bool := 32 ≤ c && c ≤ 126
def good (s : Bs) : Bool := s.all nameC && (!s.isEmpty && decide (s.length ≤ 32))
def pat (s : Bs) : Bool := s.all patC && (!s.isEmpty && decide (s.length ≤ 256))
theorem nameC_int (c : UInt8) : nameC c = true ↔ (c.toNat : Int) = 45 ∨ (48 ≤ (c.toNat : Int) ∧ (c.toNat : Int) ≤ 57) ∨ (97 ≤ (c.toNat : Int) ∧ (c.toNat : Int) ≤ 122) := by
  unfold nameC
  simp only [Bool.or_eq_true, Bool.and_eq_true, beq_iff_eq, decide_eq_true_eq, UInt8.le_iff_toNat_le, ← UInt8.toNat_inj]
  simp
  omega
theorem patC_int (c : UInt8) : patC c = true ↔ 32 ≤ (c.toNat : Int) ∧ (c.toNat : Int) ≤ 126 := by
  unfold patC
  simp only [Bool.and_eq_true, decide_eq_true_eq, UInt8.le_iff_toNat_le]
  simp
  omega
theorem all_take_succ (p : UInt8 → Bool) (l : Bs) (k : Nat) (h : k < l.length) (h0 : (l.take k).all p = true) : (l.take (k + 1)).all p = p l[k] := by
  rw [List.take_succ_eq_append_getElem h, List.all_append, h0]
  simp
theorem all_false (p : UInt8 → Bool) (l : Bs) (k : Nat) (h : k < l.length) (h0 : p l[k] = false) : l.all p = false := by
  rw [List.all_eq_false]
  exact ⟨l[k], List.getElem_mem h, by simp [h0]⟩
theorem good_bad (l : Bs) (k : Nat) (h : k < l.length) (h0 : nameC l[k] = false) : good l = false := by simp [good, all_false _ l k h h0]
theorem pat_bad (l : Bs) (k : Nat) (h : k < l.length) (h0 : patC l[k] = false) : pat l = false := by simp [pat, all_false _ l k h h0]
end Go.Proofs.YtkaejgpnhcdlnaaDoor
