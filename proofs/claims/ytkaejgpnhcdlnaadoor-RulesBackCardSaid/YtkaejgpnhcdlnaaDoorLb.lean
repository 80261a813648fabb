/- RulesBack, walked. -/
import Derived.Test.YtkaejgpnhcdlnaaDoorLf
import Derived.Deep.AppendLies
import Derived.Laws.IdiomStrings
namespace Go.Proofs.YtkaejgpnhcdlnaaDoor
open Go.RowKit
/-- A slice of texts that came in. -/
def StrArg (w : World) (A : Option Addr) (n : Nat) (ss : List ByteArray) : Prop :=
  ss.length = n ∧ n ≤ 9223372036854775807 ∧ (0 < n → ∃ b off, A = some ⟨b, off, none⟩ ∧ b < w.heap.size ∧ ∀ j (h : j < ss.length), w.cell? ⟨b, off + j, none⟩ = some (.string ss[j])) ∧ ∀ s ∈ ss, s.size ≤ 9223372036854775807
theorem info5 : (Tryd.prog.info? 5).map (fun i => (i.zero, i.size, i.bytes)) = some (some (.int .u8 0), 1, 1) := by kernel_rfl
theorem own_apart {w : World} {b1 s1 b2 s2 : Nat} {e1 e2 : TypeId} {v1 v2 : Value} {n1 n2 : Nat} {xs1 xs2 : List Value} (h1 : w.ownsRow b1 e1 s1 v1 n1 xs1) (h2 : w.ownsRow b2 e2 s2 v2 n2 xs2) (he : e1 ≠ e2) : v2.ownBlock = none ∨ v1.ownBlock ≠ v2.ownBlock := by
  rcases h2.2 with ⟨rfl, _⟩ | ⟨g2, c2, cur2, rfl, _, hg2, _⟩
  · exact .inl rfl
  · rcases h1.2 with ⟨rfl, _⟩ | ⟨g1, c1, cur1, rfl, _, hg1, _⟩
    · exact .inr (by simp [Value.ownBlock])
    · refine .inr ?_
      intro e
      simp only [Value.ownBlock, Option.some.injEq] at e
      subst e
      rw [hg1] at hg2
      simp only [Option.some.injEq, Obj.cells.injEq] at hg2
      exact he hg2.2.1
/-- The bytes that the law makes of a text's. -/
def pb (s : ByteArray) : Bs := s.data.toList.map fun c => 32 + c % 95
theorem pb_byte (c : UInt8) : (32 + c % 95).toNat = 32 + c.toNat % 95 := by
  have h : (c % 95).toNat = c.toNat % 95 := rfl
  have h2 := UInt8.toNat_add 32 (c % 95)
  rw [h2, h]
  have := Nat.mod_lt c.toNat (show 0 < 95 by decide)
  show (32 + c.toNat % 95) % 256 = _
  omega
theorem pb_patC (c : UInt8) : patC (32 + c % 95) = true := by
  rw [patC_int, pb_byte]
  have := Nat.mod_lt c.toNat (show 0 < 95 by decide)
  omega
theorem pb_pat (s : ByteArray) (j : Nat) (h : 0 < j) (h1 : j ≤ s.size) (h2 : j ≤ 256) : pat ((pb s).take j) = true := by
  have hl : ((pb s).take j).length = j := by
    rw [List.length_take, pb, List.length_map, ← Lib.size_eq]; omega
  unfold pat
  rw [hl]
  have ha : ((pb s).take j).all patC = true := by
    rw [List.all_eq_true]
    intro c hc
    have := List.mem_of_mem_take hc
    simp only [pb, List.mem_map] at this
    obtain ⟨d, _, rfl⟩ := this
    exact pb_patC d
  rw [ha]
  have : ((pb s).take j).isEmpty = false := by
    cases hd : (pb s).take j with
    | nil => rw [hd] at hl; simp at hl; omega
    | cons _ _ => rfl
  rw [this]
  simp; omega
theorem pb_take (s : ByteArray) (j : Nat) (h : j < s.size) : (pb s).take (j + 1) = (pb s).take j ++ [32 + s[j] % 95] := by
  have hl : j < (pb s).length := by rw [pb, List.length_map, ← Lib.size_eq]; exact h
  rw [List.take_succ_eq_append_getElem hl]
  congr 2
  simp only [pb, List.getElem_map]
  rfl
theorem line_len (r : Rl) (h : okR r) : (lineOf r).length ≤ 290 := by
  have h1 := h.1
  have h2 := h.2
  simp only [good, pat, Bool.and_eq_true, decide_eq_true_eq] at h1 h2
  simp only [lineOf, List.length_append, List.length_cons, List.length_nil]
  omega
theorem show_len (l : List Rl) (h : ∀ r ∈ l, okR r) : (showS l).length ≤ l.length * 290 := by
  induction l with
  | nil => simp [showS]
  | cons a l ih =>
    have h1 := line_len a (h a (by simp))
    have h2 := ih (fun r hr => h r (by simp [hr]))
    rw [show showS (a :: l) = lineOf a ++ showS l from rfl, List.length_append, List.length_cons]
    omega
end Go.Proofs.YtkaejgpnhcdlnaaDoor
