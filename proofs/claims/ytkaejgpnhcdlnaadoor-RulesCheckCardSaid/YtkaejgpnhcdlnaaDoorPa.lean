/- Plain laws: what parsing rules gives. Lists of bytes alone, no program. -/
import Derived.Test.YtkaejgpnhcdlnaaDoorLn
import Derived.Lib.Strings
import Derived.Lib.IndexMore
namespace Go.Proofs.YtkaejgpnhcdlnaaDoor
def ended (t : Bs) : Bool := Lib.hasSuffix t [10]
def nm (t : Bs) : Bs := (Lib.cut (Lib.trimSuffix t [10]) [32]).1
def pt (t : Bs) : Bs := (Lib.cut (Lib.trimSuffix t [10]) [32]).2.1
def sp (t : Bs) : Bool := (Lib.cut (Lib.trimSuffix t [10]) [32]).2.2
def leqB (a b : Bs) : Bool := Op.bytesLess a b || a == b
abbrev Rl := Bs × Bs
def lastN (acc : List Rl) : Bs := (acc.getLast?.map Prod.fst).getD []
def stepsG : List Bs → List Rl → List Rl × Nat × Nat
  | [], acc => (acc, 0, 0)
  | t :: r, acc =>
    if 4096 < acc.length + 1 then ([], acc.length + 1, 6)
    else if (ended t && (sp t && (good (nm t) && pat (pt t)))) = false then ([], acc.length + 1, 2)
    else if 0 < acc.length ∧ leqB (nm t) (lastN acc) = true then ([], acc.length + 1, 12)
    else stepsG r (acc ++ [(nm t, pt t)])
def parseS (s : Bs) : List Rl × Nat × Nat := if 262144 < s.length then ([], 0, 6) else stepsG (lines s) []
theorem stepsG_long (t : Bs) (r : List Bs) (acc : List Rl) (h : 4096 ≤ acc.length) : stepsG (t :: r) acc = ([], acc.length + 1, 6) := by
  rw [stepsG, if_pos (by omega)]
theorem stepsG_form (t : Bs) (r : List Bs) (acc : List Rl) (h : acc.length < 4096) (h1 : (ended t && (sp t && (good (nm t) && pat (pt t)))) = false) : stepsG (t :: r) acc = ([], acc.length + 1, 2) := by
  rw [stepsG, if_neg (by omega), if_pos h1]
theorem stepsG_order (t : Bs) (r : List Bs) (acc : List Rl) (h : acc.length < 4096) (h1 : (ended t && (sp t && (good (nm t) && pat (pt t)))) = true) (h2 : 0 < acc.length) (h3 : leqB (nm t) (lastN acc) = true) : stepsG (t :: r) acc = ([], acc.length + 1, 12) := by
  rw [stepsG, if_neg (by omega), if_neg (by rw [h1]; simp), if_pos ⟨h2, h3⟩]
theorem stepsG_next (t : Bs) (r : List Bs) (acc : List Rl) (h : acc.length < 4096) (h1 : (ended t && (sp t && (good (nm t) && pat (pt t)))) = true) (h2 : 0 < acc.length → leqB (nm t) (lastN acc) = false) : stepsG (t :: r) acc = stepsG r (acc ++ [(nm t, pt t)]) := by
  rw [stepsG, if_neg (by omega), if_neg (by rw [h1]; simp), if_neg (by rintro ⟨h3, h4⟩; rw [h2 h3] at h4; simp at h4)]
/-- The memory's cells of rules. -/
def cells (l : List Rl) : List Value := l.flatMap fun r => [.string (mk r.1), .string (mk r.2)]
theorem cells_snoc (l : List Rl) (r : Rl) : cells (l ++ [r]) = cells l ++ [.string (mk r.1), .string (mk r.2)] := by simp [cells]
theorem cells_length (l : List Rl) : (cells l).length = l.length * 2 := by
  induction l with
  | nil => rfl
  | cons x l ih => simp only [cells, List.flatMap_cons, List.length_append, List.length_cons, List.length_nil] at ih ⊢; omega
theorem cells_at (l : List Rl) : ∀ (j : Nat) (h : j < l.length), (cells l)[j * 2]? = some (.string (mk l[j].1)) ∧ (cells l)[j * 2 + 1]? = some (.string (mk l[j].2)) := by
  induction l with
  | nil => intro j h; simp at h
  | cons x l ih =>
    intro j h
    cases j with
    | zero => simp [cells]
    | succ j =>
      have := ih j (by simpa using h)
      rw [show (j + 1) * 2 = j * 2 + 2 from by omega]
      simpa [cells] using this
theorem lastN_at (l : List Rl) (k : Nat) (h : l.length = k + 1) : lastN l = l[k].1 := by
  unfold lastN
  rw [List.getLast?_eq_getElem?, show l.length - 1 = k by omega, List.getElem?_eq_getElem (by omega)]
  rfl
end Go.Proofs.YtkaejgpnhcdlnaaDoor
