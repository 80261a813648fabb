/- Plain laws for rules' fronts and turned neighbours. Lists alone, no program; and what an owned row gives of its front. -/
import Derived.Test.YtkaejgpnhcdlnaaDoorPb
import Derived.WalkKit
namespace Go.Proofs.YtkaejgpnhcdlnaaDoor
open Go.RowKit
theorem cells_take (l : List Rl) : ∀ c, cells (l.take c) = (cells l).take (c * 2) := by
  induction l with
  | nil => intro c; simp [cells]
  | cons a l ih =>
    intro c
    cases c with
    | zero => simp [cells]
    | succ c =>
      have := ih c
      rw [show (c + 1) * 2 = c * 2 + 2 from by omega]
      simpa [cells] using this
theorem own_prefix {w : World} {b size : Nat} {e : TypeId} {A : Option Addr} {n cap c : Nat} {xs : List Value} (h : w.ownsRow b e size (.slice A n cap) n xs) (hc : c ≤ n) : w.ownsRow b e size (.slice A c cap) c (xs.take (c * size)) := by
  have hl : (xs.take (c * size)).length = c * size := by
    rw [List.length_take, h.1]
    exact Nat.min_eq_left (Nat.mul_le_mul_right _ hc)
  refine ⟨hl, ?_⟩
  rcases h.2 with ⟨hv, h0⟩ | ⟨g, cap', cur, hv, h1, h2, h3, h4, h5, h6⟩
  · injection hv with hA _ hcap
    subst hA; subst hcap
    have : c = 0 := by omega
    subst this
    exact .inl ⟨rfl, rfl⟩
  · injection hv with hA _ hcap
    subst hA; subst hcap
    refine .inr ⟨g, cap, cur, rfl, h1, h2, by omega, h4, h5, ?_⟩
    rw [← h6, List.take_take, Nat.min_eq_left (Nat.mul_le_mul_right _ hc)]
theorem fits_take (l : List Rl) (c : Nat) (h : fits [] l) : fits [] (l.take c) :=
  ((fits_append (l.take c) (l.drop c) []).1 (by rw [List.take_append_drop]; exact h)).1
theorem show_parse (l : List Rl) (hl : l.length ≤ 4096) (h : fits [] l) (hs : (showS l).length ≤ 262144) : parseS (showS l) = (l, 0, 0) := by
  unfold parseS
  rw [if_neg (by omega)]
  exact steps_show l hl h
theorem show_swap_len (x r : List Rl) (a b : Rl) : (showS (x ++ b :: a :: r)).length = (showS (x ++ a :: b :: r)).length := by
  simp [showS]; omega
theorem show_swap (x r : List Rl) (a b : Rl) (hl : (x ++ a :: b :: r).length ≤ 4096) (h : fits [] (x ++ a :: b :: r)) (hs : (showS (x ++ a :: b :: r)).length ≤ 262144) : parseS (showS (x ++ b :: a :: r)) = ([], x.length + 2, 12) := by
  unfold parseS
  rw [if_neg (by rw [show_swap_len]; omega)]
  exact steps_swap x r a b hl h
theorem cells_append (a b : List Rl) : cells (a ++ b) = cells a ++ cells b := by simp [cells]
theorem cells_swap (x r : List Rl) (a b : Rl) (k : Nat) (hk : x.length = k) :
    ((((cells (x ++ a :: b :: r)).set (k * 2) (.string (mk b.1))).set (k * 2 + 1) (.string (mk b.2))).set ((k + 1) * 2) (.string (mk a.1))).set ((k + 1) * 2 + 1) (.string (mk a.2)) = cells (x ++ b :: a :: r) := by
  have hx : (cells x).length = k * 2 := by rw [cells_length, hk]
  have e1 : cells (x ++ a :: b :: r) = cells x ++ (.string (mk a.1) :: .string (mk a.2) :: .string (mk b.1) :: .string (mk b.2) :: cells r) := by rw [cells_append]; rfl
  have e2 : cells (x ++ b :: a :: r) = cells x ++ (.string (mk b.1) :: .string (mk b.2) :: .string (mk a.1) :: .string (mk a.2) :: cells r) := by rw [cells_append]; rfl
  rw [e1, e2]
  rw [List.set_append_right _ _ (by omega), show k * 2 - (cells x).length = 0 by omega, List.set_cons_zero]
  rw [List.set_append_right _ _ (by omega), show k * 2 + 1 - (cells x).length = 1 by omega]
  rw [List.set_append_right _ _ (by omega), show (k + 1) * 2 - (cells x).length = 2 by omega]
  rw [List.set_append_right _ _ (by omega), show (k + 1) * 2 + 1 - (cells x).length = 3 by omega]
  rfl
theorem split_two (l : List Rl) (k : Nat) (h : k + 1 < l.length) : l = l.take k ++ l[k] :: l[k + 1] :: l.drop (k + 2) := by
  conv => lhs; rw [← List.take_append_drop k l, List.drop_eq_getElem_cons (by omega), List.drop_eq_getElem_cons h]
end Go.Proofs.YtkaejgpnhcdlnaaDoor
