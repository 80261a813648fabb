/- A region that draws its order, by an invariant: one proof for each operation, not one for each order. -/
import Derived.Test.YtkaejgpnhcdlnaaApp
namespace Go.Proofs.Ytkaejgpnhcdlnaa
open Go.RowKit
variable {F : Fence} {n : Nat} {P : Program} {ops : Array Oper} {Q : Exit → Act → World → Prop} {md : Region.Mode}
theorem wpAnyIn_inv (Inv : Array Bool → Act → World → Prop) (hz : ∀ l a w, Inv l a w → l.size = ops.size) (hd : ∀ l a w, Inv l a w → Region.ready md ops l = [] → Q .normal a w)
    (hs : ∀ l a w i, Inv l a w → i ∈ Region.ready md ops l → wpOpIn F n P ops Q i (Inv (l.setIfInBounds i true)) a w) :
    ∀ (fuel : Nat) (l : Array Bool) (a : Act) (w : World), Inv l a w → l.toList.countP (fun b => !b) ≤ fuel → wpAnyIn F n P md ops Q fuel l a w := by
  have hnf : ∀ (l : Array Bool) (i : Nat), l.size = ops.size → i ∈ Region.ready md ops l → ∃ h : i < l.size, l[i] = false := by
    intro l i hl hi
    obtain ⟨h1, o, ho, _⟩ := mem_ready.1 hi
    have hlt : i < l.size := by rw [hl]; exact (Array.getElem?_eq_some_iff.1 ho).1
    exact ⟨hlt, by simpa [Array.getD, hlt] using h1⟩
  intro fuel
  induction fuel with
  | zero =>
    intro l a w hI hc
    have hr : Region.ready md ops l = [] := by
      rw [List.eq_nil_iff_forall_not_mem]
      intro i hi
      obtain ⟨hlt, hf⟩ := hnf l i (hz _ _ _ hI) hi
      have : 0 < l.toList.countP (fun b => !b) := List.countP_pos_iff.2 ⟨l[i], by simp, by simp [hf]⟩
      omega
    exact ⟨hr, hd _ _ _ hI hr⟩
  | succ fuel ih =>
    intro l a w hI hc
    refine ⟨hd _ _ _ hI, fun i hi => wpOpIn_mono (fun a' w' h => ih _ a' w' h ?_) (hs _ _ _ i hI hi)⟩
    obtain ⟨hlt, hf⟩ := hnf l i (hz _ _ _ hI) hi
    have : (l.setIfInBounds i true).toList.countP (fun b => !b) = l.toList.countP (fun b => !b) - 1 := by
      rw [Array.toList_setIfInBounds, List.countP_set (by simpa using hlt)]
      simp [hf]
    omega
end Go.Proofs.Ytkaejgpnhcdlnaa
