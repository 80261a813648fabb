/- What Known comes to: plain. -/
import Derived.Test.YtlkfnhcnfjdgbaaDoorNt
import Derived.Lib.SlicesCompact
namespace Go.Proofs.YtlkfnhcnfjdgbaaDoor
/-- Sorted. -/
def sortB (S : List Bs) : List Bs := S.mergeSort fun x y => decide (x ≤ y)
theorem sortB_le (S : List Bs) : (sortB S).Pairwise (fun a b => a ≤ b) := by
  have tr : ∀ a b c : List UInt8, decide (a ≤ b) = true → decide (b ≤ c) = true → decide (a ≤ c) = true := fun a b c h1 h2 => by simp only [decide_eq_true_eq] at *; exact List.le_trans h1 h2
  have to : ∀ a b : List UInt8, (decide (a ≤ b) || decide (b ≤ a)) = true := fun a b => by simp only [Bool.or_eq_true, decide_eq_true_eq]; exact List.le_total a b
  exact (List.pairwise_mergeSort tr to S).imp fun h => by simpa using h
theorem sortB_mem (S : List Bs) (x : Bs) : x ∈ sortB S ↔ x ∈ S := (List.mergeSort_perm S _).mem_iff
theorem sortB_len (S : List Bs) : (sortB S).length = S.length := (List.mergeSort_perm S _).length_eq
theorem le_ne_lt {a b : Bs} (h : a ≤ b) (hne : a ≠ b) : a < b := by
  refine List.not_le.1 fun h2 => hne (List.le_antisymm h h2)
theorem compact_upto (d : Array Bs) (hs : ∀ i j, i < j → j < d.size → d[i]! ≤ d[j]!) : ∀ m, m ≤ d.size → (Lib.compactUpTo d m).Pairwise (fun a b => a < b) ∧ ∀ x, x ∈ Lib.compactUpTo d m ↔ ∃ j, j < m ∧ d[j]! = x
  | 0, _ => by
    simp [Lib.compactUpTo]
  | m + 1, hm => by
    obtain ⟨h1, h2⟩ := compact_upto d hs m (by omega)
    rw [Lib.compactUpTo_succ]
    by_cases hk : Lib.keeps d m = true
    · rw [if_pos hk]
      have hk' : m = 0 ∨ d[m]! ≠ d[m - 1]! := by simpa [Lib.keeps] using hk
      refine ⟨List.pairwise_append.2 ⟨h1, List.pairwise_singleton _ _, fun a ha b hb => ?_⟩, fun x => ?_⟩
      · obtain ⟨j, hj, rfl⟩ := (h2 a).1 ha
        rw [List.mem_singleton.1 hb]
        refine le_ne_lt (hs j m hj (by omega)) fun e => ?_
        rcases hk' with h0 | h0
        · omega
        · by_cases hj1 : j = m - 1
          · exact h0 (by rw [← hj1]; exact e.symm)
          · have a1 := hs j (m - 1) (by omega) (by omega)
            have a2 := hs (m - 1) m (by omega) (by omega)
            rw [e] at a1
            exact h0 (List.le_antisymm a1 a2)
      · rw [List.mem_append, h2, List.mem_singleton]
        constructor
        · rintro (⟨j, hj, rfl⟩ | rfl)
          · exact ⟨j, by omega, rfl⟩
          · exact ⟨m, by omega, rfl⟩
        · rintro ⟨j, hj, rfl⟩
          by_cases h : j < m
          · exact .inl ⟨j, h, rfl⟩
          · exact .inr (by rw [show j = m by omega])
    · rw [if_neg hk, List.append_nil]
      have hk' : m ≠ 0 ∧ d[m]! = d[m - 1]! := by
        simp only [Lib.keeps, decide_eq_true_eq, not_or, Decidable.not_not] at hk
        exact hk
      refine ⟨h1, fun x => ?_⟩
      rw [h2]
      constructor
      · rintro ⟨j, hj, rfl⟩
        exact ⟨j, by omega, rfl⟩
      · rintro ⟨j, hj, rfl⟩
        by_cases h : j < m
        · exact ⟨j, h, rfl⟩
        · have : j = m := by omega
          subst this
          exact ⟨j - 1, by omega, hk'.2.symm⟩
theorem compact_spec (zs : List Bs) (hs : zs.Pairwise (fun a b => a ≤ b)) : (Lib.compact zs).Pairwise (fun a b => a < b) ∧ ∀ x, x ∈ Lib.compact zs ↔ x ∈ zs := by
  have hd : ∀ i j, i < j → j < zs.toArray.size → zs.toArray[i]! ≤ zs.toArray[j]! := fun i j hij hj => by
    have hj' : j < zs.length := by simpa using hj
    have := List.pairwise_iff_getElem.1 hs i j (by omega) hj' hij
    simpa [hj', show i < zs.length by omega] using this
  obtain ⟨h1, h2⟩ := compact_upto zs.toArray hd zs.length (by simp)
  refine ⟨h1, fun x => (h2 x).trans ?_⟩
  rw [List.mem_iff_getElem]
  constructor
  · rintro ⟨j, hj, rfl⟩
    exact ⟨j, hj, by simp [hj]⟩
  · rintro ⟨j, hj, rfl⟩
    exact ⟨j, hj, by simp [hj]⟩
/-- What is known of these IDs. -/
def knownL (S : List Bs) : List Bs := (Lib.compact (sortB S)).filter fun x => !(x == [])
theorem known_mem (S : List Bs) (x : Bs) : x ∈ knownL S ↔ x ∈ S ∧ x ≠ [] := by
  unfold knownL
  rw [List.mem_filter, (compact_spec _ (sortB_le S)).2, sortB_mem]
  simp
theorem known_lt (S : List Bs) : (knownL S).Pairwise (fun a b => a < b) := (compact_spec _ (sortB_le S)).1.filter _
end Go.Proofs.YtlkfnhcnfjdgbaaDoor
