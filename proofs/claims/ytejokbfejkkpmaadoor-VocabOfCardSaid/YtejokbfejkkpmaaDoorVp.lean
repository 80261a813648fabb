/- Plain laws: with more pairs behind a list its tokens go on as they were. -/
import Derived.Test.YtejokbfejkkpmaaDoorSk
namespace Go.Proofs.YtejokbfejkkpmaaDoor
theorem addT_prefix (ts : List Bs) (s : Bs) : ts <+: addT ts s := by
  unfold addT; split
  · exact List.prefix_refl _
  · exact List.prefix_append _ _
theorem fold_prefix (ps : List (Bs × Bs)) : ∀ ts, ts <+: ps.foldl (fun ts p => addT ts (p.1 ++ p.2)) ts ∧ (ps.foldl (fun ts p => addT ts (p.1 ++ p.2)) ts).length ≤ ts.length + ps.length := by
  induction ps with
  | nil => intro ts; exact ⟨List.prefix_refl _, by simp⟩
  | cons p ps ih =>
    intro ts
    obtain ⟨h1, h2⟩ := ih (addT ts (p.1 ++ p.2))
    have := addT_len ts (p.1 ++ p.2)
    exact ⟨(addT_prefix _ _).trans h1, by simp only [List.foldl_cons, List.length_cons]; omega⟩
theorem ofT_more (a b : List (Bs × Bs)) : ofT a <+: ofT (a ++ b) ∧ (ofT (a ++ b)).length ≤ (ofT a).length + b.length := by
  unfold ofT
  rw [List.foldl_append]
  exact fold_prefix b _
theorem base_tok : ∀ t ∈ baseT, tok t = true := by decide
theorem fold_tok (ps : List (Bs × Bs)) : ∀ ts, (∀ t ∈ ts, tok t = true) → ∀ t ∈ ps.foldl (fun ts p => addT ts (p.1 ++ p.2)) ts, tok t = true := by
  induction ps with
  | nil => intro ts h; exact h
  | cons p ps ih =>
    intro ts h
    refine ih (addT ts (p.1 ++ p.2)) ?_
    unfold addT; split
    · exact h
    · rename_i hc
      intro t ht
      rcases List.mem_append.1 ht with h1 | h1
      · exact h t h1
      · simp at h1
        subst h1
        simp at hc
        exact hc.2
theorem ofT_tok (ps : List (Bs × Bs)) : ∀ t ∈ ofT ps, tok t = true := fold_tok ps _ base_tok
theorem tok_small {t : Bs} (h : tok t = true) : t.length ≤ 64 := by
  unfold tok at h
  simp at h
  exact h.2.2
theorem ofT_len (ps : List (Bs × Bs)) : 94 ≤ (ofT ps).length ∧ (ofT ps).length ≤ 94 + ps.length := by
  obtain ⟨h1, h2⟩ := fold_prefix ps baseT
  have h3 : baseT.length = 94 := by decide
  have := h1.length_le
  unfold ofT
  omega
end Go.Proofs.YtejokbfejkkpmaaDoor
