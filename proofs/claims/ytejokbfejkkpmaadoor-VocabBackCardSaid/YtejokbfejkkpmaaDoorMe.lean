/- merges.(*row).meet at a live part, in one contract. -/
import Derived.Test.YtejokbfejkkpmaaDoorMt
namespace Go.Proofs.YtejokbfejkkpmaaDoor
open Go.RowKit Go.Maps Go.WideMaps
theorem part_len {ps : List Tx} {nx pv : List Int} {P : List Tx} (h : RepP ps nx pv P) {i : Nat} {x : Tx} (hx : P[i]? = some x) : x.length ≤ ps.length := by
  have hi : i < P.length := by
    rcases Nat.lt_or_ge i P.length with h4 | h4
    · exact h4
    · rw [List.getElem?_eq_none h4] at hx; cases hx
  have e1 := off_succ P i _ hx
  have e3 := off_le h.ne (show i + 1 ≤ P.length by omega) (Nat.le_refl _)
  have e4 := h.tot
  omega
theorem meet_at (B R cnt mb : Nat) (f : Pr → Option Nat) (Pv N Q Z : Value) (ps : List Tx) (nx pv : List Int) (P : List Tx) (S : List Sp) (w : World) (h : RS B w R f cnt Pv N Q Z mb ps nx pv S) (hrep : RepP ps nx pv P) (hh : HeapTo S S.length) (hS : S.length < 100000) (hlen : ps.length ≤ 4096)
    (i : Nat) (hi : i < P.length) :
    Calls Tryd.prog 45 #[.pointer (some ⟨R, 0, none⟩), .int .i64 (off P i : Nat)] w fun e w' => e = .returned (.tuple #[]) ∧
      ∃ Z' S', S'.Perm (S ++ spotAt f P i) ∧ HeapTo S' S'.length ∧ RS B w' R f cnt Pv N Q Z' mb ps nx pv S' ∧ Fr w w' R Z.ownBlock := by
  have hnx := hrep.nx_at i hi
  by_cases hl : i + 1 < P.length
  · have hx : P[i]? = some P[i] := by simp [hi]
    have hy : P[i + 1]? = some P[i + 1] := by simp [hl]
    have px := partsOf_at hrep.ne i _ hx
    have py := partsOf_at hrep.ne (i + 1) _ hy
    rw [← hrep.ps_eq] at px py
    have lx := part_len hrep hx
    have ly := part_len hrep hy
    refine (meet_in B R (off P i) (off P (i + 1)) cnt mb f Pv N Q Z ps nx pv S w _ _ h hnx px py hh hS (by unfold maxLen; omega) (by unfold maxLen; omega)).mono ?_
    rintro e w' ⟨he, Z', S', hp, h2, h3, h4⟩
    refine ⟨he, Z', S', ?_, h2, h3, h4⟩
    have : spotOf f (off P i) P[i] P[i + 1] = spotAt f P i := by
      unfold spotOf
      cases hf : f (P[i], P[i + 1]) with
      | none => exact (spotAt_none hx hy hf).symm
      | some r => exact (spotAt_some hx hy hf).symm
    rw [← this]; exact hp
  · refine (meet_out B R (off P i) (off P (i + 1)) cnt mb f Pv N Q Z ps nx pv S w h hnx (by rcases Nat.lt_or_ge (off P (i + 1)) ps.length with h1 | h1; exact absurd ((hrep.next hi).1 h1) hl; exact h1)).mono ?_
    rintro e w' ⟨he, m, rfl⟩
    exact ⟨he, Z, S, by rw [spotAt_past (by omega), List.append_nil], hh, h.drewN m, Fr.of (gdrewN w m _)⟩
end Go.Proofs.YtejokbfejkkpmaaDoor
