/- The row of parts in memory: what it holds, and what keeps it. -/
import Derived.Test.YtejokbfejkkpmaaDoorHe
import Derived.Test.YtejokbfejkkpmaaDoorRk
import Derived.Test.YtejokbfejkkpmaaDoorSv
namespace Go.Proofs.YtejokbfejkkpmaaDoor
open Go.RowKit Go.Maps Go.WideMaps
theorem own_same {w w' : World} {B e size n : Nat} {v : Value} {xs : List Value} (h : w.ownsRow B e size v n xs) (hk : ∀ g, v.ownBlock = some g → w'.heap[g]? = w.heap[g]?) : w'.ownsRow B e size v n xs := by
  refine ⟨h.1, ?_⟩
  rcases h.2 with h1 | ⟨g, c, cur, rfl, h2, h3, h4⟩
  · exact .inl h1
  · exact .inr ⟨g, c, cur, rfl, h2, (hk g rfl).trans h3, h4⟩
theorem rank_same {w w' : World} {b n : Nat} {f : Pr → Option Nat} (h : RankM w b n f) (hk : w'.heap[b]? = w.heap[b]?) : RankM w' b n f := by
  obtain ⟨D, ⟨es, cl, he, h2⟩, h3⟩ := h
  exact ⟨D, ⟨es, cl, hk.trans he, h2⟩, h3⟩
def tcells (l : List Tx) : List Value := l.map fun t => .string (mk t)
def icells (l : List Int) : List Value := l.map fun i => .int .i64 i
theorem tcells_at (l : List Tx) (k : Nat) (x : Tx) (h : l[k]? = some x) : (tcells l)[k]? = some (.string (mk x)) := by simp [tcells, h]
theorem icells_at (l : List Int) (k : Nat) (x : Int) (h : l[k]? = some x) : (icells l)[k]? = some (.int .i64 x) := by simp [icells, h]
theorem tcells_set (l : List Tx) (k : Nat) (x : Tx) : tcells (l.set k x) = (tcells l).set k (.string (mk x)) := by simp [tcells, List.map_set]
theorem icells_set (l : List Int) (k : Nat) (x : Int) : icells (l.set k x) = (icells l).set k (.int .i64 x) := by simp [icells, List.map_set]
/-- The row's variable and all that hangs on it. -/
structure RS (B : Nat) (w : World) (R : Nat) (f : Pr → Option Nat) (cnt : Nat) (P N Q Z : Value) (mb : Nat) (ps : List Tx) (nx pv : List Int) (S : List Sp) : Prop where
  hb : RBlk w R #[P, N, Q, .map (some mb), Z]
  hP : w.ownsRow B 9 1 P ps.length (tcells ps)
  hN : w.ownsRow B 3 1 N nx.length (icells nx)
  hQ : w.ownsRow B 3 1 Q pv.length (icells pv)
  hZ : w.ownsRow B 130 4 Z S.length (scells S)
  hM : RankM w mb cnt f
  hNQ : ∀ g, N.ownBlock = some g → Q.ownBlock ≠ some g
  hR : B ≤ R
  hmb : B ≤ mb
theorem own_two {w : World} {b1 s1 b2 s2 : Nat} {e1 e2 : TypeId} {v1 v2 : Value} {n1 n2 : Nat} {xs1 xs2 : List Value} (h1 : w.ownsRow b1 e1 s1 v1 n1 xs1) (h2 : w.ownsRow b2 e2 s2 v2 n2 xs2) (he : e1 ≠ e2) {g : Nat} (hg : v1.ownBlock = some g) : v2.ownBlock ≠ some g := by
  rcases own_apart h1 h2 he with h | h
  · rw [h]; simp
  · intro e; exact h (hg.trans e.symm)
section
variable {B : Nat} {w w' : World} {R : Nat} {f : Pr → Option Nat} {cnt : Nat} {P N Q Z : Value} {mb : Nat} {ps : List Tx} {nx pv : List Int} {S : List Sp}
theorem RS.drewN (h : RS B w R f cnt P N Q Z mb ps nx pv S) (m : Nat) : RS B (w.drewN m) R f cnt P N Q Z mb ps nx pv S :=
  ⟨h.hb, h.hP, h.hN, h.hQ, h.hZ, h.hM.kept (gdrewN w m none) (by simp), h.hNQ, h.hR, h.hmb⟩
theorem RS.kept (h : RS B w R f cnt P N Q Z mb ps nx pv S) (hg : w.grownBy w' none) : RS B w' R f cnt P N Q Z mb ps nx pv S :=
  ⟨h.hb.kept hg (by simp), h.hP.kept hg (by cases P.ownBlock <;> simp), h.hN.kept hg (by cases N.ownBlock <;> simp), h.hQ.kept hg (by cases Q.ownBlock <;> simp), h.hZ.kept hg (by cases Z.ownBlock <;> simp), h.hM.kept hg (by simp), h.hNQ, h.hR, h.hmb⟩
/-- Behind a change of the heap of spots alone. -/
theorem RS.spots (h : RS B w R f cnt P N Q Z mb ps nx pv S) {Z' : Value} {S' : List Sp} (hf : Fr w w' R Z.ownBlock) (hb : RBlk w' R #[P, N, Q, .map (some mb), Z']) (hz : w'.ownsRow B 130 4 Z' S'.length (scells S')) : RS B w' R f cnt P N Q Z' mb ps nx pv S' := by
  have key : ∀ {e n : Nat} {v : Value} {xs : List Value}, w.ownsRow B e 1 v n xs → e ≠ 130 → e ≠ 114 → w'.ownsRow B e 1 v n xs := fun {e n v xs} hv h1 h2 =>
    own_same hv fun g hg => hf.2.2.2.2 g (hv.lt g hg).2 (fun e' => h.hb.apart hv h2 (by rw [hg, e'])) (fun e' => own_two hv h.hZ h1 hg e'.symm)
  refine ⟨hb, key h.hP (by decide) (by decide), key h.hN (by decide) (by decide), key h.hQ (by decide) (by decide), hz, rank_same h.hM ?_, h.hNQ, h.hR, h.hmb⟩
  exact hf.2.2.2.2 mb h.hM.lt (fun e => h.hM.not_cells h.hb e.symm) (fun e => h.hM.not_row h.hZ e.symm)
theorem RS.below (h : RS B w R f cnt P N Q Z mb ps nx pv S) (hf : Fr w w' R Z.ownBlock) : Below B w w' :=
  ⟨hf.1, hf.2.1, hf.2.2.1, hf.2.2.2.1, fun k hk => hf.2.2.2.2 k (by have := h.hb.lt; have := h.hR; omega) (by have := h.hR; omega) (fun e => by have := (h.hZ.lt k e.symm).1; omega)⟩
end
/-- The lists are those of the parts P. -/
structure RepP (ps : List Tx) (nx pv : List Int) (P : List Tx) : Prop where
  ne : NE P
  ps_eq : ps = partsOf P
  nl : nx.length = ps.length
  pl : pv.length = ps.length
  nx_at : ∀ i, i < P.length → nx[off P i]? = some ((off P (i + 1) : Nat) : Int)
  pv_at : ∀ i, i < P.length → pv[off P i]? = some (if i = 0 then -1 else ((off P (i - 1) : Nat) : Int))
theorem RepP.tot {ps : List Tx} {nx pv : List Int} {P : List Tx} (h : RepP ps nx pv P) : off P P.length = ps.length := by rw [h.ps_eq, partsOf_length h.ne]
theorem RepP.lt {ps : List Tx} {nx pv : List Int} {P : List Tx} (h : RepP ps nx pv P) {i : Nat} (hi : i < P.length) : off P i < ps.length := by
  rw [← h.tot]; exact off_mono h.ne hi (Nat.le_refl _)
theorem RepP.next {ps : List Tx} {nx pv : List Int} {P : List Tx} (h : RepP ps nx pv P) {i : Nat} (hi : i < P.length) : (off P (i + 1) < ps.length ↔ i + 1 < P.length) := by
  rw [← h.tot]
  constructor
  · intro h1
    rcases Nat.lt_or_ge (i + 1) P.length with h2 | h2
    · exact h2
    · rw [show i + 1 = P.length by omega] at h1; omega
  · intro h1; exact off_mono h.ne h1 (Nat.le_refl _)
/-- Parts j and the next one merged. -/
theorem RepP.merge {ps : List Tx} {nx pv : List Int} {P : List Tx} (h : RepP ps nx pv P) {j : Nat} {x y : Tx} (hx : P[j]? = some x) (hy : P[j + 1]? = some y) :
    RepP ((ps.set (off P j) (x ++ y)).set (off P (j + 1)) []) (nx.set (off P j) ((off P (j + 2) : Nat) : Int)) (if off P (j + 2) < ps.length then pv.set (off P (j + 2)) ((off P j : Nat) : Int) else pv) (mergeAt P j) := by
  have hjl : j + 1 < P.length := by
    rcases Nat.lt_or_ge (j + 1) P.length with h1 | h1
    · exact h1
    · rw [List.getElem?_eq_none h1] at hy; cases hy
  have hlen := mergeAt_length P j y hy
  have hof := fun i => mergeAt_off P j i x y hx hy
  have hinj := fun (a b : Nat) (ha : a ≤ P.length) (hb : b ≤ P.length) => @off_inj P h.ne a b ha hb
  refine ⟨mergeAt_ne h.ne j x y hx hy, by rw [h.ps_eq, partsOf_merge h.ne j x y hx hy], by simp [h.nl], by split <;> simp [h.pl], fun i hi => ?_, fun i hi => ?_⟩
  · by_cases h1 : i < j
    · have e1 : off (mergeAt P j) i = off P i := by rw [hof, if_pos (by omega)]
      have e2 : off (mergeAt P j) (i + 1) = off P (i + 1) := by rw [hof, if_pos (by omega)]
      rw [e1, e2, List.getElem?_set, if_neg (fun e => by have := hinj _ _ (by omega) (by omega) e; omega)]
      exact h.nx_at i (by omega)
    · by_cases h2 : i = j
      · subst h2
        have e1 : off (mergeAt P i) i = off P i := by rw [hof, if_pos (by omega)]
        have e2 : off (mergeAt P i) (i + 1) = off P (i + 2) := by rw [hof, if_neg (by omega)]
        rw [e1, e2, List.getElem?_set, if_pos rfl, if_pos (by rw [h.nl]; exact h.lt (by omega))]
      · have e1 : off (mergeAt P j) i = off P (i + 1) := by rw [hof, if_neg (by omega)]
        have e2 : off (mergeAt P j) (i + 1) = off P (i + 2) := by rw [hof, if_neg (by omega)]
        rw [e1, e2, List.getElem?_set, if_neg (fun e => by have := hinj _ _ (by omega) (by omega) e; omega)]
        exact h.nx_at (i + 1) (by omega)
  · have keep : ∀ k, k < P.length → k ≠ j + 2 → (if off P (j + 2) < ps.length then pv.set (off P (j + 2)) ((off P j : Nat) : Int) else pv)[off P k]? = pv[off P k]? := fun k hk hne => by
      split
      · rw [List.getElem?_set, if_neg]
        rename_i hlt
        have : j + 2 ≤ P.length := by omega
        intro e; exact hne (hinj _ _ (by omega) this e.symm)
      · rfl
    by_cases h1 : i ≤ j
    · have e1 : off (mergeAt P j) i = off P i := by rw [hof, if_pos h1]
      rw [e1, keep i (by omega) (by omega), h.pv_at i (by omega)]
      by_cases h0 : i = 0
      · rw [if_pos h0, if_pos h0]
      · have e2 : off (mergeAt P j) (i - 1) = off P (i - 1) := by rw [hof, if_pos (by omega)]
        rw [if_neg h0, if_neg h0, e2]
    · have e1 : off (mergeAt P j) i = off P (i + 1) := by rw [hof, if_neg h1]
      rw [e1, if_neg (by omega : ¬ i = 0)]
      by_cases h2 : i = j + 1
      · subst h2
        have hlt : off P (j + 1 + 1) < ps.length := h.lt (by omega)
        have e2 : off (mergeAt P j) (j + 1 - 1) = off P j := by rw [hof, if_pos (by omega), Nat.add_sub_cancel]
        rw [e2, if_pos hlt, List.getElem?_set, if_pos rfl, if_pos (by rw [h.pl]; exact hlt)]
      · have e2 : off (mergeAt P j) (i - 1) = off P i := by rw [hof, if_neg (by omega), show i - 1 + 1 = i by omega]
        rw [e2, keep (i + 1) (by omega) (by omega), h.pv_at (i + 1) (by omega), if_neg (by omega), Nat.add_sub_cancel]
/-- The state of a row: its parts, its spots. -/
def RSt (B : Nat) (w : World) (R : Nat) (f : Pr → Option Nat) (cnt : Nat) (P : List Tx) (S : List Sp) : Prop :=
  ∃ Pv N Q Z mb ps nx pv, RS B w R f cnt Pv N Q Z mb ps nx pv S ∧ RepP ps nx pv P ∧ HeapTo S S.length ∧ ps.length ≤ 4096
end Go.Proofs.YtejokbfejkkpmaaDoor
