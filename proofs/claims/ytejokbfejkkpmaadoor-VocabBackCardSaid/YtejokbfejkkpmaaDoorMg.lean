/- merges.(*row).merge, walked. -/
import Derived.Test.YtejokbfejkkpmaaDoorRt
import Derived.StillTailTactics
namespace Go.Proofs.YtejokbfejkkpmaaDoor
open Go.RowKit Go.Maps Go.WideMaps
theorem row_at' {w : World} {B e n : Nat} {v : Value} {xs : List Value} (h : w.ownsRow B e 1 v n xs) {k : Nat} {u : Value} (hu : xs[k]? = some u) : ∃ g cap, v = .slice (some ⟨g, 0, none⟩) n cap ∧ w.cell? ⟨g, k, none⟩ = some u ∧ (∀ j, w.frozen? ⟨g, j, none⟩ = false) ∧ k < n := by
  have hk : k < xs.length := by
    rcases Nat.lt_or_ge k xs.length with h4 | h4
    · exact h4
    · rw [List.getElem?_eq_none h4] at hu; cases hu
  have hl := h.1
  rcases h.2 with ⟨_, h1⟩ | ⟨g, c, cur, rfl, h2, h3, _⟩
  · omega
  · exact ⟨g, c, rfl, (h.cellAt k (by omega)).trans hu, fun j => by unfold World.frozen?; rw [h3]; simp, by omega⟩
theorem row_cell {w : World} {B e n n' cap g : Nat} {xs : List Value} (h : w.ownsRow B e 1 (.slice (some ⟨g, 0, none⟩) n cap) n' xs) {k : Nat} {u : Value} (hu : xs[k]? = some u) : w.cell? ⟨g, k, none⟩ = some u ∧ (∀ j, w.frozen? ⟨g, j, none⟩ = false) ∧ k < n' := by
  obtain ⟨g', cap', hv, h1, h2⟩ := row_at' h hu
  injection hv with hv _ _
  injection hv with hv
  injection hv with hv
  subst hv
  exact ⟨h1, h2.1, by omega⟩
/-- All but three rows is as it was. -/
def Fr3 (w w' : World) (P N Q : Value) : Prop := w'.os = w.os ∧ w'.tape = w.tape ∧ w'.output = w.output ∧ w.heap.size ≤ w'.heap.size ∧ ∀ k, k < w.heap.size → P.ownBlock ≠ some k → N.ownBlock ≠ some k → Q.ownBlock ≠ some k → w'.heap[k]? = w.heap[k]?
theorem Fr3.trans {a w w' : World} {P N Q : Value} (h : Fr3 a w P N Q) (k : Fr3 w w' P N Q) : Fr3 a w' P N Q :=
  ⟨k.1.trans h.1, k.2.1.trans h.2.1, k.2.2.1.trans h.2.2.1, Nat.le_trans h.2.2.2.1 k.2.2.2.1, fun i hi h1 h2 h3 => (k.2.2.2.2 i (Nat.lt_of_lt_of_le hi h.2.2.2.1) h1 h2 h3).trans (h.2.2.2.2 i hi h1 h2 h3)⟩
theorem fr3_set (w : World) (g i : Nat) (v : Value) {P N Q : Value} (h : P.ownBlock = some g ∨ N.ownBlock = some g ∨ Q.ownBlock = some g) : Fr3 w (w.setCell ⟨g, i, none⟩ v) P N Q :=
  ⟨rfl, rfl, rfl, by simp, fun k _ h1 h2 h3 => Below.heap_setCell w ⟨g, i, none⟩ v k (by rintro rfl; rcases h with h | h | h <;> contradiction)⟩
theorem fr3_drew (w : World) (P N Q : Value) : Fr3 w w.drew P N Q := ⟨rfl, rfl, rfl, Nat.le_refl _, fun _ _ _ _ _ => rfl⟩
theorem fr3_drewN (w : World) (m : Nat) (P N Q : Value) : Fr3 w (w.drewN m) P N Q := ⟨rfl, rfl, rfl, Nat.le_refl _, fun _ _ _ _ _ => rfl⟩
theorem below_drewN (B : Nat) (w : World) (m : Nat) : Below B w (w.drewN m) := ⟨rfl, rfl, rfl, Nat.le_refl _, fun _ _ => rfl⟩
section
variable {B : Nat} {w w' : World} {R : Nat} {f : Pr → Option Nat} {cnt : Nat} {P N Q Z : Value} {mb : Nat} {ps : List Tx} {nx pv : List Int} {S : List Sp}
theorem RS.drew (h : RS B w R f cnt P N Q Z mb ps nx pv S) : RS B w.drew R f cnt P N Q Z mb ps nx pv S := h.kept (grown_drew w none)
/-- Behind a store into the row of parts. -/
theorem rs_setP {g cap : Nat} (h : RS B w R f cnt (.slice (some ⟨g, 0, none⟩) ps.length cap) N Q Z mb ps nx pv S) (k : Nat) (x : Tx) :
    RS B (w.setCell ⟨g, k, none⟩ (.string (mk x))) R f cnt (.slice (some ⟨g, 0, none⟩) ps.length cap) N Q Z mb (ps.set k x) nx pv S ∧ Fr3 w (w.setCell ⟨g, k, none⟩ (.string (mk x))) (.slice (some ⟨g, 0, none⟩) ps.length cap) N Q := by
  have hg := grown_set w g k (.string (mk x))
  have hP := own_setCell h.hP k (.string (mk x))
  rw [← tcells_set] at hP
  refine ⟨⟨h.hb.kept hg (h.hb.apart h.hP (by decide)), by rw [List.length_set]; exact hP, h.hN.kept hg (.inr (own_two h.hP h.hN (by decide) rfl)), h.hQ.kept hg (.inr (own_two h.hP h.hQ (by decide) rfl)), h.hZ.kept hg (.inr (own_two h.hP h.hZ (by decide) rfl)),
    h.hM.kept hg (fun e => h.hM.not_row h.hP e.symm), h.hNQ, h.hR, h.hmb⟩, fr3_set _ _ _ _ (.inl rfl)⟩
/-- Behind a store into the row of next places. -/
theorem rs_setN {g cap : Nat} (h : RS B w R f cnt P (.slice (some ⟨g, 0, none⟩) nx.length cap) Q Z mb ps nx pv S) (k : Nat) (i : Int) :
    RS B (w.setCell ⟨g, k, none⟩ (.int .i64 i)) R f cnt P (.slice (some ⟨g, 0, none⟩) nx.length cap) Q Z mb ps (nx.set k i) pv S ∧ Fr3 w (w.setCell ⟨g, k, none⟩ (.int .i64 i)) P (.slice (some ⟨g, 0, none⟩) nx.length cap) Q := by
  have hg := grown_set w g k (.int .i64 i)
  have hP := own_setCell h.hN k (.int .i64 i)
  rw [← icells_set] at hP
  refine ⟨⟨h.hb.kept hg (h.hb.apart h.hN (by decide)), h.hP.kept hg (.inr (own_two h.hN h.hP (by decide) rfl)), by rw [List.length_set]; exact hP, h.hQ.kept hg (.inr (h.hNQ g rfl)), h.hZ.kept hg (.inr (own_two h.hN h.hZ (by decide) rfl)),
    h.hM.kept hg (fun e => h.hM.not_row h.hN e.symm), h.hNQ, h.hR, h.hmb⟩, fr3_set _ _ _ _ (.inr (.inl rfl))⟩
/-- Behind a store into the row of places ahead. -/
theorem rs_setQ {g cap : Nat} (h : RS B w R f cnt P N (.slice (some ⟨g, 0, none⟩) pv.length cap) Z mb ps nx pv S) (k : Nat) (i : Int) :
    RS B (w.setCell ⟨g, k, none⟩ (.int .i64 i)) R f cnt P N (.slice (some ⟨g, 0, none⟩) pv.length cap) Z mb ps nx (pv.set k i) S ∧ Fr3 w (w.setCell ⟨g, k, none⟩ (.int .i64 i)) P N (.slice (some ⟨g, 0, none⟩) pv.length cap) := by
  have hg := grown_set w g k (.int .i64 i)
  have hP := own_setCell h.hQ k (.int .i64 i)
  rw [← icells_set] at hP
  refine ⟨⟨h.hb.kept hg (h.hb.apart h.hQ (by decide)), h.hP.kept hg (.inr (own_two h.hQ h.hP (by decide) rfl)), h.hN.kept hg (.inr (fun e => h.hNQ g e rfl)), by rw [List.length_set]; exact hP, h.hZ.kept hg (.inr (own_two h.hQ h.hZ (by decide) rfl)),
    h.hM.kept hg (fun e => h.hM.not_row h.hQ e.symm), h.hNQ, h.hR, h.hmb⟩, fr3_set _ _ _ _ (.inr (.inr rfl))⟩
end
set_option maxRecDepth 100000 in
set_option maxHeartbeats 4000000 in
theorem merge_any (B R k q q2 cnt mb : Nat) (f : Pr → Option Nat) (P N Q Z : Value) (ps : List Tx) (nx pv : List Int) (S : List Sp) (w : World) (x y : Tx) (h : RS B w R f cnt P N Q Z mb ps nx pv S) (hk : nx[k]? = some (q : Int)) (hq : nx[q]? = some (q2 : Int)) (hx : ps[k]? = some x) (hy : ps[q]? = some y)
    (hpl : pv.length = ps.length) (hkq : k < q) (hlen : x.length + y.length ≤ maxLen) :
    Calls Tryd.prog 61 #[.pointer (some ⟨R, 0, none⟩), .int .i64 k] w fun e w' => e = .returned (.tuple #[]) ∧
      RS B w' R f cnt P N Q Z mb ((ps.set k (x ++ y)).set q []) (nx.set k (q2 : Int)) (if q2 < ps.length then pv.set q2 (k : Int) else pv) S ∧ Fr3 w w' P N Q := by
  obtain ⟨gn, cn, rfl, hcn, fn, hkn⟩ := row_at' h.hN (icells_at nx k _ hk)
  obtain ⟨hcq, -, hqn⟩ := row_cell h.hN (icells_at nx q _ hq)
  obtain ⟨gp, cp, rfl, hcx, fp, hkp⟩ := row_at' h.hP (tcells_at ps k _ hx)
  obtain ⟨hcy, -, hqp⟩ := row_cell h.hP (tcells_at ps q _ hy)
  have hS1 := rs_setP h k (x ++ y)
  rw [show ps.length = (ps.set k (x ++ y)).length by simp] at hS1
  have hS2 := rs_setP hS1.1 q []
  have hq2 : (nx.set k (q2 : Int)).length = nx.length := by simp
  rw [List.length_set, ← mk_append] at hS2 hS1
  have HS : Hid (RS B ((w.setCell ⟨gp, k, none⟩ (.string (mk x ++ mk y))).setCell ⟨gp, q, none⟩ (.string ⟨#[]⟩)).drew R f cnt (.slice (some ⟨gp, 0, none⟩) ps.length cp) (.slice (some ⟨gn, 0, none⟩) nx.length cn) Q Z mb ((ps.set k (x ++ y)).set q []) nx pv S ∧
    Fr3 w ((w.setCell ⟨gp, k, none⟩ (.string (mk x ++ mk y))).setCell ⟨gp, q, none⟩ (.string ⟨#[]⟩)).drew (.slice (some ⟨gp, 0, none⟩) ps.length cp) (.slice (some ⟨gn, 0, none⟩) nx.length cn) Q) := Lib.hid ⟨hS2.1.drew, (hS1.2.trans hS2.2).trans (fr3_drew _ _ _ _)⟩
  have c0 := h.hb.cell 0
  have c1 := h.hb.cell 1
  simp at c0 c1
  have k0 : (0 : Int) ≤ (k : Int) := by omega
  have q0 : (0 : Int) ≤ (q : Int) := by omega
  have k1 : (k : Int) < (nx.length : Int) := by omega
  have q1 : (q : Int) < (nx.length : Int) := by omega
  have k2 : (k : Int) < (ps.length : Int) := by omega
  have q2' : (q : Int) < (ps.length : Int) := by omega
  have fk := fp k
  have fq := fp q
  have hkq' : ¬ k = q := by omega
  have hqk' : ¬ q = k := by omega
  have hsum : (mk x).size + (mk y).size ≤ maxLen := by rw [mk_size, mk_size]; exact hlen
  obtain ⟨L, hL⟩ : ∃ L, ps.length = L := ⟨_, rfl⟩
  obtain ⟨n, hn⟩ : ∃ n, nx.length = n := ⟨_, rfl⟩
  rw [hL] at c0 k2 q2' HS ⊢
  rw [hn] at c1 k1 q1 HS ⊢
  have HLL := Lib.hid hL
  have HNN := Lib.hid hn
  obtain ⟨X, hX⟩ : ∃ X, mk x = X := ⟨_, rfl⟩
  obtain ⟨Y, hY⟩ : ∃ Y, mk y = Y := ⟨_, rfl⟩
  rw [hX] at hcx HS hsum
  rw [hY] at hcy HS hsum
  have hno : ¬ 9223372036854775807 < X.size + Y.size := by unfold maxLen at hsum; omega
  clear hsum hS1 hS2 hx hy hkn hqn hkp hqp hX hY fp hL h hlen hkq fn
  go_enter Tryd.func61, Tryd.ntmps61
  go_wp2_with fail
  go_region
  obtain ⟨w1, hw1⟩ : ∃ w1, ((w.setCell ⟨gp, k, none⟩ (.string (X ++ Y))).setCell ⟨gp, q, none⟩ (.string ⟨#[]⟩)).drew = w1 := ⟨_, rfl⟩
  rw [hw1] at HS ⊢
  obtain ⟨hr1, hbl1⟩ := HS.out
  clear HS hw1 c0 c1 hcn hcq hcx hcy fk fq k2 q2' hno
  have e0 := hr1.hb.cell 0
  have e1 := hr1.hb.cell 1
  have e2 := hr1.hb.cell 2
  simp at e0 e1 e2
  obtain ⟨hcn, fn, -⟩ := row_cell hr1.hN (icells_at nx k _ hk)
  obtain ⟨hcq, -, -⟩ := row_cell hr1.hN (icells_at nx q _ hq)
  have fk := fn k
  rw [← hn] at hr1 hbl1
  have HS2 := rs_setN hr1 k (q2 : Int)
  have HS2' := Lib.hid HS2
  clear hr1 HS2 fn hk hq hn hq2
  go_wp2_with fail
  go_region
  obtain ⟨w2, hw2⟩ : ∃ w2, (w1.setCell ⟨gn, k, none⟩ (.int .i64 (q2 : Int))).drew = w2 := ⟨_, rfl⟩
  have hr2 := HS2'.out.1.drew
  have hbl2 := hbl1.trans (HS2'.out.2.trans (fr3_drew _ _ _ _))
  rw [hw2] at hr2 hbl2 ⊢
  clear HS2' hw2 e0 e1 e2 hcn hcq fk hbl1
  have e0 := hr2.hb.cell 0
  have e1 := hr2.hb.cell 1
  have e2 := hr2.hb.cell 2
  simp at e0 e1 e2
  obtain ⟨hcn, -, -⟩ := row_cell hr2.hN (icells_at (nx.set k (q2 : Int)) k q2 (by rw [List.getElem?_set, if_pos rfl, if_pos (by have := HNN.out; omega)]))
  have kn : (k : Int) < (nx.length : Int) := by have := HNN.out; omega
  have HR2 := Lib.hid hr2
  have hpl' := hpl
  rw [HLL.out] at hpl'
  by_cases hlt : q2 < L
  · have d1 : decide (q2 < L) = true := by simpa using hlt
    obtain ⟨p2, hp2⟩ : ∃ p2, pv[q2]? = some p2 := ⟨pv[q2], by simp [hpl', hlt]⟩
    obtain ⟨gq, cq, rfl, hcp, fq, _⟩ := row_at' hr2.hQ (icells_at pv q2 _ hp2)
    have p0 : (0 : Int) ≤ (q2 : Int) := by omega
    have p1 : (q2 : Int) < (pv.length : Int) := by omega
    have HLT := Lib.hid hlt
    clear hr2 hpl hpl' hlt fq hcp
    go_wp2_with fail
    go_quiet (fail)
    have hr3 := HR2.out.drewN nq
    have hbl3 := hbl2.trans (fr3_drewN w2 nq _ _ _)
    obtain ⟨w3, hw3⟩ : ∃ w3, w2.drewN nq = w3 := ⟨_, rfl⟩
    rw [hw3] at hr3 hbl3 ⊢
    clear hw3 e0 e1 e2 hcn d1 hbl2 HR2
    have e1 := hr3.hb.cell 1
    have e2 := hr3.hb.cell 2
    simp at e1 e2
    obtain ⟨hcn, -, -⟩ := row_cell hr3.hN (icells_at (nx.set k (q2 : Int)) k q2 (by rw [List.getElem?_set, if_pos rfl, if_pos (by have := HNN.out; omega)]))
    obtain ⟨hcp, fq, -⟩ := row_cell hr3.hQ (icells_at pv q2 _ hp2)
    have fq2 := fq q2
    have hr4 := rs_setQ hr3 q2 (k : Int)
    have HR4 := Lib.hid hr4
    clear hr3 hr4 fq hp2
    go_wp2_with fail
    go_region
    go_wp2
    go_end0
    have hr := HR4.out.1.drew
    rw [HNN.out] at hr
    exact ⟨rfl, by first | exact hr | (rw [if_pos HLT.out]; exact hr), by have h4 := hbl3.trans (HR4.out.2.trans (fr3_drew _ _ _ _)); rw [HNN.out] at h4; exact h4⟩
  · have d1 : decide (q2 < L) = false := by simpa using hlt
    have HLT := Lib.hid hlt
    clear hr2 hlt hpl hpl'
    go_wp2_with fail
    go_quiet (fail)
    go_wp2
    go_end0
    have hr := HR2.out.drewN nq
    rw [HNN.out] at hr
    exact ⟨rfl, by first | exact hr | (rw [if_neg HLT.out]; exact hr), by have h4 := hbl2.trans (fr3_drewN w2 nq _ _ _); rw [HNN.out] at h4; exact h4⟩
end Go.Proofs.YtejokbfejkkpmaaDoor
