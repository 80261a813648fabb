/- The heap of spots: what it holds; its methods, walked. -/
import Derived.Test.YtejokbfejkkpmaaDoorMi
import Derived.Test.YtejokbfejkkpmaaDoorHp
import Derived.Deep.CutBlock
namespace Go.Proofs.YtejokbfejkkpmaaDoor
open Go.RowKit Go.Maps Go.WideMaps
def scells (l : List Sp) : List Value := l.flatMap fun x => [.int .i64 x.rank, .int .i64 x.place, .string (mk x.a), .string (mk x.b)]
theorem scells_length (l : List Sp) : (scells l).length = l.length * 4 := by
  induction l with
  | nil => rfl
  | cons a l ih => simp only [scells, List.flatMap_cons, List.length_append, List.length_cons, List.length_nil] at ih ⊢; omega
theorem scells_at (l : List Sp) : ∀ (j : Nat) (h : j < l.length), (scells l)[j * 4]? = some (.int .i64 l[j].rank) ∧ (scells l)[j * 4 + 1]? = some (.int .i64 l[j].place) ∧ (scells l)[j * 4 + 2]? = some (.string (mk l[j].a)) ∧ (scells l)[j * 4 + 3]? = some (.string (mk l[j].b)) := by
  induction l with
  | nil => intro j h; simp at h
  | cons a l ih =>
    intro j h
    cases j with
    | zero => exact ⟨rfl, rfl, rfl, rfl⟩
    | succ j =>
      have := ih j (by simpa using h)
      have e1 : (j + 1) * 4 = j * 4 + 1 + 1 + 1 + 1 := by omega
      rw [e1]
      exact this
set_option maxRecDepth 100000 in
set_option maxHeartbeats 2000000 in
theorem less_any (A : Option Addr) (cap i j : Nat) (xs : List Sp) (base : Nat) (w : World) (hi : i < xs.length) (hj : j < xs.length) (hn : xs.length ≤ 100000) (h : w.ownsRow base 130 4 (.slice A xs.length cap) xs.length (scells xs)) :
    Calls Tryd.prog 138 #[.slice A xs.length cap, .int .i64 i, .int .i64 j] w fun e w' => e = .returned (.bool (lessS xs[i] xs[j])) ∧ ∃ m, w' = w.drewN m := by
  obtain ⟨n, hL⟩ : ∃ n, xs.length = n := ⟨_, rfl⟩
  obtain ⟨g, c, hv, _, _⟩ := h.form (by omega)
  injection hv with hA _ hc
  subst hA
  subst hc
  obtain ⟨a0, a1, _, _⟩ := scells_at xs i hi
  obtain ⟨b0, b1, _, _⟩ := scells_at xs j hj
  have x0 := h.cellAt (i * 4) (by omega)
  have x1 := h.cellAt (i * 4 + 1) (by omega)
  have y0 := h.cellAt (j * 4) (by omega)
  have y1 := h.cellAt (j * 4 + 1) (by omega)
  rw [a0] at x0
  rw [a1] at x1
  rw [b0] at y0
  rw [b1] at y1
  obtain ⟨x, hx⟩ : ∃ x, xs[i] = x := ⟨_, rfl⟩
  obtain ⟨y, hy⟩ : ∃ x, xs[j] = x := ⟨_, rfl⟩
  rw [hx] at x0 x1 ⊢
  rw [hy] at y0 y1 ⊢
  rw [hL] at hi hj hn ⊢
  have i0 : (0 : Int) ≤ (i : Int) := by omega
  have i1 : (i : Int) < (n : Int) := by omega
  have j0 : (0 : Int) ≤ (j : Int) := by omega
  have j1 : (j : Int) < (n : Int) := by omega
  clear h a0 a1 b0 b1 hx hy hL
  by_cases hr : x.rank = y.rank
  · have hl : lessS x y = decide (x.place < y.place) := by unfold lessS; rw [if_pos hr]
    have HLS := Lib.hid hl
    have e0 : ((x.rank : Int) != (y.rank : Int)) = false := by rw [hr]; simp
    rw [hr] at x0 e0
    clear hl hr
    go_enter Tryd.func138, Tryd.ntmps138
    go_wp2_with fail
    go_quiet (fail)
    have x1' : (w.drewN nq).cell? ⟨g, i * 4 + 1, none⟩ = some (.int .i64 x.place) := x1
    have y1' : (w.drewN nq).cell? ⟨g, j * 4 + 1, none⟩ = some (.int .i64 y.place) := y1
    obtain ⟨w2, hw2⟩ : ∃ w2, w.drewN nq = w2 := ⟨_, rfl⟩
    rw [hw2] at x1' y1' ⊢
    have HW2 := Lib.hid hw2
    clear x0 x1 y0 y1 hw2 e0
    go_wp2_with fail
    go_quiet (fail)
    go_wp2
    go_ret
    exact ⟨by rw [HLS.out]; rfl, _, by rw [← HW2.out, World.drewN_drewN]⟩
  · have hl : lessS x y = decide (x.rank < y.rank) := by unfold lessS; rw [if_neg hr]
    have HLS := Lib.hid hl
    have e0 : ((x.rank : Int) != (y.rank : Int)) = true := by rw [bne_iff_ne]; omega
    clear hl hr
    go_enter Tryd.func138, Tryd.ntmps138
    go_wp2_with fail
    go_quiet (fail)
    have x0' : (w.drewN nq).cell? ⟨g, i * 4, none⟩ = some (.int .i64 x.rank) := x0
    have y0' : (w.drewN nq).cell? ⟨g, j * 4, none⟩ = some (.int .i64 y.rank) := y0
    obtain ⟨w2, hw2⟩ : ∃ w2, w.drewN nq = w2 := ⟨_, rfl⟩
    rw [hw2] at x0' y0' ⊢
    have HW2 := Lib.hid hw2
    clear x0 x1 y0 y1 hw2 e0
    go_wp2_with fail
    go_quiet (fail)
    go_wp2
    go_ret
    exact ⟨by rw [HLS.out]; rfl, _, by rw [← HW2.out, World.drewN_drewN]⟩
theorem gtrans {a w w' : World} {row : Option Nat} (h : a.grownBy w row) (k : w.grownBy w' row) : a.grownBy w' row :=
  ⟨k.os.trans h.os, k.tape.trans h.tape, k.output.trans h.output, Nat.le_trans h.size k.size, fun i hi hr => (k.block i (Nat.lt_of_lt_of_le hi h.size) hr).trans (h.block i hi hr)⟩
theorem gset (w : World) (g i : Nat) (v : Value) : w.grownBy (w.setCell ⟨g, i, none⟩ v) (some g) :=
  ⟨rfl, rfl, rfl, by simp [World.setCell], fun k _ hr => Below.heap_setCell w ⟨g, i, none⟩ v k (fun e => hr (by rw [e]))⟩
theorem gdrew (w : World) (row : Option Nat) : w.grownBy w.drew row := ⟨rfl, rfl, rfl, Nat.le_refl _, fun _ _ _ => rfl⟩
theorem gdrewN (w : World) (m : Nat) (row : Option Nat) : w.grownBy (w.drewN m) row := ⟨rfl, rfl, rfl, Nat.le_refl _, fun _ _ _ => rfl⟩
theorem gset4 (w : World) (g i : Nat) (a b c d : Value) : w.grownBy ((((w.setCell ⟨g, i, none⟩ a).setCell ⟨g, i + 1, none⟩ b).setCell ⟨g, i + 2, none⟩ c).setCell ⟨g, i + 3, none⟩ d) (some g) :=
  gtrans (gtrans (gtrans (gset _ _ _ _) (gset _ _ _ _)) (gset _ _ _ _)) (gset _ _ _ _)
theorem own_drew {w : World} {b size : Nat} {e : TypeId} {v : Value} {n : Nat} {xs : List Value} (h : w.ownsRow b e size v n xs) : w.drew.ownsRow b e size v n xs := h
theorem own_setCell {w : World} {base size n cap g : Nat} {e : TypeId} {xs : List Value} (h : w.ownsRow base e size (.slice (some ⟨g, 0, none⟩) n cap) n xs) (j : Nat) (v : Value) :
    (w.setCell ⟨g, j, none⟩ v).ownsRow base e size (.slice (some ⟨g, 0, none⟩) n cap) n (xs.set j v) := by
  refine ⟨by rw [List.length_set]; exact h.1, .inr ?_⟩
  rcases h.2 with ⟨h1, _⟩ | ⟨g', cap', cur, h1, h2, h3, h4, h5, h6, h7⟩
  · cases h1
  · injection h1 with h8 _ h9
    injection h8 with h10
    injection h10 with h11
    subst h11
    subst h9
    refine ⟨g, cap, cur.setIfInBounds j v, rfl, h2, ?_, h4, h5, by simpa using h6, ?_⟩
    · show (w.heap.modify g _)[g]? = _
      rw [Array.getElem?_modify, if_pos rfl, h3]; simp
    · rw [Array.toList_setIfInBounds, List.take_set, h7]
theorem scells_set (l : List Sp) : ∀ (i : Nat) (x : Sp), i < l.length → scells (l.set i x) = ((((scells l).set (i * 4) (.int .i64 x.rank)).set (i * 4 + 1) (.int .i64 x.place)).set (i * 4 + 2) (.string (mk x.a))).set (i * 4 + 3) (.string (mk x.b)) := by
  induction l with
  | nil => intro i x h; simp at h
  | cons a l ih =>
    intro i x h
    cases i with
    | zero => rfl
    | succ i =>
      have := ih i x (by simpa using h)
      have e1 : (i + 1) * 4 = i * 4 + 1 + 1 + 1 + 1 := by omega
      rw [e1]
      simp only [List.set_cons_succ, scells, List.flatMap_cons] at this ⊢
      rw [this]
      rfl
theorem swap_cells (xs : List Sp) (i j : Nat) (hi : i < xs.length) (hj : j < xs.length) : scells (swapL xs i j) =
    ((((((((scells xs).set (i * 4) (.int .i64 xs[j].rank)).set (i * 4 + 1) (.int .i64 xs[j].place)).set (i * 4 + 2) (.string (mk xs[j].a))).set (i * 4 + 3) (.string (mk xs[j].b))).set (j * 4) (.int .i64 xs[i].rank)).set (j * 4 + 1) (.int .i64 xs[i].place)).set (j * 4 + 2) (.string (mk xs[i].a))).set (j * 4 + 3) (.string (mk xs[i].b)) := by
  unfold swapL
  rw [scells_set _ j _ (by simpa using hj), scells_set _ i _ hi, getD_at xs i hi, getD_at xs j hj]
set_option maxRecDepth 100000 in
set_option maxHeartbeats 2000000 in
theorem swap_any (A : Option Addr) (cap i j : Nat) (xs : List Sp) (base : Nat) (w : World) (hi : i < xs.length) (hj : j < xs.length) (hn : xs.length ≤ 100000) (h : w.ownsRow base 130 4 (.slice A xs.length cap) xs.length (scells xs)) :
    Calls Tryd.prog 139 #[.slice A xs.length cap, .int .i64 i, .int .i64 j] w fun e w' => e = .returned (.tuple #[]) ∧ w'.ownsRow base 130 4 (.slice A xs.length cap) xs.length (scells (swapL xs i j)) ∧ w.grownBy w' (Value.slice A xs.length cap).ownBlock := by
  obtain ⟨n, hL⟩ : ∃ n, xs.length = n := ⟨_, rfl⟩
  obtain ⟨g, c, hv, _, _⟩ := h.form (by omega)
  injection hv with hA _ hc
  subst hA
  subst hc
  obtain ⟨a0, a1, a2, a3⟩ := scells_at xs i hi
  obtain ⟨b0, b1, b2, b3⟩ := scells_at xs j hj
  have x0 := h.cellAt (i * 4) (by omega)
  have x1 := h.cellAt (i * 4 + 1) (by omega)
  have x2 := h.cellAt (i * 4 + 2) (by omega)
  have x3 := h.cellAt (i * 4 + 3) (by omega)
  have y0 := h.cellAt (j * 4) (by omega)
  have y1 := h.cellAt (j * 4 + 1) (by omega)
  have y2 := h.cellAt (j * 4 + 2) (by omega)
  have y3 := h.cellAt (j * 4 + 3) (by omega)
  rw [a0] at x0
  rw [a1] at x1
  rw [a2] at x2
  rw [a3] at x3
  rw [b0] at y0
  rw [b1] at y1
  rw [b2] at y2
  rw [b3] at y3
  have hsw := swap_cells xs i j hi hj
  obtain ⟨x, hx⟩ : ∃ x, xs[i] = x := ⟨_, rfl⟩
  obtain ⟨y, hy⟩ : ∃ x, xs[j] = x := ⟨_, rfl⟩
  rw [hx] at x0 x1 x2 x3 hsw
  rw [hy] at y0 y1 y2 y3 hsw
  have HROW := Lib.hid (own_setCell (own_setCell (own_setCell (own_setCell (own_setCell (own_setCell (own_setCell (own_setCell h (i * 4) (.int .i64 y.rank)) (i * 4 + 1) (.int .i64 y.place)) (i * 4 + 2) (.string (mk y.a))) (i * 4 + 3) (.string (mk y.b)))
    (j * 4) (.int .i64 x.rank)) (j * 4 + 1) (.int .i64 x.place)) (j * 4 + 2) (.string (mk x.a))) (j * 4 + 3) (.string (mk x.b)))
  rw [← hsw] at HROW
  obtain ⟨Q, hQ⟩ : ∃ Q, scells (swapL xs i j) = Q := ⟨_, rfl⟩
  rw [hQ] at HROW ⊢
  rw [hL] at hi hj hn HROW ⊢
  have i0 : (0 : Int) ≤ (i : Int) := by omega
  have i1 : (i : Int) < (n : Int) := by omega
  have j0 : (0 : Int) ≤ (j : Int) := by omega
  have j1 : (j : Int) < (n : Int) := by omega
  have fr : ∀ k, w.frozen? ⟨g, k, none⟩ = false := fun k => by
    rcases h.2 with ⟨h1, _⟩ | ⟨g', cap', cur, h1, h2, h3, h4, h5, h6, h7⟩
    · cases h1
    · injection h1 with h8 _ h9
      injection h8 with h10
      injection h10 with h11
      subst h11
      unfold World.frozen?; rw [h3]; simp
  have f0 := fr (i * 4)
  have f1 := fr (i * 4 + 1)
  have f2 := fr (i * 4 + 2)
  have f3 := fr (i * 4 + 3)
  have g0 := fr (j * 4)
  have g1 := fr (j * 4 + 1)
  have g2 := fr (j * 4 + 2)
  have g3 := fr (j * 4 + 3)
  clear h a0 a1 a2 a3 b0 b1 b2 b3 hx hy hL hsw hQ fr
  obtain ⟨M1, hM1⟩ : ∃ a, mk x.a = a := ⟨_, rfl⟩
  obtain ⟨M2, hM2⟩ : ∃ a, mk x.b = a := ⟨_, rfl⟩
  obtain ⟨M3, hM3⟩ : ∃ a, mk y.a = a := ⟨_, rfl⟩
  obtain ⟨M4, hM4⟩ : ∃ a, mk y.b = a := ⟨_, rfl⟩
  rw [hM1] at x2 HROW
  rw [hM2] at x3 HROW
  rw [hM3] at y2 HROW
  rw [hM4] at y3 HROW
  clear hM1 hM2 hM3 hM4
  by_cases hij : i = j
  · subst hij
    rw [x0] at y0
    rw [x1] at y1
    rw [x2] at y2
    rw [x3] at y3
    injection y0 with y0
    injection y0 with _ y0
    injection y1 with y1
    injection y1 with _ y1
    injection y2 with y2
    injection y2 with y2
    injection y3 with y3
    injection y3 with y3
    subst y2
    subst y3
    rw [← y0, ← y1] at HROW
    clear y0 y1
    go_enter Tryd.func139, Tryd.ntmps139
    go_wp2_with fail
    go_region
    go_wp2
    go_end0
    refine ⟨rfl, own_drew HROW.out, ?_⟩
    refine gtrans ?_ (gdrew _ _)
    refine gtrans ?_ (gset _ _ _ _)
    refine gtrans ?_ (gset _ _ _ _)
    refine gtrans ?_ (gset _ _ _ _)
    refine gtrans ?_ (gset _ _ _ _)
    refine gtrans ?_ (gset _ _ _ _)
    refine gtrans ?_ (gset _ _ _ _)
    refine gtrans ?_ (gset _ _ _ _)
    exact gset _ _ _ _
  · have hji : ¬ j = i := fun e => hij e.symm
    go_enter Tryd.func139, Tryd.ntmps139
    go_wp2_with fail
    go_region
    go_wp2
    go_end0
    refine ⟨rfl, own_drew HROW.out, ?_⟩
    refine gtrans ?_ (gdrew _ _)
    refine gtrans ?_ (gset _ _ _ _)
    refine gtrans ?_ (gset _ _ _ _)
    refine gtrans ?_ (gset _ _ _ _)
    refine gtrans ?_ (gset _ _ _ _)
    refine gtrans ?_ (gset _ _ _ _)
    refine gtrans ?_ (gset _ _ _ _)
    refine gtrans ?_ (gset _ _ _ _)
    exact gset _ _ _ _
end Go.Proofs.YtejokbfejkkpmaaDoor
