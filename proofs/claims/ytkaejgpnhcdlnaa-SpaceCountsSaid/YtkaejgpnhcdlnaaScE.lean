import Derived.Test.YtkaejgpnhcdlnaaScD
import Derived.Test.YtkaejgpnhcdlnaaReg
import Derived.Lib.Hide
namespace Go.Proofs.Ytkaejgpnhcdlnaa
open Go.RowKit Go.Shelf
attribute [local go_sem] Oper.semAt_some
abbrev RB : Obj := .cells #[.int .i64 0, .string ⟨#[]⟩] 30
/-- What Take's own variables hold between two rounds: the space, the result, out, left. -/
def St (w : World) (v : Value) (k : Int) (n : Nat) (xs : List Value) (W : World) : Prop :=
  W.heap[w.heap.size]? = some SB ∧ W.heap[w.heap.size + 1]? = some RB ∧ Boxed W (w.heap.size + 1 + 1) 24 v ∧ Boxed W (w.heap.size + 1 + 1 + 1) 3 (.int .i64 k) ∧ W.ownsRow w.heap.size 26 2 v n xs ∧ Below w.heap.size w W
theorem St.own {w : World} {v : Value} {k : Int} {n : Nat} {xs : List Value} {W W' : World} {row : Option Nat} (h : St w v k n xs W) (hg : W.grownBy W' row) (hr : ∀ r, row = some r → w.heap.size ≤ r ∧ ∃ o : Obj, W.heap[r]? = some o ∧ o.isCells = false) : St w v k n xs W' := by
  obtain ⟨h1, h2, h3, h4, h5, h6⟩ := h
  have hr2 := fun r e => (hr r e).2
  refine ⟨(grownBy_keeps_cells hg hr2 h1 rfl).trans h1, (grownBy_keeps_cells hg hr2 h2 rfl).trans h2, (grownBy_keeps_cells hg hr2 h3 rfl).trans h3, (grownBy_keeps_cells hg hr2 h4 rfl).trans h4, h5.kept hg ?_, h6.grown hg h6.size (fun g e => (hr g e).1)⟩
  rcases h5.2 with ⟨rfl, _⟩ | ⟨g, cap, cur, rfl, _, hgb, _⟩
  · exact .inl rfl
  · refine .inr fun e' => ?_
    obtain ⟨o, ho, hc⟩ := hr2 g (by simpa [Value.ownBlock] using e'.symm)
    rw [hgb] at ho; cases ho; cases hc
theorem info26 : (Try.prog.info? 26).map (fun i => (i.zero, i.size, i.bytes)) = some (some (.agg #[.int .i64 0, .int .i64 0]), 2, 16) := by kernel_rfl
theorem St.new (w : World) : St w (.slice none 0 0) 2 0 [] ((((w.alloc SB).alloc RB).alloc (.cells #[.slice none 0 0] 24)).alloc (.cells #[.int .i64 2] 3)) := by
  refine ⟨?_, ?_, ?_, ?_, World.ownsRow_nil _ _ _ _, ((((Below.refl _ _).alloc (Nat.le_refl _) _).alloc (by simp) _).alloc (by simp <;> omega) _).alloc (by simp <;> omega) _⟩
  · rw [Below.heap_alloc _ _ _ (by simp <;> omega), Below.heap_alloc _ _ _ (by simp <;> omega), Below.heap_alloc _ _ _ (by simp <;> omega)]
    exact heap_alloc_new _ _
  · rw [Below.heap_alloc _ _ _ (by simp <;> omega), Below.heap_alloc _ _ _ (by simp <;> omega)]
    have := heap_alloc_new (w.alloc SB) RB
    rwa [World.size_alloc] at this
  · refine (Below.heap_alloc _ _ _ (by simp)).trans ?_
    have := heap_alloc_new ((w.alloc SB).alloc RB) (.cells #[.slice none 0 0] 24)
    show _[_]? = _
    simpa using this
  · have := heap_alloc_new (((w.alloc SB).alloc RB).alloc (.cells #[.slice none 0 0] 24)) (.cells #[.int .i64 2] 3)
    show _[_]? = _
    simpa using this
theorem round_end {w W W2 w1 : World} {v v' : Value} {k k' : Int} {n m : Nat} {xs ys : List Value} {X : Nat} {cX : Array Value} {u : Value} {T : Obj} (hs : St w v k n xs W2) (hk : KeepCells 30 (w.heap.size + 1 + 1 + 1 + 1) W W2)
    (hx : W2.heap[X]? = some (.cells cX 26)) (hX : w.heap.size + 1 + 1 + 1 < X) (hne : v.ownBlock ≠ some X) (hown1 : w1.ownsRow w.heap.size 26 2 v' m ys) (hgr1 : ((W2.setCell ⟨X, 1, none⟩ u).drew.alloc T).grownBy w1 v.ownBlock) :
    KeepsOthers W2 ((w1.setCell ⟨w.heap.size + 1 + 1, 0, none⟩ v').setCell ⟨w.heap.size + 1 + 1 + 1, 0, none⟩ (.int .i64 k')) ∧
    KeepCells 30 (w.heap.size + 1 + 1 + 1 + 1) W ((w1.setCell ⟨w.heap.size + 1 + 1, 0, none⟩ v').setCell ⟨w.heap.size + 1 + 1 + 1, 0, none⟩ (.int .i64 k')) ∧
    St w v' k' m ys ((w1.setCell ⟨w.heap.size + 1 + 1, 0, none⟩ v').setCell ⟨w.heap.size + 1 + 1 + 1, 0, none⟩ (.int .i64 k')) := by
  obtain ⟨h1, h2, h3, h4, h5, h6⟩ := hs
  obtain ⟨W3, hW3⟩ : ∃ W3, W2.setCell ⟨X, 1, none⟩ u = W3 := ⟨_, rfl⟩
  rw [hW3] at hgr1
  have oth : ∀ j, j ≠ X → W3.heap[j]? = W2.heap[j]? := fun j hj => by rw [← hW3]; exact Below.heap_setCell _ _ _ _ hj
  have z3 : W3.heap.size = W2.heap.size := by rw [← hW3]; simp
  have o5 : W3.ownsRow w.heap.size 26 2 v n xs := by
    rw [← hW3]
    exact h5.kept (w' := W2.setCell ⟨X, 1, none⟩ u) (row := some X) ⟨rfl, rfl, rfl, by simp, fun j _ hj => Below.heap_setCell _ _ _ _ (fun e => hj (by rw [e]))⟩ (.inr hne)
  have row : ∀ g, v.ownBlock = some g → w.heap.size ≤ g ∧ ∃ cs fr, (W3.drew.alloc T).heap[g]? = some (.cells cs 26 fr) := fun g hg => by
    rcases o5.2 with ⟨rfl, _⟩ | ⟨g', cap, cur, rfl, hb, hh, _⟩
    · simp [Value.ownBlock] at hg
    · obtain rfl : g' = g := by simpa [Value.ownBlock] using hg
      exact ⟨hb, cur, _, (Below.heap_alloc W3.drew T g' (block_lt hh)).trans hh⟩
  have old : ∀ j, j < W3.heap.size → v.ownBlock ≠ some j → w1.heap[j]? = W3.heap[j]? := fun j hj hne' => (hgr1.block j (by simp; omega) (fun e => hne' e.symm)).trans (Below.heap_alloc _ _ _ hj)
  have nb : ∀ (j : Nat) (cs : Array Value) (t : TypeId), W3.heap[j]? = some (.cells cs t) → t ≠ 26 → v.ownBlock ≠ some j := fun j cs t hj ht e => by
    rcases o5.2 with ⟨rfl, _⟩ | ⟨g', cap, cur, rfl, hb, hh, _⟩
    · simp [Value.ownBlock] at e
    · obtain rfl : g' = j := by simpa [Value.ownBlock] using e
      rw [hj] at hh; cases hh; exact ht rfl
  have a1 := (oth _ (by omega)).trans h1
  have a2 := (oth _ (by omega)).trans h2
  have a3 : W3.heap[w.heap.size + 1 + 1]? = _ := (oth _ (by omega)).trans h3
  have a4 : W3.heap[w.heap.size + 1 + 1 + 1]? = _ := (oth _ (by omega)).trans h4
  have b1 := (old _ (block_lt a1) (nb _ _ _ a1 (by decide))).trans a1
  have b2 := (old _ (block_lt a2) (nb _ _ _ a2 (by decide))).trans a2
  have b3 := (old _ (block_lt a3) (nb _ _ _ a3 (by decide))).trans a3
  have b4 := (old _ (block_lt a4) (nb _ _ _ a4 (by decide))).trans a4
  have far : ∀ j, j ≠ w.heap.size + 1 + 1 → j ≠ w.heap.size + 1 + 1 + 1 → ((w1.setCell ⟨w.heap.size + 1 + 1, 0, none⟩ v').setCell ⟨w.heap.size + 1 + 1 + 1, 0, none⟩ (.int .i64 k')).heap[j]? = w1.heap[j]? := fun j h h' =>
    (Below.heap_setCell _ _ _ _ h').trans (Below.heap_setCell _ _ _ _ h)
  have bw1 : Below w.heap.size w w1 := ((((by rw [← hW3]; exact h6.setCell (p := ⟨X, 1, none⟩) (by simp; omega) _ : Below w.heap.size w W3).drew).alloc (by simp; have := h6.size; omega) T).grown hgr1 (by simp; have := h6.size; omega) (fun g e => (row g e).1))
  refine ⟨?_, ?_, ?_⟩
  · refine ((((KeepsOthers.setCell W2 ⟨X, 1, none⟩ u).trans ?_).trans (KeepsOthers.of_grownBy hgr1 (fun j o e ho => ?_))).trans (KeepsOthers.setCell _ _ _)).trans (KeepsOthers.setCell _ _ _)
    · rw [hW3]; exact (KeepsOthers.drew W3).trans (KeepsOthers.alloc _ _)
    · obtain ⟨_, cs, fr, hc⟩ := row j e
      rw [hc] at ho; cases ho; rfl
  · refine (((((by rw [← hW3]; exact hk.setCell (p := ⟨X, 1, none⟩) (.inr ⟨_, _, _, hx, by decide⟩) u : KeepCells 30 _ W W3).drew).alloc T).grown hgr1 (fun g e => ?_)).setCell (p := ⟨w.heap.size + 1 + 1, 0, none⟩) (.inl (by simp)) _).setCell (p := ⟨w.heap.size + 1 + 1 + 1, 0, none⟩) (.inl (by simp)) _
    obtain ⟨_, cs, fr, hc⟩ := row g e
    exact ⟨cs, 26, fr, hc, by decide⟩
  · refine ⟨(far _ (by omega) (by omega)).trans b1, (far _ (by omega) (by omega)).trans b2, ?_, ?_, ?_, (bw1.setCell (p := ⟨_, _, none⟩) (by simp; omega) _).setCell (p := ⟨_, _, none⟩) (by simp; omega) _⟩
    · refine (Below.heap_setCell _ _ _ _ (by simp)).trans ?_
      exact Boxed.set v' b3
    · exact Boxed.set (.int .i64 k') (v := .int .i64 k) ((Below.heap_setCell _ _ _ _ (by simp)).trans b4)
    · have e1 : Boxed w1 (w.heap.size + 1 + 1) 24 v := b3
      have e2 : Boxed w1 (w.heap.size + 1 + 1 + 1) 3 (.int .i64 k) := b4
      have r1 := hown1.kept (grownBy_setCell' w1 (w.heap.size + 1 + 1) v') (.inr (e1.not_row (by decide) hown1).symm)
      exact r1.kept (grownBy_setCell' _ (w.heap.size + 1 + 1 + 1) _) (.inr (Boxed.not_row (t := 3) (u := .int .i64 k) (B := w.heap.size + 1 + 1 + 1) ((Below.heap_setCell _ _ _ _ (by simp)).trans b4) (by decide) r1).symm)
set_option maxRecDepth 100000 in
set_option maxHeartbeats 1000000 in
theorem take22 (w : World) : Calls Try.prog 8 #[S2, .int .i64 2, .int .i64 2] w fun e w' =>
    (∃ v, e = .returned (.tuple #[v, .agg #[.int .i64 5, .string ⟨#[7]⟩], .int .i64 0]) ∧ w'.ownsRow w.heap.size 26 2 v 2 [.int .i64 0, .int .i64 1, .int .i64 2, .int .i64 1]) ∧ Below w.heap.size w w' := by
  refine (callsIn_wide (n := 6)).1 ?_
  refine callsIn_of_wp_marks Try.func8 rfl trivial ?_ rfl
  simp only [Try.ntmps8, List.size_toArray, List.length_cons, List.length_nil, Nat.reduceAdd, Nat.reduceSub, Array.replicate_succ, Array.replicate_zero, List.push_toArray, List.append_toArray, List.nil_append, List.cons_append]
  gi_wp2
  refine wpIn_range_first rfl (by decide) (gf := 12) (first := #[S2]) (lb := #[]) rfl trivial (enters_of Try.func12 (by kernel_rfl) rfl) (encs := encX) (free_stops _)
    KeepCells.trans (fun W l o o' _ h ho _ => KeepCells.putObj W l o o' (KeepCells.refl _ _ _) h ho) (Below.refl _ _) (fun _ => rfl)
    (fun pre W => (pre = [] ∧ St w (.slice none 0 0) 2 0 [] W) ∨ (pre = [(0, 1)] ∧ ∃ v, St w v 1 1 [.int .i64 0, .int .i64 1] W))
    (fun c pre W => c = .exit 0 ∧ ∃ v, St w v 0 2 [.int .i64 0, .int .i64 1, .int .i64 2, .int .i64 1] W)
    ?hI ?hIx ?h0 ?hround ?hdone ?hstop
  case hI => exact fun s W W' row h hg hr => h.imp (fun ⟨e, h⟩ => ⟨e, h.own hg (fun r e => ⟨by have := (hr r e).1; simp at this; omega, (hr r e).2⟩)⟩) (fun ⟨e, v, h⟩ => ⟨e, v, h.own hg (fun r e => ⟨by have := (hr r e).1; simp at this; omega, (hr r e).2⟩)⟩)
  case hIx => exact fun c s W W' row ⟨e, v, h⟩ hg hr => ⟨e, v, h.own hg (fun r e => ⟨by have := (hr r e).1; simp at this; omega, (hr r e).2⟩)⟩
  case h0 => exact .inl ⟨rfl, St.new w⟩
  case hround =>
    rintro l pre x W hI hR
    have hmx : Try.prog.follows .mixedOrders = true := by kernel_rfl
    rcases hR with ⟨rfl, rfl⟩ | ⟨rfl, rfl⟩
    · obtain hs : St w (.slice none 0 0) 2 0 [] W := by
        rcases hI with ⟨_, hs⟩ | ⟨h, _⟩
        · exact hs
        · simp at h
      clear hI
      gi_wp2
      refine ⟨KeepsOthers.alloc _ _, ?_⟩
      rintro l' o' hl' ⟨o, ho, hc, hw⟩
      have hl2 : w.heap.size ≤ l' := by
        have := hl'
        simp only [World.size_alloc] at this
        omega
      have hx : ((W.alloc (.cells #[.int .i64 0, .int .i64 1] 26)).putObj l' o').heap[W.heap.size]? = some (.cells #[.int .i64 0, .int .i64 1] 26) := by
        have hne : l' ≠ W.heap.size := by rintro rfl; rw [heap_alloc_new] at ho; cases ho; cases hc
        exact (World.putObj_heap_other (by omega)).trans (heap_alloc_new _ _)
      have hs2 := (hs.own (World.grownBy_alloc W (.cells #[.int .i64 0, .int .i64 1] 26) none) (fun r e => by cases e)).own (grownBy_putObj' _ l' o') (fun r e => by cases e; exact ⟨hl2, o, ho, hc⟩)
      have hk2 : KeepCells 30 (w.heap.size + 1 + 1 + 1 + 1) W ((W.alloc (.cells #[.int .i64 0, .int .i64 1] 26)).putObj l' o') := KeepCells.putObj _ _ _ _ ((KeepCells.refl _ _ _).alloc _) ho hc
      have hXl : w.heap.size + 1 + 1 + 1 < W.heap.size := hs.2.2.2.1.lt
      obtain ⟨W2, hW2⟩ : ∃ W2, (W.alloc (.cells #[.int .i64 0, .int .i64 1] 26)).putObj l' o' = W2 := ⟨_, rfl⟩
      rw [hW2] at hx hs2 hk2 ⊢
      have hS := hs2
      clear hs ho hc hw hl' hW2
      obtain ⟨h1, h2, h3, h4, h5, h6⟩ := hs2
      have q0 := cell_at hx 0
      have q1 := cell_at hx 1
      have f1 := frozen_at hx 1
      have q3 := h3.cell
      have q4 := h4.cell
      have f3 := h3.frozen
      have f4 := h4.frozen
      simp only [List.getElem?_toArray, List.getElem?_cons_zero, List.getElem?_cons_succ] at q0 q1
      gi_wp2
      obtain ⟨W3, hW3⟩ : ∃ W3, W2.setCell ⟨W.heap.size, 1, none⟩ (.int .i64 1) = W3 := ⟨_, rfl⟩
      have hb3 : Boxed W3 (w.heap.size + 1 + 1) 24 (.slice none 0 0) := by rw [← hW3]; exact (Below.heap_setCell _ _ _ _ (by simp; omega)).trans h3
      have hb4 : Boxed W3 (w.heap.size + 1 + 1 + 1) 3 (.int .i64 2) := by rw [← hW3]; exact (Below.heap_setCell _ _ _ _ (by simp; omega)).trans h4
      have hx3 : W3.heap[W.heap.size]? = some (.cells #[.int .i64 0, .int .i64 1] 26) := by rw [← hW3]; simp only [World.setCell, Array.getElem?_modify, hx]; rfl
      rw [hW3]
      clear q0 q1 f1 q3 q4 f3 f4 h1 h2 h3 h4 h5
      have q0 := cell_at hx3 0
      have q1 := cell_at hx3 1
      have q3 := hb3.cell
      have q4 := hb4.cell
      have f3 := hb3.frozen
      have f4 := hb4.frozen
      have z3 := hb3.lt
      have z4 := hb4.lt
      have zx := block_lt hx3
      simp only [List.getElem?_toArray, List.getElem?_cons_zero, List.getElem?_cons_succ] at q0 q1
      obtain ⟨i0, hi, hz0, hz1, hz2⟩ := info_parts info26
      obtain ⟨v1, w1, hrun, hown1, hgr1, _⟩ := run_append_own (P := Try.prog) (W3.drew.alloc (.cells #[.int .i64 0, .int .i64 1] 26)) w.heap.size 24 24 26 i0 _ 2 16 Try.underlying24 hi hz0 hz1 hz2 rfl (by decide) (.slice none 0 0) 0 []
        (World.ownsRow_nil _ _ _ _) ⟨W3.heap.size, 0, none⟩ 1 1 [.int .i64 0, .int .i64 1] rfl (cell_two_new W3.drew _ _ _) (by simp [Value.oneCell']) (by decide) (by decide) (by simp; omega)
      obtain ⟨g, cap, rfl⟩ := ownsRow_succ hown1
      have oldb : ∀ k, k < W3.heap.size → w1.heap[k]? = W3.heap[k]? := fun k hk => (hgr1.block k (by simp; omega) (by simp [Value.ownBlock])).trans (Below.heap_alloc _ _ _ hk)
      have p3 := (oldb _ z3).trans hb3
      have p4 := (oldb _ z4).trans hb4
      have px := (oldb _ zx).trans hx3
      have k1 := cell_at px 1
      have k3 := cell_at p3 0
      have k4 := cell_at p4 0
      have l3 := frozen_at p3 0
      have l4 := frozen_at p4 0
      have zz := hgr1.size
      simp only [World.size_drew, World.size_alloc] at zz
      simp only [List.getElem?_toArray, List.getElem?_cons_zero, List.getElem?_cons_succ] at k1 k3 k4
      clear hi hz0 hz1 hz2 oldb
      have fin := round_end (u := .int .i64 1) (T := .cells #[.int .i64 0, .int .i64 1] 26) (k' := 1) hS hk2 hx hXl (by simp [Value.ownBlock]) hown1 (by rw [hW3]; exact hgr1)
      clear hS hk2 hx hown1 hgr1
      refine region9 w.heap.size W.heap.size W3.heap.size _ _ _ _ (.slice none 0 0) (.slice (some ⟨g, 0, none⟩) (0 + 1) cap) 0 1 2 1 W3 (W3.drew.alloc (.cells #[.int .i64 0, .int .i64 1] 26)) w1 (w1.setCell ⟨w.heap.size + 1 + 1, 0, none⟩ (.slice (some ⟨g, 0, none⟩) (0 + 1) cap)) ((w1.setCell ⟨w.heap.size + 1 + 1, 0, none⟩ (.slice (some ⟨g, 0, none⟩) (0 + 1) cap)).setCell ⟨w.heap.size + 1 + 1 + 1, 0, none⟩ (.int .i64 1))
        ?r0 ?r0' ?r1 ?r2 hrun ?r4 ?r5 ?r6 ?r7 ?r8 ?r9 ?hQ
      case r0 => clear fin; go_simp
      case r0' => clear fin; go_simp
      case r1 => clear fin; go_simp
      case r2 => clear fin; go_simp
      case r4 => clear fin; rintro V (rfl | rfl | rfl | rfl) <;> go_simp
      case r5 => clear fin; intro V; go_simp
      case r6 => clear fin; rintro V (rfl | rfl | rfl | rfl) <;> go_simp
      case r7 => clear fin; intro V; go_simp; rfl
      case r8 => clear fin; go_simp
      case r9 => clear fin; go_simp
      case hQ =>
        have FIN := Lib.hid fin
        clear fin
        simp only [T9, cond_true]
        gi_wp2
        have fin := FIN.out
        exact ⟨fin.1, fin.2.1, .inr ⟨rfl, _, fin.2.2⟩⟩
    · obtain ⟨v, hs⟩ : ∃ v, St w v 1 1 [.int .i64 0, .int .i64 1] W := by
        rcases hI with ⟨h, _⟩ | ⟨_, hs⟩
        · simp at h
        · exact hs
      clear hI
      obtain ⟨g0, cap0, rfl⟩ := ownsRow_succ (k := 0) hs.2.2.2.2.1
      gi_wp2
      refine ⟨KeepsOthers.alloc _ _, ?_⟩
      rintro l' o' hl' ⟨o, ho, hc, hw⟩
      have hl2 : w.heap.size ≤ l' := by
        have := hl'
        simp only [World.size_alloc] at this
        omega
      have hx : ((W.alloc (.cells #[.int .i64 2, .int .i64 3] 26)).putObj l' o').heap[W.heap.size]? = some (.cells #[.int .i64 2, .int .i64 3] 26) := by
        have hne : l' ≠ W.heap.size := by rintro rfl; rw [heap_alloc_new] at ho; cases ho; cases hc
        exact (World.putObj_heap_other (by omega)).trans (heap_alloc_new _ _)
      have hs2 := (hs.own (World.grownBy_alloc W (.cells #[.int .i64 2, .int .i64 3] 26) none) (fun r e => by cases e)).own (grownBy_putObj' _ l' o') (fun r e => by cases e; exact ⟨hl2, o, ho, hc⟩)
      have hk2 : KeepCells 30 (w.heap.size + 1 + 1 + 1 + 1) W ((W.alloc (.cells #[.int .i64 2, .int .i64 3] 26)).putObj l' o') := KeepCells.putObj _ _ _ _ ((KeepCells.refl _ _ _).alloc _) ho hc
      have hXl : w.heap.size + 1 + 1 + 1 < W.heap.size := hs.2.2.2.1.lt
      have hg0 := (hs.2.2.2.2.1.lt g0 rfl).2
      obtain ⟨W2, hW2⟩ : ∃ W2, (W.alloc (.cells #[.int .i64 2, .int .i64 3] 26)).putObj l' o' = W2 := ⟨_, rfl⟩
      rw [hW2] at hx hs2 hk2 ⊢
      have hS := hs2
      clear hs ho hc hw hl' hW2
      obtain ⟨h1, h2, h3, h4, h5, h6⟩ := hs2
      have q0 := cell_at hx 0
      have q1 := cell_at hx 1
      have f1 := frozen_at hx 1
      have q3 := h3.cell
      have q4 := h4.cell
      have f3 := h3.frozen
      have f4 := h4.frozen
      simp only [List.getElem?_toArray, List.getElem?_cons_zero, List.getElem?_cons_succ] at q0 q1
      gi_wp2
      obtain ⟨W3, hW3⟩ : ∃ W3, W2.setCell ⟨W.heap.size, 1, none⟩ (.int .i64 1) = W3 := ⟨_, rfl⟩
      have hb3 : Boxed W3 (w.heap.size + 1 + 1) 24 (.slice (some ⟨g0, 0, none⟩) (0 + 1) cap0) := by rw [← hW3]; exact (Below.heap_setCell _ _ _ _ (by simp; omega)).trans h3
      have hb4 : Boxed W3 (w.heap.size + 1 + 1 + 1) 3 (.int .i64 1) := by rw [← hW3]; exact (Below.heap_setCell _ _ _ _ (by simp; omega)).trans h4
      have hx3 : W3.heap[W.heap.size]? = some (.cells #[.int .i64 2, .int .i64 1] 26) := by rw [← hW3]; simp only [World.setCell, Array.getElem?_modify, hx]; rfl
      have ho3 : W3.ownsRow w.heap.size 26 2 (.slice (some ⟨g0, 0, none⟩) (0 + 1) cap0) 1 [.int .i64 0, .int .i64 1] := by
        rw [← hW3]
        exact h5.kept (w' := W2.setCell ⟨W.heap.size, 1, none⟩ (.int .i64 1)) (row := some W.heap.size) ⟨rfl, rfl, rfl, by simp, fun j _ hj => Below.heap_setCell _ _ _ _ (fun e => hj (by rw [e]))⟩ (.inr (by simp [Value.ownBlock]; omega))
      rw [hW3]
      clear q0 q1 f1 q3 q4 f3 f4 h1 h2 h3 h4 h5
      have q0 := cell_at hx3 0
      have q1 := cell_at hx3 1
      have q3 := hb3.cell
      have q4 := hb4.cell
      have f3 := hb3.frozen
      have f4 := hb4.frozen
      have z3 := hb3.lt
      have z4 := hb4.lt
      have zx := block_lt hx3
      simp only [List.getElem?_toArray, List.getElem?_cons_zero, List.getElem?_cons_succ] at q0 q1
      obtain ⟨i0, hi, hz0, hz1, hz2⟩ := info_parts info26
      obtain ⟨v1, w1, hrun, hown1, hgr1, _⟩ := run_append_own (P := Try.prog) (W3.drew.alloc (.cells #[.int .i64 2, .int .i64 1] 26)) w.heap.size 24 24 26 i0 _ 2 16 Try.underlying24 hi hz0 hz1 hz2 rfl (by decide) (.slice (some ⟨g0, 0, none⟩) (0 + 1) cap0) 1 [.int .i64 0, .int .i64 1]
        ((ho3.drew).alloc _) ⟨W3.heap.size, 0, none⟩ 1 1 [.int .i64 2, .int .i64 1] rfl (cell_two_new W3.drew _ _ _) (by simp [Value.oneCell']) (by decide) (by decide) (by simp; omega)
      obtain ⟨g, cap, rfl⟩ := ownsRow_succ hown1
      have oldb : ∀ k, k < W3.heap.size → k ≠ g0 → w1.heap[k]? = W3.heap[k]? := fun k hk hn => (hgr1.block k (by simp; omega) (by simp [Value.ownBlock]; exact hn)).trans (Below.heap_alloc _ _ _ hk)
      have u3 := hb3.not_row (by decide) ho3
      have u4 := hb4.not_row (by decide) ho3
      simp [Value.ownBlock] at u3 u4
      have p3 := (oldb _ z3 u3).trans hb3
      have p4 := (oldb _ z4 u4).trans hb4
      have px := (oldb _ zx (by omega)).trans hx3
      have k1 := cell_at px 1
      have k3 := cell_at p3 0
      have k4 := cell_at p4 0
      have l3 := frozen_at p3 0
      have l4 := frozen_at p4 0
      have zz := hgr1.size
      simp only [World.size_drew, World.size_alloc] at zz
      simp only [List.getElem?_toArray, List.getElem?_cons_zero, List.getElem?_cons_succ] at k1 k3 k4
      clear hi hz0 hz1 hz2 oldb
      have fin := round_end (u := .int .i64 1) (T := .cells #[.int .i64 2, .int .i64 1] 26) (k' := 0) hS hk2 hx hXl (by simp [Value.ownBlock]; omega) hown1 (by rw [hW3]; exact hgr1)
      clear hS hk2 hx hown1 hgr1
      refine region9 w.heap.size W.heap.size W3.heap.size _ _ _ _ (.slice (some ⟨g0, 0, none⟩) (0 + 1) cap0) (.slice (some ⟨g, 0, none⟩) (1 + 1) cap) 2 1 1 0 W3 (W3.drew.alloc (.cells #[.int .i64 2, .int .i64 1] 26)) w1 (w1.setCell ⟨w.heap.size + 1 + 1, 0, none⟩ (.slice (some ⟨g, 0, none⟩) (1 + 1) cap)) ((w1.setCell ⟨w.heap.size + 1 + 1, 0, none⟩ (.slice (some ⟨g, 0, none⟩) (1 + 1) cap)).setCell ⟨w.heap.size + 1 + 1 + 1, 0, none⟩ (.int .i64 0))
        ?r0 ?r0' ?r1 ?r2 hrun ?r4 ?r5 ?r6 ?r7 ?r8 ?r9 ?hQ
      case r0 => clear fin; go_simp
      case r0' => clear fin; go_simp
      case r1 => clear fin; go_simp
      case r2 => clear fin; go_simp
      case r4 => clear fin; rintro V (rfl | rfl | rfl | rfl) <;> go_simp
      case r5 => clear fin; intro V; go_simp
      case r6 => clear fin; rintro V (rfl | rfl | rfl | rfl) <;> go_simp
      case r7 => clear fin; intro V; go_simp; rfl
      case r8 => clear fin; go_simp
      case r9 => clear fin; go_simp
      case hQ =>
        have FIN := Lib.hid fin
        clear fin
        simp only [T9, cond_true]
        gi_wp2
        have fin := FIN.out
        exact ⟨fin.1, rfl, _, fin.2.2⟩
  case hdone =>
    rintro D xs W hD rfl h hK
    rcases h with ⟨h, _⟩ | ⟨h, _⟩ <;> simp at h
  case hstop =>
    rintro D c pre W hD hpre ⟨rfl, v, h1, h2, h3, h4, h5, h6⟩ hK
    obtain ⟨g, cap, rfl⟩ := ownsRow_succ (k := 1) h5
    have q0 := cell_at h1 0
    have q1 := cell_at h1 1
    have q2 := cell_at h2 0
    have q3 := cell_at h2 1
    have q4 := frozen_at h2 0
    have q5 := frozen_at h2 1
    have q6 := h3.cell
    have q7 := h4.cell
    simp only [List.getElem?_toArray, List.getElem?_cons_zero, List.getElem?_cons_succ] at q0 q1 q2 q3
    have hlt := block_lt h4
    have hgl := h5.lt g rfl
    have r0 := h5.cellAt 0 (by decide)
    have r1 := h5.cellAt 1 (by decide)
    have r2 := h5.cellAt 2 (by decide)
    have r3 := h5.cellAt 3 (by decide)
    simp only [List.getElem?_cons_zero, List.getElem?_cons_succ] at r0 r1 r2 r3
    gi_wp2_with fail
    refine ⟨trivial, ?_⟩
    refine (callsIn_wide.2 (claim2 g cap W hgl.2 r0 r1 r2 r3)).mono ?_
    rintro e w2 ⟨rfl, hb2⟩
    have u2 := (hb2.block _ (block_lt h2)).trans h2
    have u3 := (hb2.block _ (block_lt h3)).trans h3
    have uK := (hb2.block _ (block_lt hK)).trans hK
    have u5 : w2.ownsRow w.heap.size 26 2 (.slice (some ⟨g, 0, none⟩) (1 + 1) cap) 2 [.int .i64 0, .int .i64 1, .int .i64 2, .int .i64 1] := by
      refine h5.kept (w' := w2) (row := none) ⟨hb2.os, hb2.tape, hb2.output, hb2.size, fun k hk _ => hb2.block k hk⟩ (.inr (by simp [Value.ownBlock]))
    have ub : Below w.heap.size w w2 := h6.trans (hb2.mono h6.size)
    clear q0 q1 q2 q3 q4 q5 q6 q7 r0 r1 r2 r3
    have q2 := cell_at u2 0
    have q3 := cell_at u2 1
    have q4 := frozen_at u2 0
    have q5 := frozen_at u2 1
    have q6 := cell_at u3 0
    simp only [List.getElem?_toArray, List.getElem?_cons_zero, List.getElem?_cons_succ] at q2 q3 q6
    have hl2 := block_lt u2
    have hl3 := block_lt u3
    gi_wp2
    gi_region
    all_goals gi_wp2
    have hne : D ≠ w.heap.size + 1 := by rintro rfl; rw [u2] at uK; cases uK
    obtain ⟨w3, hw3⟩ : ∃ w3, (((w2.setCell ⟨w.heap.size + 1, 0, none⟩ (.int .i64 5)).setCell ⟨w.heap.size + 1, 1, none⟩ (.string ⟨#[7]⟩)).alloc (.cells #[.int .i64 5, .string ⟨#[7]⟩] 30)).drew = w3 := ⟨_, rfl⟩
    have hz3 : w3.heap.size = w2.heap.size + 1 := by rw [← hw3]; simp
    have v2 : w3.heap[w.heap.size + 1]? = some (.cells #[.int .i64 5, .string ⟨#[7]⟩] 30) := by
      rw [← hw3]
      refine (Below.heap_alloc _ _ _ (by simpa using hl2)).trans ?_
      simp only [World.setCell, Array.getElem?_modify, u2]
      rfl
    have oth : ∀ k, k < w2.heap.size → k ≠ w.heap.size + 1 → w3.heap[k]? = w2.heap[k]? := fun k hk hne => by
      rw [← hw3]
      exact (Below.heap_alloc _ _ _ (by simpa using hk)).trans ((Below.heap_setCell _ _ _ _ hne).trans (Below.heap_setCell _ _ _ _ hne))
    have vK := (oth D (block_lt uK) hne).trans uK
    have vb : Below w.heap.size w w3 := by rw [← hw3]; exact (((ub.setCell (p := ⟨_, _, none⟩) (by simp) _).setCell (p := ⟨_, _, none⟩) (by simp) _).alloc (by simp; exact ub.size) _).drew
    have v5 : w3.ownsRow w.heap.size 26 2 (.slice (some ⟨g, 0, none⟩) (1 + 1) cap) 2 [.int .i64 0, .int .i64 1, .int .i64 2, .int .i64 1] := by
      refine u5.kept (w' := w3) (row := some (w.heap.size + 1)) ⟨by rw [← hw3]; rfl, by rw [← hw3]; rfl, by rw [← hw3]; rfl, by omega, fun k hk hne => oth k hk (fun e => hne (by rw [e]))⟩ (.inr fun e => ?_)
      simp [Value.ownBlock] at e
      subst e
      rcases u5.2 with ⟨h, _⟩ | ⟨g', _, _, h, _, hgb, _⟩
      · cases h
      · cases h; rw [u2] at hgb; cases hgb
    rw [hw3]
    refine ⟨by simp, .inl ⟨_, _, rfl, run_takeDeferred vK, ?_⟩⟩
    have x2 : (w3.putObj D (.deferred none)).heap[w.heap.size + 1]? = some (.cells #[.int .i64 5, .string ⟨#[7]⟩] 30) := (World.putObj_heap_other (by omega)).trans v2
    have c0 := cell_at x2 0
    have c1 := cell_at x2 1
    simp only [List.getElem?_toArray, List.getElem?_cons_zero, List.getElem?_cons_succ] at c0 c1
    refine ⟨.tuple #[.slice (some ⟨g, 0, none⟩) 2 cap, .agg #[.int .i64 5, .string ⟨#[7]⟩], .int .i64 0], by simp [results, Try.f8, go_sem, c0, c1], ⟨_, rfl, ownsRow_putObj v5 _ vK rfl⟩, vb.grown (grownBy_putObj' _ _ _) vb.size (fun k e => by cases e; simp at hD; omega)⟩
end Go.Proofs.Ytkaejgpnhcdlnaa
