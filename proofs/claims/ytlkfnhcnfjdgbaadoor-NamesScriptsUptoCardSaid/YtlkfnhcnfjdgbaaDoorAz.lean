/- names.Table.Apply where updates are refused, walked. -/
import Derived.Test.YtlkfnhcnfjdgbaaDoorAy
namespace Go.Proofs.YtlkfnhcnfjdgbaaDoor
open Go.RowKit Go.Maps Go.WideMaps
/-- The table that is none. -/
def noTbl : Value := .agg #[.slice none 0 0, .string ⟨#[]⟩, .slice none 0 0]
set_option maxRecDepth 100000 in
set_option maxHeartbeats 4000000 in
theorem apply_err (t : Tbl) (v : Value) (us : List Upd) (A' : Option Addr) (cap' : Nat) (h : Bs) (m : Int) (w : World) (hv : TblAt w t v) (hs : Sorted t.refs) (hrl : t.refs.length ≤ 900000) (hu : ∀ u ∈ us, u.name.length ≤ 2000000) (hul : us.length ≤ 10000) (hU : Upds w A' us)
    (hh : h.length ≤ 2000000) (hm : w.cell? ⟨0, 0, none⟩ = some (.int .i64 m)) (hE : mayE t.refs us h ≠ 0) :
    Calls Tryd.prog 13 #[v, .slice A' us.length cap', .string (mk h)] w fun e w' => e = .returned (.tuple #[noTbl, .int .i64 (mayE t.refs us h)]) ∧ Below w.heap.size w w' := by
  obtain ⟨A, c, B, cb, rfl, _, _, hR, _⟩ := hv
  obtain ⟨R, hd, lg⟩ := t
  simp only at hR hs hrl hE ⊢
  have hb0 : Below w.heap.size w ((w.alloc (.cells #[.slice A R.length c, .string (mk hd), .slice B lg.length cb] 31)).alloc (.cells #[.slice none 0 0, .string ⟨#[]⟩, .slice none 0 0] 31)) := (below_alloc w _).alloc (by simp) _
  have KM := may_any A c R (mk hd) B lg.length cb A' cap' us h m _ hs (by omega) (hR.below (Nat.le_refl _) hb0) hu (by omega) (hU.below (Nat.le_refl _) hb0) hh ((hb0.cell (p := ⟨0, 0, none⟩) (cell_lt hm)).trans hm)
  have e6 : Blk ((w.alloc (.cells #[.slice A R.length c, .string (mk hd), .slice B lg.length cb] 31)).alloc (.cells #[.slice none 0 0, .string ⟨#[]⟩, .slice none 0 0] 31)) (w.heap.size + 1) #[.slice none 0 0, .string ⟨#[]⟩, .slice none 0 0] 31 := by
    have := Blk.new (w.alloc (.cells #[.slice A R.length c, .string (mk hd), .slice B lg.length cb] 31)) #[.slice none 0 0, .string ⟨#[]⟩, .slice none 0 0] 31
    rw [show (w.alloc (.cells #[.slice A R.length c, .string (mk hd), .slice B lg.length cb] 31)).heap.size = w.heap.size + 1 by simp] at this
    exact this
  obtain ⟨W, hW⟩ : ∃ W, (w.alloc (.cells #[.slice A R.length c, .string (mk hd), .slice B lg.length cb] 31)).alloc (.cells #[.slice none 0 0, .string ⟨#[]⟩, .slice none 0 0] 31) = W := ⟨_, rfl⟩
  rw [hW] at hb0 KM e6
  have hW' := Lib.hid hW

  obtain ⟨E, hEE⟩ : ∃ E, mayE R us h = E := ⟨_, rfl⟩
  obtain ⟨L, hL⟩ : ∃ L, R.length = L := ⟨_, rfl⟩
  obtain ⟨N, hN⟩ : ∃ L, us.length = L := ⟨_, rfl⟩
  obtain ⟨M, hM⟩ : ∃ L, lg.length = L := ⟨_, rfl⟩
  rw [hEE] at KM hE ⊢
  rw [hL, hN, hM] at KM
  rw [hL, hM] at hW'
  rw [hL, hM, hN]
  have hne : (E == 0) = false := beq_eq_false_iff_ne.2 hE
  have hs0 := hb0.size
  clear hW hm hR hU hu hul hh hrl hs hEE hL hN hM
  go_enter Tryd.func13, Tryd.ntmps13
  have GT := Lib.hid (show ∀ w2, Below W.heap.size W w2 → (w2.cell? ⟨w.heap.size + 1, 0, none⟩ = some (.slice none 0 0) ∧ w2.cell? ⟨w.heap.size + 1, 1, none⟩ = some (.string ⟨#[]⟩) ∧ w2.cell? ⟨w.heap.size + 1, 2, none⟩ = some (.slice none 0 0) ∧ w2.frozen? ⟨w.heap.size + 1, 0, none⟩ = false ∧ w2.frozen? ⟨w.heap.size + 1, 1, none⟩ = false ∧ w2.frozen? ⟨w.heap.size + 1, 2, none⟩ = false) from fun w2 hb2 => by
    have t6 := e6.below hb2
    exact ⟨t6.cell 0, t6.cell 1, t6.cell 2, t6.frozen 0, t6.frozen 1, t6.frozen 2⟩)
  have GF := Lib.hid (show ∀ w2, Below W.heap.size W w2 → Blk (((w2.setCell ⟨w.heap.size + 1, 0, none⟩ (.slice none 0 0)).setCell ⟨w.heap.size + 1, 1, none⟩ (.string ⟨#[]⟩)).setCell ⟨w.heap.size + 1, 2, none⟩ (.slice none 0 0)) (w.heap.size + 1) #[.slice none 0 0, .string ⟨#[]⟩, .slice none 0 0] 31 ∧
      Below w.heap.size w (((w2.setCell ⟨w.heap.size + 1, 0, none⟩ (.slice none 0 0)).setCell ⟨w.heap.size + 1, 1, none⟩ (.string ⟨#[]⟩)).setCell ⟨w.heap.size + 1, 2, none⟩ (.slice none 0 0)) from fun w2 hb2 => by
    refine ⟨by simpa using (((e6.below hb2).set 0 (.slice none 0 0)).set 1 (.string ⟨#[]⟩)).set 2 (.slice none 0 0), ?_⟩
    exact (((hb0.trans (hb2.mono hs0)).setCell (p := ⟨w.heap.size + 1, 0, none⟩) (by simp) (.slice none 0 0)).setCell (p := ⟨w.heap.size + 1, 1, none⟩) (by simp) (.string ⟨#[]⟩)).setCell (p := ⟨w.heap.size + 1, 2, none⟩) (by simp) (.slice none 0 0))
  clear e6
  go_wp2_with (go_at_call 27; rw [hW'.out]; refine KM.mono ?_; rintro e w2 ⟨rfl, hb2⟩; obtain ⟨y0, y1, y2, f0, f1, f2⟩ := GT.out _ hb2)
  obtain ⟨tf, hBf⟩ := GF.out _ hb2
  have z0 := tf.cell 0
  have z1 := tf.cell 1
  have z2 := tf.cell 2
  simp at z0 z1 z2
  refine bodyPost_ret (v := .tuple #[noTbl, .int .i64 E]) ?_ rfl ?_
  · rw [results_cell_tmp Tryd.results13]
    unfold noTbl
    go_simp
  · exact ⟨rfl, hBf⟩
end Go.Proofs.YtlkfnhcnfjdgbaaDoor
