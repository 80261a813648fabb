import Derived.Test.YtkaejgpnhcdlnaaScE
import Derived.Test.YtkaejgpnhcdlnaaScA
namespace Go.Proofs.Ytkaejgpnhcdlnaa
open Go.RowKit
set_option maxRecDepth 100000 in
set_option maxHeartbeats 1000000 in
theorem speaks_any (w : World) : Calls Try.prog 4 #[] w fun e w' => e = .returned (.bool true) ∧ Below w.heap.size w w' := by
  go_enter Try.func4, Try.ntmps4
  go_wp2_with fail
  refine (new_any w).mono ?_
  rintro e w1 ⟨rfl, hb1⟩
  have z1 := hb1.size
  go_wp2_with fail
  refine (claim1 (w1.heap.size + 1) 1 _ ?_ ?_ ?_).mono ?_
  · simp
  · go_simp
  · go_simp
  rintro e w2 ⟨rfl, hb2⟩
  simp only [World.size_alloc] at hb2
  have hx2 := (hb2.block w1.heap.size (by omega)).trans ((Below.heap_alloc _ _ _ (by simp)).trans (heap_alloc_new w1 _))
  have b2 : Below w.heap.size w w2 := hb1.trans ((((Below.refl w.heap.size w1).alloc z1 _).alloc (by simp; omega) _).trans (hb2.mono (by omega)))
  clear hb2
  have q0 := cell_at hx2 0
  have q1 := cell_at hx2 1
  have f0 := frozen_at hx2 0
  have f1 := frozen_at hx2 1
  have z2 := block_lt hx2
  simp only [List.getElem?_toArray, List.getElem?_cons_zero, List.getElem?_cons_succ] at q0 q1
  go_wp2_with fail
  refine (take22 _).mono ?_
  rintro e w3 ⟨⟨v, rfl, hown⟩, hb3⟩
  obtain ⟨g, cap, rfl⟩ := ownsRow_succ (k := 1) hown
  have hr := (hown.lt g rfl)
  obtain ⟨W, hW⟩ : ∃ W, (w2.setCell ⟨w1.heap.size, 0, none⟩ (.int .i64 5)).setCell ⟨w1.heap.size, 1, none⟩ (.string ⟨#[2]⟩) = W := ⟨_, rfl⟩
  rw [hW] at hown hb3 hr
  have hz : W.heap.size = w2.heap.size := by rw [← hW]; simp
  have hx : W.heap[w1.heap.size]? = some (.cells #[.int .i64 5, .string ⟨#[2]⟩] 30) := by
    rw [← hW]; simp only [World.setCell, Array.getElem?_modify, hx2]; rfl
  have b3 : Below w.heap.size w w3 := (by rw [← hW]; exact (b2.setCell (p := ⟨_, _, none⟩) (by simpa using z1) _).setCell (p := ⟨_, _, none⟩) (by simpa using z1) _ : Below w.heap.size w W).trans (hb3.mono (by have := b2.size; omega))
  have hx3 := (hb3.block _ (block_lt hx)).trans hx
  clear q0 q1 f0 f1 hx2 hW hx hb3 b2
  have q0 := cell_at hx3 0
  have q1 := cell_at hx3 1
  have r2 := hown.cellAt 2 (by decide)
  have r3 := hown.cellAt 3 (by decide)
  have z3 := block_lt hx3
  have zg := hr.2
  simp only [List.getElem?_toArray, List.getElem?_cons_zero, List.getElem?_cons_succ] at q0 q1 r2 r3
  clear hown hr hz
  go_wp2_with fail
  refine (free6 _).mono ?_
  rintro e w4 ⟨rfl, hb4⟩
  simp only [World.size_alloc] at hb4
  have b4 : Below w.heap.size w w4 := b3.trans (((Below.refl w.heap.size w3).alloc b3.size _).trans (hb4.mono (by have := b3.size; omega)))
  have hx4 := (hb4.block w1.heap.size (by omega)).trans ((Below.heap_alloc _ _ _ z3).trans hx3)
  clear q0 q1 r2 r3 hx3 hb4 b3
  have q0 := cell_at hx4 0
  have q1 := cell_at hx4 1
  simp only [List.getElem?_toArray, List.getElem?_cons_zero, List.getElem?_cons_succ] at q0 q1
  go_wp2_with fail
  refine (free2 _).mono ?_
  rintro e w5 ⟨rfl, hb5⟩
  go_wp2
  go_ret
  exact ⟨rfl, b4.trans (hb5.mono (by have := b4.size; omega))⟩
end Go.Proofs.Ytkaejgpnhcdlnaa
