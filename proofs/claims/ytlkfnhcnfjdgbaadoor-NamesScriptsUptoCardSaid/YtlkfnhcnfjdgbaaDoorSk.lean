/- stemmalaw16.speaks, walked: it says true; NamesGood, walked. -/
import Derived.Test.YtlkfnhcnfjdgbaaDoorAp
import Derived.Test.YtlkfnhcnfjdgbaaDoorRi
namespace Go.Proofs.YtlkfnhcnfjdgbaaDoor
open Go.RowKit
def mainB : Bs := headsB ++ [47, 109, 97, 105, 110]
set_option maxRecDepth 100000 in
set_option maxHeartbeats 4000000 in
theorem speaks_any (m : Int) (w : World) (hm : w.cell? ⟨0, 0, none⟩ = some (.int .i64 m)) : Calls Tryd.prog 7 #[] w fun e w' => e = .returned (.bool true) ∧ Below w.heap.size w w' := by
  have KI := fun w => id_one w
  have hIs : (mk oneB).size = 32 := by rw [mk_size]; rfl
  have hB1 := fun w hm => branch_any (mk aB) m w (by decide) hm
  have hB2 := fun w hm => branch_any (mk (tagsB ++ [47, 97])) m w (by decide) hm
  simp only [mk_data] at hB1 hB2
  rw [show branchB aB = true from by decide] at hB1
  rw [show branchB (tagsB ++ [47, 97]) = false from by decide] at hB2
  have eM : (⟨#[104, 101, 97, 100, 115, 47, 109, 97, 105, 110]⟩ : ByteArray) = mk mainB := rfl
  obtain ⟨I, hI⟩ : ∃ I, mk oneB = I := ⟨_, rfl⟩
  rw [hI] at hIs
  simp only [hI] at KI
  clear hI
  go_enter Tryd.func7, Tryd.ntmps7
  go_wp2_with (go_at_call 19; refine (KI _).mono ?_)
  rintro e w1 ⟨rfl, b1⟩
  have z1 := b1.size
  have m1 := (b1.cell (p := ⟨0, 0, none⟩) (cell_lt hm)).trans hm
  have hn := heap_alloc_new w1 (.cells #[.string (mk aB), .string ⟨#[]⟩, .string I] 39)
  have ba := below_alloc w1 (.cells #[.string (mk aB), .string ⟨#[]⟩, .string I] 39)
  have hOne : One (w1.alloc (.cells #[.string (mk aB), .string ⟨#[]⟩, .string I] 39)) w1.heap.size I := by
    refine ⟨?_, ?_, ?_⟩
    all_goals (unfold World.cell?; rw [hn]; simp)
  have KA := apply_one w1.heap.size 1 (mk mainB) I hIs m _ ((ba.cell (p := ⟨0, 0, none⟩) (cell_lt m1)).trans m1) hOne
  go_wp2_with (go_at_call 13; refine KA.mono ?_)
  rintro e w2 ⟨r, c, A, c', rfl, p0, p1, b2⟩
  clear KA hOne hn
  have B2 : Below w.heap.size w w2 := (b1.trans (ba.mono z1)).trans (b2.mono (Nat.le_trans z1 ba.size))
  have z2 := B2.size
  have hT := below_alloc w2 (.cells #[.slice (some ⟨r, 0, none⟩) 1 c, .string (mk mainB), .slice A 1 c'] 31)
  have KG := get_one r c (mk mainB) (.slice A 1 c') ⟨_, _, _, rfl⟩ I _ ((hT.cell (p := ⟨r, 0, none⟩) (cell_lt p0)).trans p0) ((hT.cell (p := ⟨r, 1, none⟩) (cell_lt p1)).trans p1)
  have hV := alloc_lt w2 (.cells #[.slice (some ⟨r, 0, none⟩) 1 c, .string (mk mainB), .slice A 1 c'] 31)
  have hVn := heap_alloc_new w2 (.cells #[.slice (some ⟨r, 0, none⟩) 1 c, .string (mk mainB), .slice A 1 c'] 31)
  have BT : Below w.heap.size w (w2.alloc (.cells #[.slice (some ⟨r, 0, none⟩) 1 c, .string (mk mainB), .slice A 1 c'] 31)) := B2.alloc z2 _
  clear p0 p1
  go_wp2_with (go_at_call 21; refine KG.mono ?_)
  rintro e w3 ⟨rfl, b3⟩
  clear KG
  have B3 : Below w.heap.size w w3 := BT.trans (b3.mono BT.size)
  have x2 : w3.cell? ⟨w2.heap.size, 2, none⟩ = some (.slice A 1 c') := (b3.cell (p := ⟨w2.heap.size, 2, none⟩) hV).trans (by unfold World.cell?; rw [hVn]; simp)
  have hV3 : w2.heap.size < w3.heap.size := Nat.lt_of_lt_of_le hV b3.size
  clear hVn
  go_wp2_with (go_at_call 19; refine (KI _).mono ?_)
  rintro e w4 ⟨rfl, b4⟩
  have B4 : Below w.heap.size w w4 := B3.trans (b4.mono B3.size)
  have x4 := (b4.cell (p := ⟨w2.heap.size, 2, none⟩) hV3).trans x2
  have m4 := (B4.cell (p := ⟨0, 0, none⟩) (cell_lt hm)).trans hm
  have K1 := hB1 w4 m4
  go_wp2_with (go_at_call 10; refine K1.mono ?_)
  rintro e w5 ⟨rfl, b5⟩
  have B5 : Below w.heap.size w w5 := B4.trans (b5.mono B4.size)
  have m5 := (B5.cell (p := ⟨0, 0, none⟩) (cell_lt hm)).trans hm
  have K2 := hB2 w5 m5
  clear K1 hB1
  go_wp2_with (go_at_call 10; refine K2.mono ?_)
  rintro e w6 ⟨rfl, b6⟩
  go_wp2
  go_ret
  exact ⟨rfl, B5.trans (b6.mono B5.size)⟩
set_option maxRecDepth 100000 in
set_option maxHeartbeats 4000000 in
theorem namesGood_any (s : ByteArray) (m : Int) (w : World) (hs : s.size ≤ 2000000) (hm : w.cell? ⟨0, 0, none⟩ = some (.int .i64 m)) : Calls Tryd.prog 3 #[.string s] w fun e w' => e = .returned (.bool true) ∧ Below w.heap.size w w' := by
  have KS := speaks_any m w hm
  have hl := cell_lt hm
  go_enter Tryd.func3, Tryd.ntmps3
  go_wp2_with (go_at_call 7; refine KS.mono ?_; rintro e w1 ⟨rfl, b1⟩)
  have m1 := (b1.cell (p := ⟨0, 0, none⟩) hl).trans hm
  have KG := good_any s m w1 hs m1
  have KR := fun w => ref_any s w hs
  have KX := fun w => rbranch_any s w hs
  have z1 := b1.size
  clear KS
  go_wp2_with (go_at_call 8; refine KG.mono ?_; rintro e w2 ⟨rfl, b2⟩)
  have B2 : Below w.heap.size w w2 := b1.trans (b2.mono z1)
  have m2 := (B2.cell (p := ⟨0, 0, none⟩) hl).trans hm
  have KB := branch_any s m w2 hs m2
  clear KG
  go_wp2_with (first | (go_at_call 9; refine (KR _).mono ?_; rintro e w' ⟨rfl, rfl⟩) | (go_at_call 10; refine KB.mono ?_; rintro e w3 ⟨rfl, b3⟩))
  go_wp2_with (go_at_call 11; refine (KX _).mono ?_; rintro e w' ⟨rfl, rfl⟩)
  go_wp2
  go_ret
  exact ⟨ret_bool (by simp), B2.trans (b3.mono B2.size)⟩
end Go.Proofs.YtlkfnhcnfjdgbaaDoor
