import Derived.Test.YtkaejgpnhcdlnaaScC
namespace Go.Proofs.Ytkaejgpnhcdlnaa
open Go.RowKit Go.Shelf
attribute [local go_sem] Oper.semAt_some
abbrev encX (x : Int × Int) : Array Value := #[.agg #[.int .i64 x.1, .int .i64 x.2]]
abbrev S2 : Value := .agg #[.int .i64 5, .string ⟨#[2]⟩]
abbrev SB : Obj := .cells #[.int .i64 5, .string ⟨#[2]⟩] 30
theorem box3 (W : World) : (((W.alloc SB).alloc SB).alloc SB).heap[W.heap.size]? = some SB := by
  rw [Below.heap_alloc _ _ _ (by simp <;> omega), Below.heap_alloc _ _ _ (by simp)]
  exact heap_alloc_new _ _
theorem far3 {W : World} {g : Nat} {o : Obj} (h : W.heap[g]? = some o) : (((W.alloc SB).alloc SB).alloc SB).heap[g]? = some o := by
  have hg := block_lt h
  rw [Below.heap_alloc _ _ _ (by simp <;> omega), Below.heap_alloc _ _ _ (by simp <;> omega), Below.heap_alloc _ _ _ hg]
  exact h
theorem past3 {W : World} {g j : Nat} {v : Value} (hg : g < W.heap.size) (h : W.cell? ⟨g, j, none⟩ = some v) : (((W.alloc SB).alloc SB).alloc SB).cell? ⟨g, j, none⟩ = some v := by
  rw [World.cell?_alloc_lt _ _ _ (by simp; omega), World.cell?_alloc_lt _ _ _ (by simp; omega), World.cell?_alloc_lt _ _ _ hg]
  exact h
set_option maxRecDepth 100000 in
set_option maxHeartbeats 1000000 in
theorem free_stops (w : World) : Stops Fence.wide 5 Try.prog 12 #[S2] #[] encX (KeepCells 30 w.heap.size) (fun pre x => (pre = [] ∧ x = (0, 1)) ∨ (pre = [(0, 1)] ∧ x = (2, 3))) (fun xs => xs = [(0, 1), (2, 3)]) (fun pre => pre = [(0, 1)] ∨ pre = [(0, 1), (2, 3)]) w := by
  intro l J Jx W hW hJ hJx hY h0
  refine callsIn_of_wp Try.func12 rfl trivial ?_ rfl
  simp only [Try.ntmps12, List.size_toArray, List.length_cons, List.length_nil, Nat.reduceAdd, Nat.reduceSub, Array.replicate_succ, Array.replicate_zero, List.push_toArray, List.append_toArray, List.nil_append, List.cons_append]
  gi_wp2
  refine wpIn_loop_rounds 3 ?_; rw [roundsIn_succ]
  gi_wp2
  refine wpIn_loop_rounds 2 ?_; rw [roundsIn_succ]
  gi_wp2_with fail
  refine ⟨trivial, ?_⟩
  refine (callsIn_wide.2 (has_any 0 (by decide) _)).mono ?_
  rintro e w' ⟨rfl, rfl⟩
  gi_wp2
  rw [roundsIn_succ]
  gi_wp2_with fail
  refine ⟨trivial, ?_⟩
  refine (callsIn_wide.2 (has_any 1 (by decide) _)).mono ?_
  rintro e w' ⟨rfl, rfl⟩
  have j1 := abides_alloc hJ (abides_alloc hJ (abides_alloc hJ h0 SB) SB) SB
  obtain ⟨fn, tmps, assign, body, hy, hR⟩ := hY _ (0, 1) _ j1 (.inl ⟨rfl, rfl⟩)
  clear j1
  have hsz := hW.size
  gi_wp2
  refine hR.mono ?_
  rintro e W3 (⟨rfl, hJ3, hk3⟩ | ⟨rfl, hJx3⟩)
  · have x3 := hk3.2 W.heap.size _ _ hsz (box3 W)
    have c0 := cell_at x3 0
    have hz3 : W.heap.size < W3.heap.size := by have := hk3.1; simp at this; omega
    have c1 := cell_at x3 1
    simp only [List.getElem?_toArray, List.getElem?_cons_zero, List.getElem?_cons_succ] at c0 c1
    gi_wp2
    rw [roundsIn_succ]
    gi_wp2
    refine wpIn_loop_rounds 4 ?_; rw [roundsIn_succ]
    gi_wp2_with fail
    refine ⟨trivial, ?_⟩
    refine (callsIn_wide.2 (has_any 2 (by decide) _)).mono ?_
    rintro e w' ⟨rfl, rfl⟩
    gi_wp2
    rw [roundsIn_succ]
    gi_wp2_with fail
    refine ⟨trivial, ?_⟩
    refine (callsIn_wide.2 (has_any 3 (by decide) _)).mono ?_
    rintro e w' ⟨rfl, rfl⟩
    gi_wp2
    rw [roundsIn_succ]
    gi_wp2_with fail
    refine ⟨trivial, ?_⟩
    refine (callsIn_wide.2 (has_any 4 (by decide) _)).mono ?_
    rintro e w' ⟨rfl, rfl⟩
    gi_wp2
    rw [roundsIn_succ]
    have p0 := past3 hz3 c0
    have p1 := past3 hz3 c1
    have j4 := abides_alloc hJ (abides_alloc hJ (abides_alloc hJ hJ3 SB) SB) SB
    obtain ⟨fn, tmps, assign, body, hy, hR⟩ := hY _ (2, 3) _ j4 (.inr ⟨rfl, rfl⟩)
    clear j4
    gi_wp2
    refine ⟨trivial, ?_⟩
    gi_wp2
    clear p0 p1
    refine hR.mono ?_
    rintro e W4 (⟨rfl, hJ4, hk4⟩ | ⟨rfl, hJx4⟩)
    · have x4 := hk4.2 W.heap.size _ _ hsz (far3 x3)
      have d0 := cell_at x4 0
      have d1 := cell_at x4 1
      simp only [List.getElem?_toArray, List.getElem?_cons_zero, List.getElem?_cons_succ] at d0 d1
      have hz4 := block_lt x4
      gi_wp2
      rw [roundsIn_succ]
      gi_wp2
      go_end0
      exact ⟨⟨_, rfl⟩, .inl ⟨_, rfl, hJ4⟩⟩
    · gi_wp2
      refine bodyPost_ret (results_none rfl _ _ _) rfl ?_
      exact ⟨⟨_, rfl⟩, .inr ⟨_, .inr rfl, hJx4⟩⟩
  · gi_wp2
    refine bodyPost_ret (results_none rfl _ _ _) rfl ?_
    exact ⟨⟨_, rfl⟩, .inr ⟨_, .inl rfl, hJx3⟩⟩
end Go.Proofs.Ytkaejgpnhcdlnaa
