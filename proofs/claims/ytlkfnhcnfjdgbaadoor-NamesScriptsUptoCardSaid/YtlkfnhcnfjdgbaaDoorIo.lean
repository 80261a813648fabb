/- slices.Insert of one reference, walked: at the end, in place, into a new row. -/
import Derived.Test.YtlkfnhcnfjdgbaaDoorDe
namespace Go.Proofs.YtlkfnhcnfjdgbaaDoor
open Go.RowKit Go.Maps Go.WideMaps
set_option maxRecDepth 100000 in
set_option maxHeartbeats 4000000 in
theorem insert_end (A : Option Addr) (c n B vb : Nat) (xs : List Value) (v0 v1 : Value) (w : World) (hB : B ≤ w.heap.size) (hn : n ≤ 1000000) (h0 : v0.oneCell' = true) (h1 : v1.oneCell' = true) (hown : w.ownsRow B 41 2 (.slice A n c) n xs)
    (hv : w.heap[vb]? = some (.cells #[v0, v1] 41 (0, 0))) :
    Calls Tryd.prog 32 #[.slice A n c, .int .i64 n, .slice (some ⟨vb, 0, none⟩) 1 1] w fun e w' => ∃ A' c', e = .returned (.slice A' (n + 1) c') ∧
      w'.ownsRow B 41 2 (.slice A' (n + 1) c') (n + 1) (xs ++ [v0, v1]) ∧ w.grownBy w' (Value.ownBlock (.slice A n c)) := by
  obtain ⟨i0, hi, hz0, hz1, hz2⟩ := info_parts info41
  have hncN := row_cap hown
  have hnc : (n : Int) ≤ (c : Int) := by omega
  have HV := Lib.hid hv
  have HO := Lib.hid hown
  clear hv hown
  by_cases hcn : c = n
  · subst hcn
    clear hnc hncN
    go_enter Tryd.func32, Tryd.ntmps32
    go_wp2_with (at_builtin; refine wpList_append_lies _ rfl (.tmp 23) (.tmp 24) 28 rfl B 41 i0 _ 2 32 Tryd.underlying28 hi hz0 hz1 hz2 rfl (by decide) (.slice A c c) c xs rfl HO.out ⟨vb, 0, none⟩ 1 1 [v0, v1] rfl rfl ?c1 ?c2 (by omega) ?c3 ?c4 hB _ rfl ?_)
    case c1 => exact World.news_of_block HV.out
    case c2 => simp [h0, h1]
    case c3 => simp only [maxLen]; omega
    case c4 => omega
    intro g cap w1 hown hgr hat hlt
    go_wp2
    go_ret
    exact ⟨some ⟨g, 0, none⟩, cap, rfl, hown, hgr⟩
  go_enter Tryd.func32, Tryd.ntmps32
  go_wp2_with (at_builtin; refine wpList_append_lies _ rfl (.tmp 23) (.tmp 24) 28 rfl B 41 i0 _ 2 32 Tryd.underlying28 hi hz0 hz1 hz2 rfl (by decide) (.slice A n c) n xs rfl HO.out ⟨vb, 0, none⟩ 1 1 [v0, v1] rfl rfl ?c1 ?c2 (by omega) ?c3 ?c4 hB _ rfl ?_)
  case c1 => exact World.news_of_block HV.out
  case c2 => simp [h0, h1]
  case c3 => simp only [maxLen]; omega
  case c4 => omega
  intro g cap w1 hown hgr hat hlt
  go_wp2
  go_ret
  exact ⟨some ⟨g, 0, none⟩, cap, rfl, hown, hgr⟩
set_option maxRecDepth 100000 in
set_option maxHeartbeats 4000000 in
theorem insert_room (c n i B g vb : Nat) (xs : List Value) (v0 v1 : Value) (w : World) (hin : i < n) (hroom : n + 1 ≤ c) (hn : n ≤ 1000000) (h0 : v0.oneCell' = true) (h1 : v1.oneCell' = true) (hx1 : ∀ v ∈ xs, v.oneCell' = true) (hown : w.ownsRow B 41 2 (.slice (some ⟨g, 0, none⟩) n c) n xs)
    (hv : w.heap[vb]? = some (.cells #[v0, v1] 41 (0, 0))) (hne : vb ≠ g) :
    Calls Tryd.prog 32 #[.slice (some ⟨g, 0, none⟩) n c, .int .i64 i, .slice (some ⟨vb, 0, none⟩) 1 1] w fun e w' => e = .returned (.slice (some ⟨g, 0, none⟩) (n + 1) c) ∧
      w'.ownsRow B 41 2 (.slice (some ⟨g, 0, none⟩) (n + 1) c) (n + 1) (xs.take (i * 2) ++ [v0, v1] ++ xs.drop (i * 2)) ∧ w.grownBy w' (some g) := by
  obtain ⟨i0, hi0, hz0, hz1, hz2⟩ := info_parts info41
  have hxl := hown.1
  obtain ⟨g', cur, hgg, hBg, hg, hnc, hcm, hcs, hct⟩ := own_block hown (by omega)
  injection hgg with hgg
  injection hgg with hgg
  subst hgg
  have hcell : ∀ k, k < n * 2 → w.cell? ⟨g, k, none⟩ = xs[k]? := fun k hk => by
    rw [← hct, List.getElem?_take, if_pos hk, cell_of_row w g k cur 41 (0, 0) hg]; simp
  have hdl : (xs.drop (i * 2)).length = (n - i) * 2 := by rw [List.length_drop, hxl]; omega
  have hov : ∀ lb cb, (callFunc 55 #[.slice (some ⟨vb, 0, none⟩) 1 1, .slice (some ⟨g, (i + 1) * 2, none⟩) lb cb]).run Tryd.prog w = .ok (.value (.bool false)) w := fun lb cb => by
    rw [run_callFunc_extern Tryd.func55 (by kernel_rfl) (by kernel_rfl) (by kernel_rfl) (e := Extern.SlicesOverlaps.overlaps #[28, 28] #[4]) (by kernel_rfl),
      Lib.run_overlaps_apart w 28 4 41 Tryd.underlying28 2 (fun w => by simp [sizeOf, typeInfo, hi0, hz1]) ⟨vb, 0, none⟩ ⟨g, (i + 1) * 2, none⟩ 1 1 lb cb hne 41 41 2 cur.size (by unfold World.shape?; rw [hv]; rfl) (by unfold World.shape?; rw [hg]) (by omega) (frozen_of_row w vb _ _ 41 hv) (frozen_of_row w vb _ _ 41 hv)]
    rfl
  have hcp1 : ∀ ty dc sc, (Builtin.copy_ #[28, 28] ty #[.slice (some ⟨g, (i + 1) * 2, none⟩) (n - i) dc, .slice (some ⟨g, i * 2, none⟩) (n + 1 - i) sc]).run Tryd.prog w.drew = .ok (goInt (Nat.min (n + 1 - i) (n - i))) (w.drew.setRow g (lay cur ((i + 1) * 2) (xs.drop (i * 2)))) := fun ty dc sc =>
    run_copy_wide w.drew 28 28 ty 41 g ((i + 1) * 2) (n - i) dc ⟨g, i * 2, none⟩ (n + 1 - i) sc cur 41 (xs.drop (i * 2)) i0 Tryd.underlying28 hi0 hg (by rw [hdl, hz1]; simp only [Nat.min_def]; split <;> omega)
      (fun j v hj => by
        have hjl := (List.getElem?_eq_some_iff.1 hj).1
        rw [hdl] at hjl
        rw [List.getElem?_drop] at hj
        rw [add_lit', ← hj]
        exact hcell _ (by omega)) (by rw [hdl]; omega) (fun v hv => hx1 v (List.mem_of_mem_drop hv))
  have hfit1 : (i + 1) * 2 + (xs.drop (i * 2)).length ≤ cur.size := by rw [hdl]; omega
  have hls : (lay cur ((i + 1) * 2) (xs.drop (i * 2))).size = c * 2 := by rw [lay_size _ _ _ hfit1, hcs]
  obtain ⟨cur1, hcur1⟩ : ∃ cur1, cur1 = lay cur ((i + 1) * 2) (xs.drop (i * 2)) := ⟨_, rfl⟩
  rw [← hcur1] at hcp1 hls
  obtain ⟨W1, hW1⟩ : ∃ W1, W1 = w.drew.setRow g cur1 := ⟨_, rfl⟩
  rw [← hW1] at hcp1
  have hg1 : W1.heap[g]? = some (.cells cur1 41 (0, 0)) := by rw [hW1]; exact setRow_heap w.drew g cur _ 41 (0, 0) hg
  have hv1 : W1.heap[vb]? = some (.cells #[v0, v1] 41 (0, 0)) := by rw [hW1, setRow_heap_other _ _ _ _ hne]; exact hv
  have hcp2 : ∀ ty dc, (Builtin.copy_ #[28, 28] ty #[.slice (some ⟨g, i * 2, none⟩) (n + 1 - i) dc, .slice (some ⟨vb, 0, none⟩) 1 1]).run Tryd.prog W1 = .ok (goInt (Nat.min 1 (n + 1 - i))) (W1.setRow g (lay cur1 (i * 2) [v0, v1])) := fun ty dc =>
    run_copy_wide W1 28 28 ty 41 g (i * 2) (n + 1 - i) dc ⟨vb, 0, none⟩ 1 1 cur1 41 [v0, v1] i0 Tryd.underlying28 hi0 hg1 (by rw [hz1]; simp only [Nat.min_def]; split <;> simp <;> omega)
      (World.news_of_block hv1) (by rw [hls]; simp; omega) (by simp [h0, h1])
  obtain ⟨W2, hW2⟩ : ∃ W2, W1.setRow g (lay cur1 (i * 2) [v0, v1]) = W2 := ⟨_, rfl⟩
  rw [hW2] at hcp2
  have hfinal : W2.ownsRow B 41 2 (.slice (some ⟨g, 0, none⟩) (n + 1) c) (n + 1) (xs.take (i * 2) ++ [v0, v1] ++ xs.drop (i * 2)) := by
    have hg2 : W2.heap[g]? = some (.cells (lay cur1 (i * 2) [v0, v1]) 41 (0, 0)) := by rw [← hW2]; exact setRow_heap W1 g _ _ 41 (0, 0) hg1
    refine own_of_block hBg hg2 (by omega) hcm (by rw [lay_size _ _ _ (by rw [hls]; simp; omega), hls]) ?_ (by simp [hxl]; omega)
    have e1 : List.take (i * 2) xs = List.take (i * 2) cur.toList := by rw [← hct, List.take_take]; congr 1; omega
    have hcl : cur.toList.length = c * 2 := by simpa using hcs
    have e2 : List.take (i * 2) cur1.toList = List.take (i * 2) cur.toList := by
      rw [hcur1]
      unfold lay
      rw [List.append_assoc, List.take_append_of_le_length (by simp; omega), List.take_take]
      congr 1; omega
    have e3 : List.drop (i * 2 + 2) cur1.toList = xs.drop (i * 2) ++ cur.toList.drop ((i + 1) * 2 + (n - i) * 2) := by
      rw [hcur1]
      unfold lay
      rw [hdl, show i * 2 + 2 = (i + 1) * 2 by omega, List.append_assoc, List.drop_append_of_le_length (by simp; omega), List.drop_of_length_le (by simp; omega), List.nil_append]
    unfold lay
    rw [show i * 2 + [v0, v1].length = i * 2 + 2 from rfl, e3, e2, ← e1, ← List.append_assoc, List.take_append_of_le_length (by simp [hxl]; omega), List.take_of_length_le (by simp [hxl]; omega)]
  have hgrow : w.grownBy W2 (some g) := by
    rw [← hW2, hW1]
    exact grown_trans (grown_trans (grown_drew (grown_refl w _)) (grown_row w.drew g _)) (grown_row _ g _)
  have HF := Lib.hid hfinal
  have HG := Lib.hid hgrow
  have mixed : Tryd.prog.follows Departure.mixedOrders = true := by kernel_rfl
  have hz1' : ¬ ((i : Int) = (n : Int)) := by omega
  have hw1 : IntKind.i64.wrap ((i : Int) + 1) = (i : Int) + 1 := by rw [IntKind.wrap_i64]; omega
  have hb1 : (0 : Int) ≤ (i : Int) + 1 := by omega
  have hin' : i ≤ n := by omega
  have htn : ((i : Int) + 1).toNat = i + 1 := by omega
  have hb2 : ¬ (c = i + 1) := by omega
  have hb3 : (i : Int) ≤ (n : Int) + 1 := by omega
  have hb4 : ¬ (c = i) := by omega
  have hc63 : c ≤ 9223372036854775807 := by simp only [maxLen] at hcm; omega
  clear hfinal hgrow hW2 hW1 hg1 hv1 hls hcur1 hfit1 hcell hown hg hct hcs hv hxl hdl hz1
  go_enter Tryd.func32, Tryd.ntmps32
  go_wp2_with (simp only [hov])
  go_region_law_o (refine step_copy_runI rfl _ _ 28 28 rfl _ _ (by simp [Act.eval, Act.put]) (by simp [Act.eval, Act.put]) (hcp1 _ _ _) ?_)
  go_wp2_with (at_builtin; refine wpList_copy_runI _ rfl _ _ 28 28 rfl _ _ rfl rfl (hcp2 _ _) ?_)
  go_ret
  exact ⟨rfl, HF.out, HG.out⟩
end Go.Proofs.YtlkfnhcnfjdgbaaDoor
/- slices.Insert of one reference into a full row, walked: a new row; Insert at any row. -/
namespace Go.Proofs.YtlkfnhcnfjdgbaaDoor
open Go.RowKit Go.Maps Go.WideMaps
theorem zeroCells_size (n : Nat) : (Builtin.zeroCells (Value.agg #[.string ⟨#[]⟩, .string ⟨#[]⟩]).cells n).size = n * 2 := by
  have : (Value.agg #[.string ⟨#[]⟩, .string ⟨#[]⟩]).cells.size = 2 := by kernel_rfl
  unfold Builtin.zeroCells
  rw [this]; simp
set_option maxRecDepth 100000 in
set_option maxHeartbeats 4000000 in
theorem insert_grow (c n i B g vb : Nat) (xs : List Value) (v0 v1 : Value) (w : World) (hin : i < n) (hroom : c < n + 1) (hB : B ≤ w.heap.size) (hn : n ≤ 1000000) (h0 : v0.oneCell' = true) (h1 : v1.oneCell' = true) (hx1 : ∀ v ∈ xs, v.oneCell' = true) (hown : w.ownsRow B 41 2 (.slice (some ⟨g, 0, none⟩) n c) n xs)
    (hv : w.heap[vb]? = some (.cells #[v0, v1] 41 (0, 0))) :
    Calls Tryd.prog 32 #[.slice (some ⟨g, 0, none⟩) n c, .int .i64 i, .slice (some ⟨vb, 0, none⟩) 1 1] w fun e w' => ∃ c', e = .returned (.slice (some ⟨w.heap.size, 0, none⟩) (n + 1) c') ∧
      w'.ownsRow B 41 2 (.slice (some ⟨w.heap.size, 0, none⟩) (n + 1) c') (n + 1) (xs.take (i * 2) ++ [v0, v1] ++ xs.drop (i * 2)) ∧ w.grownBy w' (some g) := by
  obtain ⟨i0, hi0, hz0, hz1, hz2⟩ := info_parts info41
  have hxl := hown.1
  obtain ⟨g', cur, hgg, hBg, hg, hnc, hcm, hcs, hct⟩ := own_block hown (by omega)
  injection hgg with hgg
  injection hgg with hgg
  subst hgg
  have hgw : g < w.heap.size := (Array.getElem?_eq_some_iff.1 hg).1
  have hvw : vb < w.heap.size := (Array.getElem?_eq_some_iff.1 hv).1
  have hcell : ∀ k, k < n * 2 → w.cell? ⟨g, k, none⟩ = xs[k]? := fun k hk => by
    rw [← hct, List.getElem?_take, if_pos hk, cell_of_row w g k cur 41 (0, 0) hg]; simp
  have hdl : (xs.drop (i * 2)).length = (n - i) * 2 := by rw [List.length_drop, hxl]; omega
  have hold : (Builtin.firstCells i0.size i (.slice (some ⟨g, 0, none⟩) i c)).run Tryd.prog w.drew = .ok (xs.take (i * 2)).toArray w.drew := by
    rw [hz1]
    exact run_firstCells_some w.drew 2 i ⟨g, 0, none⟩ i c (xs.take (i * 2)) (by rw [List.length_take, hxl]; omega) (fun j v hj => by
      rw [add_lit', Nat.zero_add]
      rw [List.getElem?_take] at hj
      split at hj
      · rw [← hj]; exact hcell j (by omega)
      · cases hj)
  have hkk : (n : Int) + 1 - (i : Int) = ((n + 1 - i : Nat) : Int) := by omega
  have hik : i + (n + 1 - i) = n + 1 := by omega
  have hrz : ∀ ty, (Builtin.append_ #[28, 3] ty #[.slice (some ⟨g, 0, none⟩) i c, .int .i64 ((n : Int) + 1 - (i : Int))]).run Tryd.prog w =
      .ok (.slice (some ⟨w.heap.size, 0, none⟩) (n + 1) (grownCap w (n + 1) c 41)) (w.drew.alloc (.cells ((xs.take (i * 2)).toArray ++ Builtin.zeroCells (Value.agg #[.string ⟨#[]⟩, .string ⟨#[]⟩]).cells (n + 1 - i) ++ Builtin.zeroCells (Value.agg #[.string ⟨#[]⟩, .string ⟨#[]⟩]).cells (grownCap w (n + 1) c 41 - (n + 1))) 41)) := fun ty => by
    have h := Lib.run_append_grow_zeros w 28 3 ty 41 i0 _ .i64 .i64 Tryd.underlying28 Tryd.underlying3 hi0 hz0 (some ⟨g, 0, none⟩) i c (xs.take (i * 2)) hold (n + 1 - i) (by omega) (by omega) (by omega) (by omega) (by rw [hz2]; omega) (by rw [hz2, hik]; exact growslice_fits hroom (by omega))
    rw [hik] at h
    rw [hkk]
    exact h
  have hGn : n + 1 ≤ grownCap w (n + 1) c 41 := grownCap_ge w _ _ _
  have hGm : grownCap w (n + 1) c 41 ≤ maxLen := grownCap_le_maxLen w (n + 1) c 41 (by unfold maxLen; omega)
  obtain ⟨G, hG⟩ : ∃ G, grownCap w (n + 1) c 41 = G := ⟨_, rfl⟩
  rw [hG] at hGn hGm
  simp only [hG] at hrz
  obtain ⟨ROW, hROW⟩ : ∃ ROW : Array Value, ROW = (xs.take (i * 2)).toArray ++ Builtin.zeroCells (Value.agg #[.string ⟨#[]⟩, .string ⟨#[]⟩]).cells (n + 1 - i) ++ Builtin.zeroCells (Value.agg #[.string ⟨#[]⟩, .string ⟨#[]⟩]).cells (G - (n + 1)) := ⟨_, rfl⟩
  rw [← hROW] at hrz
  have hRs : ROW.size = G * 2 := by
    rw [hROW, Array.size_append, Array.size_append, zeroCells_size, zeroCells_size]
    simp [hxl]; omega
  have hRt : ROW.toList.take (i * 2) = xs.take (i * 2) := by
    rw [hROW, Array.toList_append, Array.toList_append, List.append_assoc, List.take_append_of_le_length (by simp [hxl]; omega)]
    simp [List.take_take]
  obtain ⟨W1, hW1⟩ : ∃ W1, w.drew.alloc (.cells ROW 41) = W1 := ⟨_, rfl⟩
  have hg1 : W1.heap[w.heap.size]? = some (.cells ROW 41 (0, 0)) := by rw [← hW1]; exact heap_alloc_new w.drew _
  have hvo : W1.heap[vb]? = some (.cells #[v0, v1] 41 (0, 0)) := by rw [← hW1]; exact (heap_alloc_old w.drew _ hvw).trans hv
  have hgo : W1.heap[g]? = some (.cells cur 41 (0, 0)) := by rw [← hW1]; exact (heap_alloc_old w.drew _ hgw).trans hg
  have hgr1 : w.grownBy W1 (some g) := by rw [← hW1]; exact grown_trans (grown_drew (grown_refl w _)) (World.grownBy_alloc w.drew _ _)
  rw [hW1] at hrz
  have hfA : i * 2 + [v0, v1].length ≤ ROW.size := by rw [hRs]; simp; omega
  have hcpA : ∀ ty dc, (Builtin.copy_ #[28, 28] ty #[.slice (some ⟨w.heap.size, i * 2, none⟩) (n + 1 - i) dc, .slice (some ⟨vb, 0, none⟩) 1 1]).run Tryd.prog W1 = .ok (goInt (Nat.min 1 (n + 1 - i))) (W1.setRow w.heap.size (lay ROW (i * 2) [v0, v1])) := fun ty dc =>
    run_copy_wide W1 28 28 ty 41 w.heap.size (i * 2) (n + 1 - i) dc ⟨vb, 0, none⟩ 1 1 ROW 41 [v0, v1] i0 Tryd.underlying28 hi0 hg1 (by rw [hz1]; simp only [Nat.min_def]; split <;> simp <;> omega)
      (World.news_of_block hvo) hfA (by simp [h0, h1])
  have hsA : (lay ROW (i * 2) [v0, v1]).size = G * 2 := by rw [lay_size _ _ _ hfA, hRs]
  have htA : (lay ROW (i * 2) [v0, v1]).toList.take ((i + 1) * 2) = xs.take (i * 2) ++ [v0, v1] := by
    unfold lay
    rw [hRt, List.take_append_of_le_length (by simp [hxl]; omega), List.take_of_length_le (by simp [hxl]; omega)]
  obtain ⟨cA, hcA⟩ : ∃ x, lay ROW (i * 2) [v0, v1] = x := ⟨_, rfl⟩
  rw [hcA] at hcpA hsA htA
  obtain ⟨W2, hW2⟩ : ∃ W2, W1.setRow w.heap.size cA = W2 := ⟨_, rfl⟩
  have hg2 : W2.heap[w.heap.size]? = some (.cells cA 41 (0, 0)) := by rw [← hW2]; exact setRow_heap W1 _ _ _ 41 (0, 0) hg1
  have hgo2 : W2.heap[g]? = some (.cells cur 41 (0, 0)) := by rw [← hW2, setRow_heap_other _ _ _ _ (by omega)]; exact hgo
  rw [hW2] at hcpA
  have hfB : (i + 1) * 2 + (xs.drop (i * 2)).length ≤ cA.size := by rw [hsA, hdl]; omega
  have hcpB : ∀ ty dc sc, (Builtin.copy_ #[28, 28] ty #[.slice (some ⟨w.heap.size, (i + 1) * 2, none⟩) (n - i) dc, .slice (some ⟨g, i * 2, none⟩) (n - i) sc]).run Tryd.prog W2.drew = .ok (goInt (Nat.min (n - i) (n - i))) (W2.drew.setRow w.heap.size (lay cA ((i + 1) * 2) (xs.drop (i * 2)))) := fun ty dc sc =>
    run_copy_wide W2.drew 28 28 ty 41 w.heap.size ((i + 1) * 2) (n - i) dc ⟨g, i * 2, none⟩ (n - i) sc cA 41 (xs.drop (i * 2)) i0 Tryd.underlying28 hi0 hg2 (by rw [hdl, hz1]; simp only [Nat.min_def]; split <;> omega)
      (fun j v hj => by
        have hjl := (List.getElem?_eq_some_iff.1 hj).1
        rw [hdl] at hjl
        rw [List.getElem?_drop] at hj
        rw [add_lit', ← hj, ← hcell _ (by omega)]
        show W2.cell? _ = _
        rw [cell_of_row W2 g _ cur 41 (0, 0) hgo2, cell_of_row w g _ cur 41 (0, 0) hg]) hfB (fun v hv => hx1 v (List.mem_of_mem_drop hv))
  have hsB : (lay cA ((i + 1) * 2) (xs.drop (i * 2))).size = G * 2 := by rw [lay_size _ _ _ hfB, hsA]
  have htB : (lay cA ((i + 1) * 2) (xs.drop (i * 2))).toList.take ((n + 1) * 2) = xs.take (i * 2) ++ [v0, v1] ++ xs.drop (i * 2) := by
    unfold lay
    rw [htA, List.take_append_of_le_length (by simp [hxl]; omega), List.take_of_length_le (by simp [hxl]; omega)]
  obtain ⟨cB, hcB⟩ : ∃ x, lay cA ((i + 1) * 2) (xs.drop (i * 2)) = x := ⟨_, rfl⟩
  rw [hcB] at hcpB hsB htB
  obtain ⟨W3, hW3⟩ : ∃ W3, W2.drew.setRow w.heap.size cB = W3 := ⟨_, rfl⟩
  have hg3 : W3.heap[w.heap.size]? = some (.cells cB 41 (0, 0)) := by rw [← hW3]; exact setRow_heap W2.drew _ _ _ 41 (0, 0) hg2
  rw [hW3] at hcpB
  have HF := Lib.hid (own_of_block hB hg3 hGn hGm hsB htB (by simp [hxl]; omega))
  have far : ∀ (X : World), w.grownBy X (some g) → ∀ cs, w.grownBy (X.setRow w.heap.size cs) (some g) := fun X hX cs =>
    ⟨hX.os, hX.tape, hX.output, by rw [size_setRow]; exact hX.size, fun k hk hne => (setRow_heap_other X _ k cs (by omega)).trans (hX.block k hk hne)⟩
  have HG := Lib.hid (show w.grownBy W3 (some g) by rw [← hW3, ← hW2]; exact far _ (grown_drew (far _ hgr1 _)) _)
  have mixed : Tryd.prog.follows Departure.mixedOrders = true := by kernel_rfl
  have hz1' : ¬ ((i : Int) = (n : Int)) := by omega
  have hz3 : (c : Int) < (n : Int) + 1 := by omega
  have hw1 : IntKind.i64.wrap ((i : Int) + 1) = (i : Int) + 1 := by rw [IntKind.wrap_i64]; omega
  have hb1 : (0 : Int) ≤ (i : Int) + 1 := by omega
  have hin' : i ≤ n := by omega
  have htn : ((i : Int) + 1).toNat = i + 1 := by omega
  have hb3 : (i : Int) ≤ (n : Int) + 1 := by omega
  have hG1 : ¬ (G = i) := by omega
  have hG2 : ¬ (G = i + 1) := by omega
  have hci : ¬ (c = i) := by omega
  have hc63 : c ≤ 9223372036854775807 := by simp only [maxLen] at hcm; omega
  have hG63 : G ≤ 9223372036854775807 := by simp only [maxLen] at hGm; omega
  clear far hW3 hg3 hcB hsB htB hfB hgo2 hg2 hW2 hcA hsA htA hfA hgr1 hgo hvo hg1 hW1 hRt hRs hROW hG hold hcell hown hg hct hcs hv hxl hdl hz1 hkk hik
  go_enter Tryd.func32, Tryd.ntmps32
  go_wp2_with (first
    | (at_builtin; refine Lib.wpList_append_run _ rfl _ _ _ _ rfl _ _ rfl rfl _ _ (hrz _) ?_)
    | (at_builtin; refine wpList_copy_runI _ rfl _ _ 28 28 rfl _ _ rfl rfl (hcpA _ _) ?_))
  go_region_law_o (refine step_copy_runI rfl _ _ 28 28 rfl _ _ (by simp [Act.eval, Act.put]) (by simp [Act.eval, Act.put]) (hcpB _ _ _) ?_)
  go_wp2
  go_ret
  exact ⟨G, rfl, HF.out, HG.out⟩
theorem insert_any (A : Option Addr) (c n i B vb : Nat) (xs : List Value) (v0 v1 : Value) (w : World) (hin : i ≤ n) (hB : B ≤ w.heap.size) (hn : n ≤ 1000000) (h0 : v0.oneCell' = true) (h1 : v1.oneCell' = true) (hx1 : ∀ v ∈ xs, v.oneCell' = true) (hown : w.ownsRow B 41 2 (.slice A n c) n xs)
    (hv : w.heap[vb]? = some (.cells #[v0, v1] 41 (0, 0))) (hne : Value.ownBlock (.slice A n c) ≠ some vb) :
    Calls Tryd.prog 32 #[.slice A n c, .int .i64 i, .slice (some ⟨vb, 0, none⟩) 1 1] w fun e w' => ∃ A' c', e = .returned (.slice A' (n + 1) c') ∧
      w'.ownsRow B 41 2 (.slice A' (n + 1) c') (n + 1) (xs.take (i * 2) ++ [v0, v1] ++ xs.drop (i * 2)) ∧ w.grownBy w' (Value.ownBlock (.slice A n c)) := by
  by_cases e : i = n
  · subst e
    have hl := hown.1
    rw [List.take_of_length_le (by omega), List.drop_of_length_le (by omega), List.append_nil]
    exact insert_end A c i B vb xs v0 v1 w hB hn h0 h1 hown hv
  · obtain ⟨g, cur, rfl, _⟩ := own_block hown (by omega)
    by_cases hr : n + 1 ≤ c
    · refine (insert_room c n i B g vb xs v0 v1 w (by omega) hr hn h0 h1 hx1 hown hv (fun e => hne (by rw [e]; rfl))).mono ?_
      rintro e w' ⟨rfl, a, b⟩
      exact ⟨_, _, rfl, a, b⟩
    · refine (insert_grow c n i B g vb xs v0 v1 w (by omega) (by omega) hB hn h0 h1 hx1 hown hv).mono ?_
      rintro e w' ⟨c', rfl, a, b⟩
      exact ⟨_, _, rfl, a, b⟩
end Go.Proofs.YtlkfnhcnfjdgbaaDoor
