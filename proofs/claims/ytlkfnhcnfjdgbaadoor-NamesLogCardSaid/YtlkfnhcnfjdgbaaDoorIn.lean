/- slices.Insert of one reference, walked: at the end, in place, into a new row. -/
import Derived.Test.YtlkfnhcnfjdgbaaDoorDe
namespace Go.Proofs.YtlkfnhcnfjdgbaaDoor
open Go.RowKit Go.Maps Go.WideMaps
set_option maxRecDepth 100000 in
set_option maxHeartbeats 4000000 in
theorem insert_end (A : Option Addr) (c n B vb : Nat) (xs : List Value) (v0 v1 : Value) (w : World) (hB : B ≤ w.heap.size) (hn : n ≤ 1000000) (h0 : v0.oneCell' = true) (h1 : v1.oneCell' = true) (hown : w.ownsRow B 41 2 (.slice A n c) n xs)
    (hv : w.heap[vb]? = some (.cells #[v0, v1] 41 (0, 0))) :
    Calls Tryd.prog 32 #[.slice A n c, .int .i64 n, .slice (some ⟨vb, 0, none⟩) 1 1] w fun e w' => ∃ A' c', e = .returned (.slice A' (n + 1) c') ∧
      w'.ownsRow B 41 2 (.slice A' (n + 1) c') (n + 1) (xs ++ [v0, v1]) ∧ w.grownBy w' (Value.ownBlock (.slice A n c)) := by
  obtain ⟨i0, hi, hz0, hz1, hz2⟩ := info_parts info41
  have hncN := row_cap hown
  have hnc : (n : Int) ≤ (c : Int) := by omega
  have HV := Lib.hid hv
  have HO := Lib.hid hown
  clear hv hown
  by_cases hcn : c = n
  · subst hcn
    clear hnc hncN
    go_enter Tryd.func32, Tryd.ntmps32
    go_wp2_with (at_builtin; refine wpList_append_lies _ rfl (.tmp 23) (.tmp 24) 28 rfl B 41 i0 _ 2 32 Tryd.underlying28 hi hz0 hz1 hz2 rfl (by decide) (.slice A c c) c xs rfl HO.out ⟨vb, 0, none⟩ 1 1 [v0, v1] rfl rfl ?c1 ?c2 (by omega) ?c3 ?c4 hB _ rfl ?_)
    case c1 => exact World.news_of_block HV.out
    case c2 => simp [h0, h1]
    case c3 => simp only [maxLen]; omega
    case c4 => omega
    intro g cap w1 hown hgr hat hlt
    go_wp2
    go_ret
    exact ⟨some ⟨g, 0, none⟩, cap, rfl, hown, hgr⟩
  go_enter Tryd.func32, Tryd.ntmps32
  go_wp2_with (at_builtin; refine wpList_append_lies _ rfl (.tmp 23) (.tmp 24) 28 rfl B 41 i0 _ 2 32 Tryd.underlying28 hi hz0 hz1 hz2 rfl (by decide) (.slice A n c) n xs rfl HO.out ⟨vb, 0, none⟩ 1 1 [v0, v1] rfl rfl ?c1 ?c2 (by omega) ?c3 ?c4 hB _ rfl ?_)
  case c1 => exact World.news_of_block HV.out
  case c2 => simp [h0, h1]
  case c3 => simp only [maxLen]; omega
  case c4 => omega
  intro g cap w1 hown hgr hat hlt
  go_wp2
  go_ret
  exact ⟨some ⟨g, 0, none⟩, cap, rfl, hown, hgr⟩
set_option maxRecDepth 100000 in
set_option maxHeartbeats 4000000 in
theorem insert_room (c n i B g vb : Nat) (xs : List Value) (v0 v1 : Value) (w : World) (hin : i < n) (hroom : n + 1 ≤ c) (hn : n ≤ 1000000) (h0 : v0.oneCell' = true) (h1 : v1.oneCell' = true) (hx1 : ∀ v ∈ xs, v.oneCell' = true) (hown : w.ownsRow B 41 2 (.slice (some ⟨g, 0, none⟩) n c) n xs)
    (hv : w.heap[vb]? = some (.cells #[v0, v1] 41 (0, 0))) (hne : vb ≠ g) :
    Calls Tryd.prog 32 #[.slice (some ⟨g, 0, none⟩) n c, .int .i64 i, .slice (some ⟨vb, 0, none⟩) 1 1] w fun e w' => e = .returned (.slice (some ⟨g, 0, none⟩) (n + 1) c) ∧
      w'.ownsRow B 41 2 (.slice (some ⟨g, 0, none⟩) (n + 1) c) (n + 1) (xs.take (i * 2) ++ [v0, v1] ++ xs.drop (i * 2)) ∧ w.grownBy w' (some g) := by
  obtain ⟨i0, hi0, hz0, hz1, hz2⟩ := info_parts info41
  have hxl := hown.1
  obtain ⟨g', cur, hgg, hBg, hg, hnc, hcm, hcs, hct⟩ := own_block hown (by omega)
  injection hgg with hgg
  injection hgg with hgg
  subst hgg
  have hcell : ∀ k, k < n * 2 → w.cell? ⟨g, k, none⟩ = xs[k]? := fun k hk => by
    rw [← hct, List.getElem?_take, if_pos hk, cell_of_row w g k cur 41 (0, 0) hg]; simp
  have hdl : (xs.drop (i * 2)).length = (n - i) * 2 := by rw [List.length_drop, hxl]; omega
  have hov : ∀ lb cb, (callFunc 55 #[.slice (some ⟨vb, 0, none⟩) 1 1, .slice (some ⟨g, (i + 1) * 2, none⟩) lb cb]).run Tryd.prog w = .ok (.value (.bool false)) w := fun lb cb => by
    rw [run_callFunc_extern Tryd.func55 (by kernel_rfl) (by kernel_rfl) (by kernel_rfl) (e := Extern.SlicesOverlaps.overlaps #[28, 28] #[4]) (by kernel_rfl),
      Lib.run_overlaps_apart w 28 4 41 Tryd.underlying28 2 (fun w => by simp [sizeOf, typeInfo, hi0, hz1]) ⟨vb, 0, none⟩ ⟨g, (i + 1) * 2, none⟩ 1 1 lb cb hne 41 41 2 cur.size (by unfold World.shape?; rw [hv]; rfl) (by unfold World.shape?; rw [hg]) (by omega) (frozen_of_row w vb _ _ 41 hv) (frozen_of_row w vb _ _ 41 hv)]
    rfl
  have hcp1 : ∀ ty dc sc, (Builtin.copy_ #[28, 28] ty #[.slice (some ⟨g, (i + 1) * 2, none⟩) (n - i) dc, .slice (some ⟨g, i * 2, none⟩) (n + 1 - i) sc]).run Tryd.prog w.drew = .ok (goInt (Nat.min (n + 1 - i) (n - i))) (w.drew.setRow g (lay cur ((i + 1) * 2) (xs.drop (i * 2)))) := fun ty dc sc =>
    run_copy_wide w.drew 28 28 ty 41 g ((i + 1) * 2) (n - i) dc ⟨g, i * 2, none⟩ (n + 1 - i) sc cur 41 (xs.drop (i * 2)) i0 Tryd.underlying28 hi0 hg (by rw [hdl, hz1]; simp only [Nat.min_def]; split <;> omega)
      (fun j v hj => by
        have hjl := (List.getElem?_eq_some_iff.1 hj).1
        rw [hdl] at hjl
        rw [List.getElem?_drop] at hj
        rw [add_lit', ← hj]
        exact hcell _ (by omega)) (by rw [hdl]; omega) (fun v hv => hx1 v (List.mem_of_mem_drop hv))
  have hfit1 : (i + 1) * 2 + (xs.drop (i * 2)).length ≤ cur.size := by rw [hdl]; omega
  have hls : (lay cur ((i + 1) * 2) (xs.drop (i * 2))).size = c * 2 := by rw [lay_size _ _ _ hfit1, hcs]
  obtain ⟨cur1, hcur1⟩ : ∃ cur1, cur1 = lay cur ((i + 1) * 2) (xs.drop (i * 2)) := ⟨_, rfl⟩
  rw [← hcur1] at hcp1 hls
  obtain ⟨W1, hW1⟩ : ∃ W1, W1 = w.drew.setRow g cur1 := ⟨_, rfl⟩
  rw [← hW1] at hcp1
  have hg1 : W1.heap[g]? = some (.cells cur1 41 (0, 0)) := by rw [hW1]; exact setRow_heap w.drew g cur _ 41 (0, 0) hg
  have hv1 : W1.heap[vb]? = some (.cells #[v0, v1] 41 (0, 0)) := by rw [hW1, setRow_heap_other _ _ _ _ hne]; exact hv
  have hcp2 : ∀ ty dc, (Builtin.copy_ #[28, 28] ty #[.slice (some ⟨g, i * 2, none⟩) (n + 1 - i) dc, .slice (some ⟨vb, 0, none⟩) 1 1]).run Tryd.prog W1 = .ok (goInt (Nat.min 1 (n + 1 - i))) (W1.setRow g (lay cur1 (i * 2) [v0, v1])) := fun ty dc =>
    run_copy_wide W1 28 28 ty 41 g (i * 2) (n + 1 - i) dc ⟨vb, 0, none⟩ 1 1 cur1 41 [v0, v1] i0 Tryd.underlying28 hi0 hg1 (by rw [hz1]; simp only [Nat.min_def]; split <;> simp <;> omega)
      (World.news_of_block hv1) (by rw [hls]; simp; omega) (by simp [h0, h1])
  obtain ⟨W2, hW2⟩ : ∃ W2, W1.setRow g (lay cur1 (i * 2) [v0, v1]) = W2 := ⟨_, rfl⟩
  rw [hW2] at hcp2
  have hfinal : W2.ownsRow B 41 2 (.slice (some ⟨g, 0, none⟩) (n + 1) c) (n + 1) (xs.take (i * 2) ++ [v0, v1] ++ xs.drop (i * 2)) := by
    have hg2 : W2.heap[g]? = some (.cells (lay cur1 (i * 2) [v0, v1]) 41 (0, 0)) := by rw [← hW2]; exact setRow_heap W1 g _ _ 41 (0, 0) hg1
    refine own_of_block hBg hg2 (by omega) hcm (by rw [lay_size _ _ _ (by rw [hls]; simp; omega), hls]) ?_ (by simp [hxl]; omega)
    have e1 : List.take (i * 2) xs = List.take (i * 2) cur.toList := by rw [← hct, List.take_take]; congr 1; omega
    have hcl : cur.toList.length = c * 2 := by simpa using hcs
    have e2 : List.take (i * 2) cur1.toList = List.take (i * 2) cur.toList := by
      rw [hcur1]
      unfold lay
      rw [List.append_assoc, List.take_append_of_le_length (by simp; omega), List.take_take]
      congr 1; omega
    have e3 : List.drop (i * 2 + 2) cur1.toList = xs.drop (i * 2) ++ cur.toList.drop ((i + 1) * 2 + (n - i) * 2) := by
      rw [hcur1]
      unfold lay
      rw [hdl, show i * 2 + 2 = (i + 1) * 2 by omega, List.append_assoc, List.drop_append_of_le_length (by simp; omega), List.drop_of_length_le (by simp; omega), List.nil_append]
    unfold lay
    rw [show i * 2 + [v0, v1].length = i * 2 + 2 from rfl, e3, e2, ← e1, ← List.append_assoc, List.take_append_of_le_length (by simp [hxl]; omega), List.take_of_length_le (by simp [hxl]; omega)]
  have hgrow : w.grownBy W2 (some g) := by
    rw [← hW2, hW1]
    exact grown_trans (grown_trans (grown_drew (grown_refl w _)) (grown_row w.drew g _)) (grown_row _ g _)
  have HF := Lib.hid hfinal
  have HG := Lib.hid hgrow
  have mixed : Tryd.prog.follows Departure.mixedOrders = true := by kernel_rfl
  have hz1' : ¬ ((i : Int) = (n : Int)) := by omega
  have hw1 : IntKind.i64.wrap ((i : Int) + 1) = (i : Int) + 1 := by rw [IntKind.wrap_i64]; omega
  have hb1 : (0 : Int) ≤ (i : Int) + 1 := by omega
  have hin' : i ≤ n := by omega
  have htn : ((i : Int) + 1).toNat = i + 1 := by omega
  have hb2 : ¬ (c = i + 1) := by omega
  have hb3 : (i : Int) ≤ (n : Int) + 1 := by omega
  have hb4 : ¬ (c = i) := by omega
  have hc63 : c ≤ 9223372036854775807 := by simp only [maxLen] at hcm; omega
  clear hfinal hgrow hW2 hW1 hg1 hv1 hls hcur1 hfit1 hcell hown hg hct hcs hv hxl hdl hz1
  go_enter Tryd.func32, Tryd.ntmps32
  go_wp2_with (simp only [hov])
  go_region_law_o (refine step_copy_runI rfl _ _ 28 28 rfl _ _ (by simp [Act.eval, Act.put]) (by simp [Act.eval, Act.put]) (hcp1 _ _ _) ?_)
  go_wp2_with (at_builtin; refine wpList_copy_runI _ rfl _ _ 28 28 rfl _ _ rfl rfl (hcp2 _ _) ?_)
  go_ret
  exact ⟨rfl, HF.out, HG.out⟩
end Go.Proofs.YtlkfnhcnfjdgbaaDoor
