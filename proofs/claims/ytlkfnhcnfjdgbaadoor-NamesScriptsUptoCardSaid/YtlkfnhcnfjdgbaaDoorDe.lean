/- slices.Delete of one reference, walked. -/
import Derived.Test.YtlkfnhcnfjdgbaaDoorCw
namespace Go.Proofs.YtlkfnhcnfjdgbaaDoor
open Go.RowKit Go.Maps Go.WideMaps
set_option maxRecDepth 100000 in
set_option maxHeartbeats 4000000 in
theorem delete_any (A : Option Addr) (c n i B : Nat) (xs : List Value) (w : World) (hi : i < n) (h1 : ∀ v ∈ xs, v.oneCell' = true) (hown : w.ownsRow B 41 2 (.slice A n c) n xs) :
    Calls Tryd.prog 31 #[.slice A n c, .int .i64 i, .int .i64 (i + 1)] w fun e w' => ∃ g, A = some ⟨g, 0, none⟩ ∧ e = .returned (.slice A (n - 1) c) ∧
      w'.ownsRow B 41 2 (.slice A (n - 1) c) (n - 1) (xs.take (i * 2) ++ xs.drop ((i + 1) * 2)) ∧ w.grownBy w' (some g) := by
  obtain ⟨i0, hi0, hz0, hz1, hz2⟩ := info_parts info41
  have hxl := hown.1
  obtain ⟨g, cur, rfl, hBg, hg, hnc, hcm, hcs, hct⟩ := own_block hown (by omega)
  have hcz : cur.toList.length = c * 2 := by simpa using hcs
  have hcell : ∀ k, k < n * 2 → w.cell? ⟨g, k, none⟩ = xs[k]? := fun k hk => by
    rw [← hct, List.getElem?_take, if_pos hk, cell_of_row w g k cur 41 (0, 0) hg]; simp
  obtain ⟨news, hnews⟩ : ∃ news, news = xs.drop ((i + 1) * 2) := ⟨_, rfl⟩
  have hnl : news.length = (n - (i + 1)) * 2 := by rw [hnews, List.length_drop, hxl]; omega
  obtain ⟨a, hA, hsrc⟩ : ∃ a : Addr, (if c = i + 1 then some (⟨g, 0, none⟩ : Addr) else some ⟨g, (i + 1) * 2, none⟩) = some a ∧ Hid (∀ t u, news[t]? = some u → w.drew.cell? (a.add t) = some u) := by
    by_cases h : c = i + 1
    · refine ⟨⟨g, 0, none⟩, by simp [h], fun t u hu => ?_⟩
      have h0 : news.length = 0 := by rw [hnl]; omega
      rw [List.length_eq_zero_iff.1 h0] at hu
      simp at hu
    · refine ⟨⟨g, (i + 1) * 2, none⟩, by simp [h], fun t u hu => ?_⟩
      have ht := (List.getElem?_eq_some_iff.1 hu).1
      rw [hnl] at ht
      rw [hnews, List.getElem?_drop] at hu
      rw [add_lit', ← hu]
      exact hcell _ (by omega)
  have s2 := Lib.hid (show ∀ u ∈ news, u.oneCell' = true from fun u hu => h1 u (List.mem_of_mem_drop (by rw [← hnews]; exact hu)))
  have s1 := Lib.hid hnl
  have s3 := Lib.hid (show ∀ t, t < news.length → (w.drew.cell? ⟨g, 0 + i * 2 + t, none⟩).isSome = true ∧ w.drew.frozen? ⟨g, 0 + i * 2 + t, none⟩ = false from fun t ht => by
    rw [hnl] at ht
    refine ⟨?_, frozen_of_row w g _ cur 41 hg⟩
    show (w.cell? _).isSome = true
    rw [hcell _ (by omega), List.getElem?_eq_getElem (by omega)]; rfl)
  obtain ⟨W1, hW1⟩ : ∃ W1, W1 = w.drew.setCells g (0 + i * 2) news := ⟨_, rfl⟩
  have hfit : 0 + i * 2 + news.length ≤ cur.size := by rw [hnl]; omega
  have hW1' : W1 = w.drew.setRow g (lay cur (0 + i * 2) news) := by rw [hW1]; exact setCells_lay w.drew g _ 41 news cur hg hfit s2.out
  have hg1 : W1.heap[g]? = some (.cells (lay cur (0 + i * 2) news) 41 (0, 0)) := by rw [hW1']; exact setRow_heap w.drew g cur _ 41 (0, 0) hg
  have hls : (lay cur (0 + i * 2) news).size = c * 2 := by rw [lay_size _ _ _ hfit, hcs]
  have hcl : ∀ ty d, (Builtin.clear_ #[28] ty #[.slice (some ⟨g, (n - 1) * 2, none⟩) 1 d]).run Tryd.prog W1 = .ok (.tuple #[]) (W1.setRow g (lay (lay cur (0 + i * 2) news) ((n - 1) * 2) [.string ⟨#[]⟩, .string ⟨#[]⟩])) := fun ty d =>
    run_clear_one W1 ty g ((n - 1) * 2) d _ 41 hg1 (by rw [hls]; omega)
  obtain ⟨W2, hW2⟩ : ∃ W2, W1.setRow g (lay (lay cur (0 + i * 2) news) ((n - 1) * 2) [.string ⟨#[]⟩, .string ⟨#[]⟩]) = W2 := ⟨_, rfl⟩
  rw [hW2] at hcl
  have hfinal : W2.ownsRow B 41 2 (.slice (some ⟨g, 0, none⟩) (n - 1) c) (n - 1) (xs.take (i * 2) ++ news) := by
    have hg2 : W2.heap[g]? = some (.cells (lay (lay cur (0 + i * 2) news) ((n - 1) * 2) [.string ⟨#[]⟩, .string ⟨#[]⟩]) 41 (0, 0)) := by rw [← hW2]; exact setRow_heap W1 g _ _ 41 (0, 0) hg1
    refine own_of_block hBg hg2 (by omega) hcm (by rw [lay_size _ _ _ (by rw [hls]; simp; omega), hls]) ?_ (by rw [List.length_append, List.length_take, hnl, hxl]; omega)
    have e1 : List.take (i * 2) xs = List.take (i * 2) cur.toList := by rw [← hct, List.take_take]; congr 1; omega
    unfold lay
    rw [Nat.zero_add, e1, List.append_assoc, List.take_append_of_le_length (by simp [hnl]; omega), List.take_take, Nat.min_self, List.take_append_of_le_length (by simp [hnl]; omega), List.take_of_length_le (by simp [hnl]; omega)]
  have hgrow : w.grownBy W2 (some g) := by
    rw [← hW2, hW1']
    exact grown_trans (grown_trans (grown_drew (grown_refl w _)) (grown_row w.drew g _)) (grown_row _ g _)
  rw [← hnews]
  have HW := Lib.hid hW1
  have HF := Lib.hid hfinal
  have HG := Lib.hid hgrow
  have hic : i ≤ c := by omega
  have hjc : i + 1 ≤ c := by omega
  have hc63 : c ≤ 9223372036854775807 := by simp only [maxLen] at hcm; omega
  have hb1 : (0 : Int) ≤ (i : Int) + 1 := by omega
  have hb2 : (i : Int) ≤ (i : Int) + 1 := by omega
  have hb3 : (i : Int) + 1 ≤ (n : Int) := by omega
  have htn : ((i : Int) + 1).toNat = i + 1 := by omega
  have hne : ((i : Int) == (i : Int) + 1) = false := by rw [beq_eq_false_iff_ne]; omega
  have hq : i + (n - (i + 1)) = n - 1 := by omega
  have hsub : n - (n - 1) = 1 := by omega
  clear hW1 hW1' hg1 hls hW2 hfinal hgrow hcell hct hcz hown hg hcs hnews hnl hxl h1 hfit
  have mixed : Tryd.prog.follows Departure.mixedOrders = true := by kernel_rfl
  go_enter Tryd.func31, Tryd.ntmps31
  go_wp2_with fail
  go_region_law_o (refine step_append_room rfl (.tmp 22) (.tmp 25) 28 rfl 41 i0 2 Tryd.underlying28 hi0 hz1 g 0 i c (by simp [Act.eval, Act.put]) a (n - (i + 1)) (c - (i + 1)) news (by first | (simp [Act.eval, Act.put]; done) | (simp [Act.eval, Act.put, hA]; done)) s1.out hsrc.out s2.out (by omega) s3.out ?_; rw [← HW.out])
  go_wp2
  go_ret
  exact ⟨g, rfl, by rw [← hq]; rfl, HF.out, HG.out⟩
end Go.Proofs.YtlkfnhcnfjdgbaaDoor
