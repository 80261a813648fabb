/- rules.Lines, walked: the lines of a text, in a block of its own. -/
import Derived.Test.YtkaejgpnhcdlnaaDoorLn
import Derived.Test.YtkaejgpnhcdlnaaDoorGood
import Derived.Test.YtkaejgpnhcdlnaaDoorShelf
namespace Go.Proofs.YtkaejgpnhcdlnaaDoor
open Go.RowKit
def strs (l : List Bs) : Array Value := (l.map (fun t => Value.string (mk t))).toArray
theorem strs_size (l : List Bs) : (strs l).size = l.length := by simp [strs]
theorem strs_get (l : List Bs) (i : Nat) : (strs l)[i]? = l[i]?.map (fun t => Value.string (mk t)) := by simp [strs]
theorem splitB_spl (s : ByteArray) : Lib.splitB ⟨#[10]⟩ 1 (s.data.toList.count 10) s = (spl s.data.toList).map mk := by
  have h := Lib.splitB_data ⟨#[10]⟩ 1 (s.data.toList.count 10) s
  have h2 := congrArg (List.map mk) h
  rw [List.map_map] at h2
  have h3 : (mk ∘ fun b : ByteArray => b.data.toList) = id := rfl
  rw [h3, List.map_id] at h2
  exact h2
theorem countB_nl (s : ByteArray) : Lib.countB s ⟨#[10]⟩ = s.data.toList.count 10 := by
  unfold Lib.countB; exact Lib.count_one 10 _
set_option maxHeartbeats 800000 in
theorem splitAfter_any (s : ByteArray) (m : Int) (w : World) (hs : s.size < 4294967281) (hm : w.cell? ⟨0, 0, none⟩ = some (.int .i64 m)) :
    Calls Tryd.prog 19 #[.string s, .string ⟨#[10]⟩] w fun e w' => e = .returned (.slice (some ⟨w.heap.size, 0, none⟩) (spl s.data.toList).length (spl s.data.toList).length) ∧ w.alloc (.cells (strs (spl s.data.toList)) 9) = w' := by
  have hN : ((s.data.toList.count 10 + 1 : Nat) : Int) = min (if (-1 : Int) < 0 then (Lib.countB s ⟨#[10]⟩ : Int) + 1 else -1) ((s.size : Int) + 1) := by
    have := Lib.countB_le ⟨#[10]⟩ (by decide) s.size s (Nat.le_refl _)
    rw [countB_nl] at this ⊢
    rw [if_pos (by decide)]
    omega
  have H := Tryd.strings_genSplit s ⟨#[10]⟩ 1 (-1) (s.data.toList.count 10 + 1) m w hs hm (by decide) (by decide) (by decide) (by decide) hN
  rw [Nat.add_sub_cancel, splitB_spl, List.length_map] at H
  have hc : Lib.cellsOf ((spl s.data.toList).map mk) (s.data.toList.count 10 + 1) = strs (spl s.data.toList) := by
    have := Lib.cellsOf_full ((spl s.data.toList).map mk)
    rw [List.length_map, spl_length, List.map_map] at this
    exact this
  rw [hc, ← spl_length] at H
  go_enter Tryd.func19, Tryd.ntmps19
  go_wp2_with fail
  refine H.mono ?_
  rintro e w1 ⟨rfl, rfl⟩
  go_wp2
  go_ret
  exact ⟨rfl, rfl⟩
set_option maxHeartbeats 800000 in
theorem lines_any (s : ByteArray) (m : Int) (w : World) (hs : s.size < 4294967281) (hm : w.cell? ⟨0, 0, none⟩ = some (.int .i64 m)) :
    Calls Tryd.prog 9 #[.string s] w fun e w' => e = .returned (.slice (some ⟨w.heap.size, 0, none⟩) (lines s.data.toList).length (spl s.data.toList).length) ∧ w.alloc (.cells (strs (spl s.data.toList)) 9) = w' := by
  obtain ⟨l, hl, hcase⟩ := spl_last s.data.toList
  have hsl := spl_length s.data.toList
  have hcl : (spl s.data.toList).length ≤ s.size + 1 := by
    rw [hsl, Lib.size_eq]; have := List.count_le_length (a := (10 : UInt8)) (l := s.data.toList); omega
  obtain ⟨n, hn⟩ : ∃ n, (spl s.data.toList).length = n + 1 := ⟨_, hsl⟩
  rw [hn, Nat.add_sub_cancel] at hl
  rw [hn] at hcl
  have H := splitAfter_any s m w hs hm
  have hx : (w.alloc (.cells (strs (spl s.data.toList)) 9)).heap[w.heap.size]? = some (.cells (strs (spl s.data.toList)) 9 (0, 0)) := heap_alloc_new w _
  have q0 : (w.alloc (.cells (strs (spl s.data.toList)) 9)).cell? ⟨w.heap.size, n, none⟩ = some (.string (mk l)) := by
    unfold World.cell?; rw [hx]; simp [strs_get, hl]
  rw [hn] at H ⊢
  obtain ⟨W, hW⟩ : ∃ W, w.alloc (.cells (strs (spl s.data.toList)) 9) = W := ⟨_, rfl⟩
  rw [hW] at q0 H ⊢
  rcases hcase with ⟨rfl, h⟩ | ⟨h0, h⟩
  · have hb : (mk ([] : Bs)) = ⟨#[]⟩ := rfl
    have hll : (lines s.data.toList).length = n := by rw [h] at hn; simpa using hn
    rw [hll]
    rw [hb] at q0
    clear hl hx h hsl hW hll hn
    go_enter Tryd.func9, Tryd.ntmps9
    go_wp2_with fail
    refine H.mono ?_
    rintro e w1 ⟨rfl, rfl⟩
    go_wp2
    go_ret
    exact ⟨rfl, rfl⟩
  · have hb : (mk l).toList.isEmpty = false := by rw [bytes_list, mk_data]; simpa using h0
    have hb' : (mk l).toList ≠ [] := by rw [bytes_list, mk_data]; exact h0
    have hll : (lines s.data.toList).length = n + 1 := by rw [← h]; exact hn
    rw [hll]
    clear hl hx h hsl hW hll hn
    go_enter Tryd.func9, Tryd.ntmps9
    go_wp2_with fail
    refine H.mono ?_
    rintro e w1 ⟨rfl, rfl⟩
    go_wp2
    go_ret
    exact ⟨rfl, rfl⟩
end Go.Proofs.YtkaejgpnhcdlnaaDoor
