/- stemmalaw16.id at 1, walked; parts of names.Table.may at one update. -/
import Derived.Test.YtlkfnhcnfjdgbaaDoorGx
import Derived.BigRegion
import Derived.Laws.IdiomStrings
import Derived.Laws.MakeOwn
namespace Go.Proofs.YtlkfnhcnfjdgbaaDoor
open Go.RowKit
/-- The ID of number 1. -/
def oneB : Bs := 1 :: List.replicate 31 0
def aB : Bs := headsB ++ [47, 97]
theorem info5 : (Tryd.prog.info? 5).map (fun i => (i.zero, i.size, i.bytes)) = some (some (.int .u8 0), 1, 1) := by kernel_rfl
theorem conv_row (W : World) (g : Nat) (l : Bs) (cs : Array Value) (hh : W.heap[g]? = some (.cells cs 5 (0, 0))) (hc : cs.toList = l.map (fun b => Value.int .u8 (b.toNat : Int))) (cap : Nat) :
    (convert 84 9 (.slice (some ⟨g, 0, none⟩) l.length cap)).run Tryd.prog W = .ok (.string (mk l)) W := by
  refine run_convert_bytes_back (P := Tryd.prog) W 84 9 5 ⟨g, 0, none⟩ cap l Tryd.underlying84 Tryd.underlying5 Tryd.underlying9 (fun j hj => ?_)
  rw [show ((⟨g, 0, none⟩ : Addr).add j) = ⟨g, j, none⟩ from by unfold Addr.add; split <;> simp_all]
  unfold World.cell?
  rw [hh]
  have : cs[j]? = some (.int .u8 (l[j].toNat : Int)) := by
    rw [← Array.getElem?_toList, hc]; simp [hj]
  simpa using this
set_option maxRecDepth 100000 in
set_option maxHeartbeats 4000000 in
theorem id_one (w : World) : Calls Tryd.prog 19 #[.int .i64 1] w fun e w' => e = .returned (.string (mk oneB)) ∧ Below w.heap.size w w' := by
  obtain ⟨i0, hi, hz0, hz1, hz2⟩ := info_parts info5
  obtain ⟨Z, hZ⟩ : ∃ Z, madeCells (Value.int .u8 0).cells 31 = Z := ⟨_, rfl⟩
  have hZl : Z.toList = (List.replicate 31 (0 : UInt8)).map (fun b => Value.int .u8 (b.toNat : Int)) := by rw [← hZ]; kernel_rfl
  have hmk : ∀ W : World, (Instr.makeSlice 84 (.int .i64 31) (.int .i64 31)).run Tryd.prog W = .ok (.slice (some ⟨W.heap.size, 0, none⟩) 31 31) (W.alloc (.cells Z 5)) := by
    intro W
    have := run_makeSlice (P := Tryd.prog) W 84 5 i0 _ Tryd.underlying84 hi hz0 .i64 .i64 31 31 (by decide) (by decide) (by rw [hz1]; decide) (by rw [hz2]; decide) (by decide)
    rw [hz1] at this
    rw [this, ← hZ]; rfl
  have hw1 : IntKind.u8.wrap 1 = 1 := by decide
  have hcv1 : ∀ (W : World) (g : Nat), W.heap[g]? = some (.cells #[.int .u8 1] 5 (0, 0)) → (convert 84 9 (.slice (some ⟨g, 0, none⟩) 1 1)).run Tryd.prog W = .ok (.string ⟨#[1]⟩) W := fun W g h => conv_row W g [1] _ h rfl 1
  have hcv2 : ∀ (W : World) (g : Nat), W.heap[g]? = some (.cells Z 5 (0, 0)) → (convert 84 9 (.slice (some ⟨g, 0, none⟩) 31 31)).run Tryd.prog W = .ok (.string (mk (List.replicate 31 0))) W := fun W g h => conv_row W g (List.replicate 31 0) _ h hZl 31
  have hn1 : ∀ (a b : Obj), ((w.alloc a).alloc b).heap[w.heap.size + 1]? = some b := fun a b => by have := heap_alloc_new (w.alloc a) b; rw [show (w.alloc a).heap.size = w.heap.size + 1 by simp] at this; exact this
  have ho1 : ∀ (a b : Obj), ((w.alloc a).alloc b).heap[w.heap.size]? = some a := fun a b => (heap_alloc_old (w.alloc a) b (by simp)).trans (heap_alloc_new w a)
  obtain ⟨z31, hz31⟩ : ∃ z, mk (List.replicate 31 0) = z := ⟨_, rfl⟩
  have hzs : z31.size = 31 := by rw [← hz31, mk_size]; rfl
  have hfin : mk oneB = ⟨#[1]⟩ ++ z31 := by rw [← hz31]; rfl
  rw [hz31] at hcv2
  rw [hfin]
  have q1 : (convert 84 9 (.slice (some ⟨w.heap.size, 0, none⟩) 1 1)).run Tryd.prog (w.alloc (.cells #[.int .u8 1] 5)).drew = .ok (.string ⟨#[1]⟩) (w.alloc (.cells #[.int .u8 1] 5)).drew := hcv1 _ _ (by first | exact heap_alloc_new _ _ | exact ho1 _ _ | exact hn1 _ _)
  have q2 : (convert 84 9 (.slice (some ⟨w.heap.size, 0, none⟩) 1 1)).run Tryd.prog ((w.alloc (.cells #[.int .u8 1] 5)).alloc (.cells Z 5)).drew = .ok (.string ⟨#[1]⟩) ((w.alloc (.cells #[.int .u8 1] 5)).alloc (.cells Z 5)).drew := hcv1 _ _ (by first | exact heap_alloc_new _ _ | exact ho1 _ _ | exact hn1 _ _)
  have q3 : (convert 84 9 (.slice (some ⟨w.heap.size + 1, 0, none⟩) 1 1)).run Tryd.prog ((w.alloc (.cells Z 5)).alloc (.cells #[.int .u8 1] 5)).drew = .ok (.string ⟨#[1]⟩) ((w.alloc (.cells Z 5)).alloc (.cells #[.int .u8 1] 5)).drew := hcv1 _ _ (by first | exact heap_alloc_new _ _ | exact ho1 _ _ | exact hn1 _ _)
  have p1 : (convert 84 9 (.slice (some ⟨w.heap.size, 0, none⟩) 31 31)).run Tryd.prog (w.alloc (.cells Z 5)).drew = .ok (.string z31) (w.alloc (.cells Z 5)).drew := hcv2 _ _ (by first | exact heap_alloc_new _ _ | exact ho1 _ _ | exact hn1 _ _)
  have p2 : (convert 84 9 (.slice (some ⟨w.heap.size, 0, none⟩) 31 31)).run Tryd.prog ((w.alloc (.cells Z 5)).alloc (.cells #[.int .u8 1] 5)).drew = .ok (.string z31) ((w.alloc (.cells Z 5)).alloc (.cells #[.int .u8 1] 5)).drew := hcv2 _ _ (by first | exact heap_alloc_new _ _ | exact ho1 _ _ | exact hn1 _ _)
  have p3 : (convert 84 9 (.slice (some ⟨w.heap.size + 1, 0, none⟩) 31 31)).run Tryd.prog ((w.alloc (.cells #[.int .u8 1] 5)).alloc (.cells Z 5)).drew = .ok (.string z31) ((w.alloc (.cells #[.int .u8 1] 5)).alloc (.cells Z 5)).drew := hcv2 _ _ (by first | exact heap_alloc_new _ _ | exact ho1 _ _ | exact hn1 _ _)
  clear hcv1 hcv2 hn1 ho1 hi hz0 hz1 hz2 hZl hZ hz31 hfin
  go_enter Tryd.func19, Tryd.ntmps19
  go_wp2_with fail
  go_region
  all_goals
    go_wp2
    go_ret
    exact ⟨rfl, (((Below.refl _ w).alloc (Nat.le_refl _) _).alloc (by simp) _).drew⟩
end Go.Proofs.YtlkfnhcnfjdgbaaDoor
