/- stemmalaw16.id at any number, walked. -/
import Derived.Test.YtlkfnhcnfjdgbaaDoorIo
namespace Go.Proofs.YtlkfnhcnfjdgbaaDoor
open Go.RowKit
def byteB (n : Int) : UInt8 := UInt8.ofNat (n % 256).toNat
/-- The ID of a number. -/
def idB (n : Int) : Bs := if n = 0 then [] else if n < 0 then byteB n :: List.replicate 30 0 else byteB n :: List.replicate 31 0
theorem byteB_wrap (n : Int) : IntKind.u8.wrap n = ((byteB n).toNat : Int) := by
  unfold byteB
  have h1 : (n % 256).toNat < 256 := by omega
  rw [UInt8.toNat_ofNat_of_lt' h1]
  simp [IntKind.wrap, IntKind.bits, IntKind.signed]
  omega
theorem mk_extract (l : Bs) (k : Nat) : (mk l).extract 0 k = mk (l.take k) := by
  have h : ((mk l).extract 0 k).data.toList = l.take k := by
    rw [ByteArray.data_extract, Array.toList_extract, mk_data]; simp [List.extract]
  rw [← mk_list ((mk l).extract 0 k), h]
theorem mk_app (a b : Bs) : mk a ++ mk b = mk (a ++ b) := by
  rw [← mk_list (mk a ++ mk b)]
  congr 1
theorem take30 (b : UInt8) : (b :: List.replicate 31 (0 : UInt8)).take 31 = b :: List.replicate 30 0 := by
  simp
set_option maxRecDepth 100000 in
set_option maxHeartbeats 4000000 in
theorem id_any (n : Int) (w : World) : Calls Tryd.prog 19 #[.int .i64 n] w fun e w' => e = .returned (.string (mk (idB n))) ∧ Below w.heap.size w w' := by
  by_cases hn0 : n = 0
  · subst hn0
    have E := Lib.hid (show mk (idB 0) = ⟨#[]⟩ from rfl)
    go_enter Tryd.func19, Tryd.ntmps19
    go_wp2
    go_ret
    exact ⟨by rw [E.out]; rfl, Below.refl _ _⟩
  obtain ⟨i0, hi, hz0, hz1, hz2⟩ := info_parts info5
  obtain ⟨Z, hZ⟩ : ∃ Z, madeCells (Value.int .u8 0).cells 31 = Z := ⟨_, rfl⟩
  have hZl : Z.toList = (List.replicate 31 (0 : UInt8)).map (fun b => Value.int .u8 (b.toNat : Int)) := by rw [← hZ]; kernel_rfl
  have hmk : ∀ W : World, (Instr.makeSlice 84 (.int .i64 31) (.int .i64 31)).run Tryd.prog W = .ok (.slice (some ⟨W.heap.size, 0, none⟩) 31 31) (W.alloc (.cells Z 5)) := by
    intro W
    have := run_makeSlice (P := Tryd.prog) W 84 5 i0 _ Tryd.underlying84 hi hz0 .i64 .i64 31 31 (by decide) (by decide) (by rw [hz1]; decide) (by rw [hz2]; decide) (by decide)
    rw [hz1] at this
    rw [this, ← hZ]; rfl
  have hw1 := byteB_wrap n
  obtain ⟨b, hb⟩ : ∃ b, byteB n = b := ⟨_, rfl⟩
  rw [hb] at hw1
  obtain ⟨v, hv⟩ : ∃ v : Value, .int .u8 (b.toNat : Int) = v := ⟨_, rfl⟩
  obtain ⟨bn, hbn⟩ : ∃ k : Int, (b.toNat : Int) = k := ⟨_, rfl⟩
  rw [hbn] at hw1
  have hcv1 : ∀ (W : World) (g : Nat), W.heap[g]? = some (.cells #[.int .u8 bn] 5 (0, 0)) → (convert 84 9 (.slice (some ⟨g, 0, none⟩) 1 1)).run Tryd.prog W = .ok (.string (mk [b])) W := fun W g h => conv_row W g [b] _ h (by rw [← hbn]; rfl) 1
  have hcv2 : ∀ (W : World) (g : Nat), W.heap[g]? = some (.cells Z 5 (0, 0)) → (convert 84 9 (.slice (some ⟨g, 0, none⟩) 31 31)).run Tryd.prog W = .ok (.string (mk (List.replicate 31 0))) W := fun W g h => conv_row W g (List.replicate 31 0) _ h hZl 31
  have hn1 : ∀ (a b : Obj), ((w.alloc a).alloc b).heap[w.heap.size + 1]? = some b := fun a b => by have := heap_alloc_new (w.alloc a) b; rw [show (w.alloc a).heap.size = w.heap.size + 1 by simp] at this; exact this
  have ho1 : ∀ (a b : Obj), ((w.alloc a).alloc b).heap[w.heap.size]? = some a := fun a b => (heap_alloc_old (w.alloc a) b (by simp)).trans (heap_alloc_new w a)
  obtain ⟨z31, hz31⟩ : ∃ z, mk (List.replicate 31 0) = z := ⟨_, rfl⟩
  have hfin : mk (b :: List.replicate 31 0) = mk [b] ++ z31 := by rw [← hz31, mk_app]; exact congrArg mk rfl
  have hfin2 : (mk [b] ++ z31).extract 0 31 = mk (b :: List.replicate 30 0) := by rw [← hfin, mk_extract, take30]
  have hsz : (mk [b] ++ z31).size = 32 := by rw [← hfin, mk_size]; simp
  obtain ⟨z1, hz1b⟩ : ∃ z, mk [b] = z := ⟨_, rfl⟩
  have EP := Lib.hid (show 0 < n → mk (idB n) = z1 ++ z31 from fun h => by rw [← hz1b, ← hfin]; unfold idB; rw [if_neg hn0, if_neg (by omega), hb])
  have EN := Lib.hid (show n < 0 → mk (idB n) = (z1 ++ z31).extract 0 31 from fun h => by rw [← hz1b, hfin2]; unfold idB; rw [if_neg hn0, if_pos h, hb])
  have hss : z31.size = 31 := by rw [← hz31, mk_size]; rfl
  have hs1 : z1.size = 1 := by rw [← hz1b, mk_size]; rfl
  rw [hz31] at hcv2
  simp only [hz1b] at hcv1
  have q1 : (convert 84 9 (.slice (some ⟨w.heap.size, 0, none⟩) 1 1)).run Tryd.prog (w.alloc (.cells #[.int .u8 bn] 5)).drew = .ok (.string z1) (w.alloc (.cells #[.int .u8 bn] 5)).drew := hcv1 _ _ (by first | exact heap_alloc_new _ _ | exact ho1 _ _ | exact hn1 _ _)
  have q2 : (convert 84 9 (.slice (some ⟨w.heap.size, 0, none⟩) 1 1)).run Tryd.prog ((w.alloc (.cells #[.int .u8 bn] 5)).alloc (.cells Z 5)).drew = .ok (.string z1) ((w.alloc (.cells #[.int .u8 bn] 5)).alloc (.cells Z 5)).drew := hcv1 _ _ (by first | exact heap_alloc_new _ _ | exact ho1 _ _ | exact hn1 _ _)
  have q3 : (convert 84 9 (.slice (some ⟨w.heap.size + 1, 0, none⟩) 1 1)).run Tryd.prog ((w.alloc (.cells Z 5)).alloc (.cells #[.int .u8 bn] 5)).drew = .ok (.string z1) ((w.alloc (.cells Z 5)).alloc (.cells #[.int .u8 bn] 5)).drew := hcv1 _ _ (by first | exact heap_alloc_new _ _ | exact ho1 _ _ | exact hn1 _ _)
  have p1 : (convert 84 9 (.slice (some ⟨w.heap.size, 0, none⟩) 31 31)).run Tryd.prog (w.alloc (.cells Z 5)).drew = .ok (.string z31) (w.alloc (.cells Z 5)).drew := hcv2 _ _ (by first | exact heap_alloc_new _ _ | exact ho1 _ _ | exact hn1 _ _)
  have p2 : (convert 84 9 (.slice (some ⟨w.heap.size, 0, none⟩) 31 31)).run Tryd.prog ((w.alloc (.cells Z 5)).alloc (.cells #[.int .u8 bn] 5)).drew = .ok (.string z31) ((w.alloc (.cells Z 5)).alloc (.cells #[.int .u8 bn] 5)).drew := hcv2 _ _ (by first | exact heap_alloc_new _ _ | exact ho1 _ _ | exact hn1 _ _)
  have p3 : (convert 84 9 (.slice (some ⟨w.heap.size + 1, 0, none⟩) 31 31)).run Tryd.prog ((w.alloc (.cells #[.int .u8 bn] 5)).alloc (.cells Z 5)).drew = .ok (.string z31) ((w.alloc (.cells #[.int .u8 bn] 5)).alloc (.cells Z 5)).drew := hcv2 _ _ (by first | exact heap_alloc_new _ _ | exact ho1 _ _ | exact hn1 _ _)
  clear hcv1 hcv2 hn1 ho1 hi hz0 hz1 hz2 hZl hZ hz31 hfin hfin2 hb hbn hz1b hv hsz
  have hne : (n == 0) = false := beq_eq_false_iff_ne.2 hn0
  by_cases hneg : n < 0
  · have E := Lib.hid (EN.out hneg)
    clear EN EP hn0
    go_enter Tryd.func19, Tryd.ntmps19
    go_wp2_with fail
    go_region
    all_goals
      go_wp2
      go_ret
      exact ⟨by rw [E.out]; rfl, (((Below.refl _ w).alloc (Nat.le_refl _) _).alloc (by simp) _).drew⟩
  · have E := Lib.hid (EP.out (by omega))
    clear EN EP hn0
    go_enter Tryd.func19, Tryd.ntmps19
    go_wp2_with fail
    go_region
    all_goals
      go_wp2
      go_ret
      exact ⟨by rw [E.out]; rfl, (((Below.refl _ w).alloc (Nat.le_refl _) _).alloc (by simp) _).drew⟩
end Go.Proofs.YtlkfnhcnfjdgbaaDoor
