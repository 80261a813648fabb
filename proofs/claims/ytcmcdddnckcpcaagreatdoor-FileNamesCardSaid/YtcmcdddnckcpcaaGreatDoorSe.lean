/- file: sectors, lay, walked. -/
import Derived.Test.YtcmcdddnckcpcaaGreatDoorFs
namespace Go.Proofs.YtcmcdddnckcpcaaGreatDoor
open Go.RowKit Go.Maps
def ncells (l : List Nat) : List Value := l.map fun i : Nat => Value.int .i64 (i : Int)
def secX (b : Nat) (x : Nat × Nat) : List Nat := (List.range x.2).map fun i => b + x.1 + i
/-- The sectors of extents, in order. -/
def secL (b : Nat) (l : List (Nat × Nat)) : List Nat := l.flatMap (secX b)
theorem ncells_length (l : List Nat) : (ncells l).length = l.length := by simp [ncells]
theorem ncells_app (a b : List Nat) : ncells (a ++ b) = ncells a ++ ncells b := by simp [ncells]
theorem ncells_at (l : List Nat) (j : Nat) (h : j < l.length) : (ncells l)[j]? = some (.int .i64 (l[j] : Int)) := by simp [ncells, h]
theorem secL_snoc (b : Nat) (l : List (Nat × Nat)) (k : Nat) (h : k < l.length) : secL b (l.take (k + 1)) = secL b (l.take k) ++ secX b l[k] := by
  unfold secL; rw [List.take_succ_eq_append_getElem h, List.flatMap_append, List.flatMap_singleton]
theorem secL_take (b : Nat) (l : List (Nat × Nat)) (k : Nat) : (secL b (l.take k)).length ≤ (secL b l).length := by
  have : secL b l = secL b (l.take k) ++ secL b (l.drop k) := by unfold secL; rw [← List.flatMap_append, List.take_append_drop]
  rw [this, List.length_append]; omega
theorem secX_snoc (b : Nat) (a j : Nat) : (List.range (j + 1)).map (fun i => b + a + i) = (List.range j).map (fun i => b + a + i) ++ [b + a + j] := by rw [List.range_succ, List.map_append]; rfl
theorem info3 : (Tryz.prog.info? 3).map (fun i => (i.zero, i.size, i.bytes)) = some (some (.int .i64 0), 1, 8) := by kernel_rfl
set_option maxRecDepth 100000 in
set_option maxHeartbeats 4000000 in
theorem sectors_any (S : Nat) (most : Nat) (A : Option Addr) (cap : Nat) (l : List (Nat × Nat)) (w : World) (hS : w.cell? ⟨S, 5, none⟩ = some (.int .i64 most)) (hm : most ≤ 1000) (hA : Lies w A (ecells l)) (hn : l.length ≤ 1000) (hl : ∀ x ∈ l, x.1 ≤ 10000 ∧ x.2 ≤ 10000) (ht : (secL (most + 7) l).length ≤ 100000) :
    Calls Tryz.prog 43 #[.pointer (some ⟨S, 0, none⟩), .slice A l.length cap] w fun e w' => (∃ A' c, e = .returned (.slice A' (secL (most + 7) l).length c) ∧ w'.ownsRow w.heap.size 3 1 (.slice A' (secL (most + 7) l).length c) (secL (most + 7) l).length (ncells (secL (most + 7) l))) ∧ Below w.heap.size w w' := by
  obtain ⟨i3, hi0, hi1, hi2, hi3⟩ := info_parts info3
  have hSl := cell_lt hS
  simp only at hSl
  have KD := fun w => dataAt_any most w (by omega)
  obtain ⟨B, hB⟩ : ∃ q, most + 7 = q := ⟨_, rfl⟩
  rw [hB] at ht
  simp only [hB] at KD
  rw [hB]
  have hBb : B ≤ 1007 := by omega
  obtain ⟨n, hnn⟩ : ∃ q, l.length = q := ⟨_, rfl⟩
  rw [hnn] at hn ⊢
  have HN := Lib.hid hnn
  have HL := Lib.hid hA
  have HLX := Lib.hid hl
  have HT := Lib.hid ht
  have HTK := Lib.hid (secL_take B l)
  have mixed : Tryz.prog.follows Departure.mixedOrders = true := by kernel_rfl
  clear hA hl ht hnn hB
  go_enter Tryz.func43, Tryz.ntmps43
  go_wp2
  go_loopw [5, 11] (fun v i wr => ∃ k : Nat, k ≤ n ∧ i = .int .i64 k ∧ wr.ownsRow w.heap.size 3 1 v (secL B (l.take k)).length (ncells (secL B (l.take k))) ∧ Below w.heap.size w wr) (fun _ i _ => n - (intOf i).toNat)
  case atStart => exact ⟨0, Nat.zero_le _, rfl, by simpa [secL, ncells] using World.ownsRow_nil w w.heap.size 3 1, Below.refl _ _⟩
  case round =>
    obtain ⟨k, hk, rfl, hrow, hb⟩ := hrel
    by_cases hlt : k < n
    · have hkl : k < l.length := by rw [HN.out]; exact hlt
      obtain ⟨g, off, rfl, hgl, hcs⟩ := HL.out (by rw [ecells_length]; omega)
      obtain ⟨s0, s1⟩ := ecells_at l k hkl
      have d0 := (hb.cell (p := ⟨g, off + k * 2, none⟩) hgl).trans (hcs _ _ s0)
      have d1 := (hb.cell (p := ⟨g, off + (k * 2 + 1), none⟩) hgl).trans (hcs _ _ s1)
      have hgr : g < wr.heap.size := Nat.lt_of_lt_of_le hgl hb.size
      obtain ⟨hq1, hq2⟩ := HLX.out l[k] (List.getElem_mem hkl)
      have hsn := secL_snoc B l k hkl
      have htk := HTK.out (k + 1)
      have htt := HT.out
      rw [hsn, List.length_append] at htk
      have hx : secX B l[k] = (List.range l[k].2).map (fun i => B + l[k].1 + i) := rfl
      rw [hx] at hsn htk
      obtain ⟨a, ha⟩ : ∃ z, l[k].1 = z := ⟨_, rfl⟩
      obtain ⟨c, hc⟩ : ∃ z, l[k].2 = z := ⟨_, rfl⟩
      rw [ha] at d0 hq1 hsn htk
      rw [hc, ← Nat.add_assoc] at d1
      rw [hc] at hq2 hsn htk
      rw [List.length_map, List.length_range] at htk
      obtain ⟨pre, hpre⟩ : ∃ z, secL B (l.take k) = z := ⟨_, rfl⟩
      rw [hpre] at hrow hsn htk
      have HSN := Lib.hid hsn
      have HROW := Lib.hid (World.ownsRow.alloc hrow (.cells #[.int .i64 a, .int .i64 c] 90))
      have HB := Lib.hid (hb.alloc hb.size (.cells #[.int .i64 a, .int .i64 c] 90))
      have HZ := Lib.hid (Blk.new wr #[.int .i64 a, .int .i64 c] 90)
      have hpl : pre.length + c ≤ 100000 := by omega
      have k0 : (0 : Int) ≤ (k : Int) := by omega
      have k1 : (k : Int) < (n : Int) := by omega
      clear hrow hb hcs s0 s1 hsn htk htt hx ha hc hpre hkl
      go_wp2
      obtain ⟨V, hV⟩ : ∃ V, wr.heap.size = V := ⟨_, rfl⟩
      rw [hV] at HZ
      simp only [hV]
      obtain ⟨W0, hW0⟩ : ∃ q, wr.alloc (.cells #[.int .i64 a, .int .i64 c] 90) = q := ⟨_, rfl⟩
      rw [hW0] at HROW HB HZ ⊢
      clear hW0 hV d0 d1
      go_loopw [5, 17] (fun v i wr => ∃ j : Nat, j ≤ c ∧ i = .int .i64 j ∧ wr.ownsRow w.heap.size 3 1 v (pre ++ (List.range j).map (fun i => B + a + i)).length (ncells (pre ++ (List.range j).map (fun i => B + a + i))) ∧ Below w.heap.size w wr ∧ Blk wr V #[.int .i64 a, .int .i64 c] 90) (fun _ i _ => c - (intOf i).toNat)
      case atStart => exact ⟨0, Nat.zero_le _, rfl, by simpa using HROW.out, HB.out, HZ.out⟩
      case round =>
        obtain ⟨j, hj, rfl, hrow, hb, hz⟩ := hrel
        by_cases hjc : j < c
        · have hlj : (pre ++ (List.range j).map (fun i => B + a + i)).length ≤ 100000 := by simp; omega
          have hsx := secX_snoc B a j
          obtain ⟨xs, hxs⟩ : ∃ q, pre ++ (List.range j).map (fun i => B + a + i) = q := ⟨_, rfl⟩
          have HXS := Lib.hid (show pre ++ (List.range (j + 1)).map (fun i => B + a + i) = xs ++ [B + a + j] by rw [hsx, ← hxs, List.append_assoc])
          rw [hxs] at hrow hlj
          have s5 := (hb.cell (p := ⟨S, 5, none⟩) hSl).trans hS
          have hSw : S < wr.heap.size := Nat.lt_of_lt_of_le hSl hb.size
          have j0 : (0 : Int) ≤ (j : Int) := by omega
          have j1 : (j : Int) < (c : Int) := by omega
          have w1 : IntKind.i64.wrap ((B : Int) + (a : Int)) = (B : Int) + (a : Int) := by rw [Go.IntWalk.i64_left, Go.IntWalk.wrap64_in _ (by omega)]
          have w2 : IntKind.i64.wrap ((B : Int) + (a : Int) + (j : Int)) = (B : Int) + (a : Int) + (j : Int) := by rw [Go.IntWalk.i64_left, Go.IntWalk.wrap64_in _ (by omega)]
          have HW := Lib.hid (And.intro w1 w2)
          have HROW := Lib.hid hrow
          have HB := Lib.hid hb
          have HZ := Lib.hid hz
          have HS5 := Lib.hid s5
          clear hrow hb hz hxs hsx w1 w2 s5
          go_upto_region 8 with (fail)
          refine wp_region_held (S := fun w' => w'.cell? ⟨S, 5, none⟩ = some (.int .i64 most) ∧ Blk w' V #[.int .i64 a, .int .i64 c] 90) mixed ?_
          change wpAnyH _ _ _ _ _ _ _ _ wr.drew
          have hrow0 : wr.drew.ownsRow w.heap.size 3 1 u5 xs.length (ncells xs) := HROW.out
          have hb0 : Below w.heap.size w wr.drew := HB.out.drew
          have hS0 : wr.drew.cell? ⟨S, 5, none⟩ = some (.int .i64 most) ∧ Blk wr.drew V #[.int .i64 a, .int .i64 c] 90 := ⟨HS5.out, HZ.out⟩
          obtain ⟨W0, hW0⟩ : ∃ q, wr.drew = q := ⟨_, rfl⟩
          rw [hW0] at hrow0 hb0 hS0 ⊢
          clear hW0
          have HR0 := Lib.hid hrow0
          clear hrow0
          refine wpAnyH_take (i := 0) (v := u5) rfl (by kernel_rfl) (by kernel_rfl) (by kernel_rfl) (fun c a w h => h) (.inl ⟨by kernel_rfl, fun w' hS => ?_⟩) hS0 ?_
          · clear hS; go_simp
          try go_simp
          refine wpAnyH_take (i := 1) (v := .pointer (some ⟨S, 0, none⟩)) rfl (by kernel_rfl) (by kernel_rfl) (by kernel_rfl) (fun c a w h => h) (.inl ⟨by kernel_rfl, fun w' hS => ?_⟩) hS0 ?_
          · clear hS; go_simp
          try go_simp
          refine wpAnyH_take (i := 2) (v := .pointer (some ⟨S, 0, none⟩)) rfl (by kernel_rfl) (by kernel_rfl) (by kernel_rfl) (fun c a w h => h) (.inl ⟨by kernel_rfl, fun w' hS => ?_⟩) hS0 ?_
          · clear hS; go_simp
          try go_simp
          refine wpAnyH_take (i := 3) (v := .pointer (some ⟨S, 5, none⟩)) rfl (by kernel_rfl) (by kernel_rfl) (by kernel_rfl) (fun c a w h => h) (.inl ⟨by kernel_rfl, fun w' hS => ?_⟩) hS0 ?_
          · clear hS; go_simp
          try go_simp
          refine wpAnyH_take (i := 4) (v := .int .i64 (most : Int)) rfl (by kernel_rfl) (by kernel_rfl) (by kernel_rfl) (fun c a w h => h) (.inl ⟨by kernel_rfl, fun w' hS => ?_⟩) hS0 ?_
          · have q0 := hS.1; go_simp
          try go_simp
          refine wpAnyH_take (i := 6) (v := .pointer (some ⟨V, 0, none⟩)) rfl (by kernel_rfl) (by kernel_rfl) (by kernel_rfl) (fun c a w h => h) (.inl ⟨by kernel_rfl, fun w' hS => ?_⟩) hS0 ?_
          · clear hS; go_simp
          try go_simp
          refine wpAnyH_take (i := 7) (v := .int .i64 (a : Int)) rfl (by kernel_rfl) (by kernel_rfl) (by kernel_rfl) (fun c a w h => h) (.inl ⟨by kernel_rfl, fun w' hS => ?_⟩) hS0 ?_
          · have q0 := hS.2.cell 0; simp at q0; go_simp
          try go_simp
          refine wpAnyH_take (i := 9) (v := .int .i64 (j : Int)) rfl (by kernel_rfl) (by kernel_rfl) (by kernel_rfl) (fun c a w h => h) (.inl ⟨by kernel_rfl, fun w' hS => ?_⟩) hS0 ?_
          · clear hS; go_simp
          try go_simp
          refine wpAnyH_all (rs := [5]) (by kernel_rfl) (by simp) ?_
          intro i hi
          simp only [List.mem_cons, List.not_mem_nil, or_false] at hi
          subst hi
          unfold wpOp
          go_simp
          refine .inl ?_
          go_at_call 54
          refine (KD _).mono ?_
          rintro e W1 ⟨rfl, hw1⟩
          obtain rfl := hw1.symm
          refine ⟨hS0, ?_⟩
          refine wpAnyH_take (i := 8) (v := .int .i64 ((B : Int) + (a : Int))) rfl (by kernel_rfl) (by kernel_rfl) (by kernel_rfl) (fun c a w h => h) (.inl ⟨by kernel_rfl, fun w' hS => ?_⟩) hS0 ?_
          · clear hS; have w1 := HW.out.1; go_simp
          try go_simp
          refine wpAnyH_take (i := 10) (v := .int .i64 ((B : Int) + (a : Int) + (j : Int))) rfl (by kernel_rfl) (by kernel_rfl) (by kernel_rfl) (fun c a w h => h) (.inl ⟨by kernel_rfl, fun w' hS => ?_⟩) hS0 ?_
          · clear hS; have w2 := HW.out.2; go_simp
          try go_simp
          refine wpAnyH_all (rs := [11]) (by kernel_rfl) (by simp) ?_
          intro i hi
          simp only [List.mem_cons, List.not_mem_nil, or_false] at hi
          subst hi
          unfold wpOp
          go_simp
          have hN2 := World.news_of_block (cs := #[.int .i64 ((B : Int) + (a : Int) + (j : Int))]) (heap_alloc_new W0 (.cells #[.int .i64 ((B : Int) + (a : Int) + (j : Int))] 3))
          have hr2 := World.ownsRow.alloc HR0.out (.cells #[.int .i64 ((B : Int) + (a : Int) + (j : Int))] 3)
          have hb2 := hb0.alloc hb0.size (.cells #[.int .i64 ((B : Int) + (a : Int) + (j : Int))] 3)
          have hS2 : (W0.alloc (.cells #[.int .i64 ((B : Int) + (a : Int) + (j : Int))] 3)).cell? ⟨S, 5, none⟩ = some (.int .i64 most) ∧ Blk (W0.alloc (.cells #[.int .i64 ((B : Int) + (a : Int) + (j : Int))] 3)) V #[.int .i64 a, .int .i64 c] 90 := ⟨(cell_old W0 _ ⟨S, 5, none⟩ (Nat.lt_of_lt_of_le hSl hb0.size)).trans hS0.1, hS0.2.alloc _⟩
          obtain ⟨Z, hZ⟩ : ∃ Z, W0.heap.size = Z := ⟨_, rfl⟩
          obtain ⟨W2, hW2⟩ : ∃ u, W0.alloc (.cells #[.int .i64 ((B : Int) + (a : Int) + (j : Int))] 3) = u := ⟨_, rfl⟩
          rw [hZ] at hN2
          rw [hW2] at hN2 hr2 hb2 hS2
          try rw [hZ]
          rw [hW2]
          clear hW2 hZ
          first | refine .inl ⟨hS2, ?_⟩ | refine ⟨hS2, ?_⟩
          refine wpAnyH_all (rs := [12]) (by kernel_rfl) (by simp) ?_
          intro i hi
          simp only [List.mem_cons, List.not_mem_nil, or_false] at hi
          subst hi
          refine wpOp_of rfl rfl (wp_append_lies (P := Tryz.prog) W2 (.tmp 20) (.tmp 31) 58 rfl w.heap.size 3 i3 _ 1 8 Tryz.underlying58 hi0 hi1 hi2 hi3 (by rfl) (by decide) u5 xs.length (ncells xs) (by rfl) hr2 ⟨Z, 0, none⟩ 1 1 [.int .i64 ((B : Int) + (a : Int) + (j : Int))] (by rfl) (by rfl) hN2 (by simp [Value.oneCell']) (by omega) (by unfold maxLen; omega) (by omega) hb2.size W2.heap.size rfl ?_)
          intro g3 c3 W3 hS3 hg3 hat3 _
          have hnS : u5.ownBlock ≠ some S := fun e => by have := (hr2.lt S e).1; omega
          have hnV : u5.ownBlock ≠ some V := own_ne_blk hr2 hS2.2 (by decide)
          have hS4 : W3.cell? ⟨S, 5, none⟩ = some (.int .i64 most) ∧ Blk W3 V #[.int .i64 a, .int .i64 c] 90 :=
            ⟨(World.cell?_of_block (a := ⟨S, 5, none⟩) (hg3.block S (Nat.lt_of_lt_of_le hSl hb2.size) (fun e => hnS e.symm))).trans hS2.1, hS2.2.grown hg3 hnV⟩
          have HFN := Lib.hid (show W3.ownsRow w.heap.size 3 1 (.slice (some ⟨g3, 0, none⟩) (xs.length + 1) c3) (xs ++ [B + a + j]).length (ncells (xs ++ [B + a + j])) ∧ Below w.heap.size w W3 from by
            refine ⟨?_, hb2.grown hg3 hb2.size (fun g hg => (hr2.lt g hg).1)⟩
            rw [ncells_app, List.length_append]
            have e : ncells [B + a + j] = [.int .i64 ((B : Int) + (a : Int) + (j : Int))] := by simp [ncells]
            rw [e]
            exact hS3)
          have HZ4 := Lib.hid hS4.2
          refine ⟨hS4, ?_⟩
          refine wpAnyH_take (i := 13) (v := .slice (some ⟨g3, 0, none⟩) (xs.length + 1) c3) rfl (by kernel_rfl) (by kernel_rfl) (by kernel_rfl) (fun c a w h => h) (.inl ⟨by kernel_rfl, fun w' hS => ?_⟩) hS4 ?_
          · clear hS; go_simp
          try go_simp
          refine wpAnyH_done (by kernel_rfl) ?_ _
          clear hN2 hr2 hb2 hS2 hS3 hg3 hat3 hS4 hnS hnV hS0 hb0
          go_wp2
          go_roundw
          case rel => exact ⟨j + 1, by omega, by go_num, by rw [HXS.out]; exact HFN.out.1, HFN.out.2, HZ4.out⟩
          case measure => simp [intOf]; omega
        · obtain rfl : c = j := by omega
          rw [← HSN.out] at hrow
          have HROW := Lib.hid hrow
          have HB := Lib.hid hb
          clear hrow hb hz
          go_wp2
          go_roundw
          case rel => exact ⟨k + 1, by omega, by go_num, HROW.out, HB.out⟩
          case measure => simp [intOf]; omega
    · obtain rfl : n = k := by omega
      rw [List.take_of_length_le (by rw [HN.out]; exact Nat.le_refl _)] at hrow
      obtain ⟨A', c', rfl⟩ := row_form hrow
      have HROW := Lib.hid hrow
      have HB := Lib.hid hb
      clear hrow hb
      go_wp2
      go_ret
      exact ⟨⟨A', c', rfl, HROW.out⟩, HB.out⟩
end Go.Proofs.YtcmcdddnckcpcaaGreatDoor
