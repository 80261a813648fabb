/- file.settle, walked. -/
import Derived.Test.YtcmcdddnckcpcaaGreatDoorCh
namespace Go.Proofs.YtcmcdddnckcpcaaGreatDoor
open Go.RowKit Go.Maps
/-- What is settled: the bitmap, some entries. -/
def settleX (T : List Bool) (C : List (Nat × Bs)) : List (Nat × Bs) := (1, packB T) :: C.map fun c => (2 + c.1, c.2)
def settleC (most : Nat) (T : List Bool) (C : List (Nat × Bs)) : List Cmd := commitC (settleX T C) (2 + most)
theorem settleX_length (T : List Bool) (C : List (Nat × Bs)) : (settleX T C).length = C.length + 1 := by simp [settleX]
theorem settleX_take (T : List Bool) (C : List (Nat × Bs)) (k : Nat) (h : k < C.length) : (settleX T C).take (k + 1 + 1) = (settleX T C).take (k + 1) ++ [(2 + C[k].1, C[k].2)] := by
  unfold settleX
  rw [List.take_succ_cons, List.take_succ_cons, ← List.map_take, ← List.map_take, List.take_succ_eq_append_getElem h, List.map_append]; rfl
theorem own_new {w : World} {B g c : Nat} {e : TypeId} {cs : List Value} {size n : Nat} (h : w.heap[g]? = some (.cells cs.toArray e (0, 0))) (hB : B ≤ g) (hl : cs.length = c * size) (hn : n = c) (hc : c ≤ 1000000) : w.ownsRow B e size (.slice (some ⟨g, 0, none⟩) n c) n cs := by
  subst hn
  exact ⟨hl, .inr ⟨g, n, cs.toArray, rfl, hB, h, Nat.le_refl _, by unfold maxLen; omega, by simp [hl], by simp [← hl]⟩⟩
def SetP (X : List Nat) (S D Lg M : Nat) (m : StoM) (T : List Bool) (C : List (Nat × Bs)) (w : World) (e : Ending) (w' : World) : Prop :=
  e = .returned (.int .i64 ((DS.run (settleC m.most T C) m.ds).1 : Nat)) ∧ ∃ X', Mv (S :: X) (S :: X') w w' ∧
    ((DS.run (settleC m.most T C) m.ds).1 = 0 → Sto w' X' S D Lg M ⟨(DS.run (settleC m.most T C) m.ds).2, m.F, T, m.most, m.off⟩) ∧
    ((DS.run (settleC m.most T C) m.ds).1 ≠ 0 → Sto w' X' S D Lg M ⟨(DS.run (settleC m.most T C) m.ds).2, m.F, m.T, m.most, true⟩)
theorem Mv.cons {X X' : List Nat} {w w' : World} (h : Mv X X' w w') (S : Nat) : Mv (S :: X) (S :: X') w w' :=
  ⟨h.frm.mono (fun x hx => List.mem_cons_of_mem _ hx), fun x hx => by
    rcases List.mem_cons.1 hx with rfl | hx
    · exact .inl (List.mem_cons_self ..)
    · exact (h.sub x hx).imp (List.mem_cons_of_mem _) id⟩
set_option maxRecDepth 100000 in
set_option maxHeartbeats 4000000 in
theorem settle_any (X : List Nat) (S D Lg M Mc : Nat) (m : StoM) (T : List Bool) (C : List (Nat × Bs)) (w : World) (h : Sto w X S D Lg M m) (hC : CM w Mc C) (hT : T.length = m.T.length) (hTb : T.length ≤ 4096) (hn : C.length ≤ 2) (hcx : ∀ c ∈ C, c.1 < m.most ∧ c.2.length ≤ 512)
    (hm : 1 ≤ m.most ∧ m.most ≤ 256) (hL : m.most + 7 ≤ m.ds.L.length) (hS : m.ds.S.length ≤ 900000) :
    Calls Tryz.prog 50 #[.pointer (some ⟨S, 0, none⟩), spv T, .map (some Mc)] w (SetP X S D Lg M m T C w) := by
  obtain ⟨i156, hi0, hi1, hi2, hi3⟩ := info_parts info156
  have KB := bytes_any T (w.alloc (.cells #[.int .i64 T.length, .string (mk (packB T))] 76))
  unfold spv at KB ⊢
  unfold SetP settleC
  have KK := keysOf_any Mc
  have KS := fun (w2 : World) (hc : CM w2 Mc C) => sorted_any Mc C w2 hc (by omega)
  have HX0 := Lib.hid (show (settleX T C).take 1 = [(1, packB T)] from rfl)
  have HXK := Lib.hid (fun k hk => settleX_take T C k hk)
  have HXL := Lib.hid (settleX_length T C)
  have HLK := Lib.hid (fun (c : Nat × Bs) hc (w2 : World) (hcm : CM w2 Mc C) => (show (Instr.lookup 102 (.map (some Mc)) (.int .i64 (c.1 : Int)) false).run Tryz.prog w2 = .ok (.string (mk c.2)) w2 by
    have := hcm.look c.1 (by have := (hcx c hc).1; omega)
    obtain ⟨_, _, hp, _⟩ := hcm
    rwa [chOf_mem hp hc] at this))
  have hxv : ∀ c ∈ settleX T C, mayB m.ds.L.length (2 + m.most) 5 c.1 = true ∧ c.2.length ≤ 512 := fun c hc => by
    unfold settleX at hc
    rcases List.mem_cons.1 hc with rfl | hc
    · refine ⟨?_, by rw [packB_length]; omega⟩
      unfold mayB ownB; simp; omega
    · obtain ⟨d, hd, rfl⟩ := List.mem_map.1 hc
      have := hcx d hd
      refine ⟨?_, this.2⟩
      unfold mayB ownB; simp; omega
  have KC := fun (A : Option Addr) (cap : Nat) (w1 : World) (hD : Dsk w1 X D m.ds) hW hb hA hAX hT hw h0 => commit_any X D m.ds Lg (2 + m.most) 5 A cap (settleX T C) w1 hD hW hb hA hAX hxv (by rw [HXL.out]; omega) (by rw [HXL.out]; omega) (by rw [HXL.out]; omega) (by omega) (by omega) hT hw h0
  unfold RunP at KC
  have HSTO := Lib.hid h
  have HCM := Lib.hid hC
  have HCX := Lib.hid hcx
  have x1 := h.blk.cell 1
  simp at x1
  have hSl := h.blk.lt
  obtain ⟨R, hR⟩ : ∃ q, DS.run (commitC (settleX T C) (2 + m.most)) m.ds = q := ⟨_, rfl⟩
  have hnum := run_num (commitC (settleX T C) (2 + m.most)) m.ds
  rw [hR] at hnum
  simp only [hR] at KC ⊢
  obtain ⟨num, d2⟩ := R
  dsimp only at KC hnum ⊢
  obtain ⟨tl, htl⟩ : ∃ q, T.length = q := ⟨_, rfl⟩
  obtain ⟨PB, hPB⟩ : ∃ q, mk (packB T) = q := ⟨_, rfl⟩
  rw [htl, hPB] at KB ⊢
  have HPB := Lib.hid (And.intro htl hPB)
  obtain ⟨n, hnn⟩ : ∃ q, C.length = q := ⟨_, rfl⟩
  rw [hnn] at hn HXL
  simp only [hnn] at KS
  have HN := Lib.hid hnn
  have HM := Lib.hid (And.intro hm hT)
  have hmb : m.most ≤ 256 := hm.2
  clear h hC hT hTb hcx hm hL hS hxv hR htl hPB hnn
  go_enter Tryz.func50, Tryz.ntmps50
  have hbx := below_alloc w (.cells #[.int .i64 tl, .string PB] 76)
  have HBX := Lib.hid (And.intro hbx (Blk.new w #[.int .i64 tl, .string PB] 76))
  clear hbx
  go_upto_region 2 with (go_at_call 87; refine KB.mono ?_; rintro e w1 ⟨rfl, hb1⟩; have HB1 := Lib.hid hb1; have hs1 := hb1.size; clear hb1)
  have hbw1 := HBX.out.1.trans (HB1.out.mono (by simp))
  have hbw2 := hbw1.alloc hbw1.size (.cells #[.int .i64 1, .string PB] 156)
  have hrow2 : (w1.alloc (.cells #[.int .i64 1, .string PB] 156)).ownsRow w.heap.size 156 2 (.slice (some ⟨w1.heap.size, 0, none⟩) 1 1) 1 (scells ((settleX T C).take 1)) := by
    rw [HX0.out]
    have e : scells [((1 : Nat), packB T)] = [.int .i64 1, .string PB] := by rw [← HPB.out.2]; rfl
    rw [e]
    exact own_new (heap_alloc_new w1 _) hbw1.size rfl rfl (by omega)
  have hbx2 := (Blk.below HBX.out.2 (by simpa using HB1.out)).alloc (.cells #[.int .i64 1, .string PB] 156)
  have hcm2 : CM (w1.alloc (.cells #[.int .i64 1, .string PB] 156)) Mc C := HCM.out.block (hbw2.block Mc HCM.out.lt)
  have hz2 : w.heap.size < (w1.alloc (.cells #[.int .i64 1, .string PB] 156)).heap.size := hbx2.lt
  obtain ⟨Z, hZ⟩ : ∃ q, w1.heap.size = q := ⟨_, rfl⟩
  obtain ⟨H, hH⟩ : ∃ q, w.heap.size = q := ⟨_, rfl⟩
  obtain ⟨W2, hW2⟩ : ∃ q, w1.alloc (.cells #[.int .i64 1, .string PB] 156) = q := ⟨_, rfl⟩
  rw [hZ] at hrow2
  simp only [hZ, hH, hW2] at hrow2 hbw2 hbx2 hcm2 hz2 ⊢
  have HH := Lib.hid hH
  have HR2 := Lib.hid hrow2
  have HB2 := Lib.hid hbw2
  have HX2 := Lib.hid hbx2
  have HC2 := Lib.hid hcm2
  have K2 := KS W2 hcm2
  clear hrow2 hbw1 hbw2 hbx2 hcm2 hZ hH hW2 hs1 HB1 HBX KB
  go_wp2_with (first
    | (go_at_call 89; refine (KK _).mono ?_; rintro e w3 ⟨rfl, rfl⟩)
    | (go_at_call 88; refine K2.mono ?_; rintro e w4 ⟨Ak, ck, rfl, hkr, hb4⟩; have HKR := Lib.hid hkr; have HB4 := Lib.hid hb4; clear hkr hb4 K2))
  have hba := (below_alloc W2 (.cells #[.map (some Mc)] 102)).trans (HB4.out.mono (Nat.le_succ _))
  have hst4 : w4.ownsRow H 156 2 (.slice (some ⟨Z, 0, none⟩) 1 1) (0 + 1) (scells ((settleX T C).take (0 + 1))) ∧ Below H w w4 ∧ Lies w4 Ak (ncells (C.map (·.1))) ∧ Typed w4 Ak 3 ∧ Blk w4 H #[.int .i64 tl, .string PB] 76 :=
    ⟨own_below HR2.out hba, HB2.out.trans (hba.mono (by have := HB2.out.size; rw [HH.out] at this; exact this)), Lies.of_row HKR.out, Typed.of_row HKR.out, HX2.out.below hba⟩
  have HST4 := Lib.hid hst4
  clear hba hst4
  go_loopw [7, 19] (fun v i wr => ∃ k : Nat, k ≤ n ∧ i = .int .i64 k ∧ wr.ownsRow H 156 2 v (k + 1) (scells ((settleX T C).take (k + 1))) ∧ Below H w wr ∧ Lies wr Ak (ncells (C.map (·.1))) ∧ Typed wr Ak 3 ∧ Blk wr H #[.int .i64 tl, .string PB] 76) (fun _ i _ => n - (intOf i).toNat)
  case atStart => exact ⟨0, Nat.zero_le _, rfl, HST4.out⟩
  case round =>
    obtain ⟨k, hk, rfl, hrow, hb, hl, ht, hbx⟩ := hrel
    by_cases hlt : k < n
    · have hkl : k < C.length := by rw [HN.out]; exact hlt
      obtain ⟨g, off, rfl, hgl, hcs⟩ := hl (by rw [ncells_length, List.length_map]; omega)
      have d0 := hcs k _ (ncells_at (C.map (·.1)) k (by rw [List.length_map]; exact hkl))
      rw [List.getElem_map] at d0
      have hcm : CM wr Mc C := HCM.out.block (hb.block Mc (by rw [← HH.out]; exact HCM.out.lt))
      have hcx := HCX.out C[k] (List.getElem_mem hkl)
      have hlk := HLK.out C[k] (List.getElem_mem hkl) wr hcm
      have HTX := Lib.hid (HXK.out k hkl)
      obtain ⟨c, hc⟩ : ∃ q, C[k] = q := ⟨_, rfl⟩
      rw [hc] at d0 hcx hlk HTX
      obtain ⟨z, t⟩ := c
      dsimp only at d0 hcx hlk HTX
      obtain ⟨Y, hY⟩ : ∃ q, mk t = q := ⟨_, rfl⟩
      rw [hY] at hlk
      have HY := Lib.hid hY
      have hzb : z ≤ 256 := by omega
      have HROW := Lib.hid hrow
      have HB := Lib.hid hb
      have HTL := Lib.hid (And.intro hl (And.intro ht hbx))
      have k0 : (0 : Int) ≤ (k : Int) := by omega
      have k1 : (k : Int) < (n : Int) := by omega
      have z0 : (0 : Int) ≤ (z : Int) := by omega
      have z1 : (z : Int) ≤ 256 := by omega
      have hnw := World.news_of_block (cs := #[.int .i64 (2 + (z : Int)), .string Y]) (heap_alloc_new wr (.cells #[.int .i64 (2 + (z : Int)), .string Y] 156))
      have hr2 := World.ownsRow.alloc hrow (.cells #[.int .i64 (2 + (z : Int)), .string Y] 156)
      have hb2 := hb.alloc (by have := hb.size; rw [HH.out] at this; exact this) (.cells #[.int .i64 (2 + (z : Int)), .string Y] 156)
      have hl2 : Lies (wr.alloc (.cells #[.int .i64 (2 + (z : Int)), .string Y] 156)) (some ⟨g, off, none⟩) (ncells (C.map (·.1))) := hl.below (Nat.le_refl _) (below_alloc _ _)
      have ht2 : Typed (wr.alloc (.cells #[.int .i64 (2 + (z : Int)), .string Y] 156)) (some ⟨g, off, none⟩) 3 := ht.below (below_alloc _ _)
      have hbx2 := hbx.alloc (.cells #[.int .i64 (2 + (z : Int)), .string Y] 156)
      have HNW := Lib.hid (And.intro hnw (And.intro hr2 (And.intro hb2 (And.intro hl2 (And.intro ht2 hbx2)))))
      have hszw : H ≤ wr.heap.size := by have := hb.size; rw [HH.out] at this; exact this
      clear hrow hb hl ht hbx hcs hc hcm hcx hY hnw hr2 hb2 hl2 ht2 hbx2 hkl
      go_wp2_with (at_builtin; refine wpList_append_lies _ rfl (.tmp 23) (.tmp 30) 157 rfl H 156 i156 _ 2 24 Tryz.underlying157 hi0 hi1 hi2 hi3 rfl (by decide) u7 (k + 1) _ rfl HNW.out.2.1 ⟨_, 0, none⟩ 1 1 [.int .i64 (2 + (z : Int)), .string Y] rfl rfl HNW.out.1 (by simp [Value.oneCell']) (by omega) (by unfold maxLen; omega) (by omega) (by simp; omega) _ rfl ?_; intro g3 c3 W3 hS3 hg3 _ _; have HS3 := Lib.hid hS3; have HG3 := Lib.hid hg3; clear hS3 hg3)
      have hnw := HNW.out
      have hlt3 := hnw.2.2.2.1.grown hnw.2.2.2.2.1 HG3.out (fun x hx => by
        obtain ⟨cs, fr, hc⟩ := row_kind hnw.2.1 x hx
        exact ⟨cs, 156, fr, hc, by decide⟩)
      have hbx3 := hnw.2.2.2.2.2.grown HG3.out (own_ne_blk hnw.2.1 hnw.2.2.2.2.2 (by decide))
      have hb3 := hnw.2.2.1.grown HG3.out (by simp; have := HH.out; omega) (fun x hx => (hnw.2.1.lt x hx).1)
      have hrow3 : W3.ownsRow H 156 2 (.slice (some ⟨g3, 0, none⟩) (k + 1 + 1) c3) (k + 1 + 1) (scells ((settleX T C).take (k + 1 + 1))) := by
        rw [HTX.out, scells_snoc, HY.out]
        have := HS3.out
        rw [show ((2 + z : Nat) : Int) = 2 + (z : Int) by omega]
        exact this
      have HF := Lib.hid (And.intro hrow3 (And.intro hb3 (And.intro hlt3.1 (And.intro hlt3.2 hbx3))))
      clear hnw hlt3 hbx3 hb3 hrow3
      go_roundw
      case rel => exact ⟨k + 1, by omega, by go_num, HF.out⟩
      case measure => simp [intOf]; omega
    · obtain rfl : n = k := by omega
      obtain ⟨A', c', rfl⟩ := row_form hrow
      rw [List.take_of_length_le (by rw [HXL.out]; exact Nat.le_refl _)] at hrow
      have hbw : Below w.heap.size w wr := by rw [HH.out]; exact hb
      have hst := HSTO.out.below hbw
      have hrl := Lies.of_row hrow
      have hAX : ∀ a, (A' : Option Addr) = some a → a.block ∉ X := fun a ha hx => by
        have h1 := HSTO.out.dsk.lt _ hx
        have h2 := (hrow.lt a.block (by rw [ha]; rfl)).1
        have := HH.out
        omega
      have KCM := KC A' c' wr hst.dsk hst.log hst.apart.2.1 hrl hAX hst.tb hst.pos hst.apart.2.2.2
      rw [HXL.out] at KCM
      have x1w := (hbw.cell (p := ⟨S, 1, none⟩) hSl).trans x1
      have hSw : S < wr.heap.size := Nat.lt_of_lt_of_le hSl hbw.size
      have HST := Lib.hid hst
      have HBW := Lib.hid hbw
      have HBXR := Lib.hid hbx
      clear hrow hb hl ht hbx hbw hst hrl hAX KC x1
      go_upto_region 8 with (go_at_call 90; refine KCM.mono ?_; rintro e W4 ⟨rfl, X2, hD4, hM4⟩)
      have hst4 := HST.out.disk hD4 hM4
      have hHX : H ∉ X := fun hx => by have := HSTO.out.dsk.lt _ hx; have := HH.out; omega
      have hbx4 := hM4.blk HBXR.out hHX
      have hmv := (((Mv.of_below X HBW.out).trans hM4).cons S)
      have c5 := hst4.blk.cell 6
      have c2 := hst4.blk.cell 2
      have c3 := hst4.blk.cell 3
      have f5 := hst4.blk.frozen 6
      have f2 := hst4.blk.frozen 2
      have f3 := hst4.blk.frozen 3
      simp at c5 c2 c3
      have hS4 := hst4.blk.lt
      have b0 := hbx4.cell 0
      have b1 := hbx4.cell 1
      simp at b0 b1
      have hH4 := hbx4.lt
      rcases hnum with rfl | rfl
      · have hg := grown_set2 W4 S 2 3 (.int .i64 tl) (.string PB)
        have hbS := (hst4.blk.set 2 (.int .i64 tl)).set 3 (.string PB)
        have hfin := hst4.own hg (T := T) (off := m.off) (by
          rw [HPB.out.1.symm] at hbS ⊢
          rw [← HPB.out.2] at hbS ⊢
          simpa using hbS)
        have HF := Lib.hid (And.intro hfin (hmv.trans (Mv.of_grown hg (List.mem_cons_self ..))))
        clear hst4 hD4 hM4 hbx4 hmv hg hbS hfin hHX KCM
        go_wp2
        go_ret
        exact ⟨rfl, X2, HF.out.2, HF.out.1⟩
      · have hg := grown_set W4 S 6 (.bool true)
        have hbS := hst4.blk.set 6 (.bool true)
        have hfin := hst4.own hg (T := m.T) (off := true) (by simpa using hbS)
        have HF := Lib.hid (And.intro hfin (hmv.trans (Mv.of_grown hg (List.mem_cons_self ..))))
        clear hst4 hD4 hM4 hbx4 hmv hg hbS hfin hHX KCM
        go_wp2
        go_ret
        exact ⟨rfl, X2, HF.out.2, HF.out.1⟩
end Go.Proofs.YtcmcdddnckcpcaaGreatDoor
