/- Packed: Ru, Iv, Ip, Iq, Ap, Rn, Iw, Tq, Tr. -/
import Derived.Test.YtcmcdddnckcpcaaGreatDoorPF1
import Derived.Test.YtcmcdddnckcpcaaGreatDoorPF4
import Derived.StillTailTactics
import Derived.BigQuiet
namespace Go.Proofs.YtcmcdddnckcpcaaGreatDoor
open Go.RowKit
theorem tcells_set (T : List Bool) (i : Nat) (b : Bool) : (tcells T).set i (.bool b) = tcells (T.set i b) := by unfold tcells;rw [List.map_set]
theorem turn1_some {taken : Bool} {V : List Bool} {i m : Nat} {R : List Bool} {k : List Bool → Option (List Bool)} (h : (turn1 taken V i (m + 1)).bind k = some R) : V.getD i false = !taken ∧ (turn1 taken (V.set i taken) (i + 1) m).bind k = some R := by
 rw [turn1] at h
 split at h
 ·cases h
 ·rename_i hne
  have e : V.getD i false = !taken := by
   revert hne
   cases V.getD i false <;> cases taken <;> simp
  rw [e,Bool.not_not] at h
  exact ⟨e,h⟩
set_option maxRecDepth 100000 in
set_option maxHeartbeats 4000000 in
theorem rturn_any (taken : Bool) (T T2 : List Bool) (l : List (Nat × Nat)) (A : Option Addr) (cap : Nat) (E : Option Addr) (ce : Nat) (w : World) (hT : Lies w A (tcells T)) (hE : Lies w E (ecells l)) (hn : T.length ≤ 100000) (hl : l.length ≤ 100000) (ht : turnS taken T l = some T2) :
  Calls Tryz.prog 105 #[.agg #[.slice A T.length cap], .slice E l.length ce, .bool taken] w fun e w' => ∃ A' c',e = .returned (.tuple #[.agg #[.slice A' T2.length c'], .bool true]) ∧ w'.ownsRow w.heap.size 4 1 (.slice A' T2.length c') T2.length (tcells T2) ∧ Below w.heap.size w w' := by
 have hlen := turnS_len _ _ _ _ ht
 rw [hlen]
 have KC := fun (w1 : World) (h : Lies w1 A (tcells T)) => rclone_any A T cap w1 h hn
 have hB0 := (Blk.new w #[.slice A T.length cap] 127).alloc (.cells #[.slice none 0 0] 127)
 have hB1 := Blk.new (w.alloc (.cells #[.slice A T.length cap] 127)) #[.slice none 0 0] 127
 rw [World.size_alloc] at hB1
 have hb := ((Below.refl w.heap.size w).alloc (Nat.le_refl _) (.cells #[.slice A T.length cap] 127)).alloc (by simp) (.cells #[.slice none 0 0] 127)
 have hTl := hT.below (Nat.le_refl _) hb
 have hEl := hE.below (Nat.le_refl _) hb
 have hWs : ((w.alloc (.cells #[.slice A T.length cap] 127)).alloc (.cells #[.slice none 0 0] 127)).heap.size = w.heap.size + 2 := by simp
 obtain ⟨n,hnn⟩ : ∃ q,T.length = q := ⟨_,rfl⟩
 obtain ⟨q,hq⟩ : ∃ q,l.length = q := ⟨_,rfl⟩
 rw [hnn] at hn hB0 hB1 hb hTl hEl hWs ⊢
 simp only [hnn] at KC
 rw [hq] at hl ⊢
 obtain ⟨H,hH⟩ : ∃ q,w.heap.size = q := ⟨_,rfl⟩
 obtain ⟨W,hW⟩ : ∃ q,(w.alloc (.cells #[.slice A n cap] 127)).alloc (.cells #[.slice none 0 0] 127) = q := ⟨_,rfl⟩
 rw [hH] at hB0 hB1 hb hWs ⊢
 rw [hW] at hB0 hB1 hb hTl hEl hWs
 have HN := Lib.hid (And.intro hnn hq)
 have HH := Lib.hid (And.intro hH hW)
 have HB := Lib.hid (And.intro hB0 (And.intro hB1 (And.intro hb hWs)))
 have HE := Lib.hid hEl
 have HT := Lib.hid (And.intro ht (hlen.trans hnn))
 have KW := KC W hTl
 clear hT hE hnn hq hH hW hB0 hB1 hb hTl hEl hWs ht hlen KC
 have mixed := mixedT
 go_enter Tryz.func105,Tryz.ntmps105
 go_upto_region 1 with (fail)
 try rw [HH.out.2,HH.out.1]
 try simp only [HH.out.2,HH.out.1]
 have x0 := HB.out.1.cell 0
 simp at x0
 have l0 := HB.out.1.lt
 go_upto_region 2 with (first
  | (go_at_call 131;refine KW.mono ?_;rintro e w3 ⟨A1,c1,rfl,hr,hb3⟩;have H3 := Lib.hid (And.intro hr hb3);clear hr hb3 KW))
 have hBn := Blk.new w3 #[.slice A1 n c1] 127
 have hb3 := H3.out.2.alloc H3.out.2.size (.cells #[.slice A1 n c1] 127)
 have hr3 := World.ownsRow.alloc H3.out.1 (.cells #[.slice A1 n c1] 127)
 have hsz3 := H3.out.2.size
 have hrl : ∀ g,(Value.slice A1 n c1).ownBlock = some g → W.heap.size ≤ g ∧ g < w3.heap.size := fun g hg => H3.out.1.lt g hg
 obtain ⟨N,hN⟩ : ∃ q,w3.heap.size = q := ⟨_,rfl⟩
 obtain ⟨W4,hW4⟩ : ∃ q,w3.alloc (.cells #[.slice A1 n c1] 127) = q := ⟨_,rfl⟩
 rw [hN] at hBn hsz3 hrl
 simp only [hW4] at hBn hb3 hr3 ⊢
 try simp only [hN]
 have HR1 := Lib.hid (HB.out.2.1.below hb3)
 have HS := Lib.hid (And.intro hBn (And.intro hr3 hb3))
 have HRL := Lib.hid (And.intro hrl (And.intro hsz3 HB.out.2.2.2))
 clear hBn hb3 hr3 hN hW4 hrl hsz3 x0 l0
 go_wp2
 go_loopw [9] (fun iv wr => ∃ (k : Nat) (U : List Bool),k ≤ q ∧ iv = .int .i64 k ∧ U.length = n ∧ turnS taken U (l.drop k) = some T2 ∧ wr.ownsRow W.heap.size 4 1 (.slice A1 n c1) n (tcells U) ∧ Blk wr N #[.slice A1 n c1] 127 ∧ Blk wr (H + 1) #[.slice none 0 0] 127 ∧ Below W.heap.size W wr) (fun iv _ => q - (intOf iv).toNat)
 case atStart => exact ⟨0,T,Nat.zero_le _,rfl,HN.out.1,by rw [List.drop_zero];exact HT.out.1,HS.out.2.1,HS.out.1,HR1.out,HS.out.2.2⟩
 case round =>
  clear HS HR1
  obtain ⟨k,U,hk,rfl,hU,hR,hrow,hBn,hB1,hbr⟩ := hrel
  have k0 : (0 : Int) ≤ (k : Int) := by omega
  by_cases hkq : k < q
  ·have hkl : k < l.length := by rw [HN.out.2];exact hkq
   have k1 : (k : Int) < (q : Int) := by omega
   obtain ⟨g,o,rfl,hgl,hcs⟩ := HE.out (by rw [ecells_length];omega)
   obtain ⟨e0,e1⟩ := ecells_at l k hkl
   have c0 := hcs _ _ e0
   have cc1 := hcs _ _ e1
   rw [← Nat.add_assoc] at cc1
   rw [List.drop_eq_getElem_cons hkl,turnS] at hR
   obtain ⟨f,hf⟩ : ∃ f,l[k].1 = f := ⟨_,rfl⟩
   obtain ⟨m,hm⟩ : ∃ f,l[k].2 = f := ⟨_,rfl⟩
   rw [hf] at c0 hR
   rw [hm] at cc1 hR
   rw [hU] at hR
   split at hR
   ·cases hR
   rename_i hcond
   have hm1 : 1 ≤ m := by omega
   have hfm : f + m ≤ n := by omega
   have m0 : ¬ ((m : Int) < 1) := by omega
   have f0 : ¬ ((f : Int) < 0) := by omega
   have HC := Lib.hid (fun (w5 : World) (hb5 : Below W.heap.size W w5) => (show w5.cell? ⟨g,o + k * 2,none⟩ = some (.int .i64 (f : Int)) ∧ w5.cell? ⟨g,o + k * 2 + 1,none⟩ = some (.int .i64 (m : Int)) ∧ g < w5.heap.size from
    ⟨(hb5.cell (p := ⟨g,o + k * 2,none⟩) hgl).trans c0,(hb5.cell (p := ⟨g,o + k * 2 + 1,none⟩) hgl).trans cc1,Nat.lt_of_lt_of_le hgl hb5.size⟩))
   have HS := Lib.hid (And.intro hU (And.intro hrow (And.intro hBn (And.intro hB1 (And.intro hbr hR)))))
   obtain ⟨d0,d1,dl⟩ := HC.out wr hbr
   clear c0 cc1 hcs e0 e1 hU hR hrow hBn hB1 hbr hgl hcond hf hm
   go_wp2
   go_loopw [10] (fun jv wx => ∃ (j : Nat) (V : List Bool),j ≤ m ∧ jv = .int .i64 j ∧ V.length = n ∧ ((turn1 taken V (f + j) (m - j)).bind fun T' => turnS taken T' (l.drop (k + 1))) = some T2 ∧ wx.ownsRow W.heap.size 4 1 (.slice A1 n c1) n (tcells V) ∧ Blk wx N #[.slice A1 n c1] 127 ∧ Blk wx (H + 1) #[.slice none 0 0] 127 ∧ Below W.heap.size W wx) (fun jv _ => m - (intOf jv).toNat)
   case atStart => exact ⟨0,U,Nat.zero_le _,rfl,HS.out.1,by simpa using HS.out.2.2.2.2.2,HS.out.2.1,HS.out.2.2.1,HS.out.2.2.2.1,HS.out.2.2.2.2.1⟩
   case round =>
    clear HS d0 d1 dl
    obtain ⟨j,V,hj,rfl,hV,hR,hrow,hBn,hB1,hbr⟩ := hrel
    have j0 : (0 : Int) ≤ (j : Int) := by omega
    obtain ⟨d0,d1,dl⟩ := HC.out _ hbr
    by_cases hjm : j < m
    ·have j1 : (j : Int) < (m : Int) := by omega
     rw [show m - j = (m - j - 1) + 1 by omega] at hR
     obtain ⟨hv,hR2⟩ := turn1_some hR
     have hfj : f + j < V.length := by omega
     obtain ⟨g2,hA1⟩ : ∃ g2,A1 = some ⟨g2,0,none⟩ := by
      rcases hrow.2 with ⟨_,h0⟩ | ⟨b,cap,cur,hv,_⟩
      ·exfalso;omega
      ·simp only [Value.slice.injEq] at hv;exact ⟨b,hv.1⟩
     subst hA1
     rw [List.getD_eq_getElem?_getD,List.getElem?_eq_getElem hfj,Option.getD_some] at hv
     have HV := Lib.hid (show (V.set (f + j) taken).length = n ∧ ((turn1 taken (V.set (f + j) taken) (f + (j + 1)) (m - (j + 1))).bind fun T' => turnS taken T' (l.drop (k + 1))) = some T2 from ⟨by rw [List.length_set];exact hV,hR2⟩)
     have hge : ¬ ((f : Int) ≥ (n : Int) - (j : Int)) := by omega
     obtain ⟨i,hi⟩ : ∃ i,f + j = i := ⟨_,rfl⟩
     have hii : (f : Int) + (j : Int) = (i : Int) := by omega
     have hin : i < n := by omega
     have hwi : IntKind.i64.wrap (i : Int) = (i : Int) := by simp [IntKind.wrap,IntKind.bits,IntKind.signed];omega
     simp only [hi] at hfj hv HV
     have HVI := Lib.hid hv
     have HK := Lib.hid (And.intro hrow (And.intro hBn (And.intro hB1 hbr)))
     clear hV hR hrow hBn hB1 hbr hR2 hv d0 d1 dl
     cases taken with
     | false =>
      have hc := HK.out.1.cellAt i (by omega)
      rw [tcells,List.getElem?_map,List.getElem?_eq_getElem hfj,Option.map_some,HVI.out] at hc
      have hfz := HK.out.1.frozenAt i
      have hgl2 := (HK.out.1.lt g2 rfl).2
      have n0 := HK.out.2.1.cell 0
      simp at n0
      have nl := HK.out.2.1.lt
      obtain ⟨d0,d1,dl⟩ := HC.out _ HK.out.2.2.2
      go_upto_region 10 with (fail)
      go_quiet (fail)
      obtain ⟨wq,hwq⟩ : ∃ q,wr.drewN nq = q := ⟨_,rfl⟩
      have HK2 := Lib.hid (show wq.ownsRow W.heap.size 4 1 (.slice (some ⟨g2,0,none⟩) n c1) n (tcells V) ∧ Blk wq N #[.slice (some ⟨g2,0,none⟩) n c1] 127 ∧ Blk wq (H + 1) #[.slice none 0 0] 127 ∧ Below W.heap.size W wq from by rw [← hwq];exact ⟨HK.out.1,HK.out.2.1,HK.out.2.2.1,⟨HK.out.2.2.2.os,HK.out.2.2.2.tape,HK.out.2.2.2.output,HK.out.2.2.2.size,HK.out.2.2.2.block⟩⟩)
      rw [hwq]
      clear hwq HK hc hfz hgl2 n0 nl d0 d1 dl
      have HK := HK2
      clear HK2
      have hc := HK.out.1.cellAt i (by omega)
      rw [tcells,List.getElem?_map,List.getElem?_eq_getElem hfj,Option.map_some,HVI.out] at hc
      have hfz := HK.out.1.frozenAt i
      have hgl2 := (HK.out.1.lt g2 rfl).2
      have n0 := HK.out.2.1.cell 0
      simp at n0
      have nl := HK.out.2.1.lt
      obtain ⟨d0,d1,dl⟩ := HC.out _ HK.out.2.2.2
      go_upto_region 12 with (fail)
      refine wp_region_held (S := fun w' => Blk w' N #[.slice (some ⟨g2,0,none⟩) n c1] 127 ∧ Blk w' (H + 1) #[.slice none 0 0] 127 ∧ Below W.heap.size W w') mixed ?_
      change wpAnyH _ _ _ _ _ _ _ _ wq.drew
      have hS1 : wq.drew.ownsRow W.heap.size 4 1 (.slice (some ⟨g2,0,none⟩) n c1) n (tcells V) ∧ Blk wq.drew N #[.slice (some ⟨g2,0,none⟩) n c1] 127 ∧ Blk wq.drew (H + 1) #[.slice none 0 0] 127 ∧ Below W.heap.size W wq.drew := ⟨HK.out.1,HK.out.2.1,HK.out.2.2.1,HK.out.2.2.2.drew⟩
      obtain ⟨wd,hwd⟩ : ∃ q,wq.drew = q := ⟨_,rfl⟩
      rw [hwd] at hS1 ⊢
      have hS0 := hS1.2
      have HK3 := Lib.hid hS1
      clear hwd hS1 HK hc hfz hgl2 n0 nl d0 d1 dl
      refine tkQ 0 (.pointer (some ⟨N,0,none⟩)) rfl hS0 ?_
      try go_simp
      refine tkH 1 (.slice (some ⟨g2,0,none⟩) n c1) rfl hS0 (fun w' hS => ?_) ?_
      ·have n0 := hS.1.cell 0;simp at n0;go_simp
      try go_simp
      refine tkQ 2 (.slice (some ⟨g,o,none⟩) q ce) rfl hS0 ?_
      try go_simp
      refine tkQ 3 (.int .i64 (k : Int)) rfl hS0 ?_
      try go_simp
      refine tkQ 4 (.pointer (some ⟨g,o + k * 2,none⟩)) rfl hS0 ?_
      try go_simp
      refine tkQ 5 (.pointer (some ⟨g,o + k * 2,none⟩)) rfl hS0 ?_
      try go_simp
      refine tkH 6 (.int .i64 (f : Int)) rfl hS0 (fun w' hS => ?_) ?_
      ·have d0 := (HC.out _ hS.2.2).1;go_simp
      try go_simp
      refine tkQ 7 (.int .i64 (j : Int)) rfl hS0 ?_
      try go_simp
      refine tkQ 8 (.int .i64 (i : Int)) rfl hS0 ?_
      try go_simp
      refine tkQ 9 (.bool false) rfl hS0 ?_
      try go_simp
      refine tkQ 10 (.pointer (some ⟨g2,i,none⟩)) rfl hS0 ?_
      try go_simp
      have HK := HK3
      clear HK3
      have hc := HK.out.1.cellAt i (by omega)
      rw [tcells,List.getElem?_map,List.getElem?_eq_getElem hfj,Option.map_some,HVI.out] at hc
      have hfz := HK.out.1.frozenAt i
      have hgl2 := (HK.out.1.lt g2 rfl).2
      have n0 := HK.out.2.1.cell 0
      simp at n0
      have nl := HK.out.2.1.lt
      obtain ⟨d0,d1,dl⟩ := HC.out _ HK.out.2.2.2
      refine alH 11 ?_
      unfold wpOp
      go_simp
      have hst := HK.out.1.stored i (.bool false)
      rw [tcells_set] at hst
      have hneN : g2 ≠ N := by have := (HRL.out.1 g2 rfl).2;omega
      have hneH : g2 ≠ H + 1 := by have := (HRL.out.1 g2 rfl).1;have := HRL.out.2.2;omega
      have hgg := (HRL.out.1 g2 rfl).1
      have HS9 := Lib.hid (show (wd.setCell ⟨g2,i,none⟩ (.bool false)).ownsRow W.heap.size 4 1 (.slice (some ⟨g2,0,none⟩) n c1) n (tcells (V.set i false)) ∧ Blk (wd.setCell ⟨g2,i,none⟩ (.bool false)) N #[.slice (some ⟨g2,0,none⟩) n c1] 127 ∧ Blk (wd.setCell ⟨g2,i,none⟩ (.bool false)) (H + 1) #[.slice none 0 0] 127 ∧ Below W.heap.size W (wd.setCell ⟨g2,i,none⟩ (.bool false)) from
       ⟨hst.1,(Below.heap_setCell wd ⟨g2,i,none⟩ (.bool false) N (Ne.symm hneN)).trans HK.out.2.1,(Below.heap_setCell wd ⟨g2,i,none⟩ (.bool false) (H + 1) (Ne.symm hneH)).trans HK.out.2.2.1,HK.out.2.2.2.setCell (p := ⟨g2,i,none⟩) hgg (.bool false)⟩)
      first | refine .inl ⟨HS9.out.2, ?_⟩ | refine ⟨HS9.out.2, ?_⟩
      refine wpAnyH_done (by kernel_rfl) ?_ _
      clear hS0 hst hneN hneH hgg hc hfz hgl2 n0 nl d0 d1 dl
      go_wp2
      go_roundw
      case rel => exact ⟨j + 1,V.set i false,by omega,by go_num,HV.out.1,HV.out.2,HS9.out.1,HS9.out.2.1,HS9.out.2.2.1,HS9.out.2.2.2⟩
      case measure => simp [intOf];omega
     | true =>
      have hc := HK.out.1.cellAt i (by omega)
      rw [tcells,List.getElem?_map,List.getElem?_eq_getElem hfj,Option.map_some,HVI.out] at hc
      have hfz := HK.out.1.frozenAt i
      have hgl2 := (HK.out.1.lt g2 rfl).2
      have n0 := HK.out.2.1.cell 0
      simp at n0
      have nl := HK.out.2.1.lt
      obtain ⟨d0,d1,dl⟩ := HC.out _ HK.out.2.2.2
      go_upto_region 10 with (fail)
      go_quiet (fail)
      obtain ⟨wq,hwq⟩ : ∃ q,wr.drewN nq = q := ⟨_,rfl⟩
      have HK2 := Lib.hid (show wq.ownsRow W.heap.size 4 1 (.slice (some ⟨g2,0,none⟩) n c1) n (tcells V) ∧ Blk wq N #[.slice (some ⟨g2,0,none⟩) n c1] 127 ∧ Blk wq (H + 1) #[.slice none 0 0] 127 ∧ Below W.heap.size W wq from by rw [← hwq];exact ⟨HK.out.1,HK.out.2.1,HK.out.2.2.1,⟨HK.out.2.2.2.os,HK.out.2.2.2.tape,HK.out.2.2.2.output,HK.out.2.2.2.size,HK.out.2.2.2.block⟩⟩)
      rw [hwq]
      clear hwq HK hc hfz hgl2 n0 nl d0 d1 dl
      have HK := HK2
      clear HK2
      have hc := HK.out.1.cellAt i (by omega)
      rw [tcells,List.getElem?_map,List.getElem?_eq_getElem hfj,Option.map_some,HVI.out] at hc
      have hfz := HK.out.1.frozenAt i
      have hgl2 := (HK.out.1.lt g2 rfl).2
      have n0 := HK.out.2.1.cell 0
      simp at n0
      have nl := HK.out.2.1.lt
      obtain ⟨d0,d1,dl⟩ := HC.out _ HK.out.2.2.2
      go_upto_region 12 with (fail)
      refine wp_region_held (S := fun w' => Blk w' N #[.slice (some ⟨g2,0,none⟩) n c1] 127 ∧ Blk w' (H + 1) #[.slice none 0 0] 127 ∧ Below W.heap.size W w') mixed ?_
      change wpAnyH _ _ _ _ _ _ _ _ wq.drew
      have hS1 : wq.drew.ownsRow W.heap.size 4 1 (.slice (some ⟨g2,0,none⟩) n c1) n (tcells V) ∧ Blk wq.drew N #[.slice (some ⟨g2,0,none⟩) n c1] 127 ∧ Blk wq.drew (H + 1) #[.slice none 0 0] 127 ∧ Below W.heap.size W wq.drew := ⟨HK.out.1,HK.out.2.1,HK.out.2.2.1,HK.out.2.2.2.drew⟩
      obtain ⟨wd,hwd⟩ : ∃ q,wq.drew = q := ⟨_,rfl⟩
      rw [hwd] at hS1 ⊢
      have hS0 := hS1.2
      have HK3 := Lib.hid hS1
      clear hwd hS1 HK hc hfz hgl2 n0 nl d0 d1 dl
      refine tkQ 0 (.pointer (some ⟨N,0,none⟩)) rfl hS0 ?_
      try go_simp
      refine tkH 1 (.slice (some ⟨g2,0,none⟩) n c1) rfl hS0 (fun w' hS => ?_) ?_
      ·have n0 := hS.1.cell 0;simp at n0;go_simp
      try go_simp
      refine tkQ 2 (.slice (some ⟨g,o,none⟩) q ce) rfl hS0 ?_
      try go_simp
      refine tkQ 3 (.int .i64 (k : Int)) rfl hS0 ?_
      try go_simp
      refine tkQ 4 (.pointer (some ⟨g,o + k * 2,none⟩)) rfl hS0 ?_
      try go_simp
      refine tkQ 5 (.pointer (some ⟨g,o + k * 2,none⟩)) rfl hS0 ?_
      try go_simp
      refine tkH 6 (.int .i64 (f : Int)) rfl hS0 (fun w' hS => ?_) ?_
      ·have d0 := (HC.out _ hS.2.2).1;go_simp
      try go_simp
      refine tkQ 7 (.int .i64 (j : Int)) rfl hS0 ?_
      try go_simp
      refine tkQ 8 (.int .i64 (i : Int)) rfl hS0 ?_
      try go_simp
      refine tkQ 9 (.bool true) rfl hS0 ?_
      try go_simp
      refine tkQ 10 (.pointer (some ⟨g2,i,none⟩)) rfl hS0 ?_
      try go_simp
      have HK := HK3
      clear HK3
      have hc := HK.out.1.cellAt i (by omega)
      rw [tcells,List.getElem?_map,List.getElem?_eq_getElem hfj,Option.map_some,HVI.out] at hc
      have hfz := HK.out.1.frozenAt i
      have hgl2 := (HK.out.1.lt g2 rfl).2
      have n0 := HK.out.2.1.cell 0
      simp at n0
      have nl := HK.out.2.1.lt
      obtain ⟨d0,d1,dl⟩ := HC.out _ HK.out.2.2.2
      refine alH 11 ?_
      unfold wpOp
      go_simp
      have hst := HK.out.1.stored i (.bool true)
      rw [tcells_set] at hst
      have hneN : g2 ≠ N := by have := (HRL.out.1 g2 rfl).2;omega
      have hneH : g2 ≠ H + 1 := by have := (HRL.out.1 g2 rfl).1;have := HRL.out.2.2;omega
      have hgg := (HRL.out.1 g2 rfl).1
      have HS9 := Lib.hid (show (wd.setCell ⟨g2,i,none⟩ (.bool true)).ownsRow W.heap.size 4 1 (.slice (some ⟨g2,0,none⟩) n c1) n (tcells (V.set i true)) ∧ Blk (wd.setCell ⟨g2,i,none⟩ (.bool true)) N #[.slice (some ⟨g2,0,none⟩) n c1] 127 ∧ Blk (wd.setCell ⟨g2,i,none⟩ (.bool true)) (H + 1) #[.slice none 0 0] 127 ∧ Below W.heap.size W (wd.setCell ⟨g2,i,none⟩ (.bool true)) from
       ⟨hst.1,(Below.heap_setCell wd ⟨g2,i,none⟩ (.bool true) N (Ne.symm hneN)).trans HK.out.2.1,(Below.heap_setCell wd ⟨g2,i,none⟩ (.bool true) (H + 1) (Ne.symm hneH)).trans HK.out.2.2.1,HK.out.2.2.2.setCell (p := ⟨g2,i,none⟩) hgg (.bool true)⟩)
      first | refine .inl ⟨HS9.out.2, ?_⟩ | refine ⟨HS9.out.2, ?_⟩
      refine wpAnyH_done (by kernel_rfl) ?_ _
      clear hS0 hst hneN hneH hgg hc hfz hgl2 n0 nl d0 d1 dl
      go_wp2
      go_roundw
      case rel => exact ⟨j + 1,V.set i true,by omega,by go_num,HV.out.1,HV.out.2,HS9.out.1,HS9.out.2.1,HS9.out.2.2.1,HS9.out.2.2.2⟩
      case measure => simp [intOf];omega
    ·obtain rfl : m = j := by omega
     rw [Nat.sub_self,turn1,Option.bind_some] at hR
     have HS := Lib.hid (And.intro hV (And.intro hR (And.intro hrow (And.intro hBn (And.intro hB1 hbr)))))
     clear hV hR hrow hBn hB1 hbr
     go_wp2
     go_roundw
     case rel => exact ⟨k + 1,V,by omega,by go_num,HS.out.1,HS.out.2.1,HS.out.2.2.1,HS.out.2.2.2.1,HS.out.2.2.2.2.1,HS.out.2.2.2.2.2⟩
     case measure => simp [intOf];omega
  ·obtain rfl : k = q := by omega
   rw [List.drop_eq_nil_of_le (by rw [HN.out.2];exact Nat.le_refl _),turnS] at hR
   obtain rfl : U = T2 := by simpa using hR
   have n0 := hBn.cell 0
   simp at n0
   have nl := hBn.lt
   have r0 := hB1.cell 0
   have rf := hB1.frozen 0
   simp at r0
   have rl := hB1.lt
   have HS := Lib.hid (And.intro hrow (And.intro hB1 hbr))
   clear hU hR hrow hBn hB1 hbr
   go_wp2
   have hB2 := HS.out.2.1.set 0 (.slice A1 n c1)
   have p0 := hB2.cell 0
   simp at p0
   refine bodyPost_ret (v := .tuple #[.agg #[.slice A1 n c1], .bool true]) ?_ rfl ?_
   ·simp [results,Tryz.f105,go_sem,p0]
   ·have h2 := HRL.out.2.2
    refine ⟨A1,c1,rfl,row_block (own_weaken HS.out.1 (by omega)) (fun g hg => Below.heap_setCell _ _ _ _ (by have := (HRL.out.1 g hg).1;simp;omega)), ?_⟩
    exact below_set (HB.out.2.2.1.trans (HS.out.2.2.mono (by omega))) (H + 1) 0 _ (by omega)
def unitsL (l : List (Nat × Nat)) : List Nat := l.flatMap fun x => List.range' x.1 x.2
theorem unitsL_cons (x : Nat × Nat) (l : List (Nat × Nat)) : unitsL (x :: l) = List.range' x.1 x.2 ++ unitsL l := rfl
theorem unitsL_length : ∀ l : List (Nat × Nat),(unitsL l).length = sumN l := by
 intro l
 induction l with
 | nil => rfl
 | cons x l ih => rw [unitsL_cons,List.length_append,ih,sumN_cons,List.length_range']
theorem mem_unitsL {j : Nat} {l : List (Nat × Nat)} : j ∈ unitsL l ↔ ∃ x ∈ l,x.1 ≤ j ∧ j < x.1 + x.2 := by
 unfold unitsL
 rw [List.mem_flatMap]
 constructor
 ·rintro ⟨x,hx,hj⟩;exact ⟨x,hx,by rw [List.mem_range'_1] at hj;exact hj⟩
 ·rintro ⟨x,hx,hj⟩;exact ⟨x,hx,by rw [List.mem_range'_1];exact hj⟩
theorem set_getD (T : List Bool) (i j : Nat) (b : Bool) (h : i < T.length) : (T.set i b).getD j false = if i = j then b else T.getD j false := by
 rw [List.getD_eq_getElem?_getD,List.getD_eq_getElem?_getD,List.getElem?_set]
 by_cases e : i = j
 ·subst e;simp [h]
 ·rw [if_neg e,if_neg e]
theorem turn1_give : ∀ (m : Nat) (T : List Bool) (i : Nat),i + m ≤ T.length → (∀ j,i ≤ j → j < i + m → T.getD j false = true) →
  ∃ T',turn1 false T i m = some T' ∧ T'.length = T.length ∧ ∀ j,T'.getD j false = (T.getD j false && !decide (i ≤ j ∧ j < i + m)) := by
 intro m
 induction m with
 | zero => intro T i _ _;exact ⟨T,rfl,rfl,fun j => by simp;intro _;omega⟩
 | succ m ih =>
  intro T i hl hf
  have h0 := hf i (Nat.le_refl _) (by omega)
  have hil : i < T.length := by omega
  obtain ⟨T',h1,h2,h3⟩ := ih (T.set i false) (i + 1) (by rw [List.length_set];omega) (fun j hj hj2 => by
   rw [set_getD _ _ _ _ hil,if_neg (by omega)];exact hf j (by omega) (by omega))
  refine ⟨T', ?_,by rw [h2,List.length_set],fun j => ?_⟩
  ·rw [turn1,h0,if_neg (by simp)]
   exact h1
  ·rw [h3,set_getD _ _ _ _ hil]
   by_cases e : i = j
   ·subst e;simp
   ·rw [if_neg e]
    congr 2
    exact decide_eq_decide.2 (by constructor <;> intro h <;> omega)
theorem turnS_give : ∀ (l : List (Nat × Nat)) (T : List Bool),(∀ x ∈ l,1 ≤ x.2 ∧ x.1 + x.2 ≤ T.length) → (unitsL l).Nodup → (∀ j ∈ unitsL l,T.getD j false = true) →
  ∃ T',turnS false T l = some T' ∧ T'.length = T.length ∧ ∀ j,T'.getD j false = (T.getD j false && !decide (j ∈ unitsL l)) := by
 intro l
 induction l with
 | nil => intro T _ _ _;exact ⟨T,rfl,rfl,fun j => by simp [unitsL]⟩
 | cons x l ih =>
  intro T hb hn ht
  obtain ⟨a1,a2⟩ := hb x (List.mem_cons_self ..)
  rw [unitsL_cons,List.nodup_append] at hn
  obtain ⟨_,n2,n3⟩ := hn
  obtain ⟨T1,b1,b2,b3⟩ := turn1_give x.2 T x.1 a2 (fun j h1 h2 => ht j (by rw [unitsL_cons];exact List.mem_append_left _ (by rw [List.mem_range'_1];exact ⟨h1,h2⟩)))
  obtain ⟨T',c1,c2,c3⟩ := ih T1 (fun y hy => by rw [b2];exact hb y (List.mem_cons_of_mem _ hy)) n2 (fun j hj => by
   rw [b3,ht j (by rw [unitsL_cons];exact List.mem_append_right _ hj)]
   simp
   rcases Nat.lt_or_ge j x.1 with h1 | h1
   ·exact .inl h1
   refine .inr ?_
   rcases Nat.lt_or_ge j (x.1 + x.2) with h | h
   ·exact absurd rfl (n3 j (by rw [List.mem_range'_1];exact ⟨h1,h⟩) j hj)
   ·exact h)
  refine ⟨T', ?_,by rw [c2,b2],fun j => ?_⟩
  ·rw [turnS,if_neg (by omega),b1];exact c1
  ·rw [c3,b3,unitsL_cons,Bool.and_assoc]
   congr 1
   rw [← Bool.not_or]
   congr 1
   rw [← Bool.decide_or]
   exact decide_eq_decide.2 (by rw [List.mem_append,List.mem_range'_1])
theorem nodup_lt : ∀ (n : Nat) (l : List Nat),l.Nodup → (∀ x ∈ l,x < n) → l.length ≤ n := by
 intro n
 induction n with
 | zero =>
  intro l _ h
  cases l with
  | nil => exact Nat.le_refl _
  | cons a l => exact absurd (h a (List.mem_cons_self ..)) (by omega)
 | succ n ih =>
  intro l h1 h2
  have h3 := ih (l.filter (· != n)) (h1.filter _) (fun x hx => by
   obtain ⟨a,b⟩ := List.mem_filter.1 hx
   have := h2 x a
   have : x ≠ n := by simpa using b
   omega)
  have h4 : l.length ≤ (l.filter (· != n)).length + 1 := by
   have h5 := List.length_eq_countP_add_countP (p := fun x => x != n) (l := l)
   rw [List.countP_eq_length_filter] at h5
   have h6 : List.countP (fun a => decide ¬(a != n) = true) l ≤ 1 := by
    have h7 := List.nodup_iff_count.1 h1 n
    refine Nat.le_trans (Nat.le_of_eq ?_) h7
    unfold List.count
    congr 1
    funext a
    by_cases e : a = n <;> simp [e]
   omega
  omega
theorem perm_del : ∀ (F : List FileM) (g : FileM) (t : Bs),(F.map (·.name)).Nodup → fileOf F t = some g → F.Perm (g :: delF F t) := by
 intro F
 induction F with
 | nil => intro g t _ h;cases h
 | cons a F ih =>
  intro g t hn h
  rw [List.map_cons,List.nodup_cons] at hn
  by_cases ha : a.name = t
  ·have : fileOf (a :: F) t = some a := by unfold fileOf;rw [List.find?_cons,show (a.name == t) = true by simpa using ha]
   rw [this] at h
   cases h
   have hd : delF (a :: F) t = F := by
    unfold delF
    rw [List.filter_cons,show (!(a.name == t)) = false by simp [ha]]
    simp only [Bool.false_eq_true,if_false]
    rw [List.filter_eq_self]
    intro b hb
    have : b.name ≠ t := fun e => hn.1 (by rw [ha, ← e];exact List.mem_map.2 ⟨b,hb,rfl⟩)
    simp [this]
   rw [hd]
  ·have h2 : fileOf (a :: F) t = fileOf F t := by unfold fileOf;rw [List.find?_cons,show (a.name == t) = false by simpa using ha]
   rw [h2] at h
   have hd : delF (a :: F) t = a :: delF F t := by
    unfold delF
    rw [List.filter_cons,show (!(a.name == t)) = true by simp [ha]]
    simp
   rw [hd]
   exact ((ih g t hn.2 h).cons a).trans (List.Perm.swap g a _)
theorem del_none {F : List FileM} {t : Bs} (h : fileOf F t = none) : delF F t = F := by
 unfold delF
 rw [List.filter_eq_self]
 intro b hb
 have := fileOf_none.1 h b hb
 simp [this]
structure Inv (m : StoM) : Prop where
 b : StoB m
 cut : m.ds.cut = none
 on : m.ds.off = false
 syn : m.ds.S = []
 up : m.off = false
 good : ∀ f ∈ m.F,goodF f.name = true
 names : (m.F.map (·.name)).Nodup
 entries : (m.F.map (·.entry)).Nodup
 pos : ∀ f ∈ m.F, ∀ x ∈ f.ext,1 ≤ x.2
 sum : ∀ f ∈ m.F,sumN f.ext = needsN f.size
 once : (m.F.flatMap fun f => unitsL f.ext).Nodup
 taken : ∀ j,m.T.getD j false = true ↔ j ∈ m.F.flatMap fun f => unitsL f.ext
theorem inv_fresh (n f : Nat) (h1 : 1 ≤ f) (h2 : f ≤ 256) (h3 : f + 8 ≤ n) (h4 : n ≤ 4000) : Inv (freshM n f) where
 b := freshB n f h1 h2 h3 h4
 cut := rfl
 on := rfl
 syn := rfl
 up := rfl
 good := fun g hg => by cases hg
 names := by simp [freshM]
 entries := by simp [freshM]
 pos := fun g hg => by cases hg
 sum := fun g hg => by cases hg
 once := by simp [freshM]
 taken := fun j => by
  simp [freshM,List.getD_eq_getElem?_getD,List.getElem?_replicate]
  split <;> rfl
theorem perm_put : ∀ (F : List FileM) (f : FileM),(F.map (·.name)).Nodup → (putF F f).Perm (f :: delF F f.name) := by
 intro F f hn
 unfold putF
 split
 ·rename_i h
  induction F with
  | nil => cases h
  | cons a F ih =>
   rw [List.map_cons,List.nodup_cons] at hn
   by_cases ha : a.name = f.name
   ·have hne : ∀ b ∈ F,b.name ≠ f.name := fun b hb e => hn.1 (by rw [ha, ← e];exact List.mem_map.2 ⟨b,hb,rfl⟩)
    have h1 : (F.map fun g => if g.name == f.name then f else g) = F := by
     conv => rhs;rw [← List.map_id F]
     exact List.map_congr_left fun b hb => by simp [hne b hb]
    have hd : delF (a :: F) f.name = F := by
     unfold delF
     rw [List.filter_cons,show (!(a.name == f.name)) = false by simp [ha]]
     simp only [Bool.false_eq_true,if_false]
     rw [List.filter_eq_self]
     intro b hb
     simp [hne b hb]
    rw [List.map_cons,h1,hd,if_pos (by simpa using ha)]
   ·have h2 : (fileOf F f.name).isSome = true := by
     unfold fileOf at h ⊢
     rw [List.find?_cons,show (a.name == f.name) = false by simpa using ha] at h
     exact h
    have hd : delF (a :: F) f.name = a :: delF F f.name := by
     unfold delF
     rw [List.filter_cons,show (!(a.name == f.name)) = true by simp [ha]]
     simp
    rw [List.map_cons,hd,if_neg (by simpa using ha)]
    exact ((ih hn.2 h2).cons a).trans (List.Perm.swap f a _)
 ·rename_i h
  rw [del_none (by simpa using h)]
  exact List.perm_append_comm (l₁ := F) (l₂ := [f])
def unitsF (F : List FileM) : List Nat := F.flatMap fun f => unitsL f.ext
theorem unitsF_perm {F G : List FileM} (h : F.Perm G) : (unitsF F).Perm (unitsF G) := h.flatMap_right _
theorem units_split {m : StoM} (h : Inv m) (t : Bs) : (unitsF m.F).Perm (unitsL (oldX m.F t) ++ unitsF (delF m.F t)) := by
 unfold oldX
 cases hf : fileOf m.F t with
 | none => rw [del_none hf];exact List.Perm.refl _
 | some g => exact unitsF_perm (perm_del _ _ _ h.names hf)
theorem rise_units : ∀ (l : List (Nat × Nat)) (lo : Nat),Rise lo l → (unitsL l).Nodup ∧ ∀ j ∈ unitsL l,lo ≤ j := by
 intro l
 induction l with
 | nil => intro lo _;exact ⟨List.nodup_nil,fun j hj => by cases hj⟩
 | cons x l ih =>
  intro lo h
  obtain ⟨i1,i2⟩ := ih _ h.2
  have h1 := h.1
  rw [unitsL_cons]
  refine ⟨List.nodup_append.2 ⟨List.nodup_range',i1,fun a ha b hb => ?_⟩,fun j hj => ?_⟩
  ·have := i2 b hb
   rw [List.mem_range'_1] at ha
   omega
  ·rcases List.mem_append.1 hj with hj | hj
   ·rw [List.mem_range'_1] at hj;omega
   ·have := i2 j hj;omega
theorem getD_two (T : List Bool) (j : Nat) : T.getD j false = (decide (j < T.length) && T.getD j true) := by
 rw [List.getD_eq_getElem?_getD,List.getD_eq_getElem?_getD]
 by_cases h : j < T.length
 ·simp [h]
 ·simp [h]
theorem preW_some {m : StoM} {name data : Bs} {T2 : List Bool} {f : FileM} (h : preW m name data = (0,some (T2,f))) :
  goodF name = true ∧ data.length ≤ 1048576 ∧ slotW m name = some f.entry ∧ f.name = name ∧ f.size = data.length ∧ ∃ T1,takeS m.T (needsN data.length) 64 = some (f.ext,T1) ∧ turnS false T1 (oldX m.F name) = some T2 := by
 unfold preW at h
 split at h
 ·simp at h
 ·rename_i hg
  split at h
  ·simp at h
  ·rename_i hl
   cases hs : slotW m name with
   | none => rw [hs] at h;simp at h
   | some i =>
    rw [hs] at h
    dsimp only at h
    cases ht : takeS m.T (needsN data.length) 64 with
    | none => rw [ht] at h;simp at h
    | some p =>
     obtain ⟨l,T1⟩ := p
     rw [ht] at h
     dsimp only at h
     cases hu : turnS false T1 (oldX m.F name) with
     | none => rw [hu] at h;simp at h
     | some T3 =>
      rw [hu] at h
      simp only [Prod.mk.injEq,true_and,Option.some.injEq] at h
      obtain ⟨rfl,rfl⟩ := h
      exact ⟨by simpa using hg,by omega,rfl,rfl,rfl,T1,rfl,hu⟩
theorem old_facts {m : StoM} (h : Inv m) (t : Bs) : (∀ x ∈ oldX m.F t,1 ≤ x.2 ∧ x.1 + x.2 ≤ m.T.length) ∧ (unitsL (oldX m.F t)).Nodup ∧ ∀ j ∈ unitsL (oldX m.F t),m.T.getD j false = true := by
 have hsp := units_split h t
 have hn : (unitsL (oldX m.F t) ++ unitsF (delF m.F t)).Nodup := hsp.nodup_iff.1 h.once
 refine ⟨?_,(List.nodup_append.1 hn).1,fun j hj => (h.taken j).2 (hsp.mem_iff.2 (List.mem_append_left _ hj))⟩
 unfold oldX
 cases hf : fileOf m.F t with
 | none => intro x hx;cases hx
 | some g => exact fun x hx => ⟨h.pos g (fileOf_mem hf) x hx,h.b.exb g (fileOf_mem hf) x hx⟩
theorem put_units {m : StoM} (h : Inv m) {l : List (Nat × Nat)} {T1 T2 : List Bool} {k : Nat} {t : Bs} (h1 : takeS m.T k 64 = some (l,T1)) (h2 : turnS false T1 (oldX m.F t) = some T2) :
  T2.length = m.T.length ∧ (unitsL l ++ unitsF (delF m.F t)).Nodup ∧ ∀ j,T2.getD j false = true ↔ j ∈ unitsL l ++ unitsF (delF m.F t) := by
 obtain ⟨a1,a2,a3,a4,a5,a6⟩ := takeS_facts h1
 obtain ⟨o1,o2,o3⟩ := old_facts h t
 have hsp := units_split h t
 have hn := List.nodup_append.1 (hsp.nodup_iff.1 h.once)
 have hfree : ∀ j ∈ unitsL l,m.T.getD j false = false ∧ j < m.T.length := fun j hj => by
  obtain ⟨x,hx,b1,b2⟩ := mem_unitsL.1 hj
  obtain ⟨c1,c2,c3⟩ := a3 x hx
  exact ⟨by rw [getD_two,c3 j b1 b2];simp,by omega⟩
 have hT1 : ∀ j,T1.getD j false = (m.T.getD j false || decide (j ∈ unitsL l)) := fun j => by
  rw [getD_two,a6 j,a4,getD_two m.T j]
  by_cases hj : j ∈ unitsL l
  ·have := (hfree j hj).2
   have hany : (l.any fun x => decide (x.1 ≤ j ∧ j < x.1 + x.2)) = true := by
    obtain ⟨x,hx,b⟩ := mem_unitsL.1 hj
    exact List.any_eq_true.2 ⟨x,hx,by simpa using b⟩
   rw [hany]
   simp [this,hj]
  ·have hany : (l.any fun x => decide (x.1 ≤ j ∧ j < x.1 + x.2)) = false := by
    rw [List.any_eq_false]
    intro x hx hb
    exact hj (mem_unitsL.2 ⟨x,hx,by simpa using hb⟩)
   rw [hany]
   simp [hj]
 obtain ⟨T3,e1,e2,e3⟩ := turnS_give (oldX m.F t) T1 (fun x hx => by rw [a4];exact o1 x hx) o2 (fun j hj => by rw [hT1,o3 j hj];rfl)
 rw [h2] at e1
 cases e1
 have hdj : ∀ j ∈ unitsL l,j ∉ unitsL (oldX m.F t) ∧ j ∉ unitsF (delF m.F t) := fun j hj => by
  have h0 := (hfree j hj).1
  have hnot : j ∉ m.F.flatMap fun f => unitsL f.ext := fun hm => by rw [(h.taken j).2 hm] at h0;cases h0
  exact ⟨fun hm => hnot (hsp.mem_iff.2 (List.mem_append_left _ hm)),fun hm => hnot (hsp.mem_iff.2 (List.mem_append_right _ hm))⟩
 refine ⟨by rw [e2,a4],List.nodup_append.2 ⟨(rise_units l 0 a2).1,hn.2.1,fun a ha b hb e => (hdj a ha).2 (e ▸ hb)⟩,fun j => ?_⟩
 rw [e3,hT1,List.mem_append]
 have ht := h.taken j
 have hm : (j ∈ m.F.flatMap fun f => unitsL f.ext) ↔ (j ∈ unitsL (oldX m.F t) ∨ j ∈ unitsF (delF m.F t)) := by rw [← List.mem_append];exact hsp.mem_iff
 rw [hm] at ht
 have hod : j ∈ unitsL (oldX m.F t) → j ∉ unitsF (delF m.F t) := fun ha hb => hn.2.2 j ha j hb rfl
 have hd := hdj j
 simp only [Bool.and_eq_true,Bool.or_eq_true,decide_eq_true_eq,Bool.not_eq_true',decide_eq_false_iff_not]
 rw [ht]
 constructor
 ·rintro ⟨(h1 | h1) | h1,h2⟩
  ·exact absurd h1 h2
  ·exact .inr h1
  ·exact .inl h1
 ·rintro (h1 | h1)
  ·exact ⟨.inr h1,(hd h1).1⟩
  ·exact ⟨.inl (.inr h1),fun h2 => hod h2 h1⟩
theorem settle_sy (most : Nat) (T : List Bool) (C : List (Nat × Bs)) : ∃ p,settleC most T C = p ++ [.sy] :=
 ⟨(wrs (imgs (settleX T C) (2 + most)) ++ [.sy]) ++ ([.wr (2 + most) (headW (settleX T C)), .sy] ++ ((wrs (settleX T C) ++ [.sy]) ++ [.wr (2 + most) []])),by simp [settleC,commitC]⟩
theorem run_settled {d : DS} (h1 : d.cut = none) (h2 : d.off = false) (pre : List Cmd) (most : Nat) (T : List Bool) (C : List (Nat × Bs)) :
  (DS.run (pre ++ settleC most T C) d).1 = 0 ∧ (DS.run (pre ++ settleC most T C) d).2.cut = none ∧ (DS.run (pre ++ settleC most T C) d).2.off = false ∧ (DS.run (pre ++ settleC most T C) d).2.S = [] ∧ (DS.run (pre ++ settleC most T C) d).2.L.length = d.L.length := by
 obtain ⟨a1,a2,a3,_⟩ := run_on (pre ++ settleC most T C) d h1 h2
 obtain ⟨p,hp⟩ := settle_sy most T C
 refine ⟨a1,a2,a3, ?_,(run_len _ d).1⟩
 rw [hp, ← List.append_assoc]
 exact run_sy _ d h1 h2
theorem slot_fresh {m : StoM} (h : Inv m) {t : Bs} {i : Nat} (hs : slotW m t = some i) : i < m.most ∧ ∀ g ∈ delF m.F t,g.entry ≠ i := by
 refine ⟨slotW_lt h.b hs, ?_⟩
 unfold slotW at hs
 split at hs
 ·rename_i f hf
  cases hs
  have hp := (perm_del _ _ _ h.names hf).map (·.entry)
  have hn := hp.nodup_iff.1 h.entries
  rw [List.map_cons,List.nodup_cons] at hn
  exact fun g hg e => hn.1 (by rw [← e];exact List.mem_map.2 ⟨g,hg,rfl⟩)
 ·exact fun g hg => (vacN_lt hs).2 g (List.mem_filter.1 hg).1
theorem inv_put {m : StoM} {name data : Bs} {T2 : List Bool} {f : FileM} (h : Inv m) (hp : preW m name data = (0,some (T2,f))) :
  (DS.run (putC m.most T2 (secL (m.most + 7) f.ext) data f) m.ds).1 = 0 ∧ Inv ⟨(DS.run (putC m.most T2 (secL (m.most + 7) f.ext) data f) m.ds).2,putF m.F f,T2,m.most,m.off⟩ := by
 obtain ⟨p1,p2,p3,rfl,p5,T1,p6,p7⟩ := preW_some hp
 obtain ⟨u1,u2,u3⟩ := put_units h p6 p7
 obtain ⟨s1,s2⟩ := slot_fresh h p3
 obtain ⟨a1,a2,a3,_,a5,_⟩ := takeS_facts p6
 obtain ⟨r1,r2,r3,r4,r5⟩ := run_settled h.cut h.on (layC (secL (m.most + 7) f.ext) data) m.most T2 [(f.entry,entryB f.name f.size f.ext)]
 have hpp := perm_put m.F f h.names
 have hent : ((putF m.F f).map (·.entry)).Nodup := by
  rw [(hpp.map (·.entry)).nodup_iff,List.map_cons,List.nodup_cons]
  refine ⟨fun hm => ?_,h.entries.sublist (List.filter_sublist.map _)⟩
  obtain ⟨g,hg,e⟩ := List.mem_map.1 hm
  exact s2 g hg e
 have hU := unitsF_perm hpp
 have hlt : ∀ g ∈ putF m.F f,g.entry < m.most := fun g hg => by
  rcases putF_mem hg with rfl | ⟨hg,_⟩
  ·exact s1
  ·exact h.b.ent g hg
 refine ⟨r1, ?_⟩
 exact { b := { ent := hlt
                nam := fun g hg => by
                 rcases putF_mem hg with rfl | ⟨hg, _⟩
                 ·exact goodF_len p1
                 ·exact h.b.nam g hg
                siz := fun g hg => by
                 rcases putF_mem hg with rfl | ⟨hg, _⟩
                 ·rw [p5]; exact p2
                 ·exact h.b.siz g hg
                exl := fun g hg => by
                 rcases putF_mem hg with rfl | ⟨hg, _⟩
                 ·exact a1
                 ·exact h.b.exl g hg
                exb := fun g hg x hx => by
                 show _ ≤ T2.length
                 rw [u1]
                 rcases putF_mem hg with rfl | ⟨hg, _⟩
                 ·exact (a3 x hx).2.1
                 ·exact h.b.exb g hg x hx
                len := by
                 have := nodup_lt m.most _ hent (fun x hx => by obtain ⟨g, hg, rfl⟩ := List.mem_map.1 hx; exact hlt g hg)
                 rw [List.length_map] at this
                 have := h.b.mo.2
                 show (putF m.F f).length ≤ _
                 omega
                mo := h.b.mo
                tl := by show T2.length ≤ _; rw [u1]; exact h.b.tl
                ll := by
                 show T2.length + m.most + 7 = (DS.run (putC m.most T2 (secL (m.most + 7) f.ext) data f) m.ds).2.L.length
                 rw [u1, h.b.ll]; exact r5.symm
                sl := by
                 show (DS.run (putC m.most T2 (secL (m.most + 7) f.ext) data f) m.ds).2.S.length ≤ _
                 have : (DS.run (putC m.most T2 (secL (m.most + 7) f.ext) data f) m.ds).2.S = [] := r4
                 rw [this]; simp }
         cut := r2
         on := r3
         syn := r4
         up := h.up
         good := fun g hg => by
           rcases putF_mem hg with rfl | ⟨hg, _⟩
           ·exact p1
           ·exact h.good g hg
         names := putF_nodup h.names
         entries := hent
         pos := fun g hg x hx => by
           rcases putF_mem hg with rfl | ⟨hg, _⟩
           ·exact (a3 x hx).1
           ·exact h.pos g hg x hx
         sum := fun g hg => by
           rcases putF_mem hg with rfl | ⟨hg, _⟩
           ·rw [a5, p5]
           ·exact h.sum g hg
         once := hU.nodup_iff.2 u2
         taken := fun j => (u3 j).trans hU.mem_iff.symm }
theorem inv_remove {m : StoM} {name : Bs} {f : FileM} (h : Inv m) (hg : goodF name = true) (hf : fileOf m.F name = some f) :
  ∃ T2,preR m name = (0,some (T2,f)) ∧ (DS.run (settleC m.most T2 [(f.entry,[])]) m.ds).1 = 0 ∧ Inv ⟨(DS.run (settleC m.most T2 [(f.entry,[])]) m.ds).2,delF m.F name,T2,m.most,m.off⟩ ∧ T2.length = m.T.length := by
 have hsp := units_split h name
 have ho : oldX m.F name = f.ext := by unfold oldX;rw [hf];rfl
 obtain ⟨o1,o2,o3⟩ := old_facts h name
 rw [ho] at hsp o1 o2 o3
 have hn := List.nodup_append.1 (hsp.nodup_iff.1 h.once)
 obtain ⟨T2,e1,e2,e3⟩ := turnS_give f.ext m.T o1 o2 o3
 obtain ⟨r1,r2,r3,r4,r5⟩ := run_settled h.cut h.on [] m.most T2 [(f.entry,[])]
 rw [List.nil_append] at r1 r2 r3 r4 r5
 have hsub : ∀ g ∈ delF m.F name,g ∈ m.F := fun g hg => (List.mem_filter.1 hg).1
 have htk : ∀ j,T2.getD j false = true ↔ j ∈ unitsF (delF m.F name) := fun j => by
  rw [e3]
  have ht := h.taken j
  have hm : (j ∈ m.F.flatMap fun f => unitsL f.ext) ↔ (j ∈ unitsL f.ext ∨ j ∈ unitsF (delF m.F name)) := by rw [← List.mem_append];exact hsp.mem_iff
  rw [hm] at ht
  have hod : j ∈ unitsL f.ext → j ∉ unitsF (delF m.F name) := fun ha hb => hn.2.2 j ha j hb rfl
  simp only [Bool.and_eq_true,Bool.not_eq_true',decide_eq_false_iff_not]
  rw [ht]
  constructor
  ·rintro ⟨h1 | h1,h2⟩
   ·exact absurd h1 h2
   ·exact h1
  ·exact fun h1 => ⟨.inr h1,fun h2 => hod h2 h1⟩
 refine ⟨T2,by unfold preR;rw [if_neg (by rw [hg];decide),hf];dsimp only;rw [e1],r1, ?_,e2⟩
 ·exact { b := { ent := fun g hg => h.b.ent g (hsub g hg)
                 nam := fun g hg => h.b.nam g (hsub g hg)
                 siz := fun g hg => h.b.siz g (hsub g hg)
                 exl := fun g hg => h.b.exl g (hsub g hg)
                 exb := fun g hg x hx => by show _ ≤ T2.length; rw [e2]; exact h.b.exb g (hsub g hg) x hx
                 len := Nat.le_trans (List.length_filter_le ..) h.b.len
                 mo := h.b.mo
                 tl := by show T2.length ≤ _; rw [e2]; exact h.b.tl
                 ll := by
                  show T2.length + m.most + 7 = (DS.run (settleC m.most T2 [(f.entry, [])]) m.ds).2.L.length
                  rw [e2, h.b.ll]; exact r5.symm
                 sl := by
                  show (DS.run (settleC m.most T2 [(f.entry, [])]) m.ds).2.S.length ≤ _
                  rw [r4]; simp }
          cut := r2
          on := r3
          syn := r4
          up := h.up
          good := fun g hg => h.good g (hsub g hg)
          names := delF_nodup h.names
          entries := h.entries.sublist (List.filter_sublist.map _)
          pos := fun g hg => h.pos g (hsub g hg)
          sum := fun g hg => h.sum g (hsub g hg)
          once := hn.2.1
          taken := htk }
open Go.RowKit Go.Maps
def lastS (m : StoM) (f : FileM) : Nat := ((secL (m.most + 7) f.ext)[sumN f.ext - 1]?).getD 0
def appL (m : StoM) (f : FileM) : List Nat := if f.size % 512 = 0 then [] else [lastS m f]
def appD (m : StoM) (f : FileM) : Bs := if f.size % 512 = 0 then [] else (secAt m.ds.vis (lastS m f)).take (f.size % 512)
def preA (m : StoM) (name data : Bs) : Nat × Option (List Bool × List Nat × Bs × FileM) :=
 if goodF name = false then (11,none) else match fileOf m.F name with
 | none => (9,none)
 | some f => if 1048576 < f.size + data.length then (6,none) else if data = [] then (0,none) else
  match takeS m.T (needsN (f.size + data.length) - sumN f.ext) (64 - f.ext.length) with
  | none => (8,none)
  | some (l,T1) => (0,some (T1,appL m f ++ secL (m.most + 7) l,appD m f ++ data,⟨name,f.entry,f.size + data.length,f.ext ++ l⟩))
def AppendP (X : List Nat) (S D Lg M : Nat) (m : StoM) (p : Nat × Option (List Bool × List Nat × Bs × FileM)) (w : World) (e : Ending) (w' : World) : Prop :=
 (p.2 = none → e = .returned (.int .i64 (p.1 : Nat)) ∧ Below w.heap.size w w' ∧ Sto w' X S D Lg M m) ∧
 ∀ T2 L dt f,p.2 = some (T2,L,dt,f) → PutP X S D Lg M m T2 L dt f w e w'
def TakeR (T : List Bool) (k most B : Nat) (w' : World) (VA : Value) (VN : Int) (VP : ByteArray) (VE : Int) : Prop :=
 (takeS T k most = none ∧ VA = .slice none 0 0 ∧ VN = 0 ∧ VP = ⟨#[]⟩ ∧ VE = 8) ∨
 ∃ l T1 A4 c4,takeS T k most = some (l,T1) ∧ VA = .slice A4 l.length c4 ∧ VN = T1.length ∧ VP = mk (packB T1) ∧ VE = 0 ∧ Lies w' A4 (ecells l) ∧ Typed w' A4 90 ∧ ∀ g,A4 = some g → B ≤ g.block
theorem take_rel (T : List Bool) (k most : Nat) (w : World) (hn : T.length ≤ 4096) (hk : k ≤ 2199023255552) (hm : most ≤ 2199023255552) : Calls Tryz.prog 39 #[spv T, .int .i64 k, .int .i64 most] w fun e w' =>
  ∃ VA VN VP VE,e = .returned (.tuple #[VA, .agg #[.int .i64 VN, .string VP], .int .i64 VE]) ∧ TakeR T k most w.heap.size w' VA VN VP VE ∧ Below w.heap.size w w' := by
 refine (take_all T k most w hn hk hm).mono ?_
 rintro e w' ⟨h1,h2,hb⟩
 cases ht : takeS T k most with
 | none => exact ⟨_,_,_,_,h2 ht, .inl ⟨ht,rfl,rfl,rfl,rfl⟩,hb⟩
 | some p =>
  obtain ⟨l,T1⟩ := p
  obtain ⟨A,c,he,hrow⟩ := h1 l T1 ht
  exact ⟨_,_,_,_,he, .inr ⟨l,T1,A,c,ht,rfl,rfl,rfl,rfl,Lies.of_row hrow,Typed.of_row hrow,fun g hg => own_ge hrow g hg⟩,hb⟩
theorem TakeR.low {T : List Bool} {k most B B' : Nat} {w : World} {VA : Value} {VN : Int} {VP : ByteArray} {VE : Int} (h : TakeR T k most B w VA VN VP VE) (hb : B' ≤ B) : TakeR T k most B' w VA VN VP VE := by
 rcases h with h | ⟨l,T1,A4,c4,h0,h1,h2,h3,h4,h5,h6,h7⟩
 ·exact .inl h
 ·exact .inr ⟨l,T1,A4,c4,h0,h1,h2,h3,h4,h5,h6,fun g hg => Nat.le_trans hb (h7 g hg)⟩
theorem TakeR.below {T : List Bool} {k most B : Nat} {w w' : World} {VA : Value} {VN : Int} {VP : ByteArray} {VE : Int} (h : TakeR T k most B w VA VN VP VE) (hb : Below w.heap.size w w') : TakeR T k most B w' VA VN VP VE := by
 rcases h with h | ⟨l,T1,A4,c4,h0,h1,h2,h3,h4,h5,h6,h7⟩
 ·exact .inl h
 ·exact .inr ⟨l,T1,A4,c4,h0,h1,h2,h3,h4,h5.below (Nat.le_refl _) hb,h6.below hb,h7⟩
theorem lastS_at {m : StoM} {f : FileM} (hs : sumN f.ext = needsN f.size) (hz : ¬ f.size % 512 = 0) : ∃ h : sumN f.ext - 1 < (secL (m.most + 7) f.ext).length,lastS m f = (secL (m.most + 7) f.ext)[sumN f.ext - 1] ∧ 1 ≤ sumN f.ext := by
 have h1 : 1 ≤ sumN f.ext := by rw [hs];unfold needsN;omega
 have h2 : sumN f.ext - 1 < (secL (m.most + 7) f.ext).length := by rw [secL_length];omega
 exact ⟨h2,by unfold lastS;rw [List.getElem?_eq_getElem h2,Option.getD_some],h1⟩
theorem lastS_lt {m : StoM} (hb : StoB m) {f : FileM} (hx : ∀ x ∈ f.ext,x.1 + x.2 ≤ m.T.length) (hs : sumN f.ext = needsN f.size) (hz : ¬ f.size % 512 = 0) : lastS m f < m.ds.L.length := by
 obtain ⟨h1,h2,_⟩ := lastS_at (m := m) hs hz
 obtain ⟨x,hm,h3,h4⟩ := secL_mem (List.getElem_mem h1)
 have := hx x hm
 have := hb.ll
 omega
set_option maxRecDepth 100000 in
set_option maxHeartbeats 4000000 in
theorem fappend_any (X : List Nat) (S D Lg M : Nat) (m : StoM) (name data : Bs) (w : World) (h : Sto w X S D Lg M m) (hb : StoB m) (h1 : m.off = false) (h2 : m.ds.off = false) (hn : name.length ≤ maxLen) (hd : data.length ≤ 1099511627776)
  (hsum : ∀ f ∈ m.F,sumN f.ext = needsN f.size) :
  Calls Tryz.prog 16 #[.pointer (some ⟨S,0,none⟩), .string (mk name), .string (mk data)] w (AppendP X S D Lg M m (preA m name data) w) := by
 obtain ⟨ad,hFM,hEX⟩ := h.map
 have KF := find_ok X S D Lg M m ad name w h hFM h1 h2 hn
 have zd := mk_size data
 by_cases hE : findE m.F name = 0
 case neg =>
  have hR : preA m name data = (findE m.F name,none) := by
   unfold preA
   unfold findE at hE ⊢
   cases hg : goodF name with
   | false => rfl
   | true =>
    rw [hg] at hE
    cases hc : fileOf m.F name with
    | none => rfl
    | some f => rw [hc] at hE;exact absurd rfl hE
  have hN : findE m.F name = 9 ∨ findE m.F name = 11 := by
   unfold findE at hE ⊢
   split <;> simp_all
  rw [hR]
  obtain ⟨a,A,k,c,hv⟩ := findV_form ad m.F name
  rw [hv] at KF
  have HST := Lib.hid h
  obtain ⟨NM,hNM⟩ : ∃ q,mk name = q := ⟨_,rfl⟩
  obtain ⟨DT,hDT⟩ : ∃ q,mk data = q := ⟨_,rfl⟩
  obtain ⟨z,hzz⟩ : ∃ q,sizeW m.F name = q := ⟨_,rfl⟩
  obtain ⟨N,hNN⟩ : ∃ q,findE m.F name = q := ⟨_,rfl⟩
  rw [hNM,hzz,hNN] at KF
  rw [hNM,hNN,hDT]
  rw [hNN] at hN
  clear h hb h1 h2 hn hFM hEX hv hNM hzz hNN hE hR hDT zd hd hsum
  rcases hN with rfl | rfl
  all_goals
   go_enter Tryz.func16,Tryz.ntmps16
   go_wp2_with (first | (go_at_call 37;refine KF.mono ?_;rintro e w1 ⟨rfl,hb1⟩;have HB1 := Lib.hid hb1;clear hb1))
   go_ret
   have hbF := HB1.out.alloc HB1.out.size (.cells #[.int .i64 a, .int .i64 (z : Int), .slice A k c] 69)
   exact ⟨fun _ => ⟨rfl,hbF,HST.out.below hbF⟩,fun _ _ _ _ h => by cases h⟩
 case pos =>
  obtain ⟨f,hf,hg⟩ : ∃ f,fileOf m.F name = some f ∧ goodF name = true := by
   unfold findE at hE
   split at hE
   ·rename_i hg
    cases hc : fileOf m.F name with
    | none => rw [hc] at hE;simp at hE
    | some f => exact ⟨f,rfl,hg⟩
   ·cases hE
  have hV : findV ad m.F name = inoV ad f := by unfold findV;rw [if_pos hg,hf];rfl
  have hfm := fileOf_mem hf
  have hfn := fileOf_name hf
  have hPR : preA m name data = if 1048576 < f.size + data.length then (6,none) else if data = [] then (0,none) else
    match takeS m.T (needsN (f.size + data.length) - sumN f.ext) (64 - f.ext.length) with
    | none => (8,none)
    | some (l,T1) => (0,some (T1,appL m f ++ secL (m.most + 7) l,appD m f ++ data,⟨name,f.entry,f.size + data.length,f.ext ++ l⟩)) := by unfold preA;rw [if_neg (by rw [hg];decide),hf]
  have HPR := Lib.hid hPR
  obtain ⟨P,hP⟩ : ∃ q,preA m name data = q := ⟨_,rfl⟩
  rw [hP]
  have HP := Lib.hid hP
  clear hP
  rw [hE,hV] at KF
  obtain ⟨hx1,hx2,hx3⟩ := hEX f hfm
  unfold inoV at KF
  obtain ⟨⟨A,c⟩,hA⟩ : ∃ q,ad f.name = q := ⟨_,rfl⟩
  rw [hA] at KF hx1 hx2 hx3
  dsimp only at KF hx1 hx2 hx3
  have hexb := hb.exb f hfm
  have hexl := hb.exl f hfm
  have hfe := hb.ent f hfm
  have hfz := hb.siz f hfm
  have hfs := hsum f hfm
  have HST := Lib.hid h
  have HBB := Lib.hid hb
  have HF := Lib.hid (And.intro hexb (And.intro hexl (And.intro hfe (And.intro hfz (And.intro hfs (And.intro hfn (goodF_len hg)))))))
  have HLA := Lib.hid (And.intro hx1 (And.intro hx2 hx3))
  have HSLT := Lib.hid (show ∀ x ∈ S :: M :: X,x < w.heap.size from fun x hx => by
    rcases List.mem_cons.1 hx with rfl | hx
    ·exact h.blk.lt
    ·rcases List.mem_cons.1 hx with rfl | hx
     ·exact hFM.lt
     ·exact h.dsk.lt x hx)
  have KS := fun (l : List (Nat × Nat)) (A : Option Addr) (c : Nat) (w5 : World) hS hA (h1 : l.length ≤ 1000) (h2 : ∀ x ∈ l,x.1 + x.2 ≤ m.T.length) (h3 : sumN l ≤ 100000) => sectors_any S m.most A c l w5 hS (by have := hb.mo;omega) hA h1 (fun x hx => by have := h2 x hx;have := hb.tl;omega) (by rw [secL_length];exact h3)
  have HKS := Lib.hid KS
  obtain ⟨NM,hNM⟩ : ∃ q,mk name = q := ⟨_,rfl⟩
  obtain ⟨DT,hDT⟩ : ∃ q,mk data = q := ⟨_,rfl⟩
  obtain ⟨dl,hdl⟩ : ∃ q,data.length = q := ⟨_,rfl⟩
  obtain ⟨xl,hxl⟩ : ∃ q,f.ext.length = q := ⟨_,rfl⟩
  obtain ⟨sz,hsz⟩ : ∃ q,f.size = q := ⟨_,rfl⟩
  obtain ⟨fe,hfeq⟩ : ∃ q,f.entry = q := ⟨_,rfl⟩
  rw [hNM,hsz,hfeq,hxl] at KF
  rw [hDT,hdl] at zd
  rw [hNM,hDT]
  have HNM := Lib.hid hNM
  have HDT := Lib.hid hDT
  have HDL := Lib.hid hdl
  have HXL := Lib.hid hxl
  have HSZ := Lib.hid hsz
  have HFE := Lib.hid hfeq
  have hszb : (sz : Int) ≤ 1048576 := by omega
  have hsz0 : (0 : Int) ≤ (sz : Int) := by omega
  have hdlb : (dl : Int) ≤ 1099511627776 := by omega
  have hdl0 : (0 : Int) ≤ (dl : Int) := by omega
  by_cases hlong : 1048576 < f.size + data.length
  ·have HE : P = (6,none) := by rw [← HP.out,HPR.out,if_pos hlong]
   subst HE
   have hlong2 : (dl : Int) > 1048576 - (sz : Int) := by omega
   clear h hb h1 h2 hn hFM hEX hE hf hg hV hfm hfn hPR hx1 hx2 hx3 hA hexb hexl hfe hfz hfs KS hNM hDT hdl hxl hsz hfeq hlong hsum hd
   go_enter Tryz.func16,Tryz.ntmps16
   go_wp2_with (first | (go_at_call 37;refine KF.mono ?_;rintro e w1 ⟨rfl,hb1⟩;have HB1 := Lib.hid hb1;clear hb1))
   go_ret
   have hbF := HB1.out.alloc HB1.out.size (.cells #[.int .i64 (fe : Int), .int .i64 (sz : Int), .slice A xl c] 69)
   exact ⟨fun _ => ⟨rfl,hbF,HST.out.below hbF⟩,fun _ _ _ _ h => by cases h⟩
  have hlong2 : ¬ ((dl : Int) > 1048576 - (sz : Int)) := by omega
  by_cases hemp : data = []
  ·have HE : P = (0,none) := by rw [← HP.out,HPR.out,if_neg hlong,if_pos hemp]
   subst HE
   subst hemp
   have hDT0 : DT = ⟨#[]⟩ := by rw [← hDT];rfl
   subst hDT0
   clear h hb h1 h2 hn hFM hEX hE hf hg hV hfm hfn hPR hx1 hx2 hx3 hA hexb hexl hfe hfz hfs KS hNM hDT hxl hsz hfeq hlong hsum hd
   go_enter Tryz.func16,Tryz.ntmps16
   go_wp2_with (first | (go_at_call 37;refine KF.mono ?_;rintro e w1 ⟨rfl,hb1⟩;have HB1 := Lib.hid hb1;clear hb1))
   go_ret
   have hbF := HB1.out.alloc HB1.out.size (.cells #[.int .i64 (fe : Int), .int .i64 (sz : Int), .slice A xl c] 69)
   exact ⟨fun _ => ⟨rfl,hbF,HST.out.below hbF⟩,fun _ _ _ _ h => by cases h⟩
  have hnN : sumN f.ext = needsN sz := by rw [hfs,hsz]
  have hn63 : sumN f.ext ≤ 2048 := by rw [hnN];unfold needsN;omega
  have hle : sumN f.ext ≤ needsN (sz + dl) := by rw [hnN];unfold needsN;omega
  have hPR2 : P = match takeS m.T (needsN (sz + dl) - sumN f.ext) (64 - xl) with
    | none => (8,none)
    | some (l,T1) => (0,some (T1,appL m f ++ secL (m.most + 7) l,appD m f ++ data,⟨name,f.entry,f.size + data.length,f.ext ++ l⟩)) := by
   rw [← HP.out,HPR.out,if_neg hlong,if_neg hemp]
   simp only [hsz,hdl,hxl]
  have HPR2 := Lib.hid hPR2
  have KN := fun w1 : World => needs_any (sz + dl) w1 (by omega)
  have KT := fun w1 : World => take_rel m.T (needsN (sz + dl) - sumN f.ext) (64 - xl) w1 hb.tl (by unfold needsN;omega) (by omega)
  have hN1 : needsN (sz + dl) = (sz + dl + 511) / 512 := rfl
  obtain ⟨N1,hN1q⟩ : ∃ q,needsN (sz + dl) = q := ⟨_,rfl⟩
  have hN1b : N1 ≤ 2048 := by rw [← hN1q];unfold needsN;omega
  rw [← hN1,hN1q] at KN
  rw [hN1q] at KT hle
  obtain ⟨n,hnq⟩ : ∃ q,sumN f.ext = q := ⟨_,rfl⟩
  rw [hnq] at KT hnN hn63 hle
  obtain ⟨KK,hKK⟩ : ∃ q,N1 - n = q := ⟨_,rfl⟩
  rw [hKK] at KT
  have hXE : ((64 - xl : Nat) : Int) = 64 - (xl : Int) := by omega
  have hKE : ((KK : Nat) : Int) = (N1 : Int) - (n : Int) := by omega
  rw [hXE,hKE] at KT
  rw [Int.natCast_add] at KN
  unfold spv at KT
  obtain ⟨tl,htl⟩ : ∃ q,m.T.length = q := ⟨_,rfl⟩
  obtain ⟨PB,hPB⟩ : ∃ q,mk (packB m.T) = q := ⟨_,rfl⟩
  rw [htl,hPB] at KT
  have HKN := Lib.hid KN
  have HKT := Lib.hid KT
  have HTK := Lib.hid (show takeS m.T (needsN (sz + dl) - sumN f.ext) (64 - xl) = takeS m.T KK (64 - xl) by rw [hN1q,hnq,hKK])
  have HNUM := Lib.hid (And.intro hnq (And.intro hnN (And.intro hn63 (And.intro hle (And.intro hKK (And.intro hN1q hN1b))))))
  have HTL := Lib.hid htl
  have x2 := fun w1 (hw : Sto w1 X S D Lg M m) => hw.blk.cell 2
  have x3 := fun w1 (hw : Sto w1 X S D Lg M m) => hw.blk.cell 3
  have x5 := fun w1 (hw : Sto w1 X S D Lg M m) => hw.blk.cell 5
  have x0 := fun w1 (hw : Sto w1 X S D Lg M m) => hw.blk.cell 0
  simp only [stoCells,htl,hPB] at x0 x2 x3 x5
  have HX0 := Lib.hid x0
  have HX2 := Lib.hid x2
  have HX3 := Lib.hid x3
  have HX5 := Lib.hid x5
  have HOFF := Lib.hid h2
  have HGD := Lib.hid h.dsk.good
  have HDE : Hid (data ≠ []) := Lib.hid hemp
  have hDT0 : DT.toList.isEmpty = false := by
   rw [← hDT,mk_toList']
   cases hq : data with
   | nil => exact absurd hq hemp
   | cons a t => rfl
  obtain ⟨i90,hi0,hi1,hi2,hi3⟩ := info_parts info90
  have HLI := Lib.hid (show ∀ l : List (Nat × Nat),(∀ x ∈ l,1 ≤ x.2 ∧ x.1 + x.2 ≤ m.T.length ∧ ∀ j,x.1 ≤ j → j < x.1 + x.2 → m.T.getD j true = false) → ∀ i ∈ appL m f ++ secL (m.most + 7) l,i < m.ds.L.length from fun l h i hi => by
   rcases List.mem_append.1 hi with hi | hi
   ·unfold appL at hi
    split at hi
    ·cases hi
    ·rename_i hz
     rw [List.mem_singleton] at hi
     subst hi
     exact lastS_lt hb hexb hfs hz
   ·exact put_secs hb h i hi)
  have HXB2 := Lib.hid (show ∀ l : List (Nat × Nat),(∀ x ∈ l,1 ≤ x.2 ∧ x.1 + x.2 ≤ m.T.length ∧ ∀ j,x.1 ≤ j → j < x.1 + x.2 → m.T.getD j true = false) → ∀ x ∈ f.ext ++ l,x.1 ≤ 4096 ∧ x.2 ≤ 4096 from fun l h x hx => by
   have := hb.tl
   rcases List.mem_append.1 hx with hx | hx
   ·have := hexb x hx;omega
   ·have := (h x hx).2.1;omega)
  have HXB := Lib.hid (show ∀ l : List (Nat × Nat),(∀ x ∈ l,1 ≤ x.2 ∧ x.1 + x.2 ≤ m.T.length ∧ ∀ j,x.1 ≤ j → j < x.1 + x.2 → m.T.getD j true = false) → ∀ x ∈ f.ext ++ l,x.1 ≤ 1099511627776 ∧ x.2 ≤ 1099511627776 from fun l h x hx => by have := HXB2.out l h x hx;omega)
  have mixed := mixedT
  clear h hb h1 h2 hn hFM hEX hE hf hg hV hfm hfn hPR hx1 hx2 hx3 hA hexb hexl hfe hfz hfs KS hNM hDT hdl hxl hsz hfeq hlong hsum hd hemp hPR2 KN KT hXE hKE hN1 hN1q hnq hKK hnN htl hPB x0 x2 x3 x5
  go_enter Tryz.func16,Tryz.ntmps16
  go_upto_region 8 with (first | (go_at_call 37;refine KF.mono ?_;rintro e w1 ⟨rfl,hb1⟩;have HB1 := Lib.hid hb1;clear hb1))
  have hB7 := Blk.new w1 #[.int .i64 (fe : Int), .int .i64 (sz : Int), .slice A xl c] 69
  have hbw := HB1.out.alloc HB1.out.size (.cells #[.int .i64 (fe : Int), .int .i64 (sz : Int), .slice A xl c] 69)
  have hH7 := HB1.out.size
  obtain ⟨H7,hH⟩ : ∃ q,w1.heap.size = q := ⟨_,rfl⟩
  obtain ⟨W1,hW⟩ : ∃ q,w1.alloc (.cells #[.int .i64 (fe : Int), .int .i64 (sz : Int), .slice A xl c] 69) = q := ⟨_,rfl⟩
  rw [hH] at hB7 hH7
  simp only [hW] at hB7 hbw ⊢
  try simp only [hH]
  have hst1 := HST.out.below hbw
  have y5 := HX5.out W1 hst1
  simp at y5
  have KS1 := HKS.out f.ext A c W1 y5 (HLA.out.1.below (Nat.le_refl _) hbw) (by have := HF.out.2.1;omega) HF.out.1 (by have := HNUM.out.1;have := HNUM.out.2.2.1;omega)
  rw [secL_length,HXL.out,HNUM.out.1] at KS1
  have q2 := hB7.cell 2
  have lt7 := hB7.lt
  simp at q2
  have HB7 := Lib.hid hB7
  have HBW := Lib.hid hbw
  have HH7 := Lib.hid hH7
  clear hH hW hB7 hbw hst1 hH7 y5
  go_upto_region 9 with (first | (go_at_call 43;refine KS1.mono ?_;rintro e w2 ⟨⟨A2,c2,rfl,hrow⟩,hb2⟩;have HR2 := Lib.hid (And.intro hrow hb2);clear hrow hb2 KS1 q2 lt7))
  have hst2 := HST.out.below (HBW.out.trans (HR2.out.2.mono HBW.out.size))
  have y0 := HX0.out w2 hst2
  have y2 := HX2.out w2 hst2
  have y3 := HX3.out w2 hst2
  have y5 := HX5.out w2 hst2
  have hB72 := HB7.out.below HR2.out.2
  have z1 := hB72.cell 1
  have z2 := hB72.cell 2
  simp at y0 y2 y3 y5 z1 z2
  have HY := Lib.hid (And.intro y2 (And.intro y3 (And.intro z1 (And.intro z2 (And.intro hst2.blk.lt hB72.lt)))))
  have HB72 := Lib.hid hB72
  have HBW2 := Lib.hid (HBW.out.trans (HR2.out.2.mono HBW.out.size))
  have HST2 := Lib.hid hst2
  clear hst2 y0 y2 y3 y5 hB72 z1 z2
  obtain ⟨W2,hW2⟩ : ∃ q,w2 = q := ⟨_,rfl⟩
  rw [hW2] at HR2 HY HB72 HBW2 HST2 ⊢
  clear hW2
  have wa1 : IntKind.i64.wrap ((sz : Int) + (dl : Int)) = (sz : Int) + (dl : Int) := by simp [IntKind.wrap,IntKind.bits,IntKind.signed];omega
  have wa2 : IntKind.i64.wrap (64 - (xl : Int)) = 64 - (xl : Int) := by have := HF.out.2.1;have := HXL.out;simp [IntKind.wrap,IntKind.bits,IntKind.signed];omega
  have wa3 : IntKind.i64.wrap ((N1 : Int) - (n : Int)) = (N1 : Int) - (n : Int) := by have := HNUM.out;simp [IntKind.wrap,IntKind.bits,IntKind.signed];omega
  go_cut [8,10,11] from 40 to 61 (fun s8 s10 s11 wx => ∃ H11,s11 = .pointer (some ⟨H11,0,none⟩) ∧ W2.heap.size ≤ H11 ∧ Below W2.heap.size W2 wx ∧
   ((takeS m.T KK (64 - xl) = none ∧ s8 = .int .i64 8) ∨ (∃ l T1 A4 c4,takeS m.T KK (64 - xl) = some (l,T1) ∧ s8 = .int .i64 0 ∧ s10 = .slice A4 l.length c4 ∧ Lies wx A4 (ecells l) ∧ Typed wx A4 90 ∧ (∀ g,A4 = some g → W2.heap.size ≤ g.block) ∧ Blk wx H11 #[.int .i64 T1.length, .string (mk (packB T1))] 76)))
  case first =>
   refine wp_region_held (S := fun w' => Below W2.heap.size W2 w') mixed ?_
   change wpAnyH _ _ _ _ _ _ _ _ W2.drew
   have hS0 : Below W2.heap.size W2 W2.drew := (Below.refl _ _).drew
   obtain ⟨W0,hW0⟩ : ∃ q,W2.drew = q := ⟨_,rfl⟩
   rw [hW0] at hS0 ⊢
   clear hW0
   refine tkQ 0 (.pointer (some ⟨S,0,none⟩)) rfl hS0 ?_
   try go_simp
   refine tkQ 1 (.pointer (some ⟨S,0,none⟩)) rfl hS0 ?_
   try go_simp
   refine tkQ 2 (.pointer (some ⟨S,2,none⟩)) rfl hS0 ?_
   try go_simp
   refine tkH 3 (.agg #[.int .i64 (tl : Int), .string PB]) rfl hS0 (fun w' hS => ?_) ?_
   ·have q0 := (hS.cell (p := ⟨S,2,none⟩) HY.out.2.2.2.2.1).trans HY.out.1;have q1 := (hS.cell (p := ⟨S,3,none⟩) HY.out.2.2.2.2.1).trans HY.out.2.1;go_simp
   try go_simp
   refine tkQ 4 (.pointer (some ⟨H7,1,none⟩)) rfl hS0 ?_
   try go_simp
   refine tkH 5 (.int .i64 (sz : Int)) rfl hS0 (fun w' hS => ?_) ?_
   ·have q0 := (hS.cell (p := ⟨H7,1,none⟩) HY.out.2.2.2.2.2).trans HY.out.2.2.1;go_simp
   try go_simp
   refine tkQ 6 (.string DT) rfl hS0 ?_
   try go_simp
   refine tkQ 7 (.int .i64 (dl : Int)) rfl hS0 ?_
   try go_simp
   refine tkQ 8 (.int .i64 ((sz : Int) + (dl : Int))) rfl hS0 ?_
   try go_simp
   refine tkQ 10 (.slice A2 n c2) rfl hS0 ?_
   try go_simp
   refine tkQ 11 (.int .i64 (n : Int)) rfl hS0 ?_
   try go_simp
   refine tkQ 13 (.pointer (some ⟨H7,2,none⟩)) rfl hS0 ?_
   try go_simp
   refine tkH 14 (.slice A xl c) rfl hS0 (fun w' hS => ?_) ?_
   ·have q0 := (hS.cell (p := ⟨H7,2,none⟩) HY.out.2.2.2.2.2).trans HY.out.2.2.2.1;go_simp
   try go_simp
   refine tkQ 15 (.int .i64 (xl : Int)) rfl hS0 ?_
   try go_simp
   refine tkQ 16 (.int .i64 (64 - (xl : Int))) rfl hS0 ?_
   try go_simp
   refine wpAnyH_all (rs := [9,22]) (by kernel_rfl) (by simp) ?_
   intro i hi
   simp only [List.mem_cons,List.not_mem_nil,or_false] at hi
   rcases hi with rfl | rfl
   ·unfold wpOp
    go_simp
    refine .inl ?_
    go_at_call 40
    refine (HKN.out W0).mono ?_
    rintro e w' ⟨rfl,hw⟩
    obtain rfl := hw.symm
    refine ⟨hS0, ?_⟩
    try go_simp
    refine tkQ 12 (.int .i64 ((N1 : Int) - (n : Int))) rfl hS0 ?_
    try go_simp
    refine wpAnyH_all (rs := [17,22]) (by kernel_rfl) (by simp) ?_
    intro i hi
    simp only [List.mem_cons,List.not_mem_nil,or_false] at hi
    rcases hi with rfl | rfl
    ·unfold wpOp
     go_simp
     refine .inl ?_
     go_at_call 39
     refine (HKT.out W0).mono ?_
     rintro e w3 ⟨VA,VN,VP,VE,rfl,htr,hb3⟩
     have hS3 := hS0.trans (hb3.mono hS0.size)
     have HV0 := Lib.hid (htr.low hS0.size)
     refine ⟨hS3, ?_⟩
     try go_simp
     clear hS0 hb3 htr
     refine tkQ 18 (.tuple #[VA, .agg #[.int .i64 VN, .string VP], .int .i64 VE]) rfl hS3 ?_
     try go_simp
     refine tkQ 19 (VA) rfl hS3 ?_
     try go_simp
     refine tkQ 20 (.agg #[.int .i64 VN, .string VP]) rfl hS3 ?_
     try go_simp
     refine tkQ 21 (.int .i64 VE) rfl hS3 ?_
     try go_simp
     refine alH 22 ?_
     unfold wpOp
     go_simp
     have hB11 := Blk.new w3 #[.int .i64 0, .string ⟨#[]⟩] 76
     have hge : W2.heap.size ≤ w3.heap.size := hS3.size
     have hS5 := hS3.alloc hS3.size (.cells #[.int .i64 0, .string ⟨#[]⟩] 76)
     have HV := Lib.hid (HV0.out.below (below_alloc w3 (.cells #[.int .i64 0, .string ⟨#[]⟩] 76)))
     obtain ⟨H11,hH11⟩ : ∃ q,w3.heap.size = q := ⟨_,rfl⟩
     rw [hH11] at hB11 hge
     obtain ⟨w5,hw5⟩ : ∃ q,w3.alloc (.cells #[.int .i64 0, .string ⟨#[]⟩] 76) = q := ⟨_,rfl⟩
     rw [hw5] at hB11 hS5 HV ⊢
     try rw [hH11]
     clear hw5 hH11 hS3 HV0
     rename World => w3
     have hS3 := hS5
     clear hS5
     first | refine .inl ⟨hS3, ?_⟩ | refine ⟨hS3, ?_⟩
     refine tkQ 23 (VA) rfl hS3 ?_
     try go_simp
     refine alH 24 ?_
     unfold wpOp
     have c0 := hB11.cell 0
     have c1 := hB11.cell 1
     have f0 := hB11.frozen 0
     have f1 := hB11.frozen 1
     simp at c0 c1
     have l11 := hB11.lt
     go_simp
     have hB114 := (hB11.set 0 (.int .i64 VN)).set 1 (.string VP)
     have hS4 := below_set (below_set hS3 H11 0 (.int .i64 VN) hge) H11 1 (.string VP) hge
     have hg4 := grown_set2 w3 H11 0 1 (.int .i64 VN) (.string VP)
     obtain ⟨w4,hw4⟩ : ∃ q,(w3.setCell ⟨H11,0,none⟩ (.int .i64 VN)).setCell ⟨H11,1,none⟩ (.string VP) = q := ⟨_,rfl⟩
     rw [hw4] at hB114 hS4 hg4 ⊢
     clear hw4 hS3 c0 c1 f0 f1 l11
     first | refine .inl ⟨hS4, ?_⟩ | refine ⟨hS4, ?_⟩
     refine alH 25 ?_
     unfold wpOp
     go_simp
     first | refine .inl ⟨hS4, ?_⟩ | refine ⟨hS4, ?_⟩ | refine .inl ?_ | skip
     refine wpAnyH_done (by kernel_rfl) ?_ _
     go_wp2_with fail
     go_meet
     refine ⟨H11,rfl,hge,hS4, ?_⟩
     rcases HV.out with ⟨h0,rfl,rfl,rfl,rfl⟩ | ⟨l,T1,A4,c4,h0,rfl,rfl,rfl,rfl,h1,h2,h3⟩
     ·exact .inl ⟨h0,rfl⟩
     ·obtain ⟨h4,h5⟩ := h1.grown h2 hg4 (fun g e => by cases e;exact ⟨_,76,_,hB11,by decide⟩)
      exact .inr ⟨l,T1,A4,c4,h0,rfl,rfl,h4,h5,h3,hB114⟩
    ·skip
     unfold wpOp
     go_simp
     have hB11 := Blk.new W0 #[.int .i64 0, .string ⟨#[]⟩] 76
     have hge : W2.heap.size ≤ W0.heap.size := hS0.size
     have hS3 := hS0.alloc hS0.size (.cells #[.int .i64 0, .string ⟨#[]⟩] 76)
     obtain ⟨H11,hH11⟩ : ∃ q,W0.heap.size = q := ⟨_,rfl⟩
     rw [hH11] at hB11 hge
     obtain ⟨w3,hw3⟩ : ∃ q,W0.alloc (.cells #[.int .i64 0, .string ⟨#[]⟩] 76) = q := ⟨_,rfl⟩
     rw [hw3] at hB11 hS3 ⊢
     try rw [hH11]
     clear hw3 hH11 hS0
     first | refine .inl ⟨hS3, ?_⟩ | refine ⟨hS3, ?_⟩
     refine alH 17 ?_
     unfold wpOp
     go_simp
     refine .inl ?_
     go_at_call 39
     refine (HKT.out w3).mono ?_
     rintro e w5 ⟨VA,VN,VP,VE,rfl,htr,hb3⟩
     have hS5 := hS3.trans (hb3.mono hS3.size)
     have HV := Lib.hid (htr.low hS3.size)
     have hB15 := hB11.below hb3
     refine ⟨hS5, ?_⟩
     try go_simp
     clear hS3 hb3 htr hB11
     rename World => w3
     have hS3 := hS5
     have hB11 := hB15
     clear hS5 hB15
     refine tkQ 18 (.tuple #[VA, .agg #[.int .i64 VN, .string VP], .int .i64 VE]) rfl hS3 ?_
     try go_simp
     refine tkQ 19 (VA) rfl hS3 ?_
     try go_simp
     refine tkQ 20 (.agg #[.int .i64 VN, .string VP]) rfl hS3 ?_
     try go_simp
     refine tkQ 21 (.int .i64 VE) rfl hS3 ?_
     try go_simp
     refine tkQ 23 (VA) rfl hS3 ?_
     try go_simp
     refine alH 24 ?_
     unfold wpOp
     have c0 := hB11.cell 0
     have c1 := hB11.cell 1
     have f0 := hB11.frozen 0
     have f1 := hB11.frozen 1
     simp at c0 c1
     have l11 := hB11.lt
     go_simp
     have hB114 := (hB11.set 0 (.int .i64 VN)).set 1 (.string VP)
     have hS4 := below_set (below_set hS3 H11 0 (.int .i64 VN) hge) H11 1 (.string VP) hge
     have hg4 := grown_set2 w3 H11 0 1 (.int .i64 VN) (.string VP)
     obtain ⟨w4,hw4⟩ : ∃ q,(w3.setCell ⟨H11,0,none⟩ (.int .i64 VN)).setCell ⟨H11,1,none⟩ (.string VP) = q := ⟨_,rfl⟩
     rw [hw4] at hB114 hS4 hg4 ⊢
     clear hw4 hS3 c0 c1 f0 f1 l11
     first | refine .inl ⟨hS4, ?_⟩ | refine ⟨hS4, ?_⟩
     refine alH 25 ?_
     unfold wpOp
     go_simp
     first | refine .inl ⟨hS4, ?_⟩ | refine ⟨hS4, ?_⟩ | refine .inl ?_ | skip
     refine wpAnyH_done (by kernel_rfl) ?_ _
     go_wp2_with fail
     go_meet
     refine ⟨H11,rfl,hge,hS4, ?_⟩
     rcases HV.out with ⟨h0,rfl,rfl,rfl,rfl⟩ | ⟨l,T1,A4,c4,h0,rfl,rfl,rfl,rfl,h1,h2,h3⟩
     ·exact .inl ⟨h0,rfl⟩
     ·obtain ⟨h4,h5⟩ := h1.grown h2 hg4 (fun g e => by cases e;exact ⟨_,76,_,hB11,by decide⟩)
      exact .inr ⟨l,T1,A4,c4,h0,rfl,rfl,h4,h5,h3,hB114⟩
   ·skip
    unfold wpOp
    go_simp
    have hB11 := Blk.new W0 #[.int .i64 0, .string ⟨#[]⟩] 76
    have hge : W2.heap.size ≤ W0.heap.size := hS0.size
    have hS3 := hS0.alloc hS0.size (.cells #[.int .i64 0, .string ⟨#[]⟩] 76)
    obtain ⟨H11,hH11⟩ : ∃ q,W0.heap.size = q := ⟨_,rfl⟩
    rw [hH11] at hB11 hge
    obtain ⟨w3,hw3⟩ : ∃ q,W0.alloc (.cells #[.int .i64 0, .string ⟨#[]⟩] 76) = q := ⟨_,rfl⟩
    rw [hw3] at hB11 hS3 ⊢
    try rw [hH11]
    clear hw3 hH11 hS0
    first | refine .inl ⟨hS3, ?_⟩ | refine ⟨hS3, ?_⟩
    refine alH 9 ?_
    unfold wpOp
    go_simp
    refine .inl ?_
    go_at_call 40
    refine (HKN.out w3).mono ?_
    rintro e w' ⟨rfl,hw⟩
    obtain rfl := hw.symm
    refine ⟨hS3, ?_⟩
    try go_simp
    refine tkQ 12 (.int .i64 ((N1 : Int) - (n : Int))) rfl hS3 ?_
    try go_simp
    refine alH 17 ?_
    unfold wpOp
    go_simp
    refine .inl ?_
    go_at_call 39
    refine (HKT.out w3).mono ?_
    rintro e w5 ⟨VA,VN,VP,VE,rfl,htr,hb3⟩
    have hS5 := hS3.trans (hb3.mono hS3.size)
    have HV := Lib.hid (htr.low hS3.size)
    have hB15 := hB11.below hb3
    refine ⟨hS5, ?_⟩
    try go_simp
    clear hS3 hb3 htr hB11
    rename World => w3
    have hS3 := hS5
    have hB11 := hB15
    clear hS5 hB15
    refine tkQ 18 (.tuple #[VA, .agg #[.int .i64 VN, .string VP], .int .i64 VE]) rfl hS3 ?_
    try go_simp
    refine tkQ 19 (VA) rfl hS3 ?_
    try go_simp
    refine tkQ 20 (.agg #[.int .i64 VN, .string VP]) rfl hS3 ?_
    try go_simp
    refine tkQ 21 (.int .i64 VE) rfl hS3 ?_
    try go_simp
    refine tkQ 23 (VA) rfl hS3 ?_
    try go_simp
    refine alH 24 ?_
    unfold wpOp
    have c0 := hB11.cell 0
    have c1 := hB11.cell 1
    have f0 := hB11.frozen 0
    have f1 := hB11.frozen 1
    simp at c0 c1
    have l11 := hB11.lt
    go_simp
    have hB114 := (hB11.set 0 (.int .i64 VN)).set 1 (.string VP)
    have hS4 := below_set (below_set hS3 H11 0 (.int .i64 VN) hge) H11 1 (.string VP) hge
    have hg4 := grown_set2 w3 H11 0 1 (.int .i64 VN) (.string VP)
    obtain ⟨w4,hw4⟩ : ∃ q,(w3.setCell ⟨H11,0,none⟩ (.int .i64 VN)).setCell ⟨H11,1,none⟩ (.string VP) = q := ⟨_,rfl⟩
    rw [hw4] at hB114 hS4 hg4 ⊢
    clear hw4 hS3 c0 c1 f0 f1 l11
    first | refine .inl ⟨hS4, ?_⟩ | refine ⟨hS4, ?_⟩
    refine alH 25 ?_
    unfold wpOp
    go_simp
    first | refine .inl ⟨hS4, ?_⟩ | refine ⟨hS4, ?_⟩ | refine .inl ?_ | skip
    refine wpAnyH_done (by kernel_rfl) ?_ _
    go_wp2_with fail
    go_meet
    refine ⟨H11,rfl,hge,hS4, ?_⟩
    rcases HV.out with ⟨h0,rfl,rfl,rfl,rfl⟩ | ⟨l,T1,A4,c4,h0,rfl,rfl,rfl,rfl,h1,h2,h3⟩
    ·exact .inl ⟨h0,rfl⟩
    ·obtain ⟨h4,h5⟩ := h1.grown h2 hg4 (fun g e => by cases e;exact ⟨_,76,_,hB11,by decide⟩)
     exact .inr ⟨l,T1,A4,c4,h0,rfl,rfl,h4,h5,h3,hB114⟩
  case rest =>
   rename World => wx
   obtain ⟨H11,rfl,hge,hbx,hr⟩ := hcut
   have hbF := HBW2.out.trans (hbx.mono HBW2.out.size)
   rcases hr with ⟨h0,rfl⟩ | ⟨l,T1,A4,c4,h0,rfl,rfl,hL4,hT4,hG4,hB11⟩
   ·have HE : P = (8,none) := by rw [HPR2.out,HTK.out,h0]
    subst HE
    have HBF := Lib.hid hbF
    clear h0 hbF hge hbx
    go_wp2
    go_ret
    exact ⟨fun _ => ⟨rfl,HBF.out,HST.out.below HBF.out⟩,fun _ _ _ _ h => by cases h⟩
   have HE : P = (0,some (T1,appL m f ++ secL (m.most + 7) l,appD m f ++ data,⟨name,f.entry,f.size + data.length,f.ext ++ l⟩)) := by rw [HPR2.out,HTK.out,h0]
   subst HE
   obtain ⟨hl1,hl2,hl3,hl4,hl5,_⟩ := takeS_facts h0
   have HTF := Lib.hid (And.intro hl1 (And.intro hl3 (And.intro hl4 hl5)))
   have hstx := HST2.out.below hbx
   have y5 := HX5.out wx hstx
   simp at y5
   have KS2 := HKS.out l A4 c4 wx y5 hL4 (by omega) (fun x hx => (hl3 x hx).2.1) (by have := HNUM.out;omega)
   rw [secL_length,hl5] at KS2
   obtain ⟨ll,hll⟩ : ∃ q,l.length = q := ⟨_,rfl⟩
   rw [hll] at KS2 ⊢
   have HLL := Lib.hid hll
   have HWX := Lib.hid (And.intro hge (And.intro hbx (And.intro hL4 (And.intro hT4 (And.intro hG4 (And.intro hB11 hbF))))))
   clear h0 hl1 hl2 hl3 hl4 hl5 hstx y5 hll hge hbx hL4 hT4 hG4 hB11 hbF
   go_upto_region 13 with (first | (go_at_call 43;(with_reducible refine KS2.mono ?_);rintro e w3 ⟨⟨A5,c5,rfl,hrow⟩,hb3⟩;have HR3 := Lib.hid (And.intro hrow hb3);clear hrow hb3 KS2))
   have hb03 := HWX.out.2.2.2.2.2.2.trans (HR3.out.2.mono HWX.out.2.2.2.2.2.2.size)
   have hb23 := HWX.out.2.1.trans (HR3.out.2.mono HWX.out.2.1.size)
   have hB73 := HB72.out.below hb23
   have z1 := hB73.cell 1
   have zl := hB73.lt
   have zf := hB73.frozen 1
   simp at z1
   have HB73 := Lib.hid hB73
   have HW3 := Lib.hid (And.intro (HWX.out.2.2.1.below (Nat.le_refl _) HR3.out.2) (And.intro (HWX.out.2.2.2.1.below HR3.out.2) (And.intro (HWX.out.2.2.2.2.2.1.below HR3.out.2) (And.intro hb03 (And.intro (Lies.of_row HR3.out.1) (Typed.of_row HR3.out.1))))))
   have HA5 := Lib.hid (show ∀ g,A5 = some g → w.heap.size ≤ g.block from fun g hg => Nat.le_trans HWX.out.2.2.2.2.2.2.size (own_ge HR3.out.1 g hg))
   clear hb03 hb23 hB73
   have hrem : (sz : Int).tmod 512 = ((sz % 512 : Nat) : Int) := by rw [Int.tmod_eq_emod_of_nonneg (by omega)];omega
   rcases Nat.eq_zero_or_pos (sz % 512) with hr | hr
   ·rw [hr] at hrem
    go_upto_region 22 with (fail)
    obtain ⟨ZZ,hZZ⟩ : ∃ q,(sz : Int) + (dl : Int) = q := ⟨_,rfl⟩
    try simp only [hZZ]
    have hgT := grown_set w3 H7 1 (.int .i64 ZZ)
    have hB7T := HB73.out.set 1 (.int .i64 ZZ)
    have hB11T : Blk (w3.setCell ⟨H7,1,none⟩ (.int .i64 ZZ)) H11 #[.int .i64 T1.length, .string (mk (packB T1))] 76 := HW3.out.2.2.1.grown hgT (by have := HWX.out.1;have := HY.out.2.2.2.2.2;simp;omega)
    have hbT := below_set HW3.out.2.2.2.1 H7 1 (.int .i64 ZZ) HH7.out
    obtain ⟨hL6T,hT6T⟩ := HW3.out.2.2.2.2.1.grown HW3.out.2.2.2.2.2 hgT (fun g e => by cases e;exact ⟨_,69,_,HB73.out,by decide⟩)
    obtain ⟨hL4T,hT4T⟩ := HW3.out.1.grown HW3.out.2.1 hgT (fun g e => by cases e;exact ⟨_,69,_,HB73.out,by decide⟩)
    obtain ⟨WT,hWT⟩ : ∃ q,w3.setCell ⟨H7,1,none⟩ (.int .i64 ZZ) = q := ⟨_,rfl⟩
    simp only [hWT] at hB7T hB11T hbT hL6T hT6T hL4T hT4T ⊢
    have HZZ := Lib.hid (show ((f.size + data.length : Nat) : Int) = ZZ by rw [← hZZ,HSZ.out,HDL.out];omega)
    obtain ⟨A6,hA6⟩ : ∃ q,A5 = q := ⟨_,rfl⟩
    obtain ⟨c6,hc6⟩ : ∃ q,c5 = q := ⟨_,rfl⟩
    have hL0 : appL m f = [] := by unfold appL;rw [HSZ.out,if_pos hr]
    have hD0 : appD m f = [] := by unfold appD;rw [HSZ.out,if_pos hr]
    obtain ⟨L,hL⟩ : ∃ q,secL (m.most + 7) l = q := ⟨_,rfl⟩
    obtain ⟨dt,hdt⟩ : ∃ q,data = q := ⟨_,rfl⟩
    have HT22 := Lib.hid (show Blk WT H7 #[.int .i64 (fe : Int), .int .i64 ZZ, .slice A xl c] 69 ∧ Blk WT H11 #[.int .i64 T1.length, .string (mk (packB T1))] 76 ∧ Below w.heap.size w WT ∧ Lies WT A6 (ncells L) ∧ Typed WT A6 3 ∧ (∀ g,A6 = some g → w.heap.size ≤ g.block) ∧ Lies WT A4 (ecells l) ∧ Typed WT A4 90 from
     ⟨hB7T,hB11T,hbT,by rw [← hA6, ← hL];exact hL6T,by rw [← hA6];exact hT6T,by rw [← hA6];exact HA5.out,hL4T,hT4T⟩)
    have HNL := Lib.hid (show L = appL m f ++ secL (m.most + 7) l ∧ L.length = KK ∧ dt = appD m f ++ data ∧ KK ≤ 2049 ∧ dt.length ≤ 1000000000 from ⟨by rw [hL0,List.nil_append,hL],by rw [← hL,secL_length,HTF.out.2.2.2],by rw [hD0,List.nil_append,hdt],by have := HNUM.out;omega,by rw [← hdt,HDL.out];omega⟩)
    have hdd := HDT.out
    rw [hdt] at hdd
    rw [hA6,hc6, ← hdd]
    clear hgT hB7T hB11T hbT hL6T hT6T hL4T hT4T hZZ hWT hA6 hc6 hL0 hD0 hL hdt hdd z1 zl zf
    have KC := clone_ext A f.ext c WT (by have := HF.out.2.1;omega) (HLA.out.1.below (Nat.le_refl _) HT22.out.2.2.1)
    rw [HXL.out] at KC
    have y2 := HT22.out.1.cell 2
    have lt7 := HT22.out.1.lt
    simp at y2
    go_upto_region 23 with (first
     | (go_at_call 44;(with_reducible refine KC.mono ?_);rintro e w5 ⟨A7,c7,rfl,hrow7,hb7⟩;have HR7 := Lib.hid (And.intro hrow7 hb7);clear hrow7 hb7 KC)
     | (at_builtin;refine wpList_app rfl (.tmp 112) (.tmp 113) 67 90 rfl i90 _ 2 16 Tryz.underlying67 hi0 hi1 hi2 hi3 rfl (by decide) WT.heap.size _ rfl xl (ecells f.ext) HR7.out.1 A4 ll c4 rfl (ecells l) (by rw [ecells_length,HLL.out]) (HT22.out.2.2.2.2.2.2.1.below (Nat.le_refl _) HR7.out.2) (ecells_one l) (by have := HF.out.2.1;have := HXL.out;have := HTF.out.1;have := HLL.out;omega) (by decide) HR7.out.2.size ?_;intro A8 c8 w6 hrow8 hg8;have hB76 := (HT22.out.1.below HR7.out.2).grown hg8 (fun e => by have := (HR7.out.1.lt H7 e).1;omega);have lt76 := hB76.lt;have z0 := hB76.frozen 2;have z1 := hB76.cell 2;simp at z1;have HR8 := Lib.hid (And.intro hrow8 (And.intro hg8 hB76));clear hrow8 hg8 hB76))
    have hg9 := grown_set w6 H7 2 (.slice A8 (xl + ll) c8)
    have hnb : ∀ k,(Value.slice A7 xl c7).ownBlock = some k → w.heap.size ≤ k := fun k hk => Nat.le_trans HT22.out.2.2.1.size (HR7.out.1.lt k hk).1
    have hB79 := HR8.out.2.2.set 2 (.slice A8 (xl + ll) c8)
    have hB119 : Blk (w6.setCell ⟨H7,2,none⟩ (.slice A8 (xl + ll) c8)) H11 #[.int .i64 T1.length, .string (mk (packB T1))] 76 := ((HT22.out.2.1.below HR7.out.2).grown HR8.out.2.1 (fun e => by have := (HR7.out.1.lt H11 e).1;have := HT22.out.2.1.lt;omega)).grown hg9 (by have := HWX.out.1;have := HY.out.2.2.2.2.2;simp;omega)
    have hbT6 := (HT22.out.2.2.1.trans (HR7.out.2.mono HT22.out.2.2.1.size)).grown HR8.out.2.1 (Nat.le_trans HT22.out.2.2.1.size HR7.out.2.size) hnb
    have hbT9 := below_set hbT6 H7 2 (.slice A8 (xl + ll) c8) HH7.out
    obtain ⟨hL85,hT85⟩ := (Lies.of_row HR8.out.1).grown (Typed.of_row HR8.out.1) hg9 (fun g e => by cases e;exact ⟨_,69,_,HR8.out.2.2,by decide⟩)
    obtain ⟨hL65,hT65⟩ := (HT22.out.2.2.2.1.below (Nat.le_refl _) HR7.out.2).grown (HT22.out.2.2.2.2.1.below HR7.out.2) HR8.out.2.1 (fun g hg => by obtain ⟨c',fr,hc⟩ := row_kind HR7.out.1 g hg;exact ⟨c',90,fr,hc,by decide⟩)
    obtain ⟨hL69,hT69⟩ := hL65.grown hT65 hg9 (fun g e => by cases e;exact ⟨_,69,_,HR8.out.2.2,by decide⟩)
    have hA8 : ∀ g,A8 = some g → w.heap.size ≤ g.block := fun g hg => Nat.le_trans HT22.out.2.2.1.size (own_ge HR8.out.1 g hg)
    rw [← ecells_app] at hL85
    have KP := put_any' X S D Lg M m ⟨name,f.entry,f.size + data.length,f.ext ++ l⟩ A8 c8 T1 A6 c6 (appL m f ++ secL (m.most + 7) l) (appD m f ++ data) _ (HST.out.below hbT9) hL85 hT85 (fun g hg hx => by have q1 := hA8 g hg;have q2 := HSLT.out _ (List.mem_cons_of_mem _ (List.mem_cons_of_mem _ hx));omega) (by rw [← HNL.out.1];exact hL69) (fun g hg hx => by have q1 := HT22.out.2.2.2.2.2.1 g hg;have q2 := HSLT.out _ (List.mem_cons_of_mem _ (List.mem_cons_of_mem _ hx));omega) (HLI.out l HTF.out.2.1) (by rw [← HNL.out.1,HNL.out.2.1];have := HNL.out.2.2.2.1;omega) (by rw [← HNL.out.2.2.1];have := HNL.out.2.2.2.2;omega) HTF.out.2.2.1 (by rw [HTF.out.2.2.1];exact HBB.out.tl) HF.out.2.2.1 HF.out.2.2.2.2.2.2 (by show f.size + data.length ≤ _;rw [HSZ.out,HDL.out];omega) (by have := HF.out.2.1;have := HTF.out.1;have := HXL.out;simp;omega) (HXB.out l HTF.out.2.1) (bodyB_len _ _ _ HF.out.2.2.2.2.2.2 (by show f.size + data.length ≤ _;rw [HSZ.out,HDL.out];omega) (by have := HF.out.2.1;have := HTF.out.1;have := HXL.out;simp;omega) (fun x hx => by have h1 := HXB2.out l HTF.out.2.1 x hx;omega)) HBB.out.len HBB.out.mo (by have := HBB.out.ll;omega) (by have := HBB.out.sl;omega)
    unfold spv at KP
    dsimp only at KP
    rw [List.length_append,HXL.out,HLL.out,HFE.out, ← HNL.out.1,HNL.out.2.1, ← HNL.out.2.2.1] at KP
    rw [show ((f.size + data.length : Nat) : Int) = ZZ from HZZ.out] at KP
    have hnm := HNM.out
    rw [hnm] at KP
    obtain ⟨t1,ht1⟩ : ∃ q,T1.length = q := ⟨_,rfl⟩
    obtain ⟨PB1,hPB1⟩ : ∃ q,mk (packB T1) = q := ⟨_,rfl⟩
    rw [ht1,hPB1] at KP hB119
    obtain ⟨DT3,hDT3⟩ : ∃ q,mk dt = q := ⟨_,rfl⟩
    rw [hDT3] at KP ⊢
    have HBT := Lib.hid hbT6
    have HBT9 := Lib.hid hbT9
    have x0 := hB79.cell 0
    have x1 := hB79.cell 1
    have x2 := hB79.cell 2
    have x3 := hB119.cell 0
    have x4 := hB119.cell 1
    simp at x0 x1 x2 x3 x4
    have l79 := hB79.lt
    have l119 := hB119.lt
    clear hg9 hnb hB79 hB119 hbT6 hbT9 hL85 hT85 hL65 hT65 hL69 hT69 hA8 hnm ht1 hPB1 hDT3 y2 lt7 lt76 z0 z1
    go_wp2_with (first
     | (go_at_call 42;refine KP.mono ?_;intro e W10 hp;have HPP := Lib.hid hp;obtain ⟨rfl,X1,hM,_⟩ := hp;clear hM KP))
    go_ret
    exact ⟨fun h => by (cases h),fun T2' L' dt' f' h => by (cases h;have e1 := HNL.out.1;have e2 := HNL.out.2.2.1;have e3 := HFE.out;subst e1 e2 e3;exact HPP.out.from HBT9.out)⟩
   ·have hz' : ¬ f.size % 512 = 0 := by rw [HSZ.out];omega
    obtain ⟨hlt,hls,hn1⟩ := lastS_at (m := m) HF.out.2.2.2.2.1 hz'
    have hsl0 := lastS_lt HBB.out HF.out.1 HF.out.2.2.2.2.1 hz'
    have hb23 := HWX.out.2.1.trans (HR3.out.2.mono HWX.out.2.1.size)
    obtain ⟨g2,o2,hA2,hg2,hc2⟩ := (Lies.of_row HR2.out.1).below (Nat.le_refl _) hb23 (by rw [ncells_length,secL_length];omega)
    have d0 := hc2 _ _ (ncells_at _ _ hlt)
    rw [← hls] at d0
    have KR := read_any X D m.ds (lastS m f) w3 (HST.out.below HW3.out.2.2.2.1).dsk hsl0 HOFF.out
    change Calls _ _ _ _ (fun e w' => e = .returned (.tuple #[.string (mk (secAt m.ds.vis (lastS m f))), .int .i64 0]) ∧ w' = w3) at KR
    have hvl := vis_sec HGD.out _ hsl0
    obtain ⟨k,hk⟩ : ∃ k,n = k + 1 := ⟨n - 1,by have := HNUM.out.1;omega⟩
    rw [show sumN f.ext - 1 = k by have := HNUM.out.1;omega] at d0
    obtain ⟨LS,hLS⟩ : ∃ q,lastS m f = q := ⟨_,rfl⟩
    rw [hLS] at d0 KR hvl
    obtain ⟨r,hrr⟩ : ∃ q,sz % 512 = q := ⟨_,rfl⟩
    rw [hrr] at hr hrem
    have hD1 : appD m f = (secAt m.ds.vis LS).take r := by unfold appD;rw [if_neg hz',hLS,HSZ.out,hrr]
    have hL1 : appL m f = [LS] := by unfold appL;rw [if_neg hz',hLS]
    obtain ⟨V,hV⟩ : ∃ q,secAt m.ds.vis LS = q := ⟨_,rfl⟩
    rw [hV] at KR hvl hD1
    have hr5 : r ≤ 512 := by omega
    have hrsz : r ≤ sz := by have := Nat.mod_le sz 512;omega
    have hsl := fun (w : World) => run_slice_string_h (P := Tryz.prog) (w := w) (t := 9) (s := mk V) Tryz.underlying9 .i64 (r : Int) (by omega) (by rw [mk_size,hvl];omega)
    have e1 : (mk V).extract 0 (r : Int).toNat = mk (appD m f) := by
     have := ext_mk' (mk V) 0 r
     rw [Nat.zero_add,mk_data,List.drop_zero] at this
     rw [Int.toNat_natCast,this,hD1]
    rw [e1] at hsl
    have hdl2 : (appD m f).length = r := by rw [hD1,List.length_take,hvl];omega
    obtain ⟨TV,hTV⟩ : ∃ q,mk V = q := ⟨_,rfl⟩
    rw [hTV] at KR hsl
    have y0 := HX0.out w3 (HST.out.below HW3.out.2.2.2.1)
    simp at y0
    have hSl := (HST.out.below HW3.out.2.2.2.1).blk.lt
    have hadd : (mk (appD m f)).size + dl ≤ 9223372036854775807 := by rw [mk_size,hdl2];omega
    have HP1 := Lib.hid (And.intro hL1 (And.intro hdl2 (And.intro hrsz hr5)))
    have HSLI := Lib.hid hsl
    have hrp : (0 : Int) < (r : Int) := by omega
    subst hA2
    subst hk
    clear hz' hlt hls hn1 hsl0 hb23 hg2 hc2 hLS hrr hD1 hL1 hV hrsz hr5 hsl e1 hdl2 hTV hvl hr
    go_upto_region 19 with (first
     | (go_at_call 33;(with_reducible refine KR.mono ?_);rintro e w4 ⟨rfl,hw⟩;obtain rfl := hw.symm;clear KR))
    obtain ⟨i3,hj0,hj1,hj2,hj3⟩ := info_parts info3
    refine wp_region_held (S := fun w' => Below w3.heap.size w3 w') mixed ?_
    change wpAnyH _ _ _ _ _ _ _ _ w3.drew
    have hS0 : Below w3.heap.size w3 w3.drew := (Below.refl _ _).drew
    obtain ⟨W0,hW0⟩ : ∃ q,w3.drew = q := ⟨_,rfl⟩
    rw [hW0] at hS0 ⊢
    clear hW0
    refine tkQ 0 (.int .i64 (LS : Int)) rfl hS0 ?_
    try go_simp
    refine tkQ 2 (.slice A5 KK c5) rfl hS0 ?_
    try go_simp
    refine tkQ 4 (.string TV) rfl hS0 ?_
    try go_simp
    refine tkQ 5 (.int .i64 (r : Int)) rfl hS0 ?_
    try go_simp
    refine tkH 6 (.string (mk (appD m f))) rfl hS0 (fun w' hS => ?_) ?_
    ·have hsl := HSLI.out w';go_simp
    try go_simp
    refine tkQ 7 (.string DT) rfl hS0 ?_
    try go_simp
    refine tkQ 8 (.string (mk (appD m f) ++ DT)) rfl hS0 ?_
    try go_simp
    refine alH 1 ?_
    unfold wpOp
    go_simp
    have hN := own_new (w := W0.alloc (.cells #[.int .i64 (LS : Int)] 3)) (B := w3.heap.size) (g := W0.heap.size) (c := 1) (e := 3) (cs := [.int .i64 (LS : Int)]) (size := 1) (n := 1) (by simpa using heap_alloc_new W0 (.cells #[.int .i64 (LS : Int)] 3)) hS0.size rfl rfl (by omega)
    have hS1 := hS0.alloc hS0.size (.cells #[.int .i64 (LS : Int)] 3)
    have hGE : w3.heap.size ≤ W0.heap.size := hS0.size
    have hLx := HW3.out.2.2.2.2.1.below (Nat.le_refl _) hS1
    obtain ⟨GZ,hGZ⟩ : ∃ q,W0.heap.size = q := ⟨_,rfl⟩
    rw [hGZ] at hN hGE
    obtain ⟨w5,hw5⟩ : ∃ q,W0.alloc (.cells #[.int .i64 (LS : Int)] 3) = q := ⟨_,rfl⟩
    rw [hw5] at hN hS1 hLx ⊢
    try rw [hGZ]
    clear hw5 hGZ hS0
    first | refine .inl ⟨hS1, ?_⟩ | refine ⟨hS1, ?_⟩
    refine alH 3 ?_
    refine wpOp_of rfl rfl (wp_app (P := Tryz.prog) (.tmp 91) (.tmp 92) 58 3 rfl i3 _ 1 8 Tryz.underlying58 hj0 hj1 hj2 hj3 (by rfl) (by decide) w3.heap.size _ (by rfl) 1 [.int .i64 (LS : Int)] hN A5 KK c5 (by rfl) (ncells (secL (m.most + 7) l)) (by rw [ncells_length,secL_length,HTF.out.2.2.2];simp) hLx (by intro v hv;simp [ncells] at hv;obtain ⟨x,_,rfl⟩ := hv;rfl) (by have := HNUM.out;omega) (by decide) hS1.size ?_)
    intro A6 c6 w6 hr6 hg6
    have hS2 := hS1.grown hg6 hS1.size (fun q hq => by cases hq;exact hGE)
    refine ⟨hS2, ?_⟩
    try go_simp
    refine tkQ 9 (.slice A6 (1 + KK) c6) rfl hS2 ?_
    try go_simp
    refine tkQ 10 (.string (mk (appD m f) ++ DT)) rfl hS2 ?_
    try go_simp
    refine wpAnyH_done (by kernel_rfl) ?_ _
    have hB76 := HB73.out.below hS2
    have x1 := hB76.cell 1
    have f1 := hB76.frozen 1
    have l7 := hB76.lt
    simp at x1
    have HR6 := Lib.hid (And.intro hr6 (And.intro hS2 hB76))
    obtain ⟨DT2,hDT2⟩ : ∃ q,mk (appD m f) ++ DT = q := ⟨_,rfl⟩
    simp only [hDT2]
    have zd2 : DT2.size = (appD m f ++ data).length := by rw [← hDT2, ← HDT.out,mk_app,mk_size]
    rw [List.length_append,HP1.out.2.1,HDL.out] at zd2
    obtain ⟨e2,he2⟩ : ∃ q,r + dl = q := ⟨_,rfl⟩
    rw [he2] at zd2
    have HE2 := Lib.hid (And.intro he2 hDT2)
    have wb1 : IntKind.i64.wrap ((sz : Int) - (r : Int)) = (sz : Int) - (r : Int) := by have := HP1.out;simp [IntKind.wrap,IntKind.bits,IntKind.signed];omega
    have wb2 : IntKind.i64.wrap ((sz : Int) - (r : Int) + (e2 : Int)) = (sz : Int) - (r : Int) + (e2 : Int) := by have := HP1.out;simp [IntKind.wrap,IntKind.bits,IntKind.signed];omega
    clear hr6 hS2 hS1 hN hLx hg6 hGE hB76 he2 hDT2 hadd y0 hSl d0
    go_upto_region 22 with (fail)
    have hgT := grown_set2 w6 H7 1 1 (.int .i64 ((sz : Int) - (r : Int))) (.int .i64 ((sz : Int) - (r : Int) + (e2 : Int)))
    have hB7T := (HR6.out.2.2.set 1 (.int .i64 ((sz : Int) - (r : Int)))).set 1 (.int .i64 ((sz : Int) - (r : Int) + (e2 : Int)))
    have hB11T := (HW3.out.2.2.1.below HR6.out.2.1).grown hgT (by have := HWX.out.1;have := HY.out.2.2.2.2.2;simp;omega)
    have hbT := below_set (below_set (HW3.out.2.2.2.1.trans (HR6.out.2.1.mono HW3.out.2.2.2.1.size)) H7 1 (.int .i64 ((sz : Int) - (r : Int))) HH7.out) H7 1 (.int .i64 ((sz : Int) - (r : Int) + (e2 : Int))) HH7.out
    obtain ⟨hL6T,hT6T⟩ := (Lies.of_row HR6.out.1).grown (Typed.of_row HR6.out.1) hgT (fun g e => by cases e;exact ⟨_,69,_,HR6.out.2.2,by decide⟩)
    obtain ⟨hL4T,hT4T⟩ := (HW3.out.1.below (Nat.le_refl _) HR6.out.2.1).grown (HW3.out.2.1.below HR6.out.2.1) hgT (fun g e => by cases e;exact ⟨_,69,_,HR6.out.2.2,by decide⟩)
    obtain ⟨ZZ,hZZ⟩ : ∃ q,(sz : Int) - (r : Int) + (e2 : Int) = q := ⟨_,rfl⟩
    try simp only [hZZ]
    rw [hZZ] at hB7T hB11T hbT hL6T hT6T hL4T hT4T
    obtain ⟨WT,hWT⟩ : ∃ q,(w6.setCell ⟨H7,1,none⟩ (.int .i64 ((sz : Int) - (r : Int)))).setCell ⟨H7,1,none⟩ (.int .i64 ZZ) = q := ⟨_,rfl⟩
    rw [hWT] at hB7T hB11T hbT hL6T hT6T hL4T hT4T ⊢
    have HZZ := Lib.hid (show ((f.size + data.length : Nat) : Int) = ZZ by have := HE2.out.1;have := HP1.out;rw [← hZZ,HSZ.out,HDL.out];omega)
    obtain ⟨L,hL⟩ : ∃ q,appL m f ++ secL (m.most + 7) l = q := ⟨_,rfl⟩
    obtain ⟨dt,hdt⟩ : ∃ q,appD m f ++ data = q := ⟨_,rfl⟩
    obtain ⟨LL,hLL⟩ : ∃ q,1 + KK = q := ⟨_,rfl⟩
    rw [hLL]
    have hcl : [Value.int .i64 (LS : Int)] ++ ncells (secL (m.most + 7) l) = ncells L := by rw [← hL,HP1.out.1];rfl
    rw [hcl] at hL6T
    have HT22 := Lib.hid (show Blk WT H7 #[.int .i64 (fe : Int), .int .i64 ZZ, .slice A xl c] 69 ∧ Blk WT H11 #[.int .i64 T1.length, .string (mk (packB T1))] 76 ∧ Below w.heap.size w WT ∧ Lies WT A6 (ncells L) ∧ Typed WT A6 3 ∧ (∀ g,A6 = some g → w.heap.size ≤ g.block) ∧ Lies WT A4 (ecells l) ∧ Typed WT A4 90 from
     ⟨hB7T,hB11T,hbT,hL6T,hT6T,fun g hg => Nat.le_trans HW3.out.2.2.2.1.size (own_ge HR6.out.1 g hg),hL4T,hT4T⟩)
    have HNL := Lib.hid (show L = appL m f ++ secL (m.most + 7) l ∧ L.length = LL ∧ dt = appD m f ++ data ∧ LL ≤ 2049 ∧ dt.length ≤ 1000000000 from ⟨hL.symm,by rw [← hL,HP1.out.1,List.length_append,secL_length,HTF.out.2.2.2, ← hLL];rfl,hdt.symm,by have := HNUM.out;omega,by rw [← hdt,List.length_append,HP1.out.2.1,HDL.out];have := HP1.out;omega⟩)
    have hdd : DT2 = mk dt := by rw [← HE2.out.2, ← HDT.out,mk_app,hdt]
    rw [hdd]
    clear hgT hB7T hB11T hbT hL6T hT6T hL4T hT4T hZZ hWT hL hdt hdd hLL hcl z1 zl zf x1 f1 l7 zd2 wb1 wb2
    have KC := clone_ext A f.ext c WT (by have := HF.out.2.1;omega) (HLA.out.1.below (Nat.le_refl _) HT22.out.2.2.1)
    rw [HXL.out] at KC
    have y2 := HT22.out.1.cell 2
    have lt7 := HT22.out.1.lt
    simp at y2
    go_upto_region 23 with (first
     | (go_at_call 44;(with_reducible refine KC.mono ?_);rintro e w5 ⟨A7,c7,rfl,hrow7,hb7⟩;have HR7 := Lib.hid (And.intro hrow7 hb7);clear hrow7 hb7 KC)
     | (at_builtin;refine wpList_app rfl (.tmp 112) (.tmp 113) 67 90 rfl i90 _ 2 16 Tryz.underlying67 hi0 hi1 hi2 hi3 rfl (by decide) WT.heap.size _ rfl xl (ecells f.ext) HR7.out.1 A4 ll c4 rfl (ecells l) (by rw [ecells_length,HLL.out]) (HT22.out.2.2.2.2.2.2.1.below (Nat.le_refl _) HR7.out.2) (ecells_one l) (by have := HF.out.2.1;have := HXL.out;have := HTF.out.1;have := HLL.out;omega) (by decide) HR7.out.2.size ?_;intro A8 c8 w6 hrow8 hg8;have hB76 := (HT22.out.1.below HR7.out.2).grown hg8 (fun e => by have := (HR7.out.1.lt H7 e).1;omega);have lt76 := hB76.lt;have z0 := hB76.frozen 2;have z1 := hB76.cell 2;simp at z1;have HR8 := Lib.hid (And.intro hrow8 (And.intro hg8 hB76));clear hrow8 hg8 hB76))
    have hg9 := grown_set w6 H7 2 (.slice A8 (xl + ll) c8)
    have hnb : ∀ k,(Value.slice A7 xl c7).ownBlock = some k → w.heap.size ≤ k := fun k hk => Nat.le_trans HT22.out.2.2.1.size (HR7.out.1.lt k hk).1
    have hB79 := HR8.out.2.2.set 2 (.slice A8 (xl + ll) c8)
    have hB119 : Blk (w6.setCell ⟨H7,2,none⟩ (.slice A8 (xl + ll) c8)) H11 #[.int .i64 T1.length, .string (mk (packB T1))] 76 := ((HT22.out.2.1.below HR7.out.2).grown HR8.out.2.1 (fun e => by have := (HR7.out.1.lt H11 e).1;have := HT22.out.2.1.lt;omega)).grown hg9 (by have := HWX.out.1;have := HY.out.2.2.2.2.2;simp;omega)
    have hbT6 := (HT22.out.2.2.1.trans (HR7.out.2.mono HT22.out.2.2.1.size)).grown HR8.out.2.1 (Nat.le_trans HT22.out.2.2.1.size HR7.out.2.size) hnb
    have hbT9 := below_set hbT6 H7 2 (.slice A8 (xl + ll) c8) HH7.out
    obtain ⟨hL85,hT85⟩ := (Lies.of_row HR8.out.1).grown (Typed.of_row HR8.out.1) hg9 (fun g e => by cases e;exact ⟨_,69,_,HR8.out.2.2,by decide⟩)
    obtain ⟨hL65,hT65⟩ := (HT22.out.2.2.2.1.below (Nat.le_refl _) HR7.out.2).grown (HT22.out.2.2.2.2.1.below HR7.out.2) HR8.out.2.1 (fun g hg => by obtain ⟨c',fr,hc⟩ := row_kind HR7.out.1 g hg;exact ⟨c',90,fr,hc,by decide⟩)
    obtain ⟨hL69,hT69⟩ := hL65.grown hT65 hg9 (fun g e => by cases e;exact ⟨_,69,_,HR8.out.2.2,by decide⟩)
    have hA8 : ∀ g,A8 = some g → w.heap.size ≤ g.block := fun g hg => Nat.le_trans HT22.out.2.2.1.size (own_ge HR8.out.1 g hg)
    rw [← ecells_app] at hL85
    have KP := put_any' X S D Lg M m ⟨name,f.entry,f.size + data.length,f.ext ++ l⟩ A8 c8 T1 A6 c6 (appL m f ++ secL (m.most + 7) l) (appD m f ++ data) _ (HST.out.below hbT9) hL85 hT85 (fun g hg hx => by have q1 := hA8 g hg;have q2 := HSLT.out _ (List.mem_cons_of_mem _ (List.mem_cons_of_mem _ hx));omega) (by rw [← HNL.out.1];exact hL69) (fun g hg hx => by have q1 := HT22.out.2.2.2.2.2.1 g hg;have q2 := HSLT.out _ (List.mem_cons_of_mem _ (List.mem_cons_of_mem _ hx));omega) (HLI.out l HTF.out.2.1) (by rw [← HNL.out.1,HNL.out.2.1];have := HNL.out.2.2.2.1;omega) (by rw [← HNL.out.2.2.1];have := HNL.out.2.2.2.2;omega) HTF.out.2.2.1 (by rw [HTF.out.2.2.1];exact HBB.out.tl) HF.out.2.2.1 HF.out.2.2.2.2.2.2 (by show f.size + data.length ≤ _;rw [HSZ.out,HDL.out];omega) (by have := HF.out.2.1;have := HTF.out.1;have := HXL.out;simp;omega) (HXB.out l HTF.out.2.1) (bodyB_len _ _ _ HF.out.2.2.2.2.2.2 (by show f.size + data.length ≤ _;rw [HSZ.out,HDL.out];omega) (by have := HF.out.2.1;have := HTF.out.1;have := HXL.out;simp;omega) (fun x hx => by have h1 := HXB2.out l HTF.out.2.1 x hx;omega)) HBB.out.len HBB.out.mo (by have := HBB.out.ll;omega) (by have := HBB.out.sl;omega)
    unfold spv at KP
    dsimp only at KP
    rw [List.length_append,HXL.out,HLL.out,HFE.out, ← HNL.out.1,HNL.out.2.1, ← HNL.out.2.2.1] at KP
    rw [show ((f.size + data.length : Nat) : Int) = ZZ from HZZ.out] at KP
    have hnm := HNM.out
    rw [hnm] at KP
    obtain ⟨t1,ht1⟩ : ∃ q,T1.length = q := ⟨_,rfl⟩
    obtain ⟨PB1,hPB1⟩ : ∃ q,mk (packB T1) = q := ⟨_,rfl⟩
    rw [ht1,hPB1] at KP hB119
    obtain ⟨DT3,hDT3⟩ : ∃ q,mk dt = q := ⟨_,rfl⟩
    rw [hDT3] at KP ⊢
    have HBT := Lib.hid hbT6
    have HBT9 := Lib.hid hbT9
    have x0 := hB79.cell 0
    have x1 := hB79.cell 1
    have x2 := hB79.cell 2
    have x3 := hB119.cell 0
    have x4 := hB119.cell 1
    simp at x0 x1 x2 x3 x4
    have l79 := hB79.lt
    have l119 := hB119.lt
    clear hg9 hnb hB79 hB119 hbT6 hbT9 hL85 hT85 hL65 hT65 hL69 hT69 hA8 hnm ht1 hPB1 hDT3 y2 lt7 lt76 z0 z1
    go_wp2_with (first
     | (go_at_call 42;refine KP.mono ?_;intro e W10 hp;have HPP := Lib.hid hp;obtain ⟨rfl,X1,hM,_⟩ := hp;clear hM KP))
    go_ret
    exact ⟨fun h => by (cases h),fun T2' L' dt' f' h => by (cases h;have e1 := HNL.out.1;have e2 := HNL.out.2.2.1;have e3 := HFE.out;subst e1 e2 e3;exact HPP.out.from HBT9.out)⟩
open Go.RowKit Go.Maps
def renF (f : FileM) (t : Bs) : FileM := ⟨t,f.entry,f.size,f.ext⟩
def preN (m : StoM) (name dest : Bs) : Nat × Option (List Bool × List (Nat × Bs) × List FileM) :=
 if goodF name = false ∨ goodF dest = false then (11,none) else match fileOf m.F name with
 | none => (9,none)
 | some f => if name = dest then (0,none) else match fileOf m.F dest with
  | none => (0,some (m.T,[(f.entry,entryB dest f.size f.ext)],putF (delF m.F name) (renF f dest)))
  | some g => match turnS false m.T g.ext with
   | none => (14,none)
   | some T2 => (0,some (T2,two2 f.entry (entryB dest f.size f.ext) g.entry [],putF (delF m.F name) (renF f dest)))
def RenameP (X : List Nat) (S D Lg M : Nat) (m : StoM) (p : Nat × Option (List Bool × List (Nat × Bs) × List FileM)) (w : World) (e : Ending) (w' : World) : Prop :=
 (p.2 = none → e = .returned (.int .i64 (p.1 : Nat)) ∧ Below w.heap.size w w' ∧ Sto w' X S D Lg M m) ∧
 ∀ T2 C F2,p.2 = some (T2,C,F2) → RemP X S D Lg M m T2 F2 C w e w'
theorem wpList_mapUpd {P : Program} {ops : Array Oper} {rest : List Oper} {Q : Exit → Act → World → Prop} {a : Act} {w w' : World} {o : Oper} (hg : o.guard = none) (t : TypeId) (m x v : Operand) (hop : o.op = .mapUpdate t m x v) (mv kv vv : Value)
  (hm : a.eval m = mv) (hx : a.eval x = kv) (hv : a.eval v = vv) (hrun : (Instr.mapUpdate t mv kv vv).run P w = .ok () w') (hK : wpList P ops Q rest (a.put o.dst undef) w') : wpList P ops Q (o :: rest) a w := by
 refine wpList_plain hg fun K' hK' => ?_
 unfold Oper.wp
 simp [execOp,hop,hm,hx,hv,hrun,Result.andThen]
 exact hK' _ _ hK
theorem entry_inj : ∀ {F : List FileM},(F.map (·.entry)).Nodup → ∀ {f g : FileM},f ∈ F → g ∈ F → f.entry = g.entry → f = g
 | [],_,_,_,h,_,_ => by cases h
 | a :: F,hnd,f,g,hf,hg,he => by
  rw [List.map_cons,List.nodup_cons] at hnd
  rcases List.mem_cons.1 hf with e1 | hf
  ·rcases List.mem_cons.1 hg with e2 | hg
   ·rw [e1,e2]
   ·exact absurd (show a.entry ∈ F.map (·.entry) from List.mem_map.2 ⟨g,hg,by rw [← he,e1]⟩) hnd.1
  ·rcases List.mem_cons.1 hg with e2 | hg
   ·exact absurd (show a.entry ∈ F.map (·.entry) from List.mem_map.2 ⟨f,hf,by rw [he,e2]⟩) hnd.1
   ·exact entry_inj hnd.2 hf hg he
theorem lies_grownM {w w' : World} {A : Option Addr} {xs : List Value} {e : TypeId} {r : Option Nat} (h : Lies w A xs) (ht : Typed w A e) (hg : w.grownBy w' r) (hr : ∀ g,r = some g → ∀ c fr,w.heap[g]? ≠ some (.cells c e fr)) : Lies w' A xs ∧ Typed w' A e := by
 refine ⟨fun h0 => ?_,fun a ha => ?_⟩
 ·obtain ⟨g,o,he,hl,hc⟩ := h h0
  obtain ⟨cs,fr,hh⟩ := ht _ he
  have := hg.block g hl (fun e2 => hr g e2.symm cs fr hh)
  exact ⟨g,o,he,Nat.lt_of_lt_of_le hl hg.size,fun j u hu => (World.cell?_of_block (a := ⟨g,o + j,none⟩) this).trans (hc j u hu)⟩
 ·obtain ⟨cs,fr,hh⟩ := ht a ha
  exact ⟨cs,fr,(hg.block _ (Array.getElem?_eq_some_iff.1 hh).1 (fun e2 => hr _ e2.symm cs fr hh)).trans hh⟩
set_option maxRecDepth 100000 in
set_option maxHeartbeats 4000000 in
theorem frename_any (X : List Nat) (S D Lg M : Nat) (m : StoM) (name dest : Bs) (w : World) (h : Sto w X S D Lg M m) (hb : StoB m) (h1 : m.off = false) (h2 : m.ds.off = false) (hn : name.length ≤ maxLen) (hn2 : dest.length ≤ maxLen) (hent : (m.F.map (·.entry)).Nodup) :
  Calls Tryz.prog 20 #[.pointer (some ⟨S,0,none⟩), .string (mk name), .string (mk dest)] w (RenameP X S D Lg M m (preN m name dest) w) := by
 obtain ⟨ad,hFM,hEX⟩ := h.map
 have KRD := ready_ok X S D Lg M m w h h1 h2
 have KG1 := fun w1 => good_any name w1 (by unfold maxLen at hn;omega)
 have KG2 := fun w1 => good_any dest w1 (by unfold maxLen at hn2;omega)
 have HST := Lib.hid h
 obtain ⟨P,hP⟩ : ∃ q,preN m name dest = q := ⟨_,rfl⟩
 rw [hP]
 by_cases hgg : goodF name = false ∨ goodF dest = false
 ·have HE : P = (11,none) := by rw [← hP];unfold preN;rw [if_pos hgg]
  subst HE
  obtain ⟨NM,hNM⟩ : ∃ q,mk name = q := ⟨_,rfl⟩
  obtain ⟨DM,hDM⟩ : ∃ q,mk dest = q := ⟨_,rfl⟩
  rw [hNM] at KG1 ⊢
  rw [hDM] at KG2 ⊢
  rcases hgg with hg | hg
  ·rw [hg] at KG1
   clear h hb h1 h2 hn hn2 hFM hEX hP hNM hDM hg hent KG2
   go_enter Tryz.func20,Tryz.ntmps20
   go_wp2_with (first
    | (go_at_call 48;refine KRD.mono ?_;rintro e w1 ⟨rfl,hw⟩;obtain rfl := hw.symm;clear KRD)
    | (go_at_call 11;refine (KG1 _).mono ?_;rintro e w1 ⟨rfl,hb1⟩;have HB1 := Lib.hid hb1;clear hb1 KG1))
   go_ret
   exact ⟨fun _ => ⟨rfl,HB1.out,HST.out.below HB1.out⟩,fun _ _ _ h => by cases h⟩
  ·rw [hg] at KG2
   cases hg1 : goodF name with
   | false =>
    rw [hg1] at KG1
    clear h hb h1 h2 hn hn2 hFM hEX hP hNM hDM hg hg1 hent KG2
    go_enter Tryz.func20,Tryz.ntmps20
    go_wp2_with (first
     | (go_at_call 48;refine KRD.mono ?_;rintro e w1 ⟨rfl,hw⟩;obtain rfl := hw.symm;clear KRD)
     | (go_at_call 11;refine (KG1 _).mono ?_;rintro e w1 ⟨rfl,hb1⟩;have HB1 := Lib.hid hb1;clear hb1 KG1))
    go_ret
    exact ⟨fun _ => ⟨rfl,HB1.out,HST.out.below HB1.out⟩,fun _ _ _ h => by cases h⟩
   | true =>
    rw [hg1] at KG1
    clear h hb h1 h2 hn hn2 hFM hEX hP hNM hDM hg hg1 hent
    go_enter Tryz.func20,Tryz.ntmps20
    go_wp2_with (first
     | (go_at_call 48;refine KRD.mono ?_;rintro e w1 ⟨rfl,hw⟩;obtain rfl := hw.symm;clear KRD)
     | (go_at_call 11;(with_reducible refine (KG1 _).mono ?_);rintro e w1 ⟨rfl,hb1⟩;have HB1 := Lib.hid hb1;clear hb1 KG1)
     | (go_at_call 11;(with_reducible refine (KG2 _).mono ?_);rintro e w2 ⟨rfl,hb2⟩;have HB2 := Lib.hid (HB1.out.trans (hb2.mono HB1.out.size));clear hb2 KG2))
    go_ret
    exact ⟨fun _ => ⟨rfl,HB2.out,HST.out.below HB2.out⟩,fun _ _ _ h => by cases h⟩
 have hg1 : goodF name = true := by cases hq : goodF name with
  | true => rfl
  | false => exact absurd (.inl hq) hgg
 have hg2 : goodF dest = true := by cases hq : goodF dest with
  | true => rfl
  | false => exact absurd (.inr hq) hgg
 rw [hg1] at KG1
 rw [hg2] at KG2
 have KF := fun (w1 : World) (hb1 : Below w.heap.size w w1) => find_ok X S D Lg M m ad name w1 (h.below hb1) (hFM.block (hb1.block M hFM.lt)) h1 h2 hn
 unfold preN at hP
 rw [if_neg hgg] at hP
 cases hf : fileOf m.F name with
 | none =>
  have HE : P = (9,none) := by rw [← hP,hf]
  subst HE
  have hV : findV ad m.F name = inoZ ∧ findE m.F name = 9 := by unfold findV findE;rw [if_pos hg1,if_pos hg1,hf];exact ⟨rfl,rfl⟩
  rw [hV.1,hV.2] at KF
  unfold inoZ at KF
  obtain ⟨NM,hNM⟩ : ∃ q,mk name = q := ⟨_,rfl⟩
  obtain ⟨DM,hDM⟩ : ∃ q,mk dest = q := ⟨_,rfl⟩
  rw [hNM] at KG1 KF ⊢
  rw [hDM] at KG2 ⊢
  have HKF := Lib.hid KF
  clear h hb h1 h2 hn hn2 hFM hEX hP hNM hDM hg1 hg2 hgg hent hf hV KF
  go_enter Tryz.func20,Tryz.ntmps20
  go_wp2_with (first
   | (go_at_call 48;refine KRD.mono ?_;rintro e w1 ⟨rfl,hw⟩;obtain rfl := hw.symm;clear KRD)
   | (go_at_call 11;(with_reducible refine (KG1 _).mono ?_);rintro e w1 ⟨rfl,hb1⟩;have HB1 := Lib.hid hb1;clear hb1 KG1)
   | (go_at_call 11;(with_reducible refine (KG2 _).mono ?_);rintro e w2 ⟨rfl,hb2⟩;have HB2 := Lib.hid (HB1.out.trans (hb2.mono HB1.out.size));have KF2 := HKF.out w2 HB2.out;clear hb2 KG2)
   | (go_at_call 37;refine KF2.mono ?_;rintro e w3 ⟨rfl,hb3⟩;have HB3 := Lib.hid (HB2.out.trans (hb3.mono HB2.out.size));clear hb3 KF2))
  go_ret
  have hbF := HB3.out.alloc HB3.out.size (.cells #[.int .i64 0, .int .i64 0, .slice none 0 0] 69)
  exact ⟨fun _ => ⟨rfl,hbF,HST.out.below hbF⟩,fun _ _ _ h => by cases h⟩
 | some f =>
  rw [hf] at hP
  dsimp only at hP
  have hfm := fileOf_mem hf
  have hV : findV ad m.F name = inoV ad f ∧ findE m.F name = 0 := by unfold findV findE;rw [if_pos hg1,if_pos hg1,hf];exact ⟨rfl,rfl⟩
  rw [hV.1,hV.2] at KF
  obtain ⟨hx1,hx2,hx3⟩ := hEX f hfm
  unfold inoV at KF
  obtain ⟨⟨A,c⟩,hA⟩ : ∃ q,ad f.name = q := ⟨_,rfl⟩
  rw [hA] at KF hx1 hx2 hx3
  dsimp only at KF hx1 hx2 hx3
  by_cases hnd : name = dest
  ·have HE : P = (0,none) := by rw [← hP,if_pos hnd]
   subst HE
   subst hnd
   obtain ⟨fe,hfe⟩ : ∃ q,f.entry = q := ⟨_,rfl⟩
   obtain ⟨sz,hsz⟩ : ∃ q,f.size = q := ⟨_,rfl⟩
   obtain ⟨xl,hxl⟩ : ∃ q,f.ext.length = q := ⟨_,rfl⟩
   rw [hfe,hsz,hxl] at KF
   obtain ⟨NM,hNM⟩ : ∃ q,mk name = q := ⟨_,rfl⟩
   rw [hNM] at KG1 KF KG2 ⊢
   have HKF := Lib.hid KF
   clear h hb h1 h2 hn hn2 hFM hEX hP hNM hg1 hg2 hgg hent hf hV KF hfm hx1 hx2 hx3 hA hfe hsz hxl
   go_enter Tryz.func20,Tryz.ntmps20
   go_wp2_with (first
    | (go_at_call 48;refine KRD.mono ?_;rintro e w1 ⟨rfl,hw⟩;obtain rfl := hw.symm;clear KRD)
    | (go_at_call 11;(with_reducible refine (KG1 _).mono ?_);rintro e w1 ⟨rfl,hb1⟩;have HB1 := Lib.hid hb1;clear hb1 KG1)
    | (go_at_call 11;(with_reducible refine (KG2 _).mono ?_);rintro e w2 ⟨rfl,hb2⟩;have HB2 := Lib.hid (HB1.out.trans (hb2.mono HB1.out.size));have KF2 := HKF.out w2 HB2.out;clear hb2 KG2)
    | (go_at_call 37;refine KF2.mono ?_;rintro e w3 ⟨rfl,hb3⟩;have HB3 := Lib.hid (HB2.out.trans (hb3.mono HB2.out.size));clear hb3 KF2))
   go_ret
   have hbF := HB3.out.alloc HB3.out.size (.cells #[.int .i64 (fe : Int), .int .i64 (sz : Int), .slice A xl c] 69)
   exact ⟨fun _ => ⟨rfl,hbF,HST.out.below hbF⟩,fun _ _ _ h => by cases h⟩
  rw [if_neg hnd] at hP
  have HP := Lib.hid hP
  have hfn := fileOf_name hf
  have hexb := hb.exb f hfm
  have hexl := hb.exl f hfm
  have hfe0 := hb.ent f hfm
  have hfz := hb.siz f hfm
  have htl := hb.tl
  have hbl := bodyB_len dest f.size f.ext (goodF_len hg2) hfz hexl (fun x hx => by have := hexb x hx;omega)
  have hel : (entryB dest f.size f.ext).length ≤ 512 := by unfold entryB;rw [full_length _ (by rw [List.length_append,sumB_length];omega)];omega
  have KE := fun w1 hA1 hT1 hw1 => entry_any dest f.entry f.size A c f.ext w1 hA1 (by omega) (by omega) (fun x hx => by have := hexb x hx;omega) hbl hT1 hw1
  have HEN := Lib.hid hent
  have HFM := Lib.hid (And.intro hFM hEX)
  have HND := Lib.hid hnd
  have HBB := Lib.hid hb
  have HF := Lib.hid (And.intro hf (And.intro hfm (And.intro hfn (And.intro hexb (And.intro hexl (And.intro hfe0 (And.intro hfz hel)))))))
  have HLA := Lib.hid (And.intro hx1 (And.intro hx2 hx3))
  have HNN := Lib.hid (And.intro hn hn2)
  have HSLT := Lib.hid (show ∀ x ∈ S :: M :: X,x < w.heap.size from fun x hx => by
    rcases List.mem_cons.1 hx with rfl | hx
    ·exact h.blk.lt
    ·rcases List.mem_cons.1 hx with rfl | hx
     ·exact hFM.lt
     ·exact h.dsk.lt x hx)
  have hne : (mk name).toList ≠ (mk dest).toList := by rw [mk_toList',mk_toList'];exact hnd
  obtain ⟨fe,hfe⟩ : ∃ q,f.entry = q := ⟨_,rfl⟩
  obtain ⟨sz,hsz⟩ : ∃ q,f.size = q := ⟨_,rfl⟩
  obtain ⟨xl,hxl⟩ : ∃ q,f.ext.length = q := ⟨_,rfl⟩
  obtain ⟨EB,hEB⟩ : ∃ q,entryB dest f.size f.ext = q := ⟨_,rfl⟩
  rw [hfe,hsz,hxl] at KF
  rw [hEB,hfe,hsz,hxl] at KE
  obtain ⟨ES,hES⟩ : ∃ q,mk EB = q := ⟨_,rfl⟩
  rw [hES] at KE
  obtain ⟨NM,hNM⟩ : ∃ q,mk name = q := ⟨_,rfl⟩
  obtain ⟨DM,hDM⟩ : ∃ q,mk dest = q := ⟨_,rfl⟩
  rw [hNM] at KG1 KF hne ⊢
  rw [hDM] at KG2 KE hne ⊢
  have HEB := Lib.hid (And.intro hEB hES)
  have HFE := Lib.hid (And.intro hfe (And.intro hsz hxl))
  have HNM := Lib.hid (And.intro hNM hDM)
  have HFEB := Lib.hid (show fe ≤ 1000000 by have := hb.mo;omega)
  have hne2 : (NM.toList == DM.toList) = false := beq_eq_false_iff_ne.2 hne
  have HKF := Lib.hid KF
  have HKE := Lib.hid KE
  have mixed := mixedT
  clear h hb h1 h2 hn hn2 hFM hEX hP hNM hDM hg1 hg2 hgg hent hf hV KF hfm hx1 hx2 hx3 hA hfe hsz hxl hnd hfn hexb hexl hfe0 hfz htl hbl hel KE hne hEB hES
  go_enter Tryz.func20,Tryz.ntmps20
  go_upto_region 9 with (first
    | (go_at_call 48;refine KRD.mono ?_;rintro e w1 ⟨rfl,hw⟩;obtain rfl := hw.symm;clear KRD)
    | (go_at_call 11;(with_reducible refine (KG1 _).mono ?_);rintro e w1 ⟨rfl,hb1⟩;have HB1 := Lib.hid hb1;clear hb1 KG1)
    | (go_at_call 11;(with_reducible refine (KG2 _).mono ?_);rintro e w2 ⟨rfl,hb2⟩;have HB2 := Lib.hid (HB1.out.trans (hb2.mono HB1.out.size));have KF2 := HKF.out w2 HB2.out;clear hb2 KG2)
    | (go_at_call 37;refine KF2.mono ?_;rintro e w3 ⟨rfl,hb3⟩;have HB3 := Lib.hid (HB2.out.trans (hb3.mono HB2.out.size));clear hb3 KF2))
  have hB8 := Blk.new w3 #[.int .i64 (fe : Int), .int .i64 (sz : Int), .slice A xl c] 69
  have hbw := HB3.out.alloc HB3.out.size (.cells #[.int .i64 (fe : Int), .int .i64 (sz : Int), .slice A xl c] 69)
  have hH8 := HB3.out.size
  obtain ⟨H8,hH⟩ : ∃ q,w3.heap.size = q := ⟨_,rfl⟩
  obtain ⟨W1,hW⟩ : ∃ q,w3.alloc (.cells #[.int .i64 (fe : Int), .int .i64 (sz : Int), .slice A xl c] 69) = q := ⟨_,rfl⟩
  rw [hH] at hB8 hH8
  simp only [hW] at hB8 hbw ⊢
  try simp only [hH]
  have HB8 := Lib.hid hB8
  have HBW := Lib.hid hbw
  have HH8 := Lib.hid hH8
  have HST1 := Lib.hid (HST.out.below hbw)
  have HLA1 := Lib.hid (HLA.out.1.below (Nat.le_refl _) hbw)
  clear hH hW hB8 hbw hH8
  go_cut [10] from 42 to 48 (fun s10 wx => ∃ Mc,s10 = .map (some Mc) ∧ CM wx Mc [(fe,EB)] ∧ W1.heap.size ≤ Mc ∧ Below W1.heap.size W1 wx)
  case first =>
   refine wp_region_held (S := fun w' => Below W1.heap.size W1 w') mixed ?_
   change wpAnyH _ _ _ _ _ _ _ _ W1.drew
   have hS0 : Below W1.heap.size W1 W1.drew := (Below.refl _ _).drew
   obtain ⟨W0,hW0⟩ : ∃ q,W1.drew = q := ⟨_,rfl⟩
   rw [hW0] at hS0 ⊢
   clear hW0
   have HY := Lib.hid (And.intro (HB8.out.cell 0) (And.intro (HB8.out.cell 1) (And.intro (HB8.out.cell 2) HB8.out.lt)))
   refine tkQ 1 (.pointer (some ⟨H8,0,none⟩)) rfl hS0 ?_
   try go_simp
   refine tkH 2 (.int .i64 (fe : Int)) rfl hS0 (fun w' hS => ?_) ?_
   ·have q0 := (hS.cell (p := ⟨H8,0,none⟩) HY.out.2.2.2).trans HY.out.1;simp at q0;go_simp
   try go_simp
   refine tkQ 3 (.string DM) rfl hS0 ?_
   try go_simp
   refine tkH 4 (.agg #[.int .i64 (fe : Int), .int .i64 (sz : Int), .slice A xl c]) rfl hS0 (fun w' hS => ?_) ?_
   ·have q0 := (hS.cell (p := ⟨H8,0,none⟩) HY.out.2.2.2).trans HY.out.1;have q1 := (hS.cell (p := ⟨H8,1,none⟩) HY.out.2.2.2).trans HY.out.2.1;have q2 := (hS.cell (p := ⟨H8,2,none⟩) HY.out.2.2.2).trans HY.out.2.2.1;simp at q0 q1 q2;go_simp
   try go_simp
   refine wpAnyH_all (rs := [0,5]) (by kernel_rfl) (by simp) ?_
   intro i hi
   simp only [List.mem_cons,List.not_mem_nil,or_false] at hi
   rcases hi with rfl | rfl
   ·unfold wpOp
    have hmm := @run_makeMap Tryz.prog
    go_simp
    clear hmm
    have hcm := CM.made W0
    have hge : W1.heap.size ≤ W0.heap.size := hS0.size
    have hS1 := hS0.alloc hS0.size (.map #[] 0)
    obtain ⟨Mc,hMc⟩ : ∃ q,W0.heap.size = q := ⟨_,rfl⟩
    rw [hMc] at hcm hge
    obtain ⟨W2,hW2⟩ : ∃ q,W0.alloc (.map #[] 0) = q := ⟨_,rfl⟩
    rw [hW2] at hcm hS1 ⊢
    try rw [hMc]
    clear hW2 hMc hS0
    first | refine .inl ⟨hS1, ?_⟩ | refine ⟨hS1, ?_⟩
    refine alH 5 ?_
    unfold wpOp
    go_simp
    refine .inl ?_
    go_at_call 49
    refine (HKE.out W2 (HLA1.out.below (Nat.le_refl _) hS1) ((HST1.out.below hS1).tb) ((HST1.out.below hS1).pos)).mono ?_
    rintro e W3 ⟨rfl,hbe⟩
    have hS2 := hS1.trans (hbe.mono hS1.size)
    have hcm2 := hcm.block (hbe.block Mc hcm.lt)
    refine ⟨hS2, ?_⟩
    try go_simp
    clear hS1 hcm hbe
    obtain ⟨W4,hrun4,hcm4,hg4⟩ := hcm2.one fe EB HFEB.out
    rw [HEB.out.2] at hrun4
    have hS4 := hS2.grown hg4 hS2.size (fun g e => by cases e;exact hge)
    refine alH 6 ?_
    refine wpOp_insert rfl rfl 102 (.tmp 42) (.tmp 44) (.tmp 47) rfl _ _ _ (by rfl) (by rfl) (by rfl) hrun4 ?_
    refine ⟨hS4, ?_⟩
    clear hrun4 hS2 hcm2
    refine tkQ 7 (.map (some Mc)) rfl hS4 ?_
    try go_simp
    refine tkQ 8 (.map (some Mc)) rfl hS4 ?_
    try go_simp
    refine wpAnyH_done (by kernel_rfl) ?_ _
    go_wp2_with fail
    go_meet
    exact ⟨Mc,rfl,hcm4,hge,hS4⟩
   ·unfold wpOp
    go_simp
    refine .inl ?_
    go_at_call 49
    refine (HKE.out W0 (HLA1.out.below (Nat.le_refl _) hS0) ((HST1.out.below hS0).tb) ((HST1.out.below hS0).pos)).mono ?_
    rintro e W2 ⟨rfl,hbe⟩
    have hS1 := hS0.trans (hbe.mono hS0.size)
    refine ⟨hS1, ?_⟩
    try go_simp
    clear hS0 hbe
    refine alH 0 ?_
    unfold wpOp
    have hmm := @run_makeMap Tryz.prog
    go_simp
    clear hmm
    have hcm2 := CM.made W2
    have hge : W1.heap.size ≤ W2.heap.size := hS1.size
    have hS2 := hS1.alloc hS1.size (.map #[] 0)
    obtain ⟨Mc,hMc⟩ : ∃ q,W2.heap.size = q := ⟨_,rfl⟩
    rw [hMc] at hcm2 hge
    obtain ⟨W3,hW3⟩ : ∃ q,W2.alloc (.map #[] 0) = q := ⟨_,rfl⟩
    rw [hW3] at hcm2 hS2 ⊢
    try rw [hMc]
    clear hW3 hMc hS1
    first | refine .inl ⟨hS2, ?_⟩ | refine ⟨hS2, ?_⟩
    obtain ⟨W4,hrun4,hcm4,hg4⟩ := hcm2.one fe EB HFEB.out
    rw [HEB.out.2] at hrun4
    have hS4 := hS2.grown hg4 hS2.size (fun g e => by cases e;exact hge)
    refine alH 6 ?_
    refine wpOp_insert rfl rfl 102 (.tmp 42) (.tmp 44) (.tmp 47) rfl _ _ _ (by rfl) (by rfl) (by rfl) hrun4 ?_
    refine ⟨hS4, ?_⟩
    clear hrun4 hS2 hcm2
    refine tkQ 7 (.map (some Mc)) rfl hS4 ?_
    try go_simp
    refine tkQ 8 (.map (some Mc)) rfl hS4 ?_
    try go_simp
    refine wpAnyH_done (by kernel_rfl) ?_ _
    go_wp2_with fail
    go_meet
    exact ⟨Mc,rfl,hcm4,hge,hS4⟩
  case rest =>
   rename World => wx
   obtain ⟨Mc,rfl,hcm,hge,hbx⟩ := hcut
   have hstx := HST1.out.below hbx
   have y2 := hstx.blk.cell 2
   have y3 := hstx.blk.cell 3
   simp only [stoCells] at y2 y3
   simp at y2 y3
   have hSl := hstx.blk.lt
   obtain ⟨tl,htl⟩ : ∃ q,m.T.length = q := ⟨_,rfl⟩
   obtain ⟨PB,hPB⟩ : ∃ q,mk (packB m.T) = q := ⟨_,rfl⟩
   rw [htl] at y2
   rw [hPB] at y3
   have HTL := Lib.hid (And.intro htl hPB)
   have HX := Lib.hid (And.intro hcm (And.intro hge hbx))
   have HSTX := Lib.hid hstx
   clear hcm hge hbx hstx htl hPB
   go_upto_region 11 with (fail)
   have hB11 := Blk.new wx #[.int .i64 (tl : Int), .string PB] 76
   have hb3 := HX.out.2.2.alloc HX.out.2.2.size (.cells #[.int .i64 (tl : Int), .string PB] 76)
   have hst3 := HSTX.out.below (below_alloc wx (.cells #[.int .i64 (tl : Int), .string PB] 76))
   have hcm3 := HX.out.1.block ((below_alloc wx (.cells #[.int .i64 (tl : Int), .string PB] 76)).block Mc HX.out.1.lt)
   have hge11 : W1.heap.size ≤ wx.heap.size := HX.out.2.2.size
   have hMc11 : Mc < wx.heap.size := HX.out.1.lt
   obtain ⟨H11,hH11⟩ : ∃ q,wx.heap.size = q := ⟨_,rfl⟩
   rw [hH11] at hB11 hge11 hMc11
   obtain ⟨W3,hW3⟩ : ∃ q,wx.alloc (.cells #[.int .i64 (tl : Int), .string PB] 76) = q := ⟨_,rfl⟩
   simp only [hW3] at hB11 hb3 hst3 hcm3 ⊢
   try simp only [hH11]
   have HW3 := Lib.hid (And.intro hB11 (And.intro hb3 (And.intro hst3 (And.intro hcm3 (And.intro hge11 hMc11)))))
   obtain ⟨ad3,hFM3,hEX3⟩ := hst3.map
   have hlk := hFM3.look dest HNN.out.2
   rw [HNM.out.2] at hlk
   have z4 := hst3.blk.cell 4
   simp at z4
   have hSl3 := hst3.blk.lt
   have HEX3 := Lib.hid hEX3
   have HP2 := HP.out
   clear hB11 hb3 hst3 hcm3 hge11 hMc11 hW3 hH11 hFM3 hEX3 y2 y3 hSl
   cases hg : fileOf m.F dest with
   | none =>
    rw [hg] at hlk HP2
    simp only [Option.map_none,Option.getD_none,Option.isSome_none] at hlk
    unfold inoZ at hlk
    dsimp only at HP2
    subst HP2
    have HC := Lib.hid (show m.T.length = m.T.length ∧ [(fe,EB)].length ≤ 2 ∧ ∀ q ∈ [(fe,EB)],q.1 < m.most ∧ q.2.length ≤ 512 from ⟨rfl,by simp,fun q hq => by
     have : q = (fe,EB) := by simpa using hq
     subst this
     exact ⟨by rw [← HFE.out.1];exact HF.out.2.2.2.2.2.1,by rw [← HEB.out.1];exact HF.out.2.2.2.2.2.2.2⟩⟩)
    clear hg HP
    go_upto_region 17 with (fail)
    have hb5 := HW3.out.2.1.alloc HW3.out.2.1.size (.cells #[.int .i64 0, .int .i64 0, .slice none 0 0] 69)
    have hb35 := below_alloc W3 (.cells #[.int .i64 0, .int .i64 0, .slice none 0 0] 69)
    obtain ⟨W5,hW5⟩ : ∃ q,W3.alloc (.cells #[.int .i64 0, .int .i64 0, .slice none 0 0] 69) = q := ⟨_,rfl⟩
    rw [hW5] at hb5 hb35 ⊢
    obtain ⟨T2,hT2⟩ : ∃ T2 : List Bool,T2 = m.T := ⟨_,rfl⟩
    obtain ⟨C,hC⟩ : ∃ C : List (Nat × Bs),C = [(f.entry,entryB dest f.size f.ext)] := ⟨_,rfl⟩
    have HRP := Lib.hid (show ∀ e w',RemP X S D Lg M m T2 (putF (delF m.F name) (renF f dest)) C w e w' → RenameP X S D Lg M m (0,some (m.T,[(f.entry,entryB dest f.size f.ext)],putF (delF m.F name) (renF f dest))) w e w' from fun e w' hr => ⟨fun h => by (cases h),fun T3 C3 F3 h => by
     cases h
     rw [← hT2, ← hC]
     exact hr⟩)
    have hC2 : C = [(fe,EB)] := by rw [hC,HFE.out.1,HEB.out.1]
    have HT2L := Lib.hid (show T2.length = tl ∧ mk (packB T2) = PB by rw [hT2];exact HTL.out)
    have HT17 := Lib.hid (show Blk W5 H8 #[.int .i64 (fe : Int), .int .i64 (sz : Int), .slice A xl c] 69 ∧ Blk W5 H11 #[.int .i64 (tl : Int), .string PB] 76 ∧ Below w.heap.size w W5 ∧ CM W5 Mc C from
     ⟨HB8.out.below hb5,HW3.out.1.below hb35,HBW.out.trans (hb5.mono HBW.out.size),by rw [hC2];exact HW3.out.2.2.2.1.block (hb35.block Mc HW3.out.2.2.2.1.lt)⟩)
    replace HC := Lib.hid (show T2.length = m.T.length ∧ C.length ≤ 2 ∧ ∀ q ∈ C,q.1 < m.most ∧ q.2.length ≤ 512 by rw [hT2,hC2];exact HC.out)
    clear hb5 hb35 hW5 hT2 hC hC2
    have hst5 := HST.out.below HT17.out.2.2.1
    have KST := settle_any X S D Lg M Mc m T2 C W5 hst5 HT17.out.2.2.2 HC.out.1 (by rw [HC.out.1];exact HBB.out.tl) HC.out.2.1 HC.out.2.2 HBB.out.mo (by have := HBB.out.ll;omega) (by have := HBB.out.sl;omega)
    unfold SetP spv at KST
    rw [HT2L.out.1,HT2L.out.2] at KST
    have hn2 := run_num (settleC m.most T2 C) m.ds
    obtain ⟨r2,hr2⟩ : ∃ q,DS.run (settleC m.most T2 C) m.ds = q := ⟨_,rfl⟩
    have HR2 := Lib.hid hr2
    rw [hr2] at hn2 KST
    obtain ⟨n2,d2⟩ := r2
    dsimp only at hn2 KST
    have hx5 := HT17.out.1
    have hA5 := HLA.out.1.below (Nat.le_refl _) HT17.out.2.2.1
    have hAT5 := HLA.out.2.1.below HT17.out.2.2.1
    have hAX5 : ∀ a,A = some a → a.block ∉ S :: X := fun a ha hx => by
     rcases List.mem_cons.1 hx with e | e
     ·obtain ⟨cs,fr,hc⟩ := HLA.out.2.1 a ha
      have hb := HST.out.blk
      unfold Blk at hb
      rw [e,hb] at hc
      simp at hc
     ·exact HLA.out.2.2 a ha e
    have HA5 := Lib.hid (And.intro hA5 (And.intro hAT5 hAX5))
    have hH8X : H8 ∉ S :: X := fun hx => by
     have q1 := HH8.out
     rcases List.mem_cons.1 hx with e | e
     ·have := HSLT.out S (by simp);omega
     ·have := HSLT.out H8 (by simp [e]);omega
    have HH8X := Lib.hid hH8X
    have g0 := HT17.out.2.1.cell 0
    have g1 := HT17.out.2.1.cell 1
    simp at g0 g1
    have l11 := HT17.out.2.1.lt
    clear hst5 hr2 hx5 hA5 hAT5 hAX5 hH8X
    rcases hn2 with rfl | rfl
    case inr =>
     go_wp2_with (first
      | (go_at_call 50;(with_reducible refine KST.mono ?_);rintro e W6 ⟨rfl,X2,hM6,hS0,hS7⟩;have HF := Lib.hid (And.intro (hS7 (by decide)) (((Mv.of_below (S :: X) HT17.out.2.2.1).trans hM6).cons2 M));clear hM6 hS0 hS7 KST))
     go_ret
     refine HRP.out _ _ ?_
     unfold RemP
     rw [HR2.out]
     exact ⟨rfl,X2,HF.out.2,by first | exact HF.out.1 | exact ⟨(fun h => by cases h),fun _ => HF.out.1⟩ | exact ⟨fun _ => HF.out.1,fun h => absurd rfl h⟩⟩
    go_upto_region 20 with (first
      | (go_at_call 50;(with_reducible refine KST.mono ?_);rintro e W6 ⟨rfl,X2,hM6,hS0,hS7⟩;have HF6 := Lib.hid (And.intro (hS0 rfl) hM6);clear hM6 hS0 hS7 KST))
    obtain ⟨ad6,hFM6,hEX6⟩ := HF6.out.1.map
    obtain ⟨W7,hrun7,hFM7,hg7⟩ := hFM6.drop name HNN.out.1 0
    rw [HNM.out.1] at hrun7
    have hne7 : ∀ g,some M = some g → ∀ c fr,W6.heap[g]? ≠ some (.cells c 90 fr) := fun g e c fr hc => by cases e;exact (hFM6.not_cells hc) rfl
    have hEX7 := (hEX6.grown hg7 hne7).sub (G := delF m.F name) (fun g hg => (List.mem_filter.1 hg).1)
    have hst7 := HF6.out.1.store hg7 hFM7 hEX7
    have hA6 := HF6.out.2.lies HA5.out.1 HA5.out.2.2
    have hAT6 := HA5.out.2.1.frm HF6.out.2.frm HA5.out.2.2
    have hAX6 : ∀ a,A = some a → a.block ∉ X2 := fun a ha hx => by
     obtain ⟨cs,fr,hc⟩ := HA5.out.2.1 a ha
     exact HF6.out.2.apart (HA5.out.2.2 a ha) (Array.getElem?_eq_some_iff.1 hc).1 (List.mem_cons_of_mem _ hx)
    obtain ⟨hA7,hAT7⟩ := lies_grownM hA6 hAT6 hg7 hne7
    have x4 := HF6.out.1.blk.cell 4
    simp at x4
    have s5 := HF6.out.1.blk.lt
    have hB86 := HF6.out.2.blk HT17.out.1 HH8X.out
    have hB87 := hB86.grown hg7 (fun e => (hFM6.not_cells hB86) (by cases e;rfl))
    have y4 := hst7.blk.cell 4
    simp at y4
    have HW7 := Lib.hid (And.intro hst7 (And.intro (((Mv.of_below (S :: X) HT17.out.2.2.1).trans HF6.out.2).cons2 M) (And.intro hg7 (And.intro hA7 (And.intro hAT7 (And.intro hAX6 (And.intro hB87 y4)))))))
    clear hFM6 hEX6 hFM7 hg7 hne7 hEX7 hst7 hA6 hAT6 hAX6 hA7 hAT7 hB86 hB87 y4 g0 g1 l11
    go_upto_region 21 with (fail)
    obtain ⟨ad7,hFM7,hEX7⟩ := HW7.out.1.map
    have hFM7' : FM W7.drew M ad7 (delF m.F name) := hFM7
    obtain ⟨W8,hrun8,hFM8,hg8'⟩ := hFM7'.store (renF f dest) A c (Nat.lt_of_le_of_lt (Nat.le_trans (List.length_filter_le ..) HBB.out.len) (by unfold maxLen;omega)) HNN.out.2
    have hg8 : W7.grownBy W8 (some M) := ⟨hg8'.os,hg8'.tape,hg8'.output,hg8'.size,hg8'.block⟩
    have hrun8b := hrun8
    unfold renF at hrun8b
    dsimp only at hrun8b
    rw [HNM.out.2,HFE.out.1,HFE.out.2.1,HFE.out.2.2] at hrun8b
    have hne8 : ∀ g,some M = some g → ∀ c fr,W7.heap[g]? ≠ some (.cells c 90 fr) := fun g e c fr hc => by cases e;exact (hFM7.not_cells hc) rfl
    have hE8 := (hEX7.grown hg8 hne8).put (f := renF f dest) (c := c) (lies_grownM HW7.out.2.2.2.1 HW7.out.2.2.2.2.1 hg8 hne8).1 (lies_grownM HW7.out.2.2.2.1 HW7.out.2.2.2.2.1 hg8 hne8).2 HW7.out.2.2.2.2.2.1
    have hst8 := HW7.out.1.store hg8 hFM8 hE8
    have HF := Lib.hid (And.intro hst8 ((HW7.out.2.1.trans (Mv.of_grown HW7.out.2.2.1 (by simp))).trans (Mv.of_grown hg8 (by simp))))
    have HRUN8 := Lib.hid hrun8b
    have hS9 : W8.cell? ⟨S,4,none⟩ = some (.map (some M)) ∧ Blk W8 H8 #[.int .i64 (fe : Int), .int .i64 (sz : Int), .slice A xl c] 69 :=
     ⟨(World.cell?_of_block (a := ⟨S,4,none⟩) (hg8.block S HW7.out.1.blk.lt (fun e => HW7.out.1.ne.2.1 (by cases e;rfl)))).trans HW7.out.2.2.2.2.2.2.2,HW7.out.2.2.2.2.2.2.1.grown hg8 (fun e => (hFM7.not_cells HW7.out.2.2.2.2.2.2.1) (by cases e;rfl))⟩
    clear hFM7 hEX7 hFM7' hrun8 hrun8b hFM8 hg8 hg8' hne8 hE8 hst8
    refine wp_region_held (S := fun w' => w'.cell? ⟨S,4,none⟩ = some (.map (some M)) ∧ Blk w' H8 #[.int .i64 (fe : Int), .int .i64 (sz : Int), .slice A xl c] 69) mixed ?_
    change wpAnyH _ _ _ _ _ _ _ _ W7.drew
    have hS8 : W7.drew.cell? ⟨S,4,none⟩ = some (.map (some M)) ∧ Blk W7.drew H8 #[.int .i64 (fe : Int), .int .i64 (sz : Int), .slice A xl c] 69 := ⟨HW7.out.2.2.2.2.2.2.2,HW7.out.2.2.2.2.2.2.1⟩
    refine tkQ 0 (.pointer (some ⟨S,0,none⟩)) rfl hS8 ?_
    try go_simp
    refine tkQ 1 (.pointer (some ⟨S,0,none⟩)) rfl hS8 ?_
    try go_simp
    refine tkQ 2 (.pointer (some ⟨S,4,none⟩)) rfl hS8 ?_
    try go_simp
    refine tkH 3 (.map (some M)) rfl hS8 (fun w' hS => ?_) ?_
    ·have q0 := hS.1;go_simp
    try go_simp
    refine tkQ 4 (.string DM) rfl hS8 ?_
    try go_simp
    refine tkH 5 (.agg #[.int .i64 (fe : Int), .int .i64 (sz : Int), .slice A xl c]) rfl hS8 (fun w' hS => ?_) ?_
    ·have q0 := hS.2.cell 0;have q1 := hS.2.cell 1;have q2 := hS.2.cell 2;simp at q0 q1 q2;go_simp
    try go_simp
    refine alH 6 ?_
    refine wpOp_mapUpdate rfl rfl 77 (.tmp 90) (.tmp 91) (.tmp 92) rfl _ _ _ (by rfl) (by rfl) (by rfl) HRUN8.out ?_
    refine ⟨hS9, ?_⟩
    refine wpAnyH_done (by kernel_rfl) ?_ _
    clear hS8 hS9
    go_wp2
    go_ret
    refine HRP.out _ _ ?_
    unfold RemP
    rw [HR2.out]
    exact ⟨rfl,X2,HF.out.2,by first | exact HF.out.1 | exact ⟨(fun h => by cases h),fun _ => HF.out.1⟩ | exact ⟨fun _ => HF.out.1,fun h => absurd rfl h⟩⟩
   | some g =>
    rw [hg] at hlk HP2
    simp only [Option.map_some,Option.getD_some,Option.isSome_some] at hlk
    have hgm := fileOf_mem hg
    have hgn := fileOf_name hg
    have hexg := HEX3.out g hgm
    unfold inoV at hlk
    obtain ⟨⟨A9,c9⟩,hA9⟩ : ∃ q,ad3 g.name = q := ⟨_,rfl⟩
    rw [hA9] at hlk hexg
    dsimp only at hlk hexg HP2
    have hne : g.entry ≠ f.entry := fun e => by
     have := entry_inj HEN.out hgm HF.out.2.1 e
     subst this
     have q1 := HF.out.2.2.1
     exact HND.out (q1.symm.trans hgn)
    have KG := fun (w5 : World) (hL : Lies w5 A9 (ecells g.ext)) => give_any m.T g.ext A9 c9 w5 HBB.out.tl hL (fun x hx => by have := HBB.out.exb g hgm x hx;have := HBB.out.tl;omega) (by have := HBB.out.exl g hgm;omega)
    obtain ⟨tn,PBn,en,hRf⟩ := turnV_form (turnS false m.T g.ext)
    have HRF := Lib.hid hRf
    rw [hRf] at KG
    unfold spv at KG
    rw [HTL.out.1,HTL.out.2] at KG
    have HGE := Lib.hid (show g.entry < m.most ∧ g.entry ≤ 1000000 by have := HBB.out.ent g hgm;have := HBB.out.mo;omega)
    obtain ⟨ge,hge⟩ : ∃ q,g.entry = q := ⟨_,rfl⟩
    obtain ⟨gs,hgs⟩ : ∃ q,g.size = q := ⟨_,rfl⟩
    obtain ⟨gl,hgl⟩ : ∃ q,g.ext.length = q := ⟨_,rfl⟩
    rw [hge,hgs,hgl] at hlk
    rw [hgl] at KG
    rw [hge] at hne HGE
    rw [HFE.out.1] at hne
    have HGL := Lib.hid (And.intro hne (And.intro hge hgl))
    have HLG := Lib.hid (And.intro hexg.1 hexg.2.1)
    have HP3 := Lib.hid HP2
    clear hg HP HP2 hgm hgn hexg hA9 hne hRf hge hgs hgl
    go_upto_region 13 with (fail)
    have hB12 := Blk.new W3 #[.int .i64 (ge : Int), .int .i64 (gs : Int), .slice A9 gl c9] 69
    have hb34 := below_alloc W3 (.cells #[.int .i64 (ge : Int), .int .i64 (gs : Int), .slice A9 gl c9] 69)
    have hcm4 := HW3.out.2.2.2.1.block (hb34.block Mc HW3.out.2.2.2.1.lt)
    have hB114 := HW3.out.1.below hb34
    have hLG4 := HLG.out.1.below (Nat.le_refl _) hb34
    have hTG4 := HLG.out.2.below hb34
    have hlt12 := HW3.out.1.lt
    obtain ⟨H12,hH12⟩ : ∃ q,W3.heap.size = q := ⟨_,rfl⟩
    rw [hH12] at hB12 hlt12
    have hge12 : W1.heap.size ≤ H12 := by have := HW3.out.2.1.size;omega
    obtain ⟨W4,hW4⟩ : ∃ q,W3.alloc (.cells #[.int .i64 (ge : Int), .int .i64 (gs : Int), .slice A9 gl c9] 69) = q := ⟨_,rfl⟩
    rw [hW4] at hB12 hb34 hcm4 hB114 hLG4 hTG4 ⊢
    try rw [hH12]
    obtain ⟨W5,hrun5,hcm5,hg5⟩ := CM.two fe ge EB [] hcm4 HGE.out.2 (Ne.symm HGL.out.1)
    rw [show mk [] = ⟨#[]⟩ from rfl] at hrun5
    have hnM : ∀ {b : Nat} {cs : Array Value} {t : TypeId},Blk W4 b cs t → some Mc ≠ some b := fun {b cs t} hb e => by cases e;exact hcm4.not_cells hb rfl
    have hB125 := hB12.grown hg5 (hnM hB12)
    have hB115 := hB114.grown hg5 (hnM hB114)
    obtain ⟨hLG5,hTG5⟩ := lies_grownM hLG4 hTG4 hg5 (fun g e c fr hc => by cases e;exact hcm4.not_cells hc rfl)
    have hb15 : Below W1.heap.size W1 W5 := (HW3.out.2.1.trans (hb34.mono HW3.out.2.1.size)).grown hg5 (Nat.le_trans HW3.out.2.1.size hb34.size) (fun g e => by cases e;exact HX.out.2.1)
    have w0 := hB12.cell 0
    have w0l := hB12.lt
    have v0 := hB115.cell 0
    have v1 := hB115.cell 1
    have v2 := hB125.cell 2
    simp at w0 v0 v1 v2
    have vl := hB115.lt
    have vl2 := hB125.lt
    have KG5 := KG W5 hLG5
    have HW5 := Lib.hid (And.intro hB125 (And.intro hB115 (And.intro hcm5 hb15)))
    have HRUN5 := Lib.hid hrun5
    clear hB12 hb34 hcm4 hB114 hLG4 hTG4 hW4 hH12 hnM hB125 hB115 hLG5 hTG5 hb15 hcm5 hg5 hrun5 KG hlk
    go_upto_region 15 with (first
     | (refine wpList_mapUpd rfl 102 (.tmp 63) (.tmp 65) (.const (.string ⟨#[]⟩)) rfl _ _ _ (by rfl) (by rfl) (by rfl) HRUN5.out ?_)
     | (go_at_call 41;(with_reducible refine KG5.mono ?_);rintro e W6 ⟨rfl,hb6⟩;have hB116 := HW5.out.2.1.below hb6;have q0 := hB116.frozen 0;have q1 := hB116.frozen 1;have u0 := hB116.cell 0;have u1 := hB116.cell 1;simp at u0 u1;have ul := hB116.lt;have HW6 := Lib.hid (And.intro hB116 hb6);clear hB116 hb6 KG5))
    have hB117 := (HW6.out.1.set 0 (.int .i64 tn)).set 1 (.string PBn)
    have hg7 := grown_set2 W6 H11 0 1 (.int .i64 tn) (.string PBn)
    have hb16 := HW5.out.2.2.2.trans (HW6.out.2.mono HW5.out.2.2.2.size)
    have hb17 := below_set (below_set hb16 H11 0 (.int .i64 tn) HW3.out.2.2.2.2.1) H11 1 (.string PBn) HW3.out.2.2.2.2.1
    have hcm6 := HW5.out.2.2.1.block (HW6.out.2.block Mc HW5.out.2.2.1.lt)
    have hcm7 := hcm6.block (hg7.block Mc hcm6.lt (fun e => by cases e;exact hcm6.not_cells HW6.out.1 rfl))
    have hb7 := HBW.out.trans (hb17.mono HBW.out.size)
    obtain ⟨W7,hW7⟩ : ∃ q,(W6.setCell ⟨H11,0,none⟩ (.int .i64 tn)).setCell ⟨H11,1,none⟩ (.string PBn) = q := ⟨_,rfl⟩
    rw [hW7] at hB117 hb17 hcm7 hb7 ⊢
    have HW7 := Lib.hid (And.intro hB117 (And.intro hb17 (And.intro hcm7 hb7)))
    clear hB117 hg7 hb16 hb17 hcm6 hcm7 hb7 hW7 w0 w0l v0 v1 v2 vl vl2 q0 q1 u0 u1 ul z4 hSl3
    cases htn : turnS false m.T g.ext with
    | none =>
     have hq := HRF.out
     rw [htn] at hq
     unfold turnV at hq
     simp only [Value.tuple.injEq,Array.mk.injEq,List.cons.injEq,Value.agg.injEq,Value.int.injEq,Value.string.injEq,true_and,and_true] at hq
     obtain ⟨⟨rfl,rfl⟩,rfl⟩ := hq
     have HE : P = (14,none) := by rw [← HP3.out,htn]
     subst HE
     clear htn
     go_wp2
     go_ret
     exact ⟨fun _ => ⟨rfl,HW7.out.2.2.2,HST.out.below HW7.out.2.2.2⟩,fun _ _ _ h => by cases h⟩
    | some T2 =>
     have hq := HRF.out
     rw [htn] at hq
     unfold turnV spv at hq
     simp only [Value.tuple.injEq,Array.mk.injEq,List.cons.injEq,Value.agg.injEq,Value.int.injEq,Value.string.injEq,true_and,and_true] at hq
     obtain ⟨⟨rfl,rfl⟩,rfl⟩ := hq
     have HE : P = (0,some (T2,two2 f.entry (entryB dest f.size f.ext) g.entry [],putF (delF m.F name) (renF f dest))) := by rw [← HP3.out,htn]
     subst HE
     have hT2 := turnS_len _ _ _ _ htn
     obtain ⟨t2,ht2⟩ : ∃ q,T2.length = q := ⟨_,rfl⟩
     obtain ⟨PB2,hPB2⟩ : ∃ q,mk (packB T2) = q := ⟨_,rfl⟩
     rw [ht2,hPB2] at HW7
     obtain ⟨C,hC⟩ : ∃ C,C = two2 f.entry (entryB dest f.size f.ext) g.entry [] := ⟨_,rfl⟩
     have hC2 : C = two2 fe EB ge [] := by rw [hC,HFE.out.1,HEB.out.1,HGL.out.2.1]
     have HRP := Lib.hid (show ∀ e w',RemP X S D Lg M m T2 (putF (delF m.F name) (renF f dest)) C w e w' → RenameP X S D Lg M m (0,some (T2,two2 f.entry (entryB dest f.size f.ext) g.entry [],putF (delF m.F name) (renF f dest))) w e w' from fun e w' hr => ⟨fun h => by (cases h),fun T3 C3 F3 h => by
      cases h
      rw [← hC]
      exact hr⟩)
     have HT2L := Lib.hid (And.intro ht2 hPB2)
     have HT17 := Lib.hid (show Blk W7 H8 #[.int .i64 (fe : Int), .int .i64 (sz : Int), .slice A xl c] 69 ∧ Blk W7 H11 #[.int .i64 (t2 : Int), .string PB2] 76 ∧ Below w.heap.size w W7 ∧ CM W7 Mc C from
      ⟨HB8.out.below HW7.out.2.1,HW7.out.1,HW7.out.2.2.2,by rw [hC2];exact HW7.out.2.2.1⟩)
     have HC := Lib.hid (show T2.length = m.T.length ∧ C.length ≤ 2 ∧ ∀ q ∈ C,q.1 < m.most ∧ q.2.length ≤ 512 from ⟨hT2,by rw [hC2];unfold two2;split <;> simp,fun q hq => by
      rw [hC2] at hq
      have : q = (fe,EB) ∨ q = (ge,[]) := by
       unfold two2 at hq
       split at hq <;> simp at hq <;> rcases hq with h | h <;> simp [h]
      rcases this with rfl | rfl
      ·exact ⟨by rw [← HFE.out.1];exact HF.out.2.2.2.2.2.1,by rw [← HEB.out.1];exact HF.out.2.2.2.2.2.2.2⟩
      ·exact ⟨HGE.out.1,by simp⟩⟩)
     clear htn hT2 ht2 hPB2 hC hC2
     obtain ⟨W5,hW5⟩ : ∃ q,W7 = q := ⟨_,rfl⟩
     rw [hW5] at HT17 ⊢
     clear hW5 HW7 HW6
     go_upto_region 17 with (fail)
     have hst5 := HST.out.below HT17.out.2.2.1
     have KST := settle_any X S D Lg M Mc m T2 C W5 hst5 HT17.out.2.2.2 HC.out.1 (by rw [HC.out.1];exact HBB.out.tl) HC.out.2.1 HC.out.2.2 HBB.out.mo (by have := HBB.out.ll;omega) (by have := HBB.out.sl;omega)
     unfold SetP spv at KST
     rw [HT2L.out.1,HT2L.out.2] at KST
     have hn2 := run_num (settleC m.most T2 C) m.ds
     obtain ⟨r2,hr2⟩ : ∃ q,DS.run (settleC m.most T2 C) m.ds = q := ⟨_,rfl⟩
     have HR2 := Lib.hid hr2
     rw [hr2] at hn2 KST
     obtain ⟨n2,d2⟩ := r2
     dsimp only at hn2 KST
     have hx5 := HT17.out.1
     have hA5 := HLA.out.1.below (Nat.le_refl _) HT17.out.2.2.1
     have hAT5 := HLA.out.2.1.below HT17.out.2.2.1
     have hAX5 : ∀ a,A = some a → a.block ∉ S :: X := fun a ha hx => by
      rcases List.mem_cons.1 hx with e | e
      ·obtain ⟨cs,fr,hc⟩ := HLA.out.2.1 a ha
       have hb := HST.out.blk
       unfold Blk at hb
       rw [e,hb] at hc
       simp at hc
      ·exact HLA.out.2.2 a ha e
     have HA5 := Lib.hid (And.intro hA5 (And.intro hAT5 hAX5))
     have hH8X : H8 ∉ S :: X := fun hx => by
      have q1 := HH8.out
      rcases List.mem_cons.1 hx with e | e
      ·have := HSLT.out S (by simp);omega
      ·have := HSLT.out H8 (by simp [e]);omega
     have HH8X := Lib.hid hH8X
     have g0 := HT17.out.2.1.cell 0
     have g1 := HT17.out.2.1.cell 1
     simp at g0 g1
     have l11 := HT17.out.2.1.lt
     clear hst5 hr2 hx5 hA5 hAT5 hAX5 hH8X
     rcases hn2 with rfl | rfl
     case inr =>
      go_wp2_with (first
       | (go_at_call 50;(with_reducible refine KST.mono ?_);rintro e W6 ⟨rfl,X2,hM6,hS0,hS7⟩;have HF := Lib.hid (And.intro (hS7 (by decide)) (((Mv.of_below (S :: X) HT17.out.2.2.1).trans hM6).cons2 M));clear hM6 hS0 hS7 KST))
      go_ret
      refine HRP.out _ _ ?_
      unfold RemP
      rw [HR2.out]
      exact ⟨rfl,X2,HF.out.2,by first | exact HF.out.1 | exact ⟨(fun h => by cases h),fun _ => HF.out.1⟩ | exact ⟨fun _ => HF.out.1,fun h => absurd rfl h⟩⟩
     go_upto_region 20 with (first
       | (go_at_call 50;(with_reducible refine KST.mono ?_);rintro e W6 ⟨rfl,X2,hM6,hS0,hS7⟩;have HF6 := Lib.hid (And.intro (hS0 rfl) hM6);clear hM6 hS0 hS7 KST))
     obtain ⟨ad6,hFM6,hEX6⟩ := HF6.out.1.map
     obtain ⟨W7,hrun7,hFM7,hg7⟩ := hFM6.drop name HNN.out.1 0
     rw [HNM.out.1] at hrun7
     have hne7 : ∀ g,some M = some g → ∀ c fr,W6.heap[g]? ≠ some (.cells c 90 fr) := fun g e c fr hc => by cases e;exact (hFM6.not_cells hc) rfl
     have hEX7 := (hEX6.grown hg7 hne7).sub (G := delF m.F name) (fun g hg => (List.mem_filter.1 hg).1)
     have hst7 := HF6.out.1.store hg7 hFM7 hEX7
     have hA6 := HF6.out.2.lies HA5.out.1 HA5.out.2.2
     have hAT6 := HA5.out.2.1.frm HF6.out.2.frm HA5.out.2.2
     have hAX6 : ∀ a,A = some a → a.block ∉ X2 := fun a ha hx => by
      obtain ⟨cs,fr,hc⟩ := HA5.out.2.1 a ha
      exact HF6.out.2.apart (HA5.out.2.2 a ha) (Array.getElem?_eq_some_iff.1 hc).1 (List.mem_cons_of_mem _ hx)
     obtain ⟨hA7,hAT7⟩ := lies_grownM hA6 hAT6 hg7 hne7
     have x4 := HF6.out.1.blk.cell 4
     simp at x4
     have s5 := HF6.out.1.blk.lt
     have hB86 := HF6.out.2.blk HT17.out.1 HH8X.out
     have hB87 := hB86.grown hg7 (fun e => (hFM6.not_cells hB86) (by cases e;rfl))
     have y4 := hst7.blk.cell 4
     simp at y4
     have HW7 := Lib.hid (And.intro hst7 (And.intro (((Mv.of_below (S :: X) HT17.out.2.2.1).trans HF6.out.2).cons2 M) (And.intro hg7 (And.intro hA7 (And.intro hAT7 (And.intro hAX6 (And.intro hB87 y4)))))))
     clear hFM6 hEX6 hFM7 hg7 hne7 hEX7 hst7 hA6 hAT6 hAX6 hA7 hAT7 hB86 hB87 y4 g0 g1 l11
     go_upto_region 21 with (fail)
     obtain ⟨ad7,hFM7,hEX7⟩ := HW7.out.1.map
     have hFM7' : FM W7.drew M ad7 (delF m.F name) := hFM7
     obtain ⟨W8,hrun8,hFM8,hg8'⟩ := hFM7'.store (renF f dest) A c (Nat.lt_of_le_of_lt (Nat.le_trans (List.length_filter_le ..) HBB.out.len) (by unfold maxLen;omega)) HNN.out.2
     have hg8 : W7.grownBy W8 (some M) := ⟨hg8'.os,hg8'.tape,hg8'.output,hg8'.size,hg8'.block⟩
     have hrun8b := hrun8
     unfold renF at hrun8b
     dsimp only at hrun8b
     rw [HNM.out.2,HFE.out.1,HFE.out.2.1,HFE.out.2.2] at hrun8b
     have hne8 : ∀ g,some M = some g → ∀ c fr,W7.heap[g]? ≠ some (.cells c 90 fr) := fun g e c fr hc => by cases e;exact (hFM7.not_cells hc) rfl
     have hE8 := (hEX7.grown hg8 hne8).put (f := renF f dest) (c := c) (lies_grownM HW7.out.2.2.2.1 HW7.out.2.2.2.2.1 hg8 hne8).1 (lies_grownM HW7.out.2.2.2.1 HW7.out.2.2.2.2.1 hg8 hne8).2 HW7.out.2.2.2.2.2.1
     have hst8 := HW7.out.1.store hg8 hFM8 hE8
     have HF := Lib.hid (And.intro hst8 ((HW7.out.2.1.trans (Mv.of_grown HW7.out.2.2.1 (by simp))).trans (Mv.of_grown hg8 (by simp))))
     have HRUN8 := Lib.hid hrun8b
     have hS9 : W8.cell? ⟨S,4,none⟩ = some (.map (some M)) ∧ Blk W8 H8 #[.int .i64 (fe : Int), .int .i64 (sz : Int), .slice A xl c] 69 :=
      ⟨(World.cell?_of_block (a := ⟨S,4,none⟩) (hg8.block S HW7.out.1.blk.lt (fun e => HW7.out.1.ne.2.1 (by cases e;rfl)))).trans HW7.out.2.2.2.2.2.2.2,HW7.out.2.2.2.2.2.2.1.grown hg8 (fun e => (hFM7.not_cells HW7.out.2.2.2.2.2.2.1) (by cases e;rfl))⟩
     clear hFM7 hEX7 hFM7' hrun8 hrun8b hFM8 hg8 hg8' hne8 hE8 hst8
     refine wp_region_held (S := fun w' => w'.cell? ⟨S,4,none⟩ = some (.map (some M)) ∧ Blk w' H8 #[.int .i64 (fe : Int), .int .i64 (sz : Int), .slice A xl c] 69) mixed ?_
     change wpAnyH _ _ _ _ _ _ _ _ W7.drew
     have hS8 : W7.drew.cell? ⟨S,4,none⟩ = some (.map (some M)) ∧ Blk W7.drew H8 #[.int .i64 (fe : Int), .int .i64 (sz : Int), .slice A xl c] 69 := ⟨HW7.out.2.2.2.2.2.2.2,HW7.out.2.2.2.2.2.2.1⟩
     refine tkQ 0 (.pointer (some ⟨S,0,none⟩)) rfl hS8 ?_
     try go_simp
     refine tkQ 1 (.pointer (some ⟨S,0,none⟩)) rfl hS8 ?_
     try go_simp
     refine tkQ 2 (.pointer (some ⟨S,4,none⟩)) rfl hS8 ?_
     try go_simp
     refine tkH 3 (.map (some M)) rfl hS8 (fun w' hS => ?_) ?_
     ·have q0 := hS.1;go_simp
     try go_simp
     refine tkQ 4 (.string DM) rfl hS8 ?_
     try go_simp
     refine tkH 5 (.agg #[.int .i64 (fe : Int), .int .i64 (sz : Int), .slice A xl c]) rfl hS8 (fun w' hS => ?_) ?_
     ·have q0 := hS.2.cell 0;have q1 := hS.2.cell 1;have q2 := hS.2.cell 2;simp at q0 q1 q2;go_simp
     try go_simp
     refine alH 6 ?_
     refine wpOp_mapUpdate rfl rfl 77 (.tmp 90) (.tmp 91) (.tmp 92) rfl _ _ _ (by rfl) (by rfl) (by rfl) HRUN8.out ?_
     refine ⟨hS9, ?_⟩
     refine wpAnyH_done (by kernel_rfl) ?_ _
     clear hS8 hS9
     go_wp2
     go_ret
     refine HRP.out _ _ ?_
     unfold RemP
     rw [HR2.out]
     exact ⟨rfl,X2,HF.out.2,by first | exact HF.out.1 | exact ⟨(fun h => by cases h),fun _ => HF.out.1⟩ | exact ⟨fun _ => HF.out.1,fun h => absurd rfl h⟩⟩
structure FileIn (most tl : Nat) (f : FileM) : Prop where
 ent : f.entry < most
 good : goodF f.name = true
 siz : f.size ≤ 1048576
 exl : f.ext.length ≤ 64
 exb : ∀ x ∈ f.ext,1 ≤ x.2 ∧ x.1 + x.2 ≤ tl
 sum : sumN f.ext = needsN f.size
theorem Inv.fin {m : StoM} (h : Inv m) {f : FileM} (hf : f ∈ m.F) : FileIn m.most m.T.length f :=
 ⟨h.b.ent f hf,h.good f hf,h.b.siz f hf,h.b.exl f hf,fun x hx => ⟨h.pos f hf x hx,h.b.exb f hf x hx⟩,h.sum f hf⟩
theorem inv_mk {m' : StoM} (G : List FileM) (hp : m'.F.Perm G) (hfin : ∀ f ∈ G,FileIn m'.most m'.T.length f) (hn : (G.map (·.name)).Nodup) (he : (G.map (·.entry)).Nodup) (hu : (unitsF G).Nodup) (ht : ∀ j,m'.T.getD j false = true ↔ j ∈ unitsF G)
  (hm : 1 ≤ m'.most ∧ m'.most ≤ 256) (htl : m'.T.length ≤ 4096) (hll : m'.T.length + m'.most + 7 = m'.ds.L.length) (hc : m'.ds.cut = none) (ho : m'.ds.off = false) (hs : m'.ds.S = []) (hup : m'.off = false) : Inv m' where
 b := { ent := fun f hf => (hfin f (hp.mem_iff.1 hf)).ent
        nam := fun f hf => goodF_len (hfin f (hp.mem_iff.1 hf)).good
        siz := fun f hf => (hfin f (hp.mem_iff.1 hf)).siz
        exl := fun f hf => (hfin f (hp.mem_iff.1 hf)).exl
        exb := fun f hf x hx => ((hfin f (hp.mem_iff.1 hf)).exb x hx).2
        len := by
         have := nodup_lt m'.most _ he (fun x hx => by obtain ⟨g, hg, rfl⟩ := List.mem_map.1 hx; exact (hfin g hg).ent)
         rw [List.length_map] at this
         have := hp.length_eq
         omega
        mo := hm
        tl := htl
        ll := hll
        sl := by rw [hs]; simp }
 cut := hc
 on := ho
 syn := hs
 up := hup
 good := fun f hf => (hfin f (hp.mem_iff.1 hf)).good
 names := (hp.map (·.name)).nodup_iff.2 hn
 entries := (hp.map (·.entry)).nodup_iff.2 he
 pos := fun f hf x hx => ((hfin f (hp.mem_iff.1 hf)).exb x hx).1
 sum := fun f hf => (hfin f (hp.mem_iff.1 hf)).sum
 once := (unitsF_perm hp).nodup_iff.2 hu
 taken := fun j => (ht j).trans (unitsF_perm hp).mem_iff.symm
theorem unitsL_app (a b : List (Nat × Nat)) : unitsL (a ++ b) = unitsL a ++ unitsL b := by unfold unitsL;rw [List.flatMap_append]
theorem sumN_app (a b : List (Nat × Nat)) : sumN (a ++ b) = sumN a + sumN b := by rw [← unitsL_length, ← unitsL_length, ← unitsL_length,unitsL_app,List.length_append]
theorem unitsF_cons (f : FileM) (F : List FileM) : unitsF (f :: F) = unitsL f.ext ++ unitsF F := rfl
theorem take_units {m : StoM} (h : Inv m) {k most : Nat} {l : List (Nat × Nat)} {T1 : List Bool} (h1 : takeS m.T k most = some (l,T1)) :
  T1.length = m.T.length ∧ (unitsL l).Nodup ∧ (∀ j ∈ unitsL l,j ∉ unitsF m.F) ∧ ∀ j,T1.getD j false = true ↔ j ∈ unitsL l ∨ j ∈ unitsF m.F := by
 obtain ⟨a1,a2,a3,a4,a5,a6⟩ := takeS_facts h1
 have hfree : ∀ j ∈ unitsL l,m.T.getD j false = false ∧ j < m.T.length := fun j hj => by
  obtain ⟨x,hx,b1,b2⟩ := mem_unitsL.1 hj
  obtain ⟨c1,c2,c3⟩ := a3 x hx
  exact ⟨by rw [getD_two,c3 j b1 b2];simp,by omega⟩
 refine ⟨a4,(rise_units l 0 a2).1,fun j hj hm => ?_,fun j => ?_⟩
 ·have := (h.taken j).2 hm
  rw [(hfree j hj).1] at this;cases this
 ·have ht := h.taken j
  have hT1 : T1.getD j false = (m.T.getD j false || decide (j ∈ unitsL l)) := by
   rw [getD_two,a6 j,a4,getD_two m.T j]
   by_cases hj : j ∈ unitsL l
   ·have := (hfree j hj).2
    have hany : (l.any fun x => decide (x.1 ≤ j ∧ j < x.1 + x.2)) = true := by
     obtain ⟨x,hx,b⟩ := mem_unitsL.1 hj
     exact List.any_eq_true.2 ⟨x,hx,by simpa using b⟩
    rw [hany]
    simp [this,hj]
   ·have hany : (l.any fun x => decide (x.1 ≤ j ∧ j < x.1 + x.2)) = false := by
     rw [List.any_eq_false]
     intro x hx hb
     exact hj (mem_unitsL.2 ⟨x,hx,by simpa using hb⟩)
    rw [hany]
    simp [hj]
  rw [hT1]
  simp only [Bool.or_eq_true,decide_eq_true_eq]
  rw [ht]
  exact ⟨fun h => h.elim .inr .inl,fun h => h.elim .inr .inl⟩
theorem preA_some {m : StoM} {name data : Bs} {T1 : List Bool} {L : List Nat} {dt : Bs} {f' : FileM} (h : preA m name data = (0,some (T1,L,dt,f'))) :
  ∃ f l,goodF name = true ∧ fileOf m.F name = some f ∧ f.size + data.length ≤ 1048576 ∧ data ≠ [] ∧ takeS m.T (needsN (f.size + data.length) - sumN f.ext) (64 - f.ext.length) = some (l,T1) ∧ L = appL m f ++ secL (m.most + 7) l ∧ dt = appD m f ++ data ∧ f' = ⟨name,f.entry,f.size + data.length,f.ext ++ l⟩ := by
 unfold preA at h
 split at h
 ·simp at h
 ·rename_i hg
  cases hf : fileOf m.F name with
  | none => rw [hf] at h;simp at h
  | some f =>
   rw [hf] at h
   dsimp only at h
   split at h
   ·simp at h
   ·rename_i hl
    split at h
    ·simp at h
    ·rename_i he
     cases ht : takeS m.T (needsN (f.size + data.length) - sumN f.ext) (64 - f.ext.length) with
     | none => rw [ht] at h;simp at h
     | some p =>
      obtain ⟨l,T2⟩ := p
      rw [ht] at h
      simp only [Prod.mk.injEq,true_and,Option.some.injEq] at h
      obtain ⟨rfl,rfl,rfl,rfl⟩ := h
      exact ⟨f,l,by simpa using hg,rfl,by omega,he,ht,rfl,rfl,rfl⟩
theorem inv_append {m : StoM} {name data : Bs} {T1 : List Bool} {L : List Nat} {dt : Bs} {f' : FileM} (h : Inv m) (hp : preA m name data = (0,some (T1,L,dt,f'))) :
  (DS.run (putC m.most T1 L dt f') m.ds).1 = 0 ∧ Inv ⟨(DS.run (putC m.most T1 L dt f') m.ds).2,putF m.F f',T1,m.most,m.off⟩ := by
 obtain ⟨f,l,p1,p2,p3,p4,p5,p6,p7,rfl⟩ := preA_some hp
 obtain ⟨a1,a2,a3,a4,a5,_⟩ := takeS_facts p5
 obtain ⟨u1,u2,u3,u4⟩ := take_units h p5
 have hfm := fileOf_mem p2
 have hfn := fileOf_name p2
 have hfi := h.fin hfm
 obtain ⟨r1,r2,r3,r4,r5⟩ := run_settled h.cut h.on (layC L dt) m.most T1 [(f.entry,entryB name (f.size + data.length) (f.ext ++ l))]
 have hpd := perm_del _ _ _ h.names p2
 have hpp := perm_put m.F ⟨name,f.entry,f.size + data.length,f.ext ++ l⟩ h.names
 have hE := (hpd.map (·.entry)).nodup_iff.1 h.entries
 have hN := (hpd.map (·.name)).nodup_iff.1 h.names
 have hU := (unitsF_perm hpd).nodup_iff.1 h.once
 have hUm : ∀ j,j ∈ unitsF m.F ↔ j ∈ unitsL f.ext ∨ j ∈ unitsF (delF m.F name) := fun j => by
  rw [(unitsF_perm hpd).mem_iff,unitsF_cons,List.mem_append]
 rw [unitsF_cons] at hU
 refine ⟨r1,inv_mk _ hpp ?_ ?_ ?_ ?_ ?_ h.b.mo (by show T1.length ≤ _;rw [u1];exact h.b.tl) (by show T1.length + _ + 7 = _;rw [u1];exact h.b.ll.trans r5.symm) r2 r3 r4 h.up⟩
 ·intro g hg
  show FileIn m.most T1.length g
  rw [u1]
  rcases List.mem_cons.1 hg with rfl | hg
  ·exact ⟨hfi.ent,p1,p3,by rw [List.length_append];have := hfi.exl;omega,fun x hx => by
    rcases List.mem_append.1 hx with hx | hx
    ·exact hfi.exb x hx
    ·exact ⟨(a3 x hx).1,(a3 x hx).2.1⟩,by
    have := hfi.sum
    have h2 : sumN f.ext ≤ needsN (f.size + data.length) := by rw [this];unfold needsN;omega
    show sumN (f.ext ++ l) = needsN (f.size + data.length)
    rw [sumN_app,a5];omega⟩
  ·exact h.fin (List.mem_filter.1 hg).1
 ·rw [List.map_cons] at hN ⊢;rw [hfn] at hN;exact hN
 ·rw [List.map_cons] at hE ⊢;exact hE
 ·rw [unitsF_cons]
  show (unitsL (f.ext ++ l) ++ _).Nodup
  rw [unitsL_app]
  have hn := List.nodup_append.1 hU
  refine List.nodup_append.2 ⟨List.nodup_append.2 ⟨hn.1,u2,fun a ha b hb e => u3 b hb ((hUm b).2 (.inl (e ▸ ha)))⟩,hn.2.1,fun a ha b hb e => ?_⟩
  rcases List.mem_append.1 ha with ha | ha
  ·exact hn.2.2 a ha b hb e
  ·exact u3 a ha ((hUm a).2 (.inr (e ▸ hb)))
 ·intro j
  rw [unitsF_cons]
  show _ ↔ j ∈ unitsL (f.ext ++ l) ++ _
  rw [unitsL_app,List.mem_append,List.mem_append]
  show T1.getD j false = true ↔ _
  rw [u4,hUm]
  constructor
  ·rintro (h | h | h)
   ·exact .inl (.inr h)
   ·exact .inl (.inl h)
   ·exact .inr h
  ·rintro ((h | h) | h)
   ·exact .inr (.inl h)
   ·exact .inl h
   ·exact .inr (.inr h)
theorem fileOf_del {F : List FileM} {name t : Bs} (h : t ≠ name) : fileOf (delF F name) t = fileOf F t := by
 unfold fileOf delF
 induction F with
 | nil => rfl
 | cons a F ih =>
  rw [List.filter_cons]
  by_cases ha : a.name = name
  ·rw [if_neg (by simp [ha]),ih,List.find?_cons]
   rw [show (a.name == t) = false from beq_eq_false_iff_ne.2 (fun e => h (by rw [← e,ha]))]
  ·rw [if_pos (by simp [ha]),List.find?_cons,List.find?_cons,ih]
theorem preN_some {m : StoM} {name dest : Bs} {T2 : List Bool} {C : List (Nat × Bs)} {F2 : List FileM} (h : preN m name dest = (0,some (T2,C,F2))) :
  ∃ f,goodF name = true ∧ goodF dest = true ∧ fileOf m.F name = some f ∧ name ≠ dest ∧ F2 = putF (delF m.F name) (renF f dest) ∧
   ((fileOf m.F dest = none ∧ T2 = m.T ∧ C = [(f.entry,entryB dest f.size f.ext)]) ∨ ∃ g,fileOf m.F dest = some g ∧ turnS false m.T g.ext = some T2 ∧ C = two2 f.entry (entryB dest f.size f.ext) g.entry []) := by
 unfold preN at h
 split at h
 ·simp at h
 ·rename_i hg
  have hg1 : goodF name = true := by cases hq : goodF name with
   | true => rfl
   | false => exact absurd (.inl hq) hg
  have hg2 : goodF dest = true := by cases hq : goodF dest with
   | true => rfl
   | false => exact absurd (.inr hq) hg
  cases hf : fileOf m.F name with
  | none => rw [hf] at h;simp at h
  | some f =>
   rw [hf] at h
   dsimp only at h
   split at h
   ·simp at h
   ·rename_i hne
    cases hd : fileOf m.F dest with
    | none =>
     rw [hd] at h
     simp only [Prod.mk.injEq,true_and,Option.some.injEq] at h
     obtain ⟨rfl,rfl,rfl⟩ := h
     exact ⟨f,hg1,hg2,rfl,hne,rfl, .inl ⟨rfl,rfl,rfl⟩⟩
    | some g =>
     rw [hd] at h
     dsimp only at h
     cases ht : turnS false m.T g.ext with
     | none => rw [ht] at h;simp at h
     | some T3 =>
      rw [ht] at h
      simp only [Prod.mk.injEq,true_and,Option.some.injEq] at h
      obtain ⟨rfl,rfl,rfl⟩ := h
      exact ⟨f,hg1,hg2,rfl,hne,rfl, .inr ⟨g,rfl,ht,rfl⟩⟩
theorem inv_rename {m : StoM} {name dest : Bs} {T2 : List Bool} {C : List (Nat × Bs)} {F2 : List FileM} (h : Inv m) (hp : preN m name dest = (0,some (T2,C,F2))) :
  (DS.run (settleC m.most T2 C) m.ds).1 = 0 ∧ Inv ⟨(DS.run (settleC m.most T2 C) m.ds).2,F2,T2,m.most,m.off⟩ := by
 obtain ⟨f,p1,p2,p3,p4,rfl,p6⟩ := preN_some hp
 have hfm := fileOf_mem p3
 have hfi := h.fin hfm
 obtain ⟨r1,r2,r3,r4,r5⟩ := run_settled h.cut h.on [] m.most T2 C
 rw [List.nil_append] at r1 r2 r3 r4 r5
 have hpd := perm_del _ _ _ h.names p3
 have hnd : ((delF m.F name).map (·.name)).Nodup := delF_nodup h.names
 have hpp := perm_put (delF m.F name) (renF f dest) hnd
 have hsub : ∀ g ∈ delF (delF m.F name) dest,g ∈ m.F := fun g hg => (List.mem_filter.1 (List.mem_filter.1 hg).1).1
 have hrf : FileIn m.most m.T.length (renF f dest) := ⟨hfi.ent,p2,hfi.siz,hfi.exl,hfi.exb,hfi.sum⟩
 have hN : ((renF f dest :: delF (delF m.F name) dest).map (·.name)).Nodup := by
  rw [List.map_cons,List.nodup_cons]
  refine ⟨fun hm => ?_,delF_nodup hnd⟩
  obtain ⟨g,hg,e⟩ := List.mem_map.1 hm
  have := (List.mem_filter.1 hg).2
  have e2 : g.name = dest := e
  simp [e2] at this
 have hE0 := (hpd.map (·.entry)).nodup_iff.1 h.entries
 have hE : ((renF f dest :: delF (delF m.F name) dest).map (·.entry)).Nodup := by
  rw [List.map_cons,List.nodup_cons] at hE0 ⊢
  exact ⟨fun hm => hE0.1 (by obtain ⟨g,hg,e⟩ := List.mem_map.1 hm;exact List.mem_map.2 ⟨g,(List.mem_filter.1 hg).1,e⟩),hE0.2.sublist (List.filter_sublist.map _)⟩
 have hU := (unitsF_perm hpd).nodup_iff.1 h.once
 have hUm : ∀ j,j ∈ unitsF m.F ↔ j ∈ unitsL f.ext ∨ j ∈ unitsF (delF m.F name) := fun j => by
  rw [(unitsF_perm hpd).mem_iff,unitsF_cons,List.mem_append]
 rw [unitsF_cons] at hU
 have hUn := List.nodup_append.1 hU
 rcases p6 with ⟨q1,rfl,_⟩ | ⟨g,q1,q2,_⟩
 ·have hdd : delF (delF m.F name) dest = delF m.F name := del_none (by rw [fileOf_del (Ne.symm p4)];exact q1)
  rw [hdd] at hN hE hsub
  rw [show (renF f dest).name = dest from rfl,hdd] at hpp
  refine ⟨r1,inv_mk _ hpp ?_ hN hE ?_ ?_ h.b.mo h.b.tl (h.b.ll.trans r5.symm) r2 r3 r4 h.up⟩
  ·intro k hk
   rcases List.mem_cons.1 hk with rfl | hk
   ·exact hrf
   ·exact h.fin (hsub k hk)
  ·rw [unitsF_cons];exact hU
  ·intro j
   rw [unitsF_cons,List.mem_append]
   exact (h.taken j).trans (hUm j)
 ·have hgm := fileOf_mem q1
  have hpg := perm_del (delF m.F name) g dest hnd (by rw [fileOf_del (Ne.symm p4)];exact q1)
  have hUg : ∀ j,j ∈ unitsF (delF m.F name) ↔ j ∈ unitsL g.ext ∨ j ∈ unitsF (delF (delF m.F name) dest) := fun j => by
   rw [(unitsF_perm hpg).mem_iff,unitsF_cons,List.mem_append]
  have hUg2 := (unitsF_perm hpg).nodup_iff.1 hUn.2.1
  rw [unitsF_cons] at hUg2
  have hUg3 := List.nodup_append.1 hUg2
  have hgi := h.fin hgm
  obtain ⟨T3,e1,e2,e3⟩ := turnS_give g.ext m.T hgi.exb hUg3.1 (fun j hj => (h.taken j).2 ((hUm j).2 (.inr ((hUg j).2 (.inl hj)))))
  rw [q2] at e1
  cases e1
  rw [show (renF f dest).name = dest from rfl] at hpp
  refine ⟨r1,inv_mk _ hpp ?_ hN hE ?_ ?_ h.b.mo (by show T2.length ≤ _;rw [e2];exact h.b.tl) (by show T2.length + _ + 7 = _;rw [e2];exact h.b.ll.trans r5.symm) r2 r3 r4 h.up⟩
  ·intro k hk
   show FileIn m.most T2.length k
   rw [e2]
   rcases List.mem_cons.1 hk with rfl | hk
   ·exact hrf
   ·exact h.fin (hsub k hk)
  ·rw [unitsF_cons]
   exact List.nodup_append.2 ⟨hUn.1,hUg3.2.1,fun a ha b hb e => hUn.2.2 a ha b ((hUg b).2 (.inr hb)) e⟩
  ·intro j
   rw [unitsF_cons,List.mem_append]
   show T2.getD j false = true ↔ _
   rw [e3]
   simp only [Bool.and_eq_true,Bool.not_eq_true',decide_eq_false_iff_not]
   rw [h.taken j]
   show (j ∈ unitsF m.F ∧ _) ↔ _
   rw [hUm,hUg]
   constructor
   ·rintro ⟨h1 | h1 | h1,h2⟩
    ·exact .inl h1
    ·exact absurd h1 h2
    ·exact .inr h1
   ·rintro (h1 | h1)
    ·exact ⟨.inl h1,fun h2 => hUn.2.2 j h1 j ((hUg j).2 (.inl h2)) rfl⟩
    ·exact ⟨.inr (.inr h1),fun h2 => hUg3.2.2 j h2 j h1 rfl⟩
def openX (i c : Nat) (dn : List (Nat × Nat)) : List (Nat × Nat) := dn ++ (if c = 0 then [] else [(i - c,c)])
structure TS (T : List Bool) (k0 i k c : Nat) (dn : List (Nat × Nat)) (U : List Bool) : Prop where
 eq : trimR (runs T 0 0) k0 = (dn ++ (trimR (runs (T.drop i) i c) (k + c)).1,(trimR (runs (T.drop i) i c) (k + c)).2)
 ci : c ≤ i
 ends : ∀ x ∈ dn,x.1 + x.2 < i
 len : U.length = T.length
 set : ∀ j,U.getD j false = (T.getD j false || decide (j ∈ unitsL (openX i c dn)))
theorem TS.start (T : List Bool) (k0 : Nat) : TS T k0 0 k0 0 [] T := ⟨rfl,Nat.le_refl _,fun x hx => (by cases hx),rfl,fun j => (by simp [openX,unitsL])⟩
theorem openX_lt {T : List Bool} {k0 i k c : Nat} {dn : List (Nat × Nat)} {U : List Bool} (h : TS T k0 i k c dn U) : ∀ j ∈ unitsL (openX i c dn),j < i := fun j hj => by
 obtain ⟨x,hx,h1,h2⟩ := mem_unitsL.1 hj
 rcases List.mem_append.1 hx with hx | hx
 ·have := h.ends x hx;omega
 ·split at hx
  ·cases hx
  ·have := h.ci
   have : x = (i - c,c) := by simpa using hx
   subst this
   simp only at h1 h2
   omega
theorem TS.same {T : List Bool} {k0 i k c : Nat} {dn : List (Nat × Nat)} {U : List Bool} (h : TS T k0 i k c dn U) : U.getD i false = T.getD i false := by
 rw [h.set,decide_eq_false (fun hm => Nat.lt_irrefl _ (openX_lt h i hm)),Bool.or_false]
theorem TS.taken {T : List Bool} {k0 i k c : Nat} {dn : List (Nat × Nat)} {U : List Bool} (h : TS T k0 i k c dn U) (hi : i < T.length) (ht : T[i] = true) (hk : 0 < k) : TS T k0 (i + 1) k 0 (openX i c dn) U := by
 refine ⟨?_,Nat.zero_le _,fun x hx => ?_,h.len,fun j => ?_⟩
 ·rw [h.eq,List.drop_eq_getElem_cons hi,ht,runs]
  unfold openX
  by_cases hc : c = 0
  ·subst hc;simp
  ·rw [if_neg hc,List.cons_append,List.nil_append,trimR,if_neg (by omega),Nat.min_eq_left (by omega),Nat.add_sub_cancel]
   simp
 ·rcases List.mem_append.1 hx with hx | hx
  ·have := h.ends x hx;omega
  ·split at hx
   ·cases hx
   ·have := h.ci
    have : x = (i - c,c) := by simpa using hx
    subst this
    simp only
    omega
 ·rw [h.set]
  congr 1
  unfold openX
  simp
theorem TS.free {T : List Bool} {k0 i k c : Nat} {dn : List (Nat × Nat)} {U : List Bool} (h : TS T k0 i k c dn U) (hi : i < T.length) (ht : T[i] = false) (hk : 0 < k) : TS T k0 (i + 1) (k - 1) (c + 1) dn (U.set i true) := by
 have hci := h.ci
 refine ⟨?_,by omega,fun x hx => by have := h.ends x hx;omega,by rw [List.length_set];exact h.len,fun j => ?_⟩
 ·rw [h.eq,List.drop_eq_getElem_cons hi,ht,runs,show k - 1 + (c + 1) = k + c by omega]
 ·rw [set_getD _ _ _ _ (by rw [h.len];exact hi),h.set]
  have hm : ∀ j,j ∈ unitsL (openX (i + 1) (c + 1) dn) ↔ j = i ∨ j ∈ unitsL (openX i c dn) := fun j => by
   unfold openX
   rw [unitsL_app,unitsL_app,List.mem_append,List.mem_append,if_neg (by omega)]
   have e1 : j ∈ unitsL [(i + 1 - (c + 1),c + 1)] ↔ i - c ≤ j ∧ j < i - c + (c + 1) := by
    rw [mem_unitsL]
    constructor
    ·rintro ⟨x,hx,a,b⟩
     have : x = (i + 1 - (c + 1),c + 1) := by simpa using hx
     subst this
     simp only at a b
     omega
    ·rintro ⟨a,b⟩
     exact ⟨_,List.mem_singleton.2 rfl,by simp only;omega,by simp only;omega⟩
   rw [e1]
   by_cases hc : c = 0
   ·subst hc
    simp [unitsL]
    constructor
    ·rintro (a | a)
     ·exact .inr a
     ·exact .inl (by omega)
    ·rintro (a | a)
     ·exact .inr (by omega)
     ·exact .inl a
   ·rw [if_neg hc]
    have e2 : j ∈ unitsL [(i - c,c)] ↔ i - c ≤ j ∧ j < i - c + c := by
     rw [mem_unitsL]
     constructor
     ·rintro ⟨x,hx,a,b⟩
      have : x = (i - c,c) := by simpa using hx
      subst this
      exact ⟨a,b⟩
     ·rintro ⟨a,b⟩
      exact ⟨_,List.mem_singleton.2 rfl,a,b⟩
    rw [e2]
    constructor
    ·rintro (a | a)
     ·exact .inr (.inl a)
     ·by_cases hj : j = i
      ·exact .inl hj
      ·exact .inr (.inr (by omega))
    ·rintro (a | a | a)
     ·exact .inr (by omega)
     ·exact .inl a
     ·exact .inr (by omega)
  by_cases hj : i = j
  ·subst hj
   rw [if_pos rfl,decide_eq_true ((hm _).2 (.inl rfl)),Bool.or_true]
  ·rw [if_neg hj]
   congr 1
   refine decide_eq_decide.2 ?_
   rw [hm]
   exact ⟨fun a => .inr a,fun a => a.resolve_left (fun e => hj e.symm)⟩
theorem runs_open : ∀ (R : List Bool) (i c : Nat),0 < c → ∃ m r,runs R i c = (i - c,c + m) :: r := by
 intro R
 induction R with
 | nil => intro i c h;exact ⟨0,[],by rw [runs,if_neg (by omega)];rfl⟩
 | cons b R ih =>
  intro i c h
  cases b with
  | true => exact ⟨0,runs R (i + 1) 0,by rw [runs,if_neg (by omega)];rfl⟩
  | false =>
   obtain ⟨m,r,e⟩ := ih (i + 1) (c + 1) (by omega)
   exact ⟨m + 1,r,by rw [runs,e,show i + 1 - (c + 1) = i - c by omega,show c + 1 + m = c + (m + 1) by omega]⟩
theorem TS.done {T : List Bool} {k0 i k c : Nat} {dn : List (Nat × Nat)} {U : List Bool} (h : TS T k0 i k c dn U) (he : T.length ≤ i ∨ k = 0) : trimR (runs T 0 0) k0 = (openX i c dn,k) := by
 rw [h.eq]
 unfold openX
 rcases he with he | rfl
 ·rw [List.drop_eq_nil_of_le he,runs]
  by_cases hc : c = 0
  ·subst hc;simp [trimR]
  ·rw [if_neg hc,trimR,if_neg (by omega),Nat.min_eq_left (by omega),Nat.add_sub_cancel,trimR]
 ·rw [Nat.zero_add]
  by_cases hc : c = 0
  ·subst hc;rw [trimR_zero,if_pos rfl]
  ·obtain ⟨m,r,e⟩ := runs_open (T.drop i) i c (by omega)
   rw [e,if_neg hc,trimR,if_neg hc,Nat.min_eq_right (by omega),Nat.sub_self,trimR_zero]
theorem TS.take {T : List Bool} {k0 i k c most : Nat} {dn : List (Nat × Nat)} {U : List Bool} (h : TS T k0 i k c dn U) (he : T.length ≤ i ∨ k = 0) :
  takeS T k0 most = if 0 < k ∨ most < (openX i c dn).length then none else some (openX i c dn,U) := by
 have hd := h.done he
 obtain ⟨T',c1,c2,c3⟩ := take_claims T k0
 unfold takeS
 rw [hd] at c1 c3 ⊢
 dsimp only at c1 c3 ⊢
 split
 ·rfl
 ·rw [c1]
  show some (_,T') = _
  congr 2
  refine List.ext_getElem (by rw [c2,h.len]) fun j h1 h2 => ?_
  have e1 : T'.getD j false = T'[j] := by rw [List.getD_eq_getElem?_getD,List.getElem?_eq_getElem h1,Option.getD_some]
  have e2 : U.getD j false = U[j] := by rw [List.getD_eq_getElem?_getD,List.getElem?_eq_getElem h2,Option.getD_some]
  have hjT : j < T.length := by omega
  rw [← e1, ← e2,h.set,getD_two,c3,getD_two T j]
  simp only [h1,hjT,decide_true,Bool.true_and]
  congr 1
  by_cases hm : j ∈ unitsL (openX i c dn)
  ·rw [decide_eq_true hm]
   obtain ⟨x,hx,b⟩ := mem_unitsL.1 hm
   exact List.any_eq_true.2 ⟨x,hx,by simpa using b⟩
  ·rw [decide_eq_false hm,List.any_eq_false]
   intro x hx hb
   exact hm (mem_unitsL.2 ⟨x,hx,by simpa using hb⟩)
open Go.RowKit
theorem info205 : (Tryz.prog.info? 205).map (fun i => (i.zero,i.size,i.bytes)) = some (some (.agg #[.int .i64 0, .int .i64 0]),2,16) := by kernel_rfl
theorem openX_zero (i : Nat) (dn : List (Nat × Nat)) : openX i 0 dn = dn := by simp [openX]
theorem openX_len (i c : Nat) (dn : List (Nat × Nat)) : (openX i c dn).length = dn.length + (if c = 0 then 0 else 1) := by unfold openX;split <;> simp
theorem openX_step {i c : Nat} {dn : List (Nat × Nat)} (hc : 0 < c) (hi : c ≤ i) : ∃ h : dn.length < (openX i c dn).length,(openX i c dn)[dn.length] = (i - c,c) ∧ ecells (openX (i + 1) (c + 1) dn) = (ecells (openX i c dn)).set (dn.length * 2 + 1) (.int .i64 ((c : Int) + 1)) := by
 have h : dn.length < (openX i c dn).length := by rw [openX_len,if_neg (by omega)];omega
 refine ⟨h, ?_, ?_⟩
 ·simp only [openX,if_neg (show ¬ c = 0 by omega)]
  simp
 ·unfold openX
  rw [if_neg (by omega),if_neg (by omega),ecells_app,ecells_app,List.set_append_right _ _ (by rw [ecells_length];omega),ecells_length,show dn.length * 2 + 1 - dn.length * 2 = 1 by omega,show i + 1 - (c + 1) = i - c by omega]
  rfl
theorem openX_new (i : Nat) (dn : List (Nat × Nat)) : openX (i + 1) (0 + 1) dn = dn ++ [(i,1)] := by simp [openX]
set_option maxRecDepth 100000 in
set_option maxHeartbeats 8000000 in
theorem rtake_any (T : List Bool) (k0 most : Nat) (A : Option Addr) (cap : Nat) (w : World) (hT : Lies w A (tcells T)) (hn : T.length ≤ 100000) (hk : k0 ≤ 1000000) (hm : most ≤ 1000000) :
  Calls Tryz.prog 104 #[.agg #[.slice A T.length cap], .int .i64 k0, .int .i64 most] w fun e w' => Below w.heap.size w w' ∧
   (∀ l T1,takeS T k0 most = some (l,T1) → ∃ AO cO A1 c1,e = .returned (.tuple #[.slice AO l.length cO, .agg #[.slice A1 T1.length c1], .int .i64 0]) ∧ w'.ownsRow w.heap.size 205 2 (.slice AO l.length cO) l.length (ecells l) ∧ w'.ownsRow w.heap.size 4 1 (.slice A1 T1.length c1) T1.length (tcells T1)) ∧
   (takeS T k0 most = none → e = .returned (.tuple #[.slice none 0 0, .agg #[.slice none 0 0], .int .i64 8])) := by
 obtain ⟨i205,hi0,hi1,hi2,hi3⟩ := info_parts info205
 have KC := fun (w1 : World) (h : Lies w1 A (tcells T)) => rclone_any A T cap w1 h hn
 have hB0 := (Blk.new w #[.slice A T.length cap] 127).alloc (.cells #[.slice none 0 0] 127)
 have hB1 := Blk.new (w.alloc (.cells #[.slice A T.length cap] 127)) #[.slice none 0 0] 127
 rw [World.size_alloc] at hB1
 have hb := ((Below.refl w.heap.size w).alloc (Nat.le_refl _) (.cells #[.slice A T.length cap] 127)).alloc (by simp) (.cells #[.slice none 0 0] 127)
 have hTl := hT.below (Nat.le_refl _) hb
 have hWs : ((w.alloc (.cells #[.slice A T.length cap] 127)).alloc (.cells #[.slice none 0 0] 127)).heap.size = w.heap.size + 2 := by simp
 obtain ⟨n,hnn⟩ : ∃ q,T.length = q := ⟨_,rfl⟩
 rw [hnn] at hn hB0 hB1 hb hTl hWs ⊢
 simp only [hnn] at KC
 obtain ⟨H,hH⟩ : ∃ q,w.heap.size = q := ⟨_,rfl⟩
 obtain ⟨W,hW⟩ : ∃ q,(w.alloc (.cells #[.slice A n cap] 127)).alloc (.cells #[.slice none 0 0] 127) = q := ⟨_,rfl⟩
 rw [hH] at hB0 hB1 hb hWs ⊢
 rw [hW] at hB0 hB1 hb hTl hWs
 have HN := Lib.hid hnn
 have HH := Lib.hid (And.intro hH hW)
 have HB := Lib.hid (And.intro hB0 (And.intro hB1 (And.intro hb hWs)))
 have KW := KC W hTl
 have hk0 : ¬ ((k0 : Int) < 0) := by omega
 have hm0 : ¬ ((most : Int) < 0) := by omega
 have mixed := mixedT
 clear hT hnn hH hW hB0 hB1 hb hTl hWs KC
 go_enter Tryz.func104,Tryz.ntmps104
 go_upto_region 1 with (fail)
 try rw [HH.out.2,HH.out.1]
 try simp only [HH.out.2,HH.out.1]
 have x0 := HB.out.1.cell 0
 simp at x0
 have l0 := HB.out.1.lt
 go_upto_region 4 with (first
  | (go_at_call 131;refine KW.mono ?_;rintro e w3 ⟨A1,c1,rfl,hr,hb3⟩;have H3 := Lib.hid (And.intro hr hb3);clear hr hb3 KW))
 have hBn := Blk.new w3 #[.slice A1 n c1] 127
 have hb3 := H3.out.2.alloc H3.out.2.size (.cells #[.slice A1 n c1] 127)
 have hr3 := World.ownsRow.alloc H3.out.1 (.cells #[.slice A1 n c1] 127)
 have hsz3 := H3.out.2.size
 have hrl : ∀ g,(Value.slice A1 n c1).ownBlock = some g → W.heap.size ≤ g ∧ g < w3.heap.size := fun g hg => H3.out.1.lt g hg
 obtain ⟨N,hN⟩ : ∃ q,w3.heap.size = q := ⟨_,rfl⟩
 obtain ⟨W4,hW4⟩ : ∃ q,w3.alloc (.cells #[.slice A1 n c1] 127) = q := ⟨_,rfl⟩
 rw [hN] at hBn hsz3 hrl
 simp only [hW4] at hBn hb3 hr3 ⊢
 try simp only [hN]
 have HR1 := Lib.hid (HB.out.2.1.below hb3)
 have HS := Lib.hid (And.intro hBn (And.intro hr3 hb3))
 have HRL := Lib.hid (And.intro hrl (And.intro hsz3 HB.out.2.2.2))
 clear hBn hb3 hr3 hN hW4 hrl hsz3 x0 l0 hk0 hm0
 go_wp2
 go_loopw [1,10,11] (fun kv ov iv wr => ∃ (i k c : Nat) (dn : List (Nat × Nat)) (U : List Bool) (AO : Option Addr) (cO : Nat),i ≤ n ∧ kv = .int .i64 k ∧ ov = .slice AO (openX i c dn).length cO ∧ iv = .int .i64 i ∧ k ≤ k0 ∧ (openX i c dn).length ≤ i ∧ TS T k0 i k c dn U ∧
  wr.ownsRow W.heap.size 205 2 (.slice AO (openX i c dn).length cO) (openX i c dn).length (ecells (openX i c dn)) ∧ wr.ownsRow W.heap.size 4 1 (.slice A1 n c1) n (tcells U) ∧ Blk wr N #[.slice A1 n c1] 127 ∧ Blk wr (H + 1) #[.slice none 0 0] 127 ∧ Below W.heap.size W wr) (fun _ _ iv _ => n - (intOf iv).toNat)
 case atStart => exact ⟨0,k0,0,[],T,none,0,Nat.zero_le _,rfl,rfl,rfl,Nat.le_refl _,Nat.le_refl _,TS.start T k0,World.ownsRow_nil _ _ _ _,HS.out.2.1,HS.out.1,HR1.out,HS.out.2.2⟩
 case round =>
  clear HS HR1
  obtain ⟨i,k,c,dn,U,AO,cO,hi,rfl,rfl,rfl,hkk,hol,hts,hro,hrow,hBn,hB1,hbr⟩ := hrel
  have k0' : (0 : Int) ≤ (i : Int) := by omega
  have kk0 : (0 : Int) ≤ (k : Int) := by omega
  by_cases hgo : i < n ∧ 0 < k
  ·obtain ⟨hin,hkp⟩ := hgo
   have i1 : (i : Int) < (n : Int) := by omega
   have kp : (k : Int) > 0 := by omega
   have hiT : i < T.length := by rw [HN.out];exact hin
   obtain ⟨g2,hA1⟩ : ∃ g2,A1 = some ⟨g2,0,none⟩ := by
    rcases hrow.2 with ⟨_,h0⟩ | ⟨b,cap,cur,hv,_⟩
    ·exfalso;omega
    ·simp only [Value.slice.injEq] at hv;exact ⟨b,hv.1⟩
   subst hA1
   have hiU : i < U.length := by rw [hts.len];exact hiT
   have hsm := hts.same
   rw [List.getD_eq_getElem?_getD,List.getD_eq_getElem?_getD,List.getElem?_eq_getElem hiU,List.getElem?_eq_getElem hiT,Option.getD_some,Option.getD_some] at hsm
   have hc := hrow.cellAt i (by omega)
   rw [tcells,List.getElem?_map,List.getElem?_eq_getElem hiU,Option.map_some,hsm] at hc
   have hfz := hrow.frozenAt i
   have hgl2 := (hrow.lt g2 rfl).2
   have n0 := hBn.cell 0
   simp at n0
   have nl := hBn.lt
   cases hti : T[i] with
   | true =>
    rw [hti] at hc
    have hts2 := hts.taken hiT hti hkp
    have HS := Lib.hid (show _ ∧ _ ∧ _ ∧ _ ∧ _ ∧ _ from ⟨hts2,hro,hrow,hBn,hB1,hbr⟩)
    obtain ⟨OX,hOX⟩ : ∃ q,openX i c dn = q := ⟨_,rfl⟩
    rw [hOX] at HS hol ⊢
    have HOL := Lib.hid hol
    clear hts hro hrow hBn hB1 hbr hsm hts2 hti hOX hol
    go_wp2
    go_roundw
    case rel => exact ⟨i + 1,k,0,OX,U,AO,cO,by omega,rfl,by rw [openX_zero],by go_num,hkk,by rw [openX_zero];have := HOL.out;omega,HS.out.1,by rw [openX_zero];exact HS.out.2.1,HS.out.2.2.1,HS.out.2.2.2.1,HS.out.2.2.2.2.1,HS.out.2.2.2.2.2⟩
    case measure => simp [intOf];omega
   | false =>
    rw [hti] at hc
    have hts2 := hts.free hiT hti hkp
    have hst := hrow.stored i (.bool true)
    rw [tcells_set] at hst
    have hro1 := hro.kept hst.2 (row_ne_row hro hrow (by decide))
    have hBn1 := hBn.grown hst.2 (own_ne_blk hrow hBn (by decide))
    have hB11 := hB1.grown hst.2 (own_ne_blk hrow hB1 (by decide))
    have hbr1 := hbr.grown hst.2 hbr.size (fun g e => by cases e;exact (hrow.lt g2 rfl).1)
    have hrow1 := hst.1
    have HL1 := Lib.hid hol
    have HCI := Lib.hid (And.intro hts.ci hts.ends)
    have HT2 := Lib.hid hts2
    have HS := Lib.hid (show _ ∧ _ ∧ _ ∧ _ ∧ _ from ⟨hro1,hrow1,hBn1,hB11,hbr1⟩)
    clear hts hro hrow hBn hB1 hbr hsm hts2 hti hst hro1 hBn1 hB11 hbr1 hrow1 hol
    by_cases hcz : 0 < c
    ·obtain ⟨ho1,ho2,ho3⟩ := openX_step (dn := dn) hcz HCI.out.1
     have hol2 : (openX i c dn).length = dn.length + 1 := by rw [openX_len,if_neg (by omega)]
     obtain ⟨OX,hOX⟩ : ∃ q,openX i c dn = q := ⟨_,rfl⟩
     simp only [hOX] at HS HL1 ho1 ho2 ho3 hol2 ⊢
     obtain ⟨d,hd⟩ : ∃ q,dn.length = q := ⟨_,rfl⟩
     simp only [hd] at ho1 ho2 ho3 hol2
     have hdl : d < OX.length := ho1
     obtain ⟨a0,a1⟩ := ecells_at OX d hdl
     rw [ho2] at a0 a1
     dsimp only at a0 a1
     simp only [hol2] at HS HL1 ⊢
     obtain ⟨g3,hAO⟩ : ∃ g3,AO = some ⟨g3,0,none⟩ := by
      rcases HS.out.1.2 with ⟨_,h0⟩ | ⟨b,cap,cur,hv,_⟩
      ·exfalso;omega
      ·simp only [Value.slice.injEq] at hv;exact ⟨b,hv.1⟩
     subst hAO
     have hc1 := HCI.out.1
     have HCX := Lib.hid (And.intro a0 (And.intro a1 (And.intro ho3 hd)))
     have d100 : (d : Int) ≤ 100000 := by have := HL1.out;omega
     have d0 : (0 : Int) ≤ (d : Int) := by omega
     have hsum : ((i - c : Nat) : Int) + (c : Int) = (i : Int) := by omega
     clear ho1 ho2 ho3 hol2 a0 a1 hd hdl
     go_upto_region 12 with (fail)
     obtain ⟨wa,hwa⟩ : ∃ q,wr.setCell ⟨g2,i,none⟩ (.bool true) = q := ⟨_,rfl⟩
     simp only [hwa] at HS ⊢
     clear hwa hc hfz hgl2 n0 nl
     have c0 := HS.out.1.cellAt (d * 2) (by omega)
     have cc := HS.out.1.cellAt (d * 2 + 1) (by omega)
     rw [HCX.out.1] at c0
     rw [HCX.out.2.1] at cc
     have g3l := (HS.out.1.lt g3 rfl).2
     go_quiet (fail)
     obtain ⟨wq,hwq⟩ : ∃ q,wa.drewN nq = q := ⟨_,rfl⟩
     have HQ := Lib.hid (show wq.ownsRow W.heap.size 205 2 (.slice (some ⟨g3,0,none⟩) (d + 1) cO) (d + 1) (ecells OX) ∧ wq.ownsRow W.heap.size 4 1 (.slice (some ⟨g2,0,none⟩) n c1) n (tcells (U.set i true)) ∧ Blk wq N #[.slice (some ⟨g2,0,none⟩) n c1] 127 ∧ Blk wq (H + 1) #[.slice none 0 0] 127 ∧ Below W.heap.size W wq from by
      rw [← hwq];exact ⟨HS.out.1,HS.out.2.1,HS.out.2.2.1,HS.out.2.2.2.1,⟨HS.out.2.2.2.2.os,HS.out.2.2.2.2.tape,HS.out.2.2.2.2.output,HS.out.2.2.2.2.size,HS.out.2.2.2.2.block⟩⟩)
     rw [hwq]
     clear hwq HS c0 cc g3l
     have cc := HQ.out.1.cellAt (d * 2 + 1) (by omega)
     rw [HCX.out.2.1] at cc
     have g3l := (HQ.out.1.lt g3 rfl).2
     have cf := HQ.out.1.frozenAt (d * 2 + 1)
     have hcc : (c : Int) ≤ 100000 := by omega
     have hc0 : (0 : Int) ≤ (c : Int) := by omega
     go_wp2
     go_roundw
     case rel =>
      have hst := HQ.out.1.stored (d * 2 + 1) (.int .i64 ((c : Int) + 1))
      rw [← HCX.out.2.2.1] at hst
      have e1 : (openX (i + 1) (c + 1) dn).length = d + 1 := by rw [openX_len,if_neg (by omega),HCX.out.2.2.2]
      exact ⟨i + 1,k - 1,c + 1,dn,U.set i true,some ⟨g3,0,none⟩,cO,by omega,by go_num,by rw [e1],by go_num,by omega,by rw [e1];have := HL1.out;omega,HT2.out,by rw [e1];exact hst.1,HQ.out.2.1.kept hst.2 (row_ne_row HQ.out.2.1 HQ.out.1 (by decide)),HQ.out.2.2.1.grown hst.2 (own_ne_blk HQ.out.1 HQ.out.2.2.1 (by decide)),HQ.out.2.2.2.1.grown hst.2 (own_ne_blk HQ.out.1 HQ.out.2.2.2.1 (by decide)),HQ.out.2.2.2.2.grown hst.2 HQ.out.2.2.2.2.size (fun g e => by cases e;exact (HQ.out.1.lt g3 rfl).1)⟩
     case measure => simp [intOf];omega
    ·obtain rfl : c = 0 := by omega
     simp only [openX_zero] at HS HL1 ⊢
     obtain ⟨L,hL⟩ : ∃ q,dn.length = q := ⟨_,rfl⟩
     rw [hL] at HS HL1 ⊢
     have HLN := Lib.hid hL
     have L100 : (L : Int) ≤ 100000 := by have := HL1.out;omega
     have L0 : (0 : Int) ≤ (L : Int) := by omega
     have L1 := HL1.out
     by_cases hd0 : L = 0
     ·subst hd0
      clear hL hcz
      go_upto_region 12 with (fail)
      obtain ⟨wa,hwa⟩ : ∃ q,wr.setCell ⟨g2,i,none⟩ (.bool true) = q := ⟨_,rfl⟩
      simp only [hwa] at HS ⊢
      clear hwa hc hfz hgl2 n0 nl
      go_quiet (fail)
      obtain ⟨wq,hwq⟩ : ∃ q,wa.drewN nq = q := ⟨_,rfl⟩
      have HQ := Lib.hid (show wq.ownsRow W.heap.size 205 2 (.slice AO 0 cO) 0 (ecells dn) ∧ wq.ownsRow W.heap.size 4 1 (.slice (some ⟨g2,0,none⟩) n c1) n (tcells (U.set i true)) ∧ Blk wq N #[.slice (some ⟨g2,0,none⟩) n c1] 127 ∧ Blk wq (H + 1) #[.slice none 0 0] 127 ∧ Below W.heap.size W wq from by
       rw [← hwq];exact ⟨HS.out.1,HS.out.2.1,HS.out.2.2.1,HS.out.2.2.2.1,⟨HS.out.2.2.2.2.os,HS.out.2.2.2.2.tape,HS.out.2.2.2.2.output,HS.out.2.2.2.2.size,HS.out.2.2.2.2.block⟩⟩)
      rw [hwq]
      clear hwq HS
      have hbz := HQ.out.2.2.2.2.alloc HQ.out.2.2.2.2.size (.cells #[.int .i64 (i : Int), .int .i64 1] 205)
      have HZ := Lib.hid (show (wq.alloc (.cells #[.int .i64 (i : Int), .int .i64 1] 205)).ownsRow W.heap.size 205 2 (.slice AO 0 cO) 0 (ecells dn) ∧ Lies (wq.alloc (.cells #[.int .i64 (i : Int), .int .i64 1] 205)) (some ⟨wq.heap.size,0,none⟩) [.int .i64 (i : Int), .int .i64 1] ∧ (wq.alloc (.cells #[.int .i64 (i : Int), .int .i64 1] 205)).ownsRow W.heap.size 4 1 (.slice (some ⟨g2,0,none⟩) n c1) n (tcells (U.set i true)) ∧ Blk (wq.alloc (.cells #[.int .i64 (i : Int), .int .i64 1] 205)) N #[.slice (some ⟨g2,0,none⟩) n c1] 127 ∧ Blk (wq.alloc (.cells #[.int .i64 (i : Int), .int .i64 1] 205)) (H + 1) #[.slice none 0 0] 127 ∧ Below W.heap.size W (wq.alloc (.cells #[.int .i64 (i : Int), .int .i64 1] 205)) from
       ⟨World.ownsRow.alloc HQ.out.1 _,Lies.of_row (own_new (B := 0) (n := 1) (c := 1) (size := 2) (e := 205) (by simpa using heap_alloc_new wq (.cells #[.int .i64 (i : Int), .int .i64 1] 205)) (Nat.zero_le _) rfl rfl (by omega)),World.ownsRow.alloc HQ.out.2.1 _,HQ.out.2.2.1.alloc _,HQ.out.2.2.2.1.alloc _,hbz⟩)
      clear hbz
      go_wp2_with (first
       | (at_builtin;refine wpList_app rfl (.tmp 72) (.tmp 75) 136 205 rfl i205 _ 2 16 Tryz.underlying136 hi0 hi1 hi2 hi3 rfl (by decide) W.heap.size (.slice AO 0 cO) rfl 0 (ecells dn) HZ.out.1 (some ⟨wq.heap.size,0,none⟩) 1 1 rfl [.int .i64 (i : Int), .int .i64 1] rfl HZ.out.2.1 (by intro v hv;simp at hv;rcases hv with rfl | rfl <;> rfl) (by omega) (by decide) HZ.out.2.2.2.2.2.size ?_;intro A8 c8 w6 hr8 hg8;have H8 := Lib.hid (And.intro hr8 hg8);clear hr8 hg8))
      go_roundw
      case rel =>
       have e1 : (openX (i + 1) (0 + 1) dn).length = 0 + 1 := by rw [openX_len,if_neg (by omega),HLN.out]
       have e2 : ecells dn ++ [.int .i64 (i : Int), .int .i64 1] = ecells (openX (i + 1) (0 + 1) dn) := by rw [openX_new,ecells_app];rfl
       refine ⟨i + 1,k - 1,0 + 1,dn,U.set i true,A8,c8,by omega,by go_num,by rw [e1],by go_num,by omega,by rw [e1];have := HL1.out;omega,HT2.out, ?_,HZ.out.2.2.1.kept H8.out.2 (row_ne_row HZ.out.2.2.1 HZ.out.1 (by decide)),HZ.out.2.2.2.1.grown H8.out.2 (own_ne_blk HZ.out.1 HZ.out.2.2.2.1 (by decide)),HZ.out.2.2.2.2.1.grown H8.out.2 (own_ne_blk HZ.out.1 HZ.out.2.2.2.2.1 (by decide)),HZ.out.2.2.2.2.2.grown H8.out.2 HZ.out.2.2.2.2.2.size (fun g e => (HZ.out.1.lt g e).1)⟩
       rw [e1, ← e2]
       exact H8.out.1
      case measure => simp [intOf];omega
     ·obtain ⟨d,hd⟩ : ∃ d,L = d + 1 := ⟨L - 1,by omega⟩
      subst hd
      have hdn : d < dn.length := by omega
      have hend := HCI.out.2 _ (List.getElem_mem hdn)
      obtain ⟨a0,a1⟩ := ecells_at dn d hdn
      obtain ⟨⟨xf,xn⟩,hx⟩ : ∃ q,dn[d] = q := ⟨_,rfl⟩
      rw [hx] at hend a0 a1
      dsimp only at hend a0 a1
      obtain ⟨g3,hAO⟩ : ∃ g3,AO = some ⟨g3,0,none⟩ := by
       rcases HS.out.1.2 with ⟨_,h0⟩ | ⟨b,cap,cur,hv,_⟩
       ·exfalso;omega
       ·simp only [Value.slice.injEq] at hv;exact ⟨b,hv.1⟩
      have hne : ((xf : Int) + (xn : Int) == (i : Int)) = false := beq_eq_false_iff_ne.2 (by omega)
      have hne2 : ¬ ((xf : Int) + (xn : Int) = (i : Int)) := by omega
      have xf0 : (0 : Int) ≤ (xf : Int) := by omega
      have xn0 : (0 : Int) ≤ (xn : Int) := by omega
      have xb : (xf : Int) + (xn : Int) ≤ 100000 := by omega
      clear hL hcz hx hend
      go_upto_region 12 with (fail)
      obtain ⟨wa,hwa⟩ : ∃ q,wr.setCell ⟨g2,i,none⟩ (.bool true) = q := ⟨_,rfl⟩
      simp only [hwa] at HS ⊢
      clear hwa hc hfz hgl2 n0 nl
      subst hAO
      have c0 := HS.out.1.cellAt (d * 2) (by omega)
      have cc := HS.out.1.cellAt (d * 2 + 1) (by omega)
      rw [a0] at c0
      rw [a1] at cc
      have g3l := (HS.out.1.lt g3 rfl).2
      clear a0 a1 hdn
      go_quiet (fail)
      obtain ⟨wq,hwq⟩ : ∃ q,wa.drewN nq = q := ⟨_,rfl⟩
      have HQ := Lib.hid (show wq.ownsRow W.heap.size 205 2 (.slice (some ⟨g3,0,none⟩) (d + 1) cO) (d + 1) (ecells dn) ∧ wq.ownsRow W.heap.size 4 1 (.slice (some ⟨g2,0,none⟩) n c1) n (tcells (U.set i true)) ∧ Blk wq N #[.slice (some ⟨g2,0,none⟩) n c1] 127 ∧ Blk wq (H + 1) #[.slice none 0 0] 127 ∧ Below W.heap.size W wq from by
       rw [← hwq];exact ⟨HS.out.1,HS.out.2.1,HS.out.2.2.1,HS.out.2.2.2.1,⟨HS.out.2.2.2.2.os,HS.out.2.2.2.2.tape,HS.out.2.2.2.2.output,HS.out.2.2.2.2.size,HS.out.2.2.2.2.block⟩⟩)
      rw [hwq]
      clear hwq HS
      clear c0 cc g3l hne hne2
      have hbz := HQ.out.2.2.2.2.alloc HQ.out.2.2.2.2.size (.cells #[.int .i64 (i : Int), .int .i64 1] 205)
      have HZ := Lib.hid (show (wq.alloc (.cells #[.int .i64 (i : Int), .int .i64 1] 205)).ownsRow W.heap.size 205 2 (.slice (some ⟨g3,0,none⟩) (d + 1) cO) (d + 1) (ecells dn) ∧ Lies (wq.alloc (.cells #[.int .i64 (i : Int), .int .i64 1] 205)) (some ⟨wq.heap.size,0,none⟩) [.int .i64 (i : Int), .int .i64 1] ∧ (wq.alloc (.cells #[.int .i64 (i : Int), .int .i64 1] 205)).ownsRow W.heap.size 4 1 (.slice (some ⟨g2,0,none⟩) n c1) n (tcells (U.set i true)) ∧ Blk (wq.alloc (.cells #[.int .i64 (i : Int), .int .i64 1] 205)) N #[.slice (some ⟨g2,0,none⟩) n c1] 127 ∧ Blk (wq.alloc (.cells #[.int .i64 (i : Int), .int .i64 1] 205)) (H + 1) #[.slice none 0 0] 127 ∧ Below W.heap.size W (wq.alloc (.cells #[.int .i64 (i : Int), .int .i64 1] 205)) from
       ⟨World.ownsRow.alloc HQ.out.1 _,Lies.of_row (own_new (B := 0) (n := 1) (c := 1) (size := 2) (e := 205) (by simpa using heap_alloc_new wq (.cells #[.int .i64 (i : Int), .int .i64 1] 205)) (Nat.zero_le _) rfl rfl (by omega)),World.ownsRow.alloc HQ.out.2.1 _,HQ.out.2.2.1.alloc _,HQ.out.2.2.2.1.alloc _,hbz⟩)
      clear hbz
      go_wp2_with (first
       | (at_builtin;refine wpList_app rfl (.tmp 72) (.tmp 75) 136 205 rfl i205 _ 2 16 Tryz.underlying136 hi0 hi1 hi2 hi3 rfl (by decide) W.heap.size (.slice (some ⟨g3,0,none⟩) (d + 1) cO) rfl (d + 1) (ecells dn) HZ.out.1 (some ⟨wq.heap.size,0,none⟩) 1 1 rfl [.int .i64 (i : Int), .int .i64 1] rfl HZ.out.2.1 (by intro v hv;simp at hv;rcases hv with rfl | rfl <;> rfl) (by omega) (by decide) HZ.out.2.2.2.2.2.size ?_;intro A8 c8 w6 hr8 hg8;have H8 := Lib.hid (And.intro hr8 hg8);clear hr8 hg8))
      go_roundw
      case rel =>
       have e1 : (openX (i + 1) (0 + 1) dn).length = (d + 1) + 1 := by rw [openX_len,if_neg (by omega),HLN.out]
       have e2 : ecells dn ++ [.int .i64 (i : Int), .int .i64 1] = ecells (openX (i + 1) (0 + 1) dn) := by rw [openX_new,ecells_app];rfl
       refine ⟨i + 1,k - 1,0 + 1,dn,U.set i true,A8,c8,by omega,by go_num,by rw [e1],by go_num,by omega,by rw [e1];have := HL1.out;omega,HT2.out, ?_,HZ.out.2.2.1.kept H8.out.2 (row_ne_row HZ.out.2.2.1 HZ.out.1 (by decide)),HZ.out.2.2.2.1.grown H8.out.2 (own_ne_blk HZ.out.1 HZ.out.2.2.2.1 (by decide)),HZ.out.2.2.2.2.1.grown H8.out.2 (own_ne_blk HZ.out.1 HZ.out.2.2.2.2.1 (by decide)),HZ.out.2.2.2.2.2.grown H8.out.2 HZ.out.2.2.2.2.2.size (fun g e => (HZ.out.1.lt g e).1)⟩
       rw [e1, ← e2]
       exact H8.out.1
      case measure => simp [intOf];omega
  ·have hdone : T.length ≤ i ∨ k = 0 := by have := HN.out;omega
   have HTK := Lib.hid (hts.take hdone (most := most))
   obtain ⟨OX,hOX⟩ : ∃ q,openX i c dn = q := ⟨_,rfl⟩
   rw [hOX] at HTK hol hro ⊢
   obtain ⟨L,hL⟩ : ∃ q,OX.length = q := ⟨_,rfl⟩
   rw [hL] at HTK hol hro ⊢
   have HLL := Lib.hid (And.intro hL (hts.len.trans HN.out))
   have HS := Lib.hid (show _ ∧ _ ∧ _ ∧ _ ∧ _ from ⟨hro,hrow,hBn,hB1,hbr⟩)
   have L0 : (0 : Int) ≤ (L : Int) := by omega
   have n0 := hBn.cell 0
   simp at n0
   have nl := hBn.lt
   have hcond : ¬ ((i : Int) < (n : Int)) ∨ (((i : Int) < (n : Int)) ∧ ¬ ((k : Int) > 0)) := by omega
   clear hts hro hrow hBn hB1 hbr hOX hL hdone hgo
   rcases hcond with h | ⟨h,h2⟩
   ·go_upto_region 15 with (fail)
    clear n0 nl
    by_cases hbad : 0 < k ∨ most < L
    ·have HE := Lib.hid (show takeS T k0 most = none by rw [HTK.out,if_pos hbad])
     have r0 := HS.out.2.2.2.1.cell 0
     have rf := HS.out.2.2.2.1.frozen 0
     simp at r0
     have rl := HS.out.2.2.2.1.lt
     have hz : ((k : Int) > 0) ∨ (¬ ((k : Int) > 0) ∧ ((L : Int) > (most : Int))) := by omega
     clear hbad
     rcases hz with hz | ⟨hz,hz2⟩
     all_goals try (exfalso;omega)
     all_goals
      go_wp2
      have hB2 := HS.out.2.2.2.1.set 0 (.slice none 0 0)
      have p0 := hB2.cell 0
      simp at p0
      refine bodyPost_ret (v := .tuple #[.slice none 0 0, .agg #[.slice none 0 0], .int .i64 8]) ?_ rfl ?_
      ·simp [results,Tryz.f104,go_sem,p0]
      ·exact ⟨below_set (HB.out.2.2.1.trans (HS.out.2.2.2.2.mono (by have := HRL.out.2.2;omega))) (H + 1) 0 _ (by omega),fun l T1 h => by (rw [HE.out] at h;cases h),fun _ => rfl⟩
    ·have HE := Lib.hid (show takeS T k0 most = some (OX,U) by rw [HTK.out,if_neg hbad])
     have hz : ¬ ((k : Int) > 0) := by omega
     have hz2 : ¬ ((L : Int) > (most : Int)) := by omega
     clear hbad
     go_upto_region 17 with (fail)
     refine wp_region_held (S := fun w' => Blk w' N #[.slice A1 n c1] 127 ∧ Below H w w') mixed ?_
     change wpAnyH _ _ _ _ _ _ _ _ wr.drew
     have hS0 : Blk wr.drew N #[.slice A1 n c1] 127 ∧ Below H w wr.drew := ⟨HS.out.2.2.1,HB.out.2.2.1.trans (HS.out.2.2.2.2.drew.mono (by have := HRL.out.2.2;omega))⟩
     have HD := Lib.hid (show wr.drew.ownsRow W.heap.size 205 2 (.slice AO L cO) L (ecells OX) ∧ wr.drew.ownsRow W.heap.size 4 1 (.slice A1 n c1) n (tcells U) ∧ Blk wr.drew N #[.slice A1 n c1] 127 ∧ Blk wr.drew (H + 1) #[.slice none 0 0] 127 from ⟨HS.out.1,HS.out.2.1,HS.out.2.2.1,HS.out.2.2.2.1⟩)
     obtain ⟨wd,hwd⟩ : ∃ q,wr.drew = q := ⟨_,rfl⟩
     rw [hwd] at hS0 HD ⊢
     clear hwd
     have n0 := HD.out.2.2.1.cell 0
     simp at n0
     have nl := HD.out.2.2.1.lt
     have r0 := HD.out.2.2.2.cell 0
     have rf := HD.out.2.2.2.frozen 0
     simp at r0
     have rl := HD.out.2.2.2.lt
     refine tkQ 0 (.slice AO L cO) rfl hS0 ?_
     try go_simp
     refine tkH 1 (.agg #[.slice A1 n c1]) rfl hS0 (fun w' hS => ?_) ?_
     ·have q0 := hS.1.cell 0;simp at q0;go_simp
     try go_simp
     refine tkQ 2 (.slice AO L cO) rfl hS0 ?_
     try go_simp
     refine alH 3 ?_
     unfold wpOp
     go_simp
     have hNH : N ≠ H + 1 := by have := HRL.out.2;omega
     have hS1 : Blk (wd.setCell ⟨H + 1,0,none⟩ (.slice A1 n c1)) N #[.slice A1 n c1] 127 := (Below.heap_setCell wd ⟨H + 1,0,none⟩ _ N hNH).trans hS0.1
     have hS2 := below_set hS0.2 (H + 1) 0 (.slice A1 n c1) (by omega)
     have hB2 := HD.out.2.2.2.set 0 (.slice A1 n c1)
     have hro2 := row_block HD.out.1 (w' := wd.setCell ⟨H + 1,0,none⟩ (.slice A1 n c1)) (fun g hg => Below.heap_setCell wd ⟨H + 1,0,none⟩ (.slice A1 n c1) g (show g ≠ H + 1 from by have h1 := (HD.out.1.lt g hg).1;have h2 := HRL.out.2.2;omega))
     have hrw2 := row_block HD.out.2.1 (w' := wd.setCell ⟨H + 1,0,none⟩ (.slice A1 n c1)) (fun g hg => Below.heap_setCell wd ⟨H + 1,0,none⟩ (.slice A1 n c1) g (show g ≠ H + 1 from by have h1 := (HD.out.2.1.lt g hg).1;have h2 := HRL.out.2.2;omega))
     have HF := Lib.hid (And.intro hS2 (And.intro hB2 (And.intro hro2 hrw2)))
     have hS3 := And.intro hS1 hS2
     first | refine .inl ⟨hS3, ?_⟩ | refine ⟨hS3, ?_⟩
     refine tkQ 4 (.int .i64 0) rfl hS3 ?_
     try go_simp
     refine wpAnyH_done (by kernel_rfl) ?_ _
     clear hS0 hS1 hS2 hS3 hB2 hro2 hrw2 n0 nl r0 rf rl
     go_wp2
     have p0 := HF.out.2.1.cell 0
     simp at p0
     refine bodyPost_ret (v := .tuple #[.slice AO L cO, .agg #[.slice A1 n c1], .int .i64 0]) ?_ rfl ?_
     ·simp [results,Tryz.f104,go_sem,p0]
     ·refine ⟨HF.out.1,fun l T1 h => ?_,fun h => by (rw [HE.out] at h;cases h)⟩
      rw [HE.out] at h
      cases h
      rw [HLL.out.1,HLL.out.2]
      exact ⟨AO,cO,A1,c1,rfl,own_weaken HF.out.2.2.1 (by have := HRL.out.2.2;omega),own_weaken HF.out.2.2.2 (by have := HRL.out.2.2;omega)⟩
   ·go_upto_region 15 with (fail)
    clear n0 nl
    by_cases hbad : 0 < k ∨ most < L
    ·have HE := Lib.hid (show takeS T k0 most = none by rw [HTK.out,if_pos hbad])
     have r0 := HS.out.2.2.2.1.cell 0
     have rf := HS.out.2.2.2.1.frozen 0
     simp at r0
     have rl := HS.out.2.2.2.1.lt
     have hz : ((k : Int) > 0) ∨ (¬ ((k : Int) > 0) ∧ ((L : Int) > (most : Int))) := by omega
     clear hbad
     rcases hz with hz | ⟨hz,hz2⟩
     all_goals try (exfalso;omega)
     all_goals
      go_wp2
      have hB2 := HS.out.2.2.2.1.set 0 (.slice none 0 0)
      have p0 := hB2.cell 0
      simp at p0
      refine bodyPost_ret (v := .tuple #[.slice none 0 0, .agg #[.slice none 0 0], .int .i64 8]) ?_ rfl ?_
      ·simp [results,Tryz.f104,go_sem,p0]
      ·exact ⟨below_set (HB.out.2.2.1.trans (HS.out.2.2.2.2.mono (by have := HRL.out.2.2;omega))) (H + 1) 0 _ (by omega),fun l T1 h => by (rw [HE.out] at h;cases h),fun _ => rfl⟩
    ·have HE := Lib.hid (show takeS T k0 most = some (OX,U) by rw [HTK.out,if_neg hbad])
     have hz : ¬ ((k : Int) > 0) := by omega
     have hz2 : ¬ ((L : Int) > (most : Int)) := by omega
     clear hbad
     go_upto_region 17 with (fail)
     refine wp_region_held (S := fun w' => Blk w' N #[.slice A1 n c1] 127 ∧ Below H w w') mixed ?_
     change wpAnyH _ _ _ _ _ _ _ _ wr.drew
     have hS0 : Blk wr.drew N #[.slice A1 n c1] 127 ∧ Below H w wr.drew := ⟨HS.out.2.2.1,HB.out.2.2.1.trans (HS.out.2.2.2.2.drew.mono (by have := HRL.out.2.2;omega))⟩
     have HD := Lib.hid (show wr.drew.ownsRow W.heap.size 205 2 (.slice AO L cO) L (ecells OX) ∧ wr.drew.ownsRow W.heap.size 4 1 (.slice A1 n c1) n (tcells U) ∧ Blk wr.drew N #[.slice A1 n c1] 127 ∧ Blk wr.drew (H + 1) #[.slice none 0 0] 127 from ⟨HS.out.1,HS.out.2.1,HS.out.2.2.1,HS.out.2.2.2.1⟩)
     obtain ⟨wd,hwd⟩ : ∃ q,wr.drew = q := ⟨_,rfl⟩
     rw [hwd] at hS0 HD ⊢
     clear hwd
     have n0 := HD.out.2.2.1.cell 0
     simp at n0
     have nl := HD.out.2.2.1.lt
     have r0 := HD.out.2.2.2.cell 0
     have rf := HD.out.2.2.2.frozen 0
     simp at r0
     have rl := HD.out.2.2.2.lt
     refine tkQ 0 (.slice AO L cO) rfl hS0 ?_
     try go_simp
     refine tkH 1 (.agg #[.slice A1 n c1]) rfl hS0 (fun w' hS => ?_) ?_
     ·have q0 := hS.1.cell 0;simp at q0;go_simp
     try go_simp
     refine tkQ 2 (.slice AO L cO) rfl hS0 ?_
     try go_simp
     refine alH 3 ?_
     unfold wpOp
     go_simp
     have hNH : N ≠ H + 1 := by have := HRL.out.2;omega
     have hS1 : Blk (wd.setCell ⟨H + 1,0,none⟩ (.slice A1 n c1)) N #[.slice A1 n c1] 127 := (Below.heap_setCell wd ⟨H + 1,0,none⟩ _ N hNH).trans hS0.1
     have hS2 := below_set hS0.2 (H + 1) 0 (.slice A1 n c1) (by omega)
     have hB2 := HD.out.2.2.2.set 0 (.slice A1 n c1)
     have hro2 := row_block HD.out.1 (w' := wd.setCell ⟨H + 1,0,none⟩ (.slice A1 n c1)) (fun g hg => Below.heap_setCell wd ⟨H + 1,0,none⟩ (.slice A1 n c1) g (show g ≠ H + 1 from by have h1 := (HD.out.1.lt g hg).1;have h2 := HRL.out.2.2;omega))
     have hrw2 := row_block HD.out.2.1 (w' := wd.setCell ⟨H + 1,0,none⟩ (.slice A1 n c1)) (fun g hg => Below.heap_setCell wd ⟨H + 1,0,none⟩ (.slice A1 n c1) g (show g ≠ H + 1 from by have h1 := (HD.out.2.1.lt g hg).1;have h2 := HRL.out.2.2;omega))
     have HF := Lib.hid (And.intro hS2 (And.intro hB2 (And.intro hro2 hrw2)))
     have hS3 := And.intro hS1 hS2
     first | refine .inl ⟨hS3, ?_⟩ | refine ⟨hS3, ?_⟩
     refine tkQ 4 (.int .i64 0) rfl hS3 ?_
     try go_simp
     refine wpAnyH_done (by kernel_rfl) ?_ _
     clear hS0 hS1 hS2 hS3 hB2 hro2 hrw2 n0 nl r0 rf rl
     go_wp2
     have p0 := HF.out.2.1.cell 0
     simp at p0
     refine bodyPost_ret (v := .tuple #[.slice AO L cO, .agg #[.slice A1 n c1], .int .i64 0]) ?_ rfl ?_
     ·simp [results,Tryz.f104,go_sem,p0]
     ·refine ⟨HF.out.1,fun l T1 h => ?_,fun h => by (rw [HE.out] at h;cases h)⟩
      rw [HE.out] at h
      cases h
      rw [HLL.out.1,HLL.out.2]
      exact ⟨AO,cO,A1,c1,rfl,own_weaken HF.out.2.2.1 (by have := HRL.out.2.2;omega),own_weaken HF.out.2.2.2 (by have := HRL.out.2.2;omega)⟩
end Go.Proofs.YtcmcdddnckcpcaaGreatDoor
