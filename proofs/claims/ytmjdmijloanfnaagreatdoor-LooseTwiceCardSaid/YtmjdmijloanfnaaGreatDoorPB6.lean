/- LooseTwice: the row and its tied card. -/
import Derived.Test.YtmjdmijloanfnaaGreatDoorPB1
import Derived.Test.YtmjdmijloanfnaaGreatDoorPB5
import Derived.Laws.LoneSync
import Derived.Test.YtmjdmijloanfnaaGreatDoorRows
import Derived.ProofKit
import Derived.LaidMore
import Derived.OpenShut
import Derived.ShutString
import Derived.Deep.DeepHandedRow
import Derived.Shelf.Vars
import Derived.MakeChecks
import Derived.Lib.LaidTab
import Derived.Test.YtmjdmijloanfnaaGreatDoorPB2
import Derived.Test.YtmjdmijloanfnaaGreatDoorCards
import Derived.Test.YtmjdmijloanfnaaGreatDoorTie
namespace Go.Proofs.YtmjdmijloanfnaaGreatDoor
open Go.RowKit Go.Maps
theorem finW_ok {r : Nat × DS} {F : List FileM} {T : List Bool} {m : StoM} (h : r.1 = 0) : finW r F T m = (0,⟨r.2,F,T,m.most,m.off⟩) := by unfold finW;rw [if_pos h]
theorem opW_inv {m : StoM} (h : Inv m) (n d : Bs) : Inv (opW m n d).2 ∧ (opW m n d).2.most = m.most ∧ (opW m n d).2.T.length = m.T.length := by
 unfold opW
 cases hq : (preW m n d).2 with
 | none => exact ⟨h,rfl,rfl⟩
 | some q =>
  obtain ⟨T2,f⟩ := q
  obtain ⟨h1,h2⟩ := inv_put h (preW_zero hq)
  simp only
  rw [finW_ok h1]
  exact ⟨h2,rfl,inv_same_len h h2⟩
theorem opN_inv {m : StoM} (h : Inv m) (a b : Bs) : Inv (opN m a b).2 ∧ (opN m a b).2.most = m.most ∧ (opN m a b).2.T.length = m.T.length := by
 unfold opN
 cases hq : (preN m a b).2 with
 | none => exact ⟨h,rfl,rfl⟩
 | some q =>
  obtain ⟨T2,C,F2⟩ := q
  obtain ⟨h1,h2⟩ := inv_rename h (preN_zero hq)
  simp only
  rw [finW_ok h1]
  exact ⟨h2,rfl,inv_same_len h h2⟩
theorem opR_inv {m : StoM} (h : Inv m) (n : Bs) : Inv (opR m n).2 ∧ (opR m n).2.most = m.most ∧ (opR m n).2.T.length = m.T.length := by
 unfold opR
 cases hq : (preR m n).2 with
 | none => exact ⟨h,rfl,rfl⟩
 | some q =>
  obtain ⟨T2,f⟩ := q
  obtain ⟨hg,hf,hz⟩ := preR_zero hq
  obtain ⟨T3,h0,h1,h2,h3⟩ := inv_remove h hg hf
  rw [hz] at h0
  simp only [Prod.mk.injEq,Option.some.injEq,and_true,true_and] at h0
  subst h0
  simp only
  rw [finW_ok h1]
  have hn := fileOf_name hf
  simp only at hn
  rw [hn]
  exact ⟨h2,rfl,h3⟩
theorem readF_len2 {m : StoM} (h : Rdy m) (hd : DGood m.ds) {f : FileM} (hf : f ∈ m.F) : (readF m f).length = f.size := by
 have hb := h.b.ll
 unfold readF
 rw [List.length_take,secsB_len hd _ (fun i hi => by
  obtain ⟨x,hx,h1,h2⟩ := secL_mem hi
  have := h.b.exb f hf x hx
  omega),secL_length,h.sum f hf]
 unfold needsN
 omega
open Go.RowKit
theorem add1_any (a : Addr) (n : Int) (w : World) (h0 : 0 ≤ n) (h1 : n < 1000000) (hc : w.cell? a = some (.int .i64 n)) (hz : w.frozen? a = false) :
  Calls Tryz.prog 34 #[.pointer (some a), .int .i64 1] w fun e w' => (∃ v,e = .returned v) ∧ w' = w.setCell a (.int .i64 (n + 1)) := by
 have hadd := run_call_add (P := Tryz.prog) Tryz.func76 (by kernel_rfl) (by kernel_rfl) (by kernel_rfl) .i64 (by kernel_rfl) (y := 1) (s := n + 1) hc hz (by simp [go_sem];rw [Go.IntWalk.i64_left,Go.IntWalk.wrap64_in _ (by omega)])
 go_enter Tryz.func34,Tryz.ntmps34
 go_wp2
 go_ret
 exact ⟨⟨_,rfl⟩,rfl⟩
theorem Loo.set {w : World} {X : List Nat} {S D Lg M : Nat} {m : StoM} {L p q r : Nat} (h : Loo w X S D Lg M m L p q r) (i : Nat) (v : Value) (p' q' r' : Nat)
  (hcs : (#[.pointer (some ⟨S,0,none⟩), .int .i64 (p : Int), .int .i64 (q : Int), .int .i64 (r : Int)] : Array Value).setIfInBounds i v = #[.pointer (some ⟨S,0,none⟩), .int .i64 (p' : Int), .int .i64 (q' : Int), .int .i64 (r' : Int)]) :
  Loo (w.setCell ⟨L,i,none⟩ v) X S D Lg M m L p' q' r' where
 sto := h.sto.away2 (grown_set w L i v) h.blk (by decide) (by decide) (by decide) (fun hx => h.apart.1 (List.mem_cons_of_mem _ (List.mem_cons_of_mem _ hx))) h.apart.2
 blk := by have := h.blk.set i v;rwa [hcs] at this
 apart := h.apart
 rt := fun k hk => (World.cell?_of_block (Below.heap_setCell w ⟨L,i,none⟩ v 0 (by have := h.apart.2;show 0 ≠ L;omega))).trans (h.rt k hk)
 zero := h.zero
theorem findE_name (F : List FileM) {id : Bs} (h : id.length ≤ 32) : findE F (nameL id) = 0 ∨ findE F (nameL id) = 9 := by
 unfold findE
 rw [if_pos (nameL_good h)]
 split
 ·exact .inl rfl
 ·exact .inr rfl
theorem findE_tmp (F : List FileM) : findE F tmpL = 0 ∨ findE F tmpL = 9 := by
 unfold findE
 rw [if_pos (by decide)]
 split
 ·exact .inl rfl
 ·exact .inr rfl
def putL (m : StoM) (p q : Nat) (d : Bs) : (Bs × Nat) × StoM × Nat × Nat :=
 if 262208 < d.length then (([],6),m,p,q) else
 if findE m.F (nameL (shaS d)) = 0 then ((shaS d,0),m,p,q + 1) else
 if (opW m tmpL d).1 = 0 then
  (if (opN (opW m tmpL d).2 tmpL (nameL (shaS d))).1 = 0 then ((shaS d,0),(opN (opW m tmpL d).2 tmpL (nameL (shaS d))).2,p + 1,q)
   else (([],(opN (opW m tmpL d).2 tmpL (nameL (shaS d))).1),(opN (opW m tmpL d).2 tmpL (nameL (shaS d))).2,p,q))
 else (([],(opW m tmpL d).1),(opW m tmpL d).2,p,q)
def PutLP (X : List Nat) (S D Lg M L : Nat) (o : (Bs × Nat) × StoM × Nat × Nat) (r : Nat) (w : World) (e : Ending) (w' : World) : Prop :=
 e = .returned (.tuple #[.string (mk o.1.1), .int .i64 (o.1.2 : Int)]) ∧ ∃ X',Mv (L :: S :: M :: X) (L :: S :: M :: X') w w' ∧ Loo w' X' S D Lg M o.2.1 L o.2.2.1 o.2.2.2 r
set_option maxRecDepth 100000 in
set_option maxHeartbeats 2000000 in
theorem put_loose {X : List Nat} {S D Lg M : Nat} {m : StoM} {L p q r : Nat} (d : Bs) (w : World) (h : Loo w X S D Lg M m L p q r) (hi : Inv m) (hd : d.length ≤ 1000000000) (hp : p < 1000000) (hq : q < 1000000) :
  Calls Tryz.prog 8 #[.pointer (some ⟨L,0,none⟩), .string (mk d)] w (PutLP X S D Lg M L (putL m p q d) r w) := by
 have hs32 := shaS_length d
 have hnl : (nameL (shaS d)).length ≤ maxLen := by rw [nameL_length,hs32];decide
 have htl : tmpL.length ≤ maxLen := by decide
 have hi2 := (opW_inv hi tmpL d).1
 have zd : (mk d).size = d.length := mk_size d
 have hE2 := findE_name m.F (id := shaS d) (by omega)
 have hE1 := findE_tmp m.F
 obtain ⟨ID,hID⟩ : ∃ q,shaS d = q := ⟨_,rfl⟩
 obtain ⟨a,ha⟩ : ∃ q,opW m tmpL d = q := ⟨_,rfl⟩
 obtain ⟨b,hb⟩ : ∃ q,opN a.2 tmpL (nameL ID) = q := ⟨_,rfl⟩
 obtain ⟨E1,hE⟩ : ∃ q,findE m.F tmpL = q := ⟨_,rfl⟩
 obtain ⟨E2,hEE⟩ : ∃ q,findE m.F (nameL ID) = q := ⟨_,rfl⟩
 obtain ⟨Z1,hZ⟩ : ∃ q,sizeW m.F tmpL = q := ⟨_,rfl⟩
 obtain ⟨Y,hY⟩ : ∃ q,mk d = q := ⟨_,rfl⟩
 obtain ⟨I,hI⟩ : ∃ q,mk ID = q := ⟨_,rfl⟩
 obtain ⟨NM,hNM⟩ : ∃ q,mk (nameL ID) = q := ⟨_,rfl⟩
 obtain ⟨A1,hA1⟩ : ∃ q,a.1 = q := ⟨_,rfl⟩
 obtain ⟨B1,hB1⟩ : ∃ q,b.1 = q := ⟨_,rfl⟩
 have KS : Calls Tryz.prog 32 #[.pointer (some ⟨S,0,none⟩), .string ⟨#[116,109,112]⟩] w fun e w' => e = .returned (.tuple #[.int .i64 (Z1 : Nat), .int .i64 (E1 : Nat)]) ∧ Below w.heap.size w w' := by
  rw [← hZ, ← hE];exact fsize_any X S D Lg M m tmpL w h.sto hi.up hi.on htl
 have KSUM : ∀ (g : Nat) (w1 : World),Below w.heap.size w w1 → w1.cell? ⟨g,0,none⟩ = some (.string Y) → Calls Tryz.prog 31 #[.slice (some ⟨g,0,none⟩) 1 1] w1 fun e w' => e = .returned (.string I) ∧ Below w1.heap.size w1 w' := fun g w1 hb hc => by
  rw [← hI, ← hID];exact sum1_any d g 0 1 w1 (by rw [hc,hY]) hd (h.rt.below h.pos hb) (Nat.lt_of_lt_of_le h.pos hb.size)
 have KK : ∀ w1,Below w.heap.size w w1 → Calls Tryz.prog 33 #[.pointer (some ⟨L,0,none⟩), .string I] w1 fun e w' => e = .returned (.int .i64 (E2 : Nat)) ∧ Below w1.heap.size w1 w' := fun w1 hb => by
  rw [← hI, ← hEE, ← hID];exact known_any (shaS d) w1 (h.below hb) hi.rdy hs32
 have KW : ∀ w1,Below w.heap.size w w1 → Calls Tryz.prog 20 #[.pointer (some ⟨S,0,none⟩), .string ⟨#[116,109,112]⟩, .string Y] w1 fun e w' => e = .returned (.int .i64 (A1 : Nat)) ∧ ∃ X',Mv (S :: M :: X) (S :: M :: X') w1 w' ∧ Sto w' X' S D Lg M a.2 := fun w1 hb => by
  rw [← hA1, ← ha, ← hY];exact opW_any X S D Lg M m tmpL d w1 (h.below hb).sto hi.rdy htl
 have KM : ∀ w1,Calls Tryz.prog 36 #[.string I] w1 fun e w' => e = .returned (.string NM) ∧ Below w1.heap.size w1 w' := fun w1 => by
  rw [← hI, ← hNM, ← hID];exact name_any (shaS d) w1 hs32
 have KR : ∀ X1 w1,Sto w1 X1 S D Lg M a.2 → Calls Tryz.prog 35 #[.pointer (some ⟨S,0,none⟩), .string ⟨#[116,109,112]⟩, .string NM] w1 fun e w' => e = .returned (.int .i64 (B1 : Nat)) ∧ ∃ X',Mv (S :: M :: X1) (S :: M :: X') w1 w' ∧ Sto w' X' S D Lg M b.2 := fun X1 w1 h1 => by
  rw [ha] at hi2
  rw [hID] at hnl
  rw [← hB1, ← hb, ← hNM];exact opN_any X1 S D Lg M a.2 tmpL (nameL ID) w1 h1 hi2.rdy htl hnl
 have hP : putL m p q d = if 262208 < d.length then (([],6),m,p,q) else if E2 = 0 then ((ID,0),m,p,q + 1) else if A1 = 0 then (if B1 = 0 then ((ID,0),b.2,p + 1,q) else (([],B1),b.2,p,q)) else (([],A1),a.2,p,q) := by
  unfold putL
  rw [hID,hEE,ha,hA1,hb,hB1]
 have c0 := fun (w1 : World) (hb : Below w.heap.size w w1) => (h.blk.below hb).cell 0
 have c2 := fun (w1 : World) (hb : Below w.heap.size w w1) => (h.blk.below hb).cell 2
 have f2 := fun (w1 : World) (hb : Below w.heap.size w w1) => (h.blk.below hb).frozen 2
 simp at c0 c2
 have c00 := c0 w (Below.refl _ _)
 rw [hE] at hE1
 rw [hID,hEE] at hE2
 have e7 : ((E1 : Int) == 7) = false := by rcases hE1 with rfl | rfl <;> rfl
 have HI := Lib.hid hI
 obtain ⟨dl,hdl⟩ : ∃ q,d.length = q := ⟨_,rfl⟩
 rw [hdl] at zd hd hP
 rw [hY] at zd ⊢
 obtain ⟨P,hPP⟩ : ∃ t,putL m p q d = t := ⟨_,rfl⟩
 rw [hPP] at hP ⊢
 have HKS := Lib.hid KS
 have HKSUM := Lib.hid KSUM
 have HKK := Lib.hid KK
 have HKW := Lib.hid KW
 have HKM := Lib.hid KM
 have HKR := Lib.hid KR
 have HC := Lib.hid (And.intro c0 (And.intro c2 f2))
 have HH := Lib.hid h
 have mixed := mixedT
 clear KS KSUM KK KW KM KR c0 c2 f2 hi2 hE hZ hE1 hY hI hNM hdl hi h hs32 hnl htl hID ha hb hEE hA1 hB1 hPP
 by_cases hlong : 262208 < dl
 ·rw [if_pos hlong] at hP
  have HP := Lib.hid hP
  have hl2 : (262208 : Int) < (dl : Int) := by omega
  clear hP hE2
  go_enter Tryz.func8,Tryz.ntmps8
  go_wp2_with (go_at_call 32;refine HKS.out.mono ?_;rintro e w1 ⟨rfl,hb1⟩;have HB1 := Lib.hid hb1;clear hb1)
  go_ret2
  unfold PutLP
  rw [HP.out]
  exact ⟨rfl,X,Mv.of_below _ HB1.out,HH.out.below HB1.out⟩
 ·rw [if_neg hlong] at hP
  have hl2 : (dl : Int) ≤ 262208 := by omega
  rcases hE2 with rfl | rfl
  ·rw [if_pos rfl] at hP
   have HP := Lib.hid hP
   clear hP hlong
   go_enter Tryz.func8,Tryz.ntmps8
   go_wp2_with (first
    | (go_at_call 32;refine HKS.out.mono ?_;rintro e w1 ⟨rfl,hb1⟩;have HB1 := Lib.hid hb1;clear hb1)
    | (go_at_call 31;refine (HKSUM.out _ _ (HB1.out.alloc HB1.out.size (.cells #[.string Y] 9)) ((Blk.new _ #[.string Y] 9).cell 0)).mono ?_;rintro e w2 ⟨rfl,hb2⟩;have HB2 := Lib.hid (below_step (HB1.out.alloc HB1.out.size (.cells #[.string Y] 9)) hb2);clear hb2)
    | (go_at_call 33;refine (HKK.out _ HB2.out).mono ?_;rintro e w3 ⟨rfl,hb3⟩;have HB3 := Lib.hid (below_step HB2.out hb3);clear hb3)
    | (go_at_call 34;refine (add1_any ⟨L,2,none⟩ q w3 (by omega) (by omega) (HC.out.2.1 w3 HB3.out) (HC.out.2.2 w3 HB3.out)).mono ?_;rintro e w4 ⟨⟨v4,rfl⟩,rfl⟩))
   go_ret2
   unfold PutLP
   rw [HP.out]
   exact ⟨congrArg (fun t => Ending.returned (Value.tuple #[.string t, .int .i64 0])) HI.out.symm,X,(Mv.of_below _ HB3.out).trans (Mv.of_grown (grown_set w3 L 2 _) (List.mem_cons_self ..)),(HH.out.below HB3.out).set 2 _ p (q + 1) r (by simp)⟩
  ·rw [if_neg (by decide)] at hP
   by_cases hA : A1 = 0
   ·rw [if_pos hA] at hP
    subst hA
    by_cases hB : B1 = 0
    ·rw [if_pos hB] at hP
     have HP := Lib.hid hP
     subst hB
     clear hP hlong
     go_enter Tryz.func8,Tryz.ntmps8
     go_wp2_with (first
    | (go_at_call 32;refine HKS.out.mono ?_;rintro e w1 ⟨rfl,hb1⟩;have HB1 := Lib.hid hb1;clear hb1)
    | (go_at_call 31;refine (HKSUM.out _ _ (HB1.out.alloc HB1.out.size (.cells #[.string Y] 9)) ((Blk.new _ #[.string Y] 9).cell 0)).mono ?_;rintro e w2 ⟨rfl,hb2⟩;have HB2 := Lib.hid (below_step (HB1.out.alloc HB1.out.size (.cells #[.string Y] 9)) hb2);clear hb2)
    | (go_at_call 33;refine (HKK.out _ HB2.out).mono ?_;rintro e w3 ⟨rfl,hb3⟩;have HB3 := Lib.hid (below_step HB2.out hb3);have c03 := HC.out.1 w3 HB3.out;clear hb3)
    | (go_at_call 20;refine (HKW.out w3 HB3.out).mono ?_;rintro e w4 ⟨rfl,X4,hm4,hs4⟩;have HL4 := Lib.hid (And.intro ((HH.out.below HB3.out).mv hm4 hs4) ((Mv.of_below _ HB3.out).trans (hm4.cons L)));clear hm4 hs4))
     have hL4 := HL4.out.1.below ((Below.refl w4.heap.size w4).drew)
     have hm4 := HL4.out.2.trans (Mv.of_below (L :: S :: M :: X4) ((Below.refl w4.heap.size w4).drew))
     refine wp_region_held (S := fun w' => Blk w' L #[.pointer (some ⟨S,0,none⟩), .int .i64 (p : Int), .int .i64 (q : Int), .int .i64 (r : Int)] 75) mixed ?_
     change wpAnyH _ _ _ _ _ _ _ _ w4.drew
     obtain ⟨W0,hW0⟩ : ∃ t,w4.drew = t := ⟨_,rfl⟩
     rw [hW0] at hL4 hm4 ⊢
     clear hW0
     have hS0 := hL4.blk
     refine tkQ 0 (.pointer (some ⟨L,0,none⟩)) rfl hS0 ?_
     try go_simp
     refine tkQ 1 (.pointer (some ⟨L,0,none⟩)) rfl hS0 ?_
     try go_simp
     refine tkQ 2 (.pointer (some ⟨L,0,none⟩)) rfl hS0 ?_
     try go_simp
     refine tkH 3 (.pointer (some ⟨S,0,none⟩)) rfl hS0 (fun w' hS => ?_) ?_
     ·have q0 := hS.cell 0;simp at q0;go_simp
     try go_simp
     refine tkQ 4 (.string I) rfl hS0 ?_
     try go_simp
     refine alH 5 ?_
     unfold wpOp
     go_simp
     refine .inl ?_
     refine (HKM.out W0).mono ?_
     rintro e w5 ⟨rfl,hb5⟩
     have hL5 := hL4.below hb5
     have hm5 := hm4.trans (Mv.of_below (L :: S :: M :: X4) hb5)
     have hS1 := hL5.blk
     refine ⟨hS1, ?_⟩
     try go_simp
     clear hS0 hb5 hL4 hm4
     refine alH 6 ?_
     unfold wpOp
     go_simp
     refine .inl ?_
     refine (HKR.out X4 w5 hL5.sto).mono ?_
     rintro e w6 ⟨rfl,X6,hm6,hs6⟩
     have HL6 := Lib.hid (And.intro (hL5.mv hm6 hs6) (hm5.trans (hm6.cons L)))
     have hS2 := HL6.out.1.blk
     refine ⟨hS2, ?_⟩
     try go_simp
     clear hS1 hL5 hm5 hm6 hs6
     refine tkQ 7 (.int .i64 0) rfl hS2 ?_
     try go_simp
     refine wpAnyH_done (by kernel_rfl) ?_ _
     have c1 := HL6.out.1.blk.cell 1
     have f1 := HL6.out.1.blk.frozen 1
     simp at c1
     have HCC := Lib.hid (And.intro c1 f1)
     clear hS2 c1 f1
     go_wp2_with (go_at_call 34;refine (add1_any ⟨L,1,none⟩ p w6 (by omega) (by omega) HCC.out.1 HCC.out.2).mono ?_;rintro e w7 ⟨⟨v7,rfl⟩,rfl⟩)
     go_ret2
     unfold PutLP
     rw [HP.out]
     exact ⟨congrArg (fun t => Ending.returned (Value.tuple #[.string t, .int .i64 0])) HI.out.symm,X6,HL6.out.2.trans (Mv.of_grown (grown_set w6 L 1 _) (List.mem_cons_self ..)),HL6.out.1.set 1 _ (p + 1) q r (by simp)⟩
    ·rw [if_neg hB] at hP
     have HP := Lib.hid hP
     have a1 : ((B1 : Int) == 0) = false := by simpa using hB
     have a2 : ((B1 : Int) != 0) = true := by simpa using hB
     have a3 : ¬ (B1 : Int) = 0 := by omega
     clear hP hlong hB
     go_enter Tryz.func8,Tryz.ntmps8
     go_wp2_with (first
    | (go_at_call 32;refine HKS.out.mono ?_;rintro e w1 ⟨rfl,hb1⟩;have HB1 := Lib.hid hb1;clear hb1)
    | (go_at_call 31;refine (HKSUM.out _ _ (HB1.out.alloc HB1.out.size (.cells #[.string Y] 9)) ((Blk.new _ #[.string Y] 9).cell 0)).mono ?_;rintro e w2 ⟨rfl,hb2⟩;have HB2 := Lib.hid (below_step (HB1.out.alloc HB1.out.size (.cells #[.string Y] 9)) hb2);clear hb2)
    | (go_at_call 33;refine (HKK.out _ HB2.out).mono ?_;rintro e w3 ⟨rfl,hb3⟩;have HB3 := Lib.hid (below_step HB2.out hb3);have c03 := HC.out.1 w3 HB3.out;clear hb3)
    | (go_at_call 20;refine (HKW.out w3 HB3.out).mono ?_;rintro e w4 ⟨rfl,X4,hm4,hs4⟩;have HL4 := Lib.hid (And.intro ((HH.out.below HB3.out).mv hm4 hs4) ((Mv.of_below _ HB3.out).trans (hm4.cons L)));clear hm4 hs4))
     have hL4 := HL4.out.1.below ((Below.refl w4.heap.size w4).drew)
     have hm4 := HL4.out.2.trans (Mv.of_below (L :: S :: M :: X4) ((Below.refl w4.heap.size w4).drew))
     refine wp_region_held (S := fun w' => Blk w' L #[.pointer (some ⟨S,0,none⟩), .int .i64 (p : Int), .int .i64 (q : Int), .int .i64 (r : Int)] 75) mixed ?_
     change wpAnyH _ _ _ _ _ _ _ _ w4.drew
     obtain ⟨W0,hW0⟩ : ∃ t,w4.drew = t := ⟨_,rfl⟩
     rw [hW0] at hL4 hm4 ⊢
     clear hW0
     have hS0 := hL4.blk
     refine tkQ 0 (.pointer (some ⟨L,0,none⟩)) rfl hS0 ?_
     try go_simp
     refine tkQ 1 (.pointer (some ⟨L,0,none⟩)) rfl hS0 ?_
     try go_simp
     refine tkQ 2 (.pointer (some ⟨L,0,none⟩)) rfl hS0 ?_
     try go_simp
     refine tkH 3 (.pointer (some ⟨S,0,none⟩)) rfl hS0 (fun w' hS => ?_) ?_
     ·have q0 := hS.cell 0;simp at q0;go_simp
     try go_simp
     refine tkQ 4 (.string I) rfl hS0 ?_
     try go_simp
     refine alH 5 ?_
     unfold wpOp
     go_simp
     refine .inl ?_
     refine (HKM.out W0).mono ?_
     rintro e w5 ⟨rfl,hb5⟩
     have hL5 := hL4.below hb5
     have hm5 := hm4.trans (Mv.of_below (L :: S :: M :: X4) hb5)
     have hS1 := hL5.blk
     refine ⟨hS1, ?_⟩
     try go_simp
     clear hS0 hb5 hL4 hm4
     refine alH 6 ?_
     unfold wpOp
     go_simp
     refine .inl ?_
     refine (HKR.out X4 w5 hL5.sto).mono ?_
     rintro e w6 ⟨rfl,X6,hm6,hs6⟩
     have HL6 := Lib.hid (And.intro (hL5.mv hm6 hs6) (hm5.trans (hm6.cons L)))
     have hS2 := HL6.out.1.blk
     refine ⟨hS2, ?_⟩
     try go_simp
     clear hS1 hL5 hm5 hm6 hs6
     refine tkQ 7 (.int .i64 (B1 : Int)) rfl hS2 ?_
     try go_simp
     refine wpAnyH_done (by kernel_rfl) ?_ _
     clear hS2
     go_wp2
     go_ret2
     unfold PutLP
     rw [HP.out]
     exact ⟨rfl,X6,HL6.out.2,HL6.out.1⟩
   ·rw [if_neg hA] at hP
    have HP := Lib.hid hP
    have a1 : ((A1 : Int) == 0) = false := by simpa using hA
    have a2 : ((A1 : Int) != 0) = true := by simpa using hA
    have a3 : ¬ (A1 : Int) = 0 := by omega
    clear hP hlong hA
    go_enter Tryz.func8,Tryz.ntmps8
    go_wp2_with (first
    | (go_at_call 32;refine HKS.out.mono ?_;rintro e w1 ⟨rfl,hb1⟩;have HB1 := Lib.hid hb1;clear hb1)
    | (go_at_call 31;refine (HKSUM.out _ _ (HB1.out.alloc HB1.out.size (.cells #[.string Y] 9)) ((Blk.new _ #[.string Y] 9).cell 0)).mono ?_;rintro e w2 ⟨rfl,hb2⟩;have HB2 := Lib.hid (below_step (HB1.out.alloc HB1.out.size (.cells #[.string Y] 9)) hb2);clear hb2)
    | (go_at_call 33;refine (HKK.out _ HB2.out).mono ?_;rintro e w3 ⟨rfl,hb3⟩;have HB3 := Lib.hid (below_step HB2.out hb3);have c03 := HC.out.1 w3 HB3.out;clear hb3)
    | (go_at_call 20;refine (HKW.out w3 HB3.out).mono ?_;rintro e w4 ⟨rfl,X4,hm4,hs4⟩;have HL4 := Lib.hid (And.intro ((HH.out.below HB3.out).mv hm4 hs4) ((Mv.of_below _ HB3.out).trans (hm4.cons L)));clear hm4 hs4))
    go_ret2
    unfold PutLP
    rw [HP.out]
    exact ⟨rfl,X4,HL4.out.2,HL4.out.1⟩
open Go.RowKit
def getL (m : StoM) (r : Nat) (id : Bs) : (Bs × Nat) × Nat :=
 if findE m.F (nameL id) = 0 then (if shaS (readW m (nameL id)) = id then ((readW m (nameL id),0),r + 1) else (([],14),r)) else (([],findE m.F (nameL id)),r)
def GetLP (X : List Nat) (S D Lg M L : Nat) (m : StoM) (p q : Nat) (o : (Bs × Nat) × Nat) (w : World) (e : Ending) (w' : World) : Prop :=
 e = .returned (.tuple #[.string (mk o.1.1), .int .i64 (o.1.2 : Int)]) ∧ Mv (L :: S :: M :: X) (L :: S :: M :: X) w w' ∧ Loo w' X S D Lg M m L p q o.2
set_option maxRecDepth 100000 in
set_option maxHeartbeats 2000000 in
theorem get_loose {X : List Nat} {S D Lg M : Nat} {m : StoM} {L p q r : Nat} (id : Bs) (w : World) (h : Loo w X S D Lg M m L p q r) (hi : Rdy m) (hd : id.length = 32) (hr : r < 1000000) (hrd : (readW m (nameL id)).length ≤ 1000000000) :
  Calls Tryz.prog 9 #[.pointer (some ⟨L,0,none⟩), .string (mk id)] w (GetLP X S D Lg M L m p q (getL m r id) w) := by
 have hnl : (nameL id).length ≤ maxLen := by rw [nameL_length,hd];decide
 have zs : (mk id).size = 32 := by rw [mk_size,hd]
 have hE2 := findE_name m.F (id := id) (by omega)
 obtain ⟨E,hE⟩ : ∃ t,findE m.F (nameL id) = t := ⟨_,rfl⟩
 obtain ⟨v,hv⟩ : ∃ t,readW m (nameL id) = t := ⟨_,rfl⟩
 obtain ⟨Y,hY⟩ : ∃ t,mk id = t := ⟨_,rfl⟩
 obtain ⟨V,hV⟩ : ∃ t,mk v = t := ⟨_,rfl⟩
 obtain ⟨NM,hNM⟩ : ∃ t,mk (nameL id) = t := ⟨_,rfl⟩
 obtain ⟨I,hI⟩ : ∃ t,mk (shaS v) = t := ⟨_,rfl⟩
 have KM : ∀ w1,Calls Tryz.prog 36 #[.string Y] w1 fun e w' => e = .returned (.string NM) ∧ Below w1.heap.size w1 w' := fun w1 => by
  rw [← hY, ← hNM];exact name_any id w1 hd
 have KR : ∀ w1,Below w.heap.size w w1 → Calls Tryz.prog 37 #[.pointer (some ⟨S,0,none⟩), .string NM] w1 fun e w' => e = .returned (.tuple #[.string V, .int .i64 (E : Nat)]) ∧ Below w1.heap.size w1 w' := fun w1 hb => by
  rw [← hE, ← hNM, ← hV, ← hv];exact opS_any X S D Lg M m (nameL id) w1 (h.below hb).sto hi hnl
 have KSUM : ∀ (g : Nat) (w1 : World),Below w.heap.size w w1 → w1.cell? ⟨g,0,none⟩ = some (.string V) → Calls Tryz.prog 31 #[.slice (some ⟨g,0,none⟩) 1 1] w1 fun e w' => e = .returned (.string I) ∧ Below w1.heap.size w1 w' := fun g w1 hb hc => by
  rw [← hI];exact sum1_any v g 0 1 w1 (by rw [hc,hV]) (by rw [← hv];exact hrd) (h.rt.below h.pos hb) (Nat.lt_of_lt_of_le h.pos hb.size)
 have c0 := fun (w1 : World) (hb : Below w.heap.size w w1) => (h.blk.below hb).cell 0
 simp at c0
 have hP : getL m r id = if E = 0 then (if shaS v = id then ((v,0),r + 1) else (([],14),r)) else (([],E),r) := by unfold getL;rw [hE,hv]
 obtain ⟨P,hPP⟩ : ∃ t,getL m r id = t := ⟨_,rfl⟩
 rw [hPP] at hP ⊢
 rw [hY] at zs ⊢
 rw [hE] at hE2
 have hcmp : (I.toList == Y.toList) = decide (shaS v = id) := by
  rw [← hI, ← hY,mk_toList',mk_toList']
  rw [Bool.eq_iff_iff];simp
 have HKM := Lib.hid KM
 have HKR := Lib.hid KR
 have HKSUM := Lib.hid KSUM
 have HC := Lib.hid c0
 have HH := Lib.hid h
 have HV := Lib.hid hV
 have mixed := mixedT
 clear hnl hE hv hY hV hNM hI KM KR KSUM c0 hPP h hi hd hrd
 rcases hE2 with rfl | rfl
 ·rw [if_pos rfl] at hP
  by_cases hs : shaS v = id
  ·rw [if_pos hs] at hP
   rw [decide_eq_true hs] at hcmp
   have hcm2 : (I.toList != Y.toList) = false := by rw [bne,hcmp];rfl
   have HP := Lib.hid hP
   clear hP hs
   go_enter Tryz.func9,Tryz.ntmps9
   go_wp2
   refine wp_region_held (S := fun w' => Below w.heap.size w w') mixed ?_
   change wpAnyH _ _ _ _ _ _ _ _ w.drew
   have hS0 : Below w.heap.size w w.drew := (Below.refl _ _).drew
   obtain ⟨W0,hW0⟩ : ∃ t,w.drew = t := ⟨_,rfl⟩
   rw [hW0] at hS0 ⊢
   clear hW0
   refine tkQ 0 (.pointer (some ⟨L,0,none⟩)) rfl hS0 ?_
   try go_simp
   refine tkQ 1 (.pointer (some ⟨L,0,none⟩)) rfl hS0 ?_
   try go_simp
   refine tkQ 2 (.pointer (some ⟨L,0,none⟩)) rfl hS0 ?_
   try go_simp
   refine tkH 3 (.pointer (some ⟨S,0,none⟩)) rfl hS0 (fun w' hS => ?_) ?_
   ·have q0 := HC.out w' hS;go_simp
   try go_simp
   refine tkQ 4 (.string Y) rfl hS0 ?_
   try go_simp
   refine alH 5 ?_
   unfold wpOp
   go_simp
   refine .inl ?_
   refine (HKM.out W0).mono ?_
   rintro e w1 ⟨rfl,hb1⟩
   have hS1 := hS0.trans (hb1.mono hS0.size)
   refine ⟨hS1, ?_⟩
   try go_simp
   clear hS0 hb1
   refine alH 6 ?_
   unfold wpOp
   go_simp
   refine .inl ?_
   refine (HKR.out w1 hS1).mono ?_
   rintro e w2 ⟨rfl,hb2⟩
   have hS2 := hS1.trans (hb2.mono hS1.size)
   refine ⟨hS2, ?_⟩
   try go_simp
   clear hS1 hb2
   refine tkQ 7 (.tuple #[.string V, .int .i64 0]) rfl hS2 ?_
   try go_simp
   refine tkQ 8 (.string V) rfl hS2 ?_
   try go_simp
   refine tkQ 9 (.int .i64 0) rfl hS2 ?_
   try go_simp
   refine tkQ 10 (.string V) rfl hS2 ?_
   try go_simp
   refine tkQ 11 (.int .i64 0) rfl hS2 ?_
   try go_simp
   refine wpAnyH_done (by kernel_rfl) ?_ _
   have HS2 := Lib.hid hS2
   clear hS2
   go_wp2_with (go_at_call 31;refine (HKSUM.out _ _ (HS2.out.alloc HS2.out.size (.cells #[.string V] 9)) ((Blk.new _ #[.string V] 9).cell 0)).mono ?_;rintro e w3 ⟨rfl,hb3⟩;have HB3 := Lib.hid (below_step (HS2.out.alloc HS2.out.size (.cells #[.string V] 9)) hb3);clear hb3)
   have c3 := (HH.out.below HB3.out).blk.cell 3
   have f3 := (HH.out.below HB3.out).blk.frozen 3
   simp at c3
   have HCC := Lib.hid (And.intro c3 f3)
   clear c3 f3
   go_wp2_with (go_at_call 34;refine (add1_any ⟨L,3,none⟩ r w3 (by omega) (by omega) HCC.out.1 HCC.out.2).mono ?_;rintro e w7 ⟨⟨v7,rfl⟩,rfl⟩)
   go_ret2
   unfold GetLP
   rw [HP.out]
   exact ⟨congrArg (fun t => Ending.returned (Value.tuple #[.string t, .int .i64 0])) HV.out.symm,(Mv.of_below _ HB3.out).trans (Mv.of_grown (grown_set w3 L 3 _) (List.mem_cons_self ..)),(HH.out.below HB3.out).set 3 _ p q (r + 1) (by simp)⟩
  ·rw [if_neg hs] at hP
   rw [decide_eq_false hs] at hcmp
   have hcm2 : (I.toList != Y.toList) = true := by rw [bne,hcmp];rfl
   have HP := Lib.hid hP
   clear hP hs
   go_enter Tryz.func9,Tryz.ntmps9
   go_wp2
   refine wp_region_held (S := fun w' => Below w.heap.size w w') mixed ?_
   change wpAnyH _ _ _ _ _ _ _ _ w.drew
   have hS0 : Below w.heap.size w w.drew := (Below.refl _ _).drew
   obtain ⟨W0,hW0⟩ : ∃ t,w.drew = t := ⟨_,rfl⟩
   rw [hW0] at hS0 ⊢
   clear hW0
   refine tkQ 0 (.pointer (some ⟨L,0,none⟩)) rfl hS0 ?_
   try go_simp
   refine tkQ 1 (.pointer (some ⟨L,0,none⟩)) rfl hS0 ?_
   try go_simp
   refine tkQ 2 (.pointer (some ⟨L,0,none⟩)) rfl hS0 ?_
   try go_simp
   refine tkH 3 (.pointer (some ⟨S,0,none⟩)) rfl hS0 (fun w' hS => ?_) ?_
   ·have q0 := HC.out w' hS;go_simp
   try go_simp
   refine tkQ 4 (.string Y) rfl hS0 ?_
   try go_simp
   refine alH 5 ?_
   unfold wpOp
   go_simp
   refine .inl ?_
   refine (HKM.out W0).mono ?_
   rintro e w1 ⟨rfl,hb1⟩
   have hS1 := hS0.trans (hb1.mono hS0.size)
   refine ⟨hS1, ?_⟩
   try go_simp
   clear hS0 hb1
   refine alH 6 ?_
   unfold wpOp
   go_simp
   refine .inl ?_
   refine (HKR.out w1 hS1).mono ?_
   rintro e w2 ⟨rfl,hb2⟩
   have hS2 := hS1.trans (hb2.mono hS1.size)
   refine ⟨hS2, ?_⟩
   try go_simp
   clear hS1 hb2
   refine tkQ 7 (.tuple #[.string V, .int .i64 0]) rfl hS2 ?_
   try go_simp
   refine tkQ 8 (.string V) rfl hS2 ?_
   try go_simp
   refine tkQ 9 (.int .i64 0) rfl hS2 ?_
   try go_simp
   refine tkQ 10 (.string V) rfl hS2 ?_
   try go_simp
   refine tkQ 11 (.int .i64 0) rfl hS2 ?_
   try go_simp
   refine wpAnyH_done (by kernel_rfl) ?_ _
   have HS2 := Lib.hid hS2
   clear hS2
   go_wp2_with (go_at_call 31;refine (HKSUM.out _ _ (HS2.out.alloc HS2.out.size (.cells #[.string V] 9)) ((Blk.new _ #[.string V] 9).cell 0)).mono ?_;rintro e w3 ⟨rfl,hb3⟩;have HB3 := Lib.hid (below_step (HS2.out.alloc HS2.out.size (.cells #[.string V] 9)) hb3);clear hb3)
   go_ret2
   unfold GetLP
   rw [HP.out]
   exact ⟨rfl,Mv.of_below _ HB3.out,HH.out.below HB3.out⟩
 ·rw [if_neg (by decide)] at hP
  have HP := Lib.hid hP
  clear hP hcmp
  go_enter Tryz.func9,Tryz.ntmps9
  go_wp2
  refine wp_region_held (S := fun w' => Below w.heap.size w w') mixed ?_
  change wpAnyH _ _ _ _ _ _ _ _ w.drew
  have hS0 : Below w.heap.size w w.drew := (Below.refl _ _).drew
  obtain ⟨W0,hW0⟩ : ∃ t,w.drew = t := ⟨_,rfl⟩
  rw [hW0] at hS0 ⊢
  clear hW0
  refine tkQ 0 (.pointer (some ⟨L,0,none⟩)) rfl hS0 ?_
  try go_simp
  refine tkQ 1 (.pointer (some ⟨L,0,none⟩)) rfl hS0 ?_
  try go_simp
  refine tkQ 2 (.pointer (some ⟨L,0,none⟩)) rfl hS0 ?_
  try go_simp
  refine tkH 3 (.pointer (some ⟨S,0,none⟩)) rfl hS0 (fun w' hS => ?_) ?_
  ·have q0 := HC.out w' hS;go_simp
  try go_simp
  refine tkQ 4 (.string Y) rfl hS0 ?_
  try go_simp
  refine alH 5 ?_
  unfold wpOp
  go_simp
  refine .inl ?_
  refine (HKM.out W0).mono ?_
  rintro e w1 ⟨rfl,hb1⟩
  have hS1 := hS0.trans (hb1.mono hS0.size)
  refine ⟨hS1, ?_⟩
  try go_simp
  clear hS0 hb1
  refine alH 6 ?_
  unfold wpOp
  go_simp
  refine .inl ?_
  refine (HKR.out w1 hS1).mono ?_
  rintro e w2 ⟨rfl,hb2⟩
  have hS2 := hS1.trans (hb2.mono hS1.size)
  refine ⟨hS2, ?_⟩
  try go_simp
  clear hS1 hb2
  refine tkQ 7 (.tuple #[.string V, .int .i64 9]) rfl hS2 ?_
  try go_simp
  refine tkQ 8 (.string V) rfl hS2 ?_
  try go_simp
  refine tkQ 9 (.int .i64 9) rfl hS2 ?_
  try go_simp
  refine tkQ 10 (.string V) rfl hS2 ?_
  try go_simp
  refine tkQ 11 (.int .i64 9) rfl hS2 ?_
  try go_simp
  refine wpAnyH_done (by kernel_rfl) ?_ _
  have HS2 := Lib.hid hS2
  clear hS2
  go_wp2
  go_ret2
  unfold GetLP
  rw [HP.out]
  exact ⟨rfl,Mv.of_below _ HS2.out,HH.out.below HS2.out⟩
def DropLP (X : List Nat) (S D Lg M L : Nat) (p q r : Nat) (o : Nat × StoM) (w : World) (e : Ending) (w' : World) : Prop :=
 e = .returned (.int .i64 (o.1 : Int)) ∧ ∃ X',Mv (L :: S :: M :: X) (L :: S :: M :: X') w w' ∧ Loo w' X' S D Lg M o.2 L p q r
set_option maxRecDepth 100000 in
set_option maxHeartbeats 2000000 in
theorem drop_loose {X : List Nat} {S D Lg M : Nat} {m : StoM} {L p q r : Nat} (id : Bs) (w : World) (h : Loo w X S D Lg M m L p q r) (hi : Rdy m) (hd : id.length = 32) :
  Calls Tryz.prog 13 #[.pointer (some ⟨L,0,none⟩), .string (mk id)] w (DropLP X S D Lg M L p q r (opR m (nameL id)) w) := by
 have hnl : (nameL id).length ≤ maxLen := by rw [nameL_length,hd];decide
 have zs : (mk id).size = 32 := by rw [mk_size,hd]
 obtain ⟨o,ho⟩ : ∃ t,opR m (nameL id) = t := ⟨_,rfl⟩
 obtain ⟨Y,hY⟩ : ∃ t,mk id = t := ⟨_,rfl⟩
 obtain ⟨NM,hNM⟩ : ∃ t,mk (nameL id) = t := ⟨_,rfl⟩
 obtain ⟨E,hE⟩ : ∃ t,o.1 = t := ⟨_,rfl⟩
 have KM : ∀ w1,Calls Tryz.prog 36 #[.string Y] w1 fun e w' => e = .returned (.string NM) ∧ Below w1.heap.size w1 w' := fun w1 => by
  rw [← hY, ← hNM];exact name_any id w1 hd
 have KR : ∀ X1 w1,Sto w1 X1 S D Lg M m → Calls Tryz.prog 39 #[.pointer (some ⟨S,0,none⟩), .string NM] w1 fun e w' => e = .returned (.int .i64 (E : Nat)) ∧ ∃ X',Mv (S :: M :: X1) (S :: M :: X') w1 w' ∧ Sto w' X' S D Lg M o.2 := fun X1 w1 h1 => by
  rw [← hE, ← hNM, ← ho];exact opR_any X1 S D Lg M m (nameL id) w1 h1 hi hnl
 rw [hY] at zs ⊢
 rw [ho]
 have HKM := Lib.hid KM
 have HKR := Lib.hid KR
 have HH := Lib.hid h
 have HE := Lib.hid hE
 have mixed := mixedT
 clear hnl ho hY hNM hE KM KR h hi hd
 go_enter Tryz.func13,Tryz.ntmps13
 go_wp2
 have hL4 := HH.out.below ((Below.refl w.heap.size w).drew)
 have hm4 := Mv.of_below (L :: S :: M :: X) ((Below.refl w.heap.size w).drew)
 refine wp_region_held (S := fun w' => Blk w' L #[.pointer (some ⟨S,0,none⟩), .int .i64 (p : Int), .int .i64 (q : Int), .int .i64 (r : Int)] 75) mixed ?_
 change wpAnyH _ _ _ _ _ _ _ _ w.drew
 obtain ⟨W0,hW0⟩ : ∃ t,w.drew = t := ⟨_,rfl⟩
 rw [hW0] at hL4 hm4 ⊢
 clear hW0
 have hS0 := hL4.blk
 refine tkQ 0 (.pointer (some ⟨L,0,none⟩)) rfl hS0 ?_
 try go_simp
 refine tkQ 1 (.pointer (some ⟨L,0,none⟩)) rfl hS0 ?_
 try go_simp
 refine tkQ 2 (.pointer (some ⟨L,0,none⟩)) rfl hS0 ?_
 try go_simp
 refine tkH 3 (.pointer (some ⟨S,0,none⟩)) rfl hS0 (fun w' hS => ?_) ?_
 ·have q0 := hS.cell 0;simp at q0;go_simp
 try go_simp
 refine tkQ 4 (.string Y) rfl hS0 ?_
 try go_simp
 refine alH 5 ?_
 unfold wpOp
 go_simp
 refine .inl ?_
 refine (HKM.out W0).mono ?_
 rintro e w5 ⟨rfl,hb5⟩
 have hL5 := hL4.below hb5
 have hm5 := hm4.trans (Mv.of_below (L :: S :: M :: X) hb5)
 have hS1 := hL5.blk
 refine ⟨hS1, ?_⟩
 try go_simp
 clear hS0 hb5 hL4 hm4
 refine alH 6 ?_
 unfold wpOp
 go_simp
 refine .inl ?_
 refine (HKR.out X w5 hL5.sto).mono ?_
 rintro e w6 ⟨rfl,X6,hm6,hs6⟩
 have HL6 := Lib.hid (And.intro (hL5.mv hm6 hs6) (hm5.trans (hm6.cons L)))
 have hS2 := HL6.out.1.blk
 refine ⟨hS2, ?_⟩
 try go_simp
 clear hS1 hL5 hm5 hm6 hs6
 refine tkQ 7 (.int .i64 (E : Int)) rfl hS2 ?_
 try go_simp
 refine wpAnyH_done (by kernel_rfl) ?_ _
 clear hS2
 go_wp2
 go_ret
 exact ⟨congrArg (fun t : Nat => Ending.returned (Value.int .i64 (t : Int))) HE.out.symm,X6,HL6.out.2,HL6.out.1⟩
open Go.RowKit
theorem parse_all (s : Bs) (w : World) : Calls Tryz.prog 42 #[.string (mk s)] w fun e w' => e = .returned (.tuple #[.string (mk (parseR s).1), .bool (parseR s).2]) ∧ Below w.heap.size w w' := by
 by_cases h : s.length = 64
 ·exact parse_64 s w h
 ·have : parseR s = ([],false) := by unfold parseR;rw [if_neg h]
  rw [this]
  exact parse_bad s w h
theorem idOf_eq (nm : Bs) : idOf nm = if (Lib.hasPrefix nm [111] && (parseR (Lib.trimPrefix nm [111])).2) = true then some (parseR (Lib.trimPrefix nm [111])).1 else none := by
 unfold Lib.trimPrefix Lib.hasPrefix
 match nm with
 | [] => rfl
 | c :: h =>
  by_cases hc : c = 111
  ·subst hc
   have e : ([111] : Bs).isPrefixOf (111 :: h) = true := by simp [List.isPrefixOf]
   rw [e,if_pos rfl]
   show (if h.length = 64 then parseH h else none) = _
   simp only [List.length_cons,List.length_nil,Nat.zero_add,List.drop_succ_cons,List.drop_zero,Bool.true_and]
   unfold parseR
   by_cases hl : h.length = 64
   ·rw [if_pos hl,if_pos hl]
    cases parseH h <;> rfl
   ·rw [if_neg hl,if_neg hl];rfl
  ·have e : ([111] : Bs).isPrefixOf (c :: h) = false := by
    simp [List.isPrefixOf]
    exact fun e => hc e.symm
   rw [e]
   have : idOf (c :: h) = none := by
    unfold idOf
    split
    ·rename_i heq
     injection heq with h1 _
     exact absurd h1 hc
    ·rfl
   rw [this]
   rfl
theorem listL_snoc (l : List Bs) (nm : Bs) : listL (l ++ [nm]) = listL l ++ (match idOf nm with | some i => [i] | none => []) := by
 unfold listL
 rw [List.filterMap_append]
 congr 1
 cases h : idOf nm <;> simp [h]
set_option maxRecDepth 100000 in
set_option maxHeartbeats 2000000 in
theorem list_loose {X : List Nat} {S D Lg M : Nat} {m : StoM} {L p q r : Nat} (w : World) (h : Loo w X S D Lg M m L p q r) (hF : m.F.length ≤ 1000) :
  Calls Tryz.prog 14 #[.pointer (some ⟨L,0,none⟩)] w fun e w' => ∃ A c,e = .returned (.slice A (listL (namesS m.F)).length c) ∧ w'.ownsRow w.heap.size 9 1 (.slice A (listL (namesS m.F)).length c) (listL (namesS m.F)).length (txc (listL (namesS m.F))) ∧ Below w.heap.size w w' := by
 obtain ⟨i9,hi0,hi1,hi2,hi3⟩ := info_parts info9
 have KN := fnames_any X S D Lg M m w h.sto hF
 have hnl : (namesS m.F).length ≤ 1000 := by unfold namesS;rw [List.length_mergeSort,List.length_map];exact hF
 have c0 := h.blk.cell 0
 simp at c0
 obtain ⟨N,hN⟩ : ∃ t,namesS m.F = t := ⟨_,rfl⟩
 rw [hN] at KN hnl ⊢
 have htx : N.map encStr = txc N := rfl
 rw [htx] at KN
 obtain ⟨n,hn⟩ : ∃ t,N.length = t := ⟨_,rfl⟩
 rw [hn] at KN hnl
 have HKN := Lib.hid KN
 have HN := Lib.hid hn
 clear KN hN htx hn h hF
 go_enter Tryz.func14,Tryz.ntmps14
 go_wp2_with (go_at_call 40;refine HKN.out.mono ?_;rintro e w1 ⟨A,c,rfl,hrow1,hb1⟩;have HW1 := Lib.hid (And.intro (row_lies hrow1) hb1);clear hrow1 hb1)
 obtain ⟨B,hB⟩ : ∃ t,w1.heap.size = t := ⟨_,rfl⟩
 have HB := Lib.hid (show w.heap.size ≤ B from by rw [← hB];exact HW1.out.2.size)
 have HI := Lib.hid (And.intro hi0 (And.intro hi1 (And.intro hi2 hi3)))
 go_loopw [3,18] (fun ov kv wr => ∃ k : Nat,k ≤ n ∧ kv = .int .i64 (k : Int) ∧ wr.ownsRow B 9 1 ov (listL (N.take k)).length (txc (listL (N.take k))) ∧ Below B w1 wr) (fun _ kv _ => n - (intOf kv).toNat)
 case atStart => exact ⟨0,by omega,rfl,World.ownsRow_nil _ _ _ _,by rw [← hB];exact Below.refl _ _⟩
 case round =>
  obtain ⟨k,hk,rfl,hown,hbl⟩ := hrel
  obtain ⟨A3,c3,rfl⟩ := row_form hown
  have hsz : B ≤ wr.heap.size := by rw [← hB];exact hbl.size
  by_cases hkt : k < n
  ·have k0 : (0 : Int) ≤ (k : Int) := by omega
   have k1 : (k : Int) < (n : Int) := by omega
   have hkN : k < N.length := by rw [HN.out];exact hkt
   have hl2 : Lies wr A (txc N) := HW1.out.1.below (by rw [hB];exact Nat.le_refl B) hbl
   obtain ⟨g,o,rfl,hg,hcell⟩ := hl2 (by simp [txc];omega)
   have hx := hcell k _ (txc_at N k hkN)
   have htk : listL (N.take (k + 1)) = listL (N.take k) ++ (match idOf N[k] with | some i => [i] | none => []) := by
    rw [List.take_succ_eq_append_getElem hkN,listL_snoc]
   obtain ⟨nm,hnm⟩ : ∃ t,N[k] = t := ⟨_,rfl⟩
   rw [hnm] at hx htk
   rw [idOf_eq] at htk
   have KC := Tryz.strings_CutPrefix (mk nm) ⟨#[111]⟩ wr
   rw [mk_data,show (ByteArray.data ⟨#[111]⟩).toList = [111] from rfl,show (⟨(Lib.trimPrefix nm [111]).toArray⟩ : ByteArray) = mk (Lib.trimPrefix nm [111]) from rfl] at KC
   obtain ⟨hex,hhex⟩ : ∃ t,Lib.trimPrefix nm [111] = t := ⟨_,rfl⟩
   rw [hhex] at KC htk
   have KP := parse_all hex wr
   obtain ⟨PR,hPR⟩ : ∃ t,parseR hex = t := ⟨_,rfl⟩
   obtain ⟨id,is⟩ := PR
   rw [hPR] at KP htk
   dsimp only at KP htk
   obtain ⟨NM,hNM⟩ : ∃ t,mk nm = t := ⟨_,rfl⟩
   obtain ⟨HX,hHX⟩ : ∃ t,mk hex = t := ⟨_,rfl⟩
   obtain ⟨ID,hID⟩ : ∃ t,mk id = t := ⟨_,rfl⟩
   rw [hNM] at hx KC
   rw [hHX] at KC KP
   rw [hID] at KP
   obtain ⟨lk,hlk⟩ : ∃ t,(listL (N.take k)).length = t := ⟨_,rfl⟩
   have hlkn : lk ≤ 1000 := by
    have h1 := List.length_filterMap_le idOf (N.take k)
    have h2 : (N.take k).length ≤ k := List.length_take_le _ _
    have h3 : (listL (N.take k)).length = ((N.take k).filterMap idOf).length := rfl
    omega
   rw [hlk] at hown ⊢
   have HKC := Lib.hid KC
   have HKP := Lib.hid KP
   have HT := Lib.hid htk
   have HOB := Lib.hid (And.intro hown (And.intro hbl hsz))
   have HID := Lib.hid (And.intro hID hlk)
   have HHB := Lib.hid hB
   clear KC KP htk hl2 hcell hnm hhex hPR hNM hHX hID hown hbl hlk hkN
   cases hok : Lib.hasPrefix nm [111] with
   | false =>
    rw [hok] at HKC HT
    rw [Bool.false_and,if_neg (by decide)] at HT
    clear hB
    go_wp2_with (first
     | (go_at_call 41;refine HKC.out.mono ?_;rintro e w2 ⟨rfl,rfl⟩)
     | (go_at_call 42;refine HKP.out.mono ?_;rintro e w3 ⟨rfl,hb3⟩;have HB3 := Lib.hid (below_step (w0 := w2) (Below.refl _ _) hb3);clear hb3))
    go_roundw
    case rel =>
     refine ⟨k + 1,by omega,by go_num, ?_,HOB.out.2.1.trans (HB3.out.mono HOB.out.2.2)⟩
     rw [HT.out,List.append_nil,HID.out.2]
     exact own_below HOB.out.1 HB3.out
    case measure => simp [intOf];omega
   | true =>
    rw [hok] at HKC HT
    rw [Bool.true_and] at HT
    cases is with
    | false =>
     rw [if_neg (by decide)] at HT
     clear hB
     go_wp2_with (first
      | (go_at_call 41;refine HKC.out.mono ?_;rintro e w2 ⟨rfl,rfl⟩)
      | (go_at_call 42;refine HKP.out.mono ?_;rintro e w3 ⟨rfl,hb3⟩;have HB3 := Lib.hid (below_step (w0 := w2) (Below.refl _ _) hb3);clear hb3))
     go_roundw
     case rel =>
      refine ⟨k + 1,by omega,by go_num, ?_,HOB.out.2.1.trans (HB3.out.mono HOB.out.2.2)⟩
      rw [HT.out,List.append_nil,HID.out.2]
      exact own_below HOB.out.1 HB3.out
     case measure => simp [intOf];omega
    | true =>
     rw [if_pos rfl] at HT
     clear hB
     go_wp2_with (first
      | (go_at_call 41;refine HKC.out.mono ?_;rintro e w2 ⟨rfl,rfl⟩)
      | (go_at_call 42;refine HKP.out.mono ?_;rintro e w3 ⟨rfl,hb3⟩;have HNW := Lib.hid (show (w3.alloc (.cells #[.string ID] 9)).ownsRow B 9 1 (.slice A3 lk c3) lk (txc (listL (N.take k))) ∧ Below B w1 (w3.alloc (.cells #[.string ID] 9)) ∧ B ≤ w3.heap.size from ⟨World.ownsRow.alloc (own_below HOB.out.1 hb3) _,(HOB.out.2.1.trans (hb3.mono HOB.out.2.2)).alloc (Nat.le_trans HOB.out.2.2 hb3.size) _,Nat.le_trans HOB.out.2.2 hb3.size⟩);clear hb3)
      | (at_builtin;refine wpList_append_lies _ rfl (.tmp 36) (.tmp 38) 33 rfl B 9 i9 _ 1 16 Tryz.underlying33 HI.out.1 HI.out.2.1 HI.out.2.2.1 HI.out.2.2.2 rfl (by decide) (.slice A3 lk c3) lk _ rfl HNW.out.1 ⟨_,0,none⟩ 1 1 [.string ID] rfl rfl (World.news_of_block (heap_alloc_new w3 (.cells #[.string ID] 9))) (by simp [Value.oneCell']) (by omega) (by unfold maxLen;omega) (by omega) (by have := HNW.out.2.2;simp;omega) _ rfl ?_;intro g4 c4 W4 hS4 hg4 _ _;have HS4 := Lib.hid (And.intro hS4 (HNW.out.2.1.grown hg4 (by have := HNW.out.2.2;simp;omega) (fun y hy => (HNW.out.1.lt y hy).1)));clear hS4 hg4))
     go_roundw
     case rel =>
      refine ⟨k + 1,by omega,by go_num, ?_,HS4.out.2⟩
      rw [HT.out,List.length_append,HID.out.2,show txc (listL (N.take k) ++ [id]) = txc (listL (N.take k)) ++ [.string ID] by rw [txc_snoc,HID.out.1]]
      exact HS4.out.1
     case measure => simp [intOf];omega
  ·obtain rfl : n = k := by omega
   rw [List.take_of_length_le (by rw [HN.out];exact Nat.le_refl _)] at hown
   rw [List.take_of_length_le (by rw [HN.out];exact Nat.le_refl _)]
   have HF := Lib.hid (And.intro (own_weaken hown HB.out) (HW1.out.2.trans (hbl.mono HB.out)))
   clear hown hbl hB hsz hk hkt
   go_wp2
   go_ret
   exact ⟨A3,c3,rfl,HF.out⟩
theorem read_same {m m' : StoM} {f : FileM} (hm : m'.most = m.most) (h : ∀ i ∈ secL (m.most + 7) f.ext,secAt m'.ds.vis i = secAt m.ds.vis i) : readF m' f = readF m f := by
 unfold readF
 rw [hm,secsB_congr h]
theorem settle_read {m : StoM} (h : Inv m) {T2 T' : List Bool} {C : List (Nat × Bs)} {F' : List FileM} {o : Bool} (hC : ∀ c ∈ C,c.1 < m.most) (hl : C.length ≤ 2) (g : FileM) :
  readF ⟨(DS.run (settleC m.most T2 C) m.ds).2,F',T',m.most,o⟩ g = readF m g :=
 read_same rfl (fun i hi => put_other h.cut h.on [] [] hC hl i (secL_ge hi) (by simp))
theorem put_read {m : StoM} (h : Inv m) {T2 : List Bool} {L : List Nat} {dt : Bs} {f : FileM} {F' : List FileM} {o : Bool} (he : f.entry < m.most) (g : FileM) (hg : ∀ i ∈ secL (m.most + 7) g.ext,i ∉ L) :
  readF ⟨(DS.run (putC m.most T2 L dt f) m.ds).2,F',T2,m.most,o⟩ g = readF m g :=
 read_same rfl (fun i hi => put_other h.cut h.on L dt (fun c hc => by
  have : c = (f.entry,entryB f.name f.size f.ext) := by simpa using hc
  subst this;exact he) (by simp) i (secL_ge hi) (hg i hi))
theorem mem_unitsF {j : Nat} {F : List FileM} : j ∈ unitsF F ↔ ∃ f ∈ F,j ∈ unitsL f.ext := List.mem_flatMap
theorem write_read {m : StoM} {name data : Bs} {T2 : List Bool} {f : FileM} (h : Inv m) (hp : preW m name data = (0,some (T2,f))) :
  f.name = name ∧ readF ⟨(DS.run (putC m.most T2 (secL (m.most + 7) f.ext) data f) m.ds).2,putF m.F f,T2,m.most,m.off⟩ f = data ∧
   ∀ g ∈ delF m.F name,readF ⟨(DS.run (putC m.most T2 (secL (m.most + 7) f.ext) data f) m.ds).2,putF m.F f,T2,m.most,m.off⟩ g = readF m g := by
 obtain ⟨p1,p2,p3,p4,p5,T1,p6,p7⟩ := preW_some hp
 obtain ⟨u1,u2,u3⟩ := put_units h p6 p7
 obtain ⟨s1,s2⟩ := slot_fresh h p3
 obtain ⟨a1,a2,a3,_,a5,_⟩ := takeS_facts p6
 have hu := List.nodup_append.1 u2
 refine ⟨p4, ?_,fun g hg => put_read h s1 g (fun i hi hL => ?_)⟩
 ·have hn := put_new h.cut h.on (secL (m.most + 7) f.ext) data (most := m.most) (T := T2) (C := [(f.entry,entryB f.name f.size f.ext)]) (fun c hc => by
   have : c = (f.entry,entryB f.name f.size f.ext) := by simpa using hc
   subst this;exact s1) (by simp) (fun i hi => secL_ge hi) (secL_nodup hu.1) (put_secs h.b a3) (by rw [secL_length,a5];unfold needsN;omega)
  show (secsB (DS.run (layC (secL (m.most + 7) f.ext) data ++ settleC m.most T2 [(f.entry,entryB f.name f.size f.ext)]) m.ds).2.vis (secL (m.most + 7) f.ext)).take f.size = data
  rw [hn,p5,List.take_left]
 ·obtain ⟨u,hu1,e1⟩ := mem_secL.1 hi
  obtain ⟨v,hv1,e2⟩ := mem_secL.1 hL
  have : u = v := by omega
  subst this
  exact hu.2.2 u hv1 u (mem_unitsF.2 ⟨g,hg,hu1⟩) rfl
structure Od (m : StoM) : Prop where
 head : secAt m.ds.vis 0 = headB m.ds.L.length m.most
 map : secAt m.ds.vis 1 = fullB (packB m.T)
 ent : ∀ f ∈ m.F,secAt m.ds.vis (2 + f.entry) = entryB f.name f.size f.ext
 vac : ∀ e,e < m.most → (∀ f ∈ m.F,f.entry ≠ e) → secAt m.ds.vis (2 + e) = zeroS
 log : secAt m.ds.vis (2 + m.most) = zeroS
 some : 1 ≤ m.T.length
theorem mem_delF {F : List FileM} {t : Bs} {g : FileM} : g ∈ delF F t ↔ g ∈ F ∧ g.name ≠ t := by
 unfold delF;rw [List.mem_filter];simp
theorem fin_on {m : StoM} {l : List Cmd} {F : List FileM} {T : List Bool} (h1 : m.ds.cut = none) (h2 : m.ds.off = false) : finW (DS.run l m.ds) F T m = (0,⟨(DS.run l m.ds).2,F,T,m.most,m.off⟩) := by
 unfold finW
 rw [if_pos (run_on l m.ds h1 h2).1]
theorem two2_mem {i j : Nat} {t u : Bs} {c : Nat × Bs} : c ∈ two2 i t j u ↔ c = (i,t) ∨ c = (j,u) := by
 unfold two2
 split
 ·simp
 ·simp [or_comm]
structure Rel (m : StoM) (F : List PF) (T : List Bool) : Prop where
 t : m.T = T
 perm : m.F.Perm (F.map toM)
 data : ∀ g ∈ F,readF m (toM g) = g.data
def Has (m : StoM) (A : List (Bs × Bs)) : Prop := (m.F.map fun f => (f.name,readF m f)).Perm A
theorem Has.perm {m : StoM} {A B : List (Bs × Bs)} (h : Has m A) (p : A.Perm B) : Has m B := List.Perm.trans h p
theorem Has.names {m : StoM} {A : List (Bs × Bs)} (h : Has m A) : (m.F.map (·.name)).Perm (A.map (·.1)) := by
 have := List.Perm.map (·.1) h
 rwa [List.map_map] at this
theorem Has.len {m : StoM} {A : List (Bs × Bs)} (h : Has m A) : m.F.length = A.length := by simpa using List.Perm.length_eq h
theorem fileOf_in {F : List FileM} (hn : (F.map (·.name)).Nodup) {f : FileM} (hf : f ∈ F) : fileOf F f.name = some f := by
 cases hx : fileOf F f.name with
 | none => exact absurd rfl (fileOf_none.1 hx f hf)
 | some g =>
  have hg := fileOf_mem hx
  have hgn := fileOf_name hx
  have : g = f := by
   have h2 := perm_del F g f.name hn hx
   rcases List.mem_cons.1 (h2.mem_iff.1 hf) with e | e
   ·exact e.symm
   ·exact absurd rfl (mem_delF.1 e).2
  rw [this]
theorem Has.file {m : StoM} {A : List (Bs × Bs)} (h : Has m A) (hi : Inv m) {n d : Bs} (ha : (n,d) ∈ A) : ∃ f ∈ m.F,f.name = n ∧ readF m f = d ∧ fileOf m.F n = some f := by
 obtain ⟨f,hf,e⟩ := List.mem_map.1 ((List.Perm.mem_iff h).2 ha)
 simp only [Prod.mk.injEq] at e
 exact ⟨f,hf,e.1,e.2,by rw [← e.1];exact fileOf_in hi.names hf⟩
theorem Has.none {m : StoM} {A : List (Bs × Bs)} (h : Has m A) {n : Bs} (ha : n ∉ A.map (·.1)) : fileOf m.F n = Option.none := by
 rw [fileOf_none]
 intro f hf e
 exact ha (h.names.mem_iff.1 (List.mem_map.2 ⟨f,hf,e⟩))
theorem Has.find {m : StoM} {A : List (Bs × Bs)} (h : Has m A) (hi : Inv m) {n d : Bs} (ha : (n,d) ∈ A) : goodF n = true ∧ readW m n = d ∧ findE m.F n = 0 := by
 obtain ⟨f,h1,h2,h3,h4⟩ := h.file hi ha
 have hg : goodF n = true := by rw [← h2];exact hi.good f h1
 refine ⟨hg, ?_, ?_⟩
 ·unfold readW
  rw [if_pos hg,h4,Option.map_some,Option.getD_some,h3]
 ·unfold findE
  rw [if_pos hg,h4]
  rfl
theorem Has.gone {m : StoM} {A : List (Bs × Bs)} (h : Has m A) {n : Bs} (hg : goodF n = true) (ha : n ∉ A.map (·.1)) : readW m n = [] ∧ findE m.F n = 9 := by
 have h4 := h.none ha
 refine ⟨?_, ?_⟩
 ·unfold readW
  rw [if_pos hg,h4]
  rfl
 ·unfold findE
  rw [if_pos hg,h4]
  rfl
def usedA (A : List (Bs × Bs)) : Nat := (A.map fun x => needsN x.2.length).sum
theorem count_used {m : StoM} (h : Inv m) : m.T.count false + (unitsF m.F).length = m.T.length := by
 have h1 : ∀ (T : List Bool),T.count true = ((List.range T.length).filter fun j => T.getD j false).length := by
  intro T
  induction T with
  | nil => rfl
  | cons b T ih =>
   rw [List.count_cons,ih,List.length_cons,List.range_succ_eq_map,List.filter_cons,List.filter_map,List.getD_cons_zero]
   have : ((fun j => (b :: T).getD j false) ∘ Nat.succ) = fun j => T.getD j false := funext fun j => by simp
   rw [this]
   cases b <;> simp
 have h2 : ((List.range m.T.length).filter fun j => m.T.getD j false).Perm (unitsF m.F) := by
  refine (List.perm_ext_iff_of_nodup (List.Nodup.sublist List.filter_sublist List.nodup_range) h.once).2 fun j => ?_
  rw [List.mem_filter,List.mem_range]
  refine ⟨fun hj => (h.taken j).1 hj.2,fun hj => ⟨?_,(h.taken j).2 hj⟩⟩
  have := (h.taken j).2 hj
  rw [List.getD_eq_getElem?_getD] at this
  rcases Nat.lt_or_ge j m.T.length with hl | hl
  ·exact hl
  ·rw [List.getElem?_eq_none hl] at this
   cases this
 have h3 := h1 m.T
 rw [h2.length_eq] at h3
 have h4 : ∀ T : List Bool,T.count false + T.count true = T.length := by
  intro T
  induction T with
  | nil => rfl
  | cons b T ih => cases b <;> simp <;> omega
 rw [← h3]
 exact h4 m.T
theorem Has.used {m : StoM} {A : List (Bs × Bs)} (h : Has m A) (hi : Inv m) (hd : DGood m.ds) : m.T.count false + usedA A = m.T.length := by
 have e1 : (unitsF m.F).length = (m.F.map fun f => needsN f.size).sum := by
  have : ∀ F : List FileM,(∀ f ∈ F,sumN f.ext = needsN f.size) → (unitsF F).length = (F.map fun f => needsN f.size).sum := by
   intro F
   induction F with
   | nil => intro _;rfl
   | cons f F ih =>
    intro hs
    rw [unitsF_cons,List.length_append,unitsL_length,hs f List.mem_cons_self,ih fun g hg => hs g (List.mem_cons_of_mem _ hg)]
    rfl
  exact this m.F hi.sum
 have e2 : usedA A = (m.F.map fun f => needsN f.size).sum := by
  have h1 := (List.Perm.map (fun x : Bs × Bs => needsN x.2.length) h).sum_nat
  rw [List.map_map] at h1
  unfold usedA
  rw [← h1]
  congr 1
  refine List.map_congr_left fun f hf => ?_
  show needsN (readF m f).length = _
  rw [readF_len hi hd hf]
 have := count_used hi
 omega
theorem runs_sum : ∀ (T : List Bool) (i c : Nat),sumN (runs T i c) = T.count false + c
 | [],i,c => by
  rw [runs]
  split
  ·rename_i h;subst h;rfl
  ·simp [sumN]
 | true :: T,i,c => by
  have ih := runs_sum T (i + 1) 0
  rw [runs,sumN_app,ih]
  split
  ·rename_i h;subst h;simp [sumN]
  ·simp [sumN];omega
 | false :: T,i,c => by
  rw [runs,runs_sum T (i + 1) (c + 1)]
  simp;omega
theorem trimR_snd : ∀ (l : List (Nat × Nat)) (k : Nat),(trimR l k).2 = k - sumN l
 | [],k => by simp [trimR,sumN]
 | x :: l,k => by
  rw [trimR,sumN_cons]
  split
  ·rename_i h;subst h;simp
  ·show (trimR l (k - min x.2 k)).2 = _
   rw [trimR_snd l]
   omega
theorem len_sum : ∀ (l : List (Nat × Nat)),(∀ x ∈ l,1 ≤ x.2) → l.length ≤ sumN l
 | [],_ => Nat.zero_le _
 | x :: l,h => by
  have h1 := len_sum l fun y hy => h y (List.mem_cons_of_mem _ hy)
  have h2 := h x List.mem_cons_self
  rw [sumN_cons,List.length_cons]
  omega
theorem take_ok {T : List Bool} {k most : Nat} (h : k ≤ T.count false) (hm : k ≤ most) : ∃ l T',takeS T k most = some (l,T') := by
 obtain ⟨h1,h2⟩ := runs_all T
 obtain ⟨_,h4⟩ := trimR_good (fun j => T.getD j true = false) T.length _ _ k h1 h2
 have e1 := trimR_snd (runs T 0 0) k
 rw [runs_sum] at e1
 have e2 := trimR_sum (runs T 0 0) k
 have e3 := len_sum (trimR (runs T 0 0) k).1 fun x hx => (h4 x hx).1
 obtain ⟨T',h5,_⟩ := take_claims T k
 unfold takeS
 rw [if_neg (by omega),h5]
 exact ⟨_,_,rfl⟩
theorem Has.wrote {m : StoM} {A : List (Bs × Bs)} (h : Has m A) (hi : Inv m) (n d : Bs) (h0 : (opW m n d).1 = 0) : Has (opW m n d).2 ((n,d) :: A.filter fun x => !(x.1 == n)) := by
 revert h0
 unfold opW
 cases hq : (preW m n d).2 with
 | none =>
  dsimp only
  intro h0
  exfalso
  unfold preW at h0 hq
  split at h0
  ·cases h0
  ·split at h0
   ·cases h0
   ·split at h0
    ·cases h0
    ·split at h0
     ·cases h0
     ·split at h0
      ·cases h0
      ·rename_i g1 g2 _ i hs _ l T1 ht _ T2 ht2
       rw [if_neg g1,if_neg g2] at hq
       simp only [hs,ht,ht2] at hq
       cases hq
 | some q =>
  obtain ⟨T2,f⟩ := q
  have hz := preW_zero hq
  dsimp only
  rw [fin_on hi.cut hi.on]
  intro _
  obtain ⟨c1,c2,c3⟩ := write_read hi hz
  have hp := perm_put m.F f hi.names
  have h1 := List.Perm.map (fun g => (g.name,readF ⟨(DS.run (putC m.most T2 (secL (m.most + 7) f.ext) d f) m.ds).2,putF m.F f,T2,m.most,m.off⟩ g)) hp
  refine List.Perm.trans h1 ?_
  rw [List.map_cons,c1,c2]
  refine List.Perm.cons _ ?_
  have h2 := List.Perm.filter (fun x : Bs × Bs => !(x.1 == n)) h
  rw [List.filter_map] at h2
  refine List.Perm.trans (List.Perm.of_eq ?_) h2
  show List.map _ (m.F.filter fun g => !(g.name == n)) = _
  refine List.map_congr_left fun g hg => ?_
  have hg2 : g ∈ delF m.F n := hg
  rw [c3 g hg2]
theorem pige : ∀ (E : List Nat) (k : Nat),(∀ e,e < k → e ∈ E) → k ≤ E.length := fun E k h => range_le k E h
theorem opW_ok {m : StoM} {A : List (Bs × Bs)} (h : Has m A) (hi : Inv m) (hd : DGood m.ds) {n d : Bs} (hg : goodF n = true) (hl : d.length ≤ 1048576) (hk : needsN d.length ≤ 64) (hf : needsN d.length + usedA A ≤ m.T.length) (hs : n ∈ A.map (·.1) ∨ A.length < m.most) : (opW m n d).1 = 0 := by
 have hu := h.used hi hd
 obtain ⟨l,T1,ht⟩ := take_ok (T := m.T) (k := needsN d.length) (most := 64) (by omega) hk
 obtain ⟨a1,a2,a3,a4,a5,a6⟩ := takeS_facts ht
 obtain ⟨o1,o2,o3⟩ := old_facts hi n
 obtain ⟨_,_,_,u4⟩ := take_units hi ht
 obtain ⟨T2,ht2,_⟩ := turnS_give (oldX m.F n) T1 (fun x hx => by rw [a4];exact o1 x hx) o2 (fun j hj => by
  have h1 := o3 j hj
  exact (u4 j).2 (.inr ((hi.taken j).1 h1)))
 have hslot : ∃ i,slotW m n = some i := by
  unfold slotW
  cases hx : fileOf m.F n with
  | some f => exact ⟨_,rfl⟩
  | none =>
   cases hv : vacN m.F m.most with
   | some i => exact ⟨i,rfl⟩
   | none =>
    exfalso
    have h1 := vacN_none hv
    have h2 := pige (m.F.map (·.entry)) m.most fun e he => by
     obtain ⟨f,hf,rfl⟩ := h1 e he
     exact List.mem_map.2 ⟨f,hf,rfl⟩
    rw [List.length_map,h.len] at h2
    rcases hs with hs | hs
    ·obtain ⟨f,hf,e⟩ := List.mem_map.1 (h.names.mem_iff.2 hs)
     exact fileOf_none.1 hx f hf e
    ·omega
 obtain ⟨i,hsl⟩ := hslot
 have hp : preW m n d = (0,some (T2,⟨n,i,d.length,l⟩)) := by
  unfold preW
  rw [if_neg (by rw [hg];simp),if_neg (by omega),hsl]
  simp only [ht,ht2]
 unfold opW
 rw [hp]
 dsimp only
 rw [fin_on hi.cut hi.on]
theorem Has.renamed {m : StoM} {A : List (Bs × Bs)} (h : Has m A) (hi : Inv m) {a b d : Bs} (hg : goodF b = true) (hab : a ≠ b) (ha : (a,d) ∈ A) : (opN m a b).1 = 0 ∧ Has (opN m a b).2 ((b,d) :: A.filter fun x => !(x.1 == a) && !(x.1 == b)) := by
 obtain ⟨f,hfm,hfn,hfd,hff⟩ := h.file hi ha
 have hga : goodF a = true := by rw [← hfn];exact hi.good f hfm
 obtain ⟨T2,C,hp,hC,hl⟩ : ∃ T2 C,preN m a b = (0,some (T2,C,putF (delF m.F a) (renF f b))) ∧ (∀ c ∈ C,c.1 < m.most) ∧ C.length ≤ 2 := by
  have hn : ¬ (goodF a = false ∨ goodF b = false) := by rw [hga,hg];simp
  cases hx : fileOf m.F b with
  | none =>
   refine ⟨m.T,[(f.entry,entryB b f.size f.ext)], ?_,fun c hc => ?_,by simp⟩
   ·unfold preN
    rw [if_neg hn,hff]
    simp only [if_neg hab,hx]
   ·obtain rfl := List.mem_singleton.1 hc
    exact hi.b.ent f hfm
  | some g =>
   obtain ⟨o1,o2,o3⟩ := old_facts hi b
   obtain ⟨T2,ht2,_⟩ := turnS_give (oldX m.F b) m.T o1 o2 o3
   have e : oldX m.F b = g.ext := by unfold oldX;rw [hx];rfl
   rw [e] at ht2
   refine ⟨T2,two2 f.entry (entryB b f.size f.ext) g.entry [], ?_,fun c hc => ?_, ?_⟩
   ·unfold preN
    rw [if_neg hn,hff]
    simp only [if_neg hab,hx,ht2]
   ·rcases two2_mem.1 hc with rfl | rfl
    ·exact hi.b.ent f hfm
    ·exact hi.b.ent g (fileOf_mem hx)
   ·unfold two2;split <;> simp
 unfold opN
 rw [hp]
 dsimp only
 rw [fin_on hi.cut hi.on]
 refine ⟨rfl, ?_⟩
 have hr : ∀ g,readF ⟨(DS.run (settleC m.most T2 C) m.ds).2,putF (delF m.F a) (renF f b),T2,m.most,m.off⟩ g = readF m g := fun g => settle_read hi hC hl g
 have hp2 := perm_put (delF m.F a) (renF f b) (delF_nodup hi.names)
 have h1 := List.Perm.map (fun g => (g.name,readF ⟨(DS.run (settleC m.most T2 C) m.ds).2,putF (delF m.F a) (renF f b),T2,m.most,m.off⟩ g)) hp2
 refine List.Perm.trans h1 ?_
 rw [List.map_cons,hr]
 have e1 : readF m (renF f b) = d := hfd
 rw [e1]
 refine List.Perm.cons _ ?_
 have h2 := List.Perm.filter (fun x : Bs × Bs => !(x.1 == a) && !(x.1 == b)) h
 rw [List.filter_map] at h2
 refine List.Perm.trans (List.Perm.of_eq ?_) h2
 have e2 : delF (delF m.F a) (renF f b).name = m.F.filter ((fun x : Bs × Bs => !(x.1 == a) && !(x.1 == b)) ∘ fun f => (f.name,readF m f)) := by
  unfold delF
  rw [List.filter_filter]
  refine List.filter_congr fun g _ => ?_
  show (!(g.name == b) && !(g.name == a)) = (!(g.name == a) && !(g.name == b))
  exact Bool.and_comm _ _
 rw [e2]
 exact List.map_congr_left fun g _ => by rw [hr g]
theorem Has.removed {m : StoM} {A : List (Bs × Bs)} (h : Has m A) (hi : Inv m) {n d : Bs} (ha : (n,d) ∈ A) : (opR m n).1 = 0 ∧ Has (opR m n).2 (A.filter fun x => !(x.1 == n)) := by
 obtain ⟨f,hfm,hfn,hfd,hff⟩ := h.file hi ha
 have hg : goodF n = true := by rw [← hfn];exact hi.good f hfm
 obtain ⟨T2,hp,_,_,_⟩ := inv_remove hi hg hff
 unfold opR
 rw [hp]
 dsimp only
 rw [fin_on hi.cut hi.on]
 refine ⟨rfl, ?_⟩
 have hr : ∀ g,readF ⟨(DS.run (settleC m.most T2 [(f.entry,[])]) m.ds).2,delF m.F f.name,T2,m.most,m.off⟩ g = readF m g := fun g => settle_read hi (fun c hc => by obtain rfl := List.mem_singleton.1 hc;exact hi.b.ent f hfm) (by simp) g
 have h2 := List.Perm.filter (fun x : Bs × Bs => !(x.1 == n)) h
 rw [List.filter_map] at h2
 refine List.Perm.trans (List.Perm.of_eq ?_) h2
 show List.map _ (delF m.F f.name) = _
 rw [hfn] at hr ⊢
 exact List.map_congr_left fun g _ => by rw [hr g]
theorem opR_none {m : StoM} {A : List (Bs × Bs)} (h : Has m A) {n : Bs} (hg : goodF n = true) (ha : n ∉ A.map (·.1)) : opR m n = (9,m) := by
 have h4 := h.none ha
 have hp : preR m n = (9,Option.none) := by
  unfold preR
  rw [if_neg (by rw [hg];simp),h4]
 unfold opR
 rw [hp]
theorem tmp_good : goodF tmpL = true := by decide
theorem lput_old {m : StoM} {A : List (Bs × Bs)} (h : Has m A) (hi : Inv m) {p q : Nat} {d e : Bs} (hl : d.length ≤ 262208) (ha : (nameL (shaS d),e) ∈ A) : putL m p q d = ((shaS d,0),m,p,q + 1) := by
 unfold putL
 rw [if_neg (by omega),if_pos (h.find hi ha).2.2]
theorem lfilter_all {A : List (Bs × Bs)} {n : Bs} (h : n ∉ A.map (·.1)) : A.filter (fun x => !(x.1 == n)) = A := by
 rw [List.filter_eq_self]
 intro x hx
 have : x.1 ≠ n := fun e => h (List.mem_map.2 ⟨x,hx,e⟩)
 simpa using this
theorem lput_new {m : StoM} {A : List (Bs × Bs)} (h : Has m A) (hi : Inv m) (hd : DGood m.ds) {p q : Nat} {d : Bs} (hl : d.length ≤ 16384) (hf : needsN d.length + usedA A ≤ m.T.length) (hs : A.length < m.most) (ht : tmpL ∉ A.map (·.1)) (hn : nameL (shaS d) ∉ A.map (·.1)) :
  ∃ m',putL m p q d = ((shaS d,0),m',p + 1,q) ∧ Inv m' ∧ m'.most = m.most ∧ m'.T.length = m.T.length ∧ Has m' ((nameL (shaS d),d) :: A) := by
 have hg : goodF (nameL (shaS d)) = true := nameL_good (by rw [shaS_length];decide)
 have h0 := opW_ok h hi hd tmp_good (d := d) (by omega) (by unfold needsN;omega) hf (.inr (by omega))
 have h1 := h.wrote hi tmpL d h0
 obtain ⟨i1,i2,i3⟩ := opW_inv hi tmpL d
 rw [lfilter_all ht] at h1
 obtain ⟨r1,r2⟩ := h1.renamed i1 hg (fun e => nameL_tmp _ e.symm) (List.mem_cons_self ..)
 obtain ⟨j1,j2,j3⟩ := opN_inv i1 tmpL (nameL (shaS d))
 refine ⟨(opN (opW m tmpL d).2 tmpL (nameL (shaS d))).2, ?_,j1,j2.trans i2,j3.trans i3, ?_⟩
 ·unfold putL
  rw [if_neg (by omega),if_neg (by rw [(h.gone hg hn).2];decide),if_pos h0,if_pos r1]
 ·rw [List.filter_cons,if_neg (by simp)] at r2
  have e : A.filter (fun x => !(x.1 == tmpL) && !(x.1 == nameL (shaS d))) = A := by
   rw [List.filter_eq_self]
   intro x hx
   have e1 : x.1 ≠ tmpL := fun e => ht (List.mem_map.2 ⟨x,hx,e⟩)
   have e2 : x.1 ≠ nameL (shaS d) := fun e => hn (List.mem_map.2 ⟨x,hx,e⟩)
   simp [e1,e2]
  rwa [e] at r2
theorem lget_in {m : StoM} {A : List (Bs × Bs)} (h : Has m A) (hi : Inv m) {r : Nat} {id d : Bs} (ha : (nameL id,d) ∈ A) (hs : shaS d = id) : getL m r id = ((d,0),r + 1) := by
 obtain ⟨_,h2,h3⟩ := h.find hi ha
 unfold getL
 rw [if_pos h3,h2,if_pos hs]
theorem lget_out {m : StoM} {A : List (Bs × Bs)} (h : Has m A) {r : Nat} {id : Bs} (hl : id.length = 32) (ha : nameL id ∉ A.map (·.1)) : getL m r id = (([],9),r) := by
 have h2 := (h.gone (nameL_good (by omega)) ha).2
 unfold getL
 rw [if_neg (by rw [h2];decide),h2]
theorem llist_perm {m : StoM} {A : List (Bs × Bs)} (h : Has m A) : (listL (namesS m.F)).Perm (listL (A.map (·.1))) := by
 unfold listL namesS
 exact List.Perm.filterMap _ ((List.mergeSort_perm _ _).trans h.names)
theorem lread_len {m : StoM} (hi : Rdy m) (hd : DGood m.ds) (n : Bs) : (readW m n).length ≤ 1048576 := by
 unfold readW
 split
 ·cases hx : fileOf m.F n with
  | none => simp
  | some f =>
   rw [Option.map_some,Option.getD_some,readF_len2 hi hd (fileOf_mem hx)]
   exact hi.b.siz f (fileOf_mem hx)
 ·simp
theorem lhas_fresh (n f : Nat) : Has (freshM n f) [] := List.Perm.refl _
open Go.RowKit
theorem Sto.all_lt {w : World} {X : List Nat} {S D Lg M : Nat} {m : StoM} (h : Sto w X S D Lg M m) : ∀ y ∈ S :: M :: X,y < w.heap.size := by
 intro y hy
 obtain ⟨ad,hm,_⟩ := h.map
 rcases List.mem_cons.1 hy with rfl | hy
 ·exact h.blk.lt
 ·rcases List.mem_cons.1 hy with rfl | hy
  ·exact hm.lt
  ·exact h.dsk.lt y hy
set_option maxRecDepth 100000 in
set_option maxHeartbeats 2000000 in
theorem open_ok {X : List Nat} {S D Lg M : Nat} {m : StoM} (w : World) (h : Sto w X S D Lg M m) (hi : Rdy m) (hR : RT w) (h0 : 0 ∉ S :: M :: X) (ho : (opR m tmpL).1 = 0 ∨ (opR m tmpL).1 = 9) :
  Calls Tryz.prog 11 #[.pointer (some ⟨S,0,none⟩)] w fun e w' => ∃ X' L,e = .returned (.tuple #[.pointer (some ⟨L,0,none⟩), .int .i64 0]) ∧ Loo w' X' S D Lg M (opR m tmpL).2 L 0 0 0 ∧ Mv (S :: M :: X) (S :: M :: X') w w' ∧ w.heap.size ≤ L := by
 have hw := h.pos
 obtain ⟨o,hoo⟩ : ∃ t,opR m tmpL = t := ⟨_,rfl⟩
 rw [hoo] at ho ⊢
 obtain ⟨E,hE⟩ : ∃ t,o.1 = t := ⟨_,rfl⟩
 rw [hE] at ho
 have KR : Calls Tryz.prog 39 #[.pointer (some ⟨S,0,none⟩), .string ⟨#[116,109,112]⟩] w fun e w' => e = .returned (.int .i64 (E : Nat)) ∧ ∃ X',Mv (S :: M :: X) (S :: M :: X') w w' ∧ Sto w' X' S D Lg M o.2 := by
  rw [← hE, ← hoo];exact opR_any X S D Lg M m tmpL w h hi (by decide)
 have HKR := Lib.hid KR
 have HR := Lib.hid (And.intro hR (And.intro h0 hw))
 clear hoo hE KR h hi hR h0 hw
 have key : ∀ X' w4,Mv (S :: M :: X) (S :: M :: X') w w4 → Sto w4 X' S D Lg M o.2 → Loo (w4.alloc (.cells #[.pointer (some ⟨S,0,none⟩), .int .i64 0, .int .i64 0, .int .i64 0] 75)) X' S D Lg M o.2 w4.heap.size 0 0 0 ∧ Mv (S :: M :: X) (S :: M :: X') w (w4.alloc (.cells #[.pointer (some ⟨S,0,none⟩), .int .i64 0, .int .i64 0, .int .i64 0] 75)) ∧ w.heap.size ≤ w4.heap.size := fun X' w4 hm hs =>
  ⟨⟨hs.below (below_alloc _ _),Blk.new w4 _ 75,⟨fun hx => Nat.lt_irrefl _ (hs.all_lt _ hx),hs.pos⟩,fun k hk => ((below_alloc w4 _).cell (p := ⟨0,k,none⟩) (by have := hs.pos;show 0 < _;omega)).trans ((hm.frm.cell (p := ⟨0,k,none⟩) (by have := HR.out.2.2;show 0 < _;omega) HR.out.2.1).trans (HR.out.1 k hk)),hm.apart HR.out.2.1 (by have := HR.out.2.2;omega)⟩,hm.alloc _,hm.size⟩
 have HK := Lib.hid key
 clear key
 rcases ho with rfl | rfl
 ·go_enter Tryz.func11,Tryz.ntmps11
  go_wp2_with (go_at_call 39;refine HKR.out.mono ?_;rintro e w4 ⟨rfl,X4,hm4,hs4⟩;have HL4 := Lib.hid (HK.out X4 w4 hm4 hs4);clear hm4 hs4)
  go_ret2
  exact ⟨X4,w4.heap.size,rfl,HL4.out⟩
 ·go_enter Tryz.func11,Tryz.ntmps11
  go_wp2_with (go_at_call 39;refine HKR.out.mono ?_;rintro e w4 ⟨rfl,X4,hm4,hs4⟩;have HL4 := Lib.hid (HK.out X4 w4 hm4 hs4);clear hm4 hs4)
  go_ret2
  exact ⟨X4,w4.heap.size,rfl,HL4.out⟩
theorem fresh_open (n f : Nat) : opR (freshM n f) tmpL = (9,freshM n f) := rfl
set_option maxRecDepth 100000 in
set_option maxHeartbeats 4000000 in
theorem lmade_any (n f : Nat) (w : World) (h1 : 1 ≤ f) (h2 : f ≤ 256) (h3 : f + 8 ≤ n) (h4 : n ≤ 4000) (hT : TB w) (hR : RT w) (hw : 1 < w.heap.size) :
  Calls Tryz.prog 15 #[.int .i64 n, .int .i64 f] w fun e w' => ∃ X D S Lg M L,e = .returned (.tuple #[.pointer (some ⟨D,0,none⟩), .pointer (some ⟨S,0,none⟩), .pointer (some ⟨L,0,none⟩), .bool true]) ∧ Loo w' X S D Lg M (freshM n f) L 0 0 0 ∧ Nw w (L :: S :: M :: X) w' := by
 have KN := new_any n w (by omega) (by omega)
 have KF := fun (X : List Nat) (D : Nat) (w1 : World) (hd : Dsk w1 X D ⟨List.replicate n zeroS,[],none,false⟩) => format_ok X D (List.replicate n zeroS) f w1 hd h1 h2 (by rw [List.length_replicate];exact h3)
 simp only [List.length_replicate,fmt_fresh] at KF
 have KM := fun (X : List Nat) (D : Nat) (w1 : World) (hd : Dsk w1 X D ⟨freshL n f,[],none,false⟩) (hT1 : TB w1) (hw1 : 1 < w1.heap.size) (hX : 1 ∉ X) =>
  mount0_any X D ⟨freshL n f,[],none,false⟩ f (n - f - 7) w1 hd rfl ⟨h1,h2⟩ (by rw [fresh_len];omega) (by omega) (by omega) (by rw [fresh_len];exact fresh_head n f (by omega)) (by rw [pack_zero _ (by omega)];exact fresh_zero n f 1 (by omega) (by omega)) (fun i hi => fresh_zero n f (2 + i) (by omega) (by omega)) (fresh_log n f h3) (by simp) hT1 hw1 hX
 have HKF := Lib.hid KF
 have HKM := Lib.hid KM
 have HT := Lib.hid (And.intro hT (And.intro hw hR))
 have HM0 := Lib.hid (show freshM n f = ⟨⟨freshL n f,[],none,false⟩,[],List.replicate (n - f - 7) false,f,false⟩ from rfl)
 have HO := Lib.hid (And.intro (fresh_open n f) (inv_fresh n f h1 h2 h3 h4).rdy)
 obtain ⟨FM0,hFM0⟩ : ∃ q,freshM n f = q := ⟨_,rfl⟩
 rw [hFM0] at HM0 HO ⊢
 clear KF KM h1 h2 h3 h4 hT hw hR hFM0
 go_enter Tryz.func15,Tryz.ntmps15
 go_wp2_with (first
  | (go_at_call 43;refine KN.mono ?_;rintro e w1 ⟨X1,D,rfl,hd1,hm1⟩;have KF1 := HKF.out X1 D w1 hd1;have HM1 := Lib.hid hm1;clear hd1 hm1 KN)
  | (go_at_call 44;refine KF1.mono ?_;rintro e w2 ⟨rfl,X2,hd2,hm2⟩;have hm12 := HM1.out.trans hm2;have ht2 := HT.out.1.mv hm12 HT.out.2.1 (by simp);have KM2 := HKM.out X2 D w2 hd2 ht2.1 ht2.2.1 ht2.2.2;have HM2 := Lib.hid hm12;clear hd2 hm2 hm12 ht2 KF1)
  | (go_at_call 23;refine KM2.mono ?_;rintro e w3 ⟨X3,S,Lg,M,rfl,hst,hm3,hS,hM⟩;rw [← HM0.out] at hst;have hn3 : Nw w (S :: M :: X3) w3 := ⟨(((Nw.start w).mv HM2.out).mv hm3).below,fun y hy => (List.mem_cons.1 hy).elim (fun e => by rw [e];exact Nat.le_trans HM2.out.size hS) (fun hy => (List.mem_cons.1 hy).elim (fun e => by rw [e];exact Nat.le_trans HM2.out.size hM) (fun hy => (((Nw.start w).mv HM2.out).mv hm3).new y hy))⟩;have KO := open_ok w3 hst HO.out.2 (HT.out.2.2.below (by have := HT.out.2.1;omega) hn3.below) (fun hx => by have h1 := hn3.new 0 hx;have h2 := HT.out.2.1;omega) (by rw [HO.out.1];exact .inr rfl);rw [HO.out.1] at KO;have HKO := Lib.hid KO;have HN3 := Lib.hid hn3;clear hst hm3 hS hM KM2 KO hn3)
  | (go_at_call 11;refine HKO.out.mono ?_;rintro e w4 ⟨X4,L,rfl,hl4,hm4,hL⟩;have H4 := Lib.hid (And.intro hl4 (And.intro (HN3.out.mv hm4) (Nat.le_trans HN3.out.below.size hL)));clear hl4 hm4 hL))
 refine bodyPost_ret (v := .tuple #[.pointer (some ⟨D,0,none⟩), .pointer (some ⟨S,0,none⟩), .pointer (some ⟨L,0,none⟩), .bool true]) ?_ rfl ?_
 ·simp [results,Tryz.f15,go_sem]
 ·exact ⟨X4,D,S,Lg,M,L,rfl,H4.out.1,H4.out.2.1.below,fun y hy => (List.mem_cons.1 hy).elim (fun e => by rw [e];exact H4.out.2.2) (fun hy => H4.out.2.1.new y hy)⟩
open Go.RowKit
def abc : Bs := [97,98,99]
theorem listL_names : ∀ (l : List Bs),(∀ i ∈ l,i.length = 32) → listL (l.map nameL) = l := by
 intro l
 induction l with
 | nil => intro _;rfl
 | cons i l ih =>
  intro h
  have h1 := ih fun j hj => h j (List.mem_cons_of_mem _ hj)
  unfold listL at h1 ⊢
  rw [List.map_cons,List.filterMap_cons,idOf_name (h i (List.mem_cons_self ..)),h1]
set_option maxRecDepth 100000 in
set_option maxHeartbeats 4000000 in
theorem lspeaks_any (w : World) (hT : TB w) (hR : RT w) (hw : 1 < w.heap.size) : Calls Tryz.prog 7 #[] w fun e w' => e = .returned (.bool true) ∧ Below w.heap.size w w' := by
 have KM := lmade_any 20 4 w (by decide) (by decide) (by decide) (by decide) hT hR hw
 have hi0 := inv_fresh 20 4 (by decide) (by decide) (by decide) (by decide)
 have hs32 := shaS_length abc
 have KP := fun (X : List Nat) (S D Lg M L : Nat) (w1 : World) (h : Loo w1 X S D Lg M (freshM 20 4) L 0 0 0) => put_loose abc w1 h hi0 (by decide) (by decide) (by decide)
 have hput : ∀ (ds : DGood (freshM 20 4).ds), ∃ m',putL (freshM 20 4) 0 0 abc = ((shaS abc,0),m',1,0) ∧ Inv m' ∧ Has m' [(nameL (shaS abc),abc)] ∧ m'.most = 4 := fun ds => by
  obtain ⟨m',h1,h2,h3,_,h5⟩ := lput_new (lhas_fresh 20 4) hi0 ds (p := 0) (q := 0) (d := abc) (by decide) (by decide) (by decide) (by simp) (by simp)
  exact ⟨m',h1,h2,h5,h3⟩
 have HKP := Lib.hid KP
 have HPUT := Lib.hid hput
 obtain ⟨ID,hID⟩ : ∃ t,shaS abc = t := ⟨_,rfl⟩
 obtain ⟨I,hI⟩ : ∃ t,mk ID = t := ⟨_,rfl⟩
 have HS := Lib.hid (And.intro hID (And.intro hI hs32))
 clear KP hput hs32 hi0 hID
 go_enter Tryz.func7,Tryz.ntmps7
 go_wp2_with (first
  | (go_at_call 15;refine KM.mono ?_;rintro e w1 ⟨X1,D,S,Lg,M,L,rfl,hl1,hn1⟩;obtain ⟨m1,hp1,hi1,hA1,hm1⟩ := HPUT.out hl1.sto.dsk.good;have KP1 := HKP.out X1 S D Lg M L w1 hl1;unfold PutLP at KP1;rw [hp1,HS.out.1,HS.out.2.1] at KP1;have HP1 := Lib.hid (And.intro hi1 hA1);have HKP1 := Lib.hid KP1;have HN1 := Lib.hid hn1;clear KM hl1 hn1 hp1 hi1 hA1 hm1 KP1)
  | (
   go_at_call 8;refine HKP1.out.mono ?_;rintro e w2 ⟨rfl,X2,hm2,hl2⟩
   have hi1 := HP1.out.1
   have hA1 := HP1.out.2
   have hidl : ID.length = 32 := by rw [← HS.out.1];exact HS.out.2.2
   have hmem : (nameL ID,abc) ∈ [(nameL (shaS abc),abc)] := by rw [HS.out.1];exact List.mem_cons_self ..
   have KG := get_loose ID w2 hl2 hi1.rdy hidl (by decide) (by have := lread_len hi1.rdy hl2.sto.dsk.good (nameL ID);omega)
   unfold GetLP at KG
   rw [lget_in hA1 hi1 hmem HS.out.1,HS.out.2.1,show mk abc = ⟨#[97,98,99]⟩ from rfl] at KG
   have HF := Lib.hid (show findE m1.F (nameL ID) = 0 from (hA1.find hi1 hmem).2.2)
   have HLL := Lib.hid (show (listL (namesS m1.F)).length = 1 by
    rw [(llist_perm hA1).length_eq]
    show (listL ([shaS abc].map nameL)).length = 1
    rw [listL_names _ (by intro i hi;rw [List.mem_singleton.1 hi];exact HS.out.2.2)]
    rfl)
   have HKG := Lib.hid KG
   have H2 := Lib.hid (And.intro hl2 (And.intro (HN1.out.mv hm2) hidl))
   clear hi1 hA1 hidl hmem KG hm2 hl2)
  | (
   go_at_call 9;refine HKG.out.mono ?_;rintro e w3 ⟨rfl,hm3,hl3⟩
   have KH := lhas_any ID w3 hl3 HP1.out.1.rdy H2.out.2.2
   rw [HF.out,HS.out.2.1,show ((0 : Nat) == 0) = true from rfl] at KH
   have HKH := Lib.hid KH
   have H3 := Lib.hid (And.intro hl3 (H2.out.2.1.mv hm3))
   clear KH hm3 hl3)
  | (
   go_at_call 12;refine HKH.out.mono ?_;rintro e w4 ⟨rfl,hb4⟩
   have KL := list_loose w4 (H3.out.1.below hb4) HP1.out.1.b.len
   rw [HLL.out] at KL
   have HKL := Lib.hid KL
   have H4 := Lib.hid (And.intro (H3.out.2.below.trans (hb4.mono H3.out.2.below.size)) H3.out.2)
   clear KL hb4)
  | (go_at_call 14;refine HKL.out.mono ?_;rintro e w5 ⟨A5,c5,rfl,_,hb5⟩;have H5 := Lib.hid (H4.out.1.trans (hb5.mono H4.out.1.size));clear hb5))
 go_ret
 exact ⟨rfl,H5.out⟩
open Go.RowKit
theorem usedA_filter (f : Bs × Bs → Bool) : ∀ A,usedA (A.filter f) ≤ usedA A
 | [] => Nat.le_refl _
 | x :: A => by
  have ih := usedA_filter f A
  unfold usedA at ih ⊢
  rw [List.filter_cons]
  split
  ·rw [List.map_cons,List.map_cons,List.sum_cons,List.sum_cons];omega
  ·rw [List.map_cons,List.sum_cons];omega
theorem twice_plain {a b : Bs} (ha : a.length ≤ 2000) (hb : b.length ≤ 2000) (d0 : DGood (freshM 60 8).ds) :
  ∃ m1,putL (freshM 60 8) 0 0 a = ((shaS a,0),m1,1,0) ∧ Inv m1 ∧ putL m1 1 0 a = ((shaS a,0),m1,1,1) ∧ (DGood m1.ds →
   ∃ m2 p q k,putL m1 1 1 b = ((shaS b,0),m2,p,q) ∧ p ≤ 2 ∧ q ≤ 2 ∧ Inv m2 ∧ (listL (namesS m2.F)).length = k ∧ 1 ≤ k ∧ k ≤ 2 ∧ ((shaS a = shaS b) ↔ k = 1) ∧ (DGood m2.ds →
    (opR m2 (nameL (shaS a))).1 = 0 ∧ Inv (opR m2 (nameL (shaS a))).2 ∧ opR (opR m2 (nameL (shaS a))).2 (nameL (shaS a)) = (9,(opR m2 (nameL (shaS a))).2) ∧ findE (opR m2 (nameL (shaS a))).2.F (nameL (shaS a)) = 9 ∧ (∀ r,getL (opR m2 (nameL (shaS a))).2 r (shaS a) = (([],9),r)) ∧ (DGood (opR m2 (nameL (shaS a))).2.ds →
     ∃ m4 p' q',putL (opR m2 (nameL (shaS a))).2 p q a = ((shaS a,0),m4,p',q') ∧ p' ≤ 3 ∧ q' ≤ 3 ∧ Inv m4 ∧ ∀ r,getL m4 r (shaS a) = ((a,0),r + 1)))) := by
 have hi0 := inv_fresh 60 8 (by decide) (by decide) (by decide) (by decide)
 have na : needsN a.length ≤ 4 := by unfold needsN;omega
 have nb : needsN b.length ≤ 4 := by unfold needsN;omega
 have la : (shaS a).length = 32 := shaS_length a
 have lb : (shaS b).length = 32 := shaS_length b
 have ht : ∀ x : Bs,tmpL ≠ nameL x := fun x e => nameL_tmp x e.symm
 obtain ⟨m1,p1,i1,o1,t1,A1⟩ := lput_new (lhas_fresh 60 8) hi0 d0 (p := 0) (q := 0) (d := a) (by omega) (by show needsN a.length + 0 ≤ 45;omega) (by decide) (by simp) (by simp)
 have t1' : m1.T.length = 45 := t1
 have o1' : m1.most = 8 := o1
 have p2 := lput_old A1 i1 (p := 1) (q := 0) (d := a) (by omega) (List.mem_cons_self ..)
 refine ⟨m1,p1,i1,p2,fun d1 => ?_⟩
 have hlist : ∀ {m : StoM} {l : List Bs} {ds : List Bs},Has m (l.zip ds |>.map fun x => (nameL x.1,x.2)) → l.length = ds.length → (∀ i ∈ l,i.length = 32) → (listL (namesS m.F)).length = l.length := by
  intro m l ds h hl hi
  rw [(llist_perm h).length_eq,List.map_map]
  have e : ((fun x => x.1) ∘ fun x : Bs × Bs => (nameL x.1,x.2)) = fun x : Bs × Bs => nameL x.1 := rfl
  rw [e,show (l.zip ds).map (fun x : Bs × Bs => nameL x.1) = ((l.zip ds).map (·.1)).map nameL by rw [List.map_map];rfl,List.map_fst_zip (by omega),listL_names l hi]
 have main : ∃ m2 p q k A,putL m1 1 1 b = ((shaS b,0),m2,p,q) ∧ p ≤ 2 ∧ q ≤ 2 ∧ Inv m2 ∧ (listL (namesS m2.F)).length = k ∧ 1 ≤ k ∧ k ≤ 2 ∧ ((shaS a = shaS b) ↔ k = 1) ∧ m2.T.length = 45 ∧ m2.most = 8 ∧ Has m2 A ∧ (nameL (shaS a),a) ∈ A ∧ usedA A ≤ 8 ∧ A.length ≤ 2 ∧ tmpL ∉ A.map (·.1) := by
  by_cases e : shaS a = shaS b
  ·have p3 := lput_old A1 i1 (p := 1) (q := 1) (d := b) (e := a) (by omega) (by rw [e];exact List.mem_cons_self ..)
   refine ⟨m1,1,2,1,_,p3,by decide,by decide,i1,hlist (l := [shaS a]) (ds := [a]) A1 rfl (by intro i hi;rw [List.mem_singleton.1 hi];exact la),by decide,by decide,⟨fun _ => rfl,fun _ => e⟩,t1',o1',A1,List.mem_cons_self .., ?_,by simp,by simpa using ht _⟩
   show (List.map _ _).sum ≤ 8
   simp
   omega
  ·obtain ⟨m2,p3,i2,o2,t2,A2⟩ := lput_new A1 i1 d1 (p := 1) (q := 1) (d := b) (by omega) (by rw [t1'];show needsN b.length + (List.map _ _).sum ≤ 45;simp;omega) (by rw [o1'];simp) (by simpa using ht _) (by simpa using fun h => e (nameL_inj h).symm)
   refine ⟨m2,2,1,2,_,p3,by decide,by decide,i2,hlist (l := [shaS b,shaS a]) (ds := [b,a]) A2 rfl (by intro i hi;rcases List.mem_cons.1 hi with h | h;rw [h];exact lb;rw [List.mem_singleton.1 h];exact la),by decide,by decide,⟨fun h => absurd h e,fun h => by cases h⟩,t2.trans t1',o2.trans o1',A2,List.mem_cons_of_mem _ (List.mem_cons_self ..), ?_,by simp,by simp [ht]⟩
   show (List.map _ _).sum ≤ 8
   simp
   omega
 obtain ⟨m2,p,q,k,A,g1,g2,g3,g4,g5,g6,g7,g8,g9,g10,g11,g12,g13,g14,g15⟩ := main
 refine ⟨m2,p,q,k,g1,g2,g3,g4,g5,g6,g7,g8,fun d2 => ?_⟩
 obtain ⟨r1,A3⟩ := g11.removed g4 g12
 obtain ⟨i3,o3,t3⟩ := opR_inv g4 (nameL (shaS a))
 obtain ⟨m3,hm3⟩ : ∃ t,(opR m2 (nameL (shaS a))).2 = t := ⟨_,rfl⟩
 rw [hm3] at A3 i3 o3 t3 ⊢
 have hnot : nameL (shaS a) ∉ (A.filter fun x => !(x.1 == nameL (shaS a))).map (·.1) := by
  intro h
  obtain ⟨x,hx,e⟩ := List.mem_map.1 h
  have := (List.mem_filter.1 hx).2
  rw [e] at this
  simp at this
 have hg : goodF (nameL (shaS a)) = true := nameL_good (by omega)
 refine ⟨r1,i3,opR_none A3 hg hnot,(A3.gone hg hnot).2,fun r => lget_out A3 la hnot,fun d3 => ?_⟩
 have hu : usedA (A.filter fun x => !(x.1 == nameL (shaS a))) ≤ 8 := by
  exact Nat.le_trans (usedA_filter _ A) g13
 have hl : (A.filter fun x => !(x.1 == nameL (shaS a))).length ≤ 2 := Nat.le_trans (List.length_filter_le _ _) g14
 obtain ⟨m4,p4,i4,_,_,A4⟩ := lput_new A3 i3 d3 (p := p) (q := q) (d := a) (by omega) (by rw [t3,g9];omega) (by rw [o3,g10];omega) (fun h => g15 ((List.Sublist.map _ List.filter_sublist).subset h)) hnot
 exact ⟨m4,p + 1,q,p4,by omega,by omega,i4,fun r => lget_in A4 i4 (List.mem_cons_self ..) rfl⟩
open Go.RowKit
theorem cut_mk (s : ByteArray) (n k : Nat) (h : min s.size n = k) : s.extract 0 k = mk (s.data.toList.take n) := by
 have h1 := ext_mk' s 0 k
 rw [Nat.zero_add,List.drop_zero] at h1
 rw [h1]
 have hs : s.data.toList.length = s.size := by rw [Array.length_toList];rfl
 congr 1
 by_cases h2 : s.size ≤ n
 ·rw [List.take_of_length_le (by omega),List.take_of_length_le (by omega)]
 ·rw [show k = n by omega]
set_option maxRecDepth 100000 in
set_option maxHeartbeats 4000000 in
theorem looseTwice_any (s0 s1 : ByteArray) (w : World) (hs0 : s0.size ≤ maxLen) (hs1 : s1.size ≤ maxLen) (hT : TB w) (hR : RT w) (hw : 1 < w.heap.size) : Calls Tryz.prog 5 #[.string s0, .string s1] w fun e w' => e = .returned (.bool true) ∧ Below w.heap.size w w' := by
 unfold maxLen at hs0 hs1
 have HSP := Lib.hid (lspeaks_any w hT hR hw)
 have HMD := Lib.hid (fun (w1 : World) (hb : Below w.heap.size w w1) => lmade_any 60 8 w1 (by decide) (by decide) (by decide) (by decide) (hT.below hw hb) (hR.below (by omega) hb) (Nat.lt_of_lt_of_le hw hb.size))
 obtain ⟨k0,hk0⟩ : ∃ t,min s0.size 2000 = t := ⟨_,rfl⟩
 obtain ⟨k1,hk1⟩ : ∃ t,min s1.size 2000 = t := ⟨_,rfl⟩
 have c0 := cut_mk s0 2000 k0 hk0
 have c1 := cut_mk s1 2000 k1 hk1
 have la : (s0.data.toList.take 2000).length ≤ 2000 := List.length_take_le _ _
 have lb : (s1.data.toList.take 2000).length ≤ 2000 := List.length_take_le _ _
 obtain ⟨a,ha⟩ : ∃ t,s0.data.toList.take 2000 = t := ⟨_,rfl⟩
 obtain ⟨b,hb⟩ : ∃ t,s1.data.toList.take 2000 = t := ⟨_,rfl⟩
 rw [ha] at c0 la
 rw [hb] at c1 lb
 have HTP := Lib.hid (fun d => twice_plain la lb d)
 have LA := shaS_length a
 have LB := shaS_length b
 obtain ⟨A,hA⟩ : ∃ t,mk a = t := ⟨_,rfl⟩
 obtain ⟨B,hB⟩ : ∃ t,mk b = t := ⟨_,rfl⟩
 rw [hA] at c0
 rw [hB] at c1
 have hm0 : min (s0.size : Int) 2000 = (k0 : Int) := by omega
 have hm1 : min (s1.size : Int) 2000 = (k1 : Int) := by omega
 have hsl0 := fun (w : World) => run_slice_string_h (P := Tryz.prog) (w := w) (t := 9) (s := s0) Tryz.underlying9 .i64 (k0 : Int) (by omega) (by omega)
 have hsl1 := fun (w : World) => run_slice_string_h (P := Tryz.prog) (w := w) (t := 9) (s := s1) Tryz.underlying9 .i64 (k1 : Int) (by omega) (by omega)
 rw [Int.toNat_natCast,c0] at hsl0
 rw [Int.toNat_natCast,c1] at hsl1
 have HAB := Lib.hid (And.intro hA (And.intro hB (And.intro la (And.intro lb (And.intro LA LB)))))
 have n0 : (s0.size : Int) ≤ 9223372036854775807 := by omega
 have n1 : (s1.size : Int) ≤ 9223372036854775807 := by omega
 clear hT hR hw c0 c1 la lb ha hb LA LB hA hB hk0 hk1
 go_enter Tryz.func5,Tryz.ntmps5
 go_wp2_with (first
  | (go_at_call 7;refine HSP.out.mono ?_;rintro e w1 ⟨rfl,hb1⟩;have H1 := Lib.hid hb1;clear hb1))
 have mixed := mixedT
 go_quiet (fail)
 obtain ⟨W1,hW1⟩ : ∃ t,w1.drewN nq = t := ⟨_,rfl⟩
 have H1b := Lib.hid (show Below w.heap.size w W1 by rw [← hW1];exact bdN H1.out nq)
 rw [hW1]
 clear hW1 H1
 go_wp2_with (first
  | (
   go_at_call 15;refine (HMD.out W1 H1b.out).mono ?_;rintro e w2 ⟨X2,D,S,Lg,M,L,rfl,hl2,hn2⟩
   obtain ⟨m1,hp1,hi1,hp2,hnx⟩ := HTP.out hl2.sto.dsk.good
   have KP := put_loose a w2 hl2 (inv_fresh 60 8 (by decide) (by decide) (by decide) (by decide)) (by have := HAB.out.2.2.1;omega) (by decide) (by decide)
   unfold PutLP at KP
   rw [hp1,HAB.out.1] at KP
   have HKP := Lib.hid KP
   have H2 := Lib.hid (And.intro hi1 (And.intro hp2 (And.intro hnx (And.intro hn2 H1b.out))))
   clear KP hp1 hi1 hp2 hnx hl2 hn2)
  | (
   go_at_call 8;with_reducible refine HKP.out.mono ?_;rintro e w3 ⟨rfl,X3,hm3,hl3⟩
   have HFR := Lib.hid (ffree_any X3 S D Lg M m1 w3 hl3.sto H2.out.1.b.tl (by have := H2.out.1.b.mo;omega) H2.out.1.b.len)
   have H3 := Lib.hid (And.intro hl3 (H2.out.2.2.2.1.mv hm3))
   clear hm3 hl3)
  | (
   go_at_call 28;with_reducible refine HFR.out.mono ?_;rintro e w4 ⟨rfl,hb4⟩
   have hl4 := H3.out.1.below hb4
   have KP := put_loose a w4 hl4 H2.out.1 (by have := HAB.out.2.2.1;omega) (by decide) (by decide)
   unfold PutLP at KP
   rw [H2.out.2.1,HAB.out.1] at KP
   have HKP2 := Lib.hid KP
   have H4 := Lib.hid (H3.out.2.mv (Mv.of_below _ hb4))
   clear KP hb4 hl4)
  | (
   go_at_call 8;with_reducible refine HKP2.out.mono ?_;rintro e w5 ⟨rfl,X5,hm5,hl5⟩
   have HFR2 := Lib.hid (ffree_any X5 S D Lg M m1 w5 hl5.sto H2.out.1.b.tl (by have := H2.out.1.b.mo;omega) H2.out.1.b.len)
   have H5 := Lib.hid (And.intro hl5 (H4.out.mv hm5))
   clear hm5 hl5)
  | (
   go_at_call 28;with_reducible refine HFR2.out.mono ?_;rintro e w6 ⟨rfl,hb6⟩
   have hl6 := H5.out.1.below hb6
   obtain ⟨m2,p,q,k,g1,g2,g3,g4,g5,g6,g7,g8,g9⟩ := H2.out.2.2.1 hl6.sto.dsk.good
   have KP := put_loose b w6 hl6 H2.out.1 (by have := HAB.out.2.2.2.1;omega) (by decide) (by decide)
   unfold PutLP at KP
   rw [g1,HAB.out.2.1] at KP
   have HKP3 := Lib.hid KP
   have H6 := Lib.hid (And.intro g2 (And.intro g3 (And.intro g4 (And.intro g5 (And.intro g6 (And.intro g7 (And.intro g8 (And.intro g9 (H5.out.2.mv (Mv.of_below _ hb6))))))))))
   clear KP hb6 hl6 g1 g2 g3 g4 g5 g6 g7 g8 g9)
  | (
   go_at_call 8;with_reducible refine HKP3.out.mono ?_;rintro e w7 ⟨rfl,X7,hm7,hl7⟩
   have HKL := Lib.hid (list_loose w7 hl7 H6.out.2.2.1.b.len)
   have H7 := Lib.hid (And.intro hl7 (H6.out.2.2.2.2.2.2.2.2.mv hm7))
   clear hm7 hl7))
 have hk : (k = 1 ∧ shaS a = shaS b) ∨ (k = 2 ∧ shaS a ≠ shaS b) := by
  have h1 := H6.out.2.2.2.2.1
  have h2 := H6.out.2.2.2.2.2.1
  have h3 := H6.out.2.2.2.2.2.2.1
  rcases Nat.lt_or_ge k 2 with h | h
  ·exact .inl ⟨by omega,h3.2 (by omega)⟩
  ·exact .inr ⟨by omega,fun e => by have := h3.1 e;omega⟩
 rw [H6.out.2.2.2.1] at HKL
 have hcmp : ((mk (shaS a)).toList == (mk (shaS b)).toList) = decide (shaS a = shaS b) := by
  rw [mk_toList',mk_toList',Bool.eq_iff_iff];simp
 obtain ⟨IA,hIA⟩ : ∃ t,mk (shaS a) = t := ⟨_,rfl⟩
 obtain ⟨IB,hIB⟩ : ∃ t,mk (shaS b) = t := ⟨_,rfl⟩
 rw [hIA,hIB] at hcmp
 simp only [hIA,hIB]
 have HIA := Lib.hid hIA
 clear hIA hIB
 rcases hk with ⟨rfl,he⟩ | ⟨rfl,he⟩
 all_goals
  first | rw [decide_eq_true he] at hcmp | rw [decide_eq_false he] at hcmp
  clear he
  refine HKL.out.mono ?_
  rintro e w8 ⟨A8,c8,rfl,_,hb8⟩
  have HKL2 := Lib.hid (list_loose w8 (H7.out.1.below hb8) H6.out.2.2.1.b.len)
  rw [H6.out.2.2.2.1] at HKL2
  have H8 := Lib.hid hb8
  clear hb8
  go_wp2_with (first
   | (
    go_at_call 14;with_reducible refine HKL2.out.mono ?_;rintro e w9 ⟨A9,c9,rfl,_,hb9⟩
    have HKL3 := Lib.hid (list_loose w9 (H7.out.1.below (below_step H8.out hb9)) H6.out.2.2.1.b.len)
    rw [H6.out.2.2.2.1] at HKL3
    have H9 := Lib.hid (below_step H8.out hb9)
    clear hb9)
   | (
    go_at_call 14;with_reducible refine HKL3.out.mono ?_;rintro e w10 ⟨A10,c10,rfl,_,hb10⟩
    have hl10 := H7.out.1.below (below_step H9.out hb10)
    obtain ⟨d1,d2,d3,d4,d5,d6⟩ := H6.out.2.2.2.2.2.2.2.1 hl10.sto.dsk.good
    have KD := drop_loose (shaS a) w10 hl10 H6.out.2.2.1.rdy HAB.out.2.2.2.2.1
    unfold DropLP at KD
    obtain ⟨m3,hm3⟩ : ∃ t,(opR m2 (nameL (shaS a))).2 = t := ⟨_,rfl⟩
    rw [d1,hm3,HIA.out] at KD
    rw [hm3] at d2 d3 d4 d5 d6
    have HKD := Lib.hid KD
    have H10 := Lib.hid (And.intro d2 (And.intro d3 (And.intro d4 (And.intro d5 (And.intro d6 (H7.out.2.mv (Mv.of_below _ (below_step H9.out hb10))))))))
    clear KD d1 d2 d3 d4 d5 d6 hm3 hl10 hb10)
   | (
    go_at_call 13;with_reducible refine HKD.out.mono ?_;rintro e w11 ⟨rfl,X11,hm11,hl11⟩
    have KD := drop_loose (shaS a) w11 hl11 H10.out.1.rdy HAB.out.2.2.2.2.1
    unfold DropLP at KD
    rw [H10.out.2.1,HIA.out] at KD
    have HKD2 := Lib.hid KD
    have H11 := Lib.hid (H10.out.2.2.2.2.2.mv hm11)
    clear KD hm11 hl11)
   | (
    go_at_call 13;with_reducible refine HKD2.out.mono ?_;rintro e w12 ⟨rfl,X12,hm12,hl12⟩
    have KH := lhas_any (shaS a) w12 hl12 H10.out.1.rdy HAB.out.2.2.2.2.1
    rw [H10.out.2.2.1,HIA.out,show ((9 : Nat) == 0) = false from rfl] at KH
    have HKH := Lib.hid KH
    have H12 := Lib.hid (And.intro hl12 (H11.out.mv hm12))
    clear KH hm12 hl12)
   | (
    go_at_call 12;with_reducible refine HKH.out.mono ?_;rintro e w13 ⟨rfl,hb13⟩
    have hl13 := H12.out.1.below hb13
    have KG := get_loose (shaS a) w13 hl13 H10.out.1.rdy HAB.out.2.2.2.2.1 (by decide) (by have := lread_len H10.out.1.rdy hl13.sto.dsk.good (nameL (shaS a));omega)
    unfold GetLP at KG
    rw [H10.out.2.2.2.1,HIA.out] at KG
    have HKG := Lib.hid KG
    have H13 := Lib.hid (H12.out.2.mv (Mv.of_below _ hb13))
    clear KG hl13 hb13)
   | (
    go_at_call 9;with_reducible refine HKG.out.mono ?_;rintro e w14 ⟨rfl,hm14,hl14⟩
    obtain ⟨m4,p',q',f1,f2,f3,f4,f5⟩ := H10.out.2.2.2.2.1 hl14.sto.dsk.good
    have KP := put_loose a w14 hl14 H10.out.1 (by have := HAB.out.2.2.1;omega) (by have := H6.out.1;omega) (by have := H6.out.2.1;omega)
    unfold PutLP at KP
    rw [f1,HIA.out,HAB.out.1] at KP
    have HKP4 := Lib.hid KP
    have H14 := Lib.hid (And.intro f4 (And.intro f5 (H13.out.mv hm14)))
    clear KP f1 f2 f3 f4 f5 hm14 hl14)
   | (
    go_at_call 8;with_reducible refine HKP4.out.mono ?_;rintro e w15 ⟨rfl,X15,hm15,hl15⟩
    have KG := get_loose (shaS a) w15 hl15 H14.out.1.rdy HAB.out.2.2.2.2.1 (by decide) (by have := lread_len H14.out.1.rdy hl15.sto.dsk.good (nameL (shaS a));omega)
    unfold GetLP at KG
    rw [H14.out.2.1,HIA.out,HAB.out.1] at KG
    have HKG2 := Lib.hid KG
    have H15 := Lib.hid (H14.out.2.2.mv hm15)
    clear KG hm15 hl15)
   | (
    go_at_call 9;with_reducible refine HKG2.out.mono ?_;rintro e w16 ⟨rfl,hm16,_⟩
    have H16 := Lib.hid (H15.out.mv hm16)
    clear hm16))
  go_ret
  exact ⟨by simp,H1b.out.trans (H16.out.below.mono H1b.out.size)⟩
open Go.ChangeShapes Go.WideShapes Go.ChangeAt Go.RowKit
theorem own : ownKnob Tryz.prog.godebug = none := by kernel_rfl
def rootsL : List Int := rootsW.map ix
theorem laid_tail {P : Program} {x : String × DataW Unit} {rest : List (String × DataW Unit)} {W : World} (h : laidMet P (x :: rest) W) : laidMet P rest W := by
 obtain ⟨ps,⟨g,t,cs,fuel,p,q,h1,h2,h3,h4,h5,rfl⟩,h6,h7⟩ := h
 exact ⟨q,h5,(List.nodup_append.1 h6).2.1,fun b off hm => h7 b off (List.mem_append_right _ hm)⟩
theorem tabs_of {W : World} {laid : List (String × DataW Unit)} (hlist : laid = Rows.looseNilRow.laid) (hmet : laidMetH Tryz.prog laid W) : TB W ∧ RT W := by
 subst hlist
 rw [Go.MakeChecks.laidMetH_plain _ _ _ (by kernel_rfl)] at hmet
 rw [show Rows.looseNilRow.laid = [("stemma/crc.table", (Lib.tabData .u32 tblL : DataW Unit)), ("stemma/sha.roots", (Lib.tabData .u32 rootsL : DataW Unit))] by kernel_rfl] at hmet
 have htab : Lib.TabIs Tryz.prog W "stemma/crc.table" .u32 tblL :=
  Lib.tabIs_of_head (g := 1) (t := 220) (e := 137) (n := 16) (by kernel_rfl) (by kernel_rfl) (by kernel_rfl) (by kernel_rfl) (by kernel_rfl) (by kernel_rfl) hmet
 have htab2 : Lib.TabIs Tryz.prog W "stemma/sha.roots" .u32 rootsL :=
  Lib.tabIs_of_head (g := 0) (t := 215) (e := 137) (n := 64) (by kernel_rfl) (by kernel_rfl) (by kernel_rfl) (by kernel_rfl) (by kernel_rfl) (by kernel_rfl) (laid_tail hmet)
 refine ⟨fun k hk => htab.cell (by kernel_rfl) k hk,fun k hk => ?_⟩
 have := htab2.cell (g := 0) (by kernel_rfl) k hk
 rw [this]
 have e : rootsL.getD k 0 = ix (at_ rootsW k) := by
  unfold rootsL at_
  have hl : k < rootsW.length := hk
  rw [List.getD_eq_getElem?_getD,List.getD_eq_getElem?_getD,List.getElem?_map,List.getElem?_eq_getElem hl]
  rfl
 rw [e]
theorem tb_pos {W : World} (h : TB W) : 1 < W.heap.size := by
 have := h 0 (by decide)
 rcases Nat.lt_or_ge 1 W.heap.size with h0 | h0
 ·exact h0
 ·rw [World.cell?,Array.getElem?_eq_none h0] at this;cases this
noncomputable def laidW (os : Os) : World := World.doorLaid Tryz.prog 400 os
theorem laid_met (os : Os) (args : Array Value) : laidMet Tryz.prog Rows.looseNilRow.laid ((laidW os).forCall (fun _ _ => 0) ⟨#[],args,[]⟩).memory :=
 laidMet_of_run' 8 (by kernel_rfl) (by kernel_rfl)
open Go.ChangeShapes Go.WideShapes Go.ChangeAt Go.RowKit
open Go.ChangeMaps (open_string shut_string)
theorem looseTwice_reads (os : Os) {H : Type} (enc : TypeId × Value → H) : ∃ places,DataW.whole enc Tryz.prog ((laidW os).forCall (fun _ _ => 0) ⟨#[], #[.string ⟨#[]⟩, .string ⟨#[]⟩],[]⟩).memory Tryz.f5.params.toList Rows.looseTwiceSpec.vars false #[Value.string ⟨#[]⟩,Value.string ⟨#[]⟩].toList 8 = some ([.lit (.string []), .lit (.string [])],[],places) :=
 ⟨[],by kernel_rfl⟩
set_option maxRecDepth 100000 in
theorem looseTwice_lifted (os : Os) (started : os.Started) (H : Type) (enc : TypeId × Value → H) (F : Stop.Interp) :
  ReturnsInHanded {} Tryz.checked os 5 .any ((OpenSpec.ofChange Rows.looseTwiceSpec).preRow enc Tryz.prog Tryz.f5 Rows.looseTwiceRow.domain false Rows.looseTwiceRow.laid) (((OpenSpec.ofChange Rows.looseTwiceSpec).at F).post enc Tryz.prog Tryz.f5 false true false false) := by
 obtain ⟨places,hx⟩ := looseTwice_reads os enc
 refine returnsInHanded_of_row (C := Tryz.checked) (s := OpenSpec.ofChange Rows.looseTwiceSpec) own started (by kernel_rfl) Tryz.func5
  (witness_row_at (enc := enc) (C := Tryz.checked) false (laidW os) #[.string ⟨#[]⟩, .string ⟨#[]⟩] rfl (by kernel_rfl) (by kernel_rfl) (by kernel_rfl)
   (OpenSpec.preRow_of_cond 8 hx (by kernel_rfl) (fun k hk => by cases hk) (by kernel_rfl) (laid_met os _))) ?_
 intro W base args ds gs before hval0 hW _ _ hz hmet hsh _
 have hval : ∀ (j : Nat) t v,Tryz.f5.params[j]? = some t → args[j]? = some v → Value.okWide Tryz.prog W .any base t v := hval0
 have hW' := hW
 obtain ⟨p,q,hA0,hV,rfl,_,_⟩ := hW
 have hA : DataW.TrodAll enc Tryz.prog W 0 (fun _ => true) true Tryz.f5.params.toList args.toList ds p := hA0
 have hz' : (DataW.weightsEach Tryz.prog (Tryz.f5.params.toList ++ []) (ds ++ gs)).all (· ≤ reachBytes) = true := hz
 rw [Tryz.params5] at hA hval hz'
 obtain ⟨v0,v1,d0,d1,p0,p1,rfl,rfl,rfl,h0,h1⟩ := trodAll_two hA
 obtain ⟨rfl,rfl⟩ := trodVars_none hV
 obtain ⟨s0,rfl,rfl,rfl,ws0⟩ := open_string Tryz.underlying9 (hval 0 9 v0 rfl rfl) h0
 obtain ⟨s1,rfl,rfl,rfl,ws1⟩ := open_string Tryz.underlying9 (hval 1 9 v1 rfl rfl) h1
 clear hA0 hval0 hz hz'
 simp only [List.append_nil] at hW'
 have hlt := hW'.lt
 have ht := tabs_of rfl hmet
 refine (looseTwice_any s0 s1 W ws0 ws1 ht.1 ht.2 (tb_pos ht.1)).mono fun e W' ⟨he,hb⟩ => ?_
 subst he
 refine ⟨_,rfl,_,_,_,[],_,[],hW',trodAll_mk1 (shut_bool Tryz.underlying4 true),trodAll_mk2 (shut_string Tryz.underlying9 ws0) (shut_string Tryz.underlying9 ws1),rfl,hb.frame _,fun h => by cases h⟩
theorem looseTwice_said : Rows.LooseTwiceSaid :=
 OpenClaim.holds_of_cond 5 Tryz.f5 rfl rfl rfl rfl rfl rfl rfl ⟨rfl,rfl,rfl,rfl,rfl⟩ rfl rfl rfl rfl rfl (by kernel_rfl) Tryz.func5 (by kernel_rfl)
  (of_decide_eq_true (by kernel_rfl)) (by unfold Func.isWrapper;first | (rw [if_pos (by decide +kernel)];kernel_rfl) | (rw [if_neg (by decide +kernel)];exact ⟨rfl,rfl⟩))
  (fun os started H enc _ F => by rw [OpenClaim.pre_eq_preRow];exact looseTwice_lifted os started H enc F)
theorem looseTwice_plain (f : FuncId) (fn : Func) (hf : Tryz.pinned.checked.prog.funcNamed "stemma/stemmalaw12.LooseTwice" = some f) (hfn : Tryz.pinned.checked.prog.funcs[f]? = some fn) :
  false = Tryz.pinned.checked.prog.looks [] ∧ ∀ (j : Nat) t,fn.params[j]? = some t → Tryz.pinned.checked.prog.wantsStandIn t = false := by
 obtain rfl : f = 5 := Option.some.inj ((show Tryz.prog.funcNamed "stemma/stemmalaw12.LooseTwice" = some 5 by kernel_rfl).symm.trans hf) |>.symm
 obtain rfl : fn = Tryz.f5 := (Option.some.inj (Tryz.func5.symm.trans hfn)).symm
 refine ⟨by kernel_rfl,fun j t ht => ?_⟩
 rw [Tryz.params5] at ht
 have hm : t ∈ [9,9] := by simpa using Array.mem_of_getElem? ht
 have hall : ([9,9].all fun u => !Tryz.prog.wantsStandIn u) = true := by kernel_rfl
 exact (show Tryz.prog.wantsStandIn t = false by simpa using List.all_eq_true.1 hall t hm)
theorem looseTwice_card : Rows.LooseTwiceCardSaid :=
 Claim7.holds_tied_plain_at .later [] _ _ _ _ looseTwice_said (fun _ h => by cases h) (by kernel_rfl) (fun _ h => by cases h) looseTwice_row_tie rfl ⟨rfl,rfl⟩ (by kernel_rfl) rfl looseTwice_plain (by kernel_rfl)
#print axioms looseTwice_card
end Go.Proofs.YtmjdmijloanfnaaGreatDoor
