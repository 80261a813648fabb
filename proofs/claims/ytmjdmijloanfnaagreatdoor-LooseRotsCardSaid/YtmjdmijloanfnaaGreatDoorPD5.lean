/- Packed: Rm, Mo, Dn, Gr, Fn, Ce, Ra, Rt, Ru, Iv, Ip, Iq, Ap, Rn, Iw, Tq, Tr, Ya, Yb, Yc, Yd, Ye, Yf, Yg, Yh, Yi, Gs, Pf, Pg, Tx, Ac, Yk, Yl, Pp, Cn, Pn. -/
import Derived.Test.YtmjdmijloanfnaaGreatDoorPD1
import Derived.Test.YtmjdmijloanfnaaGreatDoorPD4
import Derived.Maps.OwnIn
import Derived.Test.YtmjdmijloanfnaaGreatDoorPD2
import Derived.Laws.CopyOwn
import Derived.StillTailTactics
import Derived.BigQuiet
import Derived.Test.YtmjdmijloanfnaaGreatDoorPD3
namespace Go.Proofs.YtmjdmijloanfnaaGreatDoor
open Go.RowKit Go.Maps
def preR (m : StoM) (name : Bs) : Nat × Option (List Bool × FileM) :=
 if goodF name = false then (11,none) else match fileOf m.F name with
 | none => (9,none)
 | some f => match turnS false m.T f.ext with
  | none => (14,none)
  | some T2 => (0,some (T2,f))
def RemP (X : List Nat) (S D Lg M : Nat) (m : StoM) (T2 : List Bool) (F2 : List FileM) (C : List (Nat × Bs)) (w : World) (e : Ending) (w' : World) : Prop :=
 e = .returned (.int .i64 ((DS.run (settleC m.most T2 C) m.ds).1 : Nat)) ∧ ∃ X',Mv (S :: M :: X) (S :: M :: X') w w' ∧
  ((DS.run (settleC m.most T2 C) m.ds).1 = 0 → Sto w' X' S D Lg M ⟨(DS.run (settleC m.most T2 C) m.ds).2,F2,T2,m.most,m.off⟩) ∧
  ((DS.run (settleC m.most T2 C) m.ds).1 ≠ 0 → Sto w' X' S D Lg M ⟨(DS.run (settleC m.most T2 C) m.ds).2,m.F,m.T,m.most,true⟩)
def RemoveP (X : List Nat) (S D Lg M : Nat) (m : StoM) (p : Nat × Option (List Bool × FileM)) (w : World) (e : Ending) (w' : World) : Prop :=
 (p.2 = none → e = .returned (.int .i64 (p.1 : Nat)) ∧ Below w.heap.size w w' ∧ Sto w' X S D Lg M m) ∧
 ∀ T2 f,p.2 = some (T2,f) → RemP X S D Lg M m T2 (delF m.F f.name) [(f.entry,[])] w e w'
theorem Exts.sub {w : World} {X : List Nat} {ad : AdM} {F G : List FileM} (h : Exts w X ad F) (hs : ∀ f ∈ G,f ∈ F) : Exts w X ad G := fun f hf => h f (hs f hf)
theorem wpList_insert {P : Program} {ops : Array Oper} {rest : List Oper} {Q : Exit → Act → World → Prop} {a : Act} {w w' : World} {o : Oper} (hg : o.guard = none) (t : TypeId) (m x v : Operand) (hop : o.op = .insert t m x v) (mv kv vv : Value)
  (hm : a.eval m = mv) (hx : a.eval x = kv) (hv : a.eval v = vv) (hrun : (Instr.mapUpdate t mv kv vv).run P w = .ok () w') (hK : wpList P ops Q rest (a.put o.dst undef) w') : wpList P ops Q (o :: rest) a w := by
 refine wpList_plain hg fun K' hK' => ?_
 unfold Oper.wp
 simp [execOp,hop,hm,hx,hv,hrun,Result.andThen]
 exact hK' _ _ hK
set_option maxRecDepth 100000 in
set_option maxHeartbeats 4000000 in
theorem fremove_any (X : List Nat) (S D Lg M : Nat) (m : StoM) (name : Bs) (w : World) (h : Sto w X S D Lg M m) (hb : StoB m) (h1 : m.off = false) (h2 : m.ds.off = false) (hn : name.length ≤ maxLen) :
  Calls Tryz.prog 39 #[.pointer (some ⟨S,0,none⟩), .string (mk name)] w (RemoveP X S D Lg M m (preR m name) w) := by
 obtain ⟨ad,hFM,hEX⟩ := h.map
 have KF := find_ok X S D Lg M m ad name w h hFM h1 h2 hn
 by_cases hE : findE m.F name = 0
 case neg =>
  have hR : preR m name = (findE m.F name,none) := by
   unfold preR
   unfold findE at hE ⊢
   cases hg : goodF name with
   | false => rfl
   | true =>
    rw [hg] at hE
    cases hc : fileOf m.F name with
    | none => rfl
    | some f => rw [hc] at hE;exact absurd rfl hE
  have hN : findE m.F name = 9 ∨ findE m.F name = 11 := by
   unfold findE at hE ⊢
   split <;> simp_all
  rw [hR]
  obtain ⟨a,A,k,c,hv⟩ := findV_form ad m.F name
  rw [hv] at KF
  have HST := Lib.hid h
  obtain ⟨NM,hNM⟩ : ∃ q,mk name = q := ⟨_,rfl⟩
  obtain ⟨z,hzz⟩ : ∃ q,sizeW m.F name = q := ⟨_,rfl⟩
  obtain ⟨N,hNN⟩ : ∃ q,findE m.F name = q := ⟨_,rfl⟩
  rw [hNM,hzz,hNN] at KF
  rw [hNM,hNN]
  rw [hNN] at hN
  clear h hb h1 h2 hn hFM hEX hv hNM hzz hNN hE hR
  rcases hN with rfl | rfl
  all_goals
   go_enter Tryz.func39,Tryz.ntmps39
   go_wp2_with (first | (go_at_call 50;refine KF.mono ?_;rintro e w1 ⟨rfl,hb1⟩;have HB1 := Lib.hid hb1;clear hb1))
   go_ret
   have hbF := HB1.out.alloc HB1.out.size (.cells #[.int .i64 a, .int .i64 (z : Int), .slice A k c] 97)
   exact ⟨fun _ => ⟨rfl,hbF,HST.out.below hbF⟩,fun T2 f h => by cases h⟩
 case pos =>
  obtain ⟨f,hf,hg⟩ : ∃ f,fileOf m.F name = some f ∧ goodF name = true := by
   unfold findE at hE
   split at hE
   ·rename_i hg
    cases hc : fileOf m.F name with
    | none => rw [hc] at hE;simp at hE
    | some f => exact ⟨f,rfl,hg⟩
   ·cases hE
  have hV : findV ad m.F name = inoV ad f := by unfold findV;rw [if_pos hg,hf];rfl
  have hfm := fileOf_mem hf
  have hfn := fileOf_name hf
  have hPR : preR m name = match turnS false m.T f.ext with
    | none => (14,none)
    | some T2 => (0,some (T2,f)) := by unfold preR;rw [if_neg (by rw [hg];decide),hf]
  have HPR := Lib.hid hPR
  obtain ⟨P,hP⟩ : ∃ q,preR m name = q := ⟨_,rfl⟩
  rw [hP]
  have HP := Lib.hid hP
  clear hP
  rw [hE,hV] at KF
  obtain ⟨hx1,hx2,_⟩ := hEX f hfm
  unfold inoV at KF
  obtain ⟨⟨A,c⟩,hA⟩ : ∃ q,ad f.name = q := ⟨_,rfl⟩
  rw [hA] at KF hx1 hx2
  dsimp only at KF hx1 hx2
  have hexb := hb.exb f hfm
  have hexl := hb.exl f hfm
  have hfe := hb.ent f hfm
  have HTL := Lib.hid hb.tl
  have KG := fun (w5 : World) (hL : Lies w5 A (ecells f.ext)) => give_any m.T f.ext A c w5 hb.tl hL (fun x hx => by have := hexb x hx;have := hb.tl;omega) (by omega)
  have KST := fun (X1 : List Nat) (Mc : Nat) (T2 : List Bool) (hT : T2.length = m.T.length) (w1 : World) (hs1 : Sto w1 X1 S D Lg M m) (hC : CM w1 Mc [(f.entry,[])]) =>
   settle_any X1 S D Lg M Mc m T2 [(f.entry,[])] w1 hs1 hC hT (by rw [hT];exact HTL.out) (by simp) (fun c hc => by
    have : c = (f.entry,[]) := by simpa using hc
    subst this;exact ⟨hfe,by simp⟩) hb.mo (by have := hb.ll;omega) (by have := hb.sl;omega)
  obtain ⟨tn,PBn,en,hRf⟩ := turnV_form (turnS false m.T f.ext)
  have HRF := Lib.hid hRf
  rw [hRf] at KG
  have HDR := Lib.hid (fun (ad : AdM) (w1 : World) (hf1 : FM w1 M ad m.F) => hf1.drop name hn 0)
  unfold spv at KG
  obtain ⟨tl,htl⟩ : ∃ q,m.T.length = q := ⟨_,rfl⟩
  obtain ⟨PB,hPB⟩ : ∃ q,mk (packB m.T) = q := ⟨_,rfl⟩
  obtain ⟨xl,hxl⟩ : ∃ q,f.ext.length = q := ⟨_,rfl⟩
  rw [hxl] at KF KG
  rw [htl,hPB] at KG
  obtain ⟨sz,hsz⟩ : ∃ q,f.size = q := ⟨_,rfl⟩
  rw [hsz] at KF
  obtain ⟨fe,hfeq⟩ : ∃ q,f.entry = q := ⟨_,rfl⟩
  rw [hfeq] at KF hfe
  simp only [hfeq] at KST
  obtain ⟨NM,hNM⟩ : ∃ q,mk name = q := ⟨_,rfl⟩
  rw [hNM] at KF HDR
  rw [hNM]
  have x2 := fun w1 (hw : Sto w1 X S D Lg M m) => hw.blk.cell 2
  have x3 := fun w1 (hw : Sto w1 X S D Lg M m) => hw.blk.cell 3
  simp only [stoCells,htl,hPB] at x2 x3
  have HX2 := Lib.hid x2
  have HX3 := Lib.hid x3
  have HST := Lib.hid h
  have HSLT := Lib.hid (show ∀ x ∈ S :: M :: X,x < w.heap.size from fun x hx => by
    rcases List.mem_cons.1 hx with rfl | hx
    ·exact h.blk.lt
    ·rcases List.mem_cons.1 hx with rfl | hx
     ·exact hFM.lt
     ·exact h.dsk.lt x hx)
  have HKG := Lib.hid KG
  have HKST := Lib.hid KST
  have HLA := Lib.hid hx1
  have HFE := Lib.hid (show fe ≤ 1000000 by have := hb.mo;omega)
  have HFEQ := Lib.hid hfeq
  have HFN := Lib.hid hfn
  have mixed := mixedT
  clear h hb h1 h2 hn hFM hEX hE hf hg hV hfm hfn hPR hx1 hx2 hA hexb hexl hfe KG KST hRf htl hPB hxl hsz hfeq hNM x2 x3
  go_enter Tryz.func39,Tryz.ntmps39
  go_upto_region 4 with (first | (go_at_call 50;refine KF.mono ?_;rintro e w1 ⟨rfl,hb1⟩;have HB1 := Lib.hid hb1;clear hb1))
  have hB5 := Blk.new w1 #[.int .i64 (fe : Int), .int .i64 (sz : Int), .slice A xl c] 97
  have hbw := HB1.out.alloc HB1.out.size (.cells #[.int .i64 (fe : Int), .int .i64 (sz : Int), .slice A xl c] 97)
  have hH5 := HB1.out.size
  obtain ⟨H5,hH⟩ : ∃ q,w1.heap.size = q := ⟨_,rfl⟩
  obtain ⟨W1,hW⟩ : ∃ q,w1.alloc (.cells #[.int .i64 (fe : Int), .int .i64 (sz : Int), .slice A xl c] 97) = q := ⟨_,rfl⟩
  rw [hH] at hB5 hH5
  simp only [hW] at hB5 hbw ⊢
  try simp only [hH]
  have hst1 := HST.out.below hbw
  have y2 := HX2.out W1 hst1
  have y3 := HX3.out W1 hst1
  have y5 := hB5.cell 2
  simp at y2 y3 y5
  have HY := Lib.hid (And.intro y2 (And.intro y3 (And.intro y5 (And.intro hst1.blk.lt hB5.lt))))
  have HBW := Lib.hid hbw
  have HB5 := Lib.hid hB5
  have HH5 := Lib.hid hH5
  have HLA1 := Lib.hid (HLA.out.below (Nat.le_refl _) hbw)
  clear hH hW hB5 hbw hst1 hH5 y2 y3 y5
  refine wp_region_held (S := fun w' => Below W1.heap.size W1 w') mixed ?_
  change wpAnyH _ _ _ _ _ _ _ _ W1.drew
  have hS0 : Below W1.heap.size W1 W1.drew := (Below.refl _ _).drew
  obtain ⟨W0,hW0⟩ : ∃ q,W1.drew = q := ⟨_,rfl⟩
  rw [hW0] at hS0 ⊢
  clear hW0
  refine tkQ 0 (.pointer (some ⟨S,0,none⟩)) rfl hS0 ?_
  try go_simp
  refine tkQ 1 (.pointer (some ⟨S,0,none⟩)) rfl hS0 ?_
  try go_simp
  refine tkQ 2 (.pointer (some ⟨S,2,none⟩)) rfl hS0 ?_
  try go_simp
  refine tkH 3 (.agg #[.int .i64 (tl : Int), .string PB]) rfl hS0 (fun w' hS => ?_) ?_
  ·have q0 := (hS.cell (p := ⟨S,2,none⟩) HY.out.2.2.2.1).trans HY.out.1;have q1 := (hS.cell (p := ⟨S,3,none⟩) HY.out.2.2.2.1).trans HY.out.2.1;go_simp
  try go_simp
  refine tkQ 4 (.pointer (some ⟨H5,2,none⟩)) rfl hS0 ?_
  try go_simp
  refine tkH 5 (.slice A xl c) rfl hS0 (fun w' hS => ?_) ?_
  ·have q0 := (hS.cell (p := ⟨H5,2,none⟩) HY.out.2.2.2.2).trans HY.out.2.2.1;go_simp
  try go_simp
  refine wpAnyH_all (rs := [6,10]) (by kernel_rfl) (by simp) ?_
  intro i hi
  simp only [List.mem_cons,List.not_mem_nil,or_false] at hi
  rcases hi with rfl | rfl
  ·unfold wpOp
   go_simp
   refine .inl ?_
   go_at_call 54
   refine (HKG.out W0 (HLA1.out.below (Nat.le_refl _) hS0)).mono ?_
   rintro e w2 ⟨rfl,hb2⟩
   have hS1 := hS0.trans (hb2.mono hS0.size)
   refine ⟨hS1, ?_⟩
   try go_simp
   clear hS0 hb2
   refine tkQ 7 (.tuple #[.agg #[.int .i64 tn, .string PBn], .int .i64 en]) rfl hS1 ?_
   try go_simp
   refine tkQ 8 (.agg #[.int .i64 tn, .string PBn]) rfl hS1 ?_
   try go_simp
   refine tkQ 9 (.int .i64 en) rfl hS1 ?_
   try go_simp
   refine alH 10 ?_
   unfold wpOp
   go_simp
   have hB7 := Blk.new w2 #[.int .i64 0, .string ⟨#[]⟩] 104
   have hS3 := hS1.alloc hS1.size (.cells #[.int .i64 0, .string ⟨#[]⟩] 104)
   have hge : W1.heap.size ≤ w2.heap.size := hS1.size
   obtain ⟨H7,hH7⟩ : ∃ q,w2.heap.size = q := ⟨_,rfl⟩
   rw [hH7] at hB7 hge
   obtain ⟨w3,hw3⟩ : ∃ q,w2.alloc (.cells #[.int .i64 0, .string ⟨#[]⟩] 104) = q := ⟨_,rfl⟩
   rw [hw3] at hB7 hS3 ⊢
   try rw [hH7]
   clear hw3 hH7 hS1
   first | refine .inl ⟨hS3, ?_⟩ | refine ⟨hS3, ?_⟩
   have c0 := hB7.cell 0
   have c1 := hB7.cell 1
   have f0 := hB7.frozen 0
   have f1 := hB7.frozen 1
   simp at c0 c1
   have l7 := hB7.lt
   refine alH 11 ?_
   unfold wpOp
   go_simp
   have hB74 := (hB7.set 0 (.int .i64 tn)).set 1 (.string PBn)
   have hS4 := below_set (below_set hS3 H7 0 (.int .i64 tn) hge) H7 1 (.string PBn) hge
   obtain ⟨w4,hw4⟩ : ∃ q,(w3.setCell ⟨H7,0,none⟩ (.int .i64 tn)).setCell ⟨H7,1,none⟩ (.string PBn) = q := ⟨_,rfl⟩
   rw [hw4] at hB74 hS4 ⊢
   clear hw4 hB7 hS3 c0 c1 f0 f1 l7
   first | refine .inl ⟨hS4, ?_⟩ | refine ⟨hS4, ?_⟩
   refine alH 12 ?_
   unfold wpOp
   go_simp
   first | refine .inl ⟨hS4, ?_⟩ | refine ⟨hS4, ?_⟩ | refine .inl ?_ | skip
   refine wpAnyH_done (by kernel_rfl) ?_ _
   have HB7 := Lib.hid hB74
   have HS4 := Lib.hid hS4
   have HGE := Lib.hid hge
   clear hB74 hS4 hge
   cases htn : turnS false m.T f.ext with
   | none =>
    have hq := HRF.out
    rw [htn] at hq
    unfold turnV at hq
    simp only [Value.tuple.injEq,Array.mk.injEq,List.cons.injEq,Value.agg.injEq,Value.int.injEq,Value.string.injEq,true_and,and_true] at hq
    obtain ⟨⟨rfl,rfl⟩,rfl⟩ := hq
    have HE : P = (14,none) := by rw [← HP.out,HPR.out,htn]
    subst HE
    clear htn
    go_wp2
    go_ret
    have hbF := HBW.out.trans (HS4.out.mono HBW.out.size)
    exact ⟨fun _ => ⟨rfl,hbF,HST.out.below hbF⟩,fun T2 f h => by cases h⟩
   | some T2 =>
    have hq := HRF.out
    rw [htn] at hq
    unfold turnV spv at hq
    simp only [Value.tuple.injEq,Array.mk.injEq,List.cons.injEq,Value.agg.injEq,Value.int.injEq,Value.string.injEq,true_and,and_true] at hq
    obtain ⟨⟨rfl,rfl⟩,rfl⟩ := hq
    have HE : P = (0,some (T2,f)) := by rw [← HP.out,HPR.out,htn]
    subst HE
    have hT2 := turnS_len _ _ _ _ htn
    have KST := fun (X1 : List Nat) (Mc : Nat) (w1 : World) hs1 hC => HKST.out X1 Mc T2 hT2 w1 hs1 hC
    unfold SetP spv at KST
    have HRP := Lib.hid (show ∀ e w',RemP X S D Lg M m T2 (delF m.F name) [(fe,[])] w e w' → RemoveP X S D Lg M m (0,some (T2,f)) w e w' from fun e w' hr => ⟨fun h => by (cases h),fun T3 f3 h => by
     cases h
     rw [HFN.out,HFEQ.out];exact hr⟩)
    obtain ⟨t2,ht2⟩ : ∃ q,T2.length = q := ⟨_,rfl⟩
    obtain ⟨PB2,hPB2⟩ : ∃ q,mk (packB T2) = q := ⟨_,rfl⟩
    simp only [ht2,hPB2] at KST
    rw [ht2,hPB2] at HB7
    have hn2 := run_num (settleC m.most T2 [(fe,[])]) m.ds
    obtain ⟨r2,hr2⟩ : ∃ q,DS.run (settleC m.most T2 [(fe,[])]) m.ds = q := ⟨_,rfl⟩
    have HR2 := Lib.hid hr2
    rw [hr2] at hn2
    simp only [hr2] at KST
    obtain ⟨n2,d2⟩ := r2
    dsimp only at hn2 KST
    clear htn hT2 hr2 hPB2 ht2
    have hb4 := HBW.out.trans (HS4.out.mono HBW.out.size)
    have HB4 := Lib.hid hb4
    have hX : Blk w4 H5 #[.int .i64 (fe : Int), .int .i64 (sz : Int), .slice A xl c] 97 ∧ Blk w4 H7 #[.int .i64 (t2 : Int), .string PB2] 104 := ⟨HB5.out.below HS4.out,HB7.out⟩
    have HX := Lib.hid hX
    have HORD := Lib.hid (show (∀ x ∈ S :: M :: X,x ≠ H5 ∧ x ≠ H7) from fun x hx => by
     have q1 := HSLT.out x hx
     have q2 := HH5.out
     have q3 := HGE.out
     have q4 := HBW.out.size
     omega)
    clear hb4 hX
    have hb2 := HB4.out.alloc HB4.out.size (.map #[] 0)
    have hS2 : Blk (w4.alloc (.map #[] 0)) H5 #[.int .i64 (fe : Int), .int .i64 (sz : Int), .slice A xl c] 97 ∧ Blk (w4.alloc (.map #[] 0)) H7 #[.int .i64 (t2 : Int), .string PB2] 104 := ⟨HX.out.1.alloc _,HX.out.2.alloc _⟩
    have hcm2 := CM.made w4
    have hMc : w.heap.size ≤ w4.heap.size := HB4.out.size
    have e0 := HX.out.2.cell 0
    have e1 := HX.out.2.cell 1
    have e2 := HX.out.1.cell 0
    have l5 := HX.out.1.lt
    have l7 := HX.out.2.lt
    simp at e0 e1 e2
    obtain ⟨W4,hrun4,hcm4,hg4⟩ := hcm2.one fe [] HFE.out
    have hb4 := hb2.grown hg4 hb2.size (fun g e => by cases e;exact hMc)
    have hS4 : Blk W4 H5 #[.int .i64 (fe : Int), .int .i64 (sz : Int), .slice A xl c] 97 ∧ Blk W4 H7 #[.int .i64 (t2 : Int), .string PB2] 104 := ⟨hS2.1.grown hg4 (fun e => by cases e;exact hcm2.not_cells hS2.1 rfl),hS2.2.grown hg4 (fun e => by cases e;exact hcm2.not_cells hS2.2 rfl)⟩
    have hst4 := HST.out.below hb4
    have HW4 := Lib.hid (And.intro hcm4 (And.intro hst4 (And.intro hS4 hb4)))
    have HRUN := Lib.hid hrun4
    have KST1 := KST X w4.heap.size W4 hst4 hcm4
    clear hb2 hcm2 hMc hrun4 hcm4 hg4 hb4 hS4 hst4 hS2 KST
    have hmm := @run_makeMap Tryz.prog
    rcases hn2 with rfl | rfl
    case inr =>
     go_wp2_with (first
      | (refine wpList_insert rfl 148 (.tmp 32) (.tmp 34) (.const (.string ⟨#[]⟩)) rfl _ _ _ (by rfl) (by rfl) (by rfl) HRUN.out ?_)
      | (go_at_call 80;(with_reducible refine KST1.mono ?_);rintro e W5 ⟨rfl,X2,hM5,hS0,hS7⟩;have HF := Lib.hid (And.intro (hS7 (by decide)) (((Mv.of_below (S :: X) HW4.out.2.2.2).trans hM5).cons2 M));clear hM5 hS0 hS7 KST1))
     go_ret
     refine HRP.out _ _ ?_
     unfold RemP
     rw [HR2.out]
     exact ⟨rfl,X2,HF.out.2,by first | exact HF.out.1 | exact ⟨(fun h => by cases h),fun _ => HF.out.1⟩ | exact ⟨fun _ => HF.out.1,fun h => absurd rfl h⟩⟩
    go_upto_region 10 with (first
      | (refine wpList_insert rfl 148 (.tmp 32) (.tmp 34) (.const (.string ⟨#[]⟩)) rfl _ _ _ (by rfl) (by rfl) (by rfl) HRUN.out ?_)
      | (go_at_call 80;(with_reducible refine KST1.mono ?_);rintro e W5 ⟨rfl,X2,hM5,hS0,hS7⟩;have HF5 := Lib.hid (And.intro (hS0 rfl) (((Mv.of_below (S :: X) HW4.out.2.2.2).trans hM5).cons2 M));clear hM5 hS0 hS7 KST1))
    obtain ⟨ad5,hFM5,hEX5⟩ := HF5.out.1.map
    obtain ⟨W6,hrun6,hFM6,hg6⟩ := HDR.out ad5 W5 hFM5
    have hne6 : ∀ g,some M = some g → ∀ c fr,W5.heap[g]? ≠ some (.cells c 172 fr) := fun g e c fr hc => by cases e;exact (hFM5.not_cells hc) rfl
    have hst6 := HF5.out.1.store hg6 hFM6 ((hEX5.grown hg6 hne6).sub (fun g hg => (List.mem_filter.1 hg).1))
    have HF := Lib.hid (And.intro hst6 (HF5.out.2.trans (Mv.of_grown hg6 (by simp))))
    have x4 := HF5.out.1.blk.cell 4
    simp at x4
    have s5 := HF5.out.1.blk.lt
    clear hFM5 hEX5 hFM6 hg6 hne6 hst6 e0 e1 e2 l5 l7 hmm
    go_wp2
    go_ret
    refine HRP.out _ _ ?_
    unfold RemP
    rw [HR2.out]
    exact ⟨rfl,X2,HF.out.2,by first | exact HF.out.1 | exact ⟨fun _ => HF.out.1,fun h => absurd rfl h⟩⟩
  ·unfold wpOp
   go_simp
   have hB7 := Blk.new W0 #[.int .i64 0, .string ⟨#[]⟩] 104
   have hS1 := hS0.alloc hS0.size (.cells #[.int .i64 0, .string ⟨#[]⟩] 104)
   have hge : W1.heap.size ≤ W0.heap.size := hS0.size
   obtain ⟨H7,hH7⟩ : ∃ q,W0.heap.size = q := ⟨_,rfl⟩
   rw [hH7] at hB7 hge
   obtain ⟨w2,hw2⟩ : ∃ q,W0.alloc (.cells #[.int .i64 0, .string ⟨#[]⟩] 104) = q := ⟨_,rfl⟩
   rw [hw2] at hB7 hS1 ⊢
   try rw [hH7]
   clear hw2 hH7 hS0
   first | refine .inl ⟨hS1, ?_⟩ | refine ⟨hS1, ?_⟩
   have hB70 := hB7
   clear hB7
   refine alH 6 ?_
   unfold wpOp
   go_simp
   refine .inl ?_
   go_at_call 54
   refine (HKG.out w2 (HLA1.out.below (Nat.le_refl _) hS1)).mono ?_
   rintro e w3 ⟨rfl,hb3⟩
   have hS3 := hS1.trans (hb3.mono hS1.size)
   have hB7 := hB70.below hb3
   refine ⟨hS3, ?_⟩
   try go_simp
   clear hS1 hb3 hB70
   refine tkQ 7 (.tuple #[.agg #[.int .i64 tn, .string PBn], .int .i64 en]) rfl hS3 ?_
   try go_simp
   refine tkQ 8 (.agg #[.int .i64 tn, .string PBn]) rfl hS3 ?_
   try go_simp
   refine tkQ 9 (.int .i64 en) rfl hS3 ?_
   try go_simp
   have c0 := hB7.cell 0
   have c1 := hB7.cell 1
   have f0 := hB7.frozen 0
   have f1 := hB7.frozen 1
   simp at c0 c1
   have l7 := hB7.lt
   refine alH 11 ?_
   unfold wpOp
   go_simp
   have hB74 := (hB7.set 0 (.int .i64 tn)).set 1 (.string PBn)
   have hS4 := below_set (below_set hS3 H7 0 (.int .i64 tn) hge) H7 1 (.string PBn) hge
   obtain ⟨w4,hw4⟩ : ∃ q,(w3.setCell ⟨H7,0,none⟩ (.int .i64 tn)).setCell ⟨H7,1,none⟩ (.string PBn) = q := ⟨_,rfl⟩
   rw [hw4] at hB74 hS4 ⊢
   clear hw4 hB7 hS3 c0 c1 f0 f1 l7
   first | refine .inl ⟨hS4, ?_⟩ | refine ⟨hS4, ?_⟩
   refine alH 12 ?_
   unfold wpOp
   go_simp
   first | refine .inl ⟨hS4, ?_⟩ | refine ⟨hS4, ?_⟩ | refine .inl ?_ | skip
   refine wpAnyH_done (by kernel_rfl) ?_ _
   have HB7 := Lib.hid hB74
   have HS4 := Lib.hid hS4
   have HGE := Lib.hid hge
   clear hB74 hS4 hge
   cases htn : turnS false m.T f.ext with
   | none =>
    have hq := HRF.out
    rw [htn] at hq
    unfold turnV at hq
    simp only [Value.tuple.injEq,Array.mk.injEq,List.cons.injEq,Value.agg.injEq,Value.int.injEq,Value.string.injEq,true_and,and_true] at hq
    obtain ⟨⟨rfl,rfl⟩,rfl⟩ := hq
    have HE : P = (14,none) := by rw [← HP.out,HPR.out,htn]
    subst HE
    clear htn
    go_wp2
    go_ret
    have hbF := HBW.out.trans (HS4.out.mono HBW.out.size)
    exact ⟨fun _ => ⟨rfl,hbF,HST.out.below hbF⟩,fun T2 f h => by cases h⟩
   | some T2 =>
    have hq := HRF.out
    rw [htn] at hq
    unfold turnV spv at hq
    simp only [Value.tuple.injEq,Array.mk.injEq,List.cons.injEq,Value.agg.injEq,Value.int.injEq,Value.string.injEq,true_and,and_true] at hq
    obtain ⟨⟨rfl,rfl⟩,rfl⟩ := hq
    have HE : P = (0,some (T2,f)) := by rw [← HP.out,HPR.out,htn]
    subst HE
    have hT2 := turnS_len _ _ _ _ htn
    have KST := fun (X1 : List Nat) (Mc : Nat) (w1 : World) hs1 hC => HKST.out X1 Mc T2 hT2 w1 hs1 hC
    unfold SetP spv at KST
    have HRP := Lib.hid (show ∀ e w',RemP X S D Lg M m T2 (delF m.F name) [(fe,[])] w e w' → RemoveP X S D Lg M m (0,some (T2,f)) w e w' from fun e w' hr => ⟨fun h => by (cases h),fun T3 f3 h => by
     cases h
     rw [HFN.out,HFEQ.out];exact hr⟩)
    obtain ⟨t2,ht2⟩ : ∃ q,T2.length = q := ⟨_,rfl⟩
    obtain ⟨PB2,hPB2⟩ : ∃ q,mk (packB T2) = q := ⟨_,rfl⟩
    simp only [ht2,hPB2] at KST
    rw [ht2,hPB2] at HB7
    have hn2 := run_num (settleC m.most T2 [(fe,[])]) m.ds
    obtain ⟨r2,hr2⟩ : ∃ q,DS.run (settleC m.most T2 [(fe,[])]) m.ds = q := ⟨_,rfl⟩
    have HR2 := Lib.hid hr2
    rw [hr2] at hn2
    simp only [hr2] at KST
    obtain ⟨n2,d2⟩ := r2
    dsimp only at hn2 KST
    clear htn hT2 hr2 hPB2 ht2
    have hb4 := HBW.out.trans (HS4.out.mono HBW.out.size)
    have HB4 := Lib.hid hb4
    have hX : Blk w4 H5 #[.int .i64 (fe : Int), .int .i64 (sz : Int), .slice A xl c] 97 ∧ Blk w4 H7 #[.int .i64 (t2 : Int), .string PB2] 104 := ⟨HB5.out.below HS4.out,HB7.out⟩
    have HX := Lib.hid hX
    have HORD := Lib.hid (show (∀ x ∈ S :: M :: X,x ≠ H5 ∧ x ≠ H7) from fun x hx => by
     have q1 := HSLT.out x hx
     have q2 := HH5.out
     have q3 := HGE.out
     have q4 := HBW.out.size
     omega)
    clear hb4 hX
    have hb2 := HB4.out.alloc HB4.out.size (.map #[] 0)
    have hS2 : Blk (w4.alloc (.map #[] 0)) H5 #[.int .i64 (fe : Int), .int .i64 (sz : Int), .slice A xl c] 97 ∧ Blk (w4.alloc (.map #[] 0)) H7 #[.int .i64 (t2 : Int), .string PB2] 104 := ⟨HX.out.1.alloc _,HX.out.2.alloc _⟩
    have hcm2 := CM.made w4
    have hMc : w.heap.size ≤ w4.heap.size := HB4.out.size
    have e0 := HX.out.2.cell 0
    have e1 := HX.out.2.cell 1
    have e2 := HX.out.1.cell 0
    have l5 := HX.out.1.lt
    have l7 := HX.out.2.lt
    simp at e0 e1 e2
    obtain ⟨W4,hrun4,hcm4,hg4⟩ := hcm2.one fe [] HFE.out
    have hb4 := hb2.grown hg4 hb2.size (fun g e => by cases e;exact hMc)
    have hS4 : Blk W4 H5 #[.int .i64 (fe : Int), .int .i64 (sz : Int), .slice A xl c] 97 ∧ Blk W4 H7 #[.int .i64 (t2 : Int), .string PB2] 104 := ⟨hS2.1.grown hg4 (fun e => by cases e;exact hcm2.not_cells hS2.1 rfl),hS2.2.grown hg4 (fun e => by cases e;exact hcm2.not_cells hS2.2 rfl)⟩
    have hst4 := HST.out.below hb4
    have HW4 := Lib.hid (And.intro hcm4 (And.intro hst4 (And.intro hS4 hb4)))
    have HRUN := Lib.hid hrun4
    have KST1 := KST X w4.heap.size W4 hst4 hcm4
    clear hb2 hcm2 hMc hrun4 hcm4 hg4 hb4 hS4 hst4 hS2 KST
    have hmm := @run_makeMap Tryz.prog
    rcases hn2 with rfl | rfl
    case inr =>
     go_wp2_with (first
      | (refine wpList_insert rfl 148 (.tmp 32) (.tmp 34) (.const (.string ⟨#[]⟩)) rfl _ _ _ (by rfl) (by rfl) (by rfl) HRUN.out ?_)
      | (go_at_call 80;(with_reducible refine KST1.mono ?_);rintro e W5 ⟨rfl,X2,hM5,hS0,hS7⟩;have HF := Lib.hid (And.intro (hS7 (by decide)) (((Mv.of_below (S :: X) HW4.out.2.2.2).trans hM5).cons2 M));clear hM5 hS0 hS7 KST1))
     go_ret
     refine HRP.out _ _ ?_
     unfold RemP
     rw [HR2.out]
     exact ⟨rfl,X2,HF.out.2,by first | exact HF.out.1 | exact ⟨(fun h => by cases h),fun _ => HF.out.1⟩ | exact ⟨fun _ => HF.out.1,fun h => absurd rfl h⟩⟩
    go_upto_region 10 with (first
      | (refine wpList_insert rfl 148 (.tmp 32) (.tmp 34) (.const (.string ⟨#[]⟩)) rfl _ _ _ (by rfl) (by rfl) (by rfl) HRUN.out ?_)
      | (go_at_call 80;(with_reducible refine KST1.mono ?_);rintro e W5 ⟨rfl,X2,hM5,hS0,hS7⟩;have HF5 := Lib.hid (And.intro (hS0 rfl) (((Mv.of_below (S :: X) HW4.out.2.2.2).trans hM5).cons2 M));clear hM5 hS0 hS7 KST1))
    obtain ⟨ad5,hFM5,hEX5⟩ := HF5.out.1.map
    obtain ⟨W6,hrun6,hFM6,hg6⟩ := HDR.out ad5 W5 hFM5
    have hne6 : ∀ g,some M = some g → ∀ c fr,W5.heap[g]? ≠ some (.cells c 172 fr) := fun g e c fr hc => by cases e;exact (hFM5.not_cells hc) rfl
    have hst6 := HF5.out.1.store hg6 hFM6 ((hEX5.grown hg6 hne6).sub (fun g hg => (List.mem_filter.1 hg).1))
    have HF := Lib.hid (And.intro hst6 (HF5.out.2.trans (Mv.of_grown hg6 (by simp))))
    have x4 := HF5.out.1.blk.cell 4
    simp at x4
    have s5 := HF5.out.1.blk.lt
    clear hFM5 hEX5 hFM6 hg6 hne6 hst6 e0 e1 e2 l5 l7 hmm
    go_wp2
    go_ret
    refine HRP.out _ _ ?_
    unfold RemP
    rw [HR2.out]
    exact ⟨rfl,X2,HF.out.2,by first | exact HF.out.1 | exact ⟨fun _ => HF.out.1,fun h => absurd rfl h⟩⟩
open Go.RowKit Go.Maps
def fmtX (n f : Nat) : List (Nat × Bs) := (List.range (f + 3)).map fun i => (i,if i = 0 then headB n f else [])
def fulls (l : List (Nat × Bs)) : List (Nat × Bs) := l.map fun c => (c.1,fullB c.2)
theorem write_on (L : List Bs) (S : List (Nat × Bs)) (i : Nat) (b : Bs) : DS.write ⟨L,S,none,false⟩ i b = (0,⟨L,S ++ [(i,fullB b)],none,false⟩) := rfl
theorem sync_on (L : List Bs) (S : List (Nat × Bs)) : DS.sync ⟨L,S,none,false⟩ = (0,⟨overlay L S,[],none,false⟩) := rfl
set_option maxRecDepth 100000 in
set_option maxHeartbeats 4000000 in
theorem format_ok (X : List Nat) (D : Nat) (L : List Bs) (f : Nat) (w : World) (h : Dsk w X D ⟨L,[],none,false⟩) (h1 : 1 ≤ f) (h2 : f ≤ 256) (h3 : f + 8 ≤ L.length) :
  Calls Tryz.prog 44 #[.pointer (some ⟨D,0,none⟩), .int .i64 f] w fun e w' => e = .returned (.int .i64 0) ∧ ∃ X',Dsk w' X' D ⟨overlay L (fulls (fmtX L.length f)),[],none,false⟩ ∧ Mv X X' w w' := by
 have hsm : L.length ≤ 4096 := h.good.small
 have KZ := fun (S : List (Nat × Bs)) (X1 : List Nat) (w1 : World) (hd : Dsk w1 X1 D ⟨L,S,none,false⟩) => size_any X1 D _ w1 hd
 have KA := fun w1 => dataAt_any f w1 (by omega)
 have KH := fun w1 => head_any L.length f w1 (by omega) (by omega)
 have KW := fun (S : List (Nat × Bs)) (X1 : List Nat) (i : Nat) (b : Bs) (w1 : World) (hd : Dsk w1 X1 D ⟨L,S,none,false⟩) (hi : i < L.length) (hb : b.length ≤ 512) (hS : S.length ≤ 1000000) => write_any X1 D ⟨L,S,none,false⟩ i b w1 hd hi hb hS
 have KS := fun (S : List (Nat × Bs)) (X1 : List Nat) (w1 : World) (hd : Dsk w1 X1 D ⟨L,S,none,false⟩) => sync_any X1 D _ w1 hd
 simp only [write_on,sync_on] at KW KS
 dsimp only at KZ
 have hsnoc : ∀ k,k < f + 3 → fulls ((fmtX L.length f).take (k + 1)) = fulls ((fmtX L.length f).take k) ++ [(k,fullB (if k = 0 then headB L.length f else []))] := by
  intro k hk
  have hk2 : k < (fmtX L.length f).length := by simp [fmtX];exact hk
  rw [List.take_succ_eq_append_getElem hk2]
  simp [fulls,fmtX]
 have hlen : ∀ k,(fulls ((fmtX L.length f).take k)).length ≤ 300 := by
  intro k;simp [fulls,fmtX];omega
 have hall : (fmtX L.length f).take (f + 3) = fmtX L.length f := List.take_of_length_le (by simp [fmtX])
 have hhl : (headB L.length f).length ≤ 512 := by unfold headB;rw [full_length _ (by simp [twoB])];exact Nat.le_refl _
 obtain ⟨HB,hHB⟩ : ∃ q,headB L.length f = q := ⟨_,rfl⟩
 rw [hHB] at KH hsnoc hhl
 obtain ⟨FX,hFX⟩ : ∃ q,fmtX L.length f = q := ⟨_,rfl⟩
 rw [hFX] at hsnoc hlen hall ⊢
 obtain ⟨n,hn⟩ : ∃ q,L.length = q := ⟨_,rfl⟩
 rw [hn] at h3 hsm
 simp only [hn] at KZ KW KH
 obtain ⟨HS,hHS⟩ : ∃ q,mk HB = q := ⟨_,rfl⟩
 rw [hHS] at KH
 have HHS := Lib.hid hHS
 have HSN := Lib.hid hsnoc
 have HLEN := Lib.hid hlen
 have HALL := Lib.hid hall
 have HHL := Lib.hid hhl
 have HD := Lib.hid h
 have KZ0 := KZ [] X w h
 have f1 : ¬ ((f : Int) < 1) := by omega
 have f2 : ¬ ((256 : Int) < (f : Int)) := by omega
 have f3 : ¬ ((n : Int) < (f : Int) + 7 + 1) := by omega
 clear h hsnoc hlen hall hhl hHB hFX hHS hn
 go_enter Tryz.func44,Tryz.ntmps44
 go_upto_region 3 with (first
  | (go_at_call 61;refine KZ0.mono ?_;rintro e w1 ⟨rfl,hw⟩;obtain rfl := hw.symm)
  | (go_at_call 62;refine (KA _).mono ?_;rintro e w1 ⟨rfl,hw⟩;obtain rfl := hw.symm))
 go_wp2
 have HKW := Lib.hid KW
 have HKS := Lib.hid KS
 have HKZ := Lib.hid KZ
 clear KW KS KZ KZ0 f1 f2 f3
 go_loopw [29] (fun i wr => ∃ k : Nat,k ≤ f + 3 ∧ i = .int .i64 k ∧ ∃ X',Dsk wr X' D ⟨L,fulls (FX.take k),none,false⟩ ∧ Mv X X' w wr) (fun i _ => f + 3 - (intOf i).toNat)
 case atStart => exact ⟨0,Nat.zero_le _,rfl,X,HD.out,Mv.refl _ _⟩
 case round =>
  obtain ⟨k,hk,rfl,X1,hD1,hM1⟩ := hrel
  by_cases hlt : k < f + 3
  ·have hsn := HSN.out k hlt
   have hle := HLEN.out k
   obtain ⟨FK,hFK⟩ : ∃ q,fulls (FX.take k) = q := ⟨_,rfl⟩
   rw [hFK] at hD1 hsn hle
   have KZ1 := HKZ.out FK X1 wr hD1
   have HSK := Lib.hid hsn
   have HM1 := Lib.hid hM1
   have k0 : (0 : Int) ≤ (k : Int) := by omega
   have k1 : (k : Int) < 2 + (f : Int) + 1 := by omega
   cases k with
   | zero =>
    have KW1 := fun (w1 : World) (hb : Below wr.heap.size wr w1) => HKW.out FK X1 0 HB w1 (hD1.below hb) (by omega) HHL.out (by omega)
    rw [HHS.out] at KW1
    have HKW1 := Lib.hid KW1
    clear hsn hle hFK hD1 hM1 KW1
    go_wp2_with (first
     | (go_at_call 61;refine KZ1.mono ?_;rintro e w1 ⟨rfl,hw⟩;obtain rfl := hw.symm)
     | (go_at_call 63;refine (KH _).mono ?_;rintro e w2 ⟨rfl,hb2⟩;have KW2 := HKW1.out w2 hb2;have HB2 := Lib.hid hb2;clear hb2 KH)
     | (go_at_call 91;refine KW2.mono ?_;rintro e w3 ⟨rfl,X2,hd3,hm3⟩;have HW := Lib.hid (And.intro hd3 hm3);clear hd3 hm3 KW2))
    go_roundw
    case rel =>
     refine ⟨0 + 1,by omega,by go_num,X2, ?_,HM1.out.trans ((Mv.of_below X1 HB2.out).trans HW.out.2)⟩
     have := HW.out.1
     have hs := HSK.out
     simp only [if_true] at hs
     rw [hs]
     exact this
    case measure => simp [intOf]
   | succ k =>
    have KW1 := HKW.out FK X1 (k + 1) [] wr hD1 (by omega) (by simp) (by omega)
    have k2 : ¬ ((k : Int) + 1 = 0) := by omega
    have k3 : (((k : Int) + 1) == 0) = false := by simp [k2]
    clear hsn hle hFK hD1 hM1 KZ1
    go_wp2_with (first
     | (go_at_call 91;refine KW1.mono ?_;rintro e w3 ⟨rfl,X2,hd3,hm3⟩;have HW := Lib.hid (And.intro hd3 hm3);clear hd3 hm3 KW1))
    go_roundw
    case rel =>
     refine ⟨k + 1 + 1,by omega,by go_num,X2, ?_,HM1.out.trans HW.out.2⟩
     have := HW.out.1
     have hs := HSK.out
     rw [if_neg (by omega)] at hs
     rw [hs]
     exact this
    case measure => simp [intOf];omega
  ·obtain rfl : k = f + 3 := by omega
   rw [HALL.out] at hD1
   have KS1 := HKS.out _ X1 wr hD1
   have HM1 := Lib.hid hM1
   clear hD1 hM1
   go_wp2_with (first
    | (go_at_call 92;refine KS1.mono ?_;rintro e w3 ⟨rfl,hd3,hm3⟩;have HW := Lib.hid (And.intro hd3 hm3);clear hd3 hm3 KS1))
   go_ret
   exact ⟨rfl,X1,HW.out.1,HM1.out.trans (Mv.of_frm HW.out.2)⟩
end Go.Proofs.YtmjdmijloanfnaaGreatDoor
/- file.learn where no file is,walked. -/
namespace Go.Proofs.YtmjdmijloanfnaaGreatDoor
open Go.RowKit Go.Maps
theorem fullB_take (s : Bs) : (fullB s).take s.length = s := by simp [fullB]
theorem fullB_nil : fullB [] = zeroS := rfl
set_option maxRecDepth 100000 in
set_option maxHeartbeats 4000000 in
theorem learn0_any (X : List Nat) (S D Lg M : Nat) (ds : DS) (most u : Nat) (w : World) (h : Sto w X S D Lg M ⟨ds,[],[],most,false⟩) (ho : ds.off = false) (hm : 1 ≤ most ∧ most ≤ 256) (hu : u + most + 7 = ds.L.length) (hu1 : 1 ≤ u) (hu2 : u ≤ 4000)
  (h1 : secAt ds.vis 1 = fullB (packB (List.replicate u false))) (h2 : ∀ i,i < most → secAt ds.vis (2 + i) = zeroS) :
  Calls Tryz.prog 65 #[.pointer (some ⟨S,0,none⟩)] w fun e w' => e = .returned (.int .i64 0) ∧ Sto w' X S D Lg M ⟨ds,[],List.replicate u false,most,false⟩ ∧ Mv (S :: X) (S :: X) w w' := by
 obtain ⟨T,hT⟩ : ∃ q,List.replicate u false = q := ⟨_,rfl⟩
 have hTl : T.length = u := by rw [← hT];simp
 rw [hT] at h1 ⊢
 have KZ := fun (w1 : World) (hw : Below w.heap.size w w1) => size_any X D ds w1 (h.dsk.below hw)
 have KA := fun w1 => dataAt_any most w1 (by omega)
 have KR1 := fun (w1 : World) (hw : Below w.heap.size w w1) => read_any X D ds 1 w1 (h.dsk.below hw) (by omega) ho
 have hr1 : ds.vis[1]?.getD [] = fullB (packB T) := h1
 rw [hr1] at KR1
 have KPS := fun w1 => sparse_any T w1 (by omega)
 have hpl := packB_length T
 rw [hTl] at hpl
 have KPD := fun w1 => padded_any (packB T) w1 (by omega)
 have KP0 := fun w1 => padded_any [] w1 (by simp)
 rw [fullB_nil] at KP0
 have KN := fun w1 => spnew_any u w1 (by omega)
 rw [hT] at KN
 unfold spv at KN KPS
 rw [hTl] at KN KPS
 have hfl : (fullB (packB T)).length = 512 := full_length _ (by omega)
 obtain ⟨n,hn⟩ : ∃ q,(u + 7) / 8 = q := ⟨_,rfl⟩
 rw [hn] at hpl
 have zF : (mk (fullB (packB T))).size = 512 := by rw [mk_size,hfl]
 have hsl := fun (w : World) => run_slice_string_h (P := Tryz.prog) (w := w) (t := 9) (s := mk (fullB (packB T))) Tryz.underlying9 .i64 (n : Int) (by omega) (by rw [zF];omega)
 have e1 : (mk (fullB (packB T))).extract 0 n = mk (packB T) := by
  have := ext_mk' (mk (fullB (packB T))) 0 n
  rw [Nat.zero_add,mk_data,List.drop_zero] at this
  rw [this, ← hpl,fullB_take]
 rw [Int.toNat_natCast,e1] at hsl
 have hdiv : ((u : Int) + 7).tdiv 8 = (n : Int) := by rw [Int.tdiv_eq_ediv_of_nonneg (by omega)];omega
 have KR2 := fun (w1 : World) (i : Nat) (hi : i < most) (hw : Dsk w1 X D ds) => read_any X D ds (2 + i) w1 hw (by omega) ho
 have hr2 : ∀ i,i < most → ds.vis[2 + i]?.getD [] = zeroS := h2
 have HKR2 := Lib.hid (fun (w1 : World) (i : Nat) (hi : i < most) (hw : Dsk w1 X D ds) => (hr2 i hi) ▸ KR2 w1 i hi hw)
 clear KR2 hr2 hr1 h1 h2
 have hwn : wrap64 (n : Int) = (n : Int) := Go.IntWalk.wrap64_in _ (by omega)
 obtain ⟨FB,hFB⟩ : ∃ q,mk (fullB (packB T)) = q := ⟨_,rfl⟩
 obtain ⟨PB,hPB⟩ : ∃ q,mk (packB T) = q := ⟨_,rfl⟩
 obtain ⟨Z,hZ⟩ : ∃ q,mk zeroS = q := ⟨_,rfl⟩
 rw [hFB] at KR1 KPD zF
 simp only [hFB,hPB] at hsl
 rw [hPB] at KPS KPD KN
 rw [show mk [] = (⟨#[]⟩ : ByteArray) from rfl,hZ] at KP0
 rw [hZ] at HKR2
 have x0 := h.blk.cell 0
 have x5 := h.blk.cell 5
 simp at x0 x5
 have hSl := h.blk.lt
 have HST := Lib.hid h
 have HB := Lib.hid h.blk
 have HDS := Lib.hid h.dsk
 obtain ⟨N,hN⟩ : ∃ q,ds.L.length = q := ⟨_,rfl⟩
 rw [hN] at hu KZ
 have HKR1 := Lib.hid KR1
 have HKZ := Lib.hid KZ
 have hmost : (most : Int) ≤ 256 := by omega
 have hTV := Lib.hid (show mk (packB T) = PB ∧ T.length = u from ⟨hPB,hTl⟩)
 clear h ho KR1 KZ hT hTl hpl hfl hn hFB hPB hZ hN e1
 go_enter Tryz.func65,Tryz.ntmps65
 go_upto_region 1 with (fail)
 go_quiet ((first
  | (go_at_call 61;exact Calls.quiet_of_same (HKZ.out _ (bdN (Below.refl _ _) _)))
  | (go_at_call 62;exact Calls.quiet_of_same (KA _))))
 have hsub : ((N : Int) - ((most : Int) + 7)) = (u : Int) := by omega
 rw [hsub]
 have hb1 : Below w.heap.size w (w.drewN nq) := bdN (Below.refl _ _) _
 obtain ⟨W1,hW1⟩ : ∃ q,w.drewN nq = q := ⟨_,rfl⟩
 rw [hW1] at hb1
 simp only [hW1]
 have y0 := (hb1.cell (p := ⟨S,0,none⟩) hSl).trans x0
 have KR1 := HKR1.out W1 hb1
 have HB1 := Lib.hid hb1
 have hl1 : S < W1.heap.size := Nat.lt_of_lt_of_le hSl hb1.size
 clear hsub hW1 hb1 x0 x5 hu KA
 go_upto_region 7 with (first
  | (go_at_call 29;refine KR1.mono ?_;rintro e w1 ⟨rfl,hw⟩;obtain rfl := hw.symm;clear KR1))
 have HSLI := Lib.hid hsl
 have hsl1 := hsl W1
 have KPS1 := KPS W1
 simp only [hwn]
 clear hsl KPS hdiv hwn
 go_upto_region 8 with (first
  | (go_at_call 106;refine KPS1.mono ?_;rintro e w2 ⟨rfl,hb2⟩;have hB2 := (HB.out.below HB1.out).below hb2;have d2 := hB2.cell 2;have d3 := hB2.cell 3;have q2 := hB2.frozen 2;have q3 := hB2.frozen 3;simp at d2 d3;have hl2 := hB2.lt;have HB2 := Lib.hid hb2;clear hb2 hB2 KPS1))
 have hst2 := (HST.out.below HB1.out).below HB2.out
 have hst3 : Sto ((w2.setCell ⟨S,2,none⟩ (.int .i64 (u : Int))).setCell ⟨S,3,none⟩ (.string PB)) X S D Lg M ⟨ds,[],T,most,false⟩ := hst2.own (grown_set2 w2 S 2 3 _ _) (T := T) (off := false) (by
  have := (hst2.blk.set 2 (.int .i64 (u : Int))).set 3 (.string PB)
  simpa [stoCells,hTV.out.1,hTV.out.2] using this)
 have hmv : Mv (S :: X) (S :: X) w ((w2.setCell ⟨S,2,none⟩ (.int .i64 (u : Int))).setCell ⟨S,3,none⟩ (.string PB)) := (Mv.of_below _ (HB1.out.trans (HB2.out.mono HB1.out.size))).trans (Mv.of_grown (grown_set2 w2 S 2 3 _ _) (by simp))
 obtain ⟨W3,hW3⟩ : ∃ q,(w2.setCell ⟨S,2,none⟩ (.int .i64 (u : Int))).setCell ⟨S,3,none⟩ (.string PB) = q := ⟨_,rfl⟩
 rw [hW3] at hst3 hmv ⊢
 have HS3 := Lib.hid (And.intro hst3 hmv)
 have hsl3 := HSLI.out W3
 have KPD3 := KPD W3
 clear hW3 hst3 hmv hst2 y0 hl1 hsl1 d2 d3 q2 q3 hl2 KPD
 go_upto_region 10 with (first
  | (go_at_call 101;refine KPD3.mono ?_;rintro e w4 ⟨rfl,hb4⟩;have HB4 := Lib.hid hb4;have KN4 := KN w4;clear hb4 KPD3))
 have hst4 := HS3.out.1.below HB4.out
 have z5 := hst4.blk.cell 5
 simp at z5
 have zl := hst4.blk.lt
 have HST4 := Lib.hid hst4
 clear hst4 hsl3 KN
 go_wp2_with (first
  | (go_at_call 107;refine KN4.mono ?_;rintro e w5 ⟨rfl,hb5⟩;have hst5 := HST4.out.below hb5;have z5' := hst5.blk.cell 5;simp at z5';have zl' := hst5.blk.lt;have HB5 := Lib.hid hb5;have HST5 := Lib.hid hst5;clear hb5 hst5 KN4))
 have hB8 := Blk.new w5 #[.int .i64 (u : Int), .string PB] 104
 have hst6 := HST5.out.below (below_alloc w5 (.cells #[.int .i64 (u : Int), .string PB] 104))
 have hmv6 := (HS3.out.2.below (HB4.out.trans (HB5.out.mono HB4.out.size))).below (below_alloc w5 (.cells #[.int .i64 (u : Int), .string PB] 104))
 have hSH : S < w5.heap.size := HST5.out.blk.lt
 obtain ⟨H8,hH8⟩ : ∃ q,w5.heap.size = q := ⟨_,rfl⟩
 rw [hH8] at hB8 hSH
 obtain ⟨W6,hW6⟩ : ∃ q,w5.alloc (.cells #[.int .i64 (u : Int), .string PB] 104) = q := ⟨_,rfl⟩
 simp only [hW6] at hB8 hst6 hmv6 ⊢
 try simp only [hH8]
 have HS6 := Lib.hid (And.intro hst6 (And.intro hmv6 hB8))
 have HSH := Lib.hid hSH
 clear hB8 hst6 hmv6 hSH hH8 hW6 z5 zl z5' zl'
 go_loopw [73] (fun i wr => ∃ k : Nat,k ≤ most ∧ i = .int .i64 k ∧ Sto wr X S D Lg M ⟨ds,[],T,most,false⟩ ∧ Mv (S :: X) (S :: X) w wr ∧ Blk wr H8 #[.int .i64 (u : Int), .string PB] 104) (fun i _ => most - (intOf i).toNat)
 case atStart => exact ⟨0,Nat.zero_le _,rfl,HS6.out⟩
 case round =>
  obtain ⟨k,hk,rfl,hst,hmv,hB8⟩ := hrel
  by_cases hlt : k < most
  ·have KR := HKR2.out wr k hlt hst.dsk
   rw [show ((2 + k : Nat) : Int) = 2 + (k : Int) by push_cast;rfl] at KR
   have x0 := hst.blk.cell 0
   simp at x0
   have HH := Lib.hid (And.intro hst (And.intro hmv hB8))
   have KP := KP0 wr
   have k0 : (0 : Int) ≤ (k : Int) := by omega
   have k1 : (k : Int) < (most : Int) := by omega
   clear hst hmv hB8
   go_wp2_with (first
    | (go_at_call 29;refine KR.mono ?_;rintro e w1 ⟨rfl,hw⟩;obtain rfl := hw.symm;clear KR)
    | (go_at_call 101;refine KP.mono ?_;rintro e w7 ⟨rfl,hb7⟩;have HB7 := Lib.hid hb7;clear KP hb7))
   go_roundw
   case rel => exact ⟨k + 1,by omega,by go_num,HH.out.1.below HB7.out,HH.out.2.1.below HB7.out,HH.out.2.2.below HB7.out⟩
   case measure => simp [intOf];omega
  ·obtain rfl : k = most := by omega
   have y2 := hst.blk.cell 2
   have y3 := hst.blk.cell 3
   simp only [stoCells,hTV.out.1,hTV.out.2] at y2 y3
   have e0 := hB8.cell 0
   have e1 := hB8.cell 1
   simp at y2 y3 e0 e1
   have HH := Lib.hid (And.intro hst hmv)
   clear hst hmv hB8
   go_upto_region 28 with (fail)
   go_quiet (fail)
   go_wp2
   go_ret
   exact ⟨rfl,HH.out.1.below (bdN (Below.refl _ _) _),HH.out.2.below (bdN (Below.refl _ _) _)⟩
end Go.Proofs.YtmjdmijloanfnaaGreatDoor
/- file.Mount of a store without files,walked. -/
namespace Go.Proofs.YtmjdmijloanfnaaGreatDoor
open Go.RowKit Go.Maps
theorem Mv.hide {X X' : List Nat} {S : Nat} {w w4 w5 : World} (h : Mv X X' w w4) (k : Mv (S :: X') (S :: X') w4 w5) (hS : w.heap.size ≤ S) : Mv X X' w w5 := by
 refine ⟨⟨k.frm.os.trans h.frm.os,k.frm.tape.trans h.frm.tape,k.frm.output.trans h.frm.output,Nat.le_trans h.size k.size,fun b hb hx => ?_⟩,h.sub⟩
 refine (k.frm.block b (Nat.lt_of_lt_of_le hb h.size) (fun hm => ?_)).trans (h.frm.block b hb hx)
 rcases List.mem_cons.1 hm with rfl | hm
 ·omega
 ·exact h.apart hx hb hm
theorem head_bytes (n f : Nat) (hf : f ≤ 256) : byteAt (headB n f) 4 * 256 + byteAt (headB n f) 5 = f := by
 have h4 : byteAt (headB n f) 4 = (UInt8.ofNat (f / 256)).toNat := rfl
 have h5 : byteAt (headB n f) 5 = (UInt8.ofNat f).toNat := rfl
 rw [h4,h5]
 simp
 omega
theorem headB_len (n f : Nat) : (headB n f).length = 512 := by unfold headB;exact full_length _ (by simp [twoB])
set_option maxRecDepth 100000 in
set_option maxHeartbeats 4000000 in
theorem mount0_any (X : List Nat) (D : Nat) (ds : DS) (most u : Nat) (w : World) (h : Dsk w X D ds) (ho : ds.off = false) (hm : 1 ≤ most ∧ most ≤ 256) (hu : u + most + 7 = ds.L.length) (hu1 : 1 ≤ u) (hu2 : u ≤ 4000)
  (h0 : secAt ds.vis 0 = headB ds.L.length most) (h1 : secAt ds.vis 1 = fullB (packB (List.replicate u false))) (h2 : ∀ i,i < most → secAt ds.vis (2 + i) = zeroS) (hlog : saidB ds.vis (2 + most) 5 = [])
  (hS : ds.S.length ≤ 990000) (hT : TB w) (hw : 1 < w.heap.size) (hX0 : 1 ∉ X) :
  Calls Tryz.prog 23 #[.pointer (some ⟨D,0,none⟩)] w fun e w' => ∃ X' S Lg M,e = .returned (.tuple #[.pointer (some ⟨S,0,none⟩), .int .i64 0]) ∧ Sto w' X' S D Lg M ⟨ds,[],List.replicate u false,most,false⟩ ∧ Mv X X' w w' ∧ w.heap.size ≤ S ∧ w.heap.size ≤ M := by
 have KR1 := read_any X D ds 0 w h (by omega) ho
 have hr1 : ds.vis[0]?.getD [] = headB ds.L.length most := h0
 rw [hr1] at KR1
 have KZ := fun (w1 : World) (hw : Below w.heap.size w w1) => size_any X D ds w1 (h.below hw)
 have KA := fun w1 => dataAt_any most w1 (by omega)
 have KH := fun w1 => head_any ds.L.length most w1 (by have := h.good.small;omega) (by omega)
 have KO := fun (w1 : World) (hb : Below w.heap.size w w1) => open_any X D ds (2 + most) 5 w1 (h.below hb) (by omega) (by omega) (by omega) ho hS (hT.below hw hb) (Nat.lt_of_lt_of_le hw hb.size)
 unfold OpenP at KO
 rw [hlog] at KO
 simp only [show openC [] (2 + most) = [] from rfl,show DS.run [] ds = (0,ds) from rfl] at KO
 have KL := fun (X1 : List Nat) (S Lg M : Nat) (w1 : World) (hs : Sto w1 X1 S D Lg M ⟨ds,[],[],most,false⟩) => learn0_any X1 S D Lg M ds most u w1 hs ho hm hu hu1 hu2 h1 h2
 have hHl := headB_len ds.L.length most
 have hhb := head_bytes ds.L.length most hm.2
 obtain ⟨hd,hhd⟩ : ∃ q,headB ds.L.length most = q := ⟨_,rfl⟩
 rw [hhd] at KR1 hHl hhb
 simp only [hhd] at KH
 obtain ⟨HS,hHS⟩ : ∃ q,mk hd = q := ⟨_,rfl⟩
 rw [hHS] at KR1
 simp only [hHS] at KH
 obtain ⟨ja,jb⟩ := at_mkH hd HS hHS 4 (by omega)
 obtain ⟨jc,jd⟩ := at_mkH hd HS hHS 5 (by omega)
 have zH : HS.size = 512 := by rw [← hHS,mk_size,hHl]
 have q1 : byteAt hd 4 < 256 := byteAt_lt _ _
 have q2 : byteAt hd 5 < 256 := byteAt_lt _ _
 obtain ⟨a1,ha1⟩ : ∃ q,byteAt hd 4 = q := ⟨_,rfl⟩
 obtain ⟨a2,ha2⟩ : ∃ q,byteAt hd 5 = q := ⟨_,rfl⟩
 rw [ha1] at jb hhb q1
 rw [ha2] at jd hhb q2
 have q3 : (0 : Int) ≤ (a1 : Int) ∧ (a1 : Int) < 256 := by omega
 have q4 : (0 : Int) ≤ (a2 : Int) ∧ (a2 : Int) < 256 := by omega
 obtain ⟨N,hN⟩ : ∃ q,ds.L.length = q := ⟨_,rfl⟩
 have hu' := hu
 rw [hN] at hu'
 have m1 : ¬ ((most : Int) < 1) := by omega
 have m2 : ¬ ((256 : Int) < (most : Int)) := by omega
 have m3 : ¬ ((N : Int) < (most : Int) + 7 + 1) := by omega
 have hor := or_i64 a1 a2 (by omega) q2
 have w4 : wrap64 (a2 : Int) = (a2 : Int) := word64 q4.1 q4.2 (by decide)
 rw [w4,hhb] at hor
 have w3 : wrap64 (a1 : Int) = (a1 : Int) := word64 q3.1 q3.2 (by decide)
 have w7 : IntKind.i64.wrap (a1 : Int) = (a1 : Int) := by rw [Go.IntWalk.i64_left];exact w3
 have w8 : IntKind.i64.wrap (a2 : Int) = (a2 : Int) := by rw [Go.IntWalk.i64_left];exact w4
 have w5 : IntKind.i64.wrap ((a1 : Int) * 256) = (a1 : Int) * 256 := word256 q3.1 q3.2
 have HD := Lib.hid h
 have HT := Lib.hid (And.intro hT (And.intro hw hX0))
 have HLT := Lib.hid h.lt
 have HDM := Lib.hid h.mem
 simp only [hN] at KZ KH
 have HKZ := Lib.hid KZ
 have HKO := Lib.hid KO
 have HKL := Lib.hid KL
 have mixed := mixedT
 clear hu' h ho hu hu1 hu2 h0 h1 h2 hlog hS hT hw hX0 hr1 KZ KO KL hHl hhd hHS ha1 ha2 hhb hN
 go_enter Tryz.func23,Tryz.ntmps23
 go_upto_region 6 with (first | (go_at_call 29;refine KR1.mono ?_;rintro e w1 ⟨rfl,hw⟩;obtain rfl := hw.symm;clear KR1))
 refine wp_region_held (S := fun _ => True) mixed ?_
 change wpAnyH _ _ _ _ _ _ _ _ w.drew
 have hb0 : Below w.heap.size w w.drew := (Below.refl _ _).drew
 obtain ⟨W0,hW0⟩ : ∃ q,w.drew = q := ⟨_,rfl⟩
 rw [hW0] at hb0 ⊢
 clear hW0
 refine tkQ 0 (.string HS) rfl trivial ?_
 try go_simp
 refine tkQ 1 (.int .u8 (a1 : Int)) rfl trivial ?_
 try go_simp
 refine tkQ 2 (.int .i64 (a1 : Int)) rfl trivial ?_
 try go_simp
 refine tkQ 3 (.int .i64 ((a1 : Int) * 256)) rfl trivial ?_
 try go_simp
 refine tkQ 4 (.string HS) rfl trivial ?_
 try go_simp
 refine tkQ 5 (.int .u8 (a2 : Int)) rfl trivial ?_
 try go_simp
 refine tkQ 6 (.int .i64 (a2 : Int)) rfl trivial ?_
 try go_simp
 refine tkQ 7 (.int .i64 (most : Int)) rfl trivial ?_
 try go_simp
 refine tkQ 8 (.int .i64 (most : Int)) rfl trivial ?_
 try go_simp
 refine wpAnyH_done (by kernel_rfl) ?_ _
 have KZ1 := HKZ.out W0 hb0
 have KH1 := KH W0
 have HB0 := Lib.hid hb0
 clear hor w3 w4 w5 w7 w8 hb0 ja jb jc jd q1 q2 q3 q4 zH KH
 go_upto_region 9 with (first
  | (go_at_call 61;refine KZ1.mono ?_;rintro e w1 ⟨rfl,hw⟩;obtain rfl := hw.symm)
  | (go_at_call 62;refine (KA _).mono ?_;rintro e w1 ⟨rfl,hw⟩;obtain rfl := hw.symm)
  | (go_at_call 63;refine KH1.mono ?_;rintro e w2 ⟨rfl,hb2⟩;have HB2 := Lib.hid (HB0.out.trans (hb2.mono HB0.out.size));clear hb2 KH1))
 clear KZ1 KA m1 m2 m3
 have hmm := @run_makeMap Tryz.prog
 go_upto_region 10 with (fail)
 clear hmm
 have hM0 := FM.made w2 (fun _ => (none,0))
 have hbS := Blk.new (w2.alloc (.map #[] 0)) #[.pointer (some ⟨D,0,none⟩), .pointer none, .int .i64 0, .string ⟨#[]⟩, .map (some w2.heap.size), .int .i64 (most : Int), .bool false] 107
 have hb3 := (HB2.out.alloc HB2.out.size (.map #[] 0)).alloc (by have := HB2.out.size;simp;omega) (.cells #[.pointer (some ⟨D,0,none⟩), .pointer none, .int .i64 0, .string ⟨#[]⟩, .map (some w2.heap.size), .int .i64 (most : Int), .bool false] 107)
 have hM1 := hM0.block (Below.heap_alloc (w2.alloc (.map #[] 0)) (.cells #[.pointer (some ⟨D,0,none⟩), .pointer none, .int .i64 0, .string ⟨#[]⟩, .map (some w2.heap.size), .int .i64 (most : Int), .bool false] 107) w2.heap.size hM0.lt)
 rw [World.size_alloc] at hbS
 have hMge : w.heap.size ≤ w2.heap.size := HB2.out.size
 obtain ⟨W3,hW3⟩ : ∃ q,(w2.alloc (.map #[] 0)).alloc (.cells #[.pointer (some ⟨D,0,none⟩), .pointer none, .int .i64 0, .string ⟨#[]⟩, .map (some w2.heap.size), .int .i64 (most : Int), .bool false] 107) = q := ⟨_,rfl⟩
 simp only [hW3] at hbS hb3 hM1 ⊢
 obtain ⟨M,hMe⟩ : ∃ q,w2.heap.size = q := ⟨_,rfl⟩
 rw [hMe] at hbS hM1 hMge
 try simp only [hMe]
 have KO := HKO.out W3 hb3
 rw [show ((2 + most : Nat) : Int) = 2 + (most : Int) by push_cast;rfl] at KO
 have HS3 := Lib.hid (And.intro hbS (And.intro hb3 (And.intro hM1 hMge)))
 clear hM0 hbS hb3 hM1 hMge hW3 hMe
 go_upto_region 11 with (first
  | (go_at_call 64;refine KO.mono ?_;rintro e w4 ⟨X',hd4,hm4,hok,hno⟩;obtain ⟨Lg,n4,rfl,hge,hLX,hWL⟩ := hok trivial;have hS4 := hm4.blk HS3.out.1 (fun hx => by have := HLT.out _ hx;have := HS3.out.2.2.2;omega);have y1 := hS4.cell 1;have f1 := hS4.frozen 1;simp at y1;have l4 := hS4.lt;have HW4 := Lib.hid (And.intro hd4 (And.intro hm4 (And.intro hge (And.intro hLX (And.intro hWL hS4)))));clear hd4 hm4 hok hno hge hLX hWL hS4 KO))
 have hst5 : Sto (w4.setCell ⟨M + 1,1,none⟩ (.pointer (some ⟨Lg,0,none⟩))) X' (M + 1) D Lg M ⟨ds,[],[],most,false⟩ := by
  obtain ⟨hd4,hm4,hge,hLX,hWL,hS4⟩ := HW4.out
  obtain ⟨hbS,hb3,hM1,hMge⟩ := HS3.out
  have hg := grown_set w4 (M + 1) 1 (.pointer (some ⟨Lg,0,none⟩))
  have hSl := hbS.lt
  have hXn : ∀ x ∈ X,x < w.heap.size := HLT.out
  have hSX : M + 1 ∉ X := fun hx => by have := hXn _ hx;omega
  have hMX : M ∉ X := fun hx => by have := hXn _ hx;omega
  have hSX' := hm4.apart hSX hSl
  have hMX' := hm4.apart hMX hM1.lt
  have h0X' := hm4.apart HT.out.2.2 (Nat.lt_of_lt_of_le HT.out.2.1 hb3.size)
  have hfr : Frm [M + 1] w4 (w4.setCell ⟨M + 1,1,none⟩ (.pointer (some ⟨Lg,0,none⟩))) := ⟨hg.os,hg.tape,hg.output,hg.size,fun k hk hx => hg.block k hk (by simpa using hx)⟩
  have htb := ((HT.out.1.below HT.out.2.1 hb3).mv hm4 (Nat.lt_of_lt_of_le HT.out.2.1 hb3.size) HT.out.2.2)
  have htb5 := htb.1.mv (Mv.of_frm hfr) htb.2.1 (by have h1w := HT.out.2.1;simp;omega)
  have hM4 : FM w4 M (fun _ => (none,0)) [] := hM1.block (hm4.frm.block M hM1.lt hMX)
  refine ⟨?_,hd4.frm hfr (fun x hx e => hSX' (by simp at e;rwa [← e])),hfr.blk hWL (by simp;omega),⟨fun _ => (none,0),hM4.block (hg.block M hM4.lt (by simp)),fun f hf => by cases hf⟩,⟨hSX',hLX,hMX',h0X'⟩,htb5.1,htb5.2.1⟩
  have := hS4.set 1 (.pointer (some ⟨Lg,0,none⟩))
  have e : mk (packB []) = (⟨#[]⟩ : ByteArray) := by rw [show packB [] = [] from rfl];rfl
  simpa [stoCells,e] using this
 have hmv5 : Mv X X' w (w4.setCell ⟨M + 1,1,none⟩ (.pointer (some ⟨Lg,0,none⟩))) :=
  ((Mv.of_below X HS3.out.2.1).trans HW4.out.2.1).hide (S := M + 1) (Mv.of_grown (grown_set w4 (M + 1) 1 _) (by simp)) (by have := HS3.out.2.2.2;omega)
 obtain ⟨W5,hW5⟩ : ∃ q,w4.setCell ⟨M + 1,1,none⟩ (.pointer (some ⟨Lg,0,none⟩)) = q := ⟨_,rfl⟩
 rw [hW5] at hst5 hmv5 ⊢
 have KL := HKL.out X' (M + 1) Lg M W5 hst5
 have HMV := Lib.hid hmv5
 have HMG := Lib.hid HS3.out.2.2.2
 clear hW5 hst5 hmv5 y1 f1 l4
 go_wp2_with (first
  | (go_at_call 65;refine KL.mono ?_;rintro e w6 ⟨rfl,hst6,hmv6⟩;have H6 := Lib.hid (And.intro hst6 hmv6);clear hst6 hmv6 KL))
 go_ret2
 have hge := HMG.out
 exact ⟨X',M + 1,Lg,M,rfl,H6.out.1,HMV.out.hide H6.out.2 (by omega),by omega,hge⟩
open Go.RowKit
theorem info9 : (Tryz.prog.info? 9).map (fun i => (i.zero,i.size,i.bytes)) = some (some (.string ⟨#[]⟩),1,16) := by kernel_rfl
theorem size42 (w : World) : (sizeOf (Tryz.prog.elem 33)).run Tryz.prog w = .ok 1 w := by
 obtain ⟨i0,hi,_,h1,_⟩ := info_parts info9
 rw [show Tryz.prog.elem 33 = 9 by kernel_rfl]
 simp [sizeOf,typeInfo,hi,h1]
theorem cut42 (A : Option Addr) (n cap lo : Nat) (w : World) (h : lo < n) (hc : n ≤ cap) : (Instr.slice 33 (.slice A n cap) (some (.int .i64 (lo : Int))) none none).run Tryz.prog w = .ok (.slice (A.map (·.add lo)) (n - lo) (cap - lo)) w := by
 rw [run_slice_l (P := Tryz.prog) w 33 A n cap (by kernel_rfl) .i64 lo (by omega) (by omega),size42]
 simp [Result.andThen,sliced]
 intro e;omega
theorem cut42h (A : Option Addr) (n cap hi : Nat) (w : World) (h0 : 0 < hi) (hc : hi ≤ cap) : (Instr.slice 33 (.slice A n cap) none (some (.int .i64 (hi : Int))) none).run Tryz.prog w = .ok (.slice A hi cap) w := by
 rw [run_slice_h (P := Tryz.prog) w 33 A n cap (by kernel_rfl) .i64 hi (by omega) (by omega),size42]
 cases A <;> simp [Result.andThen,sliced]
 all_goals (try (intro _;rfl))
theorem wp_copy_splice {P : Program} {o : Oper} {a : Act} {w : World} {K : Act → World → Prop} {Q : Exit → Act → World → Prop} (hgd : o.guard = none) (d s : Operand) (dT sT : TypeId)
  (ho : o.op = .call { callee := .builtin .copy,args := #[d,s],argTypes := #[dT,sT] }) (elem : TypeId) (hu : P.underlying dT = some (.slice elem)) (hsz : (P.info? elem).map (·.size) = some 1)
  (dp sp : Option Addr) (dLen dCap sLen sCap : Nat) (hd : a.eval d = .slice dp dLen dCap) (hs : a.eval s = .slice sp sLen sCap)
  (g off : Nat) (cur : List Value) (t : TypeId) (hg : w.heap[g]? = some (.cells cur.toArray t (0,0))) (cs : List Value) (hn : cs.length = Nat.min sLen dLen)
  (hpos : 0 < cs.length → dp = some ⟨g,off,none⟩ ∧ ∃ ad,sp = some ad ∧ ∀ j v,cs[j]? = some v → w.cell? (ad.add j) = some v)
  (hfit : off + cs.length ≤ cur.length) (h1 : ∀ v ∈ cs,v.oneCell' = true) (B : Nat) (w0 : World) (hb : RowKit.Below B w0 w) (hBg : B ≤ g)
  (h : ∀ w',RowKit.Hid (w'.heap[g]? = some (.cells (splice cur off cs).toArray t (0,0))) → RowKit.Below B w0 w' → K (a.put o.dst (goInt cs.length)) w') : Oper.wp P o a w K Q := by
 have h2 := step_copy_splice (P := P) (ops := #[]) (Q := Q) (E := True) hgd d s dT sT ho elem hu hsz dp sp dLen dCap sLen sCap hd hs g off cur t hg cs hn hpos hfit h1 B w0 hb hBg h
 rwa [if_pos (by simp [Region.wanted,hgd])] at h2
def repC (s : ByteArray) (k n : Nat) : List Value := List.replicate k (.string s) ++ List.replicate (n - k) (.string ⟨#[]⟩)
theorem repC_length (s : ByteArray) (k n : Nat) (h : k ≤ n) : (repC s k n).length = n := by unfold repC;simp;omega
theorem repC_splice (s : ByteArray) (k n m : Nat) (h : k + m ≤ n) : splice (repC s k n) k (List.replicate m (.string s)) = repC s (k + m) n := by
 unfold splice repC
 rw [List.take_append_of_le_length (by simp),List.take_of_length_le (by simp),List.drop_append]
 simp only [List.length_replicate,List.drop_replicate]
 rw [show k - (k + m) = 0 by omega,List.replicate_zero,List.nil_append, ← List.append_assoc,List.replicate_append_replicate]
 congr 2
 omega
set_option maxRecDepth 100000 in
set_option maxHeartbeats 2000000 in
theorem repeat_any (g0 n : Nat) (s : ByteArray) (w : World) (hc : w.cell? ⟨g0,0,none⟩ = some (.string s)) (h1 : 1 ≤ n) (hn : n ≤ 4096) :
  Calls Tryz.prog 89 #[.slice (some ⟨g0,0,none⟩) 1 1, .int .i64 n] w fun e w' => ∃ g,e = .returned (.slice (some ⟨g,0,none⟩) n n) ∧ w.heap.size ≤ g ∧ w'.ownsRow w.heap.size 9 1 (.slice (some ⟨g,0,none⟩) n n) n (List.replicate n (.string s)) ∧ Below w.heap.size w w' := by
 have KM := fun w => Tryz.bits_Mul 1 n (by omega) (by omega) w
 rw [show 1 * n / 18446744073709551616 = 0 by omega,show 1 * n % 18446744073709551616 = n by omega] at KM
 obtain ⟨i9,hi0,hi1,hi2,hi3⟩ := info_parts info9
 have hmk := fun (w : World) => run_make (P := Tryz.prog) w 33 9 i9 _ Tryz.underlying33 hi0 hi1 .i64 .i64 (n : Int) (n : Int) (by omega) (by omega) (by rw [hi3];omega) (by omega)
 have hmc : madeCells (Value.cells (.string ⟨#[]⟩)) ((n : Int).toNat * i9.size) = (repC s 0 n).toArray := by
  rw [hi2,Nat.mul_one,Int.toNat_natCast]
  apply Array.toList_inj.1
  rw [show Value.cells (.string ⟨#[]⟩) = #[.string ⟨#[]⟩] from rfl,toList_madeCells_one]
  simp [repC]
 rw [hmc,Int.toNat_natCast] at hmk
 have n0 : (0 : Int) ≤ (n : Int) := by omega
 have n1 : ¬ ((9223372036854775807 : Int) < (n : Int)) := by omega
 have n2 : ¬ ((n : Int) < 0) := by omega
 have hg0 : g0 < w.heap.size := cell_lt hc
 go_enter Tryz.func89,Tryz.ntmps89
 have mixed := mixedT
 go_upto_region 7 with (go_at_call 129;refine (KM _).mono ?_;rintro e w1 ⟨rfl,hw⟩;obtain rfl := hw.symm)
 have hb1 := below_alloc w (.cells (repC s 0 n).toArray 9)
 have hg1 : (w.alloc (.cells (repC s 0 n).toArray 9)).heap[w.heap.size]? = some (.cells (repC s 0 n).toArray 9 (0,0)) := heap_alloc_new _ _
 have hc1 : (w.alloc (.cells (repC s 0 n).toArray 9)).cell? ⟨g0,0,none⟩ = some (.string s) := (cell_old w _ ⟨g0,0,none⟩ hg0).trans hc
 obtain ⟨W,hW⟩ : ∃ u,w.alloc (.cells (repC s 0 n).toArray 9) = u := ⟨_,rfl⟩
 obtain ⟨G,hG⟩ : ∃ G,w.heap.size = G := ⟨_,rfl⟩
 rw [hG] at hg1
 rw [hW] at hb1 hg1 hc1 ⊢
 simp only [hG]
 have HG := Lib.hid hG
 clear hW hG hmk hmc
 have hsz9 : (Tryz.prog.info? 9).map (·.size) = some 1 := by rw [hi0];simp [hi2]
 have m1 : ([Value.string s] : List Value).length = Nat.min 1 n := by show 1 = min 1 n;omega
 have m2 : 0 + ([Value.string s] : List Value).length ≤ (repC s 0 n).length := by rw [repC_length _ _ _ (by omega)];exact h1
 have m3 : ∀ v ∈ ([Value.string s] : List Value),v.oneCell' = true := by simp [Value.oneCell']
 have m4 : ∀ j v,([Value.string s] : List Value)[j]? = some v → W.cell? ((⟨g0,0,none⟩ : Addr).add j) = some v := fun j v hj => by
  cases j with
  | zero => simp at hj;subst hj;exact hc1
  | succ j => simp at hj
 have m5 : w.heap.size ≤ G := by rw [HG.out];exact Nat.le_refl _
 go_wp2_with (refine wpList_copy_splice rfl (.tmp 31) (.tmp 32) 33 33 rfl 9 Tryz.underlying33 hsz9 (some ⟨G,0,none⟩) (some ⟨g0,0,none⟩) n n 1 1 (by rfl) (by rfl) G 0 (repC s 0 n) 9 hg1 [.string s] m1 (fun _ => ⟨rfl,_,rfl,m4⟩) m2 m3 w.heap.size w hb1 m5 ?_;intro w2 hg2 hb2)
 clear m1 m2 m3 m4
 have HG2 : Hid (w2.heap[G]? = some (.cells (repC s 1 n).toArray 9 (0,0))) := by
  have := hg2.out
  rw [show ([Value.string s] : List Value) = List.replicate 1 (.string s) from rfl,repC_splice s 0 n 1 (by omega)] at this
  exact Lib.hid this
 have HB2 := Lib.hid hb2
 clear hg2 hb2 hb1 hg1 hc1
 go_loopw [8] (fun kv wr => ∃ k : Nat,1 ≤ k ∧ k ≤ n ∧ kv = .int .i64 k ∧ wr.heap[G]? = some (.cells (repC s k n).toArray 9 (0,0)) ∧ Below w.heap.size w wr) (fun kv _ => n - (intOf kv).toNat)
 case atStart => exact ⟨1,by omega,h1,rfl,HG2.out,HB2.out⟩
 case round =>
  clear HG2 HB2
  obtain ⟨k,hk1,hk,rfl,hgr,hb⟩ := hrel
  have k0 : (0 : Int) ≤ (k : Int) := by omega
  by_cases hkn : k < n
  ·have k1 : (k : Int) < (n : Int) := by omega
   have HGR := Lib.hid hgr
   have HB := Lib.hid hb
   clear hgr hb
   go_wp2
   have hct := fun w => cut42 (some ⟨G,0,none⟩) n n k w hkn (Nat.le_refl n)
   have hch := fun w => cut42h (some ⟨G,0,none⟩) n n k w (by omega) hk
   simp only [Option.map_some,add_lit',Nat.zero_add] at hct
   obtain ⟨mm,hmm⟩ : ∃ q,Nat.min k (n - k) = q := ⟨_,rfl⟩
   have q1 : mm ≤ k := by rw [← hmm];exact Nat.min_le_left _ _
   have q2 : mm ≤ n - k := by rw [← hmm];exact Nat.min_le_right _ _
   have q3 : 1 ≤ mm := by rw [← hmm];exact Nat.le_min.2 ⟨hk1,by omega⟩
   have HMN := Lib.hid hmm
   clear hmm
   refine wp_region_held (S := fun w' => True) mixed ?_
   change wpAnyH _ _ _ _ _ _ _ _ wr.drew
   have hgW : wr.drew.heap[G]? = some (.cells (repC s k n).toArray 9 (0,0)) := HGR.out
   have hbW : Below w.heap.size w wr.drew := HB.out.drew
   obtain ⟨W3,hW3⟩ : ∃ u,wr.drew = u := ⟨_,rfl⟩
   rw [hW3] at hgW hbW ⊢
   clear hW3
   refine tkQ 0 (.int .i64 k) rfl trivial ?_
   try go_simp
   refine tkQ 1 (.slice (some ⟨G,0,none⟩) n n) rfl trivial ?_
   try go_simp
   refine tkQ 2 (.int .i64 k) rfl trivial ?_
   try go_simp
   refine tkQ 3 (.slice (some ⟨G,k,none⟩) (n - k) (n - k)) rfl trivial ?_
   try go_simp
   refine tkQ 4 (.slice (some ⟨G,0,none⟩) n n) rfl trivial ?_
   try go_simp
   refine tkQ 5 (.int .i64 k) rfl trivial ?_
   try go_simp
   refine tkQ 6 (.slice (some ⟨G,0,none⟩) k n) rfl trivial ?_
   try go_simp
   refine alH 7 ?_
   unfold wpOp
   simp only []
   have m3 : ∀ v ∈ (List.replicate mm (Value.string s)),v.oneCell' = true := fun v hv => by rw [List.eq_of_mem_replicate hv];rfl
   have m4 : ∀ j v,(List.replicate mm (Value.string s))[j]? = some v → W3.cell? ((⟨G,0,none⟩ : Addr).add j) = some v := fun j v hj => by
    have hjm : j < mm := by have := (List.getElem?_eq_some_iff.1 hj).1;simpa using this
    have hv : v = .string s := by simpa [hjm] using hj.symm
    rw [add_lit',Nat.zero_add,hv]
    unfold World.cell?
    rw [hgW]
    simp only [List.getElem?_toArray]
    unfold repC
    rw [List.getElem?_append_left (by rw [List.length_replicate];omega),List.getElem?_replicate,if_neg (by simp),if_pos (by omega)]
   refine .inl (wp_copy_splice rfl (.tmp 41) (.tmp 44) 33 33 rfl 9 Tryz.underlying33 hsz9 (some ⟨G,k,none⟩) (some ⟨G,0,none⟩) (n - k) (n - k) k n (by rfl) (by rfl) G k (repC s k n) 9 hgW (List.replicate mm (.string s)) (by rw [List.length_replicate];exact HMN.out.symm) (fun _ => ⟨rfl,_,rfl,m4⟩) (by rw [repC_length _ _ _ hk,List.length_replicate];omega) m3 w.heap.size w hbW m5 ?_)
   intro W4 hg4 hb4
   refine ⟨trivial, ?_⟩
   have HG4 : Hid (W4.heap[G]? = some (.cells (repC s (k + mm) n).toArray 9 (0,0))) := by
    have := hg4.out
    rw [repC_splice s k n mm (by omega)] at this
    exact Lib.hid this
   have HB4 := Lib.hid hb4
   have hwr : IntKind.i64.wrap ((k : Int) + (mm : Int)) = (k : Int) + (mm : Int) := by rw [Go.IntWalk.i64_left,Go.IntWalk.wrap64_in _ (by omega)]
   have HMM := Lib.hid (show 1 ≤ mm ∧ k + mm ≤ n from by omega)
   rw [List.length_replicate]
   clear hg4 hb4 m3 m4 hgW hbW hct hch q1 q2 q3
   try go_simp
   refine tkQ 8 (.int .i64 ((k : Int) + (mm : Int))) rfl trivial ?_
   try go_simp
   refine tkQ 9 (.int .i64 ((k : Int) + (mm : Int))) rfl trivial ?_
   try go_simp
   refine wpAnyH_done (by kernel_rfl) ?_ _
   go_wp2
   go_roundw
   case rel => exact ⟨k + mm,by omega,HMM.out.2,by go_num,HG4.out,HB4.out⟩
   case measure => have := HMM.out;simp [intOf];omega
  ·obtain rfl : k = n := by omega
   have HFN := Lib.hid (show wr.ownsRow w.heap.size 9 1 (.slice (some ⟨G,0,none⟩) k k) k (List.replicate k (.string s)) from
    ⟨by simp, .inr ⟨G,k,(repC s k k).toArray,rfl,by rw [HG.out];exact Nat.le_refl _,hgr,Nat.le_refl _,by unfold maxLen;omega,by simp [repC],by simp [repC]⟩⟩)
   have HB := Lib.hid hb
   clear hgr hb
   go_wp2
   go_ret
   exact ⟨G,rfl,by rw [HG.out];exact Nat.le_refl _,HFN.out,HB.out⟩
set_option maxRecDepth 100000 in
theorem new_any (n : Nat) (w : World) (h1 : 1 ≤ n) (hn : n ≤ 4096) : Calls Tryz.prog 43 #[.int .i64 n] w fun e w' => ∃ X D,e = .returned (.tuple #[.pointer (some ⟨D,0,none⟩), .int .i64 0]) ∧ Dsk w' X D ⟨List.replicate n zeroS,[],none,false⟩ ∧ Mv [] X w w' := by
 have KB := blank_any w
 obtain ⟨Z,hZ⟩ : ∃ Z,mk zeroS = Z := ⟨_,rfl⟩
 rw [hZ] at KB
 have HZ := Lib.hid hZ
 have KR := fun g0 (w : World) hc => repeat_any g0 n Z w hc h1 hn
 have n0 : (0 : Int) ≤ (n : Int) := by omega
 have n1 : ¬ ((4096 : Int) < (n : Int)) := by omega
 have n2 : ¬ ((n : Int) < 1) := by omega
 clear hZ
 go_enter Tryz.func43,Tryz.ntmps43
 go_wp2_with (first
  | (go_at_call 90;refine KB.mono ?_;rintro e w1 ⟨rfl,hb1⟩)
  | (go_at_call 89;refine (KR w1.heap.size _ (by rw [(Blk.new w1 #[.string Z] 9).cell];rfl)).mono ?_;rintro e w2 ⟨gL,rfl,hg2,ho2,hb2⟩))
 go_wp2
 go_ret2
 have hb12 : Below w.heap.size w w2 := (hb1.alloc hb1.size _).trans (hb2.mono (by have := hb1.size;simp;omega))
 have hz : w.heap.size ≤ w2.heap.size := hb12.size
 have hgl := (ho2.lt gL rfl).2
 have hg0 : w.heap.size ≤ gL := by have := hb1.size;simp at hg2;omega
 refine ⟨[w2.heap.size,gL],w2.heap.size,rfl,⟨⟨gL,n, .slice none 0 0, .pointer none,0,by simpa using Blk.new w2 _ 124, ?_,World.ownsRow_nil _ _ _ _,rfl,by simp,fun g e => (by cases e)⟩,⟨fun x hx => ?_,fun x hx => (by cases hx),by simpa using hn⟩,by simp,fun x hx => ?_⟩,Frm.of_below [] (hb12.alloc hz _),fun x hx => ?_⟩
 ·have := own_weaken (World.ownsRow.alloc ho2 (.cells #[.slice (some ⟨gL,0,none⟩) n n, .slice none 0 0, .pointer none, .bool false, .int .i64 0] 124)) (Nat.zero_le _)
  rw [show txc (List.replicate n zeroS) = List.replicate n (.string Z) by simp [txc,HZ.out]]
  simpa using this
 ·rw [List.eq_of_mem_replicate hx];unfold zeroS;rw [List.length_replicate]
 ·simp at hx ⊢
  rcases hx with rfl | rfl <;> omega
 ·simp at hx
  rcases hx with rfl | rfl <;> omega
open Go.RowKit
def wrOf : List Cmd → List (Nat × Bs)
 | [] => []
 | .wr i b :: l => (i,b) :: wrOf l
 | .sy :: l => wrOf l
theorem wrOf_append (a b : List Cmd) : wrOf (a ++ b) = wrOf a ++ wrOf b := by
 induction a with
 | nil => rfl
 | cons c a ih => cases c <;> simp [wrOf,ih]
theorem wrOf_wrs (x : List (Nat × Bs)) : wrOf (wrs x) = x := by
 induction x with
 | nil => rfl
 | cons c x ih => show (c.1,c.2) :: wrOf (wrs x) = _;rw [ih]
theorem run_on : ∀ (l : List Cmd) (d : DS),d.cut = none → d.off = false → (DS.run l d).1 = 0 ∧ (DS.run l d).2.cut = none ∧ (DS.run l d).2.off = false ∧ (DS.run l d).2.vis = overlay d.vis (fulls (wrOf l)) := by
 intro l
 induction l with
 | nil => intro d h1 h2;exact ⟨rfl,h1,h2,rfl⟩
 | cons c l ih =>
  intro d h1 h2
  obtain ⟨L,S,cut,off⟩ := d
  dsimp only at h1 h2
  subst h1 h2
  cases c with
  | wr i b =>
   rw [DS.run,show DS.cmd ⟨L,S,none,false⟩ (.wr i b) = (0,⟨L,S ++ [(i,fullB b)],none,false⟩) from rfl,if_pos rfl]
   obtain ⟨a1,a2,a3,a4⟩ := ih ⟨L,S ++ [(i,fullB b)],none,false⟩ rfl rfl
   refine ⟨a1,a2,a3,a4.trans ?_⟩
   show overlay (overlay L (S ++ [(i,fullB b)])) _ = _
   rw [overlay_snoc];rfl
  | sy =>
   rw [DS.run,show DS.cmd ⟨L,S,none,false⟩ .sy = (0,⟨overlay L S,[],none,false⟩) from rfl,if_pos rfl]
   exact ih ⟨overlay L S,[],none,false⟩ rfl rfl
theorem run_sy (l : List Cmd) (d : DS) (h1 : d.cut = none) (h2 : d.off = false) : (DS.run (l ++ [.sy]) d).2.S = [] := by
 obtain ⟨a1,a2,a3,_⟩ := run_on l d h1 h2
 rw [run_append,if_pos a1]
 obtain ⟨⟨L,S,cut,off⟩,hd⟩ : ∃ q,(DS.run l d).2 = q := ⟨_,rfl⟩
 rw [hd] at a2 a3 ⊢
 dsimp only at a2 a3
 subst a2 a3
 rfl
theorem secAt_ne (W : List (Nat × Bs)) : ∀ (v : List Bs) (j : Nat),j ∉ W.map (·.1) → secAt (overlay v (fulls W)) j = secAt v j := by
 induction W with
 | nil => intro v j _;rfl
 | cons c W ih =>
  intro v j h
  rw [List.map_cons,List.mem_cons,not_or] at h
  show secAt (overlay (v.set c.1 (fullB c.2)) (fulls W)) j = _
  rw [ih _ j h.2]
  unfold secAt
  rw [List.getElem?_set,if_neg (fun e => h.1 e.symm)]
theorem secAt_set (v : List Bs) (i : Nat) (b : Bs) (h : i < v.length) : secAt (v.set i b) i = b := by
 unfold secAt;simp [h]
theorem secAt_set_ne (v : List Bs) (i j : Nat) (b : Bs) (h : i ≠ j) : secAt (v.set i b) j = secAt v j := by
 unfold secAt;rw [List.getElem?_set,if_neg h]
def freshL (n f : Nat) : List Bs := (List.replicate n zeroS).set 0 (headB n f)
theorem fmt_fresh (n f : Nat) : overlay (List.replicate n zeroS) (fulls (fmtX n f)) = freshL n f := by
 have key : ∀ k,k ≤ f + 2 → overlay (List.replicate n zeroS) (fulls ((fmtX n f).take (k + 1))) = freshL n f := by
  intro k
  induction k with
  | zero =>
   intro _
   have : (fmtX n f).take (0 + 1) = [(0,headB n f)] := by
    unfold fmtX
    rw [← List.map_take,List.take_range,show min (0 + 1) (f + 3) = 1 by omega];rfl
   rw [this]
   show (List.replicate n zeroS).set 0 (fullB (headB n f)) = _
   rw [show fullB (headB n f) = headB n f by unfold fullB;rw [headB_len];simp]
   rfl
  | succ k ih =>
   intro hk
   have hk2 : k + 1 < (fmtX n f).length := by simp [fmtX];omega
   have e : fulls ((fmtX n f).take (k + 1 + 1)) = fulls ((fmtX n f).take (k + 1)) ++ [(k + 1,zeroS)] := by
    rw [List.take_succ_eq_append_getElem hk2]
    simp [fulls,fmtX,fullB_nil]
   rw [e,overlay_snoc,ih (by omega)]
   unfold freshL
   refine List.ext_getElem (by simp) fun j h1 h2 => ?_
   rw [List.getElem_set]
   split
   ·rename_i hj
    subst hj
    rw [List.getElem_set,if_neg (by omega),List.getElem_replicate]
   ·rfl
 have := key (f + 2) (Nat.le_refl _)
 rwa [List.take_of_length_le (by simp [fmtX])] at this
theorem fresh_len (n f : Nat) : (freshL n f).length = n := by simp [freshL]
theorem fresh_head (n f : Nat) (h : 0 < n) : secAt (freshL n f) 0 = headB n f := secAt_set _ _ _ (by simpa using h)
theorem fresh_zero (n f j : Nat) (h0 : j ≠ 0) (h : j < n) : secAt (freshL n f) j = zeroS := by
 unfold freshL
 rw [secAt_set_ne _ _ _ _ (Ne.symm h0)]
 unfold secAt;simp [h]
theorem pack_zero (u : Nat) (h : u ≤ 4096) : fullB (packB (List.replicate u false)) = zeroS := by
 rw [packB_zero]
 unfold fullB zeroS
 rw [List.length_replicate,List.replicate_append_replicate]
 congr 1;omega
theorem fresh_log (n f : Nat) (h : f + 8 ≤ n) : saidB (freshL n f) (2 + f) 5 = [] := by
 unfold saidB saidOk
 rw [fresh_zero n f (2 + f) (by omega) (by omega)]
 rw [show (zeroS.take 2 == [87,76]) = false from by decide]
 rfl
end Go.Proofs.YtmjdmijloanfnaaGreatDoor
/- stemmalaw07.made,walked. -/
namespace Go.Proofs.YtmjdmijloanfnaaGreatDoor
open Go.RowKit Go.Maps
structure Nw (w : World) (Y : List Nat) (w' : World) : Prop where
 below : Below w.heap.size w w'
 new : ∀ y ∈ Y,w.heap.size ≤ y
theorem Nw.mv {w w1 w2 : World} {Y Z : List Nat} (h : Nw w Y w1) (m : Mv Y Z w1 w2) : Nw w Z w2 :=
 ⟨h.below.trans (m.frm.below h.new h.below.size),fun z hz => (m.sub z hz).elim (h.new z) (fun hh => Nat.le_trans h.below.size hh)⟩
theorem Nw.step {w w1 w2 : World} {Y : List Nat} (h : Nw w Y w1) (k : Below w1.heap.size w1 w2) : Nw w Y w2 := h.mv (.of_below _ k)
theorem Nw.start (w : World) : Nw w [] w := ⟨Below.refl _ _,fun y hy => by cases hy⟩
def freshM (n f : Nat) : StoM := ⟨⟨freshL n f,[],none,false⟩,[],List.replicate (n - f - 7) false,f,false⟩
end Go.Proofs.YtmjdmijloanfnaaGreatDoor
/- stemmalaw07.speaks,walked: true. -/
namespace Go.Proofs.YtmjdmijloanfnaaGreatDoor
open Go.RowKit Go.Maps
theorem freshB (n f : Nat) (h1 : 1 ≤ f) (h2 : f ≤ 256) (h3 : f + 8 ≤ n) (h4 : n ≤ 4000) : StoB (freshM n f) where
 ent := fun g hg => by cases hg
 nam := fun g hg => by cases hg
 siz := fun g hg => by cases hg
 exl := fun g hg => by cases hg
 exb := fun g hg => by cases hg
 len := by simp [freshM]
 mo := ⟨h1,h2⟩
 tl := by simp [freshM];omega
 ll := by simp [freshM,fresh_len];omega
 sl := by simp [freshM]
end Go.Proofs.YtmjdmijloanfnaaGreatDoor
/- FileNames,walked: true. -/
namespace Go.Proofs.YtmjdmijloanfnaaGreatDoor
open Go.RowKit Go.Maps
open Go.RowKit Go.Maps
theorem ecells_app (a b : List (Nat × Nat)) : ecells (a ++ b) = ecells a ++ ecells b := by unfold ecells;rw [List.flatMap_append]
open Go.RowKit
structure PF where
 name : Bs
 data : Bs
 ext : List (Nat × Nat)
 entry : Nat
abbrev PG := PF × (Option Addr × Nat)
def rcell (x : PG) : List Value := [.string (mk x.1.name), .string (mk x.1.data), .slice x.2.1 x.1.ext.length x.2.2, .int .i64 x.1.entry]
def rcells (G : List PG) : List Value := G.flatMap rcell
def tcells (T : List Bool) : List Value := T.map .bool
abbrev okT (t : TypeId) : Prop := t = 90 ∨ t = 93 ∨ t = 4 ∨ t = 176
structure RAt (w : World) (Y : List Nat) (R : Nat) (F : List PF) (T : List Bool) (most : Nat) (aF : Option Addr) (cF : Nat) (aT : Option Addr) (cT : Nat) (G : List PG) : Prop where
 files : G.map (·.1) = F
 blk : Blk w R #[.slice aF G.length cF, .slice aT T.length cT, .int .i64 most] 90
 row : w.ownsRow 0 93 4 (.slice aF G.length cF) G.length (rcells G)
 units : Lies w aT (tcells T)
 utyp : Typed w aT 4
 exts : ∀ x ∈ G,Lies w x.2.1 (ecells x.1.ext) ∧ Typed w x.2.1 176 ∧ ∀ a,x.2.1 = some a → a.block ∈ Y
 inF : ∀ a,aF = some a → a.block ∈ Y
 inT : ∀ a,aT = some a → a.block ∈ Y
 apart : R ∉ Y
 typ : ∀ y ∈ Y, ∃ cs t fr,w.heap[y]? = some (.cells cs t fr) ∧ okT t
def RSt (w : World) (Y : List Nat) (R : Nat) (F : List PF) (T : List Bool) (most : Nat) : Prop := ∃ aF cF aT cT G,RAt w Y R F T most aF cF aT cT G
theorem lies_block {w w' : World} {A : Option Addr} {xs : List Value} (h : Lies w A xs) (hk : ∀ a,A = some a → w'.heap[a.block]? = w.heap[a.block]?) : Lies w' A xs := by
 intro h0
 obtain ⟨g,o,he,hl,hc⟩ := h h0
 have e := hk _ he
 refine ⟨g,o,he, ?_,fun j u hu => (World.cell?_of_block (a := ⟨g,o + j,none⟩) e).trans (hc j u hu)⟩
 rcases Nat.lt_or_ge g w'.heap.size with h1 | h1
 ·exact h1
 ·have e' : w'.heap[g]? = w.heap[g]? := e
  rw [Array.getElem?_eq_none h1] at e'
  have := (Array.getElem?_eq_none_iff.1 e'.symm)
  omega
theorem typed_block {w w' : World} {A : Option Addr} {t : TypeId} (h : Typed w A t) (hk : ∀ a,A = some a → w'.heap[a.block]? = w.heap[a.block]?) : Typed w' A t := fun a ha => by
 obtain ⟨cs,fr,hc⟩ := h a ha
 exact ⟨cs,fr,(hk a ha).trans hc⟩
theorem row_block {w w' : World} {B e s n : Nat} {v : Value} {xs : List Value} (h : w.ownsRow B e s v n xs) (hk : ∀ g,v.ownBlock = some g → w'.heap[g]? = w.heap[g]?) : w'.ownsRow B e s v n xs := by
 refine ⟨h.1,h.2.imp id fun ⟨b,cap,cur,h1,h2,h3,h4⟩ => ⟨b,cap,cur,h1,h2, ?_,h4⟩⟩
 rw [hk b (by rw [h1];rfl)]
 exact h3
theorem RAt.keep {w w' : World} {Y : List Nat} {R : Nat} {F : List PF} {T : List Bool} {most : Nat} {aF : Option Addr} {cF : Nat} {aT : Option Addr} {cT : Nat} {G : List PG} (h : RAt w Y R F T most aF cF aT cT G) (hk : ∀ y ∈ R :: Y,w'.heap[y]? = w.heap[y]?) : RAt w' Y R F T most aF cF aT cT G where
 files := h.files
 blk := (hk R (List.mem_cons_self ..)).trans h.blk
 row := row_block h.row (fun g hg => by
  cases aF with
  | none => cases hg
  | some a => exact hk g (List.mem_cons_of_mem _ (by have := h.inF a rfl; have e : a.block = g := by simpa [Value.ownBlock] using hg
                                                     rwa [← e])))
 units := lies_block h.units (fun a ha => hk _ (List.mem_cons_of_mem _ (h.inT a ha)))
 utyp := typed_block h.utyp (fun a ha => hk _ (List.mem_cons_of_mem _ (h.inT a ha)))
 exts := fun x hx => by
  obtain ⟨h1,h2,h3⟩ := h.exts x hx
  exact ⟨lies_block h1 (fun a ha => hk _ (List.mem_cons_of_mem _ (h3 a ha))),typed_block h2 (fun a ha => hk _ (List.mem_cons_of_mem _ (h3 a ha))),h3⟩
 inF := h.inF
 inT := h.inT
 apart := h.apart
 typ := fun y hy => by
  obtain ⟨cs,t,fr,h1,h2⟩ := h.typ y hy
  exact ⟨cs,t,fr,(hk y (List.mem_cons_of_mem _ hy)).trans h1,h2⟩
theorem RAt.lt {w : World} {Y : List Nat} {R : Nat} {F : List PF} {T : List Bool} {most : Nat} {aF : Option Addr} {cF : Nat} {aT : Option Addr} {cT : Nat} {G : List PG} (h : RAt w Y R F T most aF cF aT cT G) : ∀ y ∈ R :: Y,y < w.heap.size := fun y hy => by
 rcases List.mem_cons.1 hy with rfl | hy
 ·exact h.blk.lt
 ·obtain ⟨cs,t,fr,h1,_⟩ := h.typ y hy
  exact (Array.getElem?_eq_some_iff.1 h1).1
theorem RAt.below {w w' : World} {Y : List Nat} {R : Nat} {F : List PF} {T : List Bool} {most : Nat} {aF : Option Addr} {cF : Nat} {aT : Option Addr} {cT : Nat} {G : List PG} (h : RAt w Y R F T most aF cF aT cT G) (hb : Below w.heap.size w w') : RAt w' Y R F T most aF cF aT cT G :=
 h.keep fun y hy => hb.block y (h.lt y hy)
theorem RSt.below {w w' : World} {Y : List Nat} {R : Nat} {F : List PF} {T : List Bool} {most : Nat} (h : RSt w Y R F T most) (hb : Below w.heap.size w w') : RSt w' Y R F T most := by
 obtain ⟨aF,cF,aT,cT,G,h⟩ := h
 exact ⟨aF,cF,aT,cT,G,h.below hb⟩
theorem text_eq (a b : Bs) : ((mk a).toList == (mk b).toList) = (a == b) := by rw [mk_toList',mk_toList']
open Go.RowKit
open Go.RowKit
def unitsL (l : List (Nat × Nat)) : List Nat := l.flatMap fun x => List.range' x.1 x.2
theorem unitsL_cons (x : Nat × Nat) (l : List (Nat × Nat)) : unitsL (x :: l) = List.range' x.1 x.2 ++ unitsL l := rfl
theorem unitsL_length : ∀ l : List (Nat × Nat),(unitsL l).length = sumN l := by
 intro l
 induction l with
 | nil => rfl
 | cons x l ih => rw [unitsL_cons,List.length_append,ih,sumN_cons,List.length_range']
theorem mem_unitsL {j : Nat} {l : List (Nat × Nat)} : j ∈ unitsL l ↔ ∃ x ∈ l,x.1 ≤ j ∧ j < x.1 + x.2 := by
 unfold unitsL
 rw [List.mem_flatMap]
 constructor
 ·rintro ⟨x,hx,hj⟩;exact ⟨x,hx,by rw [List.mem_range'_1] at hj;exact hj⟩
 ·rintro ⟨x,hx,hj⟩;exact ⟨x,hx,by rw [List.mem_range'_1];exact hj⟩
theorem set_getD (T : List Bool) (i j : Nat) (b : Bool) (h : i < T.length) : (T.set i b).getD j false = if i = j then b else T.getD j false := by
 rw [List.getD_eq_getElem?_getD,List.getD_eq_getElem?_getD,List.getElem?_set]
 by_cases e : i = j
 ·subst e;simp [h]
 ·rw [if_neg e,if_neg e]
theorem turn1_give : ∀ (m : Nat) (T : List Bool) (i : Nat),i + m ≤ T.length → (∀ j,i ≤ j → j < i + m → T.getD j false = true) →
  ∃ T',turn1 false T i m = some T' ∧ T'.length = T.length ∧ ∀ j,T'.getD j false = (T.getD j false && !decide (i ≤ j ∧ j < i + m)) := by
 intro m
 induction m with
 | zero => intro T i _ _;exact ⟨T,rfl,rfl,fun j => by simp;intro _;omega⟩
 | succ m ih =>
  intro T i hl hf
  have h0 := hf i (Nat.le_refl _) (by omega)
  have hil : i < T.length := by omega
  obtain ⟨T',h1,h2,h3⟩ := ih (T.set i false) (i + 1) (by rw [List.length_set];omega) (fun j hj hj2 => by
   rw [set_getD _ _ _ _ hil,if_neg (by omega)];exact hf j (by omega) (by omega))
  refine ⟨T', ?_,by rw [h2,List.length_set],fun j => ?_⟩
  ·rw [turn1,h0,if_neg (by simp)]
   exact h1
  ·rw [h3,set_getD _ _ _ _ hil]
   by_cases e : i = j
   ·subst e;simp
   ·rw [if_neg e]
    congr 2
    exact decide_eq_decide.2 (by constructor <;> intro h <;> omega)
theorem turnS_give : ∀ (l : List (Nat × Nat)) (T : List Bool),(∀ x ∈ l,1 ≤ x.2 ∧ x.1 + x.2 ≤ T.length) → (unitsL l).Nodup → (∀ j ∈ unitsL l,T.getD j false = true) →
  ∃ T',turnS false T l = some T' ∧ T'.length = T.length ∧ ∀ j,T'.getD j false = (T.getD j false && !decide (j ∈ unitsL l)) := by
 intro l
 induction l with
 | nil => intro T _ _ _;exact ⟨T,rfl,rfl,fun j => by simp [unitsL]⟩
 | cons x l ih =>
  intro T hb hn ht
  obtain ⟨a1,a2⟩ := hb x (List.mem_cons_self ..)
  rw [unitsL_cons,List.nodup_append] at hn
  obtain ⟨_,n2,n3⟩ := hn
  obtain ⟨T1,b1,b2,b3⟩ := turn1_give x.2 T x.1 a2 (fun j h1 h2 => ht j (by rw [unitsL_cons];exact List.mem_append_left _ (by rw [List.mem_range'_1];exact ⟨h1,h2⟩)))
  obtain ⟨T',c1,c2,c3⟩ := ih T1 (fun y hy => by rw [b2];exact hb y (List.mem_cons_of_mem _ hy)) n2 (fun j hj => by
   rw [b3,ht j (by rw [unitsL_cons];exact List.mem_append_right _ hj)]
   simp
   rcases Nat.lt_or_ge j x.1 with h1 | h1
   ·exact .inl h1
   refine .inr ?_
   rcases Nat.lt_or_ge j (x.1 + x.2) with h | h
   ·exact absurd rfl (n3 j (by rw [List.mem_range'_1];exact ⟨h1,h⟩) j hj)
   ·exact h)
  refine ⟨T', ?_,by rw [c2,b2],fun j => ?_⟩
  ·rw [turnS,if_neg (by omega),b1];exact c1
  ·rw [c3,b3,unitsL_cons,Bool.and_assoc]
   congr 1
   rw [← Bool.not_or]
   congr 1
   rw [← Bool.decide_or]
   exact decide_eq_decide.2 (by rw [List.mem_append,List.mem_range'_1])
theorem nodup_lt : ∀ (n : Nat) (l : List Nat),l.Nodup → (∀ x ∈ l,x < n) → l.length ≤ n := by
 intro n
 induction n with
 | zero =>
  intro l _ h
  cases l with
  | nil => exact Nat.le_refl _
  | cons a l => exact absurd (h a (List.mem_cons_self ..)) (by omega)
 | succ n ih =>
  intro l h1 h2
  have h3 := ih (l.filter (· != n)) (h1.filter _) (fun x hx => by
   obtain ⟨a,b⟩ := List.mem_filter.1 hx
   have := h2 x a
   have : x ≠ n := by simpa using b
   omega)
  have h4 : l.length ≤ (l.filter (· != n)).length + 1 := by
   have h5 := List.length_eq_countP_add_countP (p := fun x => x != n) (l := l)
   rw [List.countP_eq_length_filter] at h5
   have h6 : List.countP (fun a => decide ¬(a != n) = true) l ≤ 1 := by
    have h7 := List.nodup_iff_count.1 h1 n
    refine Nat.le_trans (Nat.le_of_eq ?_) h7
    unfold List.count
    congr 1
    funext a
    by_cases e : a = n <;> simp [e]
   omega
  omega
theorem perm_del : ∀ (F : List FileM) (g : FileM) (t : Bs),(F.map (·.name)).Nodup → fileOf F t = some g → F.Perm (g :: delF F t) := by
 intro F
 induction F with
 | nil => intro g t _ h;cases h
 | cons a F ih =>
  intro g t hn h
  rw [List.map_cons,List.nodup_cons] at hn
  by_cases ha : a.name = t
  ·have : fileOf (a :: F) t = some a := by unfold fileOf;rw [List.find?_cons,show (a.name == t) = true by simpa using ha]
   rw [this] at h
   cases h
   have hd : delF (a :: F) t = F := by
    unfold delF
    rw [List.filter_cons,show (!(a.name == t)) = false by simp [ha]]
    simp only [Bool.false_eq_true,if_false]
    rw [List.filter_eq_self]
    intro b hb
    have : b.name ≠ t := fun e => hn.1 (by rw [ha, ← e];exact List.mem_map.2 ⟨b,hb,rfl⟩)
    simp [this]
   rw [hd]
  ·have h2 : fileOf (a :: F) t = fileOf F t := by unfold fileOf;rw [List.find?_cons,show (a.name == t) = false by simpa using ha]
   rw [h2] at h
   have hd : delF (a :: F) t = a :: delF F t := by
    unfold delF
    rw [List.filter_cons,show (!(a.name == t)) = true by simp [ha]]
    simp
   rw [hd]
   exact ((ih g t hn.2 h).cons a).trans (List.Perm.swap g a _)
theorem del_none {F : List FileM} {t : Bs} (h : fileOf F t = none) : delF F t = F := by
 unfold delF
 rw [List.filter_eq_self]
 intro b hb
 have := fileOf_none.1 h b hb
 simp [this]
structure Inv (m : StoM) : Prop where
 b : StoB m
 cut : m.ds.cut = none
 on : m.ds.off = false
 syn : m.ds.S = []
 up : m.off = false
 good : ∀ f ∈ m.F,goodF f.name = true
 names : (m.F.map (·.name)).Nodup
 entries : (m.F.map (·.entry)).Nodup
 pos : ∀ f ∈ m.F, ∀ x ∈ f.ext,1 ≤ x.2
 sum : ∀ f ∈ m.F,sumN f.ext = needsN f.size
 once : (m.F.flatMap fun f => unitsL f.ext).Nodup
 taken : ∀ j,m.T.getD j false = true ↔ j ∈ m.F.flatMap fun f => unitsL f.ext
theorem inv_fresh (n f : Nat) (h1 : 1 ≤ f) (h2 : f ≤ 256) (h3 : f + 8 ≤ n) (h4 : n ≤ 4000) : Inv (freshM n f) where
 b := freshB n f h1 h2 h3 h4
 cut := rfl
 on := rfl
 syn := rfl
 up := rfl
 good := fun g hg => by cases hg
 names := by simp [freshM]
 entries := by simp [freshM]
 pos := fun g hg => by cases hg
 sum := fun g hg => by cases hg
 once := by simp [freshM]
 taken := fun j => by
  simp [freshM,List.getD_eq_getElem?_getD,List.getElem?_replicate]
  split <;> rfl
theorem perm_put : ∀ (F : List FileM) (f : FileM),(F.map (·.name)).Nodup → (putF F f).Perm (f :: delF F f.name) := by
 intro F f hn
 unfold putF
 split
 ·rename_i h
  induction F with
  | nil => cases h
  | cons a F ih =>
   rw [List.map_cons,List.nodup_cons] at hn
   by_cases ha : a.name = f.name
   ·have hne : ∀ b ∈ F,b.name ≠ f.name := fun b hb e => hn.1 (by rw [ha, ← e];exact List.mem_map.2 ⟨b,hb,rfl⟩)
    have h1 : (F.map fun g => if g.name == f.name then f else g) = F := by
     conv => rhs;rw [← List.map_id F]
     exact List.map_congr_left fun b hb => by simp [hne b hb]
    have hd : delF (a :: F) f.name = F := by
     unfold delF
     rw [List.filter_cons,show (!(a.name == f.name)) = false by simp [ha]]
     simp only [Bool.false_eq_true,if_false]
     rw [List.filter_eq_self]
     intro b hb
     simp [hne b hb]
    rw [List.map_cons,h1,hd,if_pos (by simpa using ha)]
   ·have h2 : (fileOf F f.name).isSome = true := by
     unfold fileOf at h ⊢
     rw [List.find?_cons,show (a.name == f.name) = false by simpa using ha] at h
     exact h
    have hd : delF (a :: F) f.name = a :: delF F f.name := by
     unfold delF
     rw [List.filter_cons,show (!(a.name == f.name)) = true by simp [ha]]
     simp
    rw [List.map_cons,hd,if_neg (by simpa using ha)]
    exact ((ih hn.2 h2).cons a).trans (List.Perm.swap f a _)
 ·rename_i h
  rw [del_none (by simpa using h)]
  exact List.perm_append_comm (l₁ := F) (l₂ := [f])
def unitsF (F : List FileM) : List Nat := F.flatMap fun f => unitsL f.ext
theorem unitsF_perm {F G : List FileM} (h : F.Perm G) : (unitsF F).Perm (unitsF G) := h.flatMap_right _
theorem units_split {m : StoM} (h : Inv m) (t : Bs) : (unitsF m.F).Perm (unitsL (oldX m.F t) ++ unitsF (delF m.F t)) := by
 unfold oldX
 cases hf : fileOf m.F t with
 | none => rw [del_none hf];exact List.Perm.refl _
 | some g => exact unitsF_perm (perm_del _ _ _ h.names hf)
theorem rise_units : ∀ (l : List (Nat × Nat)) (lo : Nat),Rise lo l → (unitsL l).Nodup ∧ ∀ j ∈ unitsL l,lo ≤ j := by
 intro l
 induction l with
 | nil => intro lo _;exact ⟨List.nodup_nil,fun j hj => by cases hj⟩
 | cons x l ih =>
  intro lo h
  obtain ⟨i1,i2⟩ := ih _ h.2
  have h1 := h.1
  rw [unitsL_cons]
  refine ⟨List.nodup_append.2 ⟨List.nodup_range',i1,fun a ha b hb => ?_⟩,fun j hj => ?_⟩
  ·have := i2 b hb
   rw [List.mem_range'_1] at ha
   omega
  ·rcases List.mem_append.1 hj with hj | hj
   ·rw [List.mem_range'_1] at hj;omega
   ·have := i2 j hj;omega
theorem getD_two (T : List Bool) (j : Nat) : T.getD j false = (decide (j < T.length) && T.getD j true) := by
 rw [List.getD_eq_getElem?_getD,List.getD_eq_getElem?_getD]
 by_cases h : j < T.length
 ·simp [h]
 ·simp [h]
theorem preW_some {m : StoM} {name data : Bs} {T2 : List Bool} {f : FileM} (h : preW m name data = (0,some (T2,f))) :
  goodF name = true ∧ data.length ≤ 1048576 ∧ slotW m name = some f.entry ∧ f.name = name ∧ f.size = data.length ∧ ∃ T1,takeS m.T (needsN data.length) 64 = some (f.ext,T1) ∧ turnS false T1 (oldX m.F name) = some T2 := by
 unfold preW at h
 split at h
 ·simp at h
 ·rename_i hg
  split at h
  ·simp at h
  ·rename_i hl
   cases hs : slotW m name with
   | none => rw [hs] at h;simp at h
   | some i =>
    rw [hs] at h
    dsimp only at h
    cases ht : takeS m.T (needsN data.length) 64 with
    | none => rw [ht] at h;simp at h
    | some p =>
     obtain ⟨l,T1⟩ := p
     rw [ht] at h
     dsimp only at h
     cases hu : turnS false T1 (oldX m.F name) with
     | none => rw [hu] at h;simp at h
     | some T3 =>
      rw [hu] at h
      simp only [Prod.mk.injEq,true_and,Option.some.injEq] at h
      obtain ⟨rfl,rfl⟩ := h
      exact ⟨by simpa using hg,by omega,rfl,rfl,rfl,T1,rfl,hu⟩
theorem old_facts {m : StoM} (h : Inv m) (t : Bs) : (∀ x ∈ oldX m.F t,1 ≤ x.2 ∧ x.1 + x.2 ≤ m.T.length) ∧ (unitsL (oldX m.F t)).Nodup ∧ ∀ j ∈ unitsL (oldX m.F t),m.T.getD j false = true := by
 have hsp := units_split h t
 have hn : (unitsL (oldX m.F t) ++ unitsF (delF m.F t)).Nodup := hsp.nodup_iff.1 h.once
 refine ⟨?_,(List.nodup_append.1 hn).1,fun j hj => (h.taken j).2 (hsp.mem_iff.2 (List.mem_append_left _ hj))⟩
 unfold oldX
 cases hf : fileOf m.F t with
 | none => intro x hx;cases hx
 | some g => exact fun x hx => ⟨h.pos g (fileOf_mem hf) x hx,h.b.exb g (fileOf_mem hf) x hx⟩
theorem put_units {m : StoM} (h : Inv m) {l : List (Nat × Nat)} {T1 T2 : List Bool} {k : Nat} {t : Bs} (h1 : takeS m.T k 64 = some (l,T1)) (h2 : turnS false T1 (oldX m.F t) = some T2) :
  T2.length = m.T.length ∧ (unitsL l ++ unitsF (delF m.F t)).Nodup ∧ ∀ j,T2.getD j false = true ↔ j ∈ unitsL l ++ unitsF (delF m.F t) := by
 obtain ⟨a1,a2,a3,a4,a5,a6⟩ := takeS_facts h1
 obtain ⟨o1,o2,o3⟩ := old_facts h t
 have hsp := units_split h t
 have hn := List.nodup_append.1 (hsp.nodup_iff.1 h.once)
 have hfree : ∀ j ∈ unitsL l,m.T.getD j false = false ∧ j < m.T.length := fun j hj => by
  obtain ⟨x,hx,b1,b2⟩ := mem_unitsL.1 hj
  obtain ⟨c1,c2,c3⟩ := a3 x hx
  exact ⟨by rw [getD_two,c3 j b1 b2];simp,by omega⟩
 have hT1 : ∀ j,T1.getD j false = (m.T.getD j false || decide (j ∈ unitsL l)) := fun j => by
  rw [getD_two,a6 j,a4,getD_two m.T j]
  by_cases hj : j ∈ unitsL l
  ·have := (hfree j hj).2
   have hany : (l.any fun x => decide (x.1 ≤ j ∧ j < x.1 + x.2)) = true := by
    obtain ⟨x,hx,b⟩ := mem_unitsL.1 hj
    exact List.any_eq_true.2 ⟨x,hx,by simpa using b⟩
   rw [hany]
   simp [this,hj]
  ·have hany : (l.any fun x => decide (x.1 ≤ j ∧ j < x.1 + x.2)) = false := by
    rw [List.any_eq_false]
    intro x hx hb
    exact hj (mem_unitsL.2 ⟨x,hx,by simpa using hb⟩)
   rw [hany]
   simp [hj]
 obtain ⟨T3,e1,e2,e3⟩ := turnS_give (oldX m.F t) T1 (fun x hx => by rw [a4];exact o1 x hx) o2 (fun j hj => by rw [hT1,o3 j hj];rfl)
 rw [h2] at e1
 cases e1
 have hdj : ∀ j ∈ unitsL l,j ∉ unitsL (oldX m.F t) ∧ j ∉ unitsF (delF m.F t) := fun j hj => by
  have h0 := (hfree j hj).1
  have hnot : j ∉ m.F.flatMap fun f => unitsL f.ext := fun hm => by rw [(h.taken j).2 hm] at h0;cases h0
  exact ⟨fun hm => hnot (hsp.mem_iff.2 (List.mem_append_left _ hm)),fun hm => hnot (hsp.mem_iff.2 (List.mem_append_right _ hm))⟩
 refine ⟨by rw [e2,a4],List.nodup_append.2 ⟨(rise_units l 0 a2).1,hn.2.1,fun a ha b hb e => (hdj a ha).2 (e ▸ hb)⟩,fun j => ?_⟩
 rw [e3,hT1,List.mem_append]
 have ht := h.taken j
 have hm : (j ∈ m.F.flatMap fun f => unitsL f.ext) ↔ (j ∈ unitsL (oldX m.F t) ∨ j ∈ unitsF (delF m.F t)) := by rw [← List.mem_append];exact hsp.mem_iff
 rw [hm] at ht
 have hod : j ∈ unitsL (oldX m.F t) → j ∉ unitsF (delF m.F t) := fun ha hb => hn.2.2 j ha j hb rfl
 have hd := hdj j
 simp only [Bool.and_eq_true,Bool.or_eq_true,decide_eq_true_eq,Bool.not_eq_true',decide_eq_false_iff_not]
 rw [ht]
 constructor
 ·rintro ⟨(h1 | h1) | h1,h2⟩
  ·exact absurd h1 h2
  ·exact .inr h1
  ·exact .inl h1
 ·rintro (h1 | h1)
  ·exact ⟨.inr h1,(hd h1).1⟩
  ·exact ⟨.inl (.inr h1),fun h2 => hod h2 h1⟩
theorem settle_sy (most : Nat) (T : List Bool) (C : List (Nat × Bs)) : ∃ p,settleC most T C = p ++ [.sy] :=
 ⟨(wrs (imgs (settleX T C) (2 + most)) ++ [.sy]) ++ ([.wr (2 + most) (headW (settleX T C)), .sy] ++ ((wrs (settleX T C) ++ [.sy]) ++ [.wr (2 + most) []])),by simp [settleC,commitC]⟩
theorem run_settled {d : DS} (h1 : d.cut = none) (h2 : d.off = false) (pre : List Cmd) (most : Nat) (T : List Bool) (C : List (Nat × Bs)) :
  (DS.run (pre ++ settleC most T C) d).1 = 0 ∧ (DS.run (pre ++ settleC most T C) d).2.cut = none ∧ (DS.run (pre ++ settleC most T C) d).2.off = false ∧ (DS.run (pre ++ settleC most T C) d).2.S = [] ∧ (DS.run (pre ++ settleC most T C) d).2.L.length = d.L.length := by
 obtain ⟨a1,a2,a3,_⟩ := run_on (pre ++ settleC most T C) d h1 h2
 obtain ⟨p,hp⟩ := settle_sy most T C
 refine ⟨a1,a2,a3, ?_,(run_len _ d).1⟩
 rw [hp, ← List.append_assoc]
 exact run_sy _ d h1 h2
theorem slot_fresh {m : StoM} (h : Inv m) {t : Bs} {i : Nat} (hs : slotW m t = some i) : i < m.most ∧ ∀ g ∈ delF m.F t,g.entry ≠ i := by
 refine ⟨slotW_lt h.b hs, ?_⟩
 unfold slotW at hs
 split at hs
 ·rename_i f hf
  cases hs
  have hp := (perm_del _ _ _ h.names hf).map (·.entry)
  have hn := hp.nodup_iff.1 h.entries
  rw [List.map_cons,List.nodup_cons] at hn
  exact fun g hg e => hn.1 (by rw [← e];exact List.mem_map.2 ⟨g,hg,rfl⟩)
 ·exact fun g hg => (vacN_lt hs).2 g (List.mem_filter.1 hg).1
theorem inv_put {m : StoM} {name data : Bs} {T2 : List Bool} {f : FileM} (h : Inv m) (hp : preW m name data = (0,some (T2,f))) :
  (DS.run (putC m.most T2 (secL (m.most + 7) f.ext) data f) m.ds).1 = 0 ∧ Inv ⟨(DS.run (putC m.most T2 (secL (m.most + 7) f.ext) data f) m.ds).2,putF m.F f,T2,m.most,m.off⟩ := by
 obtain ⟨p1,p2,p3,rfl,p5,T1,p6,p7⟩ := preW_some hp
 obtain ⟨u1,u2,u3⟩ := put_units h p6 p7
 obtain ⟨s1,s2⟩ := slot_fresh h p3
 obtain ⟨a1,a2,a3,_,a5,_⟩ := takeS_facts p6
 obtain ⟨r1,r2,r3,r4,r5⟩ := run_settled h.cut h.on (layC (secL (m.most + 7) f.ext) data) m.most T2 [(f.entry,entryB f.name f.size f.ext)]
 have hpp := perm_put m.F f h.names
 have hent : ((putF m.F f).map (·.entry)).Nodup := by
  rw [(hpp.map (·.entry)).nodup_iff,List.map_cons,List.nodup_cons]
  refine ⟨fun hm => ?_,h.entries.sublist (List.filter_sublist.map _)⟩
  obtain ⟨g,hg,e⟩ := List.mem_map.1 hm
  exact s2 g hg e
 have hU := unitsF_perm hpp
 have hlt : ∀ g ∈ putF m.F f,g.entry < m.most := fun g hg => by
  rcases putF_mem hg with rfl | ⟨hg,_⟩
  ·exact s1
  ·exact h.b.ent g hg
 refine ⟨r1, ?_⟩
 exact { b := { ent := hlt
                nam := fun g hg => by
                 rcases putF_mem hg with rfl | ⟨hg, _⟩
                 ·exact goodF_len p1
                 ·exact h.b.nam g hg
                siz := fun g hg => by
                 rcases putF_mem hg with rfl | ⟨hg, _⟩
                 ·rw [p5]; exact p2
                 ·exact h.b.siz g hg
                exl := fun g hg => by
                 rcases putF_mem hg with rfl | ⟨hg, _⟩
                 ·exact a1
                 ·exact h.b.exl g hg
                exb := fun g hg x hx => by
                 show _ ≤ T2.length
                 rw [u1]
                 rcases putF_mem hg with rfl | ⟨hg, _⟩
                 ·exact (a3 x hx).2.1
                 ·exact h.b.exb g hg x hx
                len := by
                 have := nodup_lt m.most _ hent (fun x hx => by obtain ⟨g, hg, rfl⟩ := List.mem_map.1 hx; exact hlt g hg)
                 rw [List.length_map] at this
                 have := h.b.mo.2
                 show (putF m.F f).length ≤ _
                 omega
                mo := h.b.mo
                tl := by show T2.length ≤ _; rw [u1]; exact h.b.tl
                ll := by
                 show T2.length + m.most + 7 = (DS.run (putC m.most T2 (secL (m.most + 7) f.ext) data f) m.ds).2.L.length
                 rw [u1, h.b.ll]; exact r5.symm
                sl := by
                 show (DS.run (putC m.most T2 (secL (m.most + 7) f.ext) data f) m.ds).2.S.length ≤ _
                 have : (DS.run (putC m.most T2 (secL (m.most + 7) f.ext) data f) m.ds).2.S = [] := r4
                 rw [this]; simp }
         cut := r2
         on := r3
         syn := r4
         up := h.up
         good := fun g hg => by
           rcases putF_mem hg with rfl | ⟨hg, _⟩
           ·exact p1
           ·exact h.good g hg
         names := putF_nodup h.names
         entries := hent
         pos := fun g hg x hx => by
           rcases putF_mem hg with rfl | ⟨hg, _⟩
           ·exact (a3 x hx).1
           ·exact h.pos g hg x hx
         sum := fun g hg => by
           rcases putF_mem hg with rfl | ⟨hg, _⟩
           ·rw [a5, p5]
           ·exact h.sum g hg
         once := hU.nodup_iff.2 u2
         taken := fun j => (u3 j).trans hU.mem_iff.symm }
open Go.RowKit Go.Maps
def TakeR (T : List Bool) (k most B : Nat) (w' : World) (VA : Value) (VN : Int) (VP : ByteArray) (VE : Int) : Prop :=
 (takeS T k most = none ∧ VA = .slice none 0 0 ∧ VN = 0 ∧ VP = ⟨#[]⟩ ∧ VE = 8) ∨
 ∃ l T1 A4 c4,takeS T k most = some (l,T1) ∧ VA = .slice A4 l.length c4 ∧ VN = T1.length ∧ VP = mk (packB T1) ∧ VE = 0 ∧ Lies w' A4 (ecells l) ∧ Typed w' A4 172 ∧ ∀ g,A4 = some g → B ≤ g.block
theorem TakeR.below {T : List Bool} {k most B : Nat} {w w' : World} {VA : Value} {VN : Int} {VP : ByteArray} {VE : Int} (h : TakeR T k most B w VA VN VP VE) (hb : Below w.heap.size w w') : TakeR T k most B w' VA VN VP VE := by
 rcases h with h | ⟨l,T1,A4,c4,h0,h1,h2,h3,h4,h5,h6,h7⟩
 ·exact .inl h
 ·exact .inr ⟨l,T1,A4,c4,h0,h1,h2,h3,h4,h5.below (Nat.le_refl _) hb,h6.below hb,h7⟩
open Go.RowKit Go.Maps
def renF (f : FileM) (t : Bs) : FileM := ⟨t,f.entry,f.size,f.ext⟩
def preN (m : StoM) (name dest : Bs) : Nat × Option (List Bool × List (Nat × Bs) × List FileM) :=
 if goodF name = false ∨ goodF dest = false then (11,none) else match fileOf m.F name with
 | none => (9,none)
 | some f => if name = dest then (0,none) else match fileOf m.F dest with
  | none => (0,some (m.T,[(f.entry,entryB dest f.size f.ext)],putF (delF m.F name) (renF f dest)))
  | some g => match turnS false m.T g.ext with
   | none => (14,none)
   | some T2 => (0,some (T2,two2 f.entry (entryB dest f.size f.ext) g.entry [],putF (delF m.F name) (renF f dest)))
def RenameP (X : List Nat) (S D Lg M : Nat) (m : StoM) (p : Nat × Option (List Bool × List (Nat × Bs) × List FileM)) (w : World) (e : Ending) (w' : World) : Prop :=
 (p.2 = none → e = .returned (.int .i64 (p.1 : Nat)) ∧ Below w.heap.size w w' ∧ Sto w' X S D Lg M m) ∧
 ∀ T2 C F2,p.2 = some (T2,C,F2) → RemP X S D Lg M m T2 F2 C w e w'
theorem wpList_mapUpd {P : Program} {ops : Array Oper} {rest : List Oper} {Q : Exit → Act → World → Prop} {a : Act} {w w' : World} {o : Oper} (hg : o.guard = none) (t : TypeId) (m x v : Operand) (hop : o.op = .mapUpdate t m x v) (mv kv vv : Value)
  (hm : a.eval m = mv) (hx : a.eval x = kv) (hv : a.eval v = vv) (hrun : (Instr.mapUpdate t mv kv vv).run P w = .ok () w') (hK : wpList P ops Q rest (a.put o.dst undef) w') : wpList P ops Q (o :: rest) a w := by
 refine wpList_plain hg fun K' hK' => ?_
 unfold Oper.wp
 simp [execOp,hop,hm,hx,hv,hrun,Result.andThen]
 exact hK' _ _ hK
theorem entry_inj : ∀ {F : List FileM},(F.map (·.entry)).Nodup → ∀ {f g : FileM},f ∈ F → g ∈ F → f.entry = g.entry → f = g
 | [],_,_,_,h,_,_ => by cases h
 | a :: F,hnd,f,g,hf,hg,he => by
  rw [List.map_cons,List.nodup_cons] at hnd
  rcases List.mem_cons.1 hf with e1 | hf
  ·rcases List.mem_cons.1 hg with e2 | hg
   ·rw [e1,e2]
   ·exact absurd (show a.entry ∈ F.map (·.entry) from List.mem_map.2 ⟨g,hg,by rw [← he,e1]⟩) hnd.1
  ·rcases List.mem_cons.1 hg with e2 | hg
   ·exact absurd (show a.entry ∈ F.map (·.entry) from List.mem_map.2 ⟨f,hf,by rw [he,e2]⟩) hnd.1
   ·exact entry_inj hnd.2 hf hg he
theorem lies_grownM {w w' : World} {A : Option Addr} {xs : List Value} {e : TypeId} {r : Option Nat} (h : Lies w A xs) (ht : Typed w A e) (hg : w.grownBy w' r) (hr : ∀ g,r = some g → ∀ c fr,w.heap[g]? ≠ some (.cells c e fr)) : Lies w' A xs ∧ Typed w' A e := by
 refine ⟨fun h0 => ?_,fun a ha => ?_⟩
 ·obtain ⟨g,o,he,hl,hc⟩ := h h0
  obtain ⟨cs,fr,hh⟩ := ht _ he
  have := hg.block g hl (fun e2 => hr g e2.symm cs fr hh)
  exact ⟨g,o,he,Nat.lt_of_lt_of_le hl hg.size,fun j u hu => (World.cell?_of_block (a := ⟨g,o + j,none⟩) this).trans (hc j u hu)⟩
 ·obtain ⟨cs,fr,hh⟩ := ht a ha
  exact ⟨cs,fr,(hg.block _ (Array.getElem?_eq_some_iff.1 hh).1 (fun e2 => hr _ e2.symm cs fr hh)).trans hh⟩
set_option maxRecDepth 100000 in
set_option maxHeartbeats 4000000 in
theorem frename_any (X : List Nat) (S D Lg M : Nat) (m : StoM) (name dest : Bs) (w : World) (h : Sto w X S D Lg M m) (hb : StoB m) (h1 : m.off = false) (h2 : m.ds.off = false) (hn : name.length ≤ maxLen) (hn2 : dest.length ≤ maxLen) (hent : (m.F.map (·.entry)).Nodup) :
  Calls Tryz.prog 35 #[.pointer (some ⟨S,0,none⟩), .string (mk name), .string (mk dest)] w (RenameP X S D Lg M m (preN m name dest) w) := by
 obtain ⟨ad,hFM,hEX⟩ := h.map
 have KRD := ready_ok X S D Lg M m w h h1 h2
 have KG1 := fun w1 => good_any name w1 (by unfold maxLen at hn;omega)
 have KG2 := fun w1 => good_any dest w1 (by unfold maxLen at hn2;omega)
 have HST := Lib.hid h
 obtain ⟨P,hP⟩ : ∃ q,preN m name dest = q := ⟨_,rfl⟩
 rw [hP]
 by_cases hgg : goodF name = false ∨ goodF dest = false
 ·have HE : P = (11,none) := by rw [← hP];unfold preN;rw [if_pos hgg]
  subst HE
  obtain ⟨NM,hNM⟩ : ∃ q,mk name = q := ⟨_,rfl⟩
  obtain ⟨DM,hDM⟩ : ∃ q,mk dest = q := ⟨_,rfl⟩
  rw [hNM] at KG1 ⊢
  rw [hDM] at KG2 ⊢
  rcases hgg with hg | hg
  ·rw [hg] at KG1
   clear h hb h1 h2 hn hn2 hFM hEX hP hNM hDM hg hent KG2
   go_enter Tryz.func35,Tryz.ntmps35
   go_wp2_with (first
    | (go_at_call 77;refine KRD.mono ?_;rintro e w1 ⟨rfl,hw⟩;obtain rfl := hw.symm;clear KRD)
    | (go_at_call 78;refine (KG1 _).mono ?_;rintro e w1 ⟨rfl,hb1⟩;have HB1 := Lib.hid hb1;clear hb1 KG1))
   go_ret
   exact ⟨fun _ => ⟨rfl,HB1.out,HST.out.below HB1.out⟩,fun _ _ _ h => by cases h⟩
  ·rw [hg] at KG2
   cases hg1 : goodF name with
   | false =>
    rw [hg1] at KG1
    clear h hb h1 h2 hn hn2 hFM hEX hP hNM hDM hg hg1 hent KG2
    go_enter Tryz.func35,Tryz.ntmps35
    go_wp2_with (first
     | (go_at_call 77;refine KRD.mono ?_;rintro e w1 ⟨rfl,hw⟩;obtain rfl := hw.symm;clear KRD)
     | (go_at_call 78;refine (KG1 _).mono ?_;rintro e w1 ⟨rfl,hb1⟩;have HB1 := Lib.hid hb1;clear hb1 KG1))
    go_ret
    exact ⟨fun _ => ⟨rfl,HB1.out,HST.out.below HB1.out⟩,fun _ _ _ h => by cases h⟩
   | true =>
    rw [hg1] at KG1
    clear h hb h1 h2 hn hn2 hFM hEX hP hNM hDM hg hg1 hent
    go_enter Tryz.func35,Tryz.ntmps35
    go_wp2_with (first
     | (go_at_call 77;refine KRD.mono ?_;rintro e w1 ⟨rfl,hw⟩;obtain rfl := hw.symm;clear KRD)
     | (go_at_call 78;(with_reducible refine (KG1 _).mono ?_);rintro e w1 ⟨rfl,hb1⟩;have HB1 := Lib.hid hb1;clear hb1 KG1)
     | (go_at_call 78;(with_reducible refine (KG2 _).mono ?_);rintro e w2 ⟨rfl,hb2⟩;have HB2 := Lib.hid (HB1.out.trans (hb2.mono HB1.out.size));clear hb2 KG2))
    go_ret
    exact ⟨fun _ => ⟨rfl,HB2.out,HST.out.below HB2.out⟩,fun _ _ _ h => by cases h⟩
 have hg1 : goodF name = true := by cases hq : goodF name with
  | true => rfl
  | false => exact absurd (.inl hq) hgg
 have hg2 : goodF dest = true := by cases hq : goodF dest with
  | true => rfl
  | false => exact absurd (.inr hq) hgg
 rw [hg1] at KG1
 rw [hg2] at KG2
 have KF := fun (w1 : World) (hb1 : Below w.heap.size w w1) => find_ok X S D Lg M m ad name w1 (h.below hb1) (hFM.block (hb1.block M hFM.lt)) h1 h2 hn
 unfold preN at hP
 rw [if_neg hgg] at hP
 cases hf : fileOf m.F name with
 | none =>
  have HE : P = (9,none) := by rw [← hP,hf]
  subst HE
  have hV : findV ad m.F name = inoZ ∧ findE m.F name = 9 := by unfold findV findE;rw [if_pos hg1,if_pos hg1,hf];exact ⟨rfl,rfl⟩
  rw [hV.1,hV.2] at KF
  unfold inoZ at KF
  obtain ⟨NM,hNM⟩ : ∃ q,mk name = q := ⟨_,rfl⟩
  obtain ⟨DM,hDM⟩ : ∃ q,mk dest = q := ⟨_,rfl⟩
  rw [hNM] at KG1 KF ⊢
  rw [hDM] at KG2 ⊢
  have HKF := Lib.hid KF
  clear h hb h1 h2 hn hn2 hFM hEX hP hNM hDM hg1 hg2 hgg hent hf hV KF
  go_enter Tryz.func35,Tryz.ntmps35
  go_wp2_with (first
   | (go_at_call 77;refine KRD.mono ?_;rintro e w1 ⟨rfl,hw⟩;obtain rfl := hw.symm;clear KRD)
   | (go_at_call 78;(with_reducible refine (KG1 _).mono ?_);rintro e w1 ⟨rfl,hb1⟩;have HB1 := Lib.hid hb1;clear hb1 KG1)
   | (go_at_call 78;(with_reducible refine (KG2 _).mono ?_);rintro e w2 ⟨rfl,hb2⟩;have HB2 := Lib.hid (HB1.out.trans (hb2.mono HB1.out.size));have KF2 := HKF.out w2 HB2.out;clear hb2 KG2)
   | (go_at_call 50;refine KF2.mono ?_;rintro e w3 ⟨rfl,hb3⟩;have HB3 := Lib.hid (HB2.out.trans (hb3.mono HB2.out.size));clear hb3 KF2))
  go_ret
  have hbF := HB3.out.alloc HB3.out.size (.cells #[.int .i64 0, .int .i64 0, .slice none 0 0] 97)
  exact ⟨fun _ => ⟨rfl,hbF,HST.out.below hbF⟩,fun _ _ _ h => by cases h⟩
 | some f =>
  rw [hf] at hP
  dsimp only at hP
  have hfm := fileOf_mem hf
  have hV : findV ad m.F name = inoV ad f ∧ findE m.F name = 0 := by unfold findV findE;rw [if_pos hg1,if_pos hg1,hf];exact ⟨rfl,rfl⟩
  rw [hV.1,hV.2] at KF
  obtain ⟨hx1,hx2,hx3⟩ := hEX f hfm
  unfold inoV at KF
  obtain ⟨⟨A,c⟩,hA⟩ : ∃ q,ad f.name = q := ⟨_,rfl⟩
  rw [hA] at KF hx1 hx2 hx3
  dsimp only at KF hx1 hx2 hx3
  by_cases hnd : name = dest
  ·have HE : P = (0,none) := by rw [← hP,if_pos hnd]
   subst HE
   subst hnd
   obtain ⟨fe,hfe⟩ : ∃ q,f.entry = q := ⟨_,rfl⟩
   obtain ⟨sz,hsz⟩ : ∃ q,f.size = q := ⟨_,rfl⟩
   obtain ⟨xl,hxl⟩ : ∃ q,f.ext.length = q := ⟨_,rfl⟩
   rw [hfe,hsz,hxl] at KF
   obtain ⟨NM,hNM⟩ : ∃ q,mk name = q := ⟨_,rfl⟩
   rw [hNM] at KG1 KF KG2 ⊢
   have HKF := Lib.hid KF
   clear h hb h1 h2 hn hn2 hFM hEX hP hNM hg1 hg2 hgg hent hf hV KF hfm hx1 hx2 hx3 hA hfe hsz hxl
   go_enter Tryz.func35,Tryz.ntmps35
   go_wp2_with (first
    | (go_at_call 77;refine KRD.mono ?_;rintro e w1 ⟨rfl,hw⟩;obtain rfl := hw.symm;clear KRD)
    | (go_at_call 78;(with_reducible refine (KG1 _).mono ?_);rintro e w1 ⟨rfl,hb1⟩;have HB1 := Lib.hid hb1;clear hb1 KG1)
    | (go_at_call 78;(with_reducible refine (KG2 _).mono ?_);rintro e w2 ⟨rfl,hb2⟩;have HB2 := Lib.hid (HB1.out.trans (hb2.mono HB1.out.size));have KF2 := HKF.out w2 HB2.out;clear hb2 KG2)
    | (go_at_call 50;refine KF2.mono ?_;rintro e w3 ⟨rfl,hb3⟩;have HB3 := Lib.hid (HB2.out.trans (hb3.mono HB2.out.size));clear hb3 KF2))
   go_ret
   have hbF := HB3.out.alloc HB3.out.size (.cells #[.int .i64 (fe : Int), .int .i64 (sz : Int), .slice A xl c] 97)
   exact ⟨fun _ => ⟨rfl,hbF,HST.out.below hbF⟩,fun _ _ _ h => by cases h⟩
  rw [if_neg hnd] at hP
  have HP := Lib.hid hP
  have hfn := fileOf_name hf
  have hexb := hb.exb f hfm
  have hexl := hb.exl f hfm
  have hfe0 := hb.ent f hfm
  have hfz := hb.siz f hfm
  have htl := hb.tl
  have hbl := bodyB_len dest f.size f.ext (goodF_len hg2) hfz hexl (fun x hx => by have := hexb x hx;omega)
  have hel : (entryB dest f.size f.ext).length ≤ 512 := by unfold entryB;rw [full_length _ (by rw [List.length_append,sumB_length];omega)];omega
  have KE := fun w1 hA1 hT1 hw1 => entry_any dest f.entry f.size A c f.ext w1 hA1 (by omega) (by omega) (fun x hx => by have := hexb x hx;omega) hbl hT1 hw1
  have HEN := Lib.hid hent
  have HFM := Lib.hid (And.intro hFM hEX)
  have HND := Lib.hid hnd
  have HBB := Lib.hid hb
  have HF := Lib.hid (And.intro hf (And.intro hfm (And.intro hfn (And.intro hexb (And.intro hexl (And.intro hfe0 (And.intro hfz hel)))))))
  have HLA := Lib.hid (And.intro hx1 (And.intro hx2 hx3))
  have HNN := Lib.hid (And.intro hn hn2)
  have HSLT := Lib.hid (show ∀ x ∈ S :: M :: X,x < w.heap.size from fun x hx => by
    rcases List.mem_cons.1 hx with rfl | hx
    ·exact h.blk.lt
    ·rcases List.mem_cons.1 hx with rfl | hx
     ·exact hFM.lt
     ·exact h.dsk.lt x hx)
  have hne : (mk name).toList ≠ (mk dest).toList := by rw [mk_toList',mk_toList'];exact hnd
  obtain ⟨fe,hfe⟩ : ∃ q,f.entry = q := ⟨_,rfl⟩
  obtain ⟨sz,hsz⟩ : ∃ q,f.size = q := ⟨_,rfl⟩
  obtain ⟨xl,hxl⟩ : ∃ q,f.ext.length = q := ⟨_,rfl⟩
  obtain ⟨EB,hEB⟩ : ∃ q,entryB dest f.size f.ext = q := ⟨_,rfl⟩
  rw [hfe,hsz,hxl] at KF
  rw [hEB,hfe,hsz,hxl] at KE
  obtain ⟨ES,hES⟩ : ∃ q,mk EB = q := ⟨_,rfl⟩
  rw [hES] at KE
  obtain ⟨NM,hNM⟩ : ∃ q,mk name = q := ⟨_,rfl⟩
  obtain ⟨DM,hDM⟩ : ∃ q,mk dest = q := ⟨_,rfl⟩
  rw [hNM] at KG1 KF hne ⊢
  rw [hDM] at KG2 KE hne ⊢
  have HEB := Lib.hid (And.intro hEB hES)
  have HFE := Lib.hid (And.intro hfe (And.intro hsz hxl))
  have HNM := Lib.hid (And.intro hNM hDM)
  have HFEB := Lib.hid (show fe ≤ 1000000 by have := hb.mo;omega)
  have hne2 : (NM.toList == DM.toList) = false := beq_eq_false_iff_ne.2 hne
  have HKF := Lib.hid KF
  have HKE := Lib.hid KE
  have mixed := mixedT
  clear h hb h1 h2 hn hn2 hFM hEX hP hNM hDM hg1 hg2 hgg hent hf hV KF hfm hx1 hx2 hx3 hA hfe hsz hxl hnd hfn hexb hexl hfe0 hfz htl hbl hel KE hne hEB hES
  go_enter Tryz.func35,Tryz.ntmps35
  go_upto_region 9 with (first
    | (go_at_call 77;refine KRD.mono ?_;rintro e w1 ⟨rfl,hw⟩;obtain rfl := hw.symm;clear KRD)
    | (go_at_call 78;(with_reducible refine (KG1 _).mono ?_);rintro e w1 ⟨rfl,hb1⟩;have HB1 := Lib.hid hb1;clear hb1 KG1)
    | (go_at_call 78;(with_reducible refine (KG2 _).mono ?_);rintro e w2 ⟨rfl,hb2⟩;have HB2 := Lib.hid (HB1.out.trans (hb2.mono HB1.out.size));have KF2 := HKF.out w2 HB2.out;clear hb2 KG2)
    | (go_at_call 50;refine KF2.mono ?_;rintro e w3 ⟨rfl,hb3⟩;have HB3 := Lib.hid (HB2.out.trans (hb3.mono HB2.out.size));clear hb3 KF2))
  have hB8 := Blk.new w3 #[.int .i64 (fe : Int), .int .i64 (sz : Int), .slice A xl c] 97
  have hbw := HB3.out.alloc HB3.out.size (.cells #[.int .i64 (fe : Int), .int .i64 (sz : Int), .slice A xl c] 97)
  have hH8 := HB3.out.size
  obtain ⟨H8,hH⟩ : ∃ q,w3.heap.size = q := ⟨_,rfl⟩
  obtain ⟨W1,hW⟩ : ∃ q,w3.alloc (.cells #[.int .i64 (fe : Int), .int .i64 (sz : Int), .slice A xl c] 97) = q := ⟨_,rfl⟩
  rw [hH] at hB8 hH8
  simp only [hW] at hB8 hbw ⊢
  try simp only [hH]
  have HB8 := Lib.hid hB8
  have HBW := Lib.hid hbw
  have HH8 := Lib.hid hH8
  have HST1 := Lib.hid (HST.out.below hbw)
  have HLA1 := Lib.hid (HLA.out.1.below (Nat.le_refl _) hbw)
  clear hH hW hB8 hbw hH8
  go_cut [10] from 42 to 48 (fun s10 wx => ∃ Mc,s10 = .map (some Mc) ∧ CM wx Mc [(fe,EB)] ∧ W1.heap.size ≤ Mc ∧ Below W1.heap.size W1 wx)
  case first =>
   refine wp_region_held (S := fun w' => Below W1.heap.size W1 w') mixed ?_
   change wpAnyH _ _ _ _ _ _ _ _ W1.drew
   have hS0 : Below W1.heap.size W1 W1.drew := (Below.refl _ _).drew
   obtain ⟨W0,hW0⟩ : ∃ q,W1.drew = q := ⟨_,rfl⟩
   rw [hW0] at hS0 ⊢
   clear hW0
   have HY := Lib.hid (And.intro (HB8.out.cell 0) (And.intro (HB8.out.cell 1) (And.intro (HB8.out.cell 2) HB8.out.lt)))
   refine tkQ 1 (.pointer (some ⟨H8,0,none⟩)) rfl hS0 ?_
   try go_simp
   refine tkH 2 (.int .i64 (fe : Int)) rfl hS0 (fun w' hS => ?_) ?_
   ·have q0 := (hS.cell (p := ⟨H8,0,none⟩) HY.out.2.2.2).trans HY.out.1;simp at q0;go_simp
   try go_simp
   refine tkQ 3 (.string DM) rfl hS0 ?_
   try go_simp
   refine tkH 4 (.agg #[.int .i64 (fe : Int), .int .i64 (sz : Int), .slice A xl c]) rfl hS0 (fun w' hS => ?_) ?_
   ·have q0 := (hS.cell (p := ⟨H8,0,none⟩) HY.out.2.2.2).trans HY.out.1;have q1 := (hS.cell (p := ⟨H8,1,none⟩) HY.out.2.2.2).trans HY.out.2.1;have q2 := (hS.cell (p := ⟨H8,2,none⟩) HY.out.2.2.2).trans HY.out.2.2.1;simp at q0 q1 q2;go_simp
   try go_simp
   refine wpAnyH_all (rs := [0,5]) (by kernel_rfl) (by simp) ?_
   intro i hi
   simp only [List.mem_cons,List.not_mem_nil,or_false] at hi
   rcases hi with rfl | rfl
   ·unfold wpOp
    have hmm := @run_makeMap Tryz.prog
    go_simp
    clear hmm
    have hcm := CM.made W0
    have hge : W1.heap.size ≤ W0.heap.size := hS0.size
    have hS1 := hS0.alloc hS0.size (.map #[] 0)
    obtain ⟨Mc,hMc⟩ : ∃ q,W0.heap.size = q := ⟨_,rfl⟩
    rw [hMc] at hcm hge
    obtain ⟨W2,hW2⟩ : ∃ q,W0.alloc (.map #[] 0) = q := ⟨_,rfl⟩
    rw [hW2] at hcm hS1 ⊢
    try rw [hMc]
    clear hW2 hMc hS0
    first | refine .inl ⟨hS1, ?_⟩ | refine ⟨hS1, ?_⟩
    refine alH 5 ?_
    unfold wpOp
    go_simp
    refine .inl ?_
    go_at_call 79
    refine (HKE.out W2 (HLA1.out.below (Nat.le_refl _) hS1) ((HST1.out.below hS1).tb) ((HST1.out.below hS1).pos)).mono ?_
    rintro e W3 ⟨rfl,hbe⟩
    have hS2 := hS1.trans (hbe.mono hS1.size)
    have hcm2 := hcm.block (hbe.block Mc hcm.lt)
    refine ⟨hS2, ?_⟩
    try go_simp
    clear hS1 hcm hbe
    obtain ⟨W4,hrun4,hcm4,hg4⟩ := hcm2.one fe EB HFEB.out
    rw [HEB.out.2] at hrun4
    have hS4 := hS2.grown hg4 hS2.size (fun g e => by cases e;exact hge)
    refine alH 6 ?_
    refine wpOp_insert rfl rfl 148 (.tmp 42) (.tmp 44) (.tmp 47) rfl _ _ _ (by rfl) (by rfl) (by rfl) hrun4 ?_
    refine ⟨hS4, ?_⟩
    clear hrun4 hS2 hcm2
    refine tkQ 7 (.map (some Mc)) rfl hS4 ?_
    try go_simp
    refine tkQ 8 (.map (some Mc)) rfl hS4 ?_
    try go_simp
    refine wpAnyH_done (by kernel_rfl) ?_ _
    go_wp2_with fail
    go_meet
    exact ⟨Mc,rfl,hcm4,hge,hS4⟩
   ·unfold wpOp
    go_simp
    refine .inl ?_
    go_at_call 79
    refine (HKE.out W0 (HLA1.out.below (Nat.le_refl _) hS0) ((HST1.out.below hS0).tb) ((HST1.out.below hS0).pos)).mono ?_
    rintro e W2 ⟨rfl,hbe⟩
    have hS1 := hS0.trans (hbe.mono hS0.size)
    refine ⟨hS1, ?_⟩
    try go_simp
    clear hS0 hbe
    refine alH 0 ?_
    unfold wpOp
    have hmm := @run_makeMap Tryz.prog
    go_simp
    clear hmm
    have hcm2 := CM.made W2
    have hge : W1.heap.size ≤ W2.heap.size := hS1.size
    have hS2 := hS1.alloc hS1.size (.map #[] 0)
    obtain ⟨Mc,hMc⟩ : ∃ q,W2.heap.size = q := ⟨_,rfl⟩
    rw [hMc] at hcm2 hge
    obtain ⟨W3,hW3⟩ : ∃ q,W2.alloc (.map #[] 0) = q := ⟨_,rfl⟩
    rw [hW3] at hcm2 hS2 ⊢
    try rw [hMc]
    clear hW3 hMc hS1
    first | refine .inl ⟨hS2, ?_⟩ | refine ⟨hS2, ?_⟩
    obtain ⟨W4,hrun4,hcm4,hg4⟩ := hcm2.one fe EB HFEB.out
    rw [HEB.out.2] at hrun4
    have hS4 := hS2.grown hg4 hS2.size (fun g e => by cases e;exact hge)
    refine alH 6 ?_
    refine wpOp_insert rfl rfl 148 (.tmp 42) (.tmp 44) (.tmp 47) rfl _ _ _ (by rfl) (by rfl) (by rfl) hrun4 ?_
    refine ⟨hS4, ?_⟩
    clear hrun4 hS2 hcm2
    refine tkQ 7 (.map (some Mc)) rfl hS4 ?_
    try go_simp
    refine tkQ 8 (.map (some Mc)) rfl hS4 ?_
    try go_simp
    refine wpAnyH_done (by kernel_rfl) ?_ _
    go_wp2_with fail
    go_meet
    exact ⟨Mc,rfl,hcm4,hge,hS4⟩
  case rest =>
   rename World => wx
   obtain ⟨Mc,rfl,hcm,hge,hbx⟩ := hcut
   have hstx := HST1.out.below hbx
   have y2 := hstx.blk.cell 2
   have y3 := hstx.blk.cell 3
   simp only [stoCells] at y2 y3
   simp at y2 y3
   have hSl := hstx.blk.lt
   obtain ⟨tl,htl⟩ : ∃ q,m.T.length = q := ⟨_,rfl⟩
   obtain ⟨PB,hPB⟩ : ∃ q,mk (packB m.T) = q := ⟨_,rfl⟩
   rw [htl] at y2
   rw [hPB] at y3
   have HTL := Lib.hid (And.intro htl hPB)
   have HX := Lib.hid (And.intro hcm (And.intro hge hbx))
   have HSTX := Lib.hid hstx
   clear hcm hge hbx hstx htl hPB
   go_upto_region 11 with (fail)
   have hB11 := Blk.new wx #[.int .i64 (tl : Int), .string PB] 104
   have hb3 := HX.out.2.2.alloc HX.out.2.2.size (.cells #[.int .i64 (tl : Int), .string PB] 104)
   have hst3 := HSTX.out.below (below_alloc wx (.cells #[.int .i64 (tl : Int), .string PB] 104))
   have hcm3 := HX.out.1.block ((below_alloc wx (.cells #[.int .i64 (tl : Int), .string PB] 104)).block Mc HX.out.1.lt)
   have hge11 : W1.heap.size ≤ wx.heap.size := HX.out.2.2.size
   have hMc11 : Mc < wx.heap.size := HX.out.1.lt
   obtain ⟨H11,hH11⟩ : ∃ q,wx.heap.size = q := ⟨_,rfl⟩
   rw [hH11] at hB11 hge11 hMc11
   obtain ⟨W3,hW3⟩ : ∃ q,wx.alloc (.cells #[.int .i64 (tl : Int), .string PB] 104) = q := ⟨_,rfl⟩
   simp only [hW3] at hB11 hb3 hst3 hcm3 ⊢
   try simp only [hH11]
   have HW3 := Lib.hid (And.intro hB11 (And.intro hb3 (And.intro hst3 (And.intro hcm3 (And.intro hge11 hMc11)))))
   obtain ⟨ad3,hFM3,hEX3⟩ := hst3.map
   have hlk := hFM3.look dest HNN.out.2
   rw [HNM.out.2] at hlk
   have z4 := hst3.blk.cell 4
   simp at z4
   have hSl3 := hst3.blk.lt
   have HEX3 := Lib.hid hEX3
   have HP2 := HP.out
   clear hB11 hb3 hst3 hcm3 hge11 hMc11 hW3 hH11 hFM3 hEX3 y2 y3 hSl
   cases hg : fileOf m.F dest with
   | none =>
    rw [hg] at hlk HP2
    simp only [Option.map_none,Option.getD_none,Option.isSome_none] at hlk
    unfold inoZ at hlk
    dsimp only at HP2
    subst HP2
    have HC := Lib.hid (show m.T.length = m.T.length ∧ [(fe,EB)].length ≤ 2 ∧ ∀ q ∈ [(fe,EB)],q.1 < m.most ∧ q.2.length ≤ 512 from ⟨rfl,by simp,fun q hq => by
     have : q = (fe,EB) := by simpa using hq
     subst this
     exact ⟨by rw [← HFE.out.1];exact HF.out.2.2.2.2.2.1,by rw [← HEB.out.1];exact HF.out.2.2.2.2.2.2.2⟩⟩)
    clear hg HP
    go_upto_region 17 with (fail)
    have hb5 := HW3.out.2.1.alloc HW3.out.2.1.size (.cells #[.int .i64 0, .int .i64 0, .slice none 0 0] 97)
    have hb35 := below_alloc W3 (.cells #[.int .i64 0, .int .i64 0, .slice none 0 0] 97)
    obtain ⟨W5,hW5⟩ : ∃ q,W3.alloc (.cells #[.int .i64 0, .int .i64 0, .slice none 0 0] 97) = q := ⟨_,rfl⟩
    rw [hW5] at hb5 hb35 ⊢
    obtain ⟨T2,hT2⟩ : ∃ T2 : List Bool,T2 = m.T := ⟨_,rfl⟩
    obtain ⟨C,hC⟩ : ∃ C : List (Nat × Bs),C = [(f.entry,entryB dest f.size f.ext)] := ⟨_,rfl⟩
    have HRP := Lib.hid (show ∀ e w',RemP X S D Lg M m T2 (putF (delF m.F name) (renF f dest)) C w e w' → RenameP X S D Lg M m (0,some (m.T,[(f.entry,entryB dest f.size f.ext)],putF (delF m.F name) (renF f dest))) w e w' from fun e w' hr => ⟨fun h => by (cases h),fun T3 C3 F3 h => by
     cases h
     rw [← hT2, ← hC]
     exact hr⟩)
    have hC2 : C = [(fe,EB)] := by rw [hC,HFE.out.1,HEB.out.1]
    have HT2L := Lib.hid (show T2.length = tl ∧ mk (packB T2) = PB by rw [hT2];exact HTL.out)
    have HT17 := Lib.hid (show Blk W5 H8 #[.int .i64 (fe : Int), .int .i64 (sz : Int), .slice A xl c] 97 ∧ Blk W5 H11 #[.int .i64 (tl : Int), .string PB] 104 ∧ Below w.heap.size w W5 ∧ CM W5 Mc C from
     ⟨HB8.out.below hb5,HW3.out.1.below hb35,HBW.out.trans (hb5.mono HBW.out.size),by rw [hC2];exact HW3.out.2.2.2.1.block (hb35.block Mc HW3.out.2.2.2.1.lt)⟩)
    replace HC := Lib.hid (show T2.length = m.T.length ∧ C.length ≤ 2 ∧ ∀ q ∈ C,q.1 < m.most ∧ q.2.length ≤ 512 by rw [hT2,hC2];exact HC.out)
    clear hb5 hb35 hW5 hT2 hC hC2
    have hst5 := HST.out.below HT17.out.2.2.1
    have KST := settle_any X S D Lg M Mc m T2 C W5 hst5 HT17.out.2.2.2 HC.out.1 (by rw [HC.out.1];exact HBB.out.tl) HC.out.2.1 HC.out.2.2 HBB.out.mo (by have := HBB.out.ll;omega) (by have := HBB.out.sl;omega)
    unfold SetP spv at KST
    rw [HT2L.out.1,HT2L.out.2] at KST
    have hn2 := run_num (settleC m.most T2 C) m.ds
    obtain ⟨r2,hr2⟩ : ∃ q,DS.run (settleC m.most T2 C) m.ds = q := ⟨_,rfl⟩
    have HR2 := Lib.hid hr2
    rw [hr2] at hn2 KST
    obtain ⟨n2,d2⟩ := r2
    dsimp only at hn2 KST
    have hx5 := HT17.out.1
    have hA5 := HLA.out.1.below (Nat.le_refl _) HT17.out.2.2.1
    have hAT5 := HLA.out.2.1.below HT17.out.2.2.1
    have hAX5 : ∀ a,A = some a → a.block ∉ S :: X := fun a ha hx => by
     rcases List.mem_cons.1 hx with e | e
     ·obtain ⟨cs,fr,hc⟩ := HLA.out.2.1 a ha
      have hb := HST.out.blk
      unfold Blk at hb
      rw [e,hb] at hc
      simp at hc
     ·exact HLA.out.2.2 a ha e
    have HA5 := Lib.hid (And.intro hA5 (And.intro hAT5 hAX5))
    have hH8X : H8 ∉ S :: X := fun hx => by
     have q1 := HH8.out
     rcases List.mem_cons.1 hx with e | e
     ·have := HSLT.out S (by simp);omega
     ·have := HSLT.out H8 (by simp [e]);omega
    have HH8X := Lib.hid hH8X
    have g0 := HT17.out.2.1.cell 0
    have g1 := HT17.out.2.1.cell 1
    simp at g0 g1
    have l11 := HT17.out.2.1.lt
    clear hst5 hr2 hx5 hA5 hAT5 hAX5 hH8X
    rcases hn2 with rfl | rfl
    case inr =>
     go_wp2_with (first
      | (go_at_call 80;(with_reducible refine KST.mono ?_);rintro e W6 ⟨rfl,X2,hM6,hS0,hS7⟩;have HF := Lib.hid (And.intro (hS7 (by decide)) (((Mv.of_below (S :: X) HT17.out.2.2.1).trans hM6).cons2 M));clear hM6 hS0 hS7 KST))
     go_ret
     refine HRP.out _ _ ?_
     unfold RemP
     rw [HR2.out]
     exact ⟨rfl,X2,HF.out.2,by first | exact HF.out.1 | exact ⟨(fun h => by cases h),fun _ => HF.out.1⟩ | exact ⟨fun _ => HF.out.1,fun h => absurd rfl h⟩⟩
    go_upto_region 20 with (first
      | (go_at_call 80;(with_reducible refine KST.mono ?_);rintro e W6 ⟨rfl,X2,hM6,hS0,hS7⟩;have HF6 := Lib.hid (And.intro (hS0 rfl) hM6);clear hM6 hS0 hS7 KST))
    obtain ⟨ad6,hFM6,hEX6⟩ := HF6.out.1.map
    obtain ⟨W7,hrun7,hFM7,hg7⟩ := hFM6.drop name HNN.out.1 0
    rw [HNM.out.1] at hrun7
    have hne7 : ∀ g,some M = some g → ∀ c fr,W6.heap[g]? ≠ some (.cells c 172 fr) := fun g e c fr hc => by cases e;exact (hFM6.not_cells hc) rfl
    have hEX7 := (hEX6.grown hg7 hne7).sub (G := delF m.F name) (fun g hg => (List.mem_filter.1 hg).1)
    have hst7 := HF6.out.1.store hg7 hFM7 hEX7
    have hA6 := HF6.out.2.lies HA5.out.1 HA5.out.2.2
    have hAT6 := HA5.out.2.1.frm HF6.out.2.frm HA5.out.2.2
    have hAX6 : ∀ a,A = some a → a.block ∉ X2 := fun a ha hx => by
     obtain ⟨cs,fr,hc⟩ := HA5.out.2.1 a ha
     exact HF6.out.2.apart (HA5.out.2.2 a ha) (Array.getElem?_eq_some_iff.1 hc).1 (List.mem_cons_of_mem _ hx)
    obtain ⟨hA7,hAT7⟩ := lies_grownM hA6 hAT6 hg7 hne7
    have x4 := HF6.out.1.blk.cell 4
    simp at x4
    have s5 := HF6.out.1.blk.lt
    have hB86 := HF6.out.2.blk HT17.out.1 HH8X.out
    have hB87 := hB86.grown hg7 (fun e => (hFM6.not_cells hB86) (by cases e;rfl))
    have y4 := hst7.blk.cell 4
    simp at y4
    have HW7 := Lib.hid (And.intro hst7 (And.intro (((Mv.of_below (S :: X) HT17.out.2.2.1).trans HF6.out.2).cons2 M) (And.intro hg7 (And.intro hA7 (And.intro hAT7 (And.intro hAX6 (And.intro hB87 y4)))))))
    clear hFM6 hEX6 hFM7 hg7 hne7 hEX7 hst7 hA6 hAT6 hAX6 hA7 hAT7 hB86 hB87 y4 g0 g1 l11
    go_upto_region 21 with (fail)
    obtain ⟨ad7,hFM7,hEX7⟩ := HW7.out.1.map
    have hFM7' : FM W7.drew M ad7 (delF m.F name) := hFM7
    obtain ⟨W8,hrun8,hFM8,hg8'⟩ := hFM7'.store (renF f dest) A c (Nat.lt_of_le_of_lt (Nat.le_trans (List.length_filter_le ..) HBB.out.len) (by unfold maxLen;omega)) HNN.out.2
    have hg8 : W7.grownBy W8 (some M) := ⟨hg8'.os,hg8'.tape,hg8'.output,hg8'.size,hg8'.block⟩
    have hrun8b := hrun8
    unfold renF at hrun8b
    dsimp only at hrun8b
    rw [HNM.out.2,HFE.out.1,HFE.out.2.1,HFE.out.2.2] at hrun8b
    have hne8 : ∀ g,some M = some g → ∀ c fr,W7.heap[g]? ≠ some (.cells c 172 fr) := fun g e c fr hc => by cases e;exact (hFM7.not_cells hc) rfl
    have hE8 := (hEX7.grown hg8 hne8).put (f := renF f dest) (c := c) (lies_grownM HW7.out.2.2.2.1 HW7.out.2.2.2.2.1 hg8 hne8).1 (lies_grownM HW7.out.2.2.2.1 HW7.out.2.2.2.2.1 hg8 hne8).2 HW7.out.2.2.2.2.2.1
    have hst8 := HW7.out.1.store hg8 hFM8 hE8
    have HF := Lib.hid (And.intro hst8 ((HW7.out.2.1.trans (Mv.of_grown HW7.out.2.2.1 (by simp))).trans (Mv.of_grown hg8 (by simp))))
    have HRUN8 := Lib.hid hrun8b
    have hS9 : W8.cell? ⟨S,4,none⟩ = some (.map (some M)) ∧ Blk W8 H8 #[.int .i64 (fe : Int), .int .i64 (sz : Int), .slice A xl c] 97 :=
     ⟨(World.cell?_of_block (a := ⟨S,4,none⟩) (hg8.block S HW7.out.1.blk.lt (fun e => HW7.out.1.ne.2.1 (by cases e;rfl)))).trans HW7.out.2.2.2.2.2.2.2,HW7.out.2.2.2.2.2.2.1.grown hg8 (fun e => (hFM7.not_cells HW7.out.2.2.2.2.2.2.1) (by cases e;rfl))⟩
    clear hFM7 hEX7 hFM7' hrun8 hrun8b hFM8 hg8 hg8' hne8 hE8 hst8
    refine wp_region_held (S := fun w' => w'.cell? ⟨S,4,none⟩ = some (.map (some M)) ∧ Blk w' H8 #[.int .i64 (fe : Int), .int .i64 (sz : Int), .slice A xl c] 97) mixed ?_
    change wpAnyH _ _ _ _ _ _ _ _ W7.drew
    have hS8 : W7.drew.cell? ⟨S,4,none⟩ = some (.map (some M)) ∧ Blk W7.drew H8 #[.int .i64 (fe : Int), .int .i64 (sz : Int), .slice A xl c] 97 := ⟨HW7.out.2.2.2.2.2.2.2,HW7.out.2.2.2.2.2.2.1⟩
    refine tkQ 0 (.pointer (some ⟨S,0,none⟩)) rfl hS8 ?_
    try go_simp
    refine tkQ 1 (.pointer (some ⟨S,0,none⟩)) rfl hS8 ?_
    try go_simp
    refine tkQ 2 (.pointer (some ⟨S,4,none⟩)) rfl hS8 ?_
    try go_simp
    refine tkH 3 (.map (some M)) rfl hS8 (fun w' hS => ?_) ?_
    ·have q0 := hS.1;go_simp
    try go_simp
    refine tkQ 4 (.string DM) rfl hS8 ?_
    try go_simp
    refine tkH 5 (.agg #[.int .i64 (fe : Int), .int .i64 (sz : Int), .slice A xl c]) rfl hS8 (fun w' hS => ?_) ?_
    ·have q0 := hS.2.cell 0;have q1 := hS.2.cell 1;have q2 := hS.2.cell 2;simp at q0 q1 q2;go_simp
    try go_simp
    refine alH 6 ?_
    refine wpOp_mapUpdate rfl rfl 105 (.tmp 90) (.tmp 91) (.tmp 92) rfl _ _ _ (by rfl) (by rfl) (by rfl) HRUN8.out ?_
    refine ⟨hS9, ?_⟩
    refine wpAnyH_done (by kernel_rfl) ?_ _
    clear hS8 hS9
    go_wp2
    go_ret
    refine HRP.out _ _ ?_
    unfold RemP
    rw [HR2.out]
    exact ⟨rfl,X2,HF.out.2,by first | exact HF.out.1 | exact ⟨(fun h => by cases h),fun _ => HF.out.1⟩ | exact ⟨fun _ => HF.out.1,fun h => absurd rfl h⟩⟩
   | some g =>
    rw [hg] at hlk HP2
    simp only [Option.map_some,Option.getD_some,Option.isSome_some] at hlk
    have hgm := fileOf_mem hg
    have hgn := fileOf_name hg
    have hexg := HEX3.out g hgm
    unfold inoV at hlk
    obtain ⟨⟨A9,c9⟩,hA9⟩ : ∃ q,ad3 g.name = q := ⟨_,rfl⟩
    rw [hA9] at hlk hexg
    dsimp only at hlk hexg HP2
    have hne : g.entry ≠ f.entry := fun e => by
     have := entry_inj HEN.out hgm HF.out.2.1 e
     subst this
     have q1 := HF.out.2.2.1
     exact HND.out (q1.symm.trans hgn)
    have KG := fun (w5 : World) (hL : Lies w5 A9 (ecells g.ext)) => give_any m.T g.ext A9 c9 w5 HBB.out.tl hL (fun x hx => by have := HBB.out.exb g hgm x hx;have := HBB.out.tl;omega) (by have := HBB.out.exl g hgm;omega)
    obtain ⟨tn,PBn,en,hRf⟩ := turnV_form (turnS false m.T g.ext)
    have HRF := Lib.hid hRf
    rw [hRf] at KG
    unfold spv at KG
    rw [HTL.out.1,HTL.out.2] at KG
    have HGE := Lib.hid (show g.entry < m.most ∧ g.entry ≤ 1000000 by have := HBB.out.ent g hgm;have := HBB.out.mo;omega)
    obtain ⟨ge,hge⟩ : ∃ q,g.entry = q := ⟨_,rfl⟩
    obtain ⟨gs,hgs⟩ : ∃ q,g.size = q := ⟨_,rfl⟩
    obtain ⟨gl,hgl⟩ : ∃ q,g.ext.length = q := ⟨_,rfl⟩
    rw [hge,hgs,hgl] at hlk
    rw [hgl] at KG
    rw [hge] at hne HGE
    rw [HFE.out.1] at hne
    have HGL := Lib.hid (And.intro hne (And.intro hge hgl))
    have HLG := Lib.hid (And.intro hexg.1 hexg.2.1)
    have HP3 := Lib.hid HP2
    clear hg HP HP2 hgm hgn hexg hA9 hne hRf hge hgs hgl
    go_upto_region 13 with (fail)
    have hB12 := Blk.new W3 #[.int .i64 (ge : Int), .int .i64 (gs : Int), .slice A9 gl c9] 97
    have hb34 := below_alloc W3 (.cells #[.int .i64 (ge : Int), .int .i64 (gs : Int), .slice A9 gl c9] 97)
    have hcm4 := HW3.out.2.2.2.1.block (hb34.block Mc HW3.out.2.2.2.1.lt)
    have hB114 := HW3.out.1.below hb34
    have hLG4 := HLG.out.1.below (Nat.le_refl _) hb34
    have hTG4 := HLG.out.2.below hb34
    have hlt12 := HW3.out.1.lt
    obtain ⟨H12,hH12⟩ : ∃ q,W3.heap.size = q := ⟨_,rfl⟩
    rw [hH12] at hB12 hlt12
    have hge12 : W1.heap.size ≤ H12 := by have := HW3.out.2.1.size;omega
    obtain ⟨W4,hW4⟩ : ∃ q,W3.alloc (.cells #[.int .i64 (ge : Int), .int .i64 (gs : Int), .slice A9 gl c9] 97) = q := ⟨_,rfl⟩
    rw [hW4] at hB12 hb34 hcm4 hB114 hLG4 hTG4 ⊢
    try rw [hH12]
    obtain ⟨W5,hrun5,hcm5,hg5⟩ := CM.two fe ge EB [] hcm4 HGE.out.2 (Ne.symm HGL.out.1)
    rw [show mk [] = ⟨#[]⟩ from rfl] at hrun5
    have hnM : ∀ {b : Nat} {cs : Array Value} {t : TypeId},Blk W4 b cs t → some Mc ≠ some b := fun {b cs t} hb e => by cases e;exact hcm4.not_cells hb rfl
    have hB125 := hB12.grown hg5 (hnM hB12)
    have hB115 := hB114.grown hg5 (hnM hB114)
    obtain ⟨hLG5,hTG5⟩ := lies_grownM hLG4 hTG4 hg5 (fun g e c fr hc => by cases e;exact hcm4.not_cells hc rfl)
    have hb15 : Below W1.heap.size W1 W5 := (HW3.out.2.1.trans (hb34.mono HW3.out.2.1.size)).grown hg5 (Nat.le_trans HW3.out.2.1.size hb34.size) (fun g e => by cases e;exact HX.out.2.1)
    have w0 := hB12.cell 0
    have w0l := hB12.lt
    have v0 := hB115.cell 0
    have v1 := hB115.cell 1
    have v2 := hB125.cell 2
    simp at w0 v0 v1 v2
    have vl := hB115.lt
    have vl2 := hB125.lt
    have KG5 := KG W5 hLG5
    have HW5 := Lib.hid (And.intro hB125 (And.intro hB115 (And.intro hcm5 hb15)))
    have HRUN5 := Lib.hid hrun5
    clear hB12 hb34 hcm4 hB114 hLG4 hTG4 hW4 hH12 hnM hB125 hB115 hLG5 hTG5 hb15 hcm5 hg5 hrun5 KG hlk
    go_upto_region 15 with (first
     | (refine wpList_mapUpd rfl 148 (.tmp 63) (.tmp 65) (.const (.string ⟨#[]⟩)) rfl _ _ _ (by rfl) (by rfl) (by rfl) HRUN5.out ?_)
     | (go_at_call 54;(with_reducible refine KG5.mono ?_);rintro e W6 ⟨rfl,hb6⟩;have hB116 := HW5.out.2.1.below hb6;have q0 := hB116.frozen 0;have q1 := hB116.frozen 1;have u0 := hB116.cell 0;have u1 := hB116.cell 1;simp at u0 u1;have ul := hB116.lt;have HW6 := Lib.hid (And.intro hB116 hb6);clear hB116 hb6 KG5))
    have hB117 := (HW6.out.1.set 0 (.int .i64 tn)).set 1 (.string PBn)
    have hg7 := grown_set2 W6 H11 0 1 (.int .i64 tn) (.string PBn)
    have hb16 := HW5.out.2.2.2.trans (HW6.out.2.mono HW5.out.2.2.2.size)
    have hb17 := below_set (below_set hb16 H11 0 (.int .i64 tn) HW3.out.2.2.2.2.1) H11 1 (.string PBn) HW3.out.2.2.2.2.1
    have hcm6 := HW5.out.2.2.1.block (HW6.out.2.block Mc HW5.out.2.2.1.lt)
    have hcm7 := hcm6.block (hg7.block Mc hcm6.lt (fun e => by cases e;exact hcm6.not_cells HW6.out.1 rfl))
    have hb7 := HBW.out.trans (hb17.mono HBW.out.size)
    obtain ⟨W7,hW7⟩ : ∃ q,(W6.setCell ⟨H11,0,none⟩ (.int .i64 tn)).setCell ⟨H11,1,none⟩ (.string PBn) = q := ⟨_,rfl⟩
    rw [hW7] at hB117 hb17 hcm7 hb7 ⊢
    have HW7 := Lib.hid (And.intro hB117 (And.intro hb17 (And.intro hcm7 hb7)))
    clear hB117 hg7 hb16 hb17 hcm6 hcm7 hb7 hW7 w0 w0l v0 v1 v2 vl vl2 q0 q1 u0 u1 ul z4 hSl3
    cases htn : turnS false m.T g.ext with
    | none =>
     have hq := HRF.out
     rw [htn] at hq
     unfold turnV at hq
     simp only [Value.tuple.injEq,Array.mk.injEq,List.cons.injEq,Value.agg.injEq,Value.int.injEq,Value.string.injEq,true_and,and_true] at hq
     obtain ⟨⟨rfl,rfl⟩,rfl⟩ := hq
     have HE : P = (14,none) := by rw [← HP3.out,htn]
     subst HE
     clear htn
     go_wp2
     go_ret
     exact ⟨fun _ => ⟨rfl,HW7.out.2.2.2,HST.out.below HW7.out.2.2.2⟩,fun _ _ _ h => by cases h⟩
    | some T2 =>
     have hq := HRF.out
     rw [htn] at hq
     unfold turnV spv at hq
     simp only [Value.tuple.injEq,Array.mk.injEq,List.cons.injEq,Value.agg.injEq,Value.int.injEq,Value.string.injEq,true_and,and_true] at hq
     obtain ⟨⟨rfl,rfl⟩,rfl⟩ := hq
     have HE : P = (0,some (T2,two2 f.entry (entryB dest f.size f.ext) g.entry [],putF (delF m.F name) (renF f dest))) := by rw [← HP3.out,htn]
     subst HE
     have hT2 := turnS_len _ _ _ _ htn
     obtain ⟨t2,ht2⟩ : ∃ q,T2.length = q := ⟨_,rfl⟩
     obtain ⟨PB2,hPB2⟩ : ∃ q,mk (packB T2) = q := ⟨_,rfl⟩
     rw [ht2,hPB2] at HW7
     obtain ⟨C,hC⟩ : ∃ C,C = two2 f.entry (entryB dest f.size f.ext) g.entry [] := ⟨_,rfl⟩
     have hC2 : C = two2 fe EB ge [] := by rw [hC,HFE.out.1,HEB.out.1,HGL.out.2.1]
     have HRP := Lib.hid (show ∀ e w',RemP X S D Lg M m T2 (putF (delF m.F name) (renF f dest)) C w e w' → RenameP X S D Lg M m (0,some (T2,two2 f.entry (entryB dest f.size f.ext) g.entry [],putF (delF m.F name) (renF f dest))) w e w' from fun e w' hr => ⟨fun h => by (cases h),fun T3 C3 F3 h => by
      cases h
      rw [← hC]
      exact hr⟩)
     have HT2L := Lib.hid (And.intro ht2 hPB2)
     have HT17 := Lib.hid (show Blk W7 H8 #[.int .i64 (fe : Int), .int .i64 (sz : Int), .slice A xl c] 97 ∧ Blk W7 H11 #[.int .i64 (t2 : Int), .string PB2] 104 ∧ Below w.heap.size w W7 ∧ CM W7 Mc C from
      ⟨HB8.out.below HW7.out.2.1,HW7.out.1,HW7.out.2.2.2,by rw [hC2];exact HW7.out.2.2.1⟩)
     have HC := Lib.hid (show T2.length = m.T.length ∧ C.length ≤ 2 ∧ ∀ q ∈ C,q.1 < m.most ∧ q.2.length ≤ 512 from ⟨hT2,by rw [hC2];unfold two2;split <;> simp,fun q hq => by
      rw [hC2] at hq
      have : q = (fe,EB) ∨ q = (ge,[]) := by
       unfold two2 at hq
       split at hq <;> simp at hq <;> rcases hq with h | h <;> simp [h]
      rcases this with rfl | rfl
      ·exact ⟨by rw [← HFE.out.1];exact HF.out.2.2.2.2.2.1,by rw [← HEB.out.1];exact HF.out.2.2.2.2.2.2.2⟩
      ·exact ⟨HGE.out.1,by simp⟩⟩)
     clear htn hT2 ht2 hPB2 hC hC2
     obtain ⟨W5,hW5⟩ : ∃ q,W7 = q := ⟨_,rfl⟩
     rw [hW5] at HT17 ⊢
     clear hW5 HW7 HW6
     go_upto_region 17 with (fail)
     have hst5 := HST.out.below HT17.out.2.2.1
     have KST := settle_any X S D Lg M Mc m T2 C W5 hst5 HT17.out.2.2.2 HC.out.1 (by rw [HC.out.1];exact HBB.out.tl) HC.out.2.1 HC.out.2.2 HBB.out.mo (by have := HBB.out.ll;omega) (by have := HBB.out.sl;omega)
     unfold SetP spv at KST
     rw [HT2L.out.1,HT2L.out.2] at KST
     have hn2 := run_num (settleC m.most T2 C) m.ds
     obtain ⟨r2,hr2⟩ : ∃ q,DS.run (settleC m.most T2 C) m.ds = q := ⟨_,rfl⟩
     have HR2 := Lib.hid hr2
     rw [hr2] at hn2 KST
     obtain ⟨n2,d2⟩ := r2
     dsimp only at hn2 KST
     have hx5 := HT17.out.1
     have hA5 := HLA.out.1.below (Nat.le_refl _) HT17.out.2.2.1
     have hAT5 := HLA.out.2.1.below HT17.out.2.2.1
     have hAX5 : ∀ a,A = some a → a.block ∉ S :: X := fun a ha hx => by
      rcases List.mem_cons.1 hx with e | e
      ·obtain ⟨cs,fr,hc⟩ := HLA.out.2.1 a ha
       have hb := HST.out.blk
       unfold Blk at hb
       rw [e,hb] at hc
       simp at hc
      ·exact HLA.out.2.2 a ha e
     have HA5 := Lib.hid (And.intro hA5 (And.intro hAT5 hAX5))
     have hH8X : H8 ∉ S :: X := fun hx => by
      have q1 := HH8.out
      rcases List.mem_cons.1 hx with e | e
      ·have := HSLT.out S (by simp);omega
      ·have := HSLT.out H8 (by simp [e]);omega
     have HH8X := Lib.hid hH8X
     have g0 := HT17.out.2.1.cell 0
     have g1 := HT17.out.2.1.cell 1
     simp at g0 g1
     have l11 := HT17.out.2.1.lt
     clear hst5 hr2 hx5 hA5 hAT5 hAX5 hH8X
     rcases hn2 with rfl | rfl
     case inr =>
      go_wp2_with (first
       | (go_at_call 80;(with_reducible refine KST.mono ?_);rintro e W6 ⟨rfl,X2,hM6,hS0,hS7⟩;have HF := Lib.hid (And.intro (hS7 (by decide)) (((Mv.of_below (S :: X) HT17.out.2.2.1).trans hM6).cons2 M));clear hM6 hS0 hS7 KST))
      go_ret
      refine HRP.out _ _ ?_
      unfold RemP
      rw [HR2.out]
      exact ⟨rfl,X2,HF.out.2,by first | exact HF.out.1 | exact ⟨(fun h => by cases h),fun _ => HF.out.1⟩ | exact ⟨fun _ => HF.out.1,fun h => absurd rfl h⟩⟩
     go_upto_region 20 with (first
       | (go_at_call 80;(with_reducible refine KST.mono ?_);rintro e W6 ⟨rfl,X2,hM6,hS0,hS7⟩;have HF6 := Lib.hid (And.intro (hS0 rfl) hM6);clear hM6 hS0 hS7 KST))
     obtain ⟨ad6,hFM6,hEX6⟩ := HF6.out.1.map
     obtain ⟨W7,hrun7,hFM7,hg7⟩ := hFM6.drop name HNN.out.1 0
     rw [HNM.out.1] at hrun7
     have hne7 : ∀ g,some M = some g → ∀ c fr,W6.heap[g]? ≠ some (.cells c 172 fr) := fun g e c fr hc => by cases e;exact (hFM6.not_cells hc) rfl
     have hEX7 := (hEX6.grown hg7 hne7).sub (G := delF m.F name) (fun g hg => (List.mem_filter.1 hg).1)
     have hst7 := HF6.out.1.store hg7 hFM7 hEX7
     have hA6 := HF6.out.2.lies HA5.out.1 HA5.out.2.2
     have hAT6 := HA5.out.2.1.frm HF6.out.2.frm HA5.out.2.2
     have hAX6 : ∀ a,A = some a → a.block ∉ X2 := fun a ha hx => by
      obtain ⟨cs,fr,hc⟩ := HA5.out.2.1 a ha
      exact HF6.out.2.apart (HA5.out.2.2 a ha) (Array.getElem?_eq_some_iff.1 hc).1 (List.mem_cons_of_mem _ hx)
     obtain ⟨hA7,hAT7⟩ := lies_grownM hA6 hAT6 hg7 hne7
     have x4 := HF6.out.1.blk.cell 4
     simp at x4
     have s5 := HF6.out.1.blk.lt
     have hB86 := HF6.out.2.blk HT17.out.1 HH8X.out
     have hB87 := hB86.grown hg7 (fun e => (hFM6.not_cells hB86) (by cases e;rfl))
     have y4 := hst7.blk.cell 4
     simp at y4
     have HW7 := Lib.hid (And.intro hst7 (And.intro (((Mv.of_below (S :: X) HT17.out.2.2.1).trans HF6.out.2).cons2 M) (And.intro hg7 (And.intro hA7 (And.intro hAT7 (And.intro hAX6 (And.intro hB87 y4)))))))
     clear hFM6 hEX6 hFM7 hg7 hne7 hEX7 hst7 hA6 hAT6 hAX6 hA7 hAT7 hB86 hB87 y4 g0 g1 l11
     go_upto_region 21 with (fail)
     obtain ⟨ad7,hFM7,hEX7⟩ := HW7.out.1.map
     have hFM7' : FM W7.drew M ad7 (delF m.F name) := hFM7
     obtain ⟨W8,hrun8,hFM8,hg8'⟩ := hFM7'.store (renF f dest) A c (Nat.lt_of_le_of_lt (Nat.le_trans (List.length_filter_le ..) HBB.out.len) (by unfold maxLen;omega)) HNN.out.2
     have hg8 : W7.grownBy W8 (some M) := ⟨hg8'.os,hg8'.tape,hg8'.output,hg8'.size,hg8'.block⟩
     have hrun8b := hrun8
     unfold renF at hrun8b
     dsimp only at hrun8b
     rw [HNM.out.2,HFE.out.1,HFE.out.2.1,HFE.out.2.2] at hrun8b
     have hne8 : ∀ g,some M = some g → ∀ c fr,W7.heap[g]? ≠ some (.cells c 172 fr) := fun g e c fr hc => by cases e;exact (hFM7.not_cells hc) rfl
     have hE8 := (hEX7.grown hg8 hne8).put (f := renF f dest) (c := c) (lies_grownM HW7.out.2.2.2.1 HW7.out.2.2.2.2.1 hg8 hne8).1 (lies_grownM HW7.out.2.2.2.1 HW7.out.2.2.2.2.1 hg8 hne8).2 HW7.out.2.2.2.2.2.1
     have hst8 := HW7.out.1.store hg8 hFM8 hE8
     have HF := Lib.hid (And.intro hst8 ((HW7.out.2.1.trans (Mv.of_grown HW7.out.2.2.1 (by simp))).trans (Mv.of_grown hg8 (by simp))))
     have HRUN8 := Lib.hid hrun8b
     have hS9 : W8.cell? ⟨S,4,none⟩ = some (.map (some M)) ∧ Blk W8 H8 #[.int .i64 (fe : Int), .int .i64 (sz : Int), .slice A xl c] 97 :=
      ⟨(World.cell?_of_block (a := ⟨S,4,none⟩) (hg8.block S HW7.out.1.blk.lt (fun e => HW7.out.1.ne.2.1 (by cases e;rfl)))).trans HW7.out.2.2.2.2.2.2.2,HW7.out.2.2.2.2.2.2.1.grown hg8 (fun e => (hFM7.not_cells HW7.out.2.2.2.2.2.2.1) (by cases e;rfl))⟩
     clear hFM7 hEX7 hFM7' hrun8 hrun8b hFM8 hg8 hg8' hne8 hE8 hst8
     refine wp_region_held (S := fun w' => w'.cell? ⟨S,4,none⟩ = some (.map (some M)) ∧ Blk w' H8 #[.int .i64 (fe : Int), .int .i64 (sz : Int), .slice A xl c] 97) mixed ?_
     change wpAnyH _ _ _ _ _ _ _ _ W7.drew
     have hS8 : W7.drew.cell? ⟨S,4,none⟩ = some (.map (some M)) ∧ Blk W7.drew H8 #[.int .i64 (fe : Int), .int .i64 (sz : Int), .slice A xl c] 97 := ⟨HW7.out.2.2.2.2.2.2.2,HW7.out.2.2.2.2.2.2.1⟩
     refine tkQ 0 (.pointer (some ⟨S,0,none⟩)) rfl hS8 ?_
     try go_simp
     refine tkQ 1 (.pointer (some ⟨S,0,none⟩)) rfl hS8 ?_
     try go_simp
     refine tkQ 2 (.pointer (some ⟨S,4,none⟩)) rfl hS8 ?_
     try go_simp
     refine tkH 3 (.map (some M)) rfl hS8 (fun w' hS => ?_) ?_
     ·have q0 := hS.1;go_simp
     try go_simp
     refine tkQ 4 (.string DM) rfl hS8 ?_
     try go_simp
     refine tkH 5 (.agg #[.int .i64 (fe : Int), .int .i64 (sz : Int), .slice A xl c]) rfl hS8 (fun w' hS => ?_) ?_
     ·have q0 := hS.2.cell 0;have q1 := hS.2.cell 1;have q2 := hS.2.cell 2;simp at q0 q1 q2;go_simp
     try go_simp
     refine alH 6 ?_
     refine wpOp_mapUpdate rfl rfl 105 (.tmp 90) (.tmp 91) (.tmp 92) rfl _ _ _ (by rfl) (by rfl) (by rfl) HRUN8.out ?_
     refine ⟨hS9, ?_⟩
     refine wpAnyH_done (by kernel_rfl) ?_ _
     clear hS8 hS9
     go_wp2
     go_ret
     refine HRP.out _ _ ?_
     unfold RemP
     rw [HR2.out]
     exact ⟨rfl,X2,HF.out.2,by first | exact HF.out.1 | exact ⟨(fun h => by cases h),fun _ => HF.out.1⟩ | exact ⟨fun _ => HF.out.1,fun h => absurd rfl h⟩⟩
structure FileIn (most tl : Nat) (f : FileM) : Prop where
 ent : f.entry < most
 good : goodF f.name = true
 siz : f.size ≤ 1048576
 exl : f.ext.length ≤ 64
 exb : ∀ x ∈ f.ext,1 ≤ x.2 ∧ x.1 + x.2 ≤ tl
 sum : sumN f.ext = needsN f.size
theorem Inv.fin {m : StoM} (h : Inv m) {f : FileM} (hf : f ∈ m.F) : FileIn m.most m.T.length f :=
 ⟨h.b.ent f hf,h.good f hf,h.b.siz f hf,h.b.exl f hf,fun x hx => ⟨h.pos f hf x hx,h.b.exb f hf x hx⟩,h.sum f hf⟩
theorem inv_mk {m' : StoM} (G : List FileM) (hp : m'.F.Perm G) (hfin : ∀ f ∈ G,FileIn m'.most m'.T.length f) (hn : (G.map (·.name)).Nodup) (he : (G.map (·.entry)).Nodup) (hu : (unitsF G).Nodup) (ht : ∀ j,m'.T.getD j false = true ↔ j ∈ unitsF G)
  (hm : 1 ≤ m'.most ∧ m'.most ≤ 256) (htl : m'.T.length ≤ 4096) (hll : m'.T.length + m'.most + 7 = m'.ds.L.length) (hc : m'.ds.cut = none) (ho : m'.ds.off = false) (hs : m'.ds.S = []) (hup : m'.off = false) : Inv m' where
 b := { ent := fun f hf => (hfin f (hp.mem_iff.1 hf)).ent
        nam := fun f hf => goodF_len (hfin f (hp.mem_iff.1 hf)).good
        siz := fun f hf => (hfin f (hp.mem_iff.1 hf)).siz
        exl := fun f hf => (hfin f (hp.mem_iff.1 hf)).exl
        exb := fun f hf x hx => ((hfin f (hp.mem_iff.1 hf)).exb x hx).2
        len := by
         have := nodup_lt m'.most _ he (fun x hx => by obtain ⟨g, hg, rfl⟩ := List.mem_map.1 hx; exact (hfin g hg).ent)
         rw [List.length_map] at this
         have := hp.length_eq
         omega
        mo := hm
        tl := htl
        ll := hll
        sl := by rw [hs]; simp }
 cut := hc
 on := ho
 syn := hs
 up := hup
 good := fun f hf => (hfin f (hp.mem_iff.1 hf)).good
 names := (hp.map (·.name)).nodup_iff.2 hn
 entries := (hp.map (·.entry)).nodup_iff.2 he
 pos := fun f hf x hx => ((hfin f (hp.mem_iff.1 hf)).exb x hx).1
 sum := fun f hf => (hfin f (hp.mem_iff.1 hf)).sum
 once := (unitsF_perm hp).nodup_iff.2 hu
 taken := fun j => (ht j).trans (unitsF_perm hp).mem_iff.symm
theorem unitsL_app (a b : List (Nat × Nat)) : unitsL (a ++ b) = unitsL a ++ unitsL b := by unfold unitsL;rw [List.flatMap_append]
theorem sumN_app (a b : List (Nat × Nat)) : sumN (a ++ b) = sumN a + sumN b := by rw [← unitsL_length, ← unitsL_length, ← unitsL_length,unitsL_app,List.length_append]
theorem unitsF_cons (f : FileM) (F : List FileM) : unitsF (f :: F) = unitsL f.ext ++ unitsF F := rfl
theorem take_units {m : StoM} (h : Inv m) {k most : Nat} {l : List (Nat × Nat)} {T1 : List Bool} (h1 : takeS m.T k most = some (l,T1)) :
  T1.length = m.T.length ∧ (unitsL l).Nodup ∧ (∀ j ∈ unitsL l,j ∉ unitsF m.F) ∧ ∀ j,T1.getD j false = true ↔ j ∈ unitsL l ∨ j ∈ unitsF m.F := by
 obtain ⟨a1,a2,a3,a4,a5,a6⟩ := takeS_facts h1
 have hfree : ∀ j ∈ unitsL l,m.T.getD j false = false ∧ j < m.T.length := fun j hj => by
  obtain ⟨x,hx,b1,b2⟩ := mem_unitsL.1 hj
  obtain ⟨c1,c2,c3⟩ := a3 x hx
  exact ⟨by rw [getD_two,c3 j b1 b2];simp,by omega⟩
 refine ⟨a4,(rise_units l 0 a2).1,fun j hj hm => ?_,fun j => ?_⟩
 ·have := (h.taken j).2 hm
  rw [(hfree j hj).1] at this;cases this
 ·have ht := h.taken j
  have hT1 : T1.getD j false = (m.T.getD j false || decide (j ∈ unitsL l)) := by
   rw [getD_two,a6 j,a4,getD_two m.T j]
   by_cases hj : j ∈ unitsL l
   ·have := (hfree j hj).2
    have hany : (l.any fun x => decide (x.1 ≤ j ∧ j < x.1 + x.2)) = true := by
     obtain ⟨x,hx,b⟩ := mem_unitsL.1 hj
     exact List.any_eq_true.2 ⟨x,hx,by simpa using b⟩
    rw [hany]
    simp [this,hj]
   ·have hany : (l.any fun x => decide (x.1 ≤ j ∧ j < x.1 + x.2)) = false := by
     rw [List.any_eq_false]
     intro x hx hb
     exact hj (mem_unitsL.2 ⟨x,hx,by simpa using hb⟩)
    rw [hany]
    simp [hj]
  rw [hT1]
  simp only [Bool.or_eq_true,decide_eq_true_eq]
  rw [ht]
  exact ⟨fun h => h.elim .inr .inl,fun h => h.elim .inr .inl⟩
theorem fileOf_del {F : List FileM} {name t : Bs} (h : t ≠ name) : fileOf (delF F name) t = fileOf F t := by
 unfold fileOf delF
 induction F with
 | nil => rfl
 | cons a F ih =>
  rw [List.filter_cons]
  by_cases ha : a.name = name
  ·rw [if_neg (by simp [ha]),ih,List.find?_cons]
   rw [show (a.name == t) = false from beq_eq_false_iff_ne.2 (fun e => h (by rw [← e,ha]))]
  ·rw [if_pos (by simp [ha]),List.find?_cons,List.find?_cons,ih]
theorem preN_some {m : StoM} {name dest : Bs} {T2 : List Bool} {C : List (Nat × Bs)} {F2 : List FileM} (h : preN m name dest = (0,some (T2,C,F2))) :
  ∃ f,goodF name = true ∧ goodF dest = true ∧ fileOf m.F name = some f ∧ name ≠ dest ∧ F2 = putF (delF m.F name) (renF f dest) ∧
   ((fileOf m.F dest = none ∧ T2 = m.T ∧ C = [(f.entry,entryB dest f.size f.ext)]) ∨ ∃ g,fileOf m.F dest = some g ∧ turnS false m.T g.ext = some T2 ∧ C = two2 f.entry (entryB dest f.size f.ext) g.entry []) := by
 unfold preN at h
 split at h
 ·simp at h
 ·rename_i hg
  have hg1 : goodF name = true := by cases hq : goodF name with
   | true => rfl
   | false => exact absurd (.inl hq) hg
  have hg2 : goodF dest = true := by cases hq : goodF dest with
   | true => rfl
   | false => exact absurd (.inr hq) hg
  cases hf : fileOf m.F name with
  | none => rw [hf] at h;simp at h
  | some f =>
   rw [hf] at h
   dsimp only at h
   split at h
   ·simp at h
   ·rename_i hne
    cases hd : fileOf m.F dest with
    | none =>
     rw [hd] at h
     simp only [Prod.mk.injEq,true_and,Option.some.injEq] at h
     obtain ⟨rfl,rfl,rfl⟩ := h
     exact ⟨f,hg1,hg2,rfl,hne,rfl, .inl ⟨rfl,rfl,rfl⟩⟩
    | some g =>
     rw [hd] at h
     dsimp only at h
     cases ht : turnS false m.T g.ext with
     | none => rw [ht] at h;simp at h
     | some T3 =>
      rw [ht] at h
      simp only [Prod.mk.injEq,true_and,Option.some.injEq] at h
      obtain ⟨rfl,rfl,rfl⟩ := h
      exact ⟨f,hg1,hg2,rfl,hne,rfl, .inr ⟨g,rfl,ht,rfl⟩⟩
theorem inv_rename {m : StoM} {name dest : Bs} {T2 : List Bool} {C : List (Nat × Bs)} {F2 : List FileM} (h : Inv m) (hp : preN m name dest = (0,some (T2,C,F2))) :
  (DS.run (settleC m.most T2 C) m.ds).1 = 0 ∧ Inv ⟨(DS.run (settleC m.most T2 C) m.ds).2,F2,T2,m.most,m.off⟩ := by
 obtain ⟨f,p1,p2,p3,p4,rfl,p6⟩ := preN_some hp
 have hfm := fileOf_mem p3
 have hfi := h.fin hfm
 obtain ⟨r1,r2,r3,r4,r5⟩ := run_settled h.cut h.on [] m.most T2 C
 rw [List.nil_append] at r1 r2 r3 r4 r5
 have hpd := perm_del _ _ _ h.names p3
 have hnd : ((delF m.F name).map (·.name)).Nodup := delF_nodup h.names
 have hpp := perm_put (delF m.F name) (renF f dest) hnd
 have hsub : ∀ g ∈ delF (delF m.F name) dest,g ∈ m.F := fun g hg => (List.mem_filter.1 (List.mem_filter.1 hg).1).1
 have hrf : FileIn m.most m.T.length (renF f dest) := ⟨hfi.ent,p2,hfi.siz,hfi.exl,hfi.exb,hfi.sum⟩
 have hN : ((renF f dest :: delF (delF m.F name) dest).map (·.name)).Nodup := by
  rw [List.map_cons,List.nodup_cons]
  refine ⟨fun hm => ?_,delF_nodup hnd⟩
  obtain ⟨g,hg,e⟩ := List.mem_map.1 hm
  have := (List.mem_filter.1 hg).2
  have e2 : g.name = dest := e
  simp [e2] at this
 have hE0 := (hpd.map (·.entry)).nodup_iff.1 h.entries
 have hE : ((renF f dest :: delF (delF m.F name) dest).map (·.entry)).Nodup := by
  rw [List.map_cons,List.nodup_cons] at hE0 ⊢
  exact ⟨fun hm => hE0.1 (by obtain ⟨g,hg,e⟩ := List.mem_map.1 hm;exact List.mem_map.2 ⟨g,(List.mem_filter.1 hg).1,e⟩),hE0.2.sublist (List.filter_sublist.map _)⟩
 have hU := (unitsF_perm hpd).nodup_iff.1 h.once
 have hUm : ∀ j,j ∈ unitsF m.F ↔ j ∈ unitsL f.ext ∨ j ∈ unitsF (delF m.F name) := fun j => by
  rw [(unitsF_perm hpd).mem_iff,unitsF_cons,List.mem_append]
 rw [unitsF_cons] at hU
 have hUn := List.nodup_append.1 hU
 rcases p6 with ⟨q1,rfl,_⟩ | ⟨g,q1,q2,_⟩
 ·have hdd : delF (delF m.F name) dest = delF m.F name := del_none (by rw [fileOf_del (Ne.symm p4)];exact q1)
  rw [hdd] at hN hE hsub
  rw [show (renF f dest).name = dest from rfl,hdd] at hpp
  refine ⟨r1,inv_mk _ hpp ?_ hN hE ?_ ?_ h.b.mo h.b.tl (h.b.ll.trans r5.symm) r2 r3 r4 h.up⟩
  ·intro k hk
   rcases List.mem_cons.1 hk with rfl | hk
   ·exact hrf
   ·exact h.fin (hsub k hk)
  ·rw [unitsF_cons];exact hU
  ·intro j
   rw [unitsF_cons,List.mem_append]
   exact (h.taken j).trans (hUm j)
 ·have hgm := fileOf_mem q1
  have hpg := perm_del (delF m.F name) g dest hnd (by rw [fileOf_del (Ne.symm p4)];exact q1)
  have hUg : ∀ j,j ∈ unitsF (delF m.F name) ↔ j ∈ unitsL g.ext ∨ j ∈ unitsF (delF (delF m.F name) dest) := fun j => by
   rw [(unitsF_perm hpg).mem_iff,unitsF_cons,List.mem_append]
  have hUg2 := (unitsF_perm hpg).nodup_iff.1 hUn.2.1
  rw [unitsF_cons] at hUg2
  have hUg3 := List.nodup_append.1 hUg2
  have hgi := h.fin hgm
  obtain ⟨T3,e1,e2,e3⟩ := turnS_give g.ext m.T hgi.exb hUg3.1 (fun j hj => (h.taken j).2 ((hUm j).2 (.inr ((hUg j).2 (.inl hj)))))
  rw [q2] at e1
  cases e1
  rw [show (renF f dest).name = dest from rfl] at hpp
  refine ⟨r1,inv_mk _ hpp ?_ hN hE ?_ ?_ h.b.mo (by show T2.length ≤ _;rw [e2];exact h.b.tl) (by show T2.length + _ + 7 = _;rw [e2];exact h.b.ll.trans r5.symm) r2 r3 r4 h.up⟩
  ·intro k hk
   show FileIn m.most T2.length k
   rw [e2]
   rcases List.mem_cons.1 hk with rfl | hk
   ·exact hrf
   ·exact h.fin (hsub k hk)
  ·rw [unitsF_cons]
   exact List.nodup_append.2 ⟨hUn.1,hUg3.2.1,fun a ha b hb e => hUn.2.2 a ha b ((hUg b).2 (.inr hb)) e⟩
  ·intro j
   rw [unitsF_cons,List.mem_append]
   show T2.getD j false = true ↔ _
   rw [e3]
   simp only [Bool.and_eq_true,Bool.not_eq_true',decide_eq_false_iff_not]
   rw [h.taken j]
   show (j ∈ unitsF m.F ∧ _) ↔ _
   rw [hUm,hUg]
   constructor
   ·rintro ⟨h1 | h1 | h1,h2⟩
    ·exact .inl h1
    ·exact absurd h1 h2
    ·exact .inr h1
   ·rintro (h1 | h1)
    ·exact ⟨.inl h1,fun h2 => hUn.2.2 j h1 j ((hUg j).2 (.inl h2)) rfl⟩
    ·exact ⟨.inr (.inr h1),fun h2 => hUg3.2.2 j h2 j h1 rfl⟩
def openX (i c : Nat) (dn : List (Nat × Nat)) : List (Nat × Nat) := dn ++ (if c = 0 then [] else [(i - c,c)])
structure TS (T : List Bool) (k0 i k c : Nat) (dn : List (Nat × Nat)) (U : List Bool) : Prop where
 eq : trimR (runs T 0 0) k0 = (dn ++ (trimR (runs (T.drop i) i c) (k + c)).1,(trimR (runs (T.drop i) i c) (k + c)).2)
 ci : c ≤ i
 ends : ∀ x ∈ dn,x.1 + x.2 < i
 len : U.length = T.length
 set : ∀ j,U.getD j false = (T.getD j false || decide (j ∈ unitsL (openX i c dn)))
theorem TS.start (T : List Bool) (k0 : Nat) : TS T k0 0 k0 0 [] T := ⟨rfl,Nat.le_refl _,fun x hx => (by cases hx),rfl,fun j => (by simp [openX,unitsL])⟩
theorem openX_lt {T : List Bool} {k0 i k c : Nat} {dn : List (Nat × Nat)} {U : List Bool} (h : TS T k0 i k c dn U) : ∀ j ∈ unitsL (openX i c dn),j < i := fun j hj => by
 obtain ⟨x,hx,h1,h2⟩ := mem_unitsL.1 hj
 rcases List.mem_append.1 hx with hx | hx
 ·have := h.ends x hx;omega
 ·split at hx
  ·cases hx
  ·have := h.ci
   have : x = (i - c,c) := by simpa using hx
   subst this
   simp only at h1 h2
   omega
theorem TS.same {T : List Bool} {k0 i k c : Nat} {dn : List (Nat × Nat)} {U : List Bool} (h : TS T k0 i k c dn U) : U.getD i false = T.getD i false := by
 rw [h.set,decide_eq_false (fun hm => Nat.lt_irrefl _ (openX_lt h i hm)),Bool.or_false]
theorem TS.taken {T : List Bool} {k0 i k c : Nat} {dn : List (Nat × Nat)} {U : List Bool} (h : TS T k0 i k c dn U) (hi : i < T.length) (ht : T[i] = true) (hk : 0 < k) : TS T k0 (i + 1) k 0 (openX i c dn) U := by
 refine ⟨?_,Nat.zero_le _,fun x hx => ?_,h.len,fun j => ?_⟩
 ·rw [h.eq,List.drop_eq_getElem_cons hi,ht,runs]
  unfold openX
  by_cases hc : c = 0
  ·subst hc;simp
  ·rw [if_neg hc,List.cons_append,List.nil_append,trimR,if_neg (by omega),Nat.min_eq_left (by omega),Nat.add_sub_cancel]
   simp
 ·rcases List.mem_append.1 hx with hx | hx
  ·have := h.ends x hx;omega
  ·split at hx
   ·cases hx
   ·have := h.ci
    have : x = (i - c,c) := by simpa using hx
    subst this
    simp only
    omega
 ·rw [h.set]
  congr 1
  unfold openX
  simp
theorem TS.free {T : List Bool} {k0 i k c : Nat} {dn : List (Nat × Nat)} {U : List Bool} (h : TS T k0 i k c dn U) (hi : i < T.length) (ht : T[i] = false) (hk : 0 < k) : TS T k0 (i + 1) (k - 1) (c + 1) dn (U.set i true) := by
 have hci := h.ci
 refine ⟨?_,by omega,fun x hx => by have := h.ends x hx;omega,by rw [List.length_set];exact h.len,fun j => ?_⟩
 ·rw [h.eq,List.drop_eq_getElem_cons hi,ht,runs,show k - 1 + (c + 1) = k + c by omega]
 ·rw [set_getD _ _ _ _ (by rw [h.len];exact hi),h.set]
  have hm : ∀ j,j ∈ unitsL (openX (i + 1) (c + 1) dn) ↔ j = i ∨ j ∈ unitsL (openX i c dn) := fun j => by
   unfold openX
   rw [unitsL_app,unitsL_app,List.mem_append,List.mem_append,if_neg (by omega)]
   have e1 : j ∈ unitsL [(i + 1 - (c + 1),c + 1)] ↔ i - c ≤ j ∧ j < i - c + (c + 1) := by
    rw [mem_unitsL]
    constructor
    ·rintro ⟨x,hx,a,b⟩
     have : x = (i + 1 - (c + 1),c + 1) := by simpa using hx
     subst this
     simp only at a b
     omega
    ·rintro ⟨a,b⟩
     exact ⟨_,List.mem_singleton.2 rfl,by simp only;omega,by simp only;omega⟩
   rw [e1]
   by_cases hc : c = 0
   ·subst hc
    simp [unitsL]
    constructor
    ·rintro (a | a)
     ·exact .inr a
     ·exact .inl (by omega)
    ·rintro (a | a)
     ·exact .inr (by omega)
     ·exact .inl a
   ·rw [if_neg hc]
    have e2 : j ∈ unitsL [(i - c,c)] ↔ i - c ≤ j ∧ j < i - c + c := by
     rw [mem_unitsL]
     constructor
     ·rintro ⟨x,hx,a,b⟩
      have : x = (i - c,c) := by simpa using hx
      subst this
      exact ⟨a,b⟩
     ·rintro ⟨a,b⟩
      exact ⟨_,List.mem_singleton.2 rfl,a,b⟩
    rw [e2]
    constructor
    ·rintro (a | a)
     ·exact .inr (.inl a)
     ·by_cases hj : j = i
      ·exact .inl hj
      ·exact .inr (.inr (by omega))
    ·rintro (a | a | a)
     ·exact .inr (by omega)
     ·exact .inl a
     ·exact .inr (by omega)
  by_cases hj : i = j
  ·subst hj
   rw [if_pos rfl,decide_eq_true ((hm _).2 (.inl rfl)),Bool.or_true]
  ·rw [if_neg hj]
   congr 1
   refine decide_eq_decide.2 ?_
   rw [hm]
   exact ⟨fun a => .inr a,fun a => a.resolve_left (fun e => hj e.symm)⟩
theorem runs_open : ∀ (R : List Bool) (i c : Nat),0 < c → ∃ m r,runs R i c = (i - c,c + m) :: r := by
 intro R
 induction R with
 | nil => intro i c h;exact ⟨0,[],by rw [runs,if_neg (by omega)];rfl⟩
 | cons b R ih =>
  intro i c h
  cases b with
  | true => exact ⟨0,runs R (i + 1) 0,by rw [runs,if_neg (by omega)];rfl⟩
  | false =>
   obtain ⟨m,r,e⟩ := ih (i + 1) (c + 1) (by omega)
   exact ⟨m + 1,r,by rw [runs,e,show i + 1 - (c + 1) = i - c by omega,show c + 1 + m = c + (m + 1) by omega]⟩
theorem TS.done {T : List Bool} {k0 i k c : Nat} {dn : List (Nat × Nat)} {U : List Bool} (h : TS T k0 i k c dn U) (he : T.length ≤ i ∨ k = 0) : trimR (runs T 0 0) k0 = (openX i c dn,k) := by
 rw [h.eq]
 unfold openX
 rcases he with he | rfl
 ·rw [List.drop_eq_nil_of_le he,runs]
  by_cases hc : c = 0
  ·subst hc;simp [trimR]
  ·rw [if_neg hc,trimR,if_neg (by omega),Nat.min_eq_left (by omega),Nat.add_sub_cancel,trimR]
 ·rw [Nat.zero_add]
  by_cases hc : c = 0
  ·subst hc;rw [trimR_zero,if_pos rfl]
  ·obtain ⟨m,r,e⟩ := runs_open (T.drop i) i c (by omega)
   rw [e,if_neg hc,trimR,if_neg hc,Nat.min_eq_right (by omega),Nat.sub_self,trimR_zero]
theorem TS.take {T : List Bool} {k0 i k c most : Nat} {dn : List (Nat × Nat)} {U : List Bool} (h : TS T k0 i k c dn U) (he : T.length ≤ i ∨ k = 0) :
  takeS T k0 most = if 0 < k ∨ most < (openX i c dn).length then none else some (openX i c dn,U) := by
 have hd := h.done he
 obtain ⟨T',c1,c2,c3⟩ := take_claims T k0
 unfold takeS
 rw [hd] at c1 c3 ⊢
 dsimp only at c1 c3 ⊢
 split
 ·rfl
 ·rw [c1]
  show some (_,T') = _
  congr 2
  refine List.ext_getElem (by rw [c2,h.len]) fun j h1 h2 => ?_
  have e1 : T'.getD j false = T'[j] := by rw [List.getD_eq_getElem?_getD,List.getElem?_eq_getElem h1,Option.getD_some]
  have e2 : U.getD j false = U[j] := by rw [List.getD_eq_getElem?_getD,List.getElem?_eq_getElem h2,Option.getD_some]
  have hjT : j < T.length := by omega
  rw [← e1, ← e2,h.set,getD_two,c3,getD_two T j]
  simp only [h1,hjT,decide_true,Bool.true_and]
  congr 1
  by_cases hm : j ∈ unitsL (openX i c dn)
  ·rw [decide_eq_true hm]
   obtain ⟨x,hx,b⟩ := mem_unitsL.1 hm
   exact List.any_eq_true.2 ⟨x,hx,by simpa using b⟩
  ·rw [decide_eq_false hm,List.any_eq_false]
   intro x hx hb
   exact hm (mem_unitsL.2 ⟨x,hx,by simpa using hb⟩)
open Go.RowKit
open Go.RowKit
def fb : Option Addr → List Nat
 | some a => [a.block]
 | none => []
theorem mem_fb {A : Option Addr} {b : Nat} (h : b ∈ fb A) : ∃ a,A = some a ∧ a.block = b := by
 cases A with
 | none => cases h
 | some a => exact ⟨a,rfl,by (have e : b = a.block := by simpa [fb] using h);exact e.symm⟩
theorem RAt.more {w : World} {Y : List Nat} {R : Nat} {F : List PF} {T : List Bool} {most : Nat} {aF : Option Addr} {cF : Nat} {aT : Option Addr} {cT : Nat} {G : List PG} (h : RAt w Y R F T most aF cF aT cT G) (A : Option Addr) (t : TypeId) (ht : Typed w A t) (hok : okT t) (hne : t ≠ 90) :
  RAt w (fb A ++ Y) R F T most aF cF aT cT G where
 files := h.files
 blk := h.blk
 row := h.row
 units := h.units
 utyp := h.utyp
 exts := fun x hx => by
  obtain ⟨h1,h2,h3⟩ := h.exts x hx
  exact ⟨h1,h2,fun a ha => List.mem_append_right _ (h3 a ha)⟩
 inF := fun a ha => List.mem_append_right _ (h.inF a ha)
 inT := fun a ha => List.mem_append_right _ (h.inT a ha)
 apart := fun hm => by
  rcases List.mem_append.1 hm with h1 | h1
  ·obtain ⟨a,rfl,e⟩ := mem_fb h1
   obtain ⟨c,fz,e2⟩ := ht a rfl
   have e3 := h.blk
   unfold Blk at e3
   rw [← e,e2] at e3
   injection e3 with e3
   injection e3 with _ e4 _
   exact hne e4
  ·exact h.apart h1
 typ := fun y hy => by
  rcases List.mem_append.1 hy with h1 | h1
  ·obtain ⟨a,rfl,rfl⟩ := mem_fb h1
   obtain ⟨c,fz,e⟩ := ht a rfl
   exact ⟨c,t,fz,e,hok⟩
  ·exact h.typ y h1
open Go.RowKit
open Go.RowKit
open Go.RowKit
open Go.RowKit
open Go.RowKit
open Go.RowKit
open Go.RowKit
def RTk (B : Nat) (w : World) (o : Option (List (Nat × Nat) × List Bool)) (AO : Option Addr) (no cO : Nat) (A1 : Option Addr) (n1 c1 : Nat) (cd : Int) : Prop :=
 match o with
 | none => cd = 8 ∧ AO = none ∧ A1 = none
 | some (l,T1) => cd = 0 ∧ no = l.length ∧ n1 = T1.length ∧ w.ownsRow B 176 2 (.slice AO no cO) no (ecells l) ∧ w.ownsRow B 4 1 (.slice A1 n1 c1) n1 (tcells T1)
theorem RTk.block {B : Nat} {w w' : World} {o : Option (List (Nat × Nat) × List Bool)} {AO : Option Addr} {no cO : Nat} {A1 : Option Addr} {n1 c1 : Nat} {cd : Int} (h : RTk B w o AO no cO A1 n1 c1 cd)
  (hk : ∀ g,g ∈ fb AO ++ fb A1 → w'.heap[g]? = w.heap[g]?) : RTk B w' o AO no cO A1 n1 c1 cd := by
 cases o with
 | none => exact h
 | some p =>
  obtain ⟨h1,h2,h3,h4,h5⟩ := h
  refine ⟨h1,h2,h3,row_block h4 (fun g hg => hk g (List.mem_append_left _ ?_)),row_block h5 (fun g hg => hk g (List.mem_append_right _ ?_))⟩
  ·cases AO with
   | none => cases hg
   | some a => have e2 : a.block = g := by simpa [Value.ownBlock] using hg
               rw [← e2]; exact List.mem_cons_self ..
  ·cases A1 with
   | none => cases hg
   | some a => have e2 : a.block = g := by simpa [Value.ownBlock] using hg
               rw [← e2]; exact List.mem_cons_self ..
theorem RTk.lt {B : Nat} {w : World} {o : Option (List (Nat × Nat) × List Bool)} {AO : Option Addr} {no cO : Nat} {A1 : Option Addr} {n1 c1 : Nat} {cd : Int} (h : RTk B w o AO no cO A1 n1 c1 cd) : ∀ g,g ∈ fb AO ++ fb A1 → B ≤ g ∧ g < w.heap.size := by
 cases o with
 | none =>
  obtain ⟨_,rfl,rfl⟩ := h
  intro g hg;cases hg
 | some p =>
  obtain ⟨_,_,_,h4,h5⟩ := h
  intro g hg
  rcases List.mem_append.1 hg with h1 | h1
  ·obtain ⟨a,rfl,rfl⟩ := mem_fb h1;exact h4.lt a.block rfl
  ·obtain ⟨a,rfl,rfl⟩ := mem_fb h1;exact h5.lt a.block rfl
open Go.RowKit
open Go.RowKit
def StP (X : List Nat) (S D Lg M : Nat) (m : StoM) (w : World) (e : Ending) (w' : World) : Prop :=
 ∃ (n : Nat) (X' : List Nat) (m' : StoM),e = .returned (.int .i64 n) ∧ Mv (S :: M :: X) (S :: M :: X') w w' ∧ Sto w' X' S D Lg M m' ∧ Inv m' ∧ m'.most = m.most ∧ m'.T.length = m.T.length
theorem StP.same {X : List Nat} {S D Lg M : Nat} {m : StoM} {w w' : World} {n : Nat} (h : Sto w' X S D Lg M m) (hi : Inv m) (hb : Below w.heap.size w w') : StP X S D Lg M m w (.returned (.int .i64 (n : Nat))) w' :=
 ⟨n,X,m,rfl,Mv.of_below _ hb,h,hi,rfl,rfl⟩
theorem inv_same_len {m : StoM} {C : List Cmd} {F : List FileM} {T : List Bool} (h : Inv m) (h2 : Inv ⟨(DS.run C m.ds).2,F,T,m.most,m.off⟩) : T.length = m.T.length := by
 have a := h.b.ll
 have b : T.length + m.most + 7 = (DS.run C m.ds).2.L.length := h2.b.ll
 have c := (run_len C m.ds).1
 omega
theorem preW_zero {m : StoM} {name data : Bs} {q : List Bool × FileM} (h : (preW m name data).2 = some q) : preW m name data = (0,some q) := by
 unfold preW at h ⊢
 split
 ·rename_i h1;rw [if_pos h1] at h;cases h
 ·rename_i h1;rw [if_neg h1] at h
  split
  ·rename_i h2;rw [if_pos h2] at h;cases h
  ·rename_i h2;rw [if_neg h2] at h
   cases hs : slotW m name with
   | none => rw [hs] at h;cases h
   | some i =>
    rw [hs] at h
    dsimp only at h ⊢
    cases ht : takeS m.T (needsN data.length) 64 with
    | none => rw [ht] at h;cases h
    | some p =>
     obtain ⟨l,T1⟩ := p
     rw [ht] at h
     dsimp only at h ⊢
     cases hu : turnS false T1 (oldX m.F name) with
     | none => rw [hu] at h;cases h
     | some T3 => rw [hu] at h;dsimp only at h ⊢;rw [h]
theorem preN_zero {m : StoM} {name dest : Bs} {q : List Bool × List (Nat × Bs) × List FileM} (h : (preN m name dest).2 = some q) : preN m name dest = (0,some q) := by
 unfold preN at h ⊢
 split
 ·rename_i h1;rw [if_pos h1] at h;cases h
 ·rename_i h1;rw [if_neg h1] at h
  cases hf : fileOf m.F name with
  | none => rw [hf] at h;cases h
  | some f =>
   rw [hf] at h
   dsimp only at h ⊢
   split
   ·rename_i h2;rw [if_pos h2] at h;cases h
   ·rename_i h2;rw [if_neg h2] at h
    cases hd : fileOf m.F dest with
    | none => rw [hd] at h;dsimp only at h ⊢;rw [h]
    | some g =>
     rw [hd] at h
     dsimp only at h ⊢
     cases ht : turnS false m.T g.ext with
     | none => rw [ht] at h;cases h
     | some T3 => rw [ht] at h;dsimp only at h ⊢;rw [h]
def toM (f : PF) : FileM := ⟨f.name,f.entry,f.data.length,f.ext⟩
theorem range_le : ∀ (n : Nat) (E : List Nat),(∀ i,i < n → i ∈ E) → n ≤ E.length := by
 intro n
 induction n with
 | zero => intro E _;exact Nat.zero_le _
 | succ n ih =>
  intro E h
  have h1 := ih (E.erase n) (fun i hi => (List.mem_erase_of_ne (by omega)).2 (h i (by omega)))
  rw [List.length_erase_of_mem (h n (by omega))] at h1
  have := List.length_pos_of_mem (h n (by omega))
  omega
theorem vacN_none {F : List FileM} {most : Nat} (h : vacN F most = none) : ∀ e,e < most → ∃ f ∈ F,f.entry = e := by
 intro e he
 unfold vacN at h
 have := List.findIdx?_eq_none_iff.1 h ((F.any fun f => f.entry == e)) (List.mem_map.2 ⟨e,List.mem_range.2 he,rfl⟩)
 simpa using this
open Go.RowKit
open Go.RowKit
structure ActM where
 what : Int
 name : Bs
 dest : Bs
 n : Int
 b : Nat
structure ActOk (a : ActM) : Prop where
 name : a.name.length ≤ maxLen
 dest : a.dest.length ≤ maxLen
 what : -9223372036854775808 ≤ a.what ∧ a.what ≤ 9223372036854775807
open Go.RowKit
open Go.RowKit
def numP (s : Bs × Nat) : Nat × (Bs × Nat) := if (getB s.1).2.2 = 0 then ((getB s.1).1,(s.1.drop (getB s.1).2.1,s.2)) else (0,(s.1,(getB s.1).2.2))
def extsP : Nat → Bs × Nat → List (Nat × Nat) × (Bs × Nat)
 | 0,s => ([],s)
 | k + 1,s => ((extsP k s).1 ++ [((numP (extsP k s).2).1,(numP (numP (extsP k s).2).2).1)],(numP (numP (extsP k s).2).2).2)
def p1 (t : Bs) : Nat × (Bs × Nat) := numP (t.drop (nextB t).2.1,(nextB t).2.2)
def p2 (t : Bs) : Nat × (Bs × Nat) := numP (p1 t).2
def p3 (t : Bs) : List (Nat × Nat) × (Bs × Nat) := extsP (min (p2 t).1 65) (p2 t).2
def okP (t : Bs) : Bool := decide ((p3 t).2.2 = 0) && (goodF (nextB t).1 && (decide ((p1 t).1 ≤ 1048576) && (decide ((p3 t).1.length ≤ 64) && (decide (sumN (p3 t).1 = needsN (p1 t).1) && (decide (4 ≤ (p3 t).2.1.length) && (t == entryB (nextB t).1 (p1 t).1 (p3 t).1))))))
def parseP (t : Bs) : Option (Bs × Nat × List (Nat × Nat)) := if okP t then some ((nextB t).1,(p1 t).1,(p3 t).1) else none
theorem getB_put (s : Bs) (h : (getB s).2.2 = 0) : (getB s).2.1 = (putB (getB s).1).length := by
 rw [putB_length]
 revert h
 unfold getB
 cases s with
 | nil => simp
 | cons c r =>
  simp only
  split
  ·simp
  ·split
   ·simp
   ·split
    ·simp
    ·rename_i h
     intro _
     simp only
     omega
theorem numP_le (s : Bs × Nat) : (numP s).1 ≤ 1099511627776 := by
 unfold numP
 have := (getB_bd s.1).1
 split <;> simp
 omega
theorem numP_sub (s : Bs × Nat) : (numP s).2.1.length ≤ s.1.length := by
 unfold numP
 split
 ·simp
 ·exact Nat.le_refl _
theorem numP_ok (s : Bs × Nat) (h : (numP s).2.2 = 0) : s.2 = 0 ∧ s.1.length = (putB (numP s).1).length + (numP s).2.1.length := by
 unfold numP at h ⊢
 split at h
 ·rename_i h0
  rw [if_pos h0]
  have h1 := getB_put s.1 h0
  have h2 := (getB_bd s.1).2.1
  refine ⟨h, ?_⟩
  simp only [List.length_drop]
  omega
 ·rename_i h0
  exact absurd h h0
theorem extsP_len (s : Bs × Nat) : ∀ k,(extsP k s).1.length = k := by
 intro k
 induction k with
 | zero => rfl
 | succ k ih => rw [extsP,List.length_append,ih];rfl
theorem extsP_le (s : Bs × Nat) : ∀ k, ∀ x ∈ (extsP k s).1,x.1 ≤ 1099511627776 ∧ x.2 ≤ 1099511627776 := by
 intro k
 induction k with
 | zero => intro x hx;cases hx
 | succ k ih =>
  intro x hx
  rw [extsP] at hx
  rcases List.mem_append.1 hx with h | h
  ·exact ih x h
  ·obtain rfl := List.mem_singleton.1 h
   exact ⟨numP_le _,numP_le _⟩
theorem extsP_sub (s : Bs × Nat) : ∀ k,(extsP k s).2.1.length ≤ s.1.length := by
 intro k
 induction k with
 | zero => exact Nat.le_refl _
 | succ k ih =>
  rw [extsP]
  exact Nat.le_trans (numP_sub _) (Nat.le_trans (numP_sub _) ih)
theorem extsP_ok (s : Bs × Nat) : ∀ k,(extsP k s).2.2 = 0 → s.2 = 0 ∧ s.1.length = (extB (extsP k s).1).length + (extsP k s).2.1.length := by
 intro k
 induction k with
 | zero => intro h;exact ⟨h,by simp [extsP,extB]⟩
 | succ k ih =>
  intro h
  rw [extsP] at h
  obtain ⟨h1,h2⟩ := numP_ok _ h
  obtain ⟨h3,h4⟩ := numP_ok _ h1
  obtain ⟨h5,h6⟩ := ih h3
  refine ⟨h5, ?_⟩
  rw [extsP,extB_snoc,List.length_append,List.length_append]
  simp only at h2 h4 h6 ⊢
  omega
theorem nextB_ok (s : Bs) (h : (nextB s).2.2 = 0) : (nextB s).2.1 = (putB (nextB s).1.length).length + (nextB s).1.length ∧ (nextB s).2.1 ≤ s.length := by
 revert h
 unfold nextB
 have hb := getB_bd s
 have hp := getB_put s
 generalize getB s = g at hb hp ⊢
 obtain ⟨n,k,e⟩ := g
 simp only at hb hp ⊢
 split
 ·rename_i he;intro h;exact absurd h he
 ·rename_i he
  have he0 : e = 0 := by omega
  split
  ·intro h;cases h
  ·split
   ·intro h;cases h
   ·rename_i h1 h2
    intro _
    have h3 := hp he0
    have h4 : ((s.drop k).take n).length = n := by rw [List.length_take,List.length_drop];omega
    simp only [h4]
    omega
theorem p3_body (t : Bs) (h : (p3 t).2.2 = 0) (hl : (p3 t).1.length ≤ 64) : t.length = (bodyB (nextB t).1 (p1 t).1 (p3 t).1).length + (p3 t).2.1.length := by
 unfold p3 at h hl ⊢
 have hln := extsP_len (p2 t).2 (min (p2 t).1 65)
 rw [hln] at hl
 obtain ⟨h1,h2⟩ := extsP_ok _ _ h
 unfold p2 at h1
 obtain ⟨h3,h4⟩ := numP_ok _ h1
 unfold p1 at h3
 obtain ⟨h5,h6⟩ := numP_ok _ h3
 obtain ⟨h7,h8⟩ := nextB_ok _ h5
 have hc : (extsP (min (p2 t).1 65) (p2 t).2).1.length = (p2 t).1 := by rw [hln];omega
 unfold bodyB
 rw [hc]
 have e4 : (p1 t).2.1.length = (putB (p2 t).1).length + (p2 t).2.1.length := h4
 have e6 : (t.drop (nextB t).2.1).length = (putB (p1 t).1).length + (p1 t).2.1.length := h6
 rw [List.length_drop] at e6
 simp only [List.length_append,joinB_cons,joinB_nil,List.append_nil]
 omega
theorem parse_some {t nm : Bs} {sz : Nat} {l : List (Nat × Nat)} (h : parseP t = some (nm,sz,l)) : t = entryB nm sz l ∧ goodF nm = true ∧ sz ≤ 1048576 ∧ l.length ≤ 64 ∧ sumN l = needsN sz ∧ ∀ x ∈ l,x.1 ≤ 1099511627776 ∧ x.2 ≤ 1099511627776 := by
 unfold parseP at h
 split at h
 ·rename_i ho
  simp only [Option.some.injEq,Prod.mk.injEq] at h
  obtain ⟨rfl,rfl,rfl⟩ := h
  unfold okP at ho
  simp only [Bool.and_eq_true,decide_eq_true_eq,beq_iff_eq] at ho
  obtain ⟨_,h2,h3,h4,h5,_,h7⟩ := ho
  exact ⟨h7,h2,h3,h4,h5,extsP_le _ _⟩
 ·cases h
open Go.RowKit Go.Shelf
attribute [local go_sem] Oper.semAt_some
abbrev encE (x : Int × Int) : Array Value := #[.agg #[.int .i64 x.1, .int .i64 x.2]]
def Ext (w : World) (B : Nat) (A : Option Addr) (es : List (Int × Int)) : Prop :=
 es = [] ∨ ∃ b off,A = some ⟨b,off,none⟩ ∧ b < B ∧ ∀ j,j < es.length → w.cell? ⟨b,off + j * 2,none⟩ = some (.int .i64 (es[j]?.getD (0,0)).1) ∧ w.cell? ⟨b,off + j * 2 + 1,none⟩ = some (.int .i64 (es[j]?.getD (0,0)).2)
theorem Ext.below {w w' : World} {B : Nat} {A : Option Addr} {es : List (Int × Int)} (h : Ext w B A es) (hb : Below B w w') : Ext w' B A es :=
 h.imp id fun ⟨b,off,e,hB,hc⟩ => ⟨b,off,e,hB,fun j hj => ⟨(hb.cell (p := ⟨b,_,none⟩) hB).trans (hc j hj).1,(hb.cell (p := ⟨b,_,none⟩) hB).trans (hc j hj).2⟩⟩

set_option maxRecDepth 100000 in
set_option maxHeartbeats 1000000 in
theorem valuesE_stops (w : World) (n0 Bs cap : Nat) (A : Option Addr) (es : List (Int × Int)) (hlen : es.length ≤ 1000) (hn0 : n0 ≤ w.heap.size) (hBs : Bs < w.heap.size) (hbox : w.cell? ⟨Bs,0,none⟩ = some (.slice A es.length cap)) (hE : Ext w n0 A es) :
  Stops Fence.wide 5 Tryz.prog 175 #[] #[.pointer (some ⟨Bs,0,none⟩)] encE (Below n0) (fun pre x => es[pre.length]? = some x) (fun xs => xs = es) (fun _ => True) w := by
 intro l J Jx W hW hJ hJx hY h0
 have hb := (hW.cell (p := ⟨Bs,0,none⟩) hBs).trans hbox
 have hE' := hE.below (hW.mono hn0)
 have hz := hW.size
 clear hbox hE
 refine callsIn_of_wp Tryz.func175 rfl trivial ?_ rfl
 simp only [Tryz.ntmps175,List.size_toArray,List.length_cons,List.length_nil,Nat.reduceAdd,Nat.reduceSub,Array.replicate_succ,Array.replicate_zero,List.push_toArray,List.append_toArray,List.nil_append,List.cons_append]
 gi_wp2
 gi_loopw [7] (fun i wr => ∃ k : Nat,k ≤ es.length ∧ i = .int .i64 k ∧ J (es.take k) wr ∧ Below n0 W wr) (fun i _ => es.length - (intOf i).toNat)
 case atStart => exact ⟨0,Nat.zero_le _,rfl,h0,Below.refl _ _⟩
 case round =>
  obtain ⟨k,hk,rfl,hJs,hnx⟩ := hrel
  by_cases hlt : k < es.length
  ·rcases hE'.below hnx with he | ⟨b,off,rfl,hb0,hc⟩
   ·rw [he] at hlt;simp at hlt
   obtain ⟨c1,c2⟩ := hc k hlt
   obtain ⟨fn,tmps,assign,body,hy,hR⟩ := hY (es.take k) es[k] _ (abides_alloc hJ hJs (.cells #[.int .i64 es[k].1, .int .i64 es[k].2] 172)) (by rw [List.length_take,Nat.min_eq_left hk];exact List.getElem?_eq_getElem hlt)
   dsimp only [encE] at hy
   gi_wp2
   refine hR.mono ?_
   have hsn : es.take k ++ [es[k]] = es.take (k + 1) := (List.take_succ_eq_append_getElem hlt).symm
   rintro e W3 (⟨rfl,hJ3,hk3⟩ | ⟨rfl,hJx3⟩)
   ·rw [hsn] at hJ3
    have hb3 : Below n0 W W3 := hnx.trans (((Below.refl n0 wr).alloc (by have := hnx.size;omega) _).trans hk3)
    clear hsn
    gi_wp2
    go_roundw
    case rel => exact ⟨k + 1,by omega,by simp,hJ3,hb3⟩
    case measure => simp [intOf];omega
   ·gi_wp2
    refine bodyPost_ret (results_none rfl _ _ _) rfl ?_
    exact ⟨⟨_,rfl⟩, .inr ⟨_,trivial,hJx3⟩⟩
  ·obtain rfl : k = es.length := by omega
   rw [List.take_length] at hJs
   gi_wp2
   go_end0
   exact ⟨⟨_,rfl⟩, .inl ⟨_,rfl,hJs⟩⟩
theorem cell_atE {W : World} {g : Nat} {cs : Array Value} {t : TypeId} {fr : Nat × Nat} (h : W.heap[g]? = some (.cells cs t fr)) (i : Nat) : W.cell? ⟨g,i,none⟩ = cs[i]? := by
 unfold World.cell?;rw [h];simp
def stepN (n x : Int) : Int := min (n + min (max x 0) 1099511627776) 1099511627776
def cnt (es : List (Int × Int)) : Int := es.foldl (fun n x => stepN n x.2) 0
theorem cnt_snoc (es : List (Int × Int)) (x : Int × Int) : cnt (es ++ [x]) = stepN (cnt es) x.2 := by simp [cnt]
theorem stepN_bd (n x : Int) (h : 0 ≤ n) : 0 ≤ stepN n x ∧ stepN n x ≤ 1099511627776 := by unfold stepN;omega
theorem cnt_bd' (es : List (Int × Int)) : ∀ n,0 ≤ n → n ≤ 1099511627776 → 0 ≤ es.foldl (fun n x => stepN n x.2) n ∧ es.foldl (fun n x => stepN n x.2) n ≤ 1099511627776 := by
 induction es with
 | nil => intro n h1 h2;exact ⟨h1,h2⟩
 | cons x es ih => intro n h1 h2;exact ih _ (stepN_bd n x.2 h1).1 (stepN_bd n x.2 h1).2
theorem cnt_bd (es : List (Int × Int)) : 0 ≤ cnt es ∧ cnt es ≤ 1099511627776 := cnt_bd' es 0 (by omega) (by omega)
theorem box_int {W : World} {B : Nat} {t : TypeId} {v : Value} {k : IntKind} {a b : Int} (h : Boxed W B t v) (e : b = a) : Boxed (W.setCell ⟨B,0,none⟩ (.int k a)) B t (.int k b) := e ▸ h.set _
theorem valuesE_any (A : Option Addr) (n cap : Nat) (w : World) : Calls Tryz.prog 158 #[.slice A n cap] w fun e w' => e = .returned (.func (.func 175) #[] #[.pointer (some ⟨w.heap.size,0,none⟩)]) ∧ w.alloc (.cells #[.slice A n cap] 95) = w' := by
 go_enter Tryz.func158,Tryz.ntmps158
 go_wp2
 go_ret
 exact ⟨rfl,rfl⟩
set_option maxRecDepth 100000 in
set_option maxHeartbeats 1000000 in
theorem countE_any (A : Option Addr) (cap : Nat) (es : List (Int × Int)) (w : World) (hlen : es.length ≤ 1000) (hE : Ext w w.heap.size A es) :
  Calls Tryz.prog 138 #[.slice A es.length cap] w fun e w' => e = .returned (.int .i64 (cnt es)) ∧ Below w.heap.size w w' := by
 refine (callsIn_wide (n := 6)).1 ?_
 refine callsIn_of_wp_marks Tryz.func138 rfl trivial ?_ rfl
 simp only [Tryz.ntmps138,List.size_toArray,List.length_cons,List.length_nil,Nat.reduceAdd,Nat.reduceSub,Array.replicate_succ,Array.replicate_zero,List.push_toArray,List.append_toArray,List.nil_append,List.cons_append]
 gi_wp2_with fail
 refine ⟨trivial, ?_⟩
 refine (callsIn_wide.2 (valuesE_any A es.length cap _)).mono ?_
 rintro e w' ⟨rfl,rfl⟩
 gi_wp2
 have hB0 : Below w.heap.size w ((w.alloc (.cells #[.int .i64 0] 3)).alloc (.cells #[.slice A es.length cap] 95)) := ((Below.refl _ w).alloc (Nat.le_refl _) _).alloc (by simp) _
 have bN := Boxed.new (w.alloc (.cells #[.int .i64 0] 3)) 95 (.slice A es.length cap)
 have bS := (Boxed.new w 3 (.int .i64 0)).alloc (.cells #[.slice A es.length cap] 95)
 rw [World.size_alloc] at bN
 refine wpIn_range_first rfl (by decide) (gf := 175) (first := #[]) (lb := #[.pointer (some ⟨w.heap.size + 1,0,none⟩)]) rfl trivial (enters_of Tryz.func175 (by kernel_rfl) rfl) (encs := encE)
  (valuesE_stops _ w.heap.size (w.heap.size + 1) cap A es hlen (by simp;omega) (by simp) bN.cell (hE.below hB0)) Below.trans (belowK_b (by simp;omega)) (Below.refl _ _) (fun _ => rfl)
  (fun pre W => Boxed W w.heap.size 3 (.int .i64 (cnt pre)) ∧ Below w.heap.size w W)
  (fun _ _ _ => False) ?hI ?hIx ⟨bS,hB0⟩ ?hround ?hdone ?hstop
 case hI =>
  intro s W W' row h hg hr
  refine ⟨(grownBy_keeps_cells hg (fun r e => (hr r e).2) h.1 rfl).trans h.1,h.2.grown hg h.2.size (fun k e => ?_)⟩
  have := (hr k e).1
  simp at this
  omega
 case hIx => exact fun c s W W' row h _ _ => h
 case hround =>
  rintro l pre x W ⟨hb,hB⟩ hR
  gi_wp2
  refine ⟨KeepsOthers.alloc _ _, ?_⟩
  rintro l' o' hl' ⟨o,ho,hc,hw⟩
  have hx : ((W.alloc (.cells #[.int .i64 x.1, .int .i64 x.2] 172)).putObj l' o').heap[W.heap.size]? = some (.cells #[.int .i64 x.1, .int .i64 x.2] 172) := by
   have hne : l' ≠ W.heap.size := by rintro rfl;rw [heap_alloc_new] at ho;cases ho;cases hc
   exact (World.putObj_heap_other (by omega)).trans (heap_alloc_new _ _)
  have hl2 : w.heap.size ≤ l' := by
   have := hl'
   simp only [World.size_alloc] at this
   omega
  have hs := (grownBy_keeps_cells (grownBy_putObj' _ l' o') (fun r e => by cases e;exact ⟨o,ho,hc⟩) (hb.alloc (.cells #[.int .i64 x.1, .int .i64 x.2] 172)) rfl).trans (hb.alloc (.cells #[.int .i64 x.1, .int .i64 x.2] 172))
  have hbw : Below w.heap.size W ((W.alloc (.cells #[.int .i64 x.1, .int .i64 x.2] 172)).putObj l' o') := ((Below.refl w.heap.size W).alloc hB.size _).grown (grownBy_putObj' _ l' o') (by have := hB.size;simp;omega) (fun k e => by cases e;exact hl2)
  obtain ⟨W2,hW2⟩ : ∃ W2,(W.alloc (.cells #[.int .i64 x.1, .int .i64 x.2] 172)).putObj l' o' = W2 := ⟨_,rfl⟩
  rw [hW2] at hx hs hbw ⊢
  have hs' : Boxed W2 w.heap.size 3 (.int .i64 (cnt pre)) := hs
  clear hb hs ho hc hw hl' hW2 bS bN hB0 hE hR
  have q0 := cell_atE hx 1
  have q1 := hs'.cell
  have f1 := hs'.frozen
  simp only [List.getElem?_toArray,List.getElem?_cons_zero,List.getElem?_cons_succ] at q0
  obtain ⟨c1,c2⟩ := cnt_bd pre
  have c3 : min (max x.2 0) 1099511627776 ≤ 1099511627776 := by omega
  have c4 : 0 ≤ min (max x.2 0) 1099511627776 := by omega
  gi_wp2
  all_goals
   refine ⟨KeepsOthers.setCell _ _ _,hbw.setCell (p := ⟨_,_,none⟩) (Nat.le_refl _) _, ?_,(hB.trans hbw).setCell (p := ⟨_,_,none⟩) (Nat.le_refl _) _⟩
   exact box_int hs' (by rw [cnt_snoc];unfold stepN;omega)
 case hdone =>
  rintro D xs W hD rfl ⟨hb,hB⟩ hK
  have q1 := hb.cell
  gi_wp2
  refine ⟨by simp, .inl ⟨_,_,rfl,run_takeDeferred hK, ?_⟩⟩
  exact ⟨_,results_tmp rfl _ _ _,rfl,hB.trans (belowK_b (w := w) (Nat.le_refl _) W D _ _ (by simp at hD;omega) hK rfl rfl)⟩
 case hstop => exact fun D c pre W _ _ h _ => h.elim
theorem cnt_nat : ∀ l : List (Nat × Nat),cnt (l.map fun x => ((x.1 : Int),(x.2 : Int))) = ((min (sumN l) 1099511627776 : Nat) : Int) := by
 suffices h : ∀ (l : List (Nat × Nat)) (n : Nat),n ≤ 1099511627776 → (l.map fun x => ((x.1 : Int),(x.2 : Int))).foldl (fun n x => stepN n x.2) (n : Int) = ((min (n + sumN l) 1099511627776 : Nat) : Int) by
  intro l
  have := h l 0 (by omega)
  unfold cnt
  simpa using this
 intro l
 induction l with
 | nil => intro n hn;simp [sumN];omega
 | cons x l ih =>
  intro n hn
  rw [List.map_cons,List.foldl_cons,sumN_cons]
  have e : stepN (n : Int) (x.2 : Int) = ((min (n + x.2) 1099511627776 : Nat) : Int) := by unfold stepN;omega
  show List.foldl _ (stepN (n : Int) (x.2 : Int)) _ = _
  rw [e,ih _ (by omega)]
  congr 1
  omega
theorem count_any (A : Option Addr) (cap : Nat) (l : List (Nat × Nat)) (w : World) (hlen : l.length ≤ 1000) (hL : Lies w A (ecells l)) :
  Calls Tryz.prog 138 #[.slice A l.length cap] w fun e w' => e = .returned (.int .i64 ((min (sumN l) 1099511627776 : Nat) : Int)) ∧ Below w.heap.size w w' := by
 have h := countE_any A cap (l.map fun x => ((x.1 : Int),(x.2 : Int))) w (by rw [List.length_map];exact hlen) (by
  cases l with
  | nil => exact .inl rfl
  | cons x l =>
   obtain ⟨g,o,he,hl,hc⟩ := hL (by rw [ecells_length];simp)
   refine .inr ⟨g,o,he,hl,fun j hj => ?_⟩
   rw [List.length_map] at hj
   obtain ⟨e1,e2⟩ := ecells_at (x :: l) j hj
   have c1 := hc _ _ e1
   have c2 := hc _ _ e2
   rw [← Nat.add_assoc] at c2
   rw [List.getElem?_map,List.getElem?_eq_getElem hj]
   exact ⟨c1,c2⟩)
 rw [cnt_nat,List.length_map] at h
 exact h
open Go.RowKit
set_option maxRecDepth 100000 in
set_option maxHeartbeats 2000000 in
theorem number_any (B8 B7 : Nat) (r : Bs) (e0 : Nat) (w : World) (h8 : Blk w B8 #[.string (mk r)] 9) (h7 : Blk w B7 #[.int .i64 e0] 24) (hne : B8 ≠ B7) (hr : r.length ≤ 1000000) :
  Calls Tryz.prog 136 #[.pointer (some ⟨B8,0,none⟩), .pointer (some ⟨B7,0,none⟩)] w fun e w' => e = .returned (.int .i64 (numP (r,e0)).1) ∧ Blk w' B8 #[.string (mk (numP (r,e0)).2.1)] 9 ∧ Blk w' B7 #[.int .i64 (numP (r,e0)).2.2] 24 ∧ Frm [B8,B7] w w' := by
 have KG := get_any' (mk r) w (by rw [mk_size];omega)
 rw [mk_data] at KG
 have hbd := getB_bd r
 obtain ⟨P,hP⟩ : ∃ q,numP (r,e0) = q := ⟨_,rfl⟩
 rw [hP]
 unfold numP at hP
 dsimp only at hP
 generalize getB r = g at KG hbd hP
 obtain ⟨n,k,er⟩ := g
 dsimp only at KG hbd hP
 have x0 := h8.cell 0
 simp at x0
 have l8 := h8.lt
 obtain ⟨MR,hMR⟩ : ∃ q,mk r = q := ⟨_,rfl⟩
 have hsz : MR.size = r.length := by rw [← hMR,mk_size]
 have hext : MR.extract k MR.size = mk (r.drop k) := by
  have := ext_mk' MR k (r.length - k)
  rw [show k + (r.length - k) = r.length by omega] at this
  rw [hsz,this, ← hMR,mk_data,List.take_of_length_le (by rw [List.length_drop];exact Nat.le_refl _)]
 rw [hMR] at KG x0 h8
 have H8 := Lib.hid (And.intro h8 h7)
 have HM := Lib.hid hMR
 by_cases he : er = 0
 ·rw [if_pos he] at hP
  subst he
  subst hP
  have hsl := fun (w : World) => run_slice_string_l (P := Tryz.prog) (w := w) (t := 9) (s := MR) Tryz.underlying9 .i64 (k : Int) (by omega) (by rw [hsz];omega)
  rw [Int.toNat_natCast,hext] at hsl
  obtain ⟨NX,hNX⟩ : ∃ q,mk (r.drop k) = q := ⟨_,rfl⟩
  rw [hNX] at hsl ⊢
  clear hMR hext h8 h7 hNX
  go_enter Tryz.func136,Tryz.ntmps136
  go_wp2_with (first
   | (go_at_call 137;refine KG.mono ?_;rintro e w1 ⟨rfl,hb⟩;have hB8 := H8.out.1.below hb;have x0 := hB8.cell 0;have xf := hB8.frozen 0;have xl := hB8.lt;simp at x0;have H1 := Lib.hid (And.intro hB8 (And.intro (H8.out.2.below hb) hb));clear hB8 hb KG))
  go_ret
  have hg := grown_set w1 B8 0 (.string NX)
  refine ⟨rfl,H1.out.1.set 0 (.string NX),H1.out.2.1.grown hg (by simpa using hne),⟨H1.out.2.2.os,H1.out.2.2.tape,H1.out.2.2.output,by simpa using H1.out.2.2.size,fun q hq hn => (Below.heap_setCell w1 ⟨B8,0,none⟩ _ q (fun h => hn (by rw [show q = B8 from h];exact List.mem_cons_self ..))).trans (H1.out.2.2.block q hq)⟩⟩
 ·rw [if_neg he] at hP
  subst hP
  have he0 : ¬ ((er : Int) = 0) := by omega
  rw [hMR]
  clear hMR hext h8 h7
  go_enter Tryz.func136,Tryz.ntmps136
  go_wp2_with (first
   | (go_at_call 137;refine KG.mono ?_;rintro e w1 ⟨rfl,hb⟩;have hB7 := H8.out.2.below hb;have x0 := hB7.cell 0;have xf := hB7.frozen 0;have xl := hB7.lt;simp at x0;have H1 := Lib.hid (And.intro (H8.out.1.below hb) (And.intro hB7 hb));clear hB7 hb KG))
  go_ret
  have hg := grown_set w1 B7 0 (.int .i64 er)
  refine ⟨rfl,H1.out.1.grown hg (by simpa using Ne.symm hne),H1.out.2.1.set 0 (.int .i64 er),⟨H1.out.2.2.os,H1.out.2.2.tape,H1.out.2.2.output,by simpa using H1.out.2.2.size,fun q hq hn => (Below.heap_setCell w1 ⟨B7,0,none⟩ _ q (fun h => hn (by rw [show q = B7 from h];simp))).trans (H1.out.2.2.block q hq)⟩⟩
end Go.Proofs.YtmjdmijloanfnaaGreatDoor
