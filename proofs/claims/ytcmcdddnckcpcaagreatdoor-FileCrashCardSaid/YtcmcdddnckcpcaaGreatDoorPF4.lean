/- Packed: Wr, Rd, Re, Rm, Mo, Dn, Gr, Fn, Ce, Ra, Rt. -/
import Derived.Test.YtcmcdddnckcpcaaGreatDoorPF1
import Derived.Test.YtcmcdddnckcpcaaGreatDoorPF3
import Derived.Test.YtcmcdddnckcpcaaGreatDoorPF2
import Derived.BigQuiet
import Derived.Maps.OwnIn
import Derived.Laws.CopyOwn
namespace Go.Proofs.YtcmcdddnckcpcaaGreatDoor
open Go.RowKit Go.Maps
theorem take_all (T : List Bool) (k most : Nat) (w : World) (hn : T.length ≤ 4096) (hk : k ≤ 2199023255552) (hm : most ≤ 2199023255552) : Calls Tryz.prog 39 #[spv T, .int .i64 k, .int .i64 most] w fun e w' =>
  (∀ l T',takeS T k most = some (l,T') → ∃ A c,e = .returned (.tuple #[.slice A l.length c,spv T', .int .i64 0]) ∧ w'.ownsRow w.heap.size 90 2 (.slice A l.length c) l.length (ecells l)) ∧
  (takeS T k most = none → e = .returned (.tuple #[.slice none 0 0, .agg #[.int .i64 0, .string ⟨#[]⟩], .int .i64 8])) ∧ Below w.heap.size w w' := by
 by_cases h0 : k = 0
 ·subst h0
  refine (take_zero T most w hn hm).mono ?_
  rintro e w' ⟨rfl,hb⟩
  refine ⟨fun l T' h => ?_,fun h => ?_,hb⟩
  ·rw [take_zeroS] at h
   cases h
   exact ⟨none,0,rfl,rfl, .inl ⟨rfl,rfl⟩⟩
  ·rw [take_zeroS] at h;cases h
 ·exact take_any T k most w hn hk (by omega) hm
theorem find_form (w : World) (X : List Nat) (ad : AdM) (F : List FileM) (name : Bs) (h : Exts w X ad F) (hg : goodF name = true) :
  ∃ (a b : Int) (A : Option Addr) (c : Nat),findV ad F name = .agg #[.int .i64 a, .int .i64 b, .slice A (oldX F name).length c] ∧ Lies w A (ecells (oldX F name)) ∧
   ((fileOf F name = none ∧ a = 0 ∧ findE F name = 9) ∨ (∃ f,fileOf F name = some f ∧ a = f.entry ∧ findE F name = 0)) := by
 unfold findV findE oldX
 rw [hg]
 cases hf : fileOf F name with
 | none => exact ⟨0,0,none,0,rfl,fun h => absurd h (by simp [ecells]), .inl ⟨rfl,rfl,rfl⟩⟩
 | some f =>
  obtain ⟨h1,h2,h3⟩ := h f (fileOf_mem hf)
  exact ⟨f.entry,f.size,_,_,rfl,h1, .inr ⟨f,rfl,rfl,rfl⟩⟩
theorem oldX_small {m : StoM} (hb : StoB m) (name : Bs) : (oldX m.F name).length ≤ 64 ∧ ∀ x ∈ oldX m.F name,x.1 ≤ 2199023255552 ∧ x.2 ≤ 2199023255552 := by
 unfold oldX
 cases hf : fileOf m.F name with
 | none => exact ⟨by simp,fun x hx => by simp at hx⟩
 | some f => exact ⟨hb.exl f (fileOf_mem hf),fun x hx => by have := hb.exb f (fileOf_mem hf) x hx;have := hb.tl;omega⟩
theorem own_ge {w : World} {B s n c : Nat} {e : TypeId} {A : Option Addr} {xs : List Value} (h : w.ownsRow B e s (.slice A n c) n xs) (g : Addr) (hg : A = some g) : B ≤ g.block := by
 rcases h.2 with ⟨hv,_⟩ | ⟨b,cap,cur,hv,hB,_⟩
 ·simp [hg] at hv
 ·simp only [Value.slice.injEq] at hv
  rw [hg] at hv
  rw [Option.some.inj hv.1]
  exact hB
theorem PutP.from {X : List Nat} {S D Lg M : Nat} {m : StoM} {T : List Bool} {l : List Nat} {data : Bs} {f : FileM} {w w1 w' : World} {e : Ending} (h : PutP X S D Lg M m T l data f w1 e w') (hb : Below w.heap.size w w1) : PutP X S D Lg M m T l data f w e w' := by
 obtain ⟨h1,X',h2,h3⟩ := h
 exact ⟨h1,X',(Mv.of_below _ hb).trans h2,h3⟩
theorem put_secs {m : StoM} (hb : StoB m) {l : List (Nat × Nat)} (h : ∀ x ∈ l,1 ≤ x.2 ∧ x.1 + x.2 ≤ m.T.length ∧ ∀ j,x.1 ≤ j → j < x.1 + x.2 → m.T.getD j true = false) : ∀ i ∈ secL (m.most + 7) l,i < m.ds.L.length := fun i hi => by
 obtain ⟨x,hx,h1,h2⟩ := secL_mem hi
 have := (h x hx).2.1
 have := hb.ll
 omega
def WriteP (X : List Nat) (S D Lg M : Nat) (m : StoM) (p : Nat × Option (List Bool × FileM)) (data : Bs) (w : World) (e : Ending) (w' : World) : Prop :=
 (p.2 = none → e = .returned (.int .i64 (p.1 : Nat)) ∧ Below w.heap.size w w' ∧ Sto w' X S D Lg M m) ∧
 ∀ T2 f,p.2 = some (T2,f) → PutP X S D Lg M m T2 (secL (m.most + 7) f.ext) data f w e w'
set_option maxRecDepth 100000 in
set_option maxHeartbeats 4000000 in
theorem fwrite_any (X : List Nat) (S D Lg M : Nat) (m : StoM) (name data : Bs) (w : World) (h : Sto w X S D Lg M m) (hb : StoB m) (h1 : m.off = false) (h2 : m.ds.off = false) (hn : name.length ≤ maxLen) :
  Calls Tryz.prog 14 #[.pointer (some ⟨S,0,none⟩), .string (mk name), .string (mk data)] w (WriteP X S D Lg M m (preW m name data) data w) := by
 obtain ⟨ad,hFM,hEX⟩ := h.map
 have KF := find_ok X S D Lg M m ad name w h hFM h1 h2 hn
 have zd := mk_size data
 obtain ⟨P,hP⟩ : ∃ q,preW m name data = q := ⟨_,rfl⟩
 rw [hP]
 have HP := Lib.hid hP
 clear hP
 cases hg : goodF name with
 | false =>
  have HE : P = (11,none) := by rw [← HP.out];unfold preW;rw [if_pos hg]
  subst HE
  have HV := Lib.hid (show findV ad m.F name = inoZ ∧ findE m.F name = 11 by unfold findV findE;rw [hg];exact ⟨rfl,rfl⟩)
  rw [HV.out.1,HV.out.2] at KF
  unfold inoZ at KF
  have HST := Lib.hid h
  obtain ⟨NM,hNM⟩ : ∃ q,mk name = q := ⟨_,rfl⟩
  obtain ⟨DT,hDT⟩ : ∃ q,mk data = q := ⟨_,rfl⟩
  rw [hNM] at KF
  rw [hNM,hDT]
  clear h hb h1 h2 hn hg hFM hEX zd HV hNM hDT
  go_enter Tryz.func14,Tryz.ntmps14
  go_wp2_with (first | (go_at_call 37;refine KF.mono ?_;rintro e w1 ⟨rfl,hb1⟩;have HB1 := Lib.hid hb1;clear hb1))
  go_ret
  have hb := HB1.out.alloc HB1.out.size (.cells #[.int .i64 0, .int .i64 0, .slice none 0 0] 69)
  exact ⟨fun _ => ⟨rfl,hb,HST.out.below hb⟩,fun T2 f h => by cases h⟩
 | true =>
  obtain ⟨a,b,A,c,hfv,hLA,hcs⟩ := find_form w X ad m.F name hEX hg
  rw [hfv] at KF
  obtain ⟨xl,hxl⟩ : ∃ q,(oldX m.F name).length = q := ⟨_,rfl⟩
  rw [hxl] at KF
  by_cases hlong : 1048576 < data.length
  ·have HE : P = (6,none) := by rw [← HP.out];unfold preW;rw [if_neg (by rw [hg];decide),if_pos hlong]
   subst HE
   have HST := Lib.hid h
   have hN : findE m.F name = 9 ∨ findE m.F name = 0 := by rcases hcs with h | ⟨f,h⟩;exact .inl h.2.2;exact .inr h.2.2
   obtain ⟨NM,hNM⟩ : ∃ q,mk name = q := ⟨_,rfl⟩
   obtain ⟨DT,hDT⟩ : ∃ q,mk data = q := ⟨_,rfl⟩
   obtain ⟨N,hNN⟩ : ∃ q,findE m.F name = q := ⟨_,rfl⟩
   obtain ⟨dl,hdl⟩ : ∃ q,data.length = q := ⟨_,rfl⟩
   rw [hNN] at KF hN
   rw [hNM] at KF
   rw [hDT,hdl] at zd
   rw [hdl] at hlong
   rw [hNM,hDT]
   clear h hb h1 h2 hn hg hFM hEX hNM hDT hNN hcs hfv hLA hdl hxl
   rcases hN with rfl | rfl
   all_goals
    go_enter Tryz.func14,Tryz.ntmps14
    go_wp2_with (first | (go_at_call 37;refine KF.mono ?_;rintro e w1 ⟨rfl,hb1⟩;have HB1 := Lib.hid hb1;clear hb1))
    go_ret
    have hb := HB1.out.alloc HB1.out.size (.cells #[.int .i64 a, .int .i64 b, .slice A xl c] 69)
    exact ⟨fun _ => ⟨rfl,hb,HST.out.below hb⟩,fun T2 f h => by cases h⟩
  ·obtain ⟨N,hNN⟩ : ∃ q,findE m.F name = q := ⟨_,rfl⟩
   have hnext : preW m name data = match slotW m name with
    | none => (8,none)
    | some i => match takeS m.T (needsN data.length) 64 with
     | none => (8,none)
     | some (l,T1) => match turnS false T1 (oldX m.F name) with
      | none => (14,none)
      | some T2 => (0,some (T2,⟨name,i,data.length,l⟩)) := by
    unfold preW
    rw [if_neg (by rw [hg];decide),if_neg hlong]
    all_goals rfl
   have HST := Lib.hid h
   have HSLT := Lib.hid (show ∀ x ∈ S :: M :: X,x < w.heap.size from fun x hx => by
    rcases List.mem_cons.1 hx with rfl | hx
    ·exact h.blk.lt
    ·rcases List.mem_cons.1 hx with rfl | hx
     ·exact hFM.lt
     ·exact h.dsk.lt x hx)
   have HX := Lib.hid hnext
   have HBB := Lib.hid hb
   have HLA := Lib.hid hLA
   have HCS := Lib.hid hcs
   have HGL := Lib.hid (goodF_len hg)
   have HTL := Lib.hid hb.tl
   have KV := fun w1 (hw : Sto w1 X S D Lg M m) => vacant_any X S D Lg M m w1 hw hb.mo hb.ent
   have KN := fun (w1 : World) => needs_any data.length w1 (by omega)
   have KT := fun (w1 : World) => take_all m.T (needsN data.length) 64 w1 hb.tl (by unfold needsN;omega) (by omega)
   obtain ⟨V,hV⟩ : ∃ q,vacI m.F m.most = q := ⟨_,rfl⟩
   have HV := Lib.hid hV
   rw [hV] at KV
   obtain ⟨kn,hkn⟩ : ∃ q,needsN data.length = q := ⟨_,rfl⟩
   have hkn' : (data.length + 511) / 512 = kn := hkn
   rw [hkn] at KT
   rw [hkn'] at KN
   have HKN := Lib.hid hkn
   unfold spv at KT
   obtain ⟨tl,htl⟩ : ∃ q,m.T.length = q := ⟨_,rfl⟩
   obtain ⟨PB,hPB⟩ : ∃ q,mk (packB m.T) = q := ⟨_,rfl⟩
   rw [htl,hPB] at KT
   obtain ⟨NM,hNM⟩ : ∃ q,mk name = q := ⟨_,rfl⟩
   obtain ⟨DT,hDT⟩ : ∃ q,mk data = q := ⟨_,rfl⟩
   obtain ⟨dl,hdl⟩ : ∃ q,data.length = q := ⟨_,rfl⟩
   have HDL := Lib.hid hdl
   rw [hNN] at KF
   rw [hNM] at KF
   rw [hDT,hdl] at zd
   rw [hdl] at hlong KN
   rw [hNM,hDT]
   have x2 := fun w1 (hw : Sto w1 X S D Lg M m) => hw.blk.cell 2
   have x3 := fun w1 (hw : Sto w1 X S D Lg M m) => hw.blk.cell 3
   simp only [stoCells,htl,hPB] at x2 x3
   have HX2 := Lib.hid x2
   have HX3 := Lib.hid x3
   clear x2 x3
   have hSl := h.blk.lt
   have HTLE := Lib.hid htl
   have HPB := Lib.hid hPB
   have HNM := Lib.hid hNM
   have HDT := Lib.hid hDT
   have HXL := Lib.hid hxl
   have hlong2 : (dl : Int) ≤ 1048576 := by omega
   have hdl0 : (0 : Int) ≤ (dl : Int) := by omega
   have hN : N = 9 ∨ N = 0 := by rw [← hNN];rcases hcs with h | ⟨f,h⟩;exact .inl h.2.2;exact .inr h.2.2
   have HNN := Lib.hid hNN
   clear h hb h1 h2 hn hg hFM hEX hNM hDT hNN hcs hfv hLA hdl hxl hV hkn hkn' htl hPB hnext hlong
   rcases hN with rfl | rfl
   ·have hsl : slotW m name = vacN m.F m.most ∧ a = 0 := by
     rcases HCS.out with ⟨h1,h2,_⟩ | ⟨f,_,_,h3⟩
     ·unfold slotW;rw [h1];exact ⟨rfl,h2⟩
     ·rw [HNN.out] at h3;cases h3
    have hVV := HV.out
    unfold vacI at hVV
    cases hvn : vacN m.F m.most with
    | none =>
     rw [hvn] at hVV
     have HE : P = (8,none) := by rw [← HP.out,HX.out,hsl.1,hvn]
     subst HE
     simp only at hVV
     subst hVV
     have HA0 := hsl.2
     subst HA0
     clear hsl hvn
     go_enter Tryz.func14,Tryz.ntmps14
     go_upto_if 34 with (first | (go_at_call 37;refine KF.mono ?_;rintro e w1 ⟨rfl,hb1⟩;have HB1 := Lib.hid hb1;clear hb1))
     have hB7 := (Blk.new w1 #[.int .i64 0, .int .i64 b, .slice A xl c] 69).alloc (.cells #[.int .i64 0, .int .i64 dl, .slice none 0 0] 69)
     have hB9 := Blk.new (w1.alloc (.cells #[.int .i64 0, .int .i64 b, .slice A xl c] 69)) #[.int .i64 0, .int .i64 dl, .slice none 0 0] 69
     have hbw := (HB1.out.alloc HB1.out.size (.cells #[.int .i64 0, .int .i64 b, .slice A xl c] 69)).alloc (by have := HB1.out.size;simp;omega) (.cells #[.int .i64 0, .int .i64 dl, .slice none 0 0] 69)
     rw [World.size_alloc] at hB9
     have hH7 := HB1.out.size
     obtain ⟨H7,hH⟩ : ∃ q,w1.heap.size = q := ⟨_,rfl⟩
     obtain ⟨W1,hW⟩ : ∃ q,(w1.alloc (.cells #[.int .i64 0, .int .i64 b, .slice A xl c] 69)).alloc (.cells #[.int .i64 0, .int .i64 dl, .slice none 0 0] 69) = q := ⟨_,rfl⟩
     rw [hH] at hB7 hB9 hH7
     simp only [hW] at hB7 hB9 hbw ⊢
     try simp only [hH]
     have hst1 := HST.out.below hbw
     have hSH : S < H7 := Nat.lt_of_lt_of_le HST.out.blk.lt hH7
     have KV1 := KV W1 hst1
     rw [show decide ((0 : Int) ≤ -1) = false from rfl] at KV1
     have HBW := Lib.hid hbw
     have HST1 := Lib.hid hst1
     have HB9 := Lib.hid hB9
     have HH7 := Lib.hid hH7
     clear hH hW hB7 hB9 hbw hst1 hSH hH7
     go_wp2_with (first | (go_at_call 38;go_loud (refine KV1.mono ?_;rintro e w2 ⟨rfl,hb2⟩;have hB2 := HB9.out.below hb2;have d0 := hB2.cell 0;have q0 := hB2.frozen 0;simp at d0;have hlt2 := hB2.lt;have HB2 := Lib.hid hb2;clear hb2 hB2)))
     go_ret
     have hbF := below_set (HBW.out.trans (HB2.out.mono HBW.out.size)) (H7 + 1) 0 (.int .i64 (-1)) (by have := HH7.out;omega)
     exact ⟨fun _ => ⟨rfl,hbF,HST.out.below hbF⟩,fun T2 f h => by cases h⟩
    | some i =>
     rw [hvn] at hVV
     have HI := Lib.hid (hsl.1.trans hvn)
     have HII := Lib.hid (vacN_lt hvn).1
     have HA0 := hsl.2
     subst HA0
     simp only at hVV
     subst hVV
     clear hsl hvn
     go_enter Tryz.func14,Tryz.ntmps14
     go_upto_if 34 with (first | (go_at_call 37;refine KF.mono ?_;rintro e w1 ⟨rfl,hb1⟩;have HB1 := Lib.hid hb1;clear hb1))
     have hB7 := (Blk.new w1 #[.int .i64 0, .int .i64 b, .slice A xl c] 69).alloc (.cells #[.int .i64 0, .int .i64 dl, .slice none 0 0] 69)
     have hB9 := Blk.new (w1.alloc (.cells #[.int .i64 0, .int .i64 b, .slice A xl c] 69)) #[.int .i64 0, .int .i64 dl, .slice none 0 0] 69
     have hbw := (HB1.out.alloc HB1.out.size (.cells #[.int .i64 0, .int .i64 b, .slice A xl c] 69)).alloc (by have := HB1.out.size;simp;omega) (.cells #[.int .i64 0, .int .i64 dl, .slice none 0 0] 69)
     rw [World.size_alloc] at hB9
     have hH7 := HB1.out.size
     obtain ⟨H7,hH⟩ : ∃ q,w1.heap.size = q := ⟨_,rfl⟩
     obtain ⟨W1,hW⟩ : ∃ q,(w1.alloc (.cells #[.int .i64 0, .int .i64 b, .slice A xl c] 69)).alloc (.cells #[.int .i64 0, .int .i64 dl, .slice none 0 0] 69) = q := ⟨_,rfl⟩
     rw [hH] at hB7 hB9 hH7
     simp only [hW] at hB7 hB9 hbw ⊢
     try simp only [hH]
     have hst1 := HST.out.below hbw
     have hSH : S < H7 := Nat.lt_of_lt_of_le HST.out.blk.lt hH7
     have KV1 := KV W1 hst1
     have HBW := Lib.hid hbw
     have HST1 := Lib.hid hst1
     have HB7 := Lib.hid hB7
     have HB9 := Lib.hid hB9
     have HSH := Lib.hid hSH
     have HH7 := Lib.hid hH7
     clear hH hW hB7 hB9 hbw hst1 hSH hH7
     go_upto_region 13 with (first | (go_at_call 38;refine KV1.mono ?_;rintro e w2 ⟨rfl,hb2⟩;have hB2 := HB9.out.below hb2;have d0 := hB2.cell 0;have q0 := hB2.frozen 0;simp at d0;have hlt2 := hB2.lt;have HB2 := Lib.hid hb2;have s2 := HX2.out w2 (HST1.out.below hb2);have s3 := HX3.out w2 (HST1.out.below hb2);have hS2 := (HST1.out.below hb2).blk.lt;have hSne : S ≠ H7 + 1 := (by have := HSH.out;omega);simp at s2 s3;clear hb2 hB2))
     have HST2 := Lib.hid (HST1.out.below HB2.out)
     have hB92 := (HB9.out.below HB2.out).set 0 (.int .i64 (i : Int))
     have hB72 : Blk (w2.setCell ⟨H7 + 1,0,none⟩ (.int .i64 (i : Int))) H7 #[.int .i64 0, .int .i64 b, .slice A xl c] 69 := (Below.heap_setCell _ _ _ _ (by simp)).trans (HB7.out.below HB2.out)
     have hbw2 := below_set (HBW.out.trans (HB2.out.mono HBW.out.size)) (H7 + 1) 0 (.int .i64 (i : Int)) (by have := HH7.out;omega)
     have hlt9 := hB92.lt
     have hB113 := Blk.new (w2.setCell ⟨H7 + 1,0,none⟩ (.int .i64 (i : Int))) #[.int .i64 (tl : Int), .string PB] 76
     have hB93 := hB92.alloc (.cells #[.int .i64 (tl : Int), .string PB] 76)
     have hB73 := hB72.alloc (.cells #[.int .i64 (tl : Int), .string PB] 76)
     have hbw3 := hbw2.alloc hbw2.size (.cells #[.int .i64 (tl : Int), .string PB] 76)
     have hlt11 : H7 + 2 ≤ w2.heap.size := by simp at hlt9;omega
     rw [World.size_setCell] at hB113
     obtain ⟨H11,hH11⟩ : ∃ q,w2.heap.size = q := ⟨_,rfl⟩
     rw [hH11] at hB113 hlt11
     obtain ⟨W3,hW3⟩ : ∃ q,(w2.setCell ⟨H7 + 1,0,none⟩ (.int .i64 (i : Int))).alloc (.cells #[.int .i64 (tl : Int), .string PB] 76) = q := ⟨_,rfl⟩
     simp only [hW3] at hB113 hB93 hB73 hbw3 ⊢
     try simp only [hH11]
     have HB73 := Lib.hid hB73
     have HB93 := Lib.hid hB93
     have HB113 := Lib.hid hB113
     have HST3 := Lib.hid (HST.out.below hbw3)
     have HBW3 := Lib.hid hbw3
     have HORD := Lib.hid (show w.heap.size ≤ H7 ∧ H7 + 2 ≤ H11 ∧ W3.heap.size = H11 + 1 from ⟨HH7.out,hlt11,by rw [← hW3, ← hH11];simp⟩)
     clear hW3 hH11 hB92 hB72 hbw2 hlt9 hB113 hB93 hB73 hbw3 hlt11 d0 q0 s2 s3 hS2 hSne hlt2 KV1 KV KF
     have mixed := mixedT
     refine wp_region_S 11 (fun w' => w'.cell? ⟨H7 + 1,1,none⟩ = some (.int .i64 (dl : Int))) (fun w' => Blk w' H11 #[.int .i64 (tl : Int), .string PB] 76) mixed ?_
     change wpAnyS _ _ _ _ _ _ _ _ _ _ W3.drew
     have hB9 : Blk W3.drew (H7 + 1) #[.int .i64 (i : Int), .int .i64 (dl : Int), .slice none 0 0] 69 := HB93.out
     have hB11 : Blk W3.drew H11 #[.int .i64 (tl : Int), .string PB] 76 := HB113.out
     have hb0 : Below W3.heap.size W3 W3.drew := (Below.refl _ _).drew
     obtain ⟨W0,hW0⟩ : ∃ q,W3.drew = q := ⟨_,rfl⟩
     rw [hW0] at hB9 hB11 hb0 ⊢
     clear hW0
     have HE0 : ∀ L : Array Bool,HeldS 11 (fun w' => w'.cell? ⟨H7 + 1,1,none⟩ = some (.int .i64 (dl : Int))) (fun w' => Blk w' H11 #[.int .i64 (tl : Int), .string PB] 76) L W0 := fun L => ⟨by have q := hB9.cell 1;simp at q;exact q,fun _ => hB11⟩
     refine wpAnyS_take2 (i := 0) (v := .agg #[.int .i64 (tl : Int), .string PB]) rfl (by decide) rfl (by kernel_rfl) (by kernel_rfl) (by kernel_rfl) (by kernel_rfl) (by kernel_rfl) (fun c a w h => h) (.inl ⟨by kernel_rfl,fun w' hS => ?_⟩) (HE0 _) ?_
     ·have q0 := hS.2.cell 0;have q1 := hS.2.cell 1;simp at q0 q1;go_simp
     try go_simp
     refine tkS 1 (.pointer (some ⟨H7 + 1,1,none⟩)) rfl (HE0 _) (fun w' hS => ?_) ?_
     ·clear hS;go_simp
     try go_simp
     refine tkS 2 (.int .i64 (dl : Int)) rfl (HE0 _) (fun w' hS => ?_) ?_
     ·have q0 := hS;go_simp
     try go_simp
     refine wpAnyS_all (rs := [3]) (by kernel_rfl) (by simp) ?_
     intro ix hix
     simp only [List.mem_cons,List.not_mem_nil,or_false] at hix
     subst hix
     unfold wpOp
     go_simp
     refine .inl ?_
     go_at_call 40
     refine (KN W0).mono ?_
     rintro e w' ⟨rfl,hw⟩
     obtain rfl := hw.symm
     refine ⟨HE0 _, ?_⟩
     try go_simp
     refine wpAnyS_all (rs := [4]) (by kernel_rfl) (by simp) ?_
     intro ix hix
     simp only [List.mem_cons,List.not_mem_nil,or_false] at hix
     subst hix
     unfold wpOp
     go_simp
     refine .inl ?_
     go_at_call 39
     refine (KT W0).mono ?_
     rintro e W4 ⟨ht1,ht2,hb4⟩
     have hB94 := hB9.below hb4
     have hB114 := hB11.below hb4
     have HE4 : ∀ L : Array Bool,HeldS 11 (fun w' => w'.cell? ⟨H7 + 1,1,none⟩ = some (.int .i64 (dl : Int))) (fun w' => Blk w' H11 #[.int .i64 (tl : Int), .string PB] 76) L W4 := fun L => ⟨by have q := hB94.cell 1;simp at q;exact q,fun _ => hB114⟩
     have HB94 := Lib.hid hB94
     have HB114 := Lib.hid hB114
     have HB34 := Lib.hid (hb0.trans (hb4.mono hb0.size))
     have HW0S := Lib.hid hb0.size
     cases htk : takeS m.T kn 64 with
     | none =>
      obtain rfl := ht2 htk
      refine ⟨HE4 _, ?_⟩
      try go_simp
      clear HE0 hB9 hB11 hb0 hb4 hB94 hB114
      refine tkS 5 (.tuple #[.slice none 0 0, .agg #[.int .i64 0, .string ⟨#[]⟩], .int .i64 8]) rfl (HE4 _) (fun w' hS => ?_) ?_
      ·clear hS;go_simp
      try go_simp
      refine tkS 6 (.slice none 0 0) rfl (HE4 _) (fun w' hS => ?_) ?_
      ·clear hS;go_simp
      try go_simp
      refine tkS 7 (.agg #[.int .i64 0, .string ⟨#[]⟩]) rfl (HE4 _) (fun w' hS => ?_) ?_
      ·clear hS;go_simp
      try go_simp
      refine tkS 8 (.int .i64 8) rfl (HE4 _) (fun w' hS => ?_) ?_
      ·clear hS;go_simp
      try go_simp
      refine tkS 9 (.pointer (some ⟨H7 + 1,2,none⟩)) rfl (HE4 _) (fun w' hS => ?_) ?_
      ·clear hS;go_simp
      try go_simp
      have d2 := HB94.out.cell 2
      have q2 := HB94.out.frozen 2
      have e0 := HB114.out.cell 0
      have e1 := HB114.out.cell 1
      have f0 := HB114.out.frozen 0
      have f1 := HB114.out.frozen 1
      simp at d2 e0 e1
      have l9 := HB94.out.lt
      have l11 := HB114.out.lt
      have hne : H7 + 1 ≠ H11 := by have := HORD.out;omega
      have hne2 : H11 ≠ H7 + 1 := Ne.symm hne
      refine wpAnyS_all (rs := [10]) (by kernel_rfl) (by simp) ?_
      intro ix hix
      simp only [List.mem_cons,List.not_mem_nil,or_false] at hix
      subst hix
      unfold wpOp
      go_simp
      have hB95 := HB94.out.set 2 (.slice none 0 0)
      have hB115 : Blk (W4.setCell ⟨H7 + 1,2,none⟩ (.slice none 0 0)) H11 #[.int .i64 (tl : Int), .string PB] 76 := (Below.heap_setCell _ _ _ _ (by simp only;omega)).trans HB114.out
      have HE5 : ∀ L : Array Bool,HeldS 11 (fun w' => w'.cell? ⟨H7 + 1,1,none⟩ = some (.int .i64 (dl : Int))) (fun w' => Blk w' H11 #[.int .i64 (tl : Int), .string PB] 76) L (W4.setCell ⟨H7 + 1,2,none⟩ (.slice none 0 0)) := fun L => ⟨by have q := hB95.cell 1;simp at q;exact q,fun _ => hB115⟩
      first | refine .inl ⟨HE5 _, ?_⟩ | refine ⟨HE5 _, ?_⟩
      refine wpAnyS_all (rs := [11]) (by kernel_rfl) (by simp) ?_
      intro ix hix
      simp only [List.mem_cons,List.not_mem_nil,or_false] at hix
      subst hix
      unfold wpOp
      go_simp
      have hB96 : Blk (((W4.setCell ⟨H7 + 1,2,none⟩ (.slice none 0 0)).setCell ⟨H11,0,none⟩ (.int .i64 0)).setCell ⟨H11,1,none⟩ (.string ⟨#[]⟩)) (H7 + 1) #[.int .i64 (i : Int), .int .i64 (dl : Int), .slice none 0 0] 69 := (Below.heap_setCell _ _ _ _ (by simp only;omega)).trans ((Below.heap_setCell _ _ _ _ (by simp only;omega)).trans hB95)
      have hB116 := (hB115.set 0 (.int .i64 0)).set 1 (.string ⟨#[]⟩)
      have hb6 := below_set (below_set (below_set (HBW3.out.trans (HB34.out.mono HBW3.out.size)) (H7 + 1) 2 (.slice none 0 0) (by have := HORD.out;omega)) H11 0 (.int .i64 0) (by have := HORD.out;omega)) H11 1 (.string ⟨#[]⟩) (by have := HORD.out;omega)
      have hB76 := ((HB73.out.below HB34.out).grown (grown_set W4 (H7 + 1) 2 (.slice none 0 0)) (by simp)).grown (grown_set2 (W4.setCell ⟨H7 + 1,2,none⟩ (.slice none 0 0)) H11 0 1 (.int .i64 0) (.string ⟨#[]⟩)) (by have := HORD.out;simp;omega)
      have HB96 := Lib.hid hB96
      have HB76 := Lib.hid hB76
      have HB116 := Lib.hid hB116
      have HB6 := Lib.hid hb6
      have hz6 := hb6.size
      have hE6 := hB96.cell 1
      simp at hE6
      obtain ⟨W6,hW6⟩ : ∃ q,((W4.setCell ⟨H7 + 1,2,none⟩ (.slice none 0 0)).setCell ⟨H11,0,none⟩ (.int .i64 0)).setCell ⟨H11,1,none⟩ (.string ⟨#[]⟩) = q := ⟨_,rfl⟩
      rw [hW6] at HB96 HB76 HB116 HB6 hz6
      try simp only [hW6] at hE6
      have HE6 : ∀ L : Array Bool,L.getD 11 false = true → HeldS 11 (fun w' => w'.cell? ⟨H7 + 1,1,none⟩ = some (.int .i64 (dl : Int))) (fun w' => Blk w' H11 #[.int .i64 (tl : Int), .string PB] 76) L W6 := fun L hL => ⟨by have q := HB96.out.cell 1;simp at q;exact q,fun e => by rw [hL] at e;cases e⟩
      rw [hW6]
      clear hB95 hB115 HE5 hB76 hB96 hB116 hb6 hE6 hW6 d2 q2 e0 e1 f0 f1 l9 l11 hne hne2
      first | refine .inl ⟨HE6 _ (by kernel_rfl), ?_⟩ | refine ⟨HE6 _ (by kernel_rfl), ?_⟩
      refine wpAnyS_all (rs := [12]) (by kernel_rfl) (by simp) ?_
      intro ix hix
      simp only [List.mem_cons,List.not_mem_nil,or_false] at hix
      subst hix
      unfold wpOp
      go_simp
      first | refine .inl ⟨HE6 _ (by kernel_rfl), ?_⟩ | refine ⟨HE6 _ (by kernel_rfl), ?_⟩ | refine .inl ?_ | skip
      refine wpAnyS_done (by kernel_rfl) ?_ _
      clear HE4 HE6
      have HE : P = (8,none) := by rw [← HP.out,HX.out,HI.out];simp only [HKN.out,htk]
      subst HE
      clear KT KN htk ht1 ht2 hz6
      go_wp2
      go_ret
      exact ⟨fun _ => ⟨rfl,HB6.out,HST.out.below HB6.out⟩,fun T2 f h => by cases h⟩
     | some p =>
      obtain ⟨l,T1⟩ := p
      obtain ⟨hl1,hl2,hl3,hl4,hl5,_⟩ := takeS_facts htk
      obtain ⟨A2,c2,rfl,hrow⟩ := ht1 l T1 htk
      have KG := fun (w5 : World) (hL : Lies w5 A (ecells (oldX m.F name))) => give_any T1 (oldX m.F name) A c w5 (by rw [hl4];exact HTL.out) hL (oldX_small HBB.out name).2 (by have := (oldX_small HBB.out name).1;omega)
      rw [HXL.out] at KG
      have KS := fun (w5 : World) hS hA => sectors_any S m.most A2 c2 l w5 hS (by have := HBB.out.mo;omega) hA (by omega) (fun x hx => by have := (hl3 x hx).2.1;have := HTL.out;omega) (by rw [secL_length,hl5, ← HKN.out,HDL.out];unfold needsN;omega)
      have hLA2 := Lies.of_row hrow
      have hTA2 := Typed.of_row hrow
      have hA2X : ∀ g,A2 = some g → W0.heap.size ≤ g.block := fun g hg => own_ge hrow g hg
      have HL := Lib.hid (And.intro hLA2 (And.intro hTA2 hA2X))
      have HFACT := Lib.hid (And.intro hl1 (And.intro hl3 (And.intro hl4 hl5)))
      have HTK := Lib.hid htk
      unfold spv at KG
      obtain ⟨t1,ht1l⟩ : ∃ q,T1.length = q := ⟨_,rfl⟩
      obtain ⟨PB1,hPB1⟩ : ∃ q,mk (packB T1) = q := ⟨_,rfl⟩
      obtain ⟨ll,hll⟩ : ∃ q,l.length = q := ⟨_,rfl⟩
      rw [ht1l,hPB1] at KG ⊢
      rw [hll] at KS ⊢
      have HLL := Lib.hid hll
      have HT1L := Lib.hid (And.intro ht1l hPB1)
      clear ht1 ht2 htk hl1 hl2 hl3 hl4 hl5 hrow hLA2 hTA2 hA2X ht1l hPB1 hll KT KN
      refine ⟨HE4 _, ?_⟩
      try go_simp
      clear HE0 hB9 hB11 hb0 hb4 hB94 hB114
      refine tkS 5 (.tuple #[.slice A2 ll c2, .agg #[.int .i64 (t1 : Int), .string PB1], .int .i64 0]) rfl (HE4 _) (fun w' hS => ?_) ?_
      ·clear hS;go_simp
      try go_simp
      refine tkS 6 (.slice A2 ll c2) rfl (HE4 _) (fun w' hS => ?_) ?_
      ·clear hS;go_simp
      try go_simp
      refine tkS 7 (.agg #[.int .i64 (t1 : Int), .string PB1]) rfl (HE4 _) (fun w' hS => ?_) ?_
      ·clear hS;go_simp
      try go_simp
      refine tkS 8 (.int .i64 0) rfl (HE4 _) (fun w' hS => ?_) ?_
      ·clear hS;go_simp
      try go_simp
      refine tkS 9 (.pointer (some ⟨H7 + 1,2,none⟩)) rfl (HE4 _) (fun w' hS => ?_) ?_
      ·clear hS;go_simp
      try go_simp
      have d2 := HB94.out.cell 2
      have q2 := HB94.out.frozen 2
      have e0 := HB114.out.cell 0
      have e1 := HB114.out.cell 1
      have f0 := HB114.out.frozen 0
      have f1 := HB114.out.frozen 1
      simp at d2 e0 e1
      have l9 := HB94.out.lt
      have l11 := HB114.out.lt
      have hne : H7 + 1 ≠ H11 := by have := HORD.out;omega
      have hne2 : H11 ≠ H7 + 1 := Ne.symm hne
      refine wpAnyS_all (rs := [10]) (by kernel_rfl) (by simp) ?_
      intro ix hix
      simp only [List.mem_cons,List.not_mem_nil,or_false] at hix
      subst hix
      unfold wpOp
      go_simp
      have hB95 := HB94.out.set 2 (.slice A2 ll c2)
      have hB115 : Blk (W4.setCell ⟨H7 + 1,2,none⟩ (.slice A2 ll c2)) H11 #[.int .i64 (tl : Int), .string PB] 76 := (Below.heap_setCell _ _ _ _ (by simp only;omega)).trans HB114.out
      have HE5 : ∀ L : Array Bool,HeldS 11 (fun w' => w'.cell? ⟨H7 + 1,1,none⟩ = some (.int .i64 (dl : Int))) (fun w' => Blk w' H11 #[.int .i64 (tl : Int), .string PB] 76) L (W4.setCell ⟨H7 + 1,2,none⟩ (.slice A2 ll c2)) := fun L => ⟨by have q := hB95.cell 1;simp at q;exact q,fun _ => hB115⟩
      first | refine .inl ⟨HE5 _, ?_⟩ | refine ⟨HE5 _, ?_⟩
      refine wpAnyS_all (rs := [11]) (by kernel_rfl) (by simp) ?_
      intro ix hix
      simp only [List.mem_cons,List.not_mem_nil,or_false] at hix
      subst hix
      unfold wpOp
      go_simp
      have hB96 : Blk (((W4.setCell ⟨H7 + 1,2,none⟩ (.slice A2 ll c2)).setCell ⟨H11,0,none⟩ (.int .i64 (t1 : Int))).setCell ⟨H11,1,none⟩ (.string PB1)) (H7 + 1) #[.int .i64 (i : Int), .int .i64 (dl : Int), .slice A2 ll c2] 69 := (Below.heap_setCell _ _ _ _ (by simp only;omega)).trans ((Below.heap_setCell _ _ _ _ (by simp only;omega)).trans hB95)
      have hB116 := (hB115.set 0 (.int .i64 (t1 : Int))).set 1 (.string PB1)
      have hb6 := below_set (below_set (below_set (HBW3.out.trans (HB34.out.mono HBW3.out.size)) (H7 + 1) 2 (.slice A2 ll c2) (by have := HORD.out;omega)) H11 0 (.int .i64 (t1 : Int)) (by have := HORD.out;omega)) H11 1 (.string PB1) (by have := HORD.out;omega)
      have hB76 := ((HB73.out.below HB34.out).grown (grown_set W4 (H7 + 1) 2 (.slice A2 ll c2)) (by simp)).grown (grown_set2 (W4.setCell ⟨H7 + 1,2,none⟩ (.slice A2 ll c2)) H11 0 1 (.int .i64 (t1 : Int)) (.string PB1)) (by have := HORD.out;simp;omega)
      have HB96 := Lib.hid hB96
      have HB76 := Lib.hid hB76
      have HB116 := Lib.hid hB116
      have HB6 := Lib.hid hb6
      have hz6 := hb6.size
      have hE6 := hB96.cell 1
      simp at hE6
      have hL4 := HL.out
      obtain ⟨hL51,hL52⟩ := hL4.1.grown hL4.2.1 (grown_set W4 (H7 + 1) 2 (.slice A2 ll c2)) (fun g e => by cases e;exact ⟨_,69,_,HB94.out,by decide⟩)
      obtain ⟨hL61,hL62⟩ := hL51.grown hL52 (grown_set2 (W4.setCell ⟨H7 + 1,2,none⟩ (.slice A2 ll c2)) H11 0 1 (.int .i64 (t1 : Int)) (.string PB1)) (fun g e => by cases e;exact ⟨_,76,_,hB115,by decide⟩)
      have HL6 := Lib.hid (show Lies (((W4.setCell ⟨H7 + 1,2,none⟩ (.slice A2 ll c2)).setCell ⟨H11,0,none⟩ (.int .i64 (t1 : Int))).setCell ⟨H11,1,none⟩ (.string PB1)) A2 (ecells l) ∧ Typed (((W4.setCell ⟨H7 + 1,2,none⟩ (.slice A2 ll c2)).setCell ⟨H11,0,none⟩ (.int .i64 (t1 : Int))).setCell ⟨H11,1,none⟩ (.string PB1)) A2 90 from ⟨hL61,hL62⟩)
      clear hL4 hL51 hL52 hL61 hL62
      obtain ⟨W6,hW6⟩ : ∃ q,((W4.setCell ⟨H7 + 1,2,none⟩ (.slice A2 ll c2)).setCell ⟨H11,0,none⟩ (.int .i64 (t1 : Int))).setCell ⟨H11,1,none⟩ (.string PB1) = q := ⟨_,rfl⟩
      rw [hW6] at HL6
      rw [hW6] at HB96 HB76 HB116 HB6 hz6
      try simp only [hW6] at hE6
      have HE6 : ∀ L : Array Bool,L.getD 11 false = true → HeldS 11 (fun w' => w'.cell? ⟨H7 + 1,1,none⟩ = some (.int .i64 (dl : Int))) (fun w' => Blk w' H11 #[.int .i64 (tl : Int), .string PB] 76) L W6 := fun L hL => ⟨by have q := HB96.out.cell 1;simp at q;exact q,fun e => by rw [hL] at e;cases e⟩
      rw [hW6]
      clear hB95 hB115 HE5 hB76 hB96 hB116 hb6 hE6 hW6 d2 q2 e0 e1 f0 f1 l9 l11 hne hne2
      first | refine .inl ⟨HE6 _ (by kernel_rfl), ?_⟩ | refine ⟨HE6 _ (by kernel_rfl), ?_⟩
      refine wpAnyS_all (rs := [12]) (by kernel_rfl) (by simp) ?_
      intro ix hix
      simp only [List.mem_cons,List.not_mem_nil,or_false] at hix
      subst hix
      unfold wpOp
      go_simp
      first | refine .inl ⟨HE6 _ (by kernel_rfl), ?_⟩ | refine ⟨HE6 _ (by kernel_rfl), ?_⟩ | refine .inl ?_ | skip
      refine wpAnyS_done (by kernel_rfl) ?_ _
      clear HE4 HE6
      have k0 := HB116.out.cell 0
      have k1 := HB116.out.cell 1
      have k2 := HB76.out.cell 2
      simp at k0 k1 k2
      have l11 := HB116.out.lt
      have KG6 := KG W6 (HLA.out.below (Nat.le_refl _) HB6.out)
      have HK := Lib.hid (And.intro k0 (And.intro k1 (And.intro k2 l11)))
      clear KG hz6
      cases htn : turnS false T1 (oldX m.F name) with
      | none =>
       rw [htn] at KG6
       unfold turnV at KG6
       dsimp only at KG6
       have HE : P = (14,none) := by rw [← HP.out,HX.out,HI.out];simp only [HKN.out,HTK.out,htn]
       subst HE
       clear htn KS HK
       go_wp2_with (first | (go_at_call 41;refine KG6.mono ?_;rintro e W7 ⟨rfl,hb7⟩;have hB7x := HB116.out.below hb7;have f0 := hB7x.frozen 0;have f1 := hB7x.frozen 1;have g0 := hB7x.cell 0;have g1 := hB7x.cell 1;simp at g0 g1;have l12 := hB7x.lt;have HB7 := Lib.hid hb7;clear hb7 hB7x k0 k1 k2 l11))
       go_ret
       have hbF := below_set (below_set (HB6.out.trans (HB7.out.mono HB6.out.size)) H11 0 (.int .i64 0) (by have := HORD.out;omega)) H11 1 (.string ⟨#[]⟩) (by have := HORD.out;omega)
       exact ⟨fun _ => ⟨rfl,hbF,HST.out.below hbF⟩,fun T2 f h => by cases h⟩
      | some T2 =>
       rw [htn] at KG6
       unfold turnV spv at KG6
       dsimp only at KG6
       have HE : P = (0,some (T2,⟨name,i,data.length,l⟩)) := by rw [← HP.out,HX.out,HI.out];simp only [HKN.out,HTK.out,htn]
       subst HE
       have HT2 := Lib.hid (turnS_len _ _ _ _ htn)
       obtain ⟨t2,ht2⟩ : ∃ q,T2.length = q := ⟨_,rfl⟩
       obtain ⟨PB2,hPB2⟩ : ∃ q,mk (packB T2) = q := ⟨_,rfl⟩
       rw [ht2,hPB2] at KG6
       have HT2L := Lib.hid (And.intro ht2 hPB2)
       clear htn HK ht2 hPB2
       go_upto_region 19 with (first | (go_at_call 41;refine KG6.mono ?_;rintro e W7 ⟨rfl,hb7⟩;have hB7x := HB116.out.below hb7;have f0 := hB7x.frozen 0;have f1 := hB7x.frozen 1;have g0 := hB7x.cell 0;have g1 := hB7x.cell 1;simp at g0 g1;have l12 := hB7x.lt;have HB7 := Lib.hid hb7;clear hb7 hB7x k0 k1 k2 l11))
       have hB118 := ((HB116.out.below HB7.out).set 0 (.int .i64 (t2 : Int))).set 1 (.string PB2)
       have hB98 : Blk ((W7.setCell ⟨H11,0,none⟩ (.int .i64 (t2 : Int))).setCell ⟨H11,1,none⟩ (.string PB2)) (H7 + 1) #[.int .i64 (i : Int), .int .i64 (dl : Int), .slice A2 ll c2] 69 := (HB96.out.below HB7.out).grown (grown_set2 W7 H11 0 1 _ _) (by have := HORD.out;simp;omega)
       have hb8 := below_set (below_set (HB6.out.trans (HB7.out.mono HB6.out.size)) H11 0 (.int .i64 (t2 : Int)) (by have := HORD.out;omega)) H11 1 (.string PB2) (by have := HORD.out;omega)
       obtain ⟨hL81,hL82⟩ := (HL6.out.1.below (Nat.le_refl _) HB7.out).grown (HL6.out.2.below HB7.out) (grown_set2 W7 H11 0 1 (.int .i64 (t2 : Int)) (.string PB2)) (fun g e => by cases e;exact ⟨_,76,_,HB116.out.below HB7.out,by decide⟩)
       obtain ⟨W8,hW8⟩ : ∃ q,(W7.setCell ⟨H11,0,none⟩ (.int .i64 (t2 : Int))).setCell ⟨H11,1,none⟩ (.string PB2) = q := ⟨_,rfl⟩
       rw [hW8] at hB118 hB98 hb8 hL81 hL82 ⊢
       have HL8 := Lib.hid (And.intro hL81 hL82)
       have HB8 := Lib.hid hb8
       have HBX8 := Lib.hid (And.intro hB98 hB118)
       clear hW8 hB118 hB98 hb8 hL81 hL82 f0 f1 g0 g1 l12 KG6
       refine wp_region_held (S := fun w' => Blk w' (H7 + 1) #[.int .i64 (i : Int), .int .i64 (dl : Int), .slice A2 ll c2] 69 ∧ Blk w' H11 #[.int .i64 (t2 : Int), .string PB2] 76) mixed ?_
       change wpAnyH _ _ _ _ _ _ _ _ W8.drew
       have hS1 : Blk W8.drew (H7 + 1) #[.int .i64 (i : Int), .int .i64 (dl : Int), .slice A2 ll c2] 69 ∧ Blk W8.drew H11 #[.int .i64 (t2 : Int), .string PB2] 76 := HBX8.out
       have hbd : Below w.heap.size w W8.drew := HB8.out.drew
       have hLd : Lies W8.drew A2 (ecells l) ∧ Typed W8.drew A2 90 := HL8.out
       obtain ⟨WA,hWA⟩ : ∃ q,W8.drew = q := ⟨_,rfl⟩
       rw [hWA] at hS1 hbd hLd ⊢
       clear hWA
       have HBD := Lib.hid hbd
       have HLD := Lib.hid hLd
       have hst8 := HST.out.below hbd
       have x5 := hst8.blk.cell 5
       simp at x5
       have HST8 := Lib.hid hst8
       have KSA := KS WA x5 (by exact HLD.out.1)
       clear hbd hLd hst8 x5 KS
       refine tkQ 0 (.pointer (some ⟨S,0,none⟩)) rfl hS1 ?_
       try go_simp
       refine tkQ 1 (.string NM) rfl hS1 ?_
       try go_simp
       refine tkH 2 (.agg #[.int .i64 (i : Int), .int .i64 (dl : Int), .slice A2 ll c2]) rfl hS1 (fun w' hS => ?_) ?_
       ·have q0 := hS.1.cell 0;have q1 := hS.1.cell 1;have q2 := hS.1.cell 2;simp at q0 q1 q2;go_simp
       try go_simp
       refine tkH 3 (.agg #[.int .i64 (t2 : Int), .string PB2]) rfl hS1 (fun w' hS => ?_) ?_
       ·have q0 := hS.2.cell 0;have q1 := hS.2.cell 1;simp at q0 q1;go_simp
       try go_simp
       refine tkQ 4 (.pointer (some ⟨S,0,none⟩)) rfl hS1 ?_
       try go_simp
       refine tkQ 5 (.pointer (some ⟨H7 + 1,2,none⟩)) rfl hS1 ?_
       try go_simp
       refine tkH 6 (.slice A2 ll c2) rfl hS1 (fun w' hS => ?_) ?_
       ·have q2 := hS.1.cell 2;simp at q2;go_simp
       try go_simp
       refine tkQ 8 (.string DT) rfl hS1 ?_
       try go_simp
       refine wpAnyH_all (rs := [7]) (by kernel_rfl) (by simp) ?_
       intro ix hix
       simp only [List.mem_cons,List.not_mem_nil,or_false] at hix
       subst hix
       unfold wpOp
       go_simp
       refine .inl ?_
       go_at_call 43
       refine KSA.mono ?_
       rintro e W9 ⟨⟨A3,c3,rfl,hrow⟩,hb9⟩
       have hS2 : Blk W9 (H7 + 1) #[.int .i64 (i : Int), .int .i64 (dl : Int), .slice A2 ll c2] 69 ∧ Blk W9 H11 #[.int .i64 (t2 : Int), .string PB2] 76 := ⟨hS1.1.below hb9,hS1.2.below hb9⟩
       refine ⟨hS2, ?_⟩
       try go_simp
       have HB9W := Lib.hid (HBD.out.trans (hb9.mono HBD.out.size))
       have HL9 := Lib.hid (And.intro (HLD.out.1.below (Nat.le_refl _) hb9) (HLD.out.2.below hb9))
       have hA3 : ∀ g,A3 = some g → WA.heap.size ≤ g.block := fun g hg => own_ge hrow g hg
       have KP := put_any' X S D Lg M m ⟨name,i,data.length,l⟩ A2 c2 T2 A3 c3 (secL (m.most + 7) l) data W9 (HST8.out.below hb9) HL9.out.1 HL9.out.2 (fun g hg hx => by have q1 := HL.out.2.2 g hg;have q2 := HSLT.out _ (List.mem_cons_of_mem _ (List.mem_cons_of_mem _ hx));have q3 := HW0S.out;have q4 := HBW3.out.size;omega) (Lies.of_row hrow) (fun g hg hx => by have q1 := hA3 g hg;have q2 := HSLT.out _ (List.mem_cons_of_mem _ (List.mem_cons_of_mem _ hx));have q4 := HBD.out.size;omega) (put_secs HBB.out HFACT.out.2.1) (by rw [secL_length,HFACT.out.2.2.2, ← HKN.out,HDL.out];unfold needsN;omega) (by rw [HDL.out];omega) (by rw [HT2.out,HFACT.out.2.2.1]) (by rw [HT2.out,HFACT.out.2.2.1];exact HTL.out) HII.out HGL.out (by show data.length ≤ _;rw [HDL.out];omega) (by have := HFACT.out.1;show l.length ≤ _;omega) (fun x hx => by have := (HFACT.out.2.1 x hx).2.1;have := HTL.out;omega) (bodyB_len _ _ _ HGL.out (by show data.length ≤ _;rw [HDL.out];omega) HFACT.out.1 (fun x hx => by have := (HFACT.out.2.1 x hx).2.1;have := HTL.out;omega)) HBB.out.len HBB.out.mo (by have := HBB.out.ll;omega) (by have := HBB.out.sl;omega)
       unfold spv at KP
       dsimp only at KP
       have hll2 := HLL.out
       have ht2l := HT2L.out
       have hnm := HNM.out
       have hdt := HDT.out
       have hdl2 := HDL.out
       rw [hll2,ht2l.1,ht2l.2,hnm,hdt,hdl2] at KP
       clear hll2 ht2l hnm hdt hdl2 hrow hA3 KSA hb9 hS1
       refine wpAnyH_all (rs := [9]) (by kernel_rfl) (by simp) ?_
       intro ix hix
       simp only [List.mem_cons,List.not_mem_nil,or_false] at hix
       subst hix
       unfold wpOp
       go_simp
       refine .inl ?_
       go_at_call 42
       refine KP.mono ?_
       intro e W10 hp
       have HPP := Lib.hid hp
       obtain ⟨rfl,X1,hM,_⟩ := hp
       have hS3 : Blk W10 (H7 + 1) #[.int .i64 (i : Int), .int .i64 (dl : Int), .slice A2 ll c2] 69 ∧ Blk W10 H11 #[.int .i64 (t2 : Int), .string PB2] 76 := ⟨hM.blk hS2.1 (fun hx => by have := HSLT.out _ hx;have := HORD.out;omega),hM.blk hS2.2 (fun hx => by have := HSLT.out _ hx;have := HORD.out;omega)⟩
       refine ⟨hS3, ?_⟩
       try go_simp
       clear hS2 KP hM
       refine wpAnyH_all (rs := [10]) (by kernel_rfl) (by simp) ?_
       intro ix hix
       simp only [List.mem_cons,List.not_mem_nil,or_false] at hix
       subst hix
       unfold wpOp
       go_simp
       first | refine .inl ⟨hS3, ?_⟩ | refine ⟨hS3, ?_⟩ | refine .inl ?_ | skip
       refine wpAnyH_done (by kernel_rfl) ?_ _
       clear hS3
       go_wp2
       go_ret
       exact ⟨fun h => by (cases h),fun T2' f' h => by (cases h;have q := HPP.out.from HB9W.out;have hd := HDL.out;subst hd;exact q)⟩
   ·have hsl : ∃ f,fileOf m.F name = some f ∧ a = f.entry := by
     rcases HCS.out with ⟨_,_,h3⟩ | ⟨f,h1,h2,_⟩
     ·rw [HNN.out] at h3;cases h3
     ·exact ⟨f,h1,h2⟩
    obtain ⟨f,hf,rfl⟩ := hsl
    have HI := Lib.hid (show slotW m name = some f.entry by unfold slotW;rw [hf])
    obtain ⟨i,hi⟩ : ∃ q,f.entry = q := ⟨_,rfl⟩
    rw [hi] at HI KF
    have HII := Lib.hid (show i < m.most by rw [← hi];exact HBB.out.ent f (fileOf_mem hf))
    clear hf hi
    go_enter Tryz.func14,Tryz.ntmps14
    go_upto_if 34 with (first | (go_at_call 37;refine KF.mono ?_;rintro e w1 ⟨rfl,hb1⟩;have HB1 := Lib.hid hb1;clear hb1))
    have hB7 := (Blk.new w1 #[.int .i64 (i : Int), .int .i64 b, .slice A xl c] 69).alloc (.cells #[.int .i64 (i : Int), .int .i64 dl, .slice none 0 0] 69)
    have hB9 := Blk.new (w1.alloc (.cells #[.int .i64 (i : Int), .int .i64 b, .slice A xl c] 69)) #[.int .i64 (i : Int), .int .i64 dl, .slice none 0 0] 69
    have hbw := (HB1.out.alloc HB1.out.size (.cells #[.int .i64 (i : Int), .int .i64 b, .slice A xl c] 69)).alloc (by have := HB1.out.size;simp;omega) (.cells #[.int .i64 (i : Int), .int .i64 dl, .slice none 0 0] 69)
    rw [World.size_alloc] at hB9
    have hH7 := HB1.out.size
    obtain ⟨H7,hH⟩ : ∃ q,w1.heap.size = q := ⟨_,rfl⟩
    obtain ⟨W1,hW⟩ : ∃ q,(w1.alloc (.cells #[.int .i64 (i : Int), .int .i64 b, .slice A xl c] 69)).alloc (.cells #[.int .i64 (i : Int), .int .i64 dl, .slice none 0 0] 69) = q := ⟨_,rfl⟩
    rw [hH] at hB7 hB9 hH7
    simp only [hW] at hB7 hB9 hbw ⊢
    try simp only [hH]
    have hst1 := HST.out.below hbw
    have s2 := HX2.out W1 hst1
    have s3 := HX3.out W1 hst1
    have hS2 := hst1.blk.lt
    simp at s2 s3
    have HB7 := Lib.hid hB7
    have HB9 := Lib.hid hB9
    have HBW := Lib.hid hbw
    have HH7 := Lib.hid hH7
    have HWZ := Lib.hid (show W1.heap.size = H7 + 2 by rw [← hW, ← hH];simp)
    clear hH hW hB7 hB9 hbw hst1 hH7
    go_upto_region 13 with (fail)
    have hB113 := Blk.new W1 #[.int .i64 (tl : Int), .string PB] 76
    have hB93 := HB9.out.alloc (.cells #[.int .i64 (tl : Int), .string PB] 76)
    have hB73 := HB7.out.alloc (.cells #[.int .i64 (tl : Int), .string PB] 76)
    have hbw3 := HBW.out.alloc HBW.out.size (.cells #[.int .i64 (tl : Int), .string PB] 76)
    have hlt11 : H7 + 2 ≤ W1.heap.size := by rw [HWZ.out];omega
    obtain ⟨H11,hH11⟩ : ∃ q,W1.heap.size = q := ⟨_,rfl⟩
    rw [hH11] at hB113 hlt11
    obtain ⟨W3,hW3⟩ : ∃ q,W1.alloc (.cells #[.int .i64 (tl : Int), .string PB] 76) = q := ⟨_,rfl⟩
    simp only [hW3] at hB113 hB93 hB73 hbw3 ⊢
    try simp only [hH11]
    have HB73 := Lib.hid hB73
    have HB93 := Lib.hid hB93
    have HB113 := Lib.hid hB113
    have HST3 := Lib.hid (HST.out.below hbw3)
    have HBW3 := Lib.hid hbw3
    have HORD := Lib.hid (show w.heap.size ≤ H7 ∧ H7 + 2 ≤ H11 ∧ W3.heap.size = H11 + 1 from ⟨HH7.out,hlt11,by rw [← hW3, ← hH11];simp⟩)
    clear hW3 hH11 hB113 hB93 hB73 hbw3 hlt11 s2 s3 hS2 KV KF
    have mixed := mixedT
    refine wp_region_S 11 (fun w' => w'.cell? ⟨H7 + 1,1,none⟩ = some (.int .i64 (dl : Int))) (fun w' => Blk w' H11 #[.int .i64 (tl : Int), .string PB] 76) mixed ?_
    change wpAnyS _ _ _ _ _ _ _ _ _ _ W3.drew
    have hB9 : Blk W3.drew (H7 + 1) #[.int .i64 (i : Int), .int .i64 (dl : Int), .slice none 0 0] 69 := HB93.out
    have hB11 : Blk W3.drew H11 #[.int .i64 (tl : Int), .string PB] 76 := HB113.out
    have hb0 : Below W3.heap.size W3 W3.drew := (Below.refl _ _).drew
    obtain ⟨W0,hW0⟩ : ∃ q,W3.drew = q := ⟨_,rfl⟩
    rw [hW0] at hB9 hB11 hb0 ⊢
    clear hW0
    have HE0 : ∀ L : Array Bool,HeldS 11 (fun w' => w'.cell? ⟨H7 + 1,1,none⟩ = some (.int .i64 (dl : Int))) (fun w' => Blk w' H11 #[.int .i64 (tl : Int), .string PB] 76) L W0 := fun L => ⟨by have q := hB9.cell 1;simp at q;exact q,fun _ => hB11⟩
    refine wpAnyS_take2 (i := 0) (v := .agg #[.int .i64 (tl : Int), .string PB]) rfl (by decide) rfl (by kernel_rfl) (by kernel_rfl) (by kernel_rfl) (by kernel_rfl) (by kernel_rfl) (fun c a w h => h) (.inl ⟨by kernel_rfl,fun w' hS => ?_⟩) (HE0 _) ?_
    ·have q0 := hS.2.cell 0;have q1 := hS.2.cell 1;simp at q0 q1;go_simp
    try go_simp
    refine tkS 1 (.pointer (some ⟨H7 + 1,1,none⟩)) rfl (HE0 _) (fun w' hS => ?_) ?_
    ·clear hS;go_simp
    try go_simp
    refine tkS 2 (.int .i64 (dl : Int)) rfl (HE0 _) (fun w' hS => ?_) ?_
    ·have q0 := hS;go_simp
    try go_simp
    refine wpAnyS_all (rs := [3]) (by kernel_rfl) (by simp) ?_
    intro ix hix
    simp only [List.mem_cons,List.not_mem_nil,or_false] at hix
    subst hix
    unfold wpOp
    go_simp
    refine .inl ?_
    go_at_call 40
    refine (KN W0).mono ?_
    rintro e w' ⟨rfl,hw⟩
    obtain rfl := hw.symm
    refine ⟨HE0 _, ?_⟩
    try go_simp
    refine wpAnyS_all (rs := [4]) (by kernel_rfl) (by simp) ?_
    intro ix hix
    simp only [List.mem_cons,List.not_mem_nil,or_false] at hix
    subst hix
    unfold wpOp
    go_simp
    refine .inl ?_
    go_at_call 39
    refine (KT W0).mono ?_
    rintro e W4 ⟨ht1,ht2,hb4⟩
    have hB94 := hB9.below hb4
    have hB114 := hB11.below hb4
    have HE4 : ∀ L : Array Bool,HeldS 11 (fun w' => w'.cell? ⟨H7 + 1,1,none⟩ = some (.int .i64 (dl : Int))) (fun w' => Blk w' H11 #[.int .i64 (tl : Int), .string PB] 76) L W4 := fun L => ⟨by have q := hB94.cell 1;simp at q;exact q,fun _ => hB114⟩
    have HB94 := Lib.hid hB94
    have HB114 := Lib.hid hB114
    have HB34 := Lib.hid (hb0.trans (hb4.mono hb0.size))
    have HW0S := Lib.hid hb0.size
    cases htk : takeS m.T kn 64 with
    | none =>
     obtain rfl := ht2 htk
     refine ⟨HE4 _, ?_⟩
     try go_simp
     clear HE0 hB9 hB11 hb0 hb4 hB94 hB114
     refine tkS 5 (.tuple #[.slice none 0 0, .agg #[.int .i64 0, .string ⟨#[]⟩], .int .i64 8]) rfl (HE4 _) (fun w' hS => ?_) ?_
     ·clear hS;go_simp
     try go_simp
     refine tkS 6 (.slice none 0 0) rfl (HE4 _) (fun w' hS => ?_) ?_
     ·clear hS;go_simp
     try go_simp
     refine tkS 7 (.agg #[.int .i64 0, .string ⟨#[]⟩]) rfl (HE4 _) (fun w' hS => ?_) ?_
     ·clear hS;go_simp
     try go_simp
     refine tkS 8 (.int .i64 8) rfl (HE4 _) (fun w' hS => ?_) ?_
     ·clear hS;go_simp
     try go_simp
     refine tkS 9 (.pointer (some ⟨H7 + 1,2,none⟩)) rfl (HE4 _) (fun w' hS => ?_) ?_
     ·clear hS;go_simp
     try go_simp
     have d2 := HB94.out.cell 2
     have q2 := HB94.out.frozen 2
     have e0 := HB114.out.cell 0
     have e1 := HB114.out.cell 1
     have f0 := HB114.out.frozen 0
     have f1 := HB114.out.frozen 1
     simp at d2 e0 e1
     have l9 := HB94.out.lt
     have l11 := HB114.out.lt
     have hne : H7 + 1 ≠ H11 := by have := HORD.out;omega
     have hne2 : H11 ≠ H7 + 1 := Ne.symm hne
     refine wpAnyS_all (rs := [10]) (by kernel_rfl) (by simp) ?_
     intro ix hix
     simp only [List.mem_cons,List.not_mem_nil,or_false] at hix
     subst hix
     unfold wpOp
     go_simp
     have hB95 := HB94.out.set 2 (.slice none 0 0)
     have hB115 : Blk (W4.setCell ⟨H7 + 1,2,none⟩ (.slice none 0 0)) H11 #[.int .i64 (tl : Int), .string PB] 76 := (Below.heap_setCell _ _ _ _ (by simp only;omega)).trans HB114.out
     have HE5 : ∀ L : Array Bool,HeldS 11 (fun w' => w'.cell? ⟨H7 + 1,1,none⟩ = some (.int .i64 (dl : Int))) (fun w' => Blk w' H11 #[.int .i64 (tl : Int), .string PB] 76) L (W4.setCell ⟨H7 + 1,2,none⟩ (.slice none 0 0)) := fun L => ⟨by have q := hB95.cell 1;simp at q;exact q,fun _ => hB115⟩
     first | refine .inl ⟨HE5 _, ?_⟩ | refine ⟨HE5 _, ?_⟩
     refine wpAnyS_all (rs := [11]) (by kernel_rfl) (by simp) ?_
     intro ix hix
     simp only [List.mem_cons,List.not_mem_nil,or_false] at hix
     subst hix
     unfold wpOp
     go_simp
     have hB96 : Blk (((W4.setCell ⟨H7 + 1,2,none⟩ (.slice none 0 0)).setCell ⟨H11,0,none⟩ (.int .i64 0)).setCell ⟨H11,1,none⟩ (.string ⟨#[]⟩)) (H7 + 1) #[.int .i64 (i : Int), .int .i64 (dl : Int), .slice none 0 0] 69 := (Below.heap_setCell _ _ _ _ (by simp only;omega)).trans ((Below.heap_setCell _ _ _ _ (by simp only;omega)).trans hB95)
     have hB116 := (hB115.set 0 (.int .i64 0)).set 1 (.string ⟨#[]⟩)
     have hb6 := below_set (below_set (below_set (HBW3.out.trans (HB34.out.mono HBW3.out.size)) (H7 + 1) 2 (.slice none 0 0) (by have := HORD.out;omega)) H11 0 (.int .i64 0) (by have := HORD.out;omega)) H11 1 (.string ⟨#[]⟩) (by have := HORD.out;omega)
     have hB76 := ((HB73.out.below HB34.out).grown (grown_set W4 (H7 + 1) 2 (.slice none 0 0)) (by simp)).grown (grown_set2 (W4.setCell ⟨H7 + 1,2,none⟩ (.slice none 0 0)) H11 0 1 (.int .i64 0) (.string ⟨#[]⟩)) (by have := HORD.out;simp;omega)
     have HB96 := Lib.hid hB96
     have HB76 := Lib.hid hB76
     have HB116 := Lib.hid hB116
     have HB6 := Lib.hid hb6
     have hz6 := hb6.size
     have hE6 := hB96.cell 1
     simp at hE6
     obtain ⟨W6,hW6⟩ : ∃ q,((W4.setCell ⟨H7 + 1,2,none⟩ (.slice none 0 0)).setCell ⟨H11,0,none⟩ (.int .i64 0)).setCell ⟨H11,1,none⟩ (.string ⟨#[]⟩) = q := ⟨_,rfl⟩
     rw [hW6] at HB96 HB76 HB116 HB6 hz6
     try simp only [hW6] at hE6
     have HE6 : ∀ L : Array Bool,L.getD 11 false = true → HeldS 11 (fun w' => w'.cell? ⟨H7 + 1,1,none⟩ = some (.int .i64 (dl : Int))) (fun w' => Blk w' H11 #[.int .i64 (tl : Int), .string PB] 76) L W6 := fun L hL => ⟨by have q := HB96.out.cell 1;simp at q;exact q,fun e => by rw [hL] at e;cases e⟩
     rw [hW6]
     clear hB95 hB115 HE5 hB76 hB96 hB116 hb6 hE6 hW6 d2 q2 e0 e1 f0 f1 l9 l11 hne hne2
     first | refine .inl ⟨HE6 _ (by kernel_rfl), ?_⟩ | refine ⟨HE6 _ (by kernel_rfl), ?_⟩
     refine wpAnyS_all (rs := [12]) (by kernel_rfl) (by simp) ?_
     intro ix hix
     simp only [List.mem_cons,List.not_mem_nil,or_false] at hix
     subst hix
     unfold wpOp
     go_simp
     first | refine .inl ⟨HE6 _ (by kernel_rfl), ?_⟩ | refine ⟨HE6 _ (by kernel_rfl), ?_⟩ | refine .inl ?_ | skip
     refine wpAnyS_done (by kernel_rfl) ?_ _
     clear HE4 HE6
     have HE : P = (8,none) := by rw [← HP.out,HX.out,HI.out];simp only [HKN.out,htk]
     subst HE
     clear KT KN htk ht1 ht2 hz6
     go_wp2
     go_ret
     exact ⟨fun _ => ⟨rfl,HB6.out,HST.out.below HB6.out⟩,fun T2 f h => by cases h⟩
    | some p =>
     obtain ⟨l,T1⟩ := p
     obtain ⟨hl1,hl2,hl3,hl4,hl5,_⟩ := takeS_facts htk
     obtain ⟨A2,c2,rfl,hrow⟩ := ht1 l T1 htk
     have KG := fun (w5 : World) (hL : Lies w5 A (ecells (oldX m.F name))) => give_any T1 (oldX m.F name) A c w5 (by rw [hl4];exact HTL.out) hL (oldX_small HBB.out name).2 (by have := (oldX_small HBB.out name).1;omega)
     rw [HXL.out] at KG
     have KS := fun (w5 : World) hS hA => sectors_any S m.most A2 c2 l w5 hS (by have := HBB.out.mo;omega) hA (by omega) (fun x hx => by have := (hl3 x hx).2.1;have := HTL.out;omega) (by rw [secL_length,hl5, ← HKN.out,HDL.out];unfold needsN;omega)
     have hLA2 := Lies.of_row hrow
     have hTA2 := Typed.of_row hrow
     have hA2X : ∀ g,A2 = some g → W0.heap.size ≤ g.block := fun g hg => own_ge hrow g hg
     have HL := Lib.hid (And.intro hLA2 (And.intro hTA2 hA2X))
     have HFACT := Lib.hid (And.intro hl1 (And.intro hl3 (And.intro hl4 hl5)))
     have HTK := Lib.hid htk
     unfold spv at KG
     obtain ⟨t1,ht1l⟩ : ∃ q,T1.length = q := ⟨_,rfl⟩
     obtain ⟨PB1,hPB1⟩ : ∃ q,mk (packB T1) = q := ⟨_,rfl⟩
     obtain ⟨ll,hll⟩ : ∃ q,l.length = q := ⟨_,rfl⟩
     rw [ht1l,hPB1] at KG ⊢
     rw [hll] at KS ⊢
     have HLL := Lib.hid hll
     have HT1L := Lib.hid (And.intro ht1l hPB1)
     clear ht1 ht2 htk hl1 hl2 hl3 hl4 hl5 hrow hLA2 hTA2 hA2X ht1l hPB1 hll KT KN
     refine ⟨HE4 _, ?_⟩
     try go_simp
     clear HE0 hB9 hB11 hb0 hb4 hB94 hB114
     refine tkS 5 (.tuple #[.slice A2 ll c2, .agg #[.int .i64 (t1 : Int), .string PB1], .int .i64 0]) rfl (HE4 _) (fun w' hS => ?_) ?_
     ·clear hS;go_simp
     try go_simp
     refine tkS 6 (.slice A2 ll c2) rfl (HE4 _) (fun w' hS => ?_) ?_
     ·clear hS;go_simp
     try go_simp
     refine tkS 7 (.agg #[.int .i64 (t1 : Int), .string PB1]) rfl (HE4 _) (fun w' hS => ?_) ?_
     ·clear hS;go_simp
     try go_simp
     refine tkS 8 (.int .i64 0) rfl (HE4 _) (fun w' hS => ?_) ?_
     ·clear hS;go_simp
     try go_simp
     refine tkS 9 (.pointer (some ⟨H7 + 1,2,none⟩)) rfl (HE4 _) (fun w' hS => ?_) ?_
     ·clear hS;go_simp
     try go_simp
     have d2 := HB94.out.cell 2
     have q2 := HB94.out.frozen 2
     have e0 := HB114.out.cell 0
     have e1 := HB114.out.cell 1
     have f0 := HB114.out.frozen 0
     have f1 := HB114.out.frozen 1
     simp at d2 e0 e1
     have l9 := HB94.out.lt
     have l11 := HB114.out.lt
     have hne : H7 + 1 ≠ H11 := by have := HORD.out;omega
     have hne2 : H11 ≠ H7 + 1 := Ne.symm hne
     refine wpAnyS_all (rs := [10]) (by kernel_rfl) (by simp) ?_
     intro ix hix
     simp only [List.mem_cons,List.not_mem_nil,or_false] at hix
     subst hix
     unfold wpOp
     go_simp
     have hB95 := HB94.out.set 2 (.slice A2 ll c2)
     have hB115 : Blk (W4.setCell ⟨H7 + 1,2,none⟩ (.slice A2 ll c2)) H11 #[.int .i64 (tl : Int), .string PB] 76 := (Below.heap_setCell _ _ _ _ (by simp only;omega)).trans HB114.out
     have HE5 : ∀ L : Array Bool,HeldS 11 (fun w' => w'.cell? ⟨H7 + 1,1,none⟩ = some (.int .i64 (dl : Int))) (fun w' => Blk w' H11 #[.int .i64 (tl : Int), .string PB] 76) L (W4.setCell ⟨H7 + 1,2,none⟩ (.slice A2 ll c2)) := fun L => ⟨by have q := hB95.cell 1;simp at q;exact q,fun _ => hB115⟩
     first | refine .inl ⟨HE5 _, ?_⟩ | refine ⟨HE5 _, ?_⟩
     refine wpAnyS_all (rs := [11]) (by kernel_rfl) (by simp) ?_
     intro ix hix
     simp only [List.mem_cons,List.not_mem_nil,or_false] at hix
     subst hix
     unfold wpOp
     go_simp
     have hB96 : Blk (((W4.setCell ⟨H7 + 1,2,none⟩ (.slice A2 ll c2)).setCell ⟨H11,0,none⟩ (.int .i64 (t1 : Int))).setCell ⟨H11,1,none⟩ (.string PB1)) (H7 + 1) #[.int .i64 (i : Int), .int .i64 (dl : Int), .slice A2 ll c2] 69 := (Below.heap_setCell _ _ _ _ (by simp only;omega)).trans ((Below.heap_setCell _ _ _ _ (by simp only;omega)).trans hB95)
     have hB116 := (hB115.set 0 (.int .i64 (t1 : Int))).set 1 (.string PB1)
     have hb6 := below_set (below_set (below_set (HBW3.out.trans (HB34.out.mono HBW3.out.size)) (H7 + 1) 2 (.slice A2 ll c2) (by have := HORD.out;omega)) H11 0 (.int .i64 (t1 : Int)) (by have := HORD.out;omega)) H11 1 (.string PB1) (by have := HORD.out;omega)
     have hB76 := ((HB73.out.below HB34.out).grown (grown_set W4 (H7 + 1) 2 (.slice A2 ll c2)) (by simp)).grown (grown_set2 (W4.setCell ⟨H7 + 1,2,none⟩ (.slice A2 ll c2)) H11 0 1 (.int .i64 (t1 : Int)) (.string PB1)) (by have := HORD.out;simp;omega)
     have HB96 := Lib.hid hB96
     have HB76 := Lib.hid hB76
     have HB116 := Lib.hid hB116
     have HB6 := Lib.hid hb6
     have hz6 := hb6.size
     have hE6 := hB96.cell 1
     simp at hE6
     have hL4 := HL.out
     obtain ⟨hL51,hL52⟩ := hL4.1.grown hL4.2.1 (grown_set W4 (H7 + 1) 2 (.slice A2 ll c2)) (fun g e => by cases e;exact ⟨_,69,_,HB94.out,by decide⟩)
     obtain ⟨hL61,hL62⟩ := hL51.grown hL52 (grown_set2 (W4.setCell ⟨H7 + 1,2,none⟩ (.slice A2 ll c2)) H11 0 1 (.int .i64 (t1 : Int)) (.string PB1)) (fun g e => by cases e;exact ⟨_,76,_,hB115,by decide⟩)
     have HL6 := Lib.hid (show Lies (((W4.setCell ⟨H7 + 1,2,none⟩ (.slice A2 ll c2)).setCell ⟨H11,0,none⟩ (.int .i64 (t1 : Int))).setCell ⟨H11,1,none⟩ (.string PB1)) A2 (ecells l) ∧ Typed (((W4.setCell ⟨H7 + 1,2,none⟩ (.slice A2 ll c2)).setCell ⟨H11,0,none⟩ (.int .i64 (t1 : Int))).setCell ⟨H11,1,none⟩ (.string PB1)) A2 90 from ⟨hL61,hL62⟩)
     clear hL4 hL51 hL52 hL61 hL62
     obtain ⟨W6,hW6⟩ : ∃ q,((W4.setCell ⟨H7 + 1,2,none⟩ (.slice A2 ll c2)).setCell ⟨H11,0,none⟩ (.int .i64 (t1 : Int))).setCell ⟨H11,1,none⟩ (.string PB1) = q := ⟨_,rfl⟩
     rw [hW6] at HL6
     rw [hW6] at HB96 HB76 HB116 HB6 hz6
     try simp only [hW6] at hE6
     have HE6 : ∀ L : Array Bool,L.getD 11 false = true → HeldS 11 (fun w' => w'.cell? ⟨H7 + 1,1,none⟩ = some (.int .i64 (dl : Int))) (fun w' => Blk w' H11 #[.int .i64 (tl : Int), .string PB] 76) L W6 := fun L hL => ⟨by have q := HB96.out.cell 1;simp at q;exact q,fun e => by rw [hL] at e;cases e⟩
     rw [hW6]
     clear hB95 hB115 HE5 hB76 hB96 hB116 hb6 hE6 hW6 d2 q2 e0 e1 f0 f1 l9 l11 hne hne2
     first | refine .inl ⟨HE6 _ (by kernel_rfl), ?_⟩ | refine ⟨HE6 _ (by kernel_rfl), ?_⟩
     refine wpAnyS_all (rs := [12]) (by kernel_rfl) (by simp) ?_
     intro ix hix
     simp only [List.mem_cons,List.not_mem_nil,or_false] at hix
     subst hix
     unfold wpOp
     go_simp
     first | refine .inl ⟨HE6 _ (by kernel_rfl), ?_⟩ | refine ⟨HE6 _ (by kernel_rfl), ?_⟩ | refine .inl ?_ | skip
     refine wpAnyS_done (by kernel_rfl) ?_ _
     clear HE4 HE6
     have k0 := HB116.out.cell 0
     have k1 := HB116.out.cell 1
     have k2 := HB76.out.cell 2
     simp at k0 k1 k2
     have l11 := HB116.out.lt
     have KG6 := KG W6 (HLA.out.below (Nat.le_refl _) HB6.out)
     have HK := Lib.hid (And.intro k0 (And.intro k1 (And.intro k2 l11)))
     clear KG hz6
     cases htn : turnS false T1 (oldX m.F name) with
     | none =>
      rw [htn] at KG6
      unfold turnV at KG6
      dsimp only at KG6
      have HE : P = (14,none) := by rw [← HP.out,HX.out,HI.out];simp only [HKN.out,HTK.out,htn]
      subst HE
      clear htn KS HK
      go_wp2_with (first | (go_at_call 41;refine KG6.mono ?_;rintro e W7 ⟨rfl,hb7⟩;have hB7x := HB116.out.below hb7;have f0 := hB7x.frozen 0;have f1 := hB7x.frozen 1;have g0 := hB7x.cell 0;have g1 := hB7x.cell 1;simp at g0 g1;have l12 := hB7x.lt;have HB7 := Lib.hid hb7;clear hb7 hB7x k0 k1 k2 l11))
      go_ret
      have hbF := below_set (below_set (HB6.out.trans (HB7.out.mono HB6.out.size)) H11 0 (.int .i64 0) (by have := HORD.out;omega)) H11 1 (.string ⟨#[]⟩) (by have := HORD.out;omega)
      exact ⟨fun _ => ⟨rfl,hbF,HST.out.below hbF⟩,fun T2 f h => by cases h⟩
     | some T2 =>
      rw [htn] at KG6
      unfold turnV spv at KG6
      dsimp only at KG6
      have HE : P = (0,some (T2,⟨name,i,data.length,l⟩)) := by rw [← HP.out,HX.out,HI.out];simp only [HKN.out,HTK.out,htn]
      subst HE
      have HT2 := Lib.hid (turnS_len _ _ _ _ htn)
      obtain ⟨t2,ht2⟩ : ∃ q,T2.length = q := ⟨_,rfl⟩
      obtain ⟨PB2,hPB2⟩ : ∃ q,mk (packB T2) = q := ⟨_,rfl⟩
      rw [ht2,hPB2] at KG6
      have HT2L := Lib.hid (And.intro ht2 hPB2)
      clear htn HK ht2 hPB2
      go_upto_region 19 with (first | (go_at_call 41;refine KG6.mono ?_;rintro e W7 ⟨rfl,hb7⟩;have hB7x := HB116.out.below hb7;have f0 := hB7x.frozen 0;have f1 := hB7x.frozen 1;have g0 := hB7x.cell 0;have g1 := hB7x.cell 1;simp at g0 g1;have l12 := hB7x.lt;have HB7 := Lib.hid hb7;clear hb7 hB7x k0 k1 k2 l11))
      have hB118 := ((HB116.out.below HB7.out).set 0 (.int .i64 (t2 : Int))).set 1 (.string PB2)
      have hB98 : Blk ((W7.setCell ⟨H11,0,none⟩ (.int .i64 (t2 : Int))).setCell ⟨H11,1,none⟩ (.string PB2)) (H7 + 1) #[.int .i64 (i : Int), .int .i64 (dl : Int), .slice A2 ll c2] 69 := (HB96.out.below HB7.out).grown (grown_set2 W7 H11 0 1 _ _) (by have := HORD.out;simp;omega)
      have hb8 := below_set (below_set (HB6.out.trans (HB7.out.mono HB6.out.size)) H11 0 (.int .i64 (t2 : Int)) (by have := HORD.out;omega)) H11 1 (.string PB2) (by have := HORD.out;omega)
      obtain ⟨hL81,hL82⟩ := (HL6.out.1.below (Nat.le_refl _) HB7.out).grown (HL6.out.2.below HB7.out) (grown_set2 W7 H11 0 1 (.int .i64 (t2 : Int)) (.string PB2)) (fun g e => by cases e;exact ⟨_,76,_,HB116.out.below HB7.out,by decide⟩)
      obtain ⟨W8,hW8⟩ : ∃ q,(W7.setCell ⟨H11,0,none⟩ (.int .i64 (t2 : Int))).setCell ⟨H11,1,none⟩ (.string PB2) = q := ⟨_,rfl⟩
      rw [hW8] at hB118 hB98 hb8 hL81 hL82 ⊢
      have HL8 := Lib.hid (And.intro hL81 hL82)
      have HB8 := Lib.hid hb8
      have HBX8 := Lib.hid (And.intro hB98 hB118)
      clear hW8 hB118 hB98 hb8 hL81 hL82 f0 f1 g0 g1 l12 KG6
      refine wp_region_held (S := fun w' => Blk w' (H7 + 1) #[.int .i64 (i : Int), .int .i64 (dl : Int), .slice A2 ll c2] 69 ∧ Blk w' H11 #[.int .i64 (t2 : Int), .string PB2] 76) mixed ?_
      change wpAnyH _ _ _ _ _ _ _ _ W8.drew
      have hS1 : Blk W8.drew (H7 + 1) #[.int .i64 (i : Int), .int .i64 (dl : Int), .slice A2 ll c2] 69 ∧ Blk W8.drew H11 #[.int .i64 (t2 : Int), .string PB2] 76 := HBX8.out
      have hbd : Below w.heap.size w W8.drew := HB8.out.drew
      have hLd : Lies W8.drew A2 (ecells l) ∧ Typed W8.drew A2 90 := HL8.out
      obtain ⟨WA,hWA⟩ : ∃ q,W8.drew = q := ⟨_,rfl⟩
      rw [hWA] at hS1 hbd hLd ⊢
      clear hWA
      have HBD := Lib.hid hbd
      have HLD := Lib.hid hLd
      have hst8 := HST.out.below hbd
      have x5 := hst8.blk.cell 5
      simp at x5
      have HST8 := Lib.hid hst8
      have KSA := KS WA x5 (by exact HLD.out.1)
      clear hbd hLd hst8 x5 KS
      refine tkQ 0 (.pointer (some ⟨S,0,none⟩)) rfl hS1 ?_
      try go_simp
      refine tkQ 1 (.string NM) rfl hS1 ?_
      try go_simp
      refine tkH 2 (.agg #[.int .i64 (i : Int), .int .i64 (dl : Int), .slice A2 ll c2]) rfl hS1 (fun w' hS => ?_) ?_
      ·have q0 := hS.1.cell 0;have q1 := hS.1.cell 1;have q2 := hS.1.cell 2;simp at q0 q1 q2;go_simp
      try go_simp
      refine tkH 3 (.agg #[.int .i64 (t2 : Int), .string PB2]) rfl hS1 (fun w' hS => ?_) ?_
      ·have q0 := hS.2.cell 0;have q1 := hS.2.cell 1;simp at q0 q1;go_simp
      try go_simp
      refine tkQ 4 (.pointer (some ⟨S,0,none⟩)) rfl hS1 ?_
      try go_simp
      refine tkQ 5 (.pointer (some ⟨H7 + 1,2,none⟩)) rfl hS1 ?_
      try go_simp
      refine tkH 6 (.slice A2 ll c2) rfl hS1 (fun w' hS => ?_) ?_
      ·have q2 := hS.1.cell 2;simp at q2;go_simp
      try go_simp
      refine tkQ 8 (.string DT) rfl hS1 ?_
      try go_simp
      refine wpAnyH_all (rs := [7]) (by kernel_rfl) (by simp) ?_
      intro ix hix
      simp only [List.mem_cons,List.not_mem_nil,or_false] at hix
      subst hix
      unfold wpOp
      go_simp
      refine .inl ?_
      go_at_call 43
      refine KSA.mono ?_
      rintro e W9 ⟨⟨A3,c3,rfl,hrow⟩,hb9⟩
      have hS2 : Blk W9 (H7 + 1) #[.int .i64 (i : Int), .int .i64 (dl : Int), .slice A2 ll c2] 69 ∧ Blk W9 H11 #[.int .i64 (t2 : Int), .string PB2] 76 := ⟨hS1.1.below hb9,hS1.2.below hb9⟩
      refine ⟨hS2, ?_⟩
      try go_simp
      have HB9W := Lib.hid (HBD.out.trans (hb9.mono HBD.out.size))
      have HL9 := Lib.hid (And.intro (HLD.out.1.below (Nat.le_refl _) hb9) (HLD.out.2.below hb9))
      have hA3 : ∀ g,A3 = some g → WA.heap.size ≤ g.block := fun g hg => own_ge hrow g hg
      have KP := put_any' X S D Lg M m ⟨name,i,data.length,l⟩ A2 c2 T2 A3 c3 (secL (m.most + 7) l) data W9 (HST8.out.below hb9) HL9.out.1 HL9.out.2 (fun g hg hx => by have q1 := HL.out.2.2 g hg;have q2 := HSLT.out _ (List.mem_cons_of_mem _ (List.mem_cons_of_mem _ hx));have q3 := HW0S.out;have q4 := HBW3.out.size;omega) (Lies.of_row hrow) (fun g hg hx => by have q1 := hA3 g hg;have q2 := HSLT.out _ (List.mem_cons_of_mem _ (List.mem_cons_of_mem _ hx));have q4 := HBD.out.size;omega) (put_secs HBB.out HFACT.out.2.1) (by rw [secL_length,HFACT.out.2.2.2, ← HKN.out,HDL.out];unfold needsN;omega) (by rw [HDL.out];omega) (by rw [HT2.out,HFACT.out.2.2.1]) (by rw [HT2.out,HFACT.out.2.2.1];exact HTL.out) HII.out HGL.out (by show data.length ≤ _;rw [HDL.out];omega) (by have := HFACT.out.1;show l.length ≤ _;omega) (fun x hx => by have := (HFACT.out.2.1 x hx).2.1;have := HTL.out;omega) (bodyB_len _ _ _ HGL.out (by show data.length ≤ _;rw [HDL.out];omega) HFACT.out.1 (fun x hx => by have := (HFACT.out.2.1 x hx).2.1;have := HTL.out;omega)) HBB.out.len HBB.out.mo (by have := HBB.out.ll;omega) (by have := HBB.out.sl;omega)
      unfold spv at KP
      dsimp only at KP
      have hll2 := HLL.out
      have ht2l := HT2L.out
      have hnm := HNM.out
      have hdt := HDT.out
      have hdl2 := HDL.out
      rw [hll2,ht2l.1,ht2l.2,hnm,hdt,hdl2] at KP
      clear hll2 ht2l hnm hdt hdl2 hrow hA3 KSA hb9 hS1
      refine wpAnyH_all (rs := [9]) (by kernel_rfl) (by simp) ?_
      intro ix hix
      simp only [List.mem_cons,List.not_mem_nil,or_false] at hix
      subst hix
      unfold wpOp
      go_simp
      refine .inl ?_
      go_at_call 42
      refine KP.mono ?_
      intro e W10 hp
      have HPP := Lib.hid hp
      obtain ⟨rfl,X1,hM,_⟩ := hp
      have hS3 : Blk W10 (H7 + 1) #[.int .i64 (i : Int), .int .i64 (dl : Int), .slice A2 ll c2] 69 ∧ Blk W10 H11 #[.int .i64 (t2 : Int), .string PB2] 76 := ⟨hM.blk hS2.1 (fun hx => by have := HSLT.out _ hx;have := HORD.out;omega),hM.blk hS2.2 (fun hx => by have := HSLT.out _ hx;have := HORD.out;omega)⟩
      refine ⟨hS3, ?_⟩
      try go_simp
      clear hS2 KP hM
      refine wpAnyH_all (rs := [10]) (by kernel_rfl) (by simp) ?_
      intro ix hix
      simp only [List.mem_cons,List.not_mem_nil,or_false] at hix
      subst hix
      unfold wpOp
      go_simp
      first | refine .inl ⟨hS3, ?_⟩ | refine ⟨hS3, ?_⟩ | refine .inl ?_ | skip
      refine wpAnyH_done (by kernel_rfl) ?_ _
      clear hS3
      go_wp2
      go_ret
      exact ⟨fun h => by (cases h),fun T2' f' h => by (cases h;have q := HPP.out.from HB9W.out;have hd := HDL.out;subst hd;exact q)⟩
open Go.RowKit Go.Maps
def sizeW (F : List FileM) (name : Bs) : Nat := if goodF name then ((fileOf F name).map (·.size)).getD 0 else 0
theorem findV_form (ad : AdM) (F : List FileM) (name : Bs) : ∃ (a : Int) (A : Option Addr) (k c : Nat),findV ad F name = .agg #[.int .i64 a, .int .i64 (sizeW F name : Nat), .slice A k c] := by
 unfold findV sizeW
 split
 ·cases hf : fileOf F name with
  | none => exact ⟨0,none,0,0,rfl⟩
  | some f => exact ⟨f.entry,_,_,_,rfl⟩
 ·exact ⟨0,none,0,0,rfl⟩
set_option maxRecDepth 100000 in
set_option maxHeartbeats 2000000 in
theorem fsize_any (X : List Nat) (S D Lg M : Nat) (m : StoM) (name : Bs) (w : World) (h : Sto w X S D Lg M m) (h1 : m.off = false) (h2 : m.ds.off = false) (hn : name.length ≤ maxLen) :
  Calls Tryz.prog 18 #[.pointer (some ⟨S,0,none⟩), .string (mk name)] w fun e w' => e = .returned (.tuple #[.int .i64 (sizeW m.F name : Nat), .int .i64 (findE m.F name : Nat)]) ∧ Below w.heap.size w w' := by
 obtain ⟨ad,hFM,hEX⟩ := h.map
 have KF := find_ok X S D Lg M m ad name w h hFM h1 h2 hn
 obtain ⟨a,A,k,c,hv⟩ := findV_form ad m.F name
 rw [hv] at KF
 obtain ⟨NM,hNM⟩ : ∃ q,mk name = q := ⟨_,rfl⟩
 obtain ⟨z,hz⟩ : ∃ q,sizeW m.F name = q := ⟨_,rfl⟩
 obtain ⟨N,hN⟩ : ∃ q,findE m.F name = q := ⟨_,rfl⟩
 rw [hNM,hz,hN] at KF
 rw [hNM,hz,hN]
 clear h h1 h2 hn hFM hEX hv hNM hz hN
 go_enter Tryz.func18,Tryz.ntmps18
 go_wp2_with (first | (go_at_call 37;refine KF.mono ?_;rintro e w1 ⟨rfl,hb1⟩;have HB1 := Lib.hid hb1;clear hb1))
 go_ret2
 exact ⟨rfl,HB1.out.alloc HB1.out.size _⟩
set_option maxRecDepth 100000 in
set_option maxHeartbeats 2000000 in
theorem ffree_any (X : List Nat) (S D Lg M : Nat) (m : StoM) (w : World) (h : Sto w X S D Lg M m) (hT : m.T.length ≤ 4096) (hm : m.most ≤ 1000) (hF : m.F.length ≤ 1000) :
  Calls Tryz.prog 19 #[.pointer (some ⟨S,0,none⟩)] w fun e w' => e = .returned (.tuple #[.int .i64 (m.T.count false : Nat), .int .i64 ((m.most : Int) - (m.F.length : Int))]) ∧ Below w.heap.size w w' := by
 obtain ⟨ad,hFM,_⟩ := h.map
 have KS := fun w => sfree_any m.T w hT
 have x2 := h.blk.cell 2
 have x3 := h.blk.cell 3
 have x4 := h.blk.cell 4
 have x5 := h.blk.cell 5
 simp only [stoCells] at x2 x3 x4 x5
 simp at x2 x3 x4 x5
 have hl := fun (w' : World) (hb : Below w.heap.size w w') => FM.len (hFM.block (hb.block M hFM.lt))
 unfold spv at KS
 obtain ⟨tl,htl⟩ : ∃ q,m.T.length = q := ⟨_,rfl⟩
 obtain ⟨PB,hPB⟩ : ∃ q,mk (packB m.T) = q := ⟨_,rfl⟩
 obtain ⟨R,hR⟩ : ∃ q,m.T.count false = q := ⟨_,rfl⟩
 obtain ⟨fl,hfl⟩ : ∃ q,m.F.length = q := ⟨_,rfl⟩
 obtain ⟨mo,hmo⟩ : ∃ q,m.most = q := ⟨_,rfl⟩
 rw [htl,hPB,hR] at KS
 rw [htl] at x2
 rw [hPB] at x3
 rw [hmo] at x5 hm
 rw [hR,hfl,hmo]
 rw [hfl] at hF
 simp only [hfl] at hl
 have HX := Lib.hid (And.intro x2 (And.intro x3 (And.intro x4 x5)))
 have HL := Lib.hid hl
 have HWR := Lib.hid (show IntKind.i64.wrap ((mo : Int) - (fl : Int)) = (mo : Int) - (fl : Int) by rw [Go.IntWalk.i64_left,Go.IntWalk.wrap64_in _ (by omega)])
 have HSL := Lib.hid h.blk.lt
 have mixed := mixedT
 clear h hT hFM x2 x3 x4 x5 hl htl hPB hR hfl hmo
 go_enter Tryz.func19,Tryz.ntmps19
 go_upto_region 3 with (fail)
 refine wp_region_held (S := fun w' => Below w.heap.size w w') mixed ?_
 change wpAnyH _ _ _ _ _ _ _ _ w.drew
 have hS0 : Below w.heap.size w w.drew := (Below.refl _ _).drew
 obtain ⟨W0,hW0⟩ : ∃ q,w.drew = q := ⟨_,rfl⟩
 rw [hW0] at hS0 ⊢
 clear hW0
 refine tkQ 0 (.pointer (some ⟨S,0,none⟩)) rfl hS0 ?_
 try go_simp
 refine tkQ 1 (.pointer (some ⟨S,0,none⟩)) rfl hS0 ?_
 try go_simp
 refine tkQ 2 (.pointer (some ⟨S,2,none⟩)) rfl hS0 ?_
 try go_simp
 refine tkH 3 (.agg #[.int .i64 (tl : Int), .string PB]) rfl hS0 (fun w' hS => ?_) ?_
 ·have q0 := (hS.cell (p := ⟨S,2,none⟩) HSL.out).trans HX.out.1;have q1 := (hS.cell (p := ⟨S,3,none⟩) HSL.out).trans HX.out.2.1;go_simp
 try go_simp
 refine tkQ 5 (.pointer (some ⟨S,0,none⟩)) rfl hS0 ?_
 try go_simp
 refine tkQ 6 (.pointer (some ⟨S,0,none⟩)) rfl hS0 ?_
 try go_simp
 refine tkQ 7 (.pointer (some ⟨S,5,none⟩)) rfl hS0 ?_
 try go_simp
 refine tkH 8 (.int .i64 (mo : Int)) rfl hS0 (fun w' hS => ?_) ?_
 ·have q0 := (hS.cell (p := ⟨S,5,none⟩) HSL.out).trans HX.out.2.2.2;go_simp
 try go_simp
 refine tkQ 9 (.pointer (some ⟨S,0,none⟩)) rfl hS0 ?_
 try go_simp
 refine tkQ 10 (.pointer (some ⟨S,0,none⟩)) rfl hS0 ?_
 try go_simp
 refine tkQ 11 (.pointer (some ⟨S,4,none⟩)) rfl hS0 ?_
 try go_simp
 refine tkH 12 (.map (some M)) rfl hS0 (fun w' hS => ?_) ?_
 ·have q0 := (hS.cell (p := ⟨S,4,none⟩) HSL.out).trans HX.out.2.2.1;go_simp
 try go_simp
 refine alH 4 ?_
 unfold wpOp
 go_simp
 refine .inl ?_
 go_at_call 47
 refine (KS W0).mono ?_
 rintro e w1 ⟨rfl,hb1⟩
 have hS1 := hS0.trans (hb1.mono hS0.size)
 refine ⟨hS1, ?_⟩
 try go_simp
 clear hS0 hb1 KS
 refine tkH 13 (.int .i64 (fl : Int)) rfl hS1 (fun w' hS => ?_) ?_
 ·have q0 := HL.out w' hS;go_simp
 try go_simp
 refine tkH 14 (.int .i64 ((mo : Int) - (fl : Int))) rfl hS1 (fun w' hS => ?_) ?_
 ·have q0 := HWR.out;go_simp
 try go_simp
 refine tkQ 15 (.int .i64 (R : Int)) rfl hS1 ?_
 try go_simp
 refine tkQ 16 (.int .i64 ((mo : Int) - (fl : Int))) rfl hS1 ?_
 try go_simp
 refine wpAnyH_done (by kernel_rfl) ?_ _
 have HS1 := Lib.hid hS1
 clear hS1
 go_wp2
 go_ret2
 exact ⟨rfl,HS1.out⟩
theorem FM.keys {w : World} {M : Nat} {F : List FileM} {Dm : DataW Value} (hown : w.ownsMap Tryz.prog 9 rawE M F.length Dm) (hnd : (F.map (·.name)).Nodup) (hh : ∀ t : Bs,Maps.has Dm (.string t) = (fileOf F t).isSome) (ss : List Bs) (hs : ss.Perm (strKeys Dm)) :
  ss.mergeSort leB = (F.map (·.name)).mergeSort leB := by
 have hm : ∀ x,x ∈ F.map (·.name) ↔ (fileOf F x).isSome = true := fun x => by
  constructor
  ·intro hx
   obtain ⟨f,hf,rfl⟩ := List.mem_map.1 hx
   cases hc : fileOf F f.name with
   | some g => rfl
   | none => exact absurd rfl (fileOf_none.1 hc f hf)
  ·intro hx
   obtain ⟨f,hf⟩ := Option.isSome_iff_exists.1 hx
   exact List.mem_map.2 ⟨f,fileOf_mem hf,fileOf_name hf⟩
 have h1 : (F.map (·.name)).Perm (strKeys Dm) := Collected.perm (left := fun _ => false) ⟨hnd,fun x => by
  rw [hh x,hm x];simp⟩ hown keyLaw9 Tryz.underlying9 (fun _ => rfl)
 exact mergeSort_of_perm (hs.trans h1.symm)
theorem own_low {w : World} {B B' e s n : Nat} {v : Value} {xs : List Value} (h : w.ownsRow B e s v n xs) (hB : B' ≤ B) : w.ownsRow B' e s v n xs := by
 refine ⟨h.1,h.2.imp id ?_⟩
 rintro ⟨g,cap,cur,h1,h2,h3⟩
 exact ⟨g,cap,cur,h1,by omega,h3⟩
def namesS (F : List FileM) : List Bs := (F.map (·.name)).mergeSort leB
set_option maxRecDepth 100000 in
set_option maxHeartbeats 2000000 in
theorem fnames_any (X : List Nat) (S D Lg M : Nat) (m : StoM) (w : World) (h : Sto w X S D Lg M m) (hF : m.F.length ≤ 1000) :
  Calls Tryz.prog 22 #[.pointer (some ⟨S,0,none⟩)] w fun e w' => ∃ A c,e = .returned (.slice A (namesS m.F).length c) ∧ w'.ownsRow w.heap.size 9 1 (.slice A (namesS m.F).length c) (namesS m.F).length ((namesS m.F).map encStr) ∧ Below w.heap.size w w' := by
 obtain ⟨ad,⟨Dm,hown,hnd,hsz,hat⟩,_⟩ := h.map
 have x4 := h.blk.cell 4
 simp only [stoCells] at x4
 simp at x4
 have hSl := h.blk.lt
 have KK := callsIn_wide.1 (Tryz.maps_Keys_52 (some M) w)
 have KS := callsIn_wide.1 (Tryz.slices_Sorted_keys_51_52 M m.F.length Dm rawE w hown (by rw [hsz];unfold maxLen;omega) (by omega))
 have hk := fun ss hs => FM.keys hown hnd (fun t => (hat t).1) ss hs
 have HK := Lib.hid hk
 clear h hF hown hnd hsz hat hk
 go_enter Tryz.func22,Tryz.ntmps22
 go_wp2_with (first
  | (go_at_call 52;refine KK.mono ?_;rintro e w1 ⟨rfl,rfl⟩)
  | (go_at_call 51;refine KS.mono ?_;rintro e w2 ⟨v,ss,rfl,hp,hrow,_,hb⟩;have HR := Lib.hid (And.intro hp (And.intro hrow hb));clear hp hrow hb))
 go_ret
 obtain ⟨hp,hrow,hb⟩ := HR.out
 have hkk := HK.out ss hp
 unfold leB at hkk
 have hlen : ss.length = (namesS m.F).length := by
  have := congrArg List.length hkk
  rw [List.length_mergeSort] at this
  rw [this];rfl
 rw [hkk,hlen] at hrow
 obtain ⟨A,c,rfl⟩ := row_form hrow
 exact ⟨A,c,rfl,own_low hrow (by simp),(below_alloc w _).trans (hb.mono (by simp))⟩
open Go.RowKit Go.Maps
theorem Lies.others {w w' : World} {b : Nat} {A : Option Addr} {xs : List Value} {e t : TypeId} {cs : Array Value} (h : Lies w A xs) (ht : Typed w A e) (he : e ≠ 5) (ho : Others b w w') (hs : w.heap.size ≤ w'.heap.size) (hb : ∃ fr,w.heap[b]? = some (.cells cs t fr)) (hte : t ≠ e) : Lies w' A xs ∧ Typed w' A e := by
 have hne : ∀ a,A = some a → a.block ≠ b := fun a ha hx => by
  obtain ⟨cs,fr,hc⟩ := ht a ha
  obtain ⟨fr',h1⟩ := hb
  rw [hx,h1] at hc
  simp only [Option.some.injEq,Obj.cells.injEq] at hc
  exact hte hc.2.1
 have hk : ∀ a,A = some a → w'.heap[a.block]? = w.heap[a.block]? := fun a ha => by
  obtain ⟨cs,fr,hc⟩ := ht a ha
  rw [hc]
  exact ho a.block cs e fr he (hne a ha) hc
 refine ⟨fun h0 => ?_,fun a ha => ?_⟩
 ·obtain ⟨g,o,rfl,hl,hc⟩ := h h0
  exact ⟨g,o,rfl,Nat.lt_of_lt_of_le hl hs,fun j u hu => (World.cell?_of_block (a := ⟨g,o + j,none⟩) (hk ⟨g,o,none⟩ rfl)).trans (hc j u hu)⟩
 ·obtain ⟨cs,fr,hc⟩ := ht a ha
  exact ⟨cs,fr,(hk a ha).trans hc⟩
def secsB (v : List Bs) (l : List Nat) : Bs := l.flatMap fun i => secAt v i
theorem secsB_len {d : DS} (h : DGood d) : ∀ l : List Nat,(∀ i ∈ l,i < d.L.length) → (secsB d.vis l).length = 512 * l.length := by
 intro l
 induction l with
 | nil => intro _;rfl
 | cons i l ih =>
  intro hl
  have h1 := ih (fun j hj => hl j (List.mem_cons_of_mem _ hj))
  have h2 := vis_sec h i (hl i (List.mem_cons_self ..))
  unfold secsB at h1 ⊢
  rw [List.flatMap_cons,List.length_append,h1,h2,List.length_cons]
  omega
def readF (m : StoM) (f : FileM) : Bs := (secsB m.ds.vis (secL (m.most + 7) f.ext)).take f.size
def readW (m : StoM) (name : Bs) : Bs := if goodF name then ((fileOf m.F name).map (readF m)).getD [] else []
theorem isb_blk {B b : Nat} {bs : List Value} {w : World} (h : Lib.IsBuilder 93 5 B b bs w) : ∃ cs fr,w.heap[b]? = some (.cells cs 93 fr) := by
 rcases h with ⟨_,v,h,_⟩ | ⟨_,v,h,_⟩ <;> exact ⟨_,_,h⟩
set_option maxRecDepth 100000 in
set_option maxHeartbeats 4000000 in
theorem fread_any (X : List Nat) (S D Lg M : Nat) (m : StoM) (name : Bs) (w : World) (h : Sto w X S D Lg M m) (hb : StoB m) (h1 : m.off = false) (h2 : m.ds.off = false) (hn : name.length ≤ maxLen)
  (hz : ∀ f ∈ m.F,f.size ≤ 512 * sumN f.ext) (hs : ∀ f ∈ m.F,sumN f.ext ≤ 4096) :
  Calls Tryz.prog 17 #[.pointer (some ⟨S,0,none⟩), .string (mk name)] w fun e w' => e = .returned (.tuple #[.string (mk (readW m name)), .int .i64 (findE m.F name : Nat)]) ∧ Below w.heap.size w w' := by
 obtain ⟨ad,hFM,hEX⟩ := h.map
 have KF := find_ok X S D Lg M m ad name w h hFM h1 h2 hn
 by_cases hE : findE m.F name = 0
 case neg =>
  have hR : readW m name = [] := by
   unfold readW
   unfold findE at hE
   split
   ·rename_i hg
    rw [if_pos hg] at hE
    cases hc : fileOf m.F name with
    | none => rfl
    | some f => rw [hc] at hE;exact absurd rfl hE
   ·rfl
  have hN : findE m.F name = 9 ∨ findE m.F name = 11 := by
   unfold findE at hE ⊢
   split <;> simp_all
  rw [hR]
  obtain ⟨a,A,k,c,hv⟩ := findV_form ad m.F name
  rw [hv] at KF
  obtain ⟨NM,hNM⟩ : ∃ q,mk name = q := ⟨_,rfl⟩
  obtain ⟨z,hzz⟩ : ∃ q,sizeW m.F name = q := ⟨_,rfl⟩
  obtain ⟨N,hNN⟩ : ∃ q,findE m.F name = q := ⟨_,rfl⟩
  rw [hNM,hzz,hNN] at KF
  rw [hNM,hNN]
  rw [hNN] at hN
  clear h hb h1 h2 hn hFM hEX hv hNM hzz hNN hz hs hE hR
  rcases hN with rfl | rfl
  all_goals
   go_enter Tryz.func17,Tryz.ntmps17
   go_wp2_with (first | (go_at_call 37;refine KF.mono ?_;rintro e w1 ⟨rfl,hb1⟩;have HB1 := Lib.hid hb1;clear hb1))
   go_ret2
   exact ⟨rfl,HB1.out.alloc HB1.out.size _⟩
 case pos =>
  obtain ⟨f,hf,hg⟩ : ∃ f,fileOf m.F name = some f ∧ goodF name = true := by
   unfold findE at hE
   split at hE
   ·rename_i hg
    cases hc : fileOf m.F name with
    | none => rw [hc] at hE;simp at hE
    | some f => exact ⟨f,rfl,hg⟩
   ·cases hE
  have hR : readW m name = readF m f := by unfold readW;rw [if_pos hg,hf];rfl
  have hV : findV ad m.F name = inoV ad f := by unfold findV;rw [if_pos hg,hf];rfl
  have hfm := fileOf_mem hf
  have hfn := fileOf_name hf
  rw [hE,hV] at KF
  rw [hE,hR]
  obtain ⟨hx1,hx2,_⟩ := hEX f hfm
  unfold inoV at KF
  obtain ⟨⟨A,c⟩,hA⟩ : ∃ q,ad f.name = q := ⟨_,rfl⟩
  rw [hA] at KF hx1 hx2
  dsimp only at KF hx1 hx2
  have hexb := hb.exb f hfm
  have hexl := hb.exl f hfm
  have hfs := hz f hfm
  have hfs2 := hs f hfm
  have KS := fun (w5 : World) hS hA => sectors_any S m.most A c f.ext w5 hS (by have := hb.mo;omega) hA (by omega) (fun x hx => by have := hexb x hx;have := hb.tl;omega) (by rw [secL_length];omega)
  have hin : ∀ i ∈ secL (m.most + 7) f.ext,i < m.ds.L.length := fun i hi => by
   obtain ⟨x,hx,h1,h2⟩ := secL_mem hi
   have := hexb x hx
   have := hb.ll
   omega
  have hLl := secL_length (m.most + 7) f.ext
  have hBl := secsB_len h.dsk.good _ hin
  have KR := fun (i : Nat) (w5 : World) (hw : Sto w5 X S D Lg M m) (hi : i < m.ds.L.length) => read_any X D m.ds i w5 hw.dsk hi h2
  have hRF : readF m f = (secsB m.ds.vis (secL (m.most + 7) f.ext)).take f.size := rfl
  have hgd := h.dsk.good
  obtain ⟨l,hl⟩ : ∃ q,secL (m.most + 7) f.ext = q := ⟨_,rfl⟩
  rw [hl] at hin hLl hBl hRF
  simp only [hl] at KS
  obtain ⟨xl,hxl⟩ : ∃ q,f.ext.length = q := ⟨_,rfl⟩
  rw [hxl] at KF
  simp only [hxl] at KS
  obtain ⟨n,hnl⟩ : ∃ q,l.length = q := ⟨_,rfl⟩
  rw [hnl] at hLl hBl
  simp only [hnl] at KS
  obtain ⟨sz,hsz⟩ : ∃ q,f.size = q := ⟨_,rfl⟩
  rw [hsz] at KF hfs hRF
  obtain ⟨RB,hRB⟩ : ∃ q,mk (readF m f) = q := ⟨_,rfl⟩
  rw [hRB]
  have HRB := Lib.hid (show mk ((secsB m.ds.vis l).take sz) = RB by rw [← hRF,hRB])
  obtain ⟨NM,hNM⟩ : ∃ q,mk name = q := ⟨_,rfl⟩
  rw [hNM] at KF
  rw [hNM]
  have x0 := fun w1 (hw : Sto w1 X S D Lg M m) => hw.blk.cell 0
  have x5 := fun w1 (hw : Sto w1 X S D Lg M m) => hw.blk.cell 5
  simp only [stoCells] at x0 x5
  have HX0 := Lib.hid x0
  have HX5 := Lib.hid x5
  have HST := Lib.hid h
  have HKR := Lib.hid KR
  have HIN := Lib.hid hin
  have HN := Lib.hid hnl
  have HGD := Lib.hid hgd
  have HBL := Lib.hid hBl
  have HLX := Lib.hid hx1
  have hn6 : n ≤ 4096 := by omega
  have hszn : sz ≤ 512 * n := by omega
  have mixed := mixedT
  clear h hb h1 h2 hn hz hs hFM hEX hE hf hg hR hV hfm hfn hx1 hx2 hA hexb hexl hfs hfs2 hin hLl hBl KR hRF hgd hl hxl hnl hsz hRB hNM x0 x5
  go_enter Tryz.func17,Tryz.ntmps17
  go_upto_region 5 with (first | (go_at_call 37;refine KF.mono ?_;rintro e w1 ⟨rfl,hb1⟩;have HB1 := Lib.hid hb1;clear hb1))
  have hB7 := (Blk.new w1 #[.int .i64 (f.entry : Int), .int .i64 (sz : Int), .slice A xl c] 69).alloc (.cells #[.pointer none, .slice none 0 0] 93)
  have hBu := Lib.fresh_isBuilder 93 5 (w1.alloc (.cells #[.int .i64 (f.entry : Int), .int .i64 (sz : Int), .slice A xl c] 69))
  rw [World.size_alloc] at hBu
  have hbw := (HB1.out.alloc HB1.out.size (.cells #[.int .i64 (f.entry : Int), .int .i64 (sz : Int), .slice A xl c] 69)).alloc (by have := HB1.out.size;simp;omega) (.cells #[.pointer none, .slice none 0 0] 93)
  have hH7 := HB1.out.size
  obtain ⟨H7,hH⟩ : ∃ q,w1.heap.size = q := ⟨_,rfl⟩
  have hWZ : ((w1.alloc (.cells #[.int .i64 (f.entry : Int), .int .i64 (sz : Int), .slice A xl c] 69)).alloc (.cells #[.pointer none, .slice none 0 0] 93)).heap.size = H7 + 2 := by rw [← hH];simp
  obtain ⟨W1,hW⟩ : ∃ q,(w1.alloc (.cells #[.int .i64 (f.entry : Int), .int .i64 (sz : Int), .slice A xl c] 69)).alloc (.cells #[.pointer none, .slice none 0 0] 93) = q := ⟨_,rfl⟩
  rw [hH] at hB7 hBu hH7
  simp only [hW] at hB7 hBu hbw hWZ ⊢
  try simp only [hH]
  have hst1 := HST.out.below hbw
  have y5 := HX5.out W1 hst1
  simp at y5
  have KS1 := KS W1 y5 (HLX.out.below (Nat.le_refl _) hbw)
  have y2 := hB7.cell 2
  simp at y2
  have l7 := hB7.lt
  have HB7 := Lib.hid hB7
  have HBU := Lib.hid hBu
  have HBW := Lib.hid hbw
  have HWZ := Lib.hid hWZ
  have HH7 := Lib.hid hH7
  clear hH hW hB7 hBu hbw hWZ hst1 hH7 KS y5
  go_wp2_with (first | (go_at_call 43;refine KS1.mono ?_;rintro e w2 ⟨⟨A3,c3,rfl,hrow⟩,hb2⟩;have HR2 := Lib.hid (And.intro hrow hb2);clear hrow hb2 KS1 y2 l7))
  have hrow := HR2.out.1
  have hb2 := HR2.out.2
  have hbu2 := isb_below HBU.out hb2
  have hbw2 := HBW.out.trans (hb2.mono HBW.out.size)
  have h72 : w2.cell? ⟨H7,1,none⟩ = some (.int .i64 (sz : Int)) := by
   have := (HB7.out.below hb2).cell 1
   simpa using this
  have hrow2 : Lies w2 A3 (ncells l) ∧ Typed w2 A3 3 := ⟨Lies.of_row hrow,Typed.of_row hrow⟩
  have hsz2 : H7 + 2 ≤ w2.heap.size := by rw [← HWZ.out];exact hb2.size
  have HS2 := Lib.hid (And.intro hbu2 (And.intro hbw2 (And.intro h72 (And.intro hrow2 hsz2))))
  clear hrow hb2 hbu2 hbw2 h72 hrow2 hsz2
  go_loopw [27] (fun i wr => ∃ k : Nat,k ≤ n ∧ i = .int .i64 k ∧ Lib.IsBuilder 93 5 (H7 + 1) (H7 + 1) (Lib.byteCells (secsB m.ds.vis (l.take k))) wr ∧ Below w.heap.size w wr ∧ wr.cell? ⟨H7,1,none⟩ = some (.int .i64 (sz : Int)) ∧ (Lies wr A3 (ncells l) ∧ Typed wr A3 3) ∧ H7 + 2 ≤ wr.heap.size) (fun i _ => n - (intOf i).toNat)
  case atStart => exact ⟨0,Nat.zero_le _,rfl,HS2.out.1,HS2.out.2.1,HS2.out.2.2.1,HS2.out.2.2.2.1,HS2.out.2.2.2.2⟩
  case round =>
   obtain ⟨k,hk,rfl,hbu,hB,h7,hrow,hsize⟩ := hrel
   by_cases hlt : k < n
   ·have hkl : k < l.length := by rw [HN.out];exact hlt
    obtain ⟨g,off,hA3,hgl,hcs⟩ := hrow.1 (by rw [ncells_length];omega)
    subst hA3
    have d0 := hcs k _ (ncells_at l k hkl)
    have hst := HST.out.below hB
    have e0 := HX0.out wr hst
    simp at e0
    have KR1 := HKR.out l[k] wr hst (HIN.out _ (List.getElem_mem _))
    have hsl := vis_sec HGD.out l[k] (HIN.out _ (List.getElem_mem _))
    change Calls _ _ _ _ (fun e w' => e = .returned (.tuple #[.string (mk (secAt m.ds.vis l[k])), .int .i64 0]) ∧ w' = wr) at KR1
    have hsn : secsB m.ds.vis (l.take (k + 1)) = secsB m.ds.vis (l.take k) ++ secAt m.ds.vis l[k] := by
     unfold secsB;rw [List.take_succ_eq_append_getElem hkl,List.flatMap_append,List.flatMap_cons,List.flatMap_nil,List.append_nil]
    have hTl := secsB_len HGD.out (l.take k) (fun i hi => HIN.out i (List.mem_of_mem_take hi))
    rw [List.length_take,Nat.min_eq_left (by omega)] at hTl
    obtain ⟨s,hs⟩ : ∃ q,l[k] = q := ⟨_,rfl⟩
    rw [hs] at d0 KR1 hsl hsn
    obtain ⟨x,hx⟩ : ∃ q,secAt m.ds.vis s = q := ⟨_,rfl⟩
    rw [hx] at KR1 hsl hsn
    obtain ⟨T,hT⟩ : ∃ q,secsB m.ds.vis (l.take k) = q := ⟨_,rfl⟩
    rw [hT] at hbu hsn hTl
    have zx : (mk x).size = x.length := mk_size _
    obtain ⟨XS,hXS⟩ : ∃ q,mk x = q := ⟨_,rfl⟩
    rw [hXS] at KR1 zx
    have KW := bwrite_any (H7 + 1) (H7 + 1) (Lib.byteCells T) XS wr hbu (by rw [zx,hsl];simp [Lib.byteCells];omega) (by omega)
    have HK := Lib.hid (And.intro hsn (And.intro hXS (And.intro hbu (And.intro hB (And.intro h7 (And.intro hrow hsize))))))
    have k0 : (0 : Int) ≤ (k : Int) := by omega
    have k1 : (k : Int) < (n : Int) := by omega
    clear hcs hst hsl hsn hTl hs hx hT zx hXS hbu hB h7 hrow
    go_wp2_with (first
     | (go_at_call 33;refine KR1.mono ?_;rintro e w3 ⟨rfl,hw⟩;obtain rfl := hw.symm;clear KR1)
     | (go_at_call 45;(with_reducible refine KW.mono ?_);rintro e w4 ⟨rfl,hbu4,hb4,ho4⟩;have HU := Lib.hid (And.intro hbu4 (And.intro hb4 ho4));clear KW hbu4 hb4 ho4))
    go_roundw
    case rel =>
     obtain ⟨hsn,hXS,hbu,hB,h7,hrow,hsize⟩ := HK.out
     obtain ⟨hbu4,hb4,ho4⟩ := HU.out
     have hfin : Lib.byteCells T ++ Lib.strCells XS = Lib.byteCells (secsB m.ds.vis (l.take (k + 1))) := by
      rw [hsn, ← hXS];simp [Lib.byteCells,Lib.strCells,mk_data]
     have hsz4 : wr.heap.size ≤ w4.heap.size := hb4.size
     obtain ⟨cs,hfr⟩ := isb_blk hbu
     refine ⟨k + 1,by omega,by go_num, .inr (by rw [← hfin];exact hbu4),hB.trans (hb4.mono (by have := HH7.out;omega)),(hb4.cell (p := ⟨H7,1,none⟩) (by simp)).trans h7,hrow.1.others hrow.2 (by decide) ho4 hsz4 hfr (by decide),by omega⟩
    case measure => simp [intOf];omega
   ·obtain rfl : k = n := by omega
    have e : l.take k = l := List.take_of_length_le (by rw [HN.out];exact Nat.le_refl _)
    rw [e] at hbu
    have hBl := HBL.out
    obtain ⟨D0,hD0⟩ : ∃ q,secsB m.ds.vis l = q := ⟨_,rfl⟩
    rw [hD0] at hbu hBl
    have HD0 := Lib.hid hD0
    have zD : (mk D0).size = D0.length := mk_size _
    have hsl := fun (w : World) => run_slice_string_h (P := Tryz.prog) (w := w) (t := 9) (s := mk D0) Tryz.underlying9 .i64 (sz : Int) (by omega) (by rw [zD,hBl];omega)
    have e1 : (mk D0).extract 0 (sz : Int).toNat = RB := by
     have := ext_mk' (mk D0) 0 sz
     rw [Nat.zero_add,mk_data,List.drop_zero] at this
     rw [Int.toNat_natCast,this, ← HRB.out,hD0]
    rw [e1] at hsl
    have hmkD : (⟨D0.toArray⟩ : ByteArray) = mk D0 := rfl
    obtain ⟨DS0,hDS⟩ : ∃ q,mk D0 = q := ⟨_,rfl⟩
    rw [hDS] at hsl hmkD
    have KS2 := fun (w5 : World) (hb5 : Below wr.heap.size wr w5) => Tryz.Builder_String_any (H7 + 1) (H7 + 1) D0 w5 (isb_below hbu hb5) (by have := hb5.size;omega)
    simp only [hmkD] at KS2
    have HSL := Lib.hid hsl
    have HBW2 := Lib.hid hB
    have HH7S := Lib.hid h7
    clear hbu hBl zD hsl e1 hmkD hDS hB h7 hrow e hD0
    go_upto_region 13 with (fail)
    refine wp_region_held (S := fun w' => w'.cell? ⟨H7,1,none⟩ = some (.int .i64 (sz : Int))) mixed ?_
    change wpAnyH _ _ _ _ _ _ _ _ wr.drew
    have hS0 : wr.drew.cell? ⟨H7,1,none⟩ = some (.int .i64 (sz : Int)) := HH7S.out
    have hb0 : Below wr.heap.size wr wr.drew := (Below.refl _ _).drew
    obtain ⟨W0,hW0⟩ : ∃ q,wr.drew = q := ⟨_,rfl⟩
    rw [hW0] at hS0 hb0 ⊢
    clear hW0
    refine tkQ 1 (.pointer (some ⟨H7,1,none⟩)) rfl hS0 ?_
    try go_simp
    refine tkH 2 (.int .i64 (sz : Int)) rfl hS0 (fun w' hS => ?_) ?_
    ·have q0 := hS;go_simp
    try go_simp
    refine alH 0 ?_
    unfold wpOp
    go_simp
    refine .inl ?_
    go_at_call 46
    refine (KS2 W0 hb0).mono ?_
    rintro e w1 ⟨rfl,hb1⟩
    have hS1 : w1.cell? ⟨H7,1,none⟩ = some (.int .i64 (sz : Int)) := (hb1.cell (p := ⟨H7,1,none⟩) (by simp)).trans hS0
    have HB5 := Lib.hid (And.intro hb0 hb1)
    refine ⟨hS1, ?_⟩
    try go_simp
    clear hS0 hb0 hb1 KS2
    refine alH 3 ?_
    unfold wpOp
    have hsl := HSL.out w1
    go_simp
    clear hsl
    first | refine .inl ⟨hS1, ?_⟩ | refine ⟨hS1, ?_⟩ | refine .inl ?_ | skip
    refine tkQ 4 (.string RB) rfl hS1 ?_
    try go_simp
    refine tkQ 5 (.int .i64 0) rfl hS1 ?_
    try go_simp
    refine wpAnyH_done (by kernel_rfl) ?_ _
    clear hS1
    go_wp2
    go_ret2
    exact ⟨rfl,HBW2.out.trans ((HB5.out.1.mono HBW2.out.size).trans (HB5.out.2.mono (by have := HH7.out;omega)))⟩
open Go.RowKit Go.Maps
def preR (m : StoM) (name : Bs) : Nat × Option (List Bool × FileM) :=
 if goodF name = false then (11,none) else match fileOf m.F name with
 | none => (9,none)
 | some f => match turnS false m.T f.ext with
  | none => (14,none)
  | some T2 => (0,some (T2,f))
def RemP (X : List Nat) (S D Lg M : Nat) (m : StoM) (T2 : List Bool) (F2 : List FileM) (C : List (Nat × Bs)) (w : World) (e : Ending) (w' : World) : Prop :=
 e = .returned (.int .i64 ((DS.run (settleC m.most T2 C) m.ds).1 : Nat)) ∧ ∃ X',Mv (S :: M :: X) (S :: M :: X') w w' ∧
  ((DS.run (settleC m.most T2 C) m.ds).1 = 0 → Sto w' X' S D Lg M ⟨(DS.run (settleC m.most T2 C) m.ds).2,F2,T2,m.most,m.off⟩) ∧
  ((DS.run (settleC m.most T2 C) m.ds).1 ≠ 0 → Sto w' X' S D Lg M ⟨(DS.run (settleC m.most T2 C) m.ds).2,m.F,m.T,m.most,true⟩)
def RemoveP (X : List Nat) (S D Lg M : Nat) (m : StoM) (p : Nat × Option (List Bool × FileM)) (w : World) (e : Ending) (w' : World) : Prop :=
 (p.2 = none → e = .returned (.int .i64 (p.1 : Nat)) ∧ Below w.heap.size w w' ∧ Sto w' X S D Lg M m) ∧
 ∀ T2 f,p.2 = some (T2,f) → RemP X S D Lg M m T2 (delF m.F f.name) [(f.entry,[])] w e w'
theorem Exts.sub {w : World} {X : List Nat} {ad : AdM} {F G : List FileM} (h : Exts w X ad F) (hs : ∀ f ∈ G,f ∈ F) : Exts w X ad G := fun f hf => h f (hs f hf)
theorem wpList_insert {P : Program} {ops : Array Oper} {rest : List Oper} {Q : Exit → Act → World → Prop} {a : Act} {w w' : World} {o : Oper} (hg : o.guard = none) (t : TypeId) (m x v : Operand) (hop : o.op = .insert t m x v) (mv kv vv : Value)
  (hm : a.eval m = mv) (hx : a.eval x = kv) (hv : a.eval v = vv) (hrun : (Instr.mapUpdate t mv kv vv).run P w = .ok () w') (hK : wpList P ops Q rest (a.put o.dst undef) w') : wpList P ops Q (o :: rest) a w := by
 refine wpList_plain hg fun K' hK' => ?_
 unfold Oper.wp
 simp [execOp,hop,hm,hx,hv,hrun,Result.andThen]
 exact hK' _ _ hK
set_option maxRecDepth 100000 in
set_option maxHeartbeats 4000000 in
theorem fremove_any (X : List Nat) (S D Lg M : Nat) (m : StoM) (name : Bs) (w : World) (h : Sto w X S D Lg M m) (hb : StoB m) (h1 : m.off = false) (h2 : m.ds.off = false) (hn : name.length ≤ maxLen) :
  Calls Tryz.prog 21 #[.pointer (some ⟨S,0,none⟩), .string (mk name)] w (RemoveP X S D Lg M m (preR m name) w) := by
 obtain ⟨ad,hFM,hEX⟩ := h.map
 have KF := find_ok X S D Lg M m ad name w h hFM h1 h2 hn
 by_cases hE : findE m.F name = 0
 case neg =>
  have hR : preR m name = (findE m.F name,none) := by
   unfold preR
   unfold findE at hE ⊢
   cases hg : goodF name with
   | false => rfl
   | true =>
    rw [hg] at hE
    cases hc : fileOf m.F name with
    | none => rfl
    | some f => rw [hc] at hE;exact absurd rfl hE
  have hN : findE m.F name = 9 ∨ findE m.F name = 11 := by
   unfold findE at hE ⊢
   split <;> simp_all
  rw [hR]
  obtain ⟨a,A,k,c,hv⟩ := findV_form ad m.F name
  rw [hv] at KF
  have HST := Lib.hid h
  obtain ⟨NM,hNM⟩ : ∃ q,mk name = q := ⟨_,rfl⟩
  obtain ⟨z,hzz⟩ : ∃ q,sizeW m.F name = q := ⟨_,rfl⟩
  obtain ⟨N,hNN⟩ : ∃ q,findE m.F name = q := ⟨_,rfl⟩
  rw [hNM,hzz,hNN] at KF
  rw [hNM,hNN]
  rw [hNN] at hN
  clear h hb h1 h2 hn hFM hEX hv hNM hzz hNN hE hR
  rcases hN with rfl | rfl
  all_goals
   go_enter Tryz.func21,Tryz.ntmps21
   go_wp2_with (first | (go_at_call 37;refine KF.mono ?_;rintro e w1 ⟨rfl,hb1⟩;have HB1 := Lib.hid hb1;clear hb1))
   go_ret
   have hbF := HB1.out.alloc HB1.out.size (.cells #[.int .i64 a, .int .i64 (z : Int), .slice A k c] 69)
   exact ⟨fun _ => ⟨rfl,hbF,HST.out.below hbF⟩,fun T2 f h => by cases h⟩
 case pos =>
  obtain ⟨f,hf,hg⟩ : ∃ f,fileOf m.F name = some f ∧ goodF name = true := by
   unfold findE at hE
   split at hE
   ·rename_i hg
    cases hc : fileOf m.F name with
    | none => rw [hc] at hE;simp at hE
    | some f => exact ⟨f,rfl,hg⟩
   ·cases hE
  have hV : findV ad m.F name = inoV ad f := by unfold findV;rw [if_pos hg,hf];rfl
  have hfm := fileOf_mem hf
  have hfn := fileOf_name hf
  have hPR : preR m name = match turnS false m.T f.ext with
    | none => (14,none)
    | some T2 => (0,some (T2,f)) := by unfold preR;rw [if_neg (by rw [hg];decide),hf]
  have HPR := Lib.hid hPR
  obtain ⟨P,hP⟩ : ∃ q,preR m name = q := ⟨_,rfl⟩
  rw [hP]
  have HP := Lib.hid hP
  clear hP
  rw [hE,hV] at KF
  obtain ⟨hx1,hx2,_⟩ := hEX f hfm
  unfold inoV at KF
  obtain ⟨⟨A,c⟩,hA⟩ : ∃ q,ad f.name = q := ⟨_,rfl⟩
  rw [hA] at KF hx1 hx2
  dsimp only at KF hx1 hx2
  have hexb := hb.exb f hfm
  have hexl := hb.exl f hfm
  have hfe := hb.ent f hfm
  have HTL := Lib.hid hb.tl
  have KG := fun (w5 : World) (hL : Lies w5 A (ecells f.ext)) => give_any m.T f.ext A c w5 hb.tl hL (fun x hx => by have := hexb x hx;have := hb.tl;omega) (by omega)
  have KST := fun (X1 : List Nat) (Mc : Nat) (T2 : List Bool) (hT : T2.length = m.T.length) (w1 : World) (hs1 : Sto w1 X1 S D Lg M m) (hC : CM w1 Mc [(f.entry,[])]) =>
   settle_any X1 S D Lg M Mc m T2 [(f.entry,[])] w1 hs1 hC hT (by rw [hT];exact HTL.out) (by simp) (fun c hc => by
    have : c = (f.entry,[]) := by simpa using hc
    subst this;exact ⟨hfe,by simp⟩) hb.mo (by have := hb.ll;omega) (by have := hb.sl;omega)
  obtain ⟨tn,PBn,en,hRf⟩ := turnV_form (turnS false m.T f.ext)
  have HRF := Lib.hid hRf
  rw [hRf] at KG
  have HDR := Lib.hid (fun (ad : AdM) (w1 : World) (hf1 : FM w1 M ad m.F) => hf1.drop name hn 0)
  unfold spv at KG
  obtain ⟨tl,htl⟩ : ∃ q,m.T.length = q := ⟨_,rfl⟩
  obtain ⟨PB,hPB⟩ : ∃ q,mk (packB m.T) = q := ⟨_,rfl⟩
  obtain ⟨xl,hxl⟩ : ∃ q,f.ext.length = q := ⟨_,rfl⟩
  rw [hxl] at KF KG
  rw [htl,hPB] at KG
  obtain ⟨sz,hsz⟩ : ∃ q,f.size = q := ⟨_,rfl⟩
  rw [hsz] at KF
  obtain ⟨fe,hfeq⟩ : ∃ q,f.entry = q := ⟨_,rfl⟩
  rw [hfeq] at KF hfe
  simp only [hfeq] at KST
  obtain ⟨NM,hNM⟩ : ∃ q,mk name = q := ⟨_,rfl⟩
  rw [hNM] at KF HDR
  rw [hNM]
  have x2 := fun w1 (hw : Sto w1 X S D Lg M m) => hw.blk.cell 2
  have x3 := fun w1 (hw : Sto w1 X S D Lg M m) => hw.blk.cell 3
  simp only [stoCells,htl,hPB] at x2 x3
  have HX2 := Lib.hid x2
  have HX3 := Lib.hid x3
  have HST := Lib.hid h
  have HSLT := Lib.hid (show ∀ x ∈ S :: M :: X,x < w.heap.size from fun x hx => by
    rcases List.mem_cons.1 hx with rfl | hx
    ·exact h.blk.lt
    ·rcases List.mem_cons.1 hx with rfl | hx
     ·exact hFM.lt
     ·exact h.dsk.lt x hx)
  have HKG := Lib.hid KG
  have HKST := Lib.hid KST
  have HLA := Lib.hid hx1
  have HFE := Lib.hid (show fe ≤ 1000000 by have := hb.mo;omega)
  have HFEQ := Lib.hid hfeq
  have HFN := Lib.hid hfn
  have mixed := mixedT
  clear h hb h1 h2 hn hFM hEX hE hf hg hV hfm hfn hPR hx1 hx2 hA hexb hexl hfe KG KST hRf htl hPB hxl hsz hfeq hNM x2 x3
  go_enter Tryz.func21,Tryz.ntmps21
  go_upto_region 4 with (first | (go_at_call 37;refine KF.mono ?_;rintro e w1 ⟨rfl,hb1⟩;have HB1 := Lib.hid hb1;clear hb1))
  have hB5 := Blk.new w1 #[.int .i64 (fe : Int), .int .i64 (sz : Int), .slice A xl c] 69
  have hbw := HB1.out.alloc HB1.out.size (.cells #[.int .i64 (fe : Int), .int .i64 (sz : Int), .slice A xl c] 69)
  have hH5 := HB1.out.size
  obtain ⟨H5,hH⟩ : ∃ q,w1.heap.size = q := ⟨_,rfl⟩
  obtain ⟨W1,hW⟩ : ∃ q,w1.alloc (.cells #[.int .i64 (fe : Int), .int .i64 (sz : Int), .slice A xl c] 69) = q := ⟨_,rfl⟩
  rw [hH] at hB5 hH5
  simp only [hW] at hB5 hbw ⊢
  try simp only [hH]
  have hst1 := HST.out.below hbw
  have y2 := HX2.out W1 hst1
  have y3 := HX3.out W1 hst1
  have y5 := hB5.cell 2
  simp at y2 y3 y5
  have HY := Lib.hid (And.intro y2 (And.intro y3 (And.intro y5 (And.intro hst1.blk.lt hB5.lt))))
  have HBW := Lib.hid hbw
  have HB5 := Lib.hid hB5
  have HH5 := Lib.hid hH5
  have HLA1 := Lib.hid (HLA.out.below (Nat.le_refl _) hbw)
  clear hH hW hB5 hbw hst1 hH5 y2 y3 y5
  refine wp_region_held (S := fun w' => Below W1.heap.size W1 w') mixed ?_
  change wpAnyH _ _ _ _ _ _ _ _ W1.drew
  have hS0 : Below W1.heap.size W1 W1.drew := (Below.refl _ _).drew
  obtain ⟨W0,hW0⟩ : ∃ q,W1.drew = q := ⟨_,rfl⟩
  rw [hW0] at hS0 ⊢
  clear hW0
  refine tkQ 0 (.pointer (some ⟨S,0,none⟩)) rfl hS0 ?_
  try go_simp
  refine tkQ 1 (.pointer (some ⟨S,0,none⟩)) rfl hS0 ?_
  try go_simp
  refine tkQ 2 (.pointer (some ⟨S,2,none⟩)) rfl hS0 ?_
  try go_simp
  refine tkH 3 (.agg #[.int .i64 (tl : Int), .string PB]) rfl hS0 (fun w' hS => ?_) ?_
  ·have q0 := (hS.cell (p := ⟨S,2,none⟩) HY.out.2.2.2.1).trans HY.out.1;have q1 := (hS.cell (p := ⟨S,3,none⟩) HY.out.2.2.2.1).trans HY.out.2.1;go_simp
  try go_simp
  refine tkQ 4 (.pointer (some ⟨H5,2,none⟩)) rfl hS0 ?_
  try go_simp
  refine tkH 5 (.slice A xl c) rfl hS0 (fun w' hS => ?_) ?_
  ·have q0 := (hS.cell (p := ⟨H5,2,none⟩) HY.out.2.2.2.2).trans HY.out.2.2.1;go_simp
  try go_simp
  refine wpAnyH_all (rs := [6,10]) (by kernel_rfl) (by simp) ?_
  intro i hi
  simp only [List.mem_cons,List.not_mem_nil,or_false] at hi
  rcases hi with rfl | rfl
  ·unfold wpOp
   go_simp
   refine .inl ?_
   go_at_call 41
   refine (HKG.out W0 (HLA1.out.below (Nat.le_refl _) hS0)).mono ?_
   rintro e w2 ⟨rfl,hb2⟩
   have hS1 := hS0.trans (hb2.mono hS0.size)
   refine ⟨hS1, ?_⟩
   try go_simp
   clear hS0 hb2
   refine tkQ 7 (.tuple #[.agg #[.int .i64 tn, .string PBn], .int .i64 en]) rfl hS1 ?_
   try go_simp
   refine tkQ 8 (.agg #[.int .i64 tn, .string PBn]) rfl hS1 ?_
   try go_simp
   refine tkQ 9 (.int .i64 en) rfl hS1 ?_
   try go_simp
   refine alH 10 ?_
   unfold wpOp
   go_simp
   have hB7 := Blk.new w2 #[.int .i64 0, .string ⟨#[]⟩] 76
   have hS3 := hS1.alloc hS1.size (.cells #[.int .i64 0, .string ⟨#[]⟩] 76)
   have hge : W1.heap.size ≤ w2.heap.size := hS1.size
   obtain ⟨H7,hH7⟩ : ∃ q,w2.heap.size = q := ⟨_,rfl⟩
   rw [hH7] at hB7 hge
   obtain ⟨w3,hw3⟩ : ∃ q,w2.alloc (.cells #[.int .i64 0, .string ⟨#[]⟩] 76) = q := ⟨_,rfl⟩
   rw [hw3] at hB7 hS3 ⊢
   try rw [hH7]
   clear hw3 hH7 hS1
   first | refine .inl ⟨hS3, ?_⟩ | refine ⟨hS3, ?_⟩
   have c0 := hB7.cell 0
   have c1 := hB7.cell 1
   have f0 := hB7.frozen 0
   have f1 := hB7.frozen 1
   simp at c0 c1
   have l7 := hB7.lt
   refine alH 11 ?_
   unfold wpOp
   go_simp
   have hB74 := (hB7.set 0 (.int .i64 tn)).set 1 (.string PBn)
   have hS4 := below_set (below_set hS3 H7 0 (.int .i64 tn) hge) H7 1 (.string PBn) hge
   obtain ⟨w4,hw4⟩ : ∃ q,(w3.setCell ⟨H7,0,none⟩ (.int .i64 tn)).setCell ⟨H7,1,none⟩ (.string PBn) = q := ⟨_,rfl⟩
   rw [hw4] at hB74 hS4 ⊢
   clear hw4 hB7 hS3 c0 c1 f0 f1 l7
   first | refine .inl ⟨hS4, ?_⟩ | refine ⟨hS4, ?_⟩
   refine alH 12 ?_
   unfold wpOp
   go_simp
   first | refine .inl ⟨hS4, ?_⟩ | refine ⟨hS4, ?_⟩ | refine .inl ?_ | skip
   refine wpAnyH_done (by kernel_rfl) ?_ _
   have HB7 := Lib.hid hB74
   have HS4 := Lib.hid hS4
   have HGE := Lib.hid hge
   clear hB74 hS4 hge
   cases htn : turnS false m.T f.ext with
   | none =>
    have hq := HRF.out
    rw [htn] at hq
    unfold turnV at hq
    simp only [Value.tuple.injEq,Array.mk.injEq,List.cons.injEq,Value.agg.injEq,Value.int.injEq,Value.string.injEq,true_and,and_true] at hq
    obtain ⟨⟨rfl,rfl⟩,rfl⟩ := hq
    have HE : P = (14,none) := by rw [← HP.out,HPR.out,htn]
    subst HE
    clear htn
    go_wp2
    go_ret
    have hbF := HBW.out.trans (HS4.out.mono HBW.out.size)
    exact ⟨fun _ => ⟨rfl,hbF,HST.out.below hbF⟩,fun T2 f h => by cases h⟩
   | some T2 =>
    have hq := HRF.out
    rw [htn] at hq
    unfold turnV spv at hq
    simp only [Value.tuple.injEq,Array.mk.injEq,List.cons.injEq,Value.agg.injEq,Value.int.injEq,Value.string.injEq,true_and,and_true] at hq
    obtain ⟨⟨rfl,rfl⟩,rfl⟩ := hq
    have HE : P = (0,some (T2,f)) := by rw [← HP.out,HPR.out,htn]
    subst HE
    have hT2 := turnS_len _ _ _ _ htn
    have KST := fun (X1 : List Nat) (Mc : Nat) (w1 : World) hs1 hC => HKST.out X1 Mc T2 hT2 w1 hs1 hC
    unfold SetP spv at KST
    have HRP := Lib.hid (show ∀ e w',RemP X S D Lg M m T2 (delF m.F name) [(fe,[])] w e w' → RemoveP X S D Lg M m (0,some (T2,f)) w e w' from fun e w' hr => ⟨fun h => by (cases h),fun T3 f3 h => by
     cases h
     rw [HFN.out,HFEQ.out];exact hr⟩)
    obtain ⟨t2,ht2⟩ : ∃ q,T2.length = q := ⟨_,rfl⟩
    obtain ⟨PB2,hPB2⟩ : ∃ q,mk (packB T2) = q := ⟨_,rfl⟩
    simp only [ht2,hPB2] at KST
    rw [ht2,hPB2] at HB7
    have hn2 := run_num (settleC m.most T2 [(fe,[])]) m.ds
    obtain ⟨r2,hr2⟩ : ∃ q,DS.run (settleC m.most T2 [(fe,[])]) m.ds = q := ⟨_,rfl⟩
    have HR2 := Lib.hid hr2
    rw [hr2] at hn2
    simp only [hr2] at KST
    obtain ⟨n2,d2⟩ := r2
    dsimp only at hn2 KST
    clear htn hT2 hr2 hPB2 ht2
    have hb4 := HBW.out.trans (HS4.out.mono HBW.out.size)
    have HB4 := Lib.hid hb4
    have hX : Blk w4 H5 #[.int .i64 (fe : Int), .int .i64 (sz : Int), .slice A xl c] 69 ∧ Blk w4 H7 #[.int .i64 (t2 : Int), .string PB2] 76 := ⟨HB5.out.below HS4.out,HB7.out⟩
    have HX := Lib.hid hX
    have HORD := Lib.hid (show (∀ x ∈ S :: M :: X,x ≠ H5 ∧ x ≠ H7) from fun x hx => by
     have q1 := HSLT.out x hx
     have q2 := HH5.out
     have q3 := HGE.out
     have q4 := HBW.out.size
     omega)
    clear hb4 hX
    have hb2 := HB4.out.alloc HB4.out.size (.map #[] 0)
    have hS2 : Blk (w4.alloc (.map #[] 0)) H5 #[.int .i64 (fe : Int), .int .i64 (sz : Int), .slice A xl c] 69 ∧ Blk (w4.alloc (.map #[] 0)) H7 #[.int .i64 (t2 : Int), .string PB2] 76 := ⟨HX.out.1.alloc _,HX.out.2.alloc _⟩
    have hcm2 := CM.made w4
    have hMc : w.heap.size ≤ w4.heap.size := HB4.out.size
    have e0 := HX.out.2.cell 0
    have e1 := HX.out.2.cell 1
    have e2 := HX.out.1.cell 0
    have l5 := HX.out.1.lt
    have l7 := HX.out.2.lt
    simp at e0 e1 e2
    obtain ⟨W4,hrun4,hcm4,hg4⟩ := hcm2.one fe [] HFE.out
    have hb4 := hb2.grown hg4 hb2.size (fun g e => by cases e;exact hMc)
    have hS4 : Blk W4 H5 #[.int .i64 (fe : Int), .int .i64 (sz : Int), .slice A xl c] 69 ∧ Blk W4 H7 #[.int .i64 (t2 : Int), .string PB2] 76 := ⟨hS2.1.grown hg4 (fun e => by cases e;exact hcm2.not_cells hS2.1 rfl),hS2.2.grown hg4 (fun e => by cases e;exact hcm2.not_cells hS2.2 rfl)⟩
    have hst4 := HST.out.below hb4
    have HW4 := Lib.hid (And.intro hcm4 (And.intro hst4 (And.intro hS4 hb4)))
    have HRUN := Lib.hid hrun4
    have KST1 := KST X w4.heap.size W4 hst4 hcm4
    clear hb2 hcm2 hMc hrun4 hcm4 hg4 hb4 hS4 hst4 hS2 KST
    have hmm := @run_makeMap Tryz.prog
    rcases hn2 with rfl | rfl
    case inr =>
     go_wp2_with (first
      | (refine wpList_insert rfl 102 (.tmp 32) (.tmp 34) (.const (.string ⟨#[]⟩)) rfl _ _ _ (by rfl) (by rfl) (by rfl) HRUN.out ?_)
      | (go_at_call 50;(with_reducible refine KST1.mono ?_);rintro e W5 ⟨rfl,X2,hM5,hS0,hS7⟩;have HF := Lib.hid (And.intro (hS7 (by decide)) (((Mv.of_below (S :: X) HW4.out.2.2.2).trans hM5).cons2 M));clear hM5 hS0 hS7 KST1))
     go_ret
     refine HRP.out _ _ ?_
     unfold RemP
     rw [HR2.out]
     exact ⟨rfl,X2,HF.out.2,by first | exact HF.out.1 | exact ⟨(fun h => by cases h),fun _ => HF.out.1⟩ | exact ⟨fun _ => HF.out.1,fun h => absurd rfl h⟩⟩
    go_upto_region 10 with (first
      | (refine wpList_insert rfl 102 (.tmp 32) (.tmp 34) (.const (.string ⟨#[]⟩)) rfl _ _ _ (by rfl) (by rfl) (by rfl) HRUN.out ?_)
      | (go_at_call 50;(with_reducible refine KST1.mono ?_);rintro e W5 ⟨rfl,X2,hM5,hS0,hS7⟩;have HF5 := Lib.hid (And.intro (hS0 rfl) (((Mv.of_below (S :: X) HW4.out.2.2.2).trans hM5).cons2 M));clear hM5 hS0 hS7 KST1))
    obtain ⟨ad5,hFM5,hEX5⟩ := HF5.out.1.map
    obtain ⟨W6,hrun6,hFM6,hg6⟩ := HDR.out ad5 W5 hFM5
    have hne6 : ∀ g,some M = some g → ∀ c fr,W5.heap[g]? ≠ some (.cells c 90 fr) := fun g e c fr hc => by cases e;exact (hFM5.not_cells hc) rfl
    have hst6 := HF5.out.1.store hg6 hFM6 ((hEX5.grown hg6 hne6).sub (fun g hg => (List.mem_filter.1 hg).1))
    have HF := Lib.hid (And.intro hst6 (HF5.out.2.trans (Mv.of_grown hg6 (by simp))))
    have x4 := HF5.out.1.blk.cell 4
    simp at x4
    have s5 := HF5.out.1.blk.lt
    clear hFM5 hEX5 hFM6 hg6 hne6 hst6 e0 e1 e2 l5 l7 hmm
    go_wp2
    go_ret
    refine HRP.out _ _ ?_
    unfold RemP
    rw [HR2.out]
    exact ⟨rfl,X2,HF.out.2,by first | exact HF.out.1 | exact ⟨fun _ => HF.out.1,fun h => absurd rfl h⟩⟩
  ·unfold wpOp
   go_simp
   have hB7 := Blk.new W0 #[.int .i64 0, .string ⟨#[]⟩] 76
   have hS1 := hS0.alloc hS0.size (.cells #[.int .i64 0, .string ⟨#[]⟩] 76)
   have hge : W1.heap.size ≤ W0.heap.size := hS0.size
   obtain ⟨H7,hH7⟩ : ∃ q,W0.heap.size = q := ⟨_,rfl⟩
   rw [hH7] at hB7 hge
   obtain ⟨w2,hw2⟩ : ∃ q,W0.alloc (.cells #[.int .i64 0, .string ⟨#[]⟩] 76) = q := ⟨_,rfl⟩
   rw [hw2] at hB7 hS1 ⊢
   try rw [hH7]
   clear hw2 hH7 hS0
   first | refine .inl ⟨hS1, ?_⟩ | refine ⟨hS1, ?_⟩
   have hB70 := hB7
   clear hB7
   refine alH 6 ?_
   unfold wpOp
   go_simp
   refine .inl ?_
   go_at_call 41
   refine (HKG.out w2 (HLA1.out.below (Nat.le_refl _) hS1)).mono ?_
   rintro e w3 ⟨rfl,hb3⟩
   have hS3 := hS1.trans (hb3.mono hS1.size)
   have hB7 := hB70.below hb3
   refine ⟨hS3, ?_⟩
   try go_simp
   clear hS1 hb3 hB70
   refine tkQ 7 (.tuple #[.agg #[.int .i64 tn, .string PBn], .int .i64 en]) rfl hS3 ?_
   try go_simp
   refine tkQ 8 (.agg #[.int .i64 tn, .string PBn]) rfl hS3 ?_
   try go_simp
   refine tkQ 9 (.int .i64 en) rfl hS3 ?_
   try go_simp
   have c0 := hB7.cell 0
   have c1 := hB7.cell 1
   have f0 := hB7.frozen 0
   have f1 := hB7.frozen 1
   simp at c0 c1
   have l7 := hB7.lt
   refine alH 11 ?_
   unfold wpOp
   go_simp
   have hB74 := (hB7.set 0 (.int .i64 tn)).set 1 (.string PBn)
   have hS4 := below_set (below_set hS3 H7 0 (.int .i64 tn) hge) H7 1 (.string PBn) hge
   obtain ⟨w4,hw4⟩ : ∃ q,(w3.setCell ⟨H7,0,none⟩ (.int .i64 tn)).setCell ⟨H7,1,none⟩ (.string PBn) = q := ⟨_,rfl⟩
   rw [hw4] at hB74 hS4 ⊢
   clear hw4 hB7 hS3 c0 c1 f0 f1 l7
   first | refine .inl ⟨hS4, ?_⟩ | refine ⟨hS4, ?_⟩
   refine alH 12 ?_
   unfold wpOp
   go_simp
   first | refine .inl ⟨hS4, ?_⟩ | refine ⟨hS4, ?_⟩ | refine .inl ?_ | skip
   refine wpAnyH_done (by kernel_rfl) ?_ _
   have HB7 := Lib.hid hB74
   have HS4 := Lib.hid hS4
   have HGE := Lib.hid hge
   clear hB74 hS4 hge
   cases htn : turnS false m.T f.ext with
   | none =>
    have hq := HRF.out
    rw [htn] at hq
    unfold turnV at hq
    simp only [Value.tuple.injEq,Array.mk.injEq,List.cons.injEq,Value.agg.injEq,Value.int.injEq,Value.string.injEq,true_and,and_true] at hq
    obtain ⟨⟨rfl,rfl⟩,rfl⟩ := hq
    have HE : P = (14,none) := by rw [← HP.out,HPR.out,htn]
    subst HE
    clear htn
    go_wp2
    go_ret
    have hbF := HBW.out.trans (HS4.out.mono HBW.out.size)
    exact ⟨fun _ => ⟨rfl,hbF,HST.out.below hbF⟩,fun T2 f h => by cases h⟩
   | some T2 =>
    have hq := HRF.out
    rw [htn] at hq
    unfold turnV spv at hq
    simp only [Value.tuple.injEq,Array.mk.injEq,List.cons.injEq,Value.agg.injEq,Value.int.injEq,Value.string.injEq,true_and,and_true] at hq
    obtain ⟨⟨rfl,rfl⟩,rfl⟩ := hq
    have HE : P = (0,some (T2,f)) := by rw [← HP.out,HPR.out,htn]
    subst HE
    have hT2 := turnS_len _ _ _ _ htn
    have KST := fun (X1 : List Nat) (Mc : Nat) (w1 : World) hs1 hC => HKST.out X1 Mc T2 hT2 w1 hs1 hC
    unfold SetP spv at KST
    have HRP := Lib.hid (show ∀ e w',RemP X S D Lg M m T2 (delF m.F name) [(fe,[])] w e w' → RemoveP X S D Lg M m (0,some (T2,f)) w e w' from fun e w' hr => ⟨fun h => by (cases h),fun T3 f3 h => by
     cases h
     rw [HFN.out,HFEQ.out];exact hr⟩)
    obtain ⟨t2,ht2⟩ : ∃ q,T2.length = q := ⟨_,rfl⟩
    obtain ⟨PB2,hPB2⟩ : ∃ q,mk (packB T2) = q := ⟨_,rfl⟩
    simp only [ht2,hPB2] at KST
    rw [ht2,hPB2] at HB7
    have hn2 := run_num (settleC m.most T2 [(fe,[])]) m.ds
    obtain ⟨r2,hr2⟩ : ∃ q,DS.run (settleC m.most T2 [(fe,[])]) m.ds = q := ⟨_,rfl⟩
    have HR2 := Lib.hid hr2
    rw [hr2] at hn2
    simp only [hr2] at KST
    obtain ⟨n2,d2⟩ := r2
    dsimp only at hn2 KST
    clear htn hT2 hr2 hPB2 ht2
    have hb4 := HBW.out.trans (HS4.out.mono HBW.out.size)
    have HB4 := Lib.hid hb4
    have hX : Blk w4 H5 #[.int .i64 (fe : Int), .int .i64 (sz : Int), .slice A xl c] 69 ∧ Blk w4 H7 #[.int .i64 (t2 : Int), .string PB2] 76 := ⟨HB5.out.below HS4.out,HB7.out⟩
    have HX := Lib.hid hX
    have HORD := Lib.hid (show (∀ x ∈ S :: M :: X,x ≠ H5 ∧ x ≠ H7) from fun x hx => by
     have q1 := HSLT.out x hx
     have q2 := HH5.out
     have q3 := HGE.out
     have q4 := HBW.out.size
     omega)
    clear hb4 hX
    have hb2 := HB4.out.alloc HB4.out.size (.map #[] 0)
    have hS2 : Blk (w4.alloc (.map #[] 0)) H5 #[.int .i64 (fe : Int), .int .i64 (sz : Int), .slice A xl c] 69 ∧ Blk (w4.alloc (.map #[] 0)) H7 #[.int .i64 (t2 : Int), .string PB2] 76 := ⟨HX.out.1.alloc _,HX.out.2.alloc _⟩
    have hcm2 := CM.made w4
    have hMc : w.heap.size ≤ w4.heap.size := HB4.out.size
    have e0 := HX.out.2.cell 0
    have e1 := HX.out.2.cell 1
    have e2 := HX.out.1.cell 0
    have l5 := HX.out.1.lt
    have l7 := HX.out.2.lt
    simp at e0 e1 e2
    obtain ⟨W4,hrun4,hcm4,hg4⟩ := hcm2.one fe [] HFE.out
    have hb4 := hb2.grown hg4 hb2.size (fun g e => by cases e;exact hMc)
    have hS4 : Blk W4 H5 #[.int .i64 (fe : Int), .int .i64 (sz : Int), .slice A xl c] 69 ∧ Blk W4 H7 #[.int .i64 (t2 : Int), .string PB2] 76 := ⟨hS2.1.grown hg4 (fun e => by cases e;exact hcm2.not_cells hS2.1 rfl),hS2.2.grown hg4 (fun e => by cases e;exact hcm2.not_cells hS2.2 rfl)⟩
    have hst4 := HST.out.below hb4
    have HW4 := Lib.hid (And.intro hcm4 (And.intro hst4 (And.intro hS4 hb4)))
    have HRUN := Lib.hid hrun4
    have KST1 := KST X w4.heap.size W4 hst4 hcm4
    clear hb2 hcm2 hMc hrun4 hcm4 hg4 hb4 hS4 hst4 hS2 KST
    have hmm := @run_makeMap Tryz.prog
    rcases hn2 with rfl | rfl
    case inr =>
     go_wp2_with (first
      | (refine wpList_insert rfl 102 (.tmp 32) (.tmp 34) (.const (.string ⟨#[]⟩)) rfl _ _ _ (by rfl) (by rfl) (by rfl) HRUN.out ?_)
      | (go_at_call 50;(with_reducible refine KST1.mono ?_);rintro e W5 ⟨rfl,X2,hM5,hS0,hS7⟩;have HF := Lib.hid (And.intro (hS7 (by decide)) (((Mv.of_below (S :: X) HW4.out.2.2.2).trans hM5).cons2 M));clear hM5 hS0 hS7 KST1))
     go_ret
     refine HRP.out _ _ ?_
     unfold RemP
     rw [HR2.out]
     exact ⟨rfl,X2,HF.out.2,by first | exact HF.out.1 | exact ⟨(fun h => by cases h),fun _ => HF.out.1⟩ | exact ⟨fun _ => HF.out.1,fun h => absurd rfl h⟩⟩
    go_upto_region 10 with (first
      | (refine wpList_insert rfl 102 (.tmp 32) (.tmp 34) (.const (.string ⟨#[]⟩)) rfl _ _ _ (by rfl) (by rfl) (by rfl) HRUN.out ?_)
      | (go_at_call 50;(with_reducible refine KST1.mono ?_);rintro e W5 ⟨rfl,X2,hM5,hS0,hS7⟩;have HF5 := Lib.hid (And.intro (hS0 rfl) (((Mv.of_below (S :: X) HW4.out.2.2.2).trans hM5).cons2 M));clear hM5 hS0 hS7 KST1))
    obtain ⟨ad5,hFM5,hEX5⟩ := HF5.out.1.map
    obtain ⟨W6,hrun6,hFM6,hg6⟩ := HDR.out ad5 W5 hFM5
    have hne6 : ∀ g,some M = some g → ∀ c fr,W5.heap[g]? ≠ some (.cells c 90 fr) := fun g e c fr hc => by cases e;exact (hFM5.not_cells hc) rfl
    have hst6 := HF5.out.1.store hg6 hFM6 ((hEX5.grown hg6 hne6).sub (fun g hg => (List.mem_filter.1 hg).1))
    have HF := Lib.hid (And.intro hst6 (HF5.out.2.trans (Mv.of_grown hg6 (by simp))))
    have x4 := HF5.out.1.blk.cell 4
    simp at x4
    have s5 := HF5.out.1.blk.lt
    clear hFM5 hEX5 hFM6 hg6 hne6 hst6 e0 e1 e2 l5 l7 hmm
    go_wp2
    go_ret
    refine HRP.out _ _ ?_
    unfold RemP
    rw [HR2.out]
    exact ⟨rfl,X2,HF.out.2,by first | exact HF.out.1 | exact ⟨fun _ => HF.out.1,fun h => absurd rfl h⟩⟩
open Go.RowKit Go.Maps
def fmtX (n f : Nat) : List (Nat × Bs) := (List.range (f + 3)).map fun i => (i,if i = 0 then headB n f else [])
def fulls (l : List (Nat × Bs)) : List (Nat × Bs) := l.map fun c => (c.1,fullB c.2)
theorem write_on (L : List Bs) (S : List (Nat × Bs)) (i : Nat) (b : Bs) : DS.write ⟨L,S,none,false⟩ i b = (0,⟨L,S ++ [(i,fullB b)],none,false⟩) := rfl
theorem sync_on (L : List Bs) (S : List (Nat × Bs)) : DS.sync ⟨L,S,none,false⟩ = (0,⟨overlay L S,[],none,false⟩) := rfl
set_option maxRecDepth 100000 in
set_option maxHeartbeats 4000000 in
theorem format_ok (X : List Nat) (D : Nat) (L : List Bs) (f : Nat) (w : World) (h : Dsk w X D ⟨L,[],none,false⟩) (h1 : 1 ≤ f) (h2 : f ≤ 256) (h3 : f + 8 ≤ L.length) :
  Calls Tryz.prog 23 #[.pointer (some ⟨D,0,none⟩), .int .i64 f] w fun e w' => e = .returned (.int .i64 0) ∧ ∃ X',Dsk w' X' D ⟨overlay L (fulls (fmtX L.length f)),[],none,false⟩ ∧ Mv X X' w w' := by
 have hsm : L.length ≤ 4096 := h.good.small
 have KZ := fun (S : List (Nat × Bs)) (X1 : List Nat) (w1 : World) (hd : Dsk w1 X1 D ⟨L,S,none,false⟩) => size_any X1 D _ w1 hd
 have KA := fun w1 => dataAt_any f w1 (by omega)
 have KH := fun w1 => head_any L.length f w1 (by omega) (by omega)
 have KW := fun (S : List (Nat × Bs)) (X1 : List Nat) (i : Nat) (b : Bs) (w1 : World) (hd : Dsk w1 X1 D ⟨L,S,none,false⟩) (hi : i < L.length) (hb : b.length ≤ 512) (hS : S.length ≤ 1000000) => write_any X1 D ⟨L,S,none,false⟩ i b w1 hd hi hb hS
 have KS := fun (S : List (Nat × Bs)) (X1 : List Nat) (w1 : World) (hd : Dsk w1 X1 D ⟨L,S,none,false⟩) => sync_any X1 D _ w1 hd
 simp only [write_on,sync_on] at KW KS
 dsimp only at KZ
 have hsnoc : ∀ k,k < f + 3 → fulls ((fmtX L.length f).take (k + 1)) = fulls ((fmtX L.length f).take k) ++ [(k,fullB (if k = 0 then headB L.length f else []))] := by
  intro k hk
  have hk2 : k < (fmtX L.length f).length := by simp [fmtX];exact hk
  rw [List.take_succ_eq_append_getElem hk2]
  simp [fulls,fmtX]
 have hlen : ∀ k,(fulls ((fmtX L.length f).take k)).length ≤ 300 := by
  intro k;simp [fulls,fmtX];omega
 have hall : (fmtX L.length f).take (f + 3) = fmtX L.length f := List.take_of_length_le (by simp [fmtX])
 have hhl : (headB L.length f).length ≤ 512 := by unfold headB;rw [full_length _ (by simp [twoB])];exact Nat.le_refl _
 obtain ⟨HB,hHB⟩ : ∃ q,headB L.length f = q := ⟨_,rfl⟩
 rw [hHB] at KH hsnoc hhl
 obtain ⟨FX,hFX⟩ : ∃ q,fmtX L.length f = q := ⟨_,rfl⟩
 rw [hFX] at hsnoc hlen hall ⊢
 obtain ⟨n,hn⟩ : ∃ q,L.length = q := ⟨_,rfl⟩
 rw [hn] at h3 hsm
 simp only [hn] at KZ KW KH
 obtain ⟨HS,hHS⟩ : ∃ q,mk HB = q := ⟨_,rfl⟩
 rw [hHS] at KH
 have HHS := Lib.hid hHS
 have HSN := Lib.hid hsnoc
 have HLEN := Lib.hid hlen
 have HALL := Lib.hid hall
 have HHL := Lib.hid hhl
 have HD := Lib.hid h
 have KZ0 := KZ [] X w h
 have f1 : ¬ ((f : Int) < 1) := by omega
 have f2 : ¬ ((256 : Int) < (f : Int)) := by omega
 have f3 : ¬ ((n : Int) < (f : Int) + 7 + 1) := by omega
 clear h hsnoc hlen hall hhl hHB hFX hHS hn
 go_enter Tryz.func23,Tryz.ntmps23
 go_upto_region 3 with (first
  | (go_at_call 53;refine KZ0.mono ?_;rintro e w1 ⟨rfl,hw⟩;obtain rfl := hw.symm)
  | (go_at_call 54;refine (KA _).mono ?_;rintro e w1 ⟨rfl,hw⟩;obtain rfl := hw.symm))
 go_wp2
 have HKW := Lib.hid KW
 have HKS := Lib.hid KS
 have HKZ := Lib.hid KZ
 clear KW KS KZ KZ0 f1 f2 f3
 go_loopw [29] (fun i wr => ∃ k : Nat,k ≤ f + 3 ∧ i = .int .i64 k ∧ ∃ X',Dsk wr X' D ⟨L,fulls (FX.take k),none,false⟩ ∧ Mv X X' w wr) (fun i _ => f + 3 - (intOf i).toNat)
 case atStart => exact ⟨0,Nat.zero_le _,rfl,X,HD.out,Mv.refl _ _⟩
 case round =>
  obtain ⟨k,hk,rfl,X1,hD1,hM1⟩ := hrel
  by_cases hlt : k < f + 3
  ·have hsn := HSN.out k hlt
   have hle := HLEN.out k
   obtain ⟨FK,hFK⟩ : ∃ q,fulls (FX.take k) = q := ⟨_,rfl⟩
   rw [hFK] at hD1 hsn hle
   have KZ1 := HKZ.out FK X1 wr hD1
   have HSK := Lib.hid hsn
   have HM1 := Lib.hid hM1
   have k0 : (0 : Int) ≤ (k : Int) := by omega
   have k1 : (k : Int) < 2 + (f : Int) + 1 := by omega
   cases k with
   | zero =>
    have KW1 := fun (w1 : World) (hb : Below wr.heap.size wr w1) => HKW.out FK X1 0 HB w1 (hD1.below hb) (by omega) HHL.out (by omega)
    rw [HHS.out] at KW1
    have HKW1 := Lib.hid KW1
    clear hsn hle hFK hD1 hM1 KW1
    go_wp2_with (first
     | (go_at_call 53;refine KZ1.mono ?_;rintro e w1 ⟨rfl,hw⟩;obtain rfl := hw.symm)
     | (go_at_call 55;refine (KH _).mono ?_;rintro e w2 ⟨rfl,hb2⟩;have KW2 := HKW1.out w2 hb2;have HB2 := Lib.hid hb2;clear hb2 KH)
     | (go_at_call 56;refine KW2.mono ?_;rintro e w3 ⟨rfl,X2,hd3,hm3⟩;have HW := Lib.hid (And.intro hd3 hm3);clear hd3 hm3 KW2))
    go_roundw
    case rel =>
     refine ⟨0 + 1,by omega,by go_num,X2, ?_,HM1.out.trans ((Mv.of_below X1 HB2.out).trans HW.out.2)⟩
     have := HW.out.1
     have hs := HSK.out
     simp only [if_true] at hs
     rw [hs]
     exact this
    case measure => simp [intOf]
   | succ k =>
    have KW1 := HKW.out FK X1 (k + 1) [] wr hD1 (by omega) (by simp) (by omega)
    have k2 : ¬ ((k : Int) + 1 = 0) := by omega
    have k3 : (((k : Int) + 1) == 0) = false := by simp [k2]
    clear hsn hle hFK hD1 hM1 KZ1
    go_wp2_with (first
     | (go_at_call 56;refine KW1.mono ?_;rintro e w3 ⟨rfl,X2,hd3,hm3⟩;have HW := Lib.hid (And.intro hd3 hm3);clear hd3 hm3 KW1))
    go_roundw
    case rel =>
     refine ⟨k + 1 + 1,by omega,by go_num,X2, ?_,HM1.out.trans HW.out.2⟩
     have := HW.out.1
     have hs := HSK.out
     rw [if_neg (by omega)] at hs
     rw [hs]
     exact this
    case measure => simp [intOf];omega
  ·obtain rfl : k = f + 3 := by omega
   rw [HALL.out] at hD1
   have KS1 := HKS.out _ X1 wr hD1
   have HM1 := Lib.hid hM1
   clear hD1 hM1
   go_wp2_with (first
    | (go_at_call 57;refine KS1.mono ?_;rintro e w3 ⟨rfl,hd3,hm3⟩;have HW := Lib.hid (And.intro hd3 hm3);clear hd3 hm3 KS1))
   go_ret
   exact ⟨rfl,X1,HW.out.1,HM1.out.trans (Mv.of_frm HW.out.2)⟩
end Go.Proofs.YtcmcdddnckcpcaaGreatDoor
/- file.learn where no file is,walked. -/
namespace Go.Proofs.YtcmcdddnckcpcaaGreatDoor
open Go.RowKit Go.Maps
theorem fullB_take (s : Bs) : (fullB s).take s.length = s := by simp [fullB]
theorem fullB_nil : fullB [] = zeroS := rfl
set_option maxRecDepth 100000 in
set_option maxHeartbeats 4000000 in
theorem learn0_any (X : List Nat) (S D Lg M : Nat) (ds : DS) (most u : Nat) (w : World) (h : Sto w X S D Lg M ⟨ds,[],[],most,false⟩) (ho : ds.off = false) (hm : 1 ≤ most ∧ most ≤ 256) (hu : u + most + 7 = ds.L.length) (hu1 : 1 ≤ u) (hu2 : u ≤ 4000)
  (h1 : secAt ds.vis 1 = fullB (packB (List.replicate u false))) (h2 : ∀ i,i < most → secAt ds.vis (2 + i) = zeroS) :
  Calls Tryz.prog 59 #[.pointer (some ⟨S,0,none⟩)] w fun e w' => e = .returned (.int .i64 0) ∧ Sto w' X S D Lg M ⟨ds,[],List.replicate u false,most,false⟩ ∧ Mv (S :: X) (S :: X) w w' := by
 obtain ⟨T,hT⟩ : ∃ q,List.replicate u false = q := ⟨_,rfl⟩
 have hTl : T.length = u := by rw [← hT];simp
 rw [hT] at h1 ⊢
 have KZ := fun (w1 : World) (hw : Below w.heap.size w w1) => size_any X D ds w1 (h.dsk.below hw)
 have KA := fun w1 => dataAt_any most w1 (by omega)
 have KR1 := fun (w1 : World) (hw : Below w.heap.size w w1) => read_any X D ds 1 w1 (h.dsk.below hw) (by omega) ho
 have hr1 : ds.vis[1]?.getD [] = fullB (packB T) := h1
 rw [hr1] at KR1
 have KPS := fun w1 => sparse_any T w1 (by omega)
 have hpl := packB_length T
 rw [hTl] at hpl
 have KPD := fun w1 => padded_any (packB T) w1 (by omega)
 have KP0 := fun w1 => padded_any [] w1 (by simp)
 rw [fullB_nil] at KP0
 have KN := fun w1 => spnew_any u w1 (by omega)
 rw [hT] at KN
 unfold spv at KN KPS
 rw [hTl] at KN KPS
 have hfl : (fullB (packB T)).length = 512 := full_length _ (by omega)
 obtain ⟨n,hn⟩ : ∃ q,(u + 7) / 8 = q := ⟨_,rfl⟩
 rw [hn] at hpl
 have zF : (mk (fullB (packB T))).size = 512 := by rw [mk_size,hfl]
 have hsl := fun (w : World) => run_slice_string_h (P := Tryz.prog) (w := w) (t := 9) (s := mk (fullB (packB T))) Tryz.underlying9 .i64 (n : Int) (by omega) (by rw [zF];omega)
 have e1 : (mk (fullB (packB T))).extract 0 n = mk (packB T) := by
  have := ext_mk' (mk (fullB (packB T))) 0 n
  rw [Nat.zero_add,mk_data,List.drop_zero] at this
  rw [this, ← hpl,fullB_take]
 rw [Int.toNat_natCast,e1] at hsl
 have hdiv : ((u : Int) + 7).tdiv 8 = (n : Int) := by rw [Int.tdiv_eq_ediv_of_nonneg (by omega)];omega
 have KR2 := fun (w1 : World) (i : Nat) (hi : i < most) (hw : Dsk w1 X D ds) => read_any X D ds (2 + i) w1 hw (by omega) ho
 have hr2 : ∀ i,i < most → ds.vis[2 + i]?.getD [] = zeroS := h2
 have HKR2 := Lib.hid (fun (w1 : World) (i : Nat) (hi : i < most) (hw : Dsk w1 X D ds) => (hr2 i hi) ▸ KR2 w1 i hi hw)
 clear KR2 hr2 hr1 h1 h2
 have hwn : wrap64 (n : Int) = (n : Int) := Go.IntWalk.wrap64_in _ (by omega)
 obtain ⟨FB,hFB⟩ : ∃ q,mk (fullB (packB T)) = q := ⟨_,rfl⟩
 obtain ⟨PB,hPB⟩ : ∃ q,mk (packB T) = q := ⟨_,rfl⟩
 obtain ⟨Z,hZ⟩ : ∃ q,mk zeroS = q := ⟨_,rfl⟩
 rw [hFB] at KR1 KPD zF
 simp only [hFB,hPB] at hsl
 rw [hPB] at KPS KPD KN
 rw [show mk [] = (⟨#[]⟩ : ByteArray) from rfl,hZ] at KP0
 rw [hZ] at HKR2
 have x0 := h.blk.cell 0
 have x5 := h.blk.cell 5
 simp at x0 x5
 have hSl := h.blk.lt
 have HST := Lib.hid h
 have HB := Lib.hid h.blk
 have HDS := Lib.hid h.dsk
 obtain ⟨N,hN⟩ : ∃ q,ds.L.length = q := ⟨_,rfl⟩
 rw [hN] at hu KZ
 have HKR1 := Lib.hid KR1
 have HKZ := Lib.hid KZ
 have hmost : (most : Int) ≤ 256 := by omega
 have hTV := Lib.hid (show mk (packB T) = PB ∧ T.length = u from ⟨hPB,hTl⟩)
 clear h ho KR1 KZ hT hTl hpl hfl hn hFB hPB hZ hN e1
 go_enter Tryz.func59,Tryz.ntmps59
 go_upto_region 1 with (fail)
 go_quiet ((first
  | (go_at_call 53;exact Calls.quiet_of_same (HKZ.out _ (bdN (Below.refl _ _) _)))
  | (go_at_call 54;exact Calls.quiet_of_same (KA _))))
 have hsub : ((N : Int) - ((most : Int) + 7)) = (u : Int) := by omega
 rw [hsub]
 have hb1 : Below w.heap.size w (w.drewN nq) := bdN (Below.refl _ _) _
 obtain ⟨W1,hW1⟩ : ∃ q,w.drewN nq = q := ⟨_,rfl⟩
 rw [hW1] at hb1
 simp only [hW1]
 have y0 := (hb1.cell (p := ⟨S,0,none⟩) hSl).trans x0
 have KR1 := HKR1.out W1 hb1
 have HB1 := Lib.hid hb1
 have hl1 : S < W1.heap.size := Nat.lt_of_lt_of_le hSl hb1.size
 clear hsub hW1 hb1 x0 x5 hu KA
 go_upto_region 7 with (first
  | (go_at_call 33;refine KR1.mono ?_;rintro e w1 ⟨rfl,hw⟩;obtain rfl := hw.symm;clear KR1))
 have HSLI := Lib.hid hsl
 have hsl1 := hsl W1
 have KPS1 := KPS W1
 simp only [hwn]
 clear hsl KPS hdiv hwn
 go_upto_region 8 with (first
  | (go_at_call 99;refine KPS1.mono ?_;rintro e w2 ⟨rfl,hb2⟩;have hB2 := (HB.out.below HB1.out).below hb2;have d2 := hB2.cell 2;have d3 := hB2.cell 3;have q2 := hB2.frozen 2;have q3 := hB2.frozen 3;simp at d2 d3;have hl2 := hB2.lt;have HB2 := Lib.hid hb2;clear hb2 hB2 KPS1))
 have hst2 := (HST.out.below HB1.out).below HB2.out
 have hst3 : Sto ((w2.setCell ⟨S,2,none⟩ (.int .i64 (u : Int))).setCell ⟨S,3,none⟩ (.string PB)) X S D Lg M ⟨ds,[],T,most,false⟩ := hst2.own (grown_set2 w2 S 2 3 _ _) (T := T) (off := false) (by
  have := (hst2.blk.set 2 (.int .i64 (u : Int))).set 3 (.string PB)
  simpa [stoCells,hTV.out.1,hTV.out.2] using this)
 have hmv : Mv (S :: X) (S :: X) w ((w2.setCell ⟨S,2,none⟩ (.int .i64 (u : Int))).setCell ⟨S,3,none⟩ (.string PB)) := (Mv.of_below _ (HB1.out.trans (HB2.out.mono HB1.out.size))).trans (Mv.of_grown (grown_set2 w2 S 2 3 _ _) (by simp))
 obtain ⟨W3,hW3⟩ : ∃ q,(w2.setCell ⟨S,2,none⟩ (.int .i64 (u : Int))).setCell ⟨S,3,none⟩ (.string PB) = q := ⟨_,rfl⟩
 rw [hW3] at hst3 hmv ⊢
 have HS3 := Lib.hid (And.intro hst3 hmv)
 have hsl3 := HSLI.out W3
 have KPD3 := KPD W3
 clear hW3 hst3 hmv hst2 y0 hl1 hsl1 d2 d3 q2 q3 hl2 KPD
 go_upto_region 10 with (first
  | (go_at_call 86;refine KPD3.mono ?_;rintro e w4 ⟨rfl,hb4⟩;have HB4 := Lib.hid hb4;have KN4 := KN w4;clear hb4 KPD3))
 have hst4 := HS3.out.1.below HB4.out
 have z5 := hst4.blk.cell 5
 simp at z5
 have zl := hst4.blk.lt
 have HST4 := Lib.hid hst4
 clear hst4 hsl3 KN
 go_wp2_with (first
  | (go_at_call 100;refine KN4.mono ?_;rintro e w5 ⟨rfl,hb5⟩;have hst5 := HST4.out.below hb5;have z5' := hst5.blk.cell 5;simp at z5';have zl' := hst5.blk.lt;have HB5 := Lib.hid hb5;have HST5 := Lib.hid hst5;clear hb5 hst5 KN4))
 have hB8 := Blk.new w5 #[.int .i64 (u : Int), .string PB] 76
 have hst6 := HST5.out.below (below_alloc w5 (.cells #[.int .i64 (u : Int), .string PB] 76))
 have hmv6 := (HS3.out.2.below (HB4.out.trans (HB5.out.mono HB4.out.size))).below (below_alloc w5 (.cells #[.int .i64 (u : Int), .string PB] 76))
 have hSH : S < w5.heap.size := HST5.out.blk.lt
 obtain ⟨H8,hH8⟩ : ∃ q,w5.heap.size = q := ⟨_,rfl⟩
 rw [hH8] at hB8 hSH
 obtain ⟨W6,hW6⟩ : ∃ q,w5.alloc (.cells #[.int .i64 (u : Int), .string PB] 76) = q := ⟨_,rfl⟩
 simp only [hW6] at hB8 hst6 hmv6 ⊢
 try simp only [hH8]
 have HS6 := Lib.hid (And.intro hst6 (And.intro hmv6 hB8))
 have HSH := Lib.hid hSH
 clear hB8 hst6 hmv6 hSH hH8 hW6 z5 zl z5' zl'
 go_loopw [73] (fun i wr => ∃ k : Nat,k ≤ most ∧ i = .int .i64 k ∧ Sto wr X S D Lg M ⟨ds,[],T,most,false⟩ ∧ Mv (S :: X) (S :: X) w wr ∧ Blk wr H8 #[.int .i64 (u : Int), .string PB] 76) (fun i _ => most - (intOf i).toNat)
 case atStart => exact ⟨0,Nat.zero_le _,rfl,HS6.out⟩
 case round =>
  obtain ⟨k,hk,rfl,hst,hmv,hB8⟩ := hrel
  by_cases hlt : k < most
  ·have KR := HKR2.out wr k hlt hst.dsk
   rw [show ((2 + k : Nat) : Int) = 2 + (k : Int) by push_cast;rfl] at KR
   have x0 := hst.blk.cell 0
   simp at x0
   have HH := Lib.hid (And.intro hst (And.intro hmv hB8))
   have KP := KP0 wr
   have k0 : (0 : Int) ≤ (k : Int) := by omega
   have k1 : (k : Int) < (most : Int) := by omega
   clear hst hmv hB8
   go_wp2_with (first
    | (go_at_call 33;refine KR.mono ?_;rintro e w1 ⟨rfl,hw⟩;obtain rfl := hw.symm;clear KR)
    | (go_at_call 86;refine KP.mono ?_;rintro e w7 ⟨rfl,hb7⟩;have HB7 := Lib.hid hb7;clear KP hb7))
   go_roundw
   case rel => exact ⟨k + 1,by omega,by go_num,HH.out.1.below HB7.out,HH.out.2.1.below HB7.out,HH.out.2.2.below HB7.out⟩
   case measure => simp [intOf];omega
  ·obtain rfl : k = most := by omega
   have y2 := hst.blk.cell 2
   have y3 := hst.blk.cell 3
   simp only [stoCells,hTV.out.1,hTV.out.2] at y2 y3
   have e0 := hB8.cell 0
   have e1 := hB8.cell 1
   simp at y2 y3 e0 e1
   have HH := Lib.hid (And.intro hst hmv)
   clear hst hmv hB8
   go_upto_region 28 with (fail)
   go_quiet (fail)
   go_wp2
   go_ret
   exact ⟨rfl,HH.out.1.below (bdN (Below.refl _ _) _),HH.out.2.below (bdN (Below.refl _ _) _)⟩
end Go.Proofs.YtcmcdddnckcpcaaGreatDoor
/- file.Mount of a store without files,walked. -/
namespace Go.Proofs.YtcmcdddnckcpcaaGreatDoor
open Go.RowKit Go.Maps
theorem Mv.hide {X X' : List Nat} {S : Nat} {w w4 w5 : World} (h : Mv X X' w w4) (k : Mv (S :: X') (S :: X') w4 w5) (hS : w.heap.size ≤ S) : Mv X X' w w5 := by
 refine ⟨⟨k.frm.os.trans h.frm.os,k.frm.tape.trans h.frm.tape,k.frm.output.trans h.frm.output,Nat.le_trans h.size k.size,fun b hb hx => ?_⟩,h.sub⟩
 refine (k.frm.block b (Nat.lt_of_lt_of_le hb h.size) (fun hm => ?_)).trans (h.frm.block b hb hx)
 rcases List.mem_cons.1 hm with rfl | hm
 ·omega
 ·exact h.apart hx hb hm
theorem head_bytes (n f : Nat) (hf : f ≤ 256) : byteAt (headB n f) 4 * 256 + byteAt (headB n f) 5 = f := by
 have h4 : byteAt (headB n f) 4 = (UInt8.ofNat (f / 256)).toNat := rfl
 have h5 : byteAt (headB n f) 5 = (UInt8.ofNat f).toNat := rfl
 rw [h4,h5]
 simp
 omega
theorem headB_len (n f : Nat) : (headB n f).length = 512 := by unfold headB;exact full_length _ (by simp [twoB])
set_option maxRecDepth 100000 in
set_option maxHeartbeats 4000000 in
theorem mount0_any (X : List Nat) (D : Nat) (ds : DS) (most u : Nat) (w : World) (h : Dsk w X D ds) (ho : ds.off = false) (hm : 1 ≤ most ∧ most ≤ 256) (hu : u + most + 7 = ds.L.length) (hu1 : 1 ≤ u) (hu2 : u ≤ 4000)
  (h0 : secAt ds.vis 0 = headB ds.L.length most) (h1 : secAt ds.vis 1 = fullB (packB (List.replicate u false))) (h2 : ∀ i,i < most → secAt ds.vis (2 + i) = zeroS) (hlog : saidB ds.vis (2 + most) 5 = [])
  (hS : ds.S.length ≤ 990000) (hT : TB w) (hw : 0 < w.heap.size) (hX0 : 0 ∉ X) :
  Calls Tryz.prog 24 #[.pointer (some ⟨D,0,none⟩)] w fun e w' => ∃ X' S Lg M,e = .returned (.tuple #[.pointer (some ⟨S,0,none⟩), .int .i64 0]) ∧ Sto w' X' S D Lg M ⟨ds,[],List.replicate u false,most,false⟩ ∧ Mv X X' w w' ∧ w.heap.size ≤ S ∧ w.heap.size ≤ M := by
 have KR1 := read_any X D ds 0 w h (by omega) ho
 have hr1 : ds.vis[0]?.getD [] = headB ds.L.length most := h0
 rw [hr1] at KR1
 have KZ := fun (w1 : World) (hw : Below w.heap.size w w1) => size_any X D ds w1 (h.below hw)
 have KA := fun w1 => dataAt_any most w1 (by omega)
 have KH := fun w1 => head_any ds.L.length most w1 (by have := h.good.small;omega) (by omega)
 have KO := fun (w1 : World) (hb : Below w.heap.size w w1) => open_any X D ds (2 + most) 5 w1 (h.below hb) (by omega) (by omega) (by omega) ho hS (hT.below hw hb) (Nat.lt_of_lt_of_le hw hb.size)
 unfold OpenP at KO
 rw [hlog] at KO
 simp only [show openC [] (2 + most) = [] from rfl,show DS.run [] ds = (0,ds) from rfl] at KO
 have KL := fun (X1 : List Nat) (S Lg M : Nat) (w1 : World) (hs : Sto w1 X1 S D Lg M ⟨ds,[],[],most,false⟩) => learn0_any X1 S D Lg M ds most u w1 hs ho hm hu hu1 hu2 h1 h2
 have hHl := headB_len ds.L.length most
 have hhb := head_bytes ds.L.length most hm.2
 obtain ⟨hd,hhd⟩ : ∃ q,headB ds.L.length most = q := ⟨_,rfl⟩
 rw [hhd] at KR1 hHl hhb
 simp only [hhd] at KH
 obtain ⟨HS,hHS⟩ : ∃ q,mk hd = q := ⟨_,rfl⟩
 rw [hHS] at KR1
 simp only [hHS] at KH
 obtain ⟨ja,jb⟩ := at_mkH hd HS hHS 4 (by omega)
 obtain ⟨jc,jd⟩ := at_mkH hd HS hHS 5 (by omega)
 have zH : HS.size = 512 := by rw [← hHS,mk_size,hHl]
 have q1 : byteAt hd 4 < 256 := byteAt_lt _ _
 have q2 : byteAt hd 5 < 256 := byteAt_lt _ _
 obtain ⟨a1,ha1⟩ : ∃ q,byteAt hd 4 = q := ⟨_,rfl⟩
 obtain ⟨a2,ha2⟩ : ∃ q,byteAt hd 5 = q := ⟨_,rfl⟩
 rw [ha1] at jb hhb q1
 rw [ha2] at jd hhb q2
 have q3 : (0 : Int) ≤ (a1 : Int) ∧ (a1 : Int) < 256 := by omega
 have q4 : (0 : Int) ≤ (a2 : Int) ∧ (a2 : Int) < 256 := by omega
 obtain ⟨N,hN⟩ : ∃ q,ds.L.length = q := ⟨_,rfl⟩
 have hu' := hu
 rw [hN] at hu'
 have m1 : ¬ ((most : Int) < 1) := by omega
 have m2 : ¬ ((256 : Int) < (most : Int)) := by omega
 have m3 : ¬ ((N : Int) < (most : Int) + 7 + 1) := by omega
 have hor := or_i64 a1 a2 (by omega) q2
 have w4 : wrap64 (a2 : Int) = (a2 : Int) := word64 q4.1 q4.2 (by decide)
 rw [w4,hhb] at hor
 have w3 : wrap64 (a1 : Int) = (a1 : Int) := word64 q3.1 q3.2 (by decide)
 have w7 : IntKind.i64.wrap (a1 : Int) = (a1 : Int) := by rw [Go.IntWalk.i64_left];exact w3
 have w8 : IntKind.i64.wrap (a2 : Int) = (a2 : Int) := by rw [Go.IntWalk.i64_left];exact w4
 have w5 : IntKind.i64.wrap ((a1 : Int) * 256) = (a1 : Int) * 256 := word256 q3.1 q3.2
 have HD := Lib.hid h
 have HT := Lib.hid (And.intro hT (And.intro hw hX0))
 have HLT := Lib.hid h.lt
 have HDM := Lib.hid h.mem
 simp only [hN] at KZ KH
 have HKZ := Lib.hid KZ
 have HKO := Lib.hid KO
 have HKL := Lib.hid KL
 have mixed := mixedT
 clear hu' h ho hu hu1 hu2 h0 h1 h2 hlog hS hT hw hX0 hr1 KZ KO KL hHl hhd hHS ha1 ha2 hhb hN
 go_enter Tryz.func24,Tryz.ntmps24
 go_upto_region 6 with (first | (go_at_call 33;refine KR1.mono ?_;rintro e w1 ⟨rfl,hw⟩;obtain rfl := hw.symm;clear KR1))
 refine wp_region_held (S := fun _ => True) mixed ?_
 change wpAnyH _ _ _ _ _ _ _ _ w.drew
 have hb0 : Below w.heap.size w w.drew := (Below.refl _ _).drew
 obtain ⟨W0,hW0⟩ : ∃ q,w.drew = q := ⟨_,rfl⟩
 rw [hW0] at hb0 ⊢
 clear hW0
 refine tkQ 0 (.string HS) rfl trivial ?_
 try go_simp
 refine tkQ 1 (.int .u8 (a1 : Int)) rfl trivial ?_
 try go_simp
 refine tkQ 2 (.int .i64 (a1 : Int)) rfl trivial ?_
 try go_simp
 refine tkQ 3 (.int .i64 ((a1 : Int) * 256)) rfl trivial ?_
 try go_simp
 refine tkQ 4 (.string HS) rfl trivial ?_
 try go_simp
 refine tkQ 5 (.int .u8 (a2 : Int)) rfl trivial ?_
 try go_simp
 refine tkQ 6 (.int .i64 (a2 : Int)) rfl trivial ?_
 try go_simp
 refine tkQ 7 (.int .i64 (most : Int)) rfl trivial ?_
 try go_simp
 refine tkQ 8 (.int .i64 (most : Int)) rfl trivial ?_
 try go_simp
 refine wpAnyH_done (by kernel_rfl) ?_ _
 have KZ1 := HKZ.out W0 hb0
 have KH1 := KH W0
 have HB0 := Lib.hid hb0
 clear hor w3 w4 w5 w7 w8 hb0 ja jb jc jd q1 q2 q3 q4 zH KH
 go_upto_region 9 with (first
  | (go_at_call 53;refine KZ1.mono ?_;rintro e w1 ⟨rfl,hw⟩;obtain rfl := hw.symm)
  | (go_at_call 54;refine (KA _).mono ?_;rintro e w1 ⟨rfl,hw⟩;obtain rfl := hw.symm)
  | (go_at_call 55;refine KH1.mono ?_;rintro e w2 ⟨rfl,hb2⟩;have HB2 := Lib.hid (HB0.out.trans (hb2.mono HB0.out.size));clear hb2 KH1))
 clear KZ1 KA m1 m2 m3
 have hmm := @run_makeMap Tryz.prog
 go_upto_region 10 with (fail)
 clear hmm
 have hM0 := FM.made w2 (fun _ => (none,0))
 have hbS := Blk.new (w2.alloc (.map #[] 0)) #[.pointer (some ⟨D,0,none⟩), .pointer none, .int .i64 0, .string ⟨#[]⟩, .map (some w2.heap.size), .int .i64 (most : Int), .bool false] 79
 have hb3 := (HB2.out.alloc HB2.out.size (.map #[] 0)).alloc (by have := HB2.out.size;simp;omega) (.cells #[.pointer (some ⟨D,0,none⟩), .pointer none, .int .i64 0, .string ⟨#[]⟩, .map (some w2.heap.size), .int .i64 (most : Int), .bool false] 79)
 have hM1 := hM0.block (Below.heap_alloc (w2.alloc (.map #[] 0)) (.cells #[.pointer (some ⟨D,0,none⟩), .pointer none, .int .i64 0, .string ⟨#[]⟩, .map (some w2.heap.size), .int .i64 (most : Int), .bool false] 79) w2.heap.size hM0.lt)
 rw [World.size_alloc] at hbS
 have hMge : w.heap.size ≤ w2.heap.size := HB2.out.size
 obtain ⟨W3,hW3⟩ : ∃ q,(w2.alloc (.map #[] 0)).alloc (.cells #[.pointer (some ⟨D,0,none⟩), .pointer none, .int .i64 0, .string ⟨#[]⟩, .map (some w2.heap.size), .int .i64 (most : Int), .bool false] 79) = q := ⟨_,rfl⟩
 simp only [hW3] at hbS hb3 hM1 ⊢
 obtain ⟨M,hMe⟩ : ∃ q,w2.heap.size = q := ⟨_,rfl⟩
 rw [hMe] at hbS hM1 hMge
 try simp only [hMe]
 have KO := HKO.out W3 hb3
 rw [show ((2 + most : Nat) : Int) = 2 + (most : Int) by push_cast;rfl] at KO
 have HS3 := Lib.hid (And.intro hbS (And.intro hb3 (And.intro hM1 hMge)))
 clear hM0 hbS hb3 hM1 hMge hW3 hMe
 go_upto_region 11 with (first
  | (go_at_call 58;refine KO.mono ?_;rintro e w4 ⟨X',hd4,hm4,hok,hno⟩;obtain ⟨Lg,n4,rfl,hge,hLX,hWL⟩ := hok trivial;have hS4 := hm4.blk HS3.out.1 (fun hx => by have := HLT.out _ hx;have := HS3.out.2.2.2;omega);have y1 := hS4.cell 1;have f1 := hS4.frozen 1;simp at y1;have l4 := hS4.lt;have HW4 := Lib.hid (And.intro hd4 (And.intro hm4 (And.intro hge (And.intro hLX (And.intro hWL hS4)))));clear hd4 hm4 hok hno hge hLX hWL hS4 KO))
 have hst5 : Sto (w4.setCell ⟨M + 1,1,none⟩ (.pointer (some ⟨Lg,0,none⟩))) X' (M + 1) D Lg M ⟨ds,[],[],most,false⟩ := by
  obtain ⟨hd4,hm4,hge,hLX,hWL,hS4⟩ := HW4.out
  obtain ⟨hbS,hb3,hM1,hMge⟩ := HS3.out
  have hg := grown_set w4 (M + 1) 1 (.pointer (some ⟨Lg,0,none⟩))
  have hSl := hbS.lt
  have hXn : ∀ x ∈ X,x < w.heap.size := HLT.out
  have hSX : M + 1 ∉ X := fun hx => by have := hXn _ hx;omega
  have hMX : M ∉ X := fun hx => by have := hXn _ hx;omega
  have hSX' := hm4.apart hSX hSl
  have hMX' := hm4.apart hMX hM1.lt
  have h0X' := hm4.apart HT.out.2.2 (Nat.lt_of_lt_of_le HT.out.2.1 hb3.size)
  have hfr : Frm [M + 1] w4 (w4.setCell ⟨M + 1,1,none⟩ (.pointer (some ⟨Lg,0,none⟩))) := ⟨hg.os,hg.tape,hg.output,hg.size,fun k hk hx => hg.block k hk (by simpa using hx)⟩
  have htb := ((HT.out.1.below HT.out.2.1 hb3).mv hm4 (Nat.lt_of_lt_of_le HT.out.2.1 hb3.size) HT.out.2.2)
  have htb5 := htb.1.mv (Mv.of_frm hfr) htb.2.1 (by simp)
  have hM4 : FM w4 M (fun _ => (none,0)) [] := hM1.block (hm4.frm.block M hM1.lt hMX)
  refine ⟨?_,hd4.frm hfr (fun x hx e => hSX' (by simp at e;rwa [← e])),hfr.blk hWL (by simp;omega),⟨fun _ => (none,0),hM4.block (hg.block M hM4.lt (by simp)),fun f hf => by cases hf⟩,⟨hSX',hLX,hMX',h0X'⟩,htb5.1,htb5.2.1⟩
  have := hS4.set 1 (.pointer (some ⟨Lg,0,none⟩))
  have e : mk (packB []) = (⟨#[]⟩ : ByteArray) := by rw [show packB [] = [] from rfl];rfl
  simpa [stoCells,e] using this
 have hmv5 : Mv X X' w (w4.setCell ⟨M + 1,1,none⟩ (.pointer (some ⟨Lg,0,none⟩))) :=
  ((Mv.of_below X HS3.out.2.1).trans HW4.out.2.1).hide (S := M + 1) (Mv.of_grown (grown_set w4 (M + 1) 1 _) (by simp)) (by have := HS3.out.2.2.2;omega)
 obtain ⟨W5,hW5⟩ : ∃ q,w4.setCell ⟨M + 1,1,none⟩ (.pointer (some ⟨Lg,0,none⟩)) = q := ⟨_,rfl⟩
 rw [hW5] at hst5 hmv5 ⊢
 have KL := HKL.out X' (M + 1) Lg M W5 hst5
 have HMV := Lib.hid hmv5
 have HMG := Lib.hid HS3.out.2.2.2
 clear hW5 hst5 hmv5 y1 f1 l4
 go_wp2_with (first
  | (go_at_call 59;refine KL.mono ?_;rintro e w6 ⟨rfl,hst6,hmv6⟩;have H6 := Lib.hid (And.intro hst6 hmv6);clear hst6 hmv6 KL))
 go_ret2
 have hge := HMG.out
 exact ⟨X',M + 1,Lg,M,rfl,H6.out.1,HMV.out.hide H6.out.2 (by omega),by omega,hge⟩
open Go.RowKit
theorem info9 : (Tryz.prog.info? 9).map (fun i => (i.zero,i.size,i.bytes)) = some (some (.string ⟨#[]⟩),1,16) := by kernel_rfl
theorem size42 (w : World) : (sizeOf (Tryz.prog.elem 42)).run Tryz.prog w = .ok 1 w := by
 obtain ⟨i0,hi,_,h1,_⟩ := info_parts info9
 rw [show Tryz.prog.elem 42 = 9 by kernel_rfl]
 simp [sizeOf,typeInfo,hi,h1]
theorem cut42 (A : Option Addr) (n cap lo : Nat) (w : World) (h : lo < n) (hc : n ≤ cap) : (Instr.slice 42 (.slice A n cap) (some (.int .i64 (lo : Int))) none none).run Tryz.prog w = .ok (.slice (A.map (·.add lo)) (n - lo) (cap - lo)) w := by
 rw [run_slice_l (P := Tryz.prog) w 42 A n cap (by kernel_rfl) .i64 lo (by omega) (by omega),size42]
 simp [Result.andThen,sliced]
 intro e;omega
theorem cut42h (A : Option Addr) (n cap hi : Nat) (w : World) (h0 : 0 < hi) (hc : hi ≤ cap) : (Instr.slice 42 (.slice A n cap) none (some (.int .i64 (hi : Int))) none).run Tryz.prog w = .ok (.slice A hi cap) w := by
 rw [run_slice_h (P := Tryz.prog) w 42 A n cap (by kernel_rfl) .i64 hi (by omega) (by omega),size42]
 cases A <;> simp [Result.andThen,sliced]
 all_goals (try (intro _;rfl))
theorem wp_copy_splice {P : Program} {o : Oper} {a : Act} {w : World} {K : Act → World → Prop} {Q : Exit → Act → World → Prop} (hgd : o.guard = none) (d s : Operand) (dT sT : TypeId)
  (ho : o.op = .call { callee := .builtin .copy,args := #[d,s],argTypes := #[dT,sT] }) (elem : TypeId) (hu : P.underlying dT = some (.slice elem)) (hsz : (P.info? elem).map (·.size) = some 1)
  (dp sp : Option Addr) (dLen dCap sLen sCap : Nat) (hd : a.eval d = .slice dp dLen dCap) (hs : a.eval s = .slice sp sLen sCap)
  (g off : Nat) (cur : List Value) (t : TypeId) (hg : w.heap[g]? = some (.cells cur.toArray t (0,0))) (cs : List Value) (hn : cs.length = Nat.min sLen dLen)
  (hpos : 0 < cs.length → dp = some ⟨g,off,none⟩ ∧ ∃ ad,sp = some ad ∧ ∀ j v,cs[j]? = some v → w.cell? (ad.add j) = some v)
  (hfit : off + cs.length ≤ cur.length) (h1 : ∀ v ∈ cs,v.oneCell' = true) (B : Nat) (w0 : World) (hb : RowKit.Below B w0 w) (hBg : B ≤ g)
  (h : ∀ w',RowKit.Hid (w'.heap[g]? = some (.cells (splice cur off cs).toArray t (0,0))) → RowKit.Below B w0 w' → K (a.put o.dst (goInt cs.length)) w') : Oper.wp P o a w K Q := by
 have h2 := step_copy_splice (P := P) (ops := #[]) (Q := Q) (E := True) hgd d s dT sT ho elem hu hsz dp sp dLen dCap sLen sCap hd hs g off cur t hg cs hn hpos hfit h1 B w0 hb hBg h
 rwa [if_pos (by simp [Region.wanted,hgd])] at h2
def repC (s : ByteArray) (k n : Nat) : List Value := List.replicate k (.string s) ++ List.replicate (n - k) (.string ⟨#[]⟩)
theorem repC_length (s : ByteArray) (k n : Nat) (h : k ≤ n) : (repC s k n).length = n := by unfold repC;simp;omega
theorem repC_splice (s : ByteArray) (k n m : Nat) (h : k + m ≤ n) : splice (repC s k n) k (List.replicate m (.string s)) = repC s (k + m) n := by
 unfold splice repC
 rw [List.take_append_of_le_length (by simp),List.take_of_length_le (by simp),List.drop_append]
 simp only [List.length_replicate,List.drop_replicate]
 rw [show k - (k + m) = 0 by omega,List.replicate_zero,List.nil_append, ← List.append_assoc,List.replicate_append_replicate]
 congr 2
 omega
set_option maxRecDepth 100000 in
set_option maxHeartbeats 2000000 in
theorem repeat_any (g0 n : Nat) (s : ByteArray) (w : World) (hc : w.cell? ⟨g0,0,none⟩ = some (.string s)) (h1 : 1 ≤ n) (hn : n ≤ 4096) :
  Calls Tryz.prog 61 #[.slice (some ⟨g0,0,none⟩) 1 1, .int .i64 n] w fun e w' => ∃ g,e = .returned (.slice (some ⟨g,0,none⟩) n n) ∧ w.heap.size ≤ g ∧ w'.ownsRow w.heap.size 9 1 (.slice (some ⟨g,0,none⟩) n n) n (List.replicate n (.string s)) ∧ Below w.heap.size w w' := by
 have KM := fun w => Tryz.bits_Mul 1 n (by omega) (by omega) w
 rw [show 1 * n / 18446744073709551616 = 0 by omega,show 1 * n % 18446744073709551616 = n by omega] at KM
 obtain ⟨i9,hi0,hi1,hi2,hi3⟩ := info_parts info9
 have hmk := fun (w : World) => run_make (P := Tryz.prog) w 42 9 i9 _ Tryz.underlying42 hi0 hi1 .i64 .i64 (n : Int) (n : Int) (by omega) (by omega) (by rw [hi3];omega) (by omega)
 have hmc : madeCells (Value.cells (.string ⟨#[]⟩)) ((n : Int).toNat * i9.size) = (repC s 0 n).toArray := by
  rw [hi2,Nat.mul_one,Int.toNat_natCast]
  apply Array.toList_inj.1
  rw [show Value.cells (.string ⟨#[]⟩) = #[.string ⟨#[]⟩] from rfl,toList_madeCells_one]
  simp [repC]
 rw [hmc,Int.toNat_natCast] at hmk
 have n0 : (0 : Int) ≤ (n : Int) := by omega
 have n1 : ¬ ((9223372036854775807 : Int) < (n : Int)) := by omega
 have n2 : ¬ ((n : Int) < 0) := by omega
 have hg0 : g0 < w.heap.size := cell_lt hc
 go_enter Tryz.func61,Tryz.ntmps61
 have mixed := mixedT
 go_upto_region 7 with (go_at_call 102;refine (KM _).mono ?_;rintro e w1 ⟨rfl,hw⟩;obtain rfl := hw.symm)
 have hb1 := below_alloc w (.cells (repC s 0 n).toArray 9)
 have hg1 : (w.alloc (.cells (repC s 0 n).toArray 9)).heap[w.heap.size]? = some (.cells (repC s 0 n).toArray 9 (0,0)) := heap_alloc_new _ _
 have hc1 : (w.alloc (.cells (repC s 0 n).toArray 9)).cell? ⟨g0,0,none⟩ = some (.string s) := (cell_old w _ ⟨g0,0,none⟩ hg0).trans hc
 obtain ⟨W,hW⟩ : ∃ u,w.alloc (.cells (repC s 0 n).toArray 9) = u := ⟨_,rfl⟩
 obtain ⟨G,hG⟩ : ∃ G,w.heap.size = G := ⟨_,rfl⟩
 rw [hG] at hg1
 rw [hW] at hb1 hg1 hc1 ⊢
 simp only [hG]
 have HG := Lib.hid hG
 clear hW hG hmk hmc
 have hsz9 : (Tryz.prog.info? 9).map (·.size) = some 1 := by rw [hi0];simp [hi2]
 have m1 : ([Value.string s] : List Value).length = Nat.min 1 n := by show 1 = min 1 n;omega
 have m2 : 0 + ([Value.string s] : List Value).length ≤ (repC s 0 n).length := by rw [repC_length _ _ _ (by omega)];exact h1
 have m3 : ∀ v ∈ ([Value.string s] : List Value),v.oneCell' = true := by simp [Value.oneCell']
 have m4 : ∀ j v,([Value.string s] : List Value)[j]? = some v → W.cell? ((⟨g0,0,none⟩ : Addr).add j) = some v := fun j v hj => by
  cases j with
  | zero => simp at hj;subst hj;exact hc1
  | succ j => simp at hj
 have m5 : w.heap.size ≤ G := by rw [HG.out];exact Nat.le_refl _
 go_wp2_with (refine wpList_copy_splice rfl (.tmp 31) (.tmp 32) 42 42 rfl 9 Tryz.underlying42 hsz9 (some ⟨G,0,none⟩) (some ⟨g0,0,none⟩) n n 1 1 (by rfl) (by rfl) G 0 (repC s 0 n) 9 hg1 [.string s] m1 (fun _ => ⟨rfl,_,rfl,m4⟩) m2 m3 w.heap.size w hb1 m5 ?_;intro w2 hg2 hb2)
 clear m1 m2 m3 m4
 have HG2 : Hid (w2.heap[G]? = some (.cells (repC s 1 n).toArray 9 (0,0))) := by
  have := hg2.out
  rw [show ([Value.string s] : List Value) = List.replicate 1 (.string s) from rfl,repC_splice s 0 n 1 (by omega)] at this
  exact Lib.hid this
 have HB2 := Lib.hid hb2
 clear hg2 hb2 hb1 hg1 hc1
 go_loopw [8] (fun kv wr => ∃ k : Nat,1 ≤ k ∧ k ≤ n ∧ kv = .int .i64 k ∧ wr.heap[G]? = some (.cells (repC s k n).toArray 9 (0,0)) ∧ Below w.heap.size w wr) (fun kv _ => n - (intOf kv).toNat)
 case atStart => exact ⟨1,by omega,h1,rfl,HG2.out,HB2.out⟩
 case round =>
  clear HG2 HB2
  obtain ⟨k,hk1,hk,rfl,hgr,hb⟩ := hrel
  have k0 : (0 : Int) ≤ (k : Int) := by omega
  by_cases hkn : k < n
  ·have k1 : (k : Int) < (n : Int) := by omega
   have HGR := Lib.hid hgr
   have HB := Lib.hid hb
   clear hgr hb
   go_wp2
   have hct := fun w => cut42 (some ⟨G,0,none⟩) n n k w hkn (Nat.le_refl n)
   have hch := fun w => cut42h (some ⟨G,0,none⟩) n n k w (by omega) hk
   simp only [Option.map_some,add_lit',Nat.zero_add] at hct
   obtain ⟨mm,hmm⟩ : ∃ q,Nat.min k (n - k) = q := ⟨_,rfl⟩
   have q1 : mm ≤ k := by rw [← hmm];exact Nat.min_le_left _ _
   have q2 : mm ≤ n - k := by rw [← hmm];exact Nat.min_le_right _ _
   have q3 : 1 ≤ mm := by rw [← hmm];exact Nat.le_min.2 ⟨hk1,by omega⟩
   have HMN := Lib.hid hmm
   clear hmm
   refine wp_region_held (S := fun w' => True) mixed ?_
   change wpAnyH _ _ _ _ _ _ _ _ wr.drew
   have hgW : wr.drew.heap[G]? = some (.cells (repC s k n).toArray 9 (0,0)) := HGR.out
   have hbW : Below w.heap.size w wr.drew := HB.out.drew
   obtain ⟨W3,hW3⟩ : ∃ u,wr.drew = u := ⟨_,rfl⟩
   rw [hW3] at hgW hbW ⊢
   clear hW3
   refine tkQ 0 (.int .i64 k) rfl trivial ?_
   try go_simp
   refine tkQ 1 (.slice (some ⟨G,0,none⟩) n n) rfl trivial ?_
   try go_simp
   refine tkQ 2 (.int .i64 k) rfl trivial ?_
   try go_simp
   refine tkQ 3 (.slice (some ⟨G,k,none⟩) (n - k) (n - k)) rfl trivial ?_
   try go_simp
   refine tkQ 4 (.slice (some ⟨G,0,none⟩) n n) rfl trivial ?_
   try go_simp
   refine tkQ 5 (.int .i64 k) rfl trivial ?_
   try go_simp
   refine tkQ 6 (.slice (some ⟨G,0,none⟩) k n) rfl trivial ?_
   try go_simp
   refine alH 7 ?_
   unfold wpOp
   simp only []
   have m3 : ∀ v ∈ (List.replicate mm (Value.string s)),v.oneCell' = true := fun v hv => by rw [List.eq_of_mem_replicate hv];rfl
   have m4 : ∀ j v,(List.replicate mm (Value.string s))[j]? = some v → W3.cell? ((⟨G,0,none⟩ : Addr).add j) = some v := fun j v hj => by
    have hjm : j < mm := by have := (List.getElem?_eq_some_iff.1 hj).1;simpa using this
    have hv : v = .string s := by simpa [hjm] using hj.symm
    rw [add_lit',Nat.zero_add,hv]
    unfold World.cell?
    rw [hgW]
    simp only [List.getElem?_toArray]
    unfold repC
    rw [List.getElem?_append_left (by rw [List.length_replicate];omega),List.getElem?_replicate,if_neg (by simp),if_pos (by omega)]
   refine .inl (wp_copy_splice rfl (.tmp 41) (.tmp 44) 42 42 rfl 9 Tryz.underlying42 hsz9 (some ⟨G,k,none⟩) (some ⟨G,0,none⟩) (n - k) (n - k) k n (by rfl) (by rfl) G k (repC s k n) 9 hgW (List.replicate mm (.string s)) (by rw [List.length_replicate];exact HMN.out.symm) (fun _ => ⟨rfl,_,rfl,m4⟩) (by rw [repC_length _ _ _ hk,List.length_replicate];omega) m3 w.heap.size w hbW m5 ?_)
   intro W4 hg4 hb4
   refine ⟨trivial, ?_⟩
   have HG4 : Hid (W4.heap[G]? = some (.cells (repC s (k + mm) n).toArray 9 (0,0))) := by
    have := hg4.out
    rw [repC_splice s k n mm (by omega)] at this
    exact Lib.hid this
   have HB4 := Lib.hid hb4
   have hwr : IntKind.i64.wrap ((k : Int) + (mm : Int)) = (k : Int) + (mm : Int) := by rw [Go.IntWalk.i64_left,Go.IntWalk.wrap64_in _ (by omega)]
   have HMM := Lib.hid (show 1 ≤ mm ∧ k + mm ≤ n from by omega)
   rw [List.length_replicate]
   clear hg4 hb4 m3 m4 hgW hbW hct hch q1 q2 q3
   try go_simp
   refine tkQ 8 (.int .i64 ((k : Int) + (mm : Int))) rfl trivial ?_
   try go_simp
   refine tkQ 9 (.int .i64 ((k : Int) + (mm : Int))) rfl trivial ?_
   try go_simp
   refine wpAnyH_done (by kernel_rfl) ?_ _
   go_wp2
   go_roundw
   case rel => exact ⟨k + mm,by omega,HMM.out.2,by go_num,HG4.out,HB4.out⟩
   case measure => have := HMM.out;simp [intOf];omega
  ·obtain rfl : k = n := by omega
   have HFN := Lib.hid (show wr.ownsRow w.heap.size 9 1 (.slice (some ⟨G,0,none⟩) k k) k (List.replicate k (.string s)) from
    ⟨by simp, .inr ⟨G,k,(repC s k k).toArray,rfl,by rw [HG.out];exact Nat.le_refl _,hgr,Nat.le_refl _,by unfold maxLen;omega,by simp [repC],by simp [repC]⟩⟩)
   have HB := Lib.hid hb
   clear hgr hb
   go_wp2
   go_ret
   exact ⟨G,rfl,by rw [HG.out];exact Nat.le_refl _,HFN.out,HB.out⟩
set_option maxRecDepth 100000 in
theorem new_any (n : Nat) (w : World) (h1 : 1 ≤ n) (hn : n ≤ 4096) : Calls Tryz.prog 26 #[.int .i64 n] w fun e w' => ∃ X D,e = .returned (.tuple #[.pointer (some ⟨D,0,none⟩), .int .i64 0]) ∧ Dsk w' X D ⟨List.replicate n zeroS,[],none,false⟩ ∧ Mv [] X w w' := by
 have KB := blank_any w
 obtain ⟨Z,hZ⟩ : ∃ Z,mk zeroS = Z := ⟨_,rfl⟩
 rw [hZ] at KB
 have HZ := Lib.hid hZ
 have KR := fun g0 (w : World) hc => repeat_any g0 n Z w hc h1 hn
 have n0 : (0 : Int) ≤ (n : Int) := by omega
 have n1 : ¬ ((4096 : Int) < (n : Int)) := by omega
 have n2 : ¬ ((n : Int) < 1) := by omega
 clear hZ
 go_enter Tryz.func26,Tryz.ntmps26
 go_wp2_with (first
  | (go_at_call 62;refine KB.mono ?_;rintro e w1 ⟨rfl,hb1⟩)
  | (go_at_call 61;refine (KR w1.heap.size _ (by rw [(Blk.new w1 #[.string Z] 9).cell];rfl)).mono ?_;rintro e w2 ⟨gL,rfl,hg2,ho2,hb2⟩))
 go_wp2
 go_ret2
 have hb12 : Below w.heap.size w w2 := (hb1.alloc hb1.size _).trans (hb2.mono (by have := hb1.size;simp;omega))
 have hz : w.heap.size ≤ w2.heap.size := hb12.size
 have hgl := (ho2.lt gL rfl).2
 have hg0 : w.heap.size ≤ gL := by have := hb1.size;simp at hg2;omega
 refine ⟨[w2.heap.size,gL],w2.heap.size,rfl,⟨⟨gL,n, .slice none 0 0, .pointer none,0,by simpa using Blk.new w2 _ 123, ?_,World.ownsRow_nil _ _ _ _,rfl,by simp,fun g e => (by cases e)⟩,⟨fun x hx => ?_,fun x hx => (by cases hx),by simpa using hn⟩,by simp,fun x hx => ?_⟩,Frm.of_below [] (hb12.alloc hz _),fun x hx => ?_⟩
 ·have := own_weaken (World.ownsRow.alloc ho2 (.cells #[.slice (some ⟨gL,0,none⟩) n n, .slice none 0 0, .pointer none, .bool false, .int .i64 0] 123)) (Nat.zero_le _)
  rw [show txc (List.replicate n zeroS) = List.replicate n (.string Z) by simp [txc,HZ.out]]
  simpa using this
 ·rw [List.eq_of_mem_replicate hx];unfold zeroS;rw [List.length_replicate]
 ·simp at hx ⊢
  rcases hx with rfl | rfl <;> omega
 ·simp at hx
  rcases hx with rfl | rfl <;> omega
open Go.RowKit
theorem ret_bool {a b : Bool} (h : a = b) : Ending.returned (.bool a) = .returned (.bool b) := by rw [h]
set_option maxHeartbeats 800000 in
theorem rgood_any (s : ByteArray) (w : World) (hs : s.size ≤ maxLen) :
  Calls Tryz.prog 12 #[.string s] w fun e w' => e = .returned (.bool (goodF s.data.toList)) ∧ w = w' := by
 unfold maxLen at hs
 have hsl : s.data.toList.length = s.size := by simp
 by_cases h0 : s.size < 1 ∨ 80 < s.size
 ·have HG := Lib.hid (show goodF s.data.toList = false by
   unfold goodF;rw [hsl]
   rcases h0 with h | h
   ·rw [decide_eq_false (show ¬ 1 ≤ s.size by omega)];simp
   ·rw [decide_eq_false (show ¬ s.size ≤ 80 by omega)];simp)
  clear hsl
  rcases h0 with h | h
  all_goals
   go_enter Tryz.func12,Tryz.ntmps12
   go_wp2
   go_ret
   exact ⟨ret_bool HG.out.symm,rfl⟩
 ·have h1 : 1 ≤ s.size ∧ s.size ≤ 80 := by omega
  obtain ⟨h1,h2⟩ := h1
  have HT := Lib.hid (show goodF s.data.toList = s.data.toList.all signC by
   unfold goodF;rw [hsl,decide_eq_true h1,decide_eq_true h2];simp)
  clear h0
  go_enter Tryz.func12,Tryz.ntmps12
  go_wp2
  go_loop [3] (fun i => ∃ k : Nat,k ≤ s.size ∧ i = .int .i64 k ∧ (s.data.toList.take k).all signC = true) (fun i => s.size - (intOf i).toNat)
  case atStart => exact ⟨0,Nat.zero_le _,rfl,rfl⟩
  case round =>
   obtain ⟨k,hk,rfl,hall⟩ := hrel
   by_cases hlt : k < s.size
   ·have hlt' : k < s.data.toList.length := by omega
    have H1 := Lib.hid (all_take_succ signC s.data.toList k hlt' hall)
    have H2 := Lib.hid (all_false signC s.data.toList k hlt')
    have h3 := signC_nat s[k]
    clear hall
    by_cases hc : signC s[k] = true
    ·obtain ⟨h,h'⟩ := h3.1 hc
     have hi : 33 ≤ (s[k].toNat : Int) := by omega
     have hi' : (s[k].toNat : Int) ≤ 126 := by omega
     have HC := Lib.hid hc
     clear hc h3 h h'
     go_wp2
     go_round
     case rel => exact ⟨k + 1,by omega,by go_num,H1.out.trans HC.out⟩
     case measure => simp [intOf];omega
    ·have hn : ¬ (33 ≤ s[k].toNat ∧ s[k].toNat ≤ 126) := fun h => hc (h3.2 h)
     have HB := Lib.hid (H2.out (Bool.eq_false_iff.2 hc))
     have hr : ((s[k].toNat : Int) < 33) ∨ (127 ≤ (s[k].toNat : Int)) := by omega
     clear hc h3 hn
     rcases hr with h | h
     all_goals
      go_wp2
      go_ret
      exact ⟨ret_bool (HT.out.trans HB.out).symm,rfl⟩
   ·obtain rfl : k = s.size := by omega
    have e : s.data.toList.take s.size = s.data.toList := List.take_of_length_le (by omega)
    rw [e] at hall
    have HA := Lib.hid hall
    clear hall e
    go_wp2
    go_ret
    exact ⟨ret_bool (HT.out.trans HA.out).symm,rfl⟩
def wrOf : List Cmd → List (Nat × Bs)
 | [] => []
 | .wr i b :: l => (i,b) :: wrOf l
 | .sy :: l => wrOf l
theorem wrOf_append (a b : List Cmd) : wrOf (a ++ b) = wrOf a ++ wrOf b := by
 induction a with
 | nil => rfl
 | cons c a ih => cases c <;> simp [wrOf,ih]
theorem wrOf_wrs (x : List (Nat × Bs)) : wrOf (wrs x) = x := by
 induction x with
 | nil => rfl
 | cons c x ih => show (c.1,c.2) :: wrOf (wrs x) = _;rw [ih]
theorem overlay_cons (L : List Bs) (c : Nat × Bs) (S : List (Nat × Bs)) : overlay L (c :: S) = overlay (L.set c.1 c.2) S := rfl
theorem run_on : ∀ (l : List Cmd) (d : DS),d.cut = none → d.off = false → (DS.run l d).1 = 0 ∧ (DS.run l d).2.cut = none ∧ (DS.run l d).2.off = false ∧ (DS.run l d).2.vis = overlay d.vis (fulls (wrOf l)) := by
 intro l
 induction l with
 | nil => intro d h1 h2;exact ⟨rfl,h1,h2,rfl⟩
 | cons c l ih =>
  intro d h1 h2
  obtain ⟨L,S,cut,off⟩ := d
  dsimp only at h1 h2
  subst h1 h2
  cases c with
  | wr i b =>
   rw [DS.run,show DS.cmd ⟨L,S,none,false⟩ (.wr i b) = (0,⟨L,S ++ [(i,fullB b)],none,false⟩) from rfl,if_pos rfl]
   obtain ⟨a1,a2,a3,a4⟩ := ih ⟨L,S ++ [(i,fullB b)],none,false⟩ rfl rfl
   refine ⟨a1,a2,a3,a4.trans ?_⟩
   show overlay (overlay L (S ++ [(i,fullB b)])) _ = _
   rw [overlay_snoc];rfl
  | sy =>
   rw [DS.run,show DS.cmd ⟨L,S,none,false⟩ .sy = (0,⟨overlay L S,[],none,false⟩) from rfl,if_pos rfl]
   exact ih ⟨overlay L S,[],none,false⟩ rfl rfl
theorem run_sy (l : List Cmd) (d : DS) (h1 : d.cut = none) (h2 : d.off = false) : (DS.run (l ++ [.sy]) d).2.S = [] := by
 obtain ⟨a1,a2,a3,_⟩ := run_on l d h1 h2
 rw [run_append,if_pos a1]
 obtain ⟨⟨L,S,cut,off⟩,hd⟩ : ∃ q,(DS.run l d).2 = q := ⟨_,rfl⟩
 rw [hd] at a2 a3 ⊢
 dsimp only at a2 a3
 subst a2 a3
 rfl
theorem secAt_ne (W : List (Nat × Bs)) : ∀ (v : List Bs) (j : Nat),j ∉ W.map (·.1) → secAt (overlay v (fulls W)) j = secAt v j := by
 induction W with
 | nil => intro v j _;rfl
 | cons c W ih =>
  intro v j h
  rw [List.map_cons,List.mem_cons,not_or] at h
  show secAt (overlay (v.set c.1 (fullB c.2)) (fulls W)) j = _
  rw [ih _ j h.2]
  unfold secAt
  rw [List.getElem?_set,if_neg (fun e => h.1 e.symm)]
theorem secAt_set (v : List Bs) (i : Nat) (b : Bs) (h : i < v.length) : secAt (v.set i b) i = b := by
 unfold secAt;simp [h]
theorem secAt_set_ne (v : List Bs) (i j : Nat) (b : Bs) (h : i ≠ j) : secAt (v.set i b) j = secAt v j := by
 unfold secAt;rw [List.getElem?_set,if_neg h]
def freshL (n f : Nat) : List Bs := (List.replicate n zeroS).set 0 (headB n f)
theorem fmt_fresh (n f : Nat) : overlay (List.replicate n zeroS) (fulls (fmtX n f)) = freshL n f := by
 have key : ∀ k,k ≤ f + 2 → overlay (List.replicate n zeroS) (fulls ((fmtX n f).take (k + 1))) = freshL n f := by
  intro k
  induction k with
  | zero =>
   intro _
   have : (fmtX n f).take (0 + 1) = [(0,headB n f)] := by
    unfold fmtX
    rw [← List.map_take,List.take_range,show min (0 + 1) (f + 3) = 1 by omega];rfl
   rw [this]
   show (List.replicate n zeroS).set 0 (fullB (headB n f)) = _
   rw [show fullB (headB n f) = headB n f by unfold fullB;rw [headB_len];simp]
   rfl
  | succ k ih =>
   intro hk
   have hk2 : k + 1 < (fmtX n f).length := by simp [fmtX];omega
   have e : fulls ((fmtX n f).take (k + 1 + 1)) = fulls ((fmtX n f).take (k + 1)) ++ [(k + 1,zeroS)] := by
    rw [List.take_succ_eq_append_getElem hk2]
    simp [fulls,fmtX,fullB_nil]
   rw [e,overlay_snoc,ih (by omega)]
   unfold freshL
   refine List.ext_getElem (by simp) fun j h1 h2 => ?_
   rw [List.getElem_set]
   split
   ·rename_i hj
    subst hj
    rw [List.getElem_set,if_neg (by omega),List.getElem_replicate]
   ·rfl
 have := key (f + 2) (Nat.le_refl _)
 rwa [List.take_of_length_le (by simp [fmtX])] at this
theorem fresh_len (n f : Nat) : (freshL n f).length = n := by simp [freshL]
theorem fresh_head (n f : Nat) (h : 0 < n) : secAt (freshL n f) 0 = headB n f := secAt_set _ _ _ (by simpa using h)
theorem fresh_zero (n f j : Nat) (h0 : j ≠ 0) (h : j < n) : secAt (freshL n f) j = zeroS := by
 unfold freshL
 rw [secAt_set_ne _ _ _ _ (Ne.symm h0)]
 unfold secAt;simp [h]
theorem pack_zero (u : Nat) (h : u ≤ 4096) : fullB (packB (List.replicate u false)) = zeroS := by
 rw [packB_zero]
 unfold fullB zeroS
 rw [List.length_replicate,List.replicate_append_replicate]
 congr 1;omega
theorem fresh_log (n f : Nat) (h : f + 8 ≤ n) : saidB (freshL n f) (2 + f) 5 = [] := by
 unfold saidB saidOk
 rw [fresh_zero n f (2 + f) (by omega) (by omega)]
 rw [show (zeroS.take 2 == [87,76]) = false from by decide]
 rfl
end Go.Proofs.YtcmcdddnckcpcaaGreatDoor
/- stemmalaw07.made,walked. -/
namespace Go.Proofs.YtcmcdddnckcpcaaGreatDoor
open Go.RowKit Go.Maps
structure Nw (w : World) (Y : List Nat) (w' : World) : Prop where
 below : Below w.heap.size w w'
 new : ∀ y ∈ Y,w.heap.size ≤ y
theorem Nw.mv {w w1 w2 : World} {Y Z : List Nat} (h : Nw w Y w1) (m : Mv Y Z w1 w2) : Nw w Z w2 :=
 ⟨h.below.trans (m.frm.below h.new h.below.size),fun z hz => (m.sub z hz).elim (h.new z) (fun hh => Nat.le_trans h.below.size hh)⟩
theorem Nw.step {w w1 w2 : World} {Y : List Nat} (h : Nw w Y w1) (k : Below w1.heap.size w1 w2) : Nw w Y w2 := h.mv (.of_below _ k)
theorem Nw.start (w : World) : Nw w [] w := ⟨Below.refl _ _,fun y hy => by cases hy⟩
def freshM (n f : Nat) : StoM := ⟨⟨freshL n f,[],none,false⟩,[],List.replicate (n - f - 7) false,f,false⟩
set_option maxRecDepth 100000 in
set_option maxHeartbeats 4000000 in
theorem made_any (n f : Nat) (w : World) (h1 : 1 ≤ f) (h2 : f ≤ 256) (h3 : f + 8 ≤ n) (h4 : n ≤ 4000) (hT : TB w) (hw : 0 < w.heap.size) :
  Calls Tryz.prog 13 #[.int .i64 n, .int .i64 f] w fun e w' => ∃ X D S Lg M,e = .returned (.tuple #[.pointer (some ⟨D,0,none⟩), .pointer (some ⟨S,0,none⟩), .bool true]) ∧ Sto w' X S D Lg M (freshM n f) ∧ Nw w (S :: M :: X) w' := by
 have KN := new_any n w (by omega) (by omega)
 have KF := fun (X : List Nat) (D : Nat) (w1 : World) (hd : Dsk w1 X D ⟨List.replicate n zeroS,[],none,false⟩) => format_ok X D (List.replicate n zeroS) f w1 hd h1 h2 (by rw [List.length_replicate];exact h3)
 simp only [List.length_replicate,fmt_fresh] at KF
 have KM := fun (X : List Nat) (D : Nat) (w1 : World) (hd : Dsk w1 X D ⟨freshL n f,[],none,false⟩) (hT1 : TB w1) (hw1 : 0 < w1.heap.size) (hX : 0 ∉ X) =>
  mount0_any X D ⟨freshL n f,[],none,false⟩ f (n - f - 7) w1 hd rfl ⟨h1,h2⟩ (by rw [fresh_len];omega) (by omega) (by omega) (by rw [fresh_len];exact fresh_head n f (by omega)) (by rw [pack_zero _ (by omega)];exact fresh_zero n f 1 (by omega) (by omega)) (fun i hi => fresh_zero n f (2 + i) (by omega) (by omega)) (fresh_log n f h3) (by simp) hT1 hw1 hX
 have HKF := Lib.hid KF
 have HKM := Lib.hid KM
 have HT := Lib.hid (And.intro hT hw)
 have HM0 := Lib.hid (show freshM n f = ⟨⟨freshL n f,[],none,false⟩,[],List.replicate (n - f - 7) false,f,false⟩ from rfl)
 obtain ⟨FM0,hFM0⟩ : ∃ q,freshM n f = q := ⟨_,rfl⟩
 rw [hFM0] at HM0 ⊢
 clear KF KM h1 h2 h3 h4 hT hw hFM0
 go_enter Tryz.func13,Tryz.ntmps13
 go_wp2_with (first
  | (go_at_call 26;refine KN.mono ?_;rintro e w1 ⟨X1,D,rfl,hd1,hm1⟩;have KF1 := HKF.out X1 D w1 hd1;have HM1 := Lib.hid hm1;clear hd1 hm1 KN)
  | (go_at_call 23;refine KF1.mono ?_;rintro e w2 ⟨rfl,X2,hd2,hm2⟩;have hm12 := HM1.out.trans hm2;have ht2 := HT.out.1.mv hm12 HT.out.2 (by simp);have KM2 := HKM.out X2 D w2 hd2 ht2.1 ht2.2.1 ht2.2.2;have HM2 := Lib.hid hm12;clear hd2 hm2 hm12 ht2 KF1)
  | (go_at_call 24;refine KM2.mono ?_;rintro e w3 ⟨X3,S,Lg,M,rfl,hst,hm3,hS,hM⟩;have H3 := Lib.hid (And.intro hst (And.intro hm3 (And.intro hS hM)));clear hst hm3 hS hM KM2))
 refine bodyPost_ret (v := .tuple #[.pointer (some ⟨D,0,none⟩), .pointer (some ⟨S,0,none⟩), .bool true]) ?_ rfl ?_
 ·simp [results,Tryz.f13,go_sem]
 ·refine ⟨X3,D,S,Lg,M,rfl,by rw [HM0.out];exact H3.out.1, ?_⟩
  have hn := ((Nw.start w).mv HM2.out).mv H3.out.2.1
  have hz := HM2.out.size
  exact ⟨hn.below,fun y hy => by
   rcases List.mem_cons.1 hy with rfl | hy
   ·exact Nat.le_trans hz H3.out.2.2.1
   ·rcases List.mem_cons.1 hy with rfl | hy
    ·exact Nat.le_trans hz H3.out.2.2.2
    ·exact hn.new y hy⟩
end Go.Proofs.YtcmcdddnckcpcaaGreatDoor
/- stemmalaw07.speaks,walked: true. -/
namespace Go.Proofs.YtcmcdddnckcpcaaGreatDoor
open Go.RowKit Go.Maps
theorem freshB (n f : Nat) (h1 : 1 ≤ f) (h2 : f ≤ 256) (h3 : f + 8 ≤ n) (h4 : n ≤ 4000) : StoB (freshM n f) where
 ent := fun g hg => by cases hg
 nam := fun g hg => by cases hg
 siz := fun g hg => by cases hg
 exl := fun g hg => by cases hg
 exb := fun g hg => by cases hg
 len := by simp [freshM]
 mo := ⟨h1,h2⟩
 tl := by simp [freshM];omega
 ll := by simp [freshM,fresh_len];omega
 sl := by simp [freshM]
def spkF : FileM := ⟨[97],0,3,[(0,1)]⟩
def spkT : List Bool := true :: List.replicate 8 false
theorem spk_pre : preW (freshM 20 4) [97] [120,121,122] = (0,some (spkT,spkF)) := by kernel_rfl
def spkC : List Cmd := putC 4 spkT (secL (4 + 7) [(0,1)]) [120,121,122] spkF
def spkM (d : DS) : StoM := ⟨d,putF [] spkF,spkT,4,false⟩
theorem spk_run : (DS.run spkC (freshM 20 4).ds).1 = 0 ∧ (DS.run spkC (freshM 20 4).ds).2.off = false ∧ StoB (spkM (DS.run spkC (freshM 20 4).ds).2) ∧ readW (spkM (DS.run spkC (freshM 20 4).ds).2) [97] = [120,121,122] := by
 obtain ⟨a1,a2,a3,a4⟩ := run_on spkC (freshM 20 4).ds rfl rfl
 obtain ⟨b1,b2⟩ := run_len spkC (freshM 20 4).ds
 have hF : ∀ f ∈ putF [] spkF,f = spkF := fun f hf => by
  rcases putF_mem hf with h | ⟨h,_⟩
  ·exact h
  ·cases h
 have b3 : spkC.length ≤ 100 := by decide
 obtain ⟨d,hd⟩ : ∃ q,(DS.run spkC (freshM 20 4).ds).2 = q := ⟨_,rfl⟩
 rw [hd] at a2 a3 a4 b1 b2
 rw [hd]
 refine ⟨a1,a3, ?_, ?_⟩
 ·exact { ent := fun f hf => by rw [hF f hf]; exact (by decide : 0 < 4)
          nam := fun f hf => by rw [hF f hf]; decide
          siz := fun f hf => by rw [hF f hf]; decide
          exl := fun f hf => by rw [hF f hf]; decide
          exb := fun f hf => by rw [hF f hf]; intro x hx; have : x = (0, 1) := by simpa [spkF] using hx
                                subst this; exact (by decide : 0 + 1 ≤ spkT.length)
          len := (by decide : (putF [] spkF).length ≤ 1000)
          mo := (by decide : 1 ≤ 4 ∧ 4 ≤ 256)
          tl := (by decide : spkT.length ≤ 4096)
          ll := by show spkT.length + 4 + 7 = d.L.length; rw [b1]; simp [freshM, fresh_len, spkT]
          sl := by
            have : (freshM 20 4).ds.S.length = 0 := rfl
            show d.S.length ≤ _; omega }
 ·have h11 : secAt d.vis 11 = fullB [120,121,122] := by
   rw [a4]
   have e : wrOf spkC = (11,[120,121,122]) :: (wrOf spkC).tail := by rfl
   have e2 : (wrOf spkC).tail.map (·.1) = [7,8,6,1,2,6] := by rfl
   rw [e]
   show secAt (overlay ((freshM 20 4).ds.vis.set 11 (fullB [120,121,122])) (fulls (wrOf spkC).tail)) 11 = _
   rw [secAt_ne _ _ _ (by rw [e2];decide)]
   exact secAt_set _ _ _ (by show 11 < (freshL 20 4).length;rw [fresh_len];decide)
  show (secsB d.vis [11]).take 3 = _
  unfold secsB
  rw [List.flatMap_cons,h11]
  rfl
set_option maxRecDepth 100000 in
set_option maxHeartbeats 4000000 in
theorem speaks_any (w : World) (hT : TB w) (hw : 0 < w.heap.size) : Calls Tryz.prog 10 #[] w fun e w' => e = .returned (.bool true) ∧ Below w.heap.size w w' := by
 have KM := made_any 20 4 w (by decide) (by decide) (by decide) (by decide) hT hw
 have KW := fun (X : List Nat) (S D Lg M : Nat) (w1 : World) (hs : Sto w1 X S D Lg M (freshM 20 4)) => fwrite_any X S D Lg M (freshM 20 4) [97] [120,121,122] w1 hs (freshB 20 4 (by decide) (by decide) (by decide) (by decide)) rfl rfl (by decide)
 rw [spk_pre] at KW
 obtain ⟨hr1,hr2,hr3,hr4⟩ := spk_run
 have HP := Lib.hid (fun (X : List Nat) (S D Lg M : Nat) (w1 : World) (e : Ending) (w2 : World) (h : WriteP X S D Lg M (freshM 20 4) (0,some (spkT,spkF)) [120,121,122] w1 e w2) => (show e = .returned (.int .i64 0) ∧ ∃ X',Mv (S :: M :: X) (S :: M :: X') w1 w2 ∧ Sto w2 X' S D Lg M (spkM (DS.run spkC (freshM 20 4).ds).2) from by
  obtain ⟨h1,X',h2,h3,_⟩ := h.2 spkT spkF rfl
  have hr : (DS.run (putC (freshM 20 4).most spkT (secL ((freshM 20 4).most + 7) spkF.ext) [120,121,122] spkF) (freshM 20 4).ds).1 = 0 := hr1
  refine ⟨?_,X',h2,h3 hr⟩
  rw [h1,hr];rfl))
 have KR := fun (X : List Nat) (S D Lg M : Nat) (w1 : World) (hs : Sto w1 X S D Lg M (spkM (DS.run spkC (freshM 20 4).ds).2)) => fread_any X S D Lg M _ [97] w1 hs hr3 rfl hr2 (by decide) (fun f hf => by
  rcases putF_mem (show f ∈ putF [] spkF from hf) with rfl | ⟨h,_⟩
  ·decide
  ·cases h) (fun f hf => by
  rcases putF_mem (show f ∈ putF [] spkF from hf) with rfl | ⟨h,_⟩
  ·decide
  ·cases h)
 rw [hr4,show findE (spkM (DS.run spkC (freshM 20 4).ds).2).F [97] = 0 from by rfl] at KR
 have KF := fun (X : List Nat) (S D Lg M : Nat) (w1 : World) (hs : Sto w1 X S D Lg M (spkM (DS.run spkC (freshM 20 4).ds).2)) => ffree_any X S D Lg M _ w1 hs (by show spkT.length ≤ _;decide) (by show 4 ≤ 1000;decide) (by show (putF [] spkF).length ≤ _;decide)
 rw [show (spkM (DS.run spkC (freshM 20 4).ds).2).T.count false = 8 from by rfl,show ((spkM (DS.run spkC (freshM 20 4).ds).2).most : Int) - ((spkM (DS.run spkC (freshM 20 4).ds).2).F.length : Int) = 3 from by rfl] at KF
 obtain ⟨m1,hm1⟩ : ∃ q,spkM (DS.run spkC (freshM 20 4).ds).2 = q := ⟨_,rfl⟩
 simp only [hm1] at HP KR KF
 obtain ⟨m0,hm0⟩ : ∃ q,freshM 20 4 = q := ⟨_,rfl⟩
 simp only [hm0] at KM KW HP
 have KW2 := fun (X : List Nat) (S D Lg M : Nat) (w1 : World) (hs : Sto w1 X S D Lg M m0) => (KW X S D Lg M w1 hs).mono (fun e w2 h => HP.out X S D Lg M w1 e w2 h)
 have HKW := Lib.hid KW2
 have HKR := Lib.hid KR
 have HKF := Lib.hid KF
 clear hT hw KW KW2 HP KR KF hr1 hr2 hr3 hr4 hm1 hm0
 have hmk : (mk [120,121,122]).toList = [120,121,122] := mk_toList' _
 go_enter Tryz.func10,Tryz.ntmps10
 go_wp2_with (first
  | (go_at_call 13;refine KM.mono ?_;rintro e w1 ⟨X1,D,S,Lg,M,rfl,hst,hnw⟩;have KW1 := HKW.out X1 S D Lg M w1 hst;have HN1 := Lib.hid hnw;clear hst hnw KM)
  | (go_at_call 14;refine KW1.mono ?_;rintro e w2 ⟨rfl,X2,hm2,hst2⟩;have KR2 := HKR.out X2 S D Lg M w2 hst2;have HN2 := Lib.hid (And.intro (HN1.out.mv hm2) hst2);clear hst2 hm2 KW1)
  | (go_at_call 17;refine KR2.mono ?_;rintro e w3 ⟨rfl,hb3⟩;have KF3 := HKF.out X2 S D Lg M w3 (HN2.out.2.below hb3);have HN3 := Lib.hid (And.intro (HN2.out.1.step hb3) (HN2.out.2.below hb3));clear hb3 KR2)
  | (go_at_call 19;refine KF3.mono ?_;rintro e w4 ⟨rfl,hb4⟩;have HN4 := Lib.hid (HN3.out.1.step hb4);clear hb4 KF3))
 go_ret
 exact ⟨rfl,HN4.out.below⟩
end Go.Proofs.YtcmcdddnckcpcaaGreatDoor
/- FileNames,walked: true. -/
namespace Go.Proofs.YtcmcdddnckcpcaaGreatDoor
open Go.RowKit Go.Maps
open Go.RowKit Go.Maps
theorem wpList_app {w : World} {ops : Array Oper} {rest : List Oper} {o : Oper} {a : Act} {Q : Exit → Act → World → Prop} (hgd : o.guard = none) (s x : Operand) (t e : TypeId)
  (ho : o.op = .call { callee := .builtin .append,args := #[s,x],argTypes := #[t,t] }) (i : TypeInfo) (z : Value) (size bytes : Nat) (ht : Tryz.prog.underlying t = some (.slice e)) (hi : Tryz.prog.info? e = some i) (hz : i.zero = some z) (hs : i.size = size) (hby : i.bytes = bytes) (hzs : z.cells.size = size) (hsz : 0 < size)
  (B : Nat) (v : Value) (hsv : a.eval s = v) (n : Nat) (xs : List Value) (hown : w.ownsRow B e size v n xs) (A : Option Addr) (m c : Nat) (hx : a.eval x = .slice A m c) (news : List Value) (hl : news.length = m * size) (hL : Lies w A news) (h1 : ∀ u ∈ news,u.oneCell' = true) (h63 : n + m ≤ 10000000) (hby2 : bytes ≤ 1000) (hB : B ≤ w.heap.size)
  (hK : ∀ A' c' w',w'.ownsRow B e size (.slice A' (n + m) c') (n + m) (xs ++ news) → w.grownBy w' v.ownBlock → wpList Tryz.prog ops Q rest (a.put o.dst (.slice A' (n + m) c')) w') : wpList Tryz.prog ops Q (o :: rest) a w :=
 wpList_plain hgd fun K hK2 => by
  obtain ⟨A',c',w',hrun,h2,h3⟩ := run_app (P := Tryz.prog) o.type t e i z size bytes ht hi hz hs hby hzs hsz B v n xs hown A m c news hl hL h1 h63 hby2 hB
  unfold Oper.wp execOp
  simp only [ho,resolve,invoke,builtin,Sem.run_bind,Sem.run_pure,Result.andThen_ok,List.map_toArray,List.map_cons,List.map_nil,hsv,hx,hrun]
  exact hK2 _ _ (hK A' c' w' h2 h3)
theorem ecells_one (l : List (Nat × Nat)) : ∀ v ∈ ecells l,v.oneCell' = true := by
 intro v hv
 unfold ecells at hv
 obtain ⟨r,_,hr⟩ := List.mem_flatMap.1 hv
 simp at hr
 rcases hr with rfl | rfl <;> rfl
theorem ecells_app (a b : List (Nat × Nat)) : ecells (a ++ b) = ecells a ++ ecells b := by unfold ecells;rw [List.flatMap_append]
set_option maxRecDepth 100000 in
set_option maxHeartbeats 1600000 in
theorem clone_ext (A : Option Addr) (l : List (Nat × Nat)) (cap : Nat) (w : World) (hn : l.length ≤ 1000000) (hL : Lies w A (ecells l)) :
  Calls Tryz.prog 44 #[.slice A l.length cap] w fun e w' => ∃ A' c',e = .returned (.slice A' l.length c') ∧ w'.ownsRow w.heap.size 90 2 (.slice A' l.length c') l.length (ecells l) ∧ Below w.heap.size w w' := by
 obtain ⟨i0,hi,hz0,hz1,hz2⟩ := info_parts info90
 have hq : ∀ (w : World) (a : Option Addr) (n c n' c' : Nat),(binOp .eql 67 (.slice a n c) (.slice none n' c')).run Tryz.prog w = .ok (.bool a.isNone) w := fun w a n c n' c' => Lib.run_eql_slice_nil w _ _ a n c n' c' Tryz.underlying67
 have hx := ecells_length l
 have h1 := ecells_one l
 obtain ⟨xs,hxs⟩ : ∃ q,ecells l = q := ⟨_,rfl⟩
 obtain ⟨n,hnn⟩ : ∃ q,l.length = q := ⟨_,rfl⟩
 rw [hxs,hnn] at hx
 rw [hxs] at h1 hL ⊢
 rw [hnn] at hn ⊢
 clear hxs hnn
 cases A with
 | none =>
  obtain rfl : n = 0 := by
   rcases Nat.eq_zero_or_pos n with h | h
   ·exact h
   ·obtain ⟨g,o,e,_⟩ := hL (by omega);cases e
  obtain rfl : xs = [] := List.eq_nil_of_length_eq_zero (by omega)
  clear hL h1 hx
  go_enter Tryz.func44,Tryz.ntmps44
  go_wp2
  go_ret
  exact ⟨none,0,rfl,World.ownsRow_nil _ _ _ _,Below.refl _ _⟩
 | some a =>
  have HL := Lib.hid (show ∀ j u,xs[j]? = some u → (w.alloc (.cells #[] 90)).cell? (a.add j) = some u from fun j u hu => by
   obtain ⟨g,o,e,hl,hc⟩ := hL (by have := (List.getElem?_eq_some_iff.1 hu).1;omega)
   injection e with e
   rw [e,add_lit']
   exact ((below_alloc w _).cell (p := ⟨g,o + j,none⟩) hl).trans (hc j u hu))
  have H1 := Lib.hid h1
  have HX := Lib.hid hx
  clear hL h1 hx
  go_enter Tryz.func44,Tryz.ntmps44
  go_wp2_with (at_builtin;refine wpList_append_own _ rfl _ _ 67 rfl w.heap.size 90 i0 _ 2 16 Tryz.underlying67 hi hz0 hz1 hz2 rfl (by decide) _ _ _ rfl (World.ownsRow_made w #[] 0 (Nat.le_refl _) (Nat.zero_le _) rfl) a n cap xs rfl HX.out HL.out H1.out ?c4 ?c5 ?c6 ?_)
  case c4 => simp only [maxLen];omega
  case c5 => omega
  case c6 => simp
  intro v' w1 hown hgrow hnil
  obtain ⟨A',c',rfl⟩ := own_form' hown
  go_wp2
  go_ret
  exact ⟨A',c',by simp,by simpa using hown,((Below.refl _ w).alloc (Nat.le_refl _) _).grown hgrow (by simp) (by intro k hk;simp [Value.ownBlock] at hk;omega)⟩
open Go.RowKit
structure PF where
 name : Bs
 data : Bs
 ext : List (Nat × Nat)
 entry : Nat
abbrev PG := PF × (Option Addr × Nat)
def rcell (x : PG) : List Value := [.string (mk x.1.name), .string (mk x.1.data), .slice x.2.1 x.1.ext.length x.2.2, .int .i64 x.1.entry]
def rcells (G : List PG) : List Value := G.flatMap rcell
theorem rcells_length (G : List PG) : (rcells G).length = G.length * 4 := by
 induction G with
 | nil => rfl
 | cons a G ih => unfold rcells at ih ⊢;rw [List.flatMap_cons,List.length_append,ih];simp [rcell];omega
theorem rcells_at : ∀ (G : List PG) (j : Nat) (h : j < G.length),(rcells G)[j * 4]? = some (.string (mk G[j].1.name)) ∧ (rcells G)[j * 4 + 1]? = some (.string (mk G[j].1.data)) ∧ (rcells G)[j * 4 + 2]? = some (.slice G[j].2.1 G[j].1.ext.length G[j].2.2) ∧ (rcells G)[j * 4 + 3]? = some (.int .i64 G[j].1.entry) := by
 intro G
 induction G with
 | nil => intro j h;simp at h
 | cons a G ih =>
  intro j h
  have e : rcells (a :: G) = .string (mk a.1.name) :: .string (mk a.1.data) :: .slice a.2.1 a.1.ext.length a.2.2 :: .int .i64 a.1.entry :: rcells G := rfl
  rw [e]
  cases j with
  | zero => exact ⟨rfl,rfl,rfl,rfl⟩
  | succ j =>
   have := ih j (by simpa using h)
   rw [show (j + 1) * 4 = j * 4 + 1 + 1 + 1 + 1 by omega,show j * 4 + 1 + 1 + 1 + 1 + 1 = (j * 4 + 1) + 1 + 1 + 1 + 1 by omega,show j * 4 + 1 + 1 + 1 + 1 + 2 = (j * 4 + 2) + 1 + 1 + 1 + 1 by omega,show j * 4 + 1 + 1 + 1 + 1 + 3 = (j * 4 + 3) + 1 + 1 + 1 + 1 by omega]
   simpa using this
theorem rcells_one (G : List PG) : ∀ v ∈ rcells G,v.oneCell' = true := by
 intro v hv
 unfold rcells at hv
 obtain ⟨r,_,hr⟩ := List.mem_flatMap.1 hv
 simp [rcell] at hr
 rcases hr with rfl | rfl | rfl | rfl <;> rfl
theorem rcells_app (a b : List PG) : rcells (a ++ b) = rcells a ++ rcells b := by unfold rcells;rw [List.flatMap_append]
def tcells (T : List Bool) : List Value := T.map .bool
abbrev okT (t : TypeId) : Prop := t = 130 ∨ t = 138 ∨ t = 4 ∨ t = 205
structure RAt (w : World) (Y : List Nat) (R : Nat) (F : List PF) (T : List Bool) (most : Nat) (aF : Option Addr) (cF : Nat) (aT : Option Addr) (cT : Nat) (G : List PG) : Prop where
 files : G.map (·.1) = F
 blk : Blk w R #[.slice aF G.length cF, .slice aT T.length cT, .int .i64 most] 130
 row : w.ownsRow 0 138 4 (.slice aF G.length cF) G.length (rcells G)
 units : Lies w aT (tcells T)
 utyp : Typed w aT 4
 exts : ∀ x ∈ G,Lies w x.2.1 (ecells x.1.ext) ∧ Typed w x.2.1 205 ∧ ∀ a,x.2.1 = some a → a.block ∈ Y
 inF : ∀ a,aF = some a → a.block ∈ Y
 inT : ∀ a,aT = some a → a.block ∈ Y
 apart : R ∉ Y
 typ : ∀ y ∈ Y, ∃ cs t fr,w.heap[y]? = some (.cells cs t fr) ∧ okT t
def RSt (w : World) (Y : List Nat) (R : Nat) (F : List PF) (T : List Bool) (most : Nat) : Prop := ∃ aF cF aT cT G,RAt w Y R F T most aF cF aT cT G
theorem lies_block {w w' : World} {A : Option Addr} {xs : List Value} (h : Lies w A xs) (hk : ∀ a,A = some a → w'.heap[a.block]? = w.heap[a.block]?) : Lies w' A xs := by
 intro h0
 obtain ⟨g,o,he,hl,hc⟩ := h h0
 have e := hk _ he
 refine ⟨g,o,he, ?_,fun j u hu => (World.cell?_of_block (a := ⟨g,o + j,none⟩) e).trans (hc j u hu)⟩
 rcases Nat.lt_or_ge g w'.heap.size with h1 | h1
 ·exact h1
 ·have e' : w'.heap[g]? = w.heap[g]? := e
  rw [Array.getElem?_eq_none h1] at e'
  have := (Array.getElem?_eq_none_iff.1 e'.symm)
  omega
theorem typed_block {w w' : World} {A : Option Addr} {t : TypeId} (h : Typed w A t) (hk : ∀ a,A = some a → w'.heap[a.block]? = w.heap[a.block]?) : Typed w' A t := fun a ha => by
 obtain ⟨cs,fr,hc⟩ := h a ha
 exact ⟨cs,fr,(hk a ha).trans hc⟩
theorem row_block {w w' : World} {B e s n : Nat} {v : Value} {xs : List Value} (h : w.ownsRow B e s v n xs) (hk : ∀ g,v.ownBlock = some g → w'.heap[g]? = w.heap[g]?) : w'.ownsRow B e s v n xs := by
 refine ⟨h.1,h.2.imp id fun ⟨b,cap,cur,h1,h2,h3,h4⟩ => ⟨b,cap,cur,h1,h2, ?_,h4⟩⟩
 rw [hk b (by rw [h1];rfl)]
 exact h3
theorem RAt.keep {w w' : World} {Y : List Nat} {R : Nat} {F : List PF} {T : List Bool} {most : Nat} {aF : Option Addr} {cF : Nat} {aT : Option Addr} {cT : Nat} {G : List PG} (h : RAt w Y R F T most aF cF aT cT G) (hk : ∀ y ∈ R :: Y,w'.heap[y]? = w.heap[y]?) : RAt w' Y R F T most aF cF aT cT G where
 files := h.files
 blk := (hk R (List.mem_cons_self ..)).trans h.blk
 row := row_block h.row (fun g hg => by
  cases aF with
  | none => cases hg
  | some a => exact hk g (List.mem_cons_of_mem _ (by have := h.inF a rfl; have e : a.block = g := by simpa [Value.ownBlock] using hg
                                                     rwa [← e])))
 units := lies_block h.units (fun a ha => hk _ (List.mem_cons_of_mem _ (h.inT a ha)))
 utyp := typed_block h.utyp (fun a ha => hk _ (List.mem_cons_of_mem _ (h.inT a ha)))
 exts := fun x hx => by
  obtain ⟨h1,h2,h3⟩ := h.exts x hx
  exact ⟨lies_block h1 (fun a ha => hk _ (List.mem_cons_of_mem _ (h3 a ha))),typed_block h2 (fun a ha => hk _ (List.mem_cons_of_mem _ (h3 a ha))),h3⟩
 inF := h.inF
 inT := h.inT
 apart := h.apart
 typ := fun y hy => by
  obtain ⟨cs,t,fr,h1,h2⟩ := h.typ y hy
  exact ⟨cs,t,fr,(hk y (List.mem_cons_of_mem _ hy)).trans h1,h2⟩
theorem RAt.lt {w : World} {Y : List Nat} {R : Nat} {F : List PF} {T : List Bool} {most : Nat} {aF : Option Addr} {cF : Nat} {aT : Option Addr} {cT : Nat} {G : List PG} (h : RAt w Y R F T most aF cF aT cT G) : ∀ y ∈ R :: Y,y < w.heap.size := fun y hy => by
 rcases List.mem_cons.1 hy with rfl | hy
 ·exact h.blk.lt
 ·obtain ⟨cs,t,fr,h1,_⟩ := h.typ y hy
  exact (Array.getElem?_eq_some_iff.1 h1).1
theorem RAt.below {w w' : World} {Y : List Nat} {R : Nat} {F : List PF} {T : List Bool} {most : Nat} {aF : Option Addr} {cF : Nat} {aT : Option Addr} {cT : Nat} {G : List PG} (h : RAt w Y R F T most aF cF aT cT G) (hb : Below w.heap.size w w') : RAt w' Y R F T most aF cF aT cT G :=
 h.keep fun y hy => hb.block y (h.lt y hy)
theorem RSt.below {w w' : World} {Y : List Nat} {R : Nat} {F : List PF} {T : List Bool} {most : Nat} (h : RSt w Y R F T most) (hb : Below w.heap.size w w') : RSt w' Y R F T most := by
 obtain ⟨aF,cF,aT,cT,G,h⟩ := h
 exact ⟨aF,cF,aT,cT,G,h.below hb⟩
def findI (F : List PF) (name : Bs) : Int := match F.findIdx? (fun f => f.name == name) with
 | some i => i
 | none => -1
theorem text_eq (a b : Bs) : ((mk a).toList == (mk b).toList) = (a == b) := by rw [mk_toList',mk_toList']
set_option maxRecDepth 100000 in
set_option maxHeartbeats 2000000 in
theorem rfind_any (Y : List Nat) (R : Nat) (F : List PF) (T : List Bool) (most : Nat) (name : Bs) (w : World) (h : RSt w Y R F T most) (hF : F.length ≤ 1000) :
  Calls Tryz.prog 68 #[.pointer (some ⟨R,0,none⟩), .string (mk name)] w fun e w' => e = .returned (.int .i64 (findI F name)) ∧ w' = w := by
 obtain ⟨aF,cF,aT,cT,G,h⟩ := h
 have x0 := h.blk.cell 0
 simp at x0
 have hRl := h.blk.lt
 have hG : G.length = F.length := by rw [← h.files,List.length_map]
 obtain ⟨n,hn⟩ : ∃ q,G.length = q := ⟨_,rfl⟩
 rw [hn] at x0
 have hn2 : n ≤ 1000 := by omega
 have HL := Lib.hid (Lies.of_row h.row)
 have HN := Lib.hid (And.intro hn (hG.symm.trans hn))
 have HG := Lib.hid (show ∀ j (hj : j < G.length) (hj2 : j < F.length),G[j].1 = F[j] from fun j hj hj2 => by
  have := h.files
  subst this
  simp)
 obtain ⟨V,hV⟩ : ∃ q,findI F name = q := ⟨_,rfl⟩
 rw [hV]
 have HV := Lib.hid hV
 obtain ⟨NM,hNM⟩ : ∃ q,mk name = q := ⟨_,rfl⟩
 rw [hNM]
 have HNM := Lib.hid hNM
 clear h hF hG hn hV hNM
 go_enter Tryz.func68,Tryz.ntmps68
 go_wp2
 go_loopw [5] (fun i wr => ∃ k : Nat,k ≤ n ∧ i = .int .i64 k ∧ (∀ j (hj : j < F.length),j < k → F[j].name ≠ name) ∧ wr = w) (fun i _ => n - (intOf i).toNat)
 case atStart => exact ⟨0,Nat.zero_le _,rfl,fun j _ h => absurd h (by omega),rfl⟩
 case round =>
  obtain ⟨k,hk,rfl,hall,rfl⟩ := hrel
  have k0 : (0 : Int) ≤ (k : Int) := by omega
  by_cases hlt : k < n
  ·have hkl : k < F.length := by rw [HN.out.2];exact hlt
   have hkg : k < G.length := by rw [HN.out.1];exact hlt
   obtain ⟨g,o,rfl,hgl,hcs⟩ := HL.out (by rw [rcells_length];omega)
   have d0 := (rcells_at G k hkg).1
   have c0 := hcs _ _ d0
   rw [HG.out k hkg hkl] at c0
   have k1 : (k : Int) < (n : Int) := by omega
   have HALL := Lib.hid hall
   have hte := text_eq F[k].name name
   rw [HNM.out] at hte
   obtain ⟨FN,hFN⟩ : ∃ q,mk F[k].name = q := ⟨_,rfl⟩
   rw [hFN] at hte c0
   by_cases hb : F[k].name = name
   ·rw [beq_iff_eq.2 hb] at hte
    have HFN := Lib.hid (show V = (k : Int) by
     rw [← HV.out]
     unfold findI
     rw [show F.findIdx? (fun f => f.name == name) = some k from List.findIdx?_eq_some_iff_getElem.2 ⟨hkl,by simpa using hb,fun j hj => by simpa using hall j (by omega) hj⟩])
    clear hall hb hkl hkg hcs d0 hFN
    go_wp2
    go_ret
    obtain rfl := HFN.out
    exact ⟨rfl,rfl⟩
   ·rw [beq_eq_false_iff_ne.2 hb] at hte
    have HB := Lib.hid hb
    clear hall hb hcs d0 hFN
    go_wp2
    go_roundw
    case rel => exact ⟨k + 1,by omega,by go_num,fun j hj hjk => (by
     by_cases e : j = k
     ·subst e;exact HB.out
     ·exact HALL.out j hj (by omega)),trivial⟩
    case measure => simp [intOf];omega
  ·obtain rfl : n = k := by omega
   have HFN := Lib.hid (show V = -1 by
    rw [← HV.out]
    unfold findI
    rw [show F.findIdx? (fun f => f.name == name) = none from List.findIdx?_eq_none_iff.2 fun f hf => by
     obtain ⟨j,hj,rfl⟩ := List.getElem_of_mem hf
     simpa using hall j hj (by have := HN.out.2;omega)])
   clear hall
   go_wp2
   go_ret
   obtain rfl := HFN.out
   exact ⟨rfl,rfl⟩
open Go.RowKit
theorem tcells_length (T : List Bool) : (tcells T).length = T.length := by simp [tcells]
theorem tcells_one (T : List Bool) : ∀ v ∈ tcells T,v.oneCell' = true := by
 intro v hv
 obtain ⟨b,_,rfl⟩ := List.mem_map.1 hv
 rfl
set_option maxRecDepth 100000 in
set_option maxHeartbeats 2000000 in
theorem rclone_any (A : Option Addr) (T : List Bool) (cap : Nat) (w : World) (hL : Lies w A (tcells T)) (hn : T.length ≤ 100000) :
  Calls Tryz.prog 131 #[.agg #[.slice A T.length cap]] w fun e w' => ∃ A' c',e = .returned (.agg #[.slice A' T.length c']) ∧ w'.ownsRow w.heap.size 4 1 (.slice A' T.length c') T.length (tcells T) ∧ Below w.heap.size w w' := by
 obtain ⟨i4,hi0,hi1,hi2,hi3⟩ := info_parts info4
 have hxl := tcells_length T
 have hx1 := tcells_one T
 obtain ⟨xs,hxs⟩ : ∃ q,tcells T = q := ⟨_,rfl⟩
 obtain ⟨n,hnn⟩ : ∃ q,T.length = q := ⟨_,rfl⟩
 rw [hxs,hnn] at hxl
 rw [hxs] at hL hx1 ⊢
 rw [hnn] at hn ⊢
 have hB0 := (Blk.new w #[.slice A n cap] 127).alloc (.cells #[.slice none 0 0] 127)
 have hB1 := Blk.new (w.alloc (.cells #[.slice A n cap] 127)) #[.slice none 0 0] 127
 rw [World.size_alloc] at hB1
 have hb := ((Below.refl w.heap.size w).alloc (Nat.le_refl _) (.cells #[.slice A n cap] 127)).alloc (by simp) (.cells #[.slice none 0 0] 127)
 have hL2 := hL.below (Nat.le_refl _) hb
 have HN := Lib.hid (And.intro hxl hx1)
 have HL := Lib.hid hL2
 have HB := Lib.hid (And.intro hB0 (And.intro hB1 hb))
 clear hL hL2 hxl hx1 hxs hnn hB0 hB1 hb
 go_enter Tryz.func131,Tryz.ntmps131
 go_upto_region 2 with (fail)
 obtain ⟨H,hH⟩ : ∃ q,w.heap.size = q := ⟨_,rfl⟩
 have hWs : ((w.alloc (.cells #[.slice A n cap] 127)).alloc (.cells #[.slice none 0 0] 127)).heap.size = H + 2 := by simp [hH]
 obtain ⟨W,hW⟩ : ∃ q,(w.alloc (.cells #[.slice A n cap] 127)).alloc (.cells #[.slice none 0 0] 127) = q := ⟨_,rfl⟩
 rw [hH,hW] at HB
 rw [hW] at HL hWs ⊢
 try rw [hH]
 have HH := Lib.hid hH
 clear hH hW
 have x0 := HB.out.1.cell 0
 simp at x0
 have l0 := HB.out.1.lt
 have y0 := HB.out.2.1.cell 0
 have yf := HB.out.2.1.frozen 0
 simp at y0
 have l1 := HB.out.2.1.lt
 go_wp2_with (first
  | (at_builtin;refine wpList_app rfl (.tmp 4) (.tmp 6) 125 4 rfl i4 _ 1 1 Tryz.underlying125 hi0 hi1 hi2 hi3 rfl (by decide) (H + 2) (.slice none 0 0) rfl 0 [] (World.ownsRow_nil _ _ _ _) A n cap rfl xs (by rw [HN.out.1];simp) HL.out HN.out.2 (by omega) (by decide) (by omega) ?_;intro A' c' w1 hr hg;rw [Nat.zero_add,List.nil_append] at hr;have hB1 := HB.out.2.1.grown hg (by simp [Value.ownBlock]);have z0 := hB1.cell 0;have zf := hB1.frozen 0;simp at z0;have zl := hB1.lt;have HR := Lib.hid (And.intro hr (And.intro hg hB1));clear hr hg hB1))
 have hB2 := HR.out.2.2.set 0 (.slice A' n c')
 have p0 := hB2.cell 0
 simp at p0
 refine bodyPost_ret (v := .agg #[.slice A' n c']) ?_ rfl ?_
 ·simp [results,Tryz.f131,go_sem,p0]
 ·have hne : ∀ g,(Value.slice A' n c').ownBlock = some g → H + 2 ≤ g := fun g hg => (HR.out.1.lt g hg).1
  refine ⟨A',c',rfl,row_block (own_weaken HR.out.1 (by rw [HH.out];omega)) (fun g hg => Below.heap_setCell _ _ _ _ (by have := hne g hg;simp;omega)), ?_⟩
  rw [HH.out]
  refine below_set (HB.out.2.2.grown HR.out.2.1 (by omega) (fun k hk => by simp [Value.ownBlock] at hk)) (H + 1) 0 _ (by omega)
end Go.Proofs.YtcmcdddnckcpcaaGreatDoor
