/- Packed: Rm, Mo, Dn, Gr, Fn, Iv, Ip, Iq, Ce, Ap. -/
import Derived.Test.YtcmcdddnckcpcaaGreatDoorPC4
import Derived.Maps.OwnIn
import Derived.Test.YtcmcdddnckcpcaaGreatDoorPC2
import Derived.Test.YtcmcdddnckcpcaaGreatDoorPC1
import Derived.Laws.CopyOwn
/- file.Remove, walked. -/
namespace Go.Proofs.YtcmcdddnckcpcaaGreatDoor
open Go.RowKit Go.Maps
/-- What Remove finds, ahead of writing. -/
def preR (m : StoM) (name : Bs) : Nat × Option (List Bool × FileM) :=
  if goodF name = false then (11, none) else match fileOf m.F name with
  | none => (9, none)
  | some f => match turnS false m.T f.ext with
    | none => (14, none)
    | some T2 => (0, some (T2, f))
def RemP (X : List Nat) (S D Lg M : Nat) (m : StoM) (T2 : List Bool) (F2 : List FileM) (C : List (Nat × Bs)) (w : World) (e : Ending) (w' : World) : Prop :=
  e = .returned (.int .i64 ((DS.run (settleC m.most T2 C) m.ds).1 : Nat)) ∧ ∃ X', Mv (S :: M :: X) (S :: M :: X') w w' ∧
    ((DS.run (settleC m.most T2 C) m.ds).1 = 0 → Sto w' X' S D Lg M ⟨(DS.run (settleC m.most T2 C) m.ds).2, F2, T2, m.most, m.off⟩) ∧
    ((DS.run (settleC m.most T2 C) m.ds).1 ≠ 0 → Sto w' X' S D Lg M ⟨(DS.run (settleC m.most T2 C) m.ds).2, m.F, m.T, m.most, true⟩)
def RemoveP (X : List Nat) (S D Lg M : Nat) (m : StoM) (p : Nat × Option (List Bool × FileM)) (w : World) (e : Ending) (w' : World) : Prop :=
  (p.2 = none → e = .returned (.int .i64 (p.1 : Nat)) ∧ Below w.heap.size w w' ∧ Sto w' X S D Lg M m) ∧
  ∀ T2 f, p.2 = some (T2, f) → RemP X S D Lg M m T2 (delF m.F f.name) [(f.entry, [])] w e w'
theorem Exts.sub {w : World} {X : List Nat} {ad : AdM} {F G : List FileM} (h : Exts w X ad F) (hs : ∀ f ∈ G, f ∈ F) : Exts w X ad G := fun f hf => h f (hs f hf)
theorem wpList_insert {P : Program} {ops : Array Oper} {rest : List Oper} {Q : Exit → Act → World → Prop} {a : Act} {w w' : World} {o : Oper} (hg : o.guard = none) (t : TypeId) (m x v : Operand) (hop : o.op = .insert t m x v) (mv kv vv : Value)
    (hm : a.eval m = mv) (hx : a.eval x = kv) (hv : a.eval v = vv) (hrun : (Instr.mapUpdate t mv kv vv).run P w = .ok () w') (hK : wpList P ops Q rest (a.put o.dst undef) w') : wpList P ops Q (o :: rest) a w := by
  refine wpList_plain hg fun K' hK' => ?_
  unfold Oper.wp
  simp [execOp, hop, hm, hx, hv, hrun, Result.andThen]
  exact hK' _ _ hK
set_option maxRecDepth 100000 in
set_option maxHeartbeats 4000000 in
theorem fremove_any (X : List Nat) (S D Lg M : Nat) (m : StoM) (name : Bs) (w : World) (h : Sto w X S D Lg M m) (hb : StoB m) (h1 : m.off = false) (h2 : m.ds.off = false) (hn : name.length ≤ maxLen) :
    Calls Tryz.prog 21 #[.pointer (some ⟨S, 0, none⟩), .string (mk name)] w (RemoveP X S D Lg M m (preR m name) w) := by
  obtain ⟨ad, hFM, hEX⟩ := h.map
  have KF := find_ok X S D Lg M m ad name w h hFM h1 h2 hn
  by_cases hE : findE m.F name = 0
  case neg =>
    have hR : preR m name = (findE m.F name, none) := by
      unfold preR
      unfold findE at hE ⊢
      cases hg : goodF name with
      | false => rfl
      | true =>
        rw [hg] at hE
        cases hc : fileOf m.F name with
        | none => rfl
        | some f => rw [hc] at hE; exact absurd rfl hE
    have hN : findE m.F name = 9 ∨ findE m.F name = 11 := by
      unfold findE at hE ⊢
      split <;> simp_all
    rw [hR]
    obtain ⟨a, A, k, c, hv⟩ := findV_form ad m.F name
    rw [hv] at KF
    have HST := Lib.hid h
    obtain ⟨NM, hNM⟩ : ∃ q, mk name = q := ⟨_, rfl⟩
    obtain ⟨z, hzz⟩ : ∃ q, sizeW m.F name = q := ⟨_, rfl⟩
    obtain ⟨N, hNN⟩ : ∃ q, findE m.F name = q := ⟨_, rfl⟩
    rw [hNM, hzz, hNN] at KF
    rw [hNM, hNN]
    rw [hNN] at hN
    clear h hb h1 h2 hn hFM hEX hv hNM hzz hNN hE hR
    rcases hN with rfl | rfl
    all_goals
      go_enter Tryz.func21, Tryz.ntmps21
      go_wp2_with (first | (go_at_call 37; refine KF.mono ?_; rintro e w1 ⟨rfl, hb1⟩; have HB1 := Lib.hid hb1; clear hb1))
      go_ret
      have hbF := HB1.out.alloc HB1.out.size (.cells #[.int .i64 a, .int .i64 (z : Int), .slice A k c] 69)
      exact ⟨fun _ => ⟨rfl, hbF, HST.out.below hbF⟩, fun T2 f h => by cases h⟩
  case pos =>
    obtain ⟨f, hf, hg⟩ : ∃ f, fileOf m.F name = some f ∧ goodF name = true := by
      unfold findE at hE
      split at hE
      · rename_i hg
        cases hc : fileOf m.F name with
        | none => rw [hc] at hE; simp at hE
        | some f => exact ⟨f, rfl, hg⟩
      · cases hE
    have hV : findV ad m.F name = inoV ad f := by unfold findV; rw [if_pos hg, hf]; rfl
    have hfm := fileOf_mem hf
    have hfn := fileOf_name hf
    have hPR : preR m name = match turnS false m.T f.ext with
        | none => (14, none)
        | some T2 => (0, some (T2, f)) := by unfold preR; rw [if_neg (by rw [hg]; decide), hf]
    have HPR := Lib.hid hPR
    obtain ⟨P, hP⟩ : ∃ q, preR m name = q := ⟨_, rfl⟩
    rw [hP]
    have HP := Lib.hid hP
    clear hP
    rw [hE, hV] at KF
    obtain ⟨hx1, hx2, _⟩ := hEX f hfm
    unfold inoV at KF
    obtain ⟨⟨A, c⟩, hA⟩ : ∃ q, ad f.name = q := ⟨_, rfl⟩
    rw [hA] at KF hx1 hx2
    dsimp only at KF hx1 hx2
    have hexb := hb.exb f hfm
    have hexl := hb.exl f hfm
    have hfe := hb.ent f hfm
    have HTL := Lib.hid hb.tl
    have KG := fun (w5 : World) (hL : Lies w5 A (ecells f.ext)) => give_any m.T f.ext A c w5 hb.tl hL (fun x hx => by have := hexb x hx; have := hb.tl; omega) (by omega)
    have KST := fun (X1 : List Nat) (Mc : Nat) (T2 : List Bool) (hT : T2.length = m.T.length) (w1 : World) (hs1 : Sto w1 X1 S D Lg M m) (hC : CM w1 Mc [(f.entry, [])]) =>
      settle_any X1 S D Lg M Mc m T2 [(f.entry, [])] w1 hs1 hC hT (by rw [hT]; exact HTL.out) (by simp) (fun c hc => by
        have : c = (f.entry, []) := by simpa using hc
        subst this; exact ⟨hfe, by simp⟩) hb.mo (by have := hb.ll; omega) (by have := hb.sl; omega)
    obtain ⟨tn, PBn, en, hRf⟩ := turnV_form (turnS false m.T f.ext)
    have HRF := Lib.hid hRf
    rw [hRf] at KG
    have HDR := Lib.hid (fun (ad : AdM) (w1 : World) (hf1 : FM w1 M ad m.F) => hf1.drop name hn 0)
    unfold spv at KG
    obtain ⟨tl, htl⟩ : ∃ q, m.T.length = q := ⟨_, rfl⟩
    obtain ⟨PB, hPB⟩ : ∃ q, mk (packB m.T) = q := ⟨_, rfl⟩
    obtain ⟨xl, hxl⟩ : ∃ q, f.ext.length = q := ⟨_, rfl⟩
    rw [hxl] at KF KG
    rw [htl, hPB] at KG
    obtain ⟨sz, hsz⟩ : ∃ q, f.size = q := ⟨_, rfl⟩
    rw [hsz] at KF
    obtain ⟨fe, hfeq⟩ : ∃ q, f.entry = q := ⟨_, rfl⟩
    rw [hfeq] at KF hfe
    simp only [hfeq] at KST
    obtain ⟨NM, hNM⟩ : ∃ q, mk name = q := ⟨_, rfl⟩
    rw [hNM] at KF HDR
    rw [hNM]
    have x2 := fun w1 (hw : Sto w1 X S D Lg M m) => hw.blk.cell 2
    have x3 := fun w1 (hw : Sto w1 X S D Lg M m) => hw.blk.cell 3
    simp only [stoCells, htl, hPB] at x2 x3
    have HX2 := Lib.hid x2
    have HX3 := Lib.hid x3
    have HST := Lib.hid h
    have HSLT := Lib.hid (show ∀ x ∈ S :: M :: X, x < w.heap.size from fun x hx => by
        rcases List.mem_cons.1 hx with rfl | hx
        · exact h.blk.lt
        · rcases List.mem_cons.1 hx with rfl | hx
          · exact hFM.lt
          · exact h.dsk.lt x hx)
    have HKG := Lib.hid KG
    have HKST := Lib.hid KST
    have HLA := Lib.hid hx1
    have HFE := Lib.hid (show fe ≤ 1000000 by have := hb.mo; omega)
    have HFEQ := Lib.hid hfeq
    have HFN := Lib.hid hfn
    have mixed : Tryz.prog.follows Departure.mixedOrders = true := by kernel_rfl
    clear h hb h1 h2 hn hFM hEX hE hf hg hV hfm hfn hPR hx1 hx2 hA hexb hexl hfe KG KST hRf htl hPB hxl hsz hfeq hNM x2 x3
    go_enter Tryz.func21, Tryz.ntmps21
    go_upto_region 4 with (first | (go_at_call 37; refine KF.mono ?_; rintro e w1 ⟨rfl, hb1⟩; have HB1 := Lib.hid hb1; clear hb1))
    have hB5 := Blk.new w1 #[.int .i64 (fe : Int), .int .i64 (sz : Int), .slice A xl c] 69
    have hbw := HB1.out.alloc HB1.out.size (.cells #[.int .i64 (fe : Int), .int .i64 (sz : Int), .slice A xl c] 69)
    have hH5 := HB1.out.size
    obtain ⟨H5, hH⟩ : ∃ q, w1.heap.size = q := ⟨_, rfl⟩
    obtain ⟨W1, hW⟩ : ∃ q, w1.alloc (.cells #[.int .i64 (fe : Int), .int .i64 (sz : Int), .slice A xl c] 69) = q := ⟨_, rfl⟩
    rw [hH] at hB5 hH5
    simp only [hW] at hB5 hbw ⊢
    try simp only [hH]
    have hst1 := HST.out.below hbw
    have y2 := HX2.out W1 hst1
    have y3 := HX3.out W1 hst1
    have y5 := hB5.cell 2
    simp at y2 y3 y5
    have HY := Lib.hid (And.intro y2 (And.intro y3 (And.intro y5 (And.intro hst1.blk.lt hB5.lt))))
    have HBW := Lib.hid hbw
    have HB5 := Lib.hid hB5
    have HH5 := Lib.hid hH5
    have HLA1 := Lib.hid (HLA.out.below (Nat.le_refl _) hbw)
    clear hH hW hB5 hbw hst1 hH5 y2 y3 y5
    refine wp_region_held (S := fun w' => Below W1.heap.size W1 w') mixed ?_
    change wpAnyH _ _ _ _ _ _ _ _ W1.drew
    have hS0 : Below W1.heap.size W1 W1.drew := (Below.refl _ _).drew
    obtain ⟨W0, hW0⟩ : ∃ q, W1.drew = q := ⟨_, rfl⟩
    rw [hW0] at hS0 ⊢
    clear hW0
    refine wpAnyH_take (i := 0) (v := .pointer (some ⟨S, 0, none⟩)) rfl (by kernel_rfl) (by kernel_rfl) (by kernel_rfl) (fun c a w h => h) (.inl ⟨by kernel_rfl, fun w' hS => ?_⟩) hS0 ?_
    · clear hS; go_simp
    try go_simp
    refine wpAnyH_take (i := 1) (v := .pointer (some ⟨S, 0, none⟩)) rfl (by kernel_rfl) (by kernel_rfl) (by kernel_rfl) (fun c a w h => h) (.inl ⟨by kernel_rfl, fun w' hS => ?_⟩) hS0 ?_
    · clear hS; go_simp
    try go_simp
    refine wpAnyH_take (i := 2) (v := .pointer (some ⟨S, 2, none⟩)) rfl (by kernel_rfl) (by kernel_rfl) (by kernel_rfl) (fun c a w h => h) (.inl ⟨by kernel_rfl, fun w' hS => ?_⟩) hS0 ?_
    · clear hS; go_simp
    try go_simp
    refine wpAnyH_take (i := 3) (v := .agg #[.int .i64 (tl : Int), .string PB]) rfl (by kernel_rfl) (by kernel_rfl) (by kernel_rfl) (fun c a w h => h) (.inl ⟨by kernel_rfl, fun w' hS => ?_⟩) hS0 ?_
    · have q0 := (hS.cell (p := ⟨S, 2, none⟩) HY.out.2.2.2.1).trans HY.out.1; have q1 := (hS.cell (p := ⟨S, 3, none⟩) HY.out.2.2.2.1).trans HY.out.2.1; go_simp
    try go_simp
    refine wpAnyH_take (i := 4) (v := .pointer (some ⟨H5, 2, none⟩)) rfl (by kernel_rfl) (by kernel_rfl) (by kernel_rfl) (fun c a w h => h) (.inl ⟨by kernel_rfl, fun w' hS => ?_⟩) hS0 ?_
    · clear hS; go_simp
    try go_simp
    refine wpAnyH_take (i := 5) (v := .slice A xl c) rfl (by kernel_rfl) (by kernel_rfl) (by kernel_rfl) (fun c a w h => h) (.inl ⟨by kernel_rfl, fun w' hS => ?_⟩) hS0 ?_
    · have q0 := (hS.cell (p := ⟨H5, 2, none⟩) HY.out.2.2.2.2).trans HY.out.2.2.1; go_simp
    try go_simp
    refine wpAnyH_all (rs := [6, 10]) (by kernel_rfl) (by simp) ?_
    intro i hi
    simp only [List.mem_cons, List.not_mem_nil, or_false] at hi
    rcases hi with rfl | rfl
    · unfold wpOp
      go_simp
      refine .inl ?_
      go_at_call 41
      refine (HKG.out W0 (HLA1.out.below (Nat.le_refl _) hS0)).mono ?_
      rintro e w2 ⟨rfl, hb2⟩
      have hS1 := hS0.trans (hb2.mono hS0.size)
      refine ⟨hS1, ?_⟩
      try go_simp
      clear hS0 hb2
      refine wpAnyH_take (i := 7) (v := .tuple #[.agg #[.int .i64 tn, .string PBn], .int .i64 en]) rfl (by kernel_rfl) (by kernel_rfl) (by kernel_rfl) (fun c a w h => h) (.inl ⟨by kernel_rfl, fun w' hS => ?_⟩) hS1 ?_
      · clear hS; go_simp
      try go_simp
      refine wpAnyH_take (i := 8) (v := .agg #[.int .i64 tn, .string PBn]) rfl (by kernel_rfl) (by kernel_rfl) (by kernel_rfl) (fun c a w h => h) (.inl ⟨by kernel_rfl, fun w' hS => ?_⟩) hS1 ?_
      · clear hS; go_simp
      try go_simp
      refine wpAnyH_take (i := 9) (v := .int .i64 en) rfl (by kernel_rfl) (by kernel_rfl) (by kernel_rfl) (fun c a w h => h) (.inl ⟨by kernel_rfl, fun w' hS => ?_⟩) hS1 ?_
      · clear hS; go_simp
      try go_simp
      refine wpAnyH_all (rs := [10]) (by kernel_rfl) (by simp) ?_
      intro i hi
      simp only [List.mem_cons, List.not_mem_nil, or_false] at hi
      subst hi
      unfold wpOp
      go_simp
      have hB7 := Blk.new w2 #[.int .i64 0, .string ⟨#[]⟩] 76
      have hS3 := hS1.alloc hS1.size (.cells #[.int .i64 0, .string ⟨#[]⟩] 76)
      have hge : W1.heap.size ≤ w2.heap.size := hS1.size
      obtain ⟨H7, hH7⟩ : ∃ q, w2.heap.size = q := ⟨_, rfl⟩
      rw [hH7] at hB7 hge
      obtain ⟨w3, hw3⟩ : ∃ q, w2.alloc (.cells #[.int .i64 0, .string ⟨#[]⟩] 76) = q := ⟨_, rfl⟩
      rw [hw3] at hB7 hS3 ⊢
      try rw [hH7]
      clear hw3 hH7 hS1
      first | refine .inl ⟨hS3, ?_⟩ | refine ⟨hS3, ?_⟩
      -- from: w3; hB7 : Blk w3 H7 #[0, ""] 76; hS3 : Below W1.heap.size W1 w3; hge : W1.heap.size ≤ H7
      have c0 := hB7.cell 0
      have c1 := hB7.cell 1
      have f0 := hB7.frozen 0
      have f1 := hB7.frozen 1
      simp at c0 c1
      have l7 := hB7.lt
      refine wpAnyH_all (rs := [11]) (by kernel_rfl) (by simp) ?_
      intro i hi
      simp only [List.mem_cons, List.not_mem_nil, or_false] at hi
      subst hi
      unfold wpOp
      go_simp
      have hB74 := (hB7.set 0 (.int .i64 tn)).set 1 (.string PBn)
      have hS4 := below_set (below_set hS3 H7 0 (.int .i64 tn) hge) H7 1 (.string PBn) hge
      obtain ⟨w4, hw4⟩ : ∃ q, (w3.setCell ⟨H7, 0, none⟩ (.int .i64 tn)).setCell ⟨H7, 1, none⟩ (.string PBn) = q := ⟨_, rfl⟩
      rw [hw4] at hB74 hS4 ⊢
      clear hw4 hB7 hS3 c0 c1 f0 f1 l7
      first | refine .inl ⟨hS4, ?_⟩ | refine ⟨hS4, ?_⟩
      refine wpAnyH_all (rs := [12]) (by kernel_rfl) (by simp) ?_
      intro i hi
      simp only [List.mem_cons, List.not_mem_nil, or_false] at hi
      subst hi
      unfold wpOp
      go_simp
      first | refine .inl ⟨hS4, ?_⟩ | refine ⟨hS4, ?_⟩ | refine .inl ?_ | skip
      refine wpAnyH_done (by kernel_rfl) ?_ _
      have HB7 := Lib.hid hB74
      have HS4 := Lib.hid hS4
      have HGE := Lib.hid hge
      clear hB74 hS4 hge
      cases htn : turnS false m.T f.ext with
      | none =>
        have hq := HRF.out
        rw [htn] at hq
        unfold turnV at hq
        simp only [Value.tuple.injEq, Array.mk.injEq, List.cons.injEq, Value.agg.injEq, Value.int.injEq, Value.string.injEq, true_and, and_true] at hq
        obtain ⟨⟨rfl, rfl⟩, rfl⟩ := hq
        have HE : P = (14, none) := by rw [← HP.out, HPR.out, htn]
        subst HE
        clear htn
        go_wp2
        go_ret
        have hbF := HBW.out.trans (HS4.out.mono HBW.out.size)
        exact ⟨fun _ => ⟨rfl, hbF, HST.out.below hbF⟩, fun T2 f h => by cases h⟩
      | some T2 =>
        have hq := HRF.out
        rw [htn] at hq
        unfold turnV spv at hq
        simp only [Value.tuple.injEq, Array.mk.injEq, List.cons.injEq, Value.agg.injEq, Value.int.injEq, Value.string.injEq, true_and, and_true] at hq
        obtain ⟨⟨rfl, rfl⟩, rfl⟩ := hq
        have HE : P = (0, some (T2, f)) := by rw [← HP.out, HPR.out, htn]
        subst HE
        have hT2 := turnS_len _ _ _ _ htn
        have KST := fun (X1 : List Nat) (Mc : Nat) (w1 : World) hs1 hC => HKST.out X1 Mc T2 hT2 w1 hs1 hC
        unfold SetP spv at KST
        have HRP := Lib.hid (show ∀ e w', RemP X S D Lg M m T2 (delF m.F name) [(fe, [])] w e w' → RemoveP X S D Lg M m (0, some (T2, f)) w e w' from fun e w' hr => ⟨fun h => by (cases h), fun T3 f3 h => by
          cases h
          rw [HFN.out, HFEQ.out]; exact hr⟩)
        obtain ⟨t2, ht2⟩ : ∃ q, T2.length = q := ⟨_, rfl⟩
        obtain ⟨PB2, hPB2⟩ : ∃ q, mk (packB T2) = q := ⟨_, rfl⟩
        simp only [ht2, hPB2] at KST
        rw [ht2, hPB2] at HB7
        have hn2 := run_num (settleC m.most T2 [(fe, [])]) m.ds
        obtain ⟨r2, hr2⟩ : ∃ q, DS.run (settleC m.most T2 [(fe, [])]) m.ds = q := ⟨_, rfl⟩
        have HR2 := Lib.hid hr2
        rw [hr2] at hn2
        simp only [hr2] at KST
        obtain ⟨n2, d2⟩ := r2
        dsimp only at hn2 KST
        clear htn hT2 hr2 hPB2 ht2
        have hb4 := HBW.out.trans (HS4.out.mono HBW.out.size)
        have HB4 := Lib.hid hb4
        have hX : Blk w4 H5 #[.int .i64 (fe : Int), .int .i64 (sz : Int), .slice A xl c] 69 ∧ Blk w4 H7 #[.int .i64 (t2 : Int), .string PB2] 76 := ⟨HB5.out.below HS4.out, HB7.out⟩
        have HX := Lib.hid hX
        have HORD := Lib.hid (show (∀ x ∈ S :: M :: X, x ≠ H5 ∧ x ≠ H7) from fun x hx => by
          have q1 := HSLT.out x hx
          have q2 := HH5.out
          have q3 := HGE.out
          have q4 := HBW.out.size
          omega)
        clear hb4 hX
        have hb2 := HB4.out.alloc HB4.out.size (.map #[] 0)
        have hS2 : Blk (w4.alloc (.map #[] 0)) H5 #[.int .i64 (fe : Int), .int .i64 (sz : Int), .slice A xl c] 69 ∧ Blk (w4.alloc (.map #[] 0)) H7 #[.int .i64 (t2 : Int), .string PB2] 76 := ⟨HX.out.1.alloc _, HX.out.2.alloc _⟩
        have hcm2 := CM.made w4
        have hMc : w.heap.size ≤ w4.heap.size := HB4.out.size
        have e0 := HX.out.2.cell 0
        have e1 := HX.out.2.cell 1
        have e2 := HX.out.1.cell 0
        have l5 := HX.out.1.lt
        have l7 := HX.out.2.lt
        simp at e0 e1 e2
        obtain ⟨W4, hrun4, hcm4, hg4⟩ := hcm2.one fe [] HFE.out
        have hb4 := hb2.grown hg4 hb2.size (fun g e => by cases e; exact hMc)
        have hS4 : Blk W4 H5 #[.int .i64 (fe : Int), .int .i64 (sz : Int), .slice A xl c] 69 ∧ Blk W4 H7 #[.int .i64 (t2 : Int), .string PB2] 76 := ⟨hS2.1.grown hg4 (fun e => by cases e; exact hcm2.not_cells hS2.1 rfl), hS2.2.grown hg4 (fun e => by cases e; exact hcm2.not_cells hS2.2 rfl)⟩
        have hst4 := HST.out.below hb4
        have HW4 := Lib.hid (And.intro hcm4 (And.intro hst4 (And.intro hS4 hb4)))
        have HRUN := Lib.hid hrun4
        have KST1 := KST X w4.heap.size W4 hst4 hcm4
        clear hb2 hcm2 hMc hrun4 hcm4 hg4 hb4 hS4 hst4 hS2 KST
        have hmm := @run_makeMap Tryz.prog
        rcases hn2 with rfl | rfl
        case inr =>
          go_wp2_with (first
            | (refine wpList_insert rfl 102 (.tmp 32) (.tmp 34) (.const (.string ⟨#[]⟩)) rfl _ _ _ (by rfl) (by rfl) (by rfl) HRUN.out ?_)
            | (go_at_call 50; (with_reducible refine KST1.mono ?_); rintro e W5 ⟨rfl, X2, hM5, hS0, hS7⟩; have HF := Lib.hid (And.intro (hS7 (by decide)) (((Mv.of_below (S :: X) HW4.out.2.2.2).trans hM5).cons2 M)); clear hM5 hS0 hS7 KST1))
          go_ret
          refine HRP.out _ _ ?_
          unfold RemP
          rw [HR2.out]
          exact ⟨rfl, X2, HF.out.2, by first | exact HF.out.1 | exact ⟨(fun h => by cases h), fun _ => HF.out.1⟩ | exact ⟨fun _ => HF.out.1, fun h => absurd rfl h⟩⟩
        go_upto_region 10 with (first
            | (refine wpList_insert rfl 102 (.tmp 32) (.tmp 34) (.const (.string ⟨#[]⟩)) rfl _ _ _ (by rfl) (by rfl) (by rfl) HRUN.out ?_)
            | (go_at_call 50; (with_reducible refine KST1.mono ?_); rintro e W5 ⟨rfl, X2, hM5, hS0, hS7⟩; have HF5 := Lib.hid (And.intro (hS0 rfl) (((Mv.of_below (S :: X) HW4.out.2.2.2).trans hM5).cons2 M)); clear hM5 hS0 hS7 KST1))
        obtain ⟨ad5, hFM5, hEX5⟩ := HF5.out.1.map
        obtain ⟨W6, hrun6, hFM6, hg6⟩ := HDR.out ad5 W5 hFM5
        have hne6 : ∀ g, some M = some g → ∀ c fr, W5.heap[g]? ≠ some (.cells c 90 fr) := fun g e c fr hc => by cases e; exact (hFM5.not_cells hc) rfl
        have hst6 := HF5.out.1.store hg6 hFM6 ((hEX5.grown hg6 hne6).sub (fun g hg => (List.mem_filter.1 hg).1))
        have HF := Lib.hid (And.intro hst6 (HF5.out.2.trans (Mv.of_grown hg6 (by simp))))
        have x4 := HF5.out.1.blk.cell 4
        simp at x4
        have s5 := HF5.out.1.blk.lt
        clear hFM5 hEX5 hFM6 hg6 hne6 hst6 e0 e1 e2 l5 l7 hmm
        go_wp2
        go_ret
        refine HRP.out _ _ ?_
        unfold RemP
        rw [HR2.out]
        exact ⟨rfl, X2, HF.out.2, by first | exact HF.out.1 | exact ⟨fun _ => HF.out.1, fun h => absurd rfl h⟩⟩
    · unfold wpOp
      go_simp
      have hB7 := Blk.new W0 #[.int .i64 0, .string ⟨#[]⟩] 76
      have hS1 := hS0.alloc hS0.size (.cells #[.int .i64 0, .string ⟨#[]⟩] 76)
      have hge : W1.heap.size ≤ W0.heap.size := hS0.size
      obtain ⟨H7, hH7⟩ : ∃ q, W0.heap.size = q := ⟨_, rfl⟩
      rw [hH7] at hB7 hge
      obtain ⟨w2, hw2⟩ : ∃ q, W0.alloc (.cells #[.int .i64 0, .string ⟨#[]⟩] 76) = q := ⟨_, rfl⟩
      rw [hw2] at hB7 hS1 ⊢
      try rw [hH7]
      clear hw2 hH7 hS0
      first | refine .inl ⟨hS1, ?_⟩ | refine ⟨hS1, ?_⟩
      have hB70 := hB7
      clear hB7
      refine wpAnyH_all (rs := [6]) (by kernel_rfl) (by simp) ?_
      intro i hi
      simp only [List.mem_cons, List.not_mem_nil, or_false] at hi
      subst hi
      unfold wpOp
      go_simp
      refine .inl ?_
      go_at_call 41
      refine (HKG.out w2 (HLA1.out.below (Nat.le_refl _) hS1)).mono ?_
      rintro e w3 ⟨rfl, hb3⟩
      have hS3 := hS1.trans (hb3.mono hS1.size)
      have hB7 := hB70.below hb3
      refine ⟨hS3, ?_⟩
      try go_simp
      clear hS1 hb3 hB70
      refine wpAnyH_take (i := 7) (v := .tuple #[.agg #[.int .i64 tn, .string PBn], .int .i64 en]) rfl (by kernel_rfl) (by kernel_rfl) (by kernel_rfl) (fun c a w h => h) (.inl ⟨by kernel_rfl, fun w' hS => ?_⟩) hS3 ?_
      · clear hS; go_simp
      try go_simp
      refine wpAnyH_take (i := 8) (v := .agg #[.int .i64 tn, .string PBn]) rfl (by kernel_rfl) (by kernel_rfl) (by kernel_rfl) (fun c a w h => h) (.inl ⟨by kernel_rfl, fun w' hS => ?_⟩) hS3 ?_
      · clear hS; go_simp
      try go_simp
      refine wpAnyH_take (i := 9) (v := .int .i64 en) rfl (by kernel_rfl) (by kernel_rfl) (by kernel_rfl) (fun c a w h => h) (.inl ⟨by kernel_rfl, fun w' hS => ?_⟩) hS3 ?_
      · clear hS; go_simp
      try go_simp
      -- from: w3; hB7 : Blk w3 H7 #[0, ""] 76; hS3 : Below W1.heap.size W1 w3; hge : W1.heap.size ≤ H7
      have c0 := hB7.cell 0
      have c1 := hB7.cell 1
      have f0 := hB7.frozen 0
      have f1 := hB7.frozen 1
      simp at c0 c1
      have l7 := hB7.lt
      refine wpAnyH_all (rs := [11]) (by kernel_rfl) (by simp) ?_
      intro i hi
      simp only [List.mem_cons, List.not_mem_nil, or_false] at hi
      subst hi
      unfold wpOp
      go_simp
      have hB74 := (hB7.set 0 (.int .i64 tn)).set 1 (.string PBn)
      have hS4 := below_set (below_set hS3 H7 0 (.int .i64 tn) hge) H7 1 (.string PBn) hge
      obtain ⟨w4, hw4⟩ : ∃ q, (w3.setCell ⟨H7, 0, none⟩ (.int .i64 tn)).setCell ⟨H7, 1, none⟩ (.string PBn) = q := ⟨_, rfl⟩
      rw [hw4] at hB74 hS4 ⊢
      clear hw4 hB7 hS3 c0 c1 f0 f1 l7
      first | refine .inl ⟨hS4, ?_⟩ | refine ⟨hS4, ?_⟩
      refine wpAnyH_all (rs := [12]) (by kernel_rfl) (by simp) ?_
      intro i hi
      simp only [List.mem_cons, List.not_mem_nil, or_false] at hi
      subst hi
      unfold wpOp
      go_simp
      first | refine .inl ⟨hS4, ?_⟩ | refine ⟨hS4, ?_⟩ | refine .inl ?_ | skip
      refine wpAnyH_done (by kernel_rfl) ?_ _
      have HB7 := Lib.hid hB74
      have HS4 := Lib.hid hS4
      have HGE := Lib.hid hge
      clear hB74 hS4 hge
      cases htn : turnS false m.T f.ext with
      | none =>
        have hq := HRF.out
        rw [htn] at hq
        unfold turnV at hq
        simp only [Value.tuple.injEq, Array.mk.injEq, List.cons.injEq, Value.agg.injEq, Value.int.injEq, Value.string.injEq, true_and, and_true] at hq
        obtain ⟨⟨rfl, rfl⟩, rfl⟩ := hq
        have HE : P = (14, none) := by rw [← HP.out, HPR.out, htn]
        subst HE
        clear htn
        go_wp2
        go_ret
        have hbF := HBW.out.trans (HS4.out.mono HBW.out.size)
        exact ⟨fun _ => ⟨rfl, hbF, HST.out.below hbF⟩, fun T2 f h => by cases h⟩
      | some T2 =>
        have hq := HRF.out
        rw [htn] at hq
        unfold turnV spv at hq
        simp only [Value.tuple.injEq, Array.mk.injEq, List.cons.injEq, Value.agg.injEq, Value.int.injEq, Value.string.injEq, true_and, and_true] at hq
        obtain ⟨⟨rfl, rfl⟩, rfl⟩ := hq
        have HE : P = (0, some (T2, f)) := by rw [← HP.out, HPR.out, htn]
        subst HE
        have hT2 := turnS_len _ _ _ _ htn
        have KST := fun (X1 : List Nat) (Mc : Nat) (w1 : World) hs1 hC => HKST.out X1 Mc T2 hT2 w1 hs1 hC
        unfold SetP spv at KST
        have HRP := Lib.hid (show ∀ e w', RemP X S D Lg M m T2 (delF m.F name) [(fe, [])] w e w' → RemoveP X S D Lg M m (0, some (T2, f)) w e w' from fun e w' hr => ⟨fun h => by (cases h), fun T3 f3 h => by
          cases h
          rw [HFN.out, HFEQ.out]; exact hr⟩)
        obtain ⟨t2, ht2⟩ : ∃ q, T2.length = q := ⟨_, rfl⟩
        obtain ⟨PB2, hPB2⟩ : ∃ q, mk (packB T2) = q := ⟨_, rfl⟩
        simp only [ht2, hPB2] at KST
        rw [ht2, hPB2] at HB7
        have hn2 := run_num (settleC m.most T2 [(fe, [])]) m.ds
        obtain ⟨r2, hr2⟩ : ∃ q, DS.run (settleC m.most T2 [(fe, [])]) m.ds = q := ⟨_, rfl⟩
        have HR2 := Lib.hid hr2
        rw [hr2] at hn2
        simp only [hr2] at KST
        obtain ⟨n2, d2⟩ := r2
        dsimp only at hn2 KST
        clear htn hT2 hr2 hPB2 ht2
        have hb4 := HBW.out.trans (HS4.out.mono HBW.out.size)
        have HB4 := Lib.hid hb4
        have hX : Blk w4 H5 #[.int .i64 (fe : Int), .int .i64 (sz : Int), .slice A xl c] 69 ∧ Blk w4 H7 #[.int .i64 (t2 : Int), .string PB2] 76 := ⟨HB5.out.below HS4.out, HB7.out⟩
        have HX := Lib.hid hX
        have HORD := Lib.hid (show (∀ x ∈ S :: M :: X, x ≠ H5 ∧ x ≠ H7) from fun x hx => by
          have q1 := HSLT.out x hx
          have q2 := HH5.out
          have q3 := HGE.out
          have q4 := HBW.out.size
          omega)
        clear hb4 hX
        have hb2 := HB4.out.alloc HB4.out.size (.map #[] 0)
        have hS2 : Blk (w4.alloc (.map #[] 0)) H5 #[.int .i64 (fe : Int), .int .i64 (sz : Int), .slice A xl c] 69 ∧ Blk (w4.alloc (.map #[] 0)) H7 #[.int .i64 (t2 : Int), .string PB2] 76 := ⟨HX.out.1.alloc _, HX.out.2.alloc _⟩
        have hcm2 := CM.made w4
        have hMc : w.heap.size ≤ w4.heap.size := HB4.out.size
        have e0 := HX.out.2.cell 0
        have e1 := HX.out.2.cell 1
        have e2 := HX.out.1.cell 0
        have l5 := HX.out.1.lt
        have l7 := HX.out.2.lt
        simp at e0 e1 e2
        obtain ⟨W4, hrun4, hcm4, hg4⟩ := hcm2.one fe [] HFE.out
        have hb4 := hb2.grown hg4 hb2.size (fun g e => by cases e; exact hMc)
        have hS4 : Blk W4 H5 #[.int .i64 (fe : Int), .int .i64 (sz : Int), .slice A xl c] 69 ∧ Blk W4 H7 #[.int .i64 (t2 : Int), .string PB2] 76 := ⟨hS2.1.grown hg4 (fun e => by cases e; exact hcm2.not_cells hS2.1 rfl), hS2.2.grown hg4 (fun e => by cases e; exact hcm2.not_cells hS2.2 rfl)⟩
        have hst4 := HST.out.below hb4
        have HW4 := Lib.hid (And.intro hcm4 (And.intro hst4 (And.intro hS4 hb4)))
        have HRUN := Lib.hid hrun4
        have KST1 := KST X w4.heap.size W4 hst4 hcm4
        clear hb2 hcm2 hMc hrun4 hcm4 hg4 hb4 hS4 hst4 hS2 KST
        have hmm := @run_makeMap Tryz.prog
        rcases hn2 with rfl | rfl
        case inr =>
          go_wp2_with (first
            | (refine wpList_insert rfl 102 (.tmp 32) (.tmp 34) (.const (.string ⟨#[]⟩)) rfl _ _ _ (by rfl) (by rfl) (by rfl) HRUN.out ?_)
            | (go_at_call 50; (with_reducible refine KST1.mono ?_); rintro e W5 ⟨rfl, X2, hM5, hS0, hS7⟩; have HF := Lib.hid (And.intro (hS7 (by decide)) (((Mv.of_below (S :: X) HW4.out.2.2.2).trans hM5).cons2 M)); clear hM5 hS0 hS7 KST1))
          go_ret
          refine HRP.out _ _ ?_
          unfold RemP
          rw [HR2.out]
          exact ⟨rfl, X2, HF.out.2, by first | exact HF.out.1 | exact ⟨(fun h => by cases h), fun _ => HF.out.1⟩ | exact ⟨fun _ => HF.out.1, fun h => absurd rfl h⟩⟩
        go_upto_region 10 with (first
            | (refine wpList_insert rfl 102 (.tmp 32) (.tmp 34) (.const (.string ⟨#[]⟩)) rfl _ _ _ (by rfl) (by rfl) (by rfl) HRUN.out ?_)
            | (go_at_call 50; (with_reducible refine KST1.mono ?_); rintro e W5 ⟨rfl, X2, hM5, hS0, hS7⟩; have HF5 := Lib.hid (And.intro (hS0 rfl) (((Mv.of_below (S :: X) HW4.out.2.2.2).trans hM5).cons2 M)); clear hM5 hS0 hS7 KST1))
        obtain ⟨ad5, hFM5, hEX5⟩ := HF5.out.1.map
        obtain ⟨W6, hrun6, hFM6, hg6⟩ := HDR.out ad5 W5 hFM5
        have hne6 : ∀ g, some M = some g → ∀ c fr, W5.heap[g]? ≠ some (.cells c 90 fr) := fun g e c fr hc => by cases e; exact (hFM5.not_cells hc) rfl
        have hst6 := HF5.out.1.store hg6 hFM6 ((hEX5.grown hg6 hne6).sub (fun g hg => (List.mem_filter.1 hg).1))
        have HF := Lib.hid (And.intro hst6 (HF5.out.2.trans (Mv.of_grown hg6 (by simp))))
        have x4 := HF5.out.1.blk.cell 4
        simp at x4
        have s5 := HF5.out.1.blk.lt
        clear hFM5 hEX5 hFM6 hg6 hne6 hst6 e0 e1 e2 l5 l7 hmm
        go_wp2
        go_ret
        refine HRP.out _ _ ?_
        unfold RemP
        rw [HR2.out]
        exact ⟨rfl, X2, HF.out.2, by first | exact HF.out.1 | exact ⟨fun _ => HF.out.1, fun h => absurd rfl h⟩⟩
end Go.Proofs.YtcmcdddnckcpcaaGreatDoor
/- file.Format of a disk whose power is on, walked. -/
namespace Go.Proofs.YtcmcdddnckcpcaaGreatDoor
open Go.RowKit Go.Maps
/-- What Format writes. -/
def fmtX (n f : Nat) : List (Nat × Bs) := (List.range (f + 3)).map fun i => (i, if i = 0 then headB n f else [])
def fulls (l : List (Nat × Bs)) : List (Nat × Bs) := l.map fun c => (c.1, fullB c.2)
theorem write_on (L : List Bs) (S : List (Nat × Bs)) (i : Nat) (b : Bs) : DS.write ⟨L, S, none, false⟩ i b = (0, ⟨L, S ++ [(i, fullB b)], none, false⟩) := rfl
theorem sync_on (L : List Bs) (S : List (Nat × Bs)) : DS.sync ⟨L, S, none, false⟩ = (0, ⟨overlay L S, [], none, false⟩) := rfl
set_option maxRecDepth 100000 in
set_option maxHeartbeats 4000000 in
theorem format_ok (X : List Nat) (D : Nat) (L : List Bs) (f : Nat) (w : World) (h : Dsk w X D ⟨L, [], none, false⟩) (h1 : 1 ≤ f) (h2 : f ≤ 256) (h3 : f + 8 ≤ L.length) :
    Calls Tryz.prog 23 #[.pointer (some ⟨D, 0, none⟩), .int .i64 f] w fun e w' => e = .returned (.int .i64 0) ∧ ∃ X', Dsk w' X' D ⟨overlay L (fulls (fmtX L.length f)), [], none, false⟩ ∧ Mv X X' w w' := by
  have hsm : L.length ≤ 4096 := h.good.small
  have KZ := fun (S : List (Nat × Bs)) (X1 : List Nat) (w1 : World) (hd : Dsk w1 X1 D ⟨L, S, none, false⟩) => size_any X1 D _ w1 hd
  have KA := fun w1 => dataAt_any f w1 (by omega)
  have KH := fun w1 => head_any L.length f w1 (by omega) (by omega)
  have KW := fun (S : List (Nat × Bs)) (X1 : List Nat) (i : Nat) (b : Bs) (w1 : World) (hd : Dsk w1 X1 D ⟨L, S, none, false⟩) (hi : i < L.length) (hb : b.length ≤ 512) (hS : S.length ≤ 1000000) => write_any X1 D ⟨L, S, none, false⟩ i b w1 hd hi hb hS
  have KS := fun (S : List (Nat × Bs)) (X1 : List Nat) (w1 : World) (hd : Dsk w1 X1 D ⟨L, S, none, false⟩) => sync_any X1 D _ w1 hd
  simp only [write_on, sync_on] at KW KS
  dsimp only at KZ
  have hsnoc : ∀ k, k < f + 3 → fulls ((fmtX L.length f).take (k + 1)) = fulls ((fmtX L.length f).take k) ++ [(k, fullB (if k = 0 then headB L.length f else []))] := by
    intro k hk
    have hk2 : k < (fmtX L.length f).length := by simp [fmtX]; exact hk
    rw [List.take_succ_eq_append_getElem hk2]
    simp [fulls, fmtX]
  have hlen : ∀ k, (fulls ((fmtX L.length f).take k)).length ≤ 300 := by
    intro k; simp [fulls, fmtX]; omega
  have hall : (fmtX L.length f).take (f + 3) = fmtX L.length f := List.take_of_length_le (by simp [fmtX])
  have hhl : (headB L.length f).length ≤ 512 := by unfold headB; rw [full_length _ (by simp [twoB])]; exact Nat.le_refl _
  obtain ⟨HB, hHB⟩ : ∃ q, headB L.length f = q := ⟨_, rfl⟩
  rw [hHB] at KH hsnoc hhl
  obtain ⟨FX, hFX⟩ : ∃ q, fmtX L.length f = q := ⟨_, rfl⟩
  rw [hFX] at hsnoc hlen hall ⊢
  obtain ⟨n, hn⟩ : ∃ q, L.length = q := ⟨_, rfl⟩
  rw [hn] at h3 hsm
  simp only [hn] at KZ KW KH
  obtain ⟨HS, hHS⟩ : ∃ q, mk HB = q := ⟨_, rfl⟩
  rw [hHS] at KH
  have HHS := Lib.hid hHS
  have HSN := Lib.hid hsnoc
  have HLEN := Lib.hid hlen
  have HALL := Lib.hid hall
  have HHL := Lib.hid hhl
  have HD := Lib.hid h
  have KZ0 := KZ [] X w h
  have f1 : ¬ ((f : Int) < 1) := by omega
  have f2 : ¬ ((256 : Int) < (f : Int)) := by omega
  have f3 : ¬ ((n : Int) < (f : Int) + 7 + 1) := by omega
  clear h hsnoc hlen hall hhl hHB hFX hHS hn
  go_enter Tryz.func23, Tryz.ntmps23
  go_upto_region 3 with (first
    | (go_at_call 53; refine KZ0.mono ?_; rintro e w1 ⟨rfl, hw⟩; obtain rfl := hw.symm)
    | (go_at_call 54; refine (KA _).mono ?_; rintro e w1 ⟨rfl, hw⟩; obtain rfl := hw.symm))
  go_wp2
  have HKW := Lib.hid KW
  have HKS := Lib.hid KS
  have HKZ := Lib.hid KZ
  clear KW KS KZ KZ0 f1 f2 f3
  go_loopw [29] (fun i wr => ∃ k : Nat, k ≤ f + 3 ∧ i = .int .i64 k ∧ ∃ X', Dsk wr X' D ⟨L, fulls (FX.take k), none, false⟩ ∧ Mv X X' w wr) (fun i _ => f + 3 - (intOf i).toNat)
  case atStart => exact ⟨0, Nat.zero_le _, rfl, X, HD.out, Mv.refl _ _⟩
  case round =>
    obtain ⟨k, hk, rfl, X1, hD1, hM1⟩ := hrel
    by_cases hlt : k < f + 3
    · have hsn := HSN.out k hlt
      have hle := HLEN.out k
      obtain ⟨FK, hFK⟩ : ∃ q, fulls (FX.take k) = q := ⟨_, rfl⟩
      rw [hFK] at hD1 hsn hle
      have KZ1 := HKZ.out FK X1 wr hD1
      have HSK := Lib.hid hsn
      have HM1 := Lib.hid hM1
      have k0 : (0 : Int) ≤ (k : Int) := by omega
      have k1 : (k : Int) < 2 + (f : Int) + 1 := by omega
      cases k with
      | zero =>
        have KW1 := fun (w1 : World) (hb : Below wr.heap.size wr w1) => HKW.out FK X1 0 HB w1 (hD1.below hb) (by omega) HHL.out (by omega)
        rw [HHS.out] at KW1
        have HKW1 := Lib.hid KW1
        clear hsn hle hFK hD1 hM1 KW1
        go_wp2_with (first
          | (go_at_call 53; refine KZ1.mono ?_; rintro e w1 ⟨rfl, hw⟩; obtain rfl := hw.symm)
          | (go_at_call 55; refine (KH _).mono ?_; rintro e w2 ⟨rfl, hb2⟩; have KW2 := HKW1.out w2 hb2; have HB2 := Lib.hid hb2; clear hb2 KH)
          | (go_at_call 56; refine KW2.mono ?_; rintro e w3 ⟨rfl, X2, hd3, hm3⟩; have HW := Lib.hid (And.intro hd3 hm3); clear hd3 hm3 KW2))
        go_roundw
        case rel =>
          refine ⟨0 + 1, by omega, by go_num, X2, ?_, HM1.out.trans ((Mv.of_below X1 HB2.out).trans HW.out.2)⟩
          have := HW.out.1
          have hs := HSK.out
          simp only [if_true] at hs
          rw [hs]
          exact this
        case measure => simp [intOf]
      | succ k =>
        have KW1 := HKW.out FK X1 (k + 1) [] wr hD1 (by omega) (by simp) (by omega)
        have k2 : ¬ ((k : Int) + 1 = 0) := by omega
        have k3 : (((k : Int) + 1) == 0) = false := by simp [k2]
        clear hsn hle hFK hD1 hM1 KZ1
        go_wp2_with (first
          | (go_at_call 56; refine KW1.mono ?_; rintro e w3 ⟨rfl, X2, hd3, hm3⟩; have HW := Lib.hid (And.intro hd3 hm3); clear hd3 hm3 KW1))
        go_roundw
        case rel =>
          refine ⟨k + 1 + 1, by omega, by go_num, X2, ?_, HM1.out.trans HW.out.2⟩
          have := HW.out.1
          have hs := HSK.out
          rw [if_neg (by omega)] at hs
          rw [hs]
          exact this
        case measure => simp [intOf]; omega
    · obtain rfl : k = f + 3 := by omega
      rw [HALL.out] at hD1
      have KS1 := HKS.out _ X1 wr hD1
      have HM1 := Lib.hid hM1
      clear hD1 hM1
      go_wp2_with (first
        | (go_at_call 57; refine KS1.mono ?_; rintro e w3 ⟨rfl, hd3, hm3⟩; have HW := Lib.hid (And.intro hd3 hm3); clear hd3 hm3 KS1))
      go_ret
      exact ⟨rfl, X1, HW.out.1, HM1.out.trans (Mv.of_frm HW.out.2)⟩
end Go.Proofs.YtcmcdddnckcpcaaGreatDoor
/- file.learn where no file is, walked. -/
namespace Go.Proofs.YtcmcdddnckcpcaaGreatDoor
open Go.RowKit Go.Maps
theorem fullB_take (s : Bs) : (fullB s).take s.length = s := by simp [fullB]
theorem fullB_nil : fullB [] = zeroS := rfl
set_option maxRecDepth 100000 in
set_option maxHeartbeats 4000000 in
theorem learn0_any (X : List Nat) (S D Lg M : Nat) (ds : DS) (most u : Nat) (w : World) (h : Sto w X S D Lg M ⟨ds, [], [], most, false⟩) (ho : ds.off = false) (hm : 1 ≤ most ∧ most ≤ 256) (hu : u + most + 7 = ds.L.length) (hu1 : 1 ≤ u) (hu2 : u ≤ 4000)
    (h1 : secAt ds.vis 1 = fullB (packB (List.replicate u false))) (h2 : ∀ i, i < most → secAt ds.vis (2 + i) = zeroS) :
    Calls Tryz.prog 59 #[.pointer (some ⟨S, 0, none⟩)] w fun e w' => e = .returned (.int .i64 0) ∧ Sto w' X S D Lg M ⟨ds, [], List.replicate u false, most, false⟩ ∧ Mv (S :: X) (S :: X) w w' := by
  obtain ⟨T, hT⟩ : ∃ q, List.replicate u false = q := ⟨_, rfl⟩
  have hTl : T.length = u := by rw [← hT]; simp
  rw [hT] at h1 ⊢
  have KZ := fun (w1 : World) (hw : Below w.heap.size w w1) => size_any X D ds w1 (h.dsk.below hw)
  have KA := fun w1 => dataAt_any most w1 (by omega)
  have KR1 := fun (w1 : World) (hw : Below w.heap.size w w1) => read_any X D ds 1 w1 (h.dsk.below hw) (by omega) ho
  have hr1 : ds.vis[1]?.getD [] = fullB (packB T) := h1
  rw [hr1] at KR1
  have KPS := fun w1 => sparse_any T w1 (by omega)
  have hpl := packB_length T
  rw [hTl] at hpl
  have KPD := fun w1 => padded_any (packB T) w1 (by omega)
  have KP0 := fun w1 => padded_any [] w1 (by simp)
  rw [fullB_nil] at KP0
  have KN := fun w1 => spnew_any u w1 (by omega)
  rw [hT] at KN
  unfold spv at KN KPS
  rw [hTl] at KN KPS
  have hfl : (fullB (packB T)).length = 512 := full_length _ (by omega)
  obtain ⟨n, hn⟩ : ∃ q, (u + 7) / 8 = q := ⟨_, rfl⟩
  rw [hn] at hpl
  have zF : (mk (fullB (packB T))).size = 512 := by rw [mk_size, hfl]
  have hsl := fun (w : World) => run_slice_string_h (P := Tryz.prog) (w := w) (t := 9) (s := mk (fullB (packB T))) Tryz.underlying9 .i64 (n : Int) (by omega) (by rw [zF]; omega)
  have e1 : (mk (fullB (packB T))).extract 0 n = mk (packB T) := by
    have := ext_mk' (mk (fullB (packB T))) 0 n
    rw [Nat.zero_add, mk_data, List.drop_zero] at this
    rw [this, ← hpl, fullB_take]
  rw [Int.toNat_natCast, e1] at hsl
  have hdiv : ((u : Int) + 7).tdiv 8 = (n : Int) := by rw [Int.tdiv_eq_ediv_of_nonneg (by omega)]; omega
  have KR2 := fun (w1 : World) (i : Nat) (hi : i < most) (hw : Dsk w1 X D ds) => read_any X D ds (2 + i) w1 hw (by omega) ho
  have hr2 : ∀ i, i < most → ds.vis[2 + i]?.getD [] = zeroS := h2
  have HKR2 := Lib.hid (fun (w1 : World) (i : Nat) (hi : i < most) (hw : Dsk w1 X D ds) => (hr2 i hi) ▸ KR2 w1 i hi hw)
  clear KR2 hr2 hr1 h1 h2
  have hwn : wrap64 (n : Int) = (n : Int) := Go.IntWalk.wrap64_in _ (by omega)
  obtain ⟨FB, hFB⟩ : ∃ q, mk (fullB (packB T)) = q := ⟨_, rfl⟩
  obtain ⟨PB, hPB⟩ : ∃ q, mk (packB T) = q := ⟨_, rfl⟩
  obtain ⟨Z, hZ⟩ : ∃ q, mk zeroS = q := ⟨_, rfl⟩
  rw [hFB] at KR1 KPD zF
  simp only [hFB, hPB] at hsl
  rw [hPB] at KPS KPD KN
  rw [show mk [] = (⟨#[]⟩ : ByteArray) from rfl, hZ] at KP0
  rw [hZ] at HKR2
  have x0 := h.blk.cell 0
  have x5 := h.blk.cell 5
  simp at x0 x5
  have hSl := h.blk.lt
  have HST := Lib.hid h
  have HB := Lib.hid h.blk
  have HDS := Lib.hid h.dsk
  obtain ⟨N, hN⟩ : ∃ q, ds.L.length = q := ⟨_, rfl⟩
  rw [hN] at hu KZ
  have HKR1 := Lib.hid KR1
  have HKZ := Lib.hid KZ
  have hmost : (most : Int) ≤ 256 := by omega
  have hTV := Lib.hid (show mk (packB T) = PB ∧ T.length = u from ⟨hPB, hTl⟩)
  clear h ho KR1 KZ hT hTl hpl hfl hn hFB hPB hZ hN e1
  go_enter Tryz.func59, Tryz.ntmps59
  go_upto_region 1 with (fail)
  go_quiet ((first
    | (go_at_call 53; exact Calls.quiet_of_same (HKZ.out _ (bdN (Below.refl _ _) _)))
    | (go_at_call 54; exact Calls.quiet_of_same (KA _))))
  have hsub : ((N : Int) - ((most : Int) + 7)) = (u : Int) := by omega
  rw [hsub]
  have hb1 : Below w.heap.size w (w.drewN nq) := bdN (Below.refl _ _) _
  obtain ⟨W1, hW1⟩ : ∃ q, w.drewN nq = q := ⟨_, rfl⟩
  rw [hW1] at hb1
  simp only [hW1]
  have y0 := (hb1.cell (p := ⟨S, 0, none⟩) hSl).trans x0
  have KR1 := HKR1.out W1 hb1
  have HB1 := Lib.hid hb1
  have hl1 : S < W1.heap.size := Nat.lt_of_lt_of_le hSl hb1.size
  clear hsub hW1 hb1 x0 x5 hu KA
  go_upto_region 7 with (first
    | (go_at_call 33; refine KR1.mono ?_; rintro e w1 ⟨rfl, hw⟩; obtain rfl := hw.symm; clear KR1))
  have HSLI := Lib.hid hsl
  have hsl1 := hsl W1
  have KPS1 := KPS W1
  simp only [hwn]
  clear hsl KPS hdiv hwn
  go_upto_region 8 with (first
    | (go_at_call 99; refine KPS1.mono ?_; rintro e w2 ⟨rfl, hb2⟩; have hB2 := (HB.out.below HB1.out).below hb2; have d2 := hB2.cell 2; have d3 := hB2.cell 3; have q2 := hB2.frozen 2; have q3 := hB2.frozen 3; simp at d2 d3; have hl2 := hB2.lt; have HB2 := Lib.hid hb2; clear hb2 hB2 KPS1))
  have hst2 := (HST.out.below HB1.out).below HB2.out
  have hst3 : Sto ((w2.setCell ⟨S, 2, none⟩ (.int .i64 (u : Int))).setCell ⟨S, 3, none⟩ (.string PB)) X S D Lg M ⟨ds, [], T, most, false⟩ := hst2.own (grown_set2 w2 S 2 3 _ _) (T := T) (off := false) (by
    have := (hst2.blk.set 2 (.int .i64 (u : Int))).set 3 (.string PB)
    simpa [stoCells, hTV.out.1, hTV.out.2] using this)
  have hmv : Mv (S :: X) (S :: X) w ((w2.setCell ⟨S, 2, none⟩ (.int .i64 (u : Int))).setCell ⟨S, 3, none⟩ (.string PB)) := (Mv.of_below _ (HB1.out.trans (HB2.out.mono HB1.out.size))).trans (Mv.of_grown (grown_set2 w2 S 2 3 _ _) (by simp))
  obtain ⟨W3, hW3⟩ : ∃ q, (w2.setCell ⟨S, 2, none⟩ (.int .i64 (u : Int))).setCell ⟨S, 3, none⟩ (.string PB) = q := ⟨_, rfl⟩
  rw [hW3] at hst3 hmv ⊢
  have HS3 := Lib.hid (And.intro hst3 hmv)
  have hsl3 := HSLI.out W3
  have KPD3 := KPD W3
  clear hW3 hst3 hmv hst2 y0 hl1 hsl1 d2 d3 q2 q3 hl2 KPD
  go_upto_region 10 with (first
    | (go_at_call 86; refine KPD3.mono ?_; rintro e w4 ⟨rfl, hb4⟩; have HB4 := Lib.hid hb4; have KN4 := KN w4; clear hb4 KPD3))
  have hst4 := HS3.out.1.below HB4.out
  have z5 := hst4.blk.cell 5
  simp at z5
  have zl := hst4.blk.lt
  have HST4 := Lib.hid hst4
  clear hst4 hsl3 KN
  go_wp2_with (first
    | (go_at_call 100; refine KN4.mono ?_; rintro e w5 ⟨rfl, hb5⟩; have hst5 := HST4.out.below hb5; have z5' := hst5.blk.cell 5; simp at z5'; have zl' := hst5.blk.lt; have HB5 := Lib.hid hb5; have HST5 := Lib.hid hst5; clear hb5 hst5 KN4))
  have hB8 := Blk.new w5 #[.int .i64 (u : Int), .string PB] 76
  have hst6 := HST5.out.below (below_alloc w5 (.cells #[.int .i64 (u : Int), .string PB] 76))
  have hmv6 := (HS3.out.2.below (HB4.out.trans (HB5.out.mono HB4.out.size))).below (below_alloc w5 (.cells #[.int .i64 (u : Int), .string PB] 76))
  have hSH : S < w5.heap.size := HST5.out.blk.lt
  obtain ⟨H8, hH8⟩ : ∃ q, w5.heap.size = q := ⟨_, rfl⟩
  rw [hH8] at hB8 hSH
  obtain ⟨W6, hW6⟩ : ∃ q, w5.alloc (.cells #[.int .i64 (u : Int), .string PB] 76) = q := ⟨_, rfl⟩
  simp only [hW6] at hB8 hst6 hmv6 ⊢
  try simp only [hH8]
  have HS6 := Lib.hid (And.intro hst6 (And.intro hmv6 hB8))
  have HSH := Lib.hid hSH
  clear hB8 hst6 hmv6 hSH hH8 hW6 z5 zl z5' zl'
  go_loopw [73] (fun i wr => ∃ k : Nat, k ≤ most ∧ i = .int .i64 k ∧ Sto wr X S D Lg M ⟨ds, [], T, most, false⟩ ∧ Mv (S :: X) (S :: X) w wr ∧ Blk wr H8 #[.int .i64 (u : Int), .string PB] 76) (fun i _ => most - (intOf i).toNat)
  case atStart => exact ⟨0, Nat.zero_le _, rfl, HS6.out⟩
  case round =>
    obtain ⟨k, hk, rfl, hst, hmv, hB8⟩ := hrel
    by_cases hlt : k < most
    · have KR := HKR2.out wr k hlt hst.dsk
      rw [show ((2 + k : Nat) : Int) = 2 + (k : Int) by push_cast; rfl] at KR
      have x0 := hst.blk.cell 0
      simp at x0
      have HH := Lib.hid (And.intro hst (And.intro hmv hB8))
      have KP := KP0 wr
      have k0 : (0 : Int) ≤ (k : Int) := by omega
      have k1 : (k : Int) < (most : Int) := by omega
      clear hst hmv hB8
      go_wp2_with (first
        | (go_at_call 33; refine KR.mono ?_; rintro e w1 ⟨rfl, hw⟩; obtain rfl := hw.symm; clear KR)
        | (go_at_call 86; refine KP.mono ?_; rintro e w7 ⟨rfl, hb7⟩; have HB7 := Lib.hid hb7; clear KP hb7))
      go_roundw
      case rel => exact ⟨k + 1, by omega, by go_num, HH.out.1.below HB7.out, HH.out.2.1.below HB7.out, HH.out.2.2.below HB7.out⟩
      case measure => simp [intOf]; omega
    · obtain rfl : k = most := by omega
      have y2 := hst.blk.cell 2
      have y3 := hst.blk.cell 3
      simp only [stoCells, hTV.out.1, hTV.out.2] at y2 y3
      have e0 := hB8.cell 0
      have e1 := hB8.cell 1
      simp at y2 y3 e0 e1
      have HH := Lib.hid (And.intro hst hmv)
      clear hst hmv hB8
      go_upto_region 28 with (fail)
      go_quiet (fail)
      go_wp2
      go_ret
      exact ⟨rfl, HH.out.1.below (bdN (Below.refl _ _) _), HH.out.2.below (bdN (Below.refl _ _) _)⟩
end Go.Proofs.YtcmcdddnckcpcaaGreatDoor
/- file.Mount of a store without files, walked. -/
namespace Go.Proofs.YtcmcdddnckcpcaaGreatDoor
open Go.RowKit Go.Maps
/-- A new block is written, too. -/
theorem Mv.hide {X X' : List Nat} {S : Nat} {w w4 w5 : World} (h : Mv X X' w w4) (k : Mv (S :: X') (S :: X') w4 w5) (hS : w.heap.size ≤ S) : Mv X X' w w5 := by
  refine ⟨⟨k.frm.os.trans h.frm.os, k.frm.tape.trans h.frm.tape, k.frm.output.trans h.frm.output, Nat.le_trans h.size k.size, fun b hb hx => ?_⟩, h.sub⟩
  refine (k.frm.block b (Nat.lt_of_lt_of_le hb h.size) (fun hm => ?_)).trans (h.frm.block b hb hx)
  rcases List.mem_cons.1 hm with rfl | hm
  · omega
  · exact h.apart hx hb hm
theorem head_bytes (n f : Nat) (hf : f ≤ 256) : byteAt (headB n f) 4 * 256 + byteAt (headB n f) 5 = f := by
  have h4 : byteAt (headB n f) 4 = (UInt8.ofNat (f / 256)).toNat := rfl
  have h5 : byteAt (headB n f) 5 = (UInt8.ofNat f).toNat := rfl
  rw [h4, h5]
  simp
  omega
theorem headB_len (n f : Nat) : (headB n f).length = 512 := by unfold headB; exact full_length _ (by simp [twoB])
set_option maxRecDepth 100000 in
set_option maxHeartbeats 4000000 in
theorem mount0_any (X : List Nat) (D : Nat) (ds : DS) (most u : Nat) (w : World) (h : Dsk w X D ds) (ho : ds.off = false) (hm : 1 ≤ most ∧ most ≤ 256) (hu : u + most + 7 = ds.L.length) (hu1 : 1 ≤ u) (hu2 : u ≤ 4000)
    (h0 : secAt ds.vis 0 = headB ds.L.length most) (h1 : secAt ds.vis 1 = fullB (packB (List.replicate u false))) (h2 : ∀ i, i < most → secAt ds.vis (2 + i) = zeroS) (hlog : saidB ds.vis (2 + most) 5 = [])
    (hS : ds.S.length ≤ 990000) (hT : TB w) (hw : 0 < w.heap.size) (hX0 : 0 ∉ X) :
    Calls Tryz.prog 24 #[.pointer (some ⟨D, 0, none⟩)] w fun e w' => ∃ X' S Lg M, e = .returned (.tuple #[.pointer (some ⟨S, 0, none⟩), .int .i64 0]) ∧ Sto w' X' S D Lg M ⟨ds, [], List.replicate u false, most, false⟩ ∧ Mv X X' w w' ∧ w.heap.size ≤ S ∧ w.heap.size ≤ M := by
  have KR1 := read_any X D ds 0 w h (by omega) ho
  have hr1 : ds.vis[0]?.getD [] = headB ds.L.length most := h0
  rw [hr1] at KR1
  have KZ := fun (w1 : World) (hw : Below w.heap.size w w1) => size_any X D ds w1 (h.below hw)
  have KA := fun w1 => dataAt_any most w1 (by omega)
  have KH := fun w1 => head_any ds.L.length most w1 (by have := h.good.small; omega) (by omega)
  have KO := fun (w1 : World) (hb : Below w.heap.size w w1) => open_any X D ds (2 + most) 5 w1 (h.below hb) (by omega) (by omega) (by omega) ho hS (hT.below hw hb) (Nat.lt_of_lt_of_le hw hb.size)
  unfold OpenP at KO
  rw [hlog] at KO
  simp only [show openC [] (2 + most) = [] from rfl, show DS.run [] ds = (0, ds) from rfl] at KO
  have KL := fun (X1 : List Nat) (S Lg M : Nat) (w1 : World) (hs : Sto w1 X1 S D Lg M ⟨ds, [], [], most, false⟩) => learn0_any X1 S D Lg M ds most u w1 hs ho hm hu hu1 hu2 h1 h2
  have hHl := headB_len ds.L.length most
  have hhb := head_bytes ds.L.length most hm.2
  obtain ⟨hd, hhd⟩ : ∃ q, headB ds.L.length most = q := ⟨_, rfl⟩
  rw [hhd] at KR1 hHl hhb
  simp only [hhd] at KH
  obtain ⟨HS, hHS⟩ : ∃ q, mk hd = q := ⟨_, rfl⟩
  rw [hHS] at KR1
  simp only [hHS] at KH
  obtain ⟨ja, jb⟩ := at_mkH hd HS hHS 4 (by omega)
  obtain ⟨jc, jd⟩ := at_mkH hd HS hHS 5 (by omega)
  have zH : HS.size = 512 := by rw [← hHS, mk_size, hHl]
  have q1 : byteAt hd 4 < 256 := byteAt_lt _ _
  have q2 : byteAt hd 5 < 256 := byteAt_lt _ _
  obtain ⟨a1, ha1⟩ : ∃ q, byteAt hd 4 = q := ⟨_, rfl⟩
  obtain ⟨a2, ha2⟩ : ∃ q, byteAt hd 5 = q := ⟨_, rfl⟩
  rw [ha1] at jb hhb q1
  rw [ha2] at jd hhb q2
  have q3 : (0 : Int) ≤ (a1 : Int) ∧ (a1 : Int) < 256 := by omega
  have q4 : (0 : Int) ≤ (a2 : Int) ∧ (a2 : Int) < 256 := by omega
  obtain ⟨N, hN⟩ : ∃ q, ds.L.length = q := ⟨_, rfl⟩
  have hu' := hu
  rw [hN] at hu'
  have m1 : ¬ ((most : Int) < 1) := by omega
  have m2 : ¬ ((256 : Int) < (most : Int)) := by omega
  have m3 : ¬ ((N : Int) < (most : Int) + 7 + 1) := by omega
  have hor := or_i64 a1 a2 (by omega) q2
  have w4 : wrap64 (a2 : Int) = (a2 : Int) := word64 q4.1 q4.2 (by decide)
  rw [w4, hhb] at hor
  have w3 : wrap64 (a1 : Int) = (a1 : Int) := word64 q3.1 q3.2 (by decide)
  have w7 : IntKind.i64.wrap (a1 : Int) = (a1 : Int) := by rw [Go.IntWalk.i64_left]; exact w3
  have w8 : IntKind.i64.wrap (a2 : Int) = (a2 : Int) := by rw [Go.IntWalk.i64_left]; exact w4
  have w5 : IntKind.i64.wrap ((a1 : Int) * 256) = (a1 : Int) * 256 := word256 q3.1 q3.2
  have HD := Lib.hid h
  have HT := Lib.hid (And.intro hT (And.intro hw hX0))
  have HLT := Lib.hid h.lt
  have HDM := Lib.hid h.mem
  simp only [hN] at KZ KH
  have HKZ := Lib.hid KZ
  have HKO := Lib.hid KO
  have HKL := Lib.hid KL
  have mixed : Tryz.prog.follows Departure.mixedOrders = true := by kernel_rfl
  clear hu' h ho hu hu1 hu2 h0 h1 h2 hlog hS hT hw hX0 hr1 KZ KO KL hHl hhd hHS ha1 ha2 hhb hN
  go_enter Tryz.func24, Tryz.ntmps24
  go_upto_region 6 with (first | (go_at_call 33; refine KR1.mono ?_; rintro e w1 ⟨rfl, hw⟩; obtain rfl := hw.symm; clear KR1))
  refine wp_region_held (S := fun _ => True) mixed ?_
  change wpAnyH _ _ _ _ _ _ _ _ w.drew
  have hb0 : Below w.heap.size w w.drew := (Below.refl _ _).drew
  obtain ⟨W0, hW0⟩ : ∃ q, w.drew = q := ⟨_, rfl⟩
  rw [hW0] at hb0 ⊢
  clear hW0
  refine wpAnyH_take (i := 0) (v := .string HS) rfl (by kernel_rfl) (by kernel_rfl) (by kernel_rfl) (fun c a w h => h) (.inl ⟨by kernel_rfl, fun w' hS => ?_⟩) trivial ?_
  · clear hS; go_simp
  try go_simp
  refine wpAnyH_take (i := 1) (v := .int .u8 (a1 : Int)) rfl (by kernel_rfl) (by kernel_rfl) (by kernel_rfl) (fun c a w h => h) (.inl ⟨by kernel_rfl, fun w' hS => ?_⟩) trivial ?_
  · clear hS; go_simp
  try go_simp
  refine wpAnyH_take (i := 2) (v := .int .i64 (a1 : Int)) rfl (by kernel_rfl) (by kernel_rfl) (by kernel_rfl) (fun c a w h => h) (.inl ⟨by kernel_rfl, fun w' hS => ?_⟩) trivial ?_
  · clear hS; go_simp
  try go_simp
  refine wpAnyH_take (i := 3) (v := .int .i64 ((a1 : Int) * 256)) rfl (by kernel_rfl) (by kernel_rfl) (by kernel_rfl) (fun c a w h => h) (.inl ⟨by kernel_rfl, fun w' hS => ?_⟩) trivial ?_
  · clear hS; go_simp
  try go_simp
  refine wpAnyH_take (i := 4) (v := .string HS) rfl (by kernel_rfl) (by kernel_rfl) (by kernel_rfl) (fun c a w h => h) (.inl ⟨by kernel_rfl, fun w' hS => ?_⟩) trivial ?_
  · clear hS; go_simp
  try go_simp
  refine wpAnyH_take (i := 5) (v := .int .u8 (a2 : Int)) rfl (by kernel_rfl) (by kernel_rfl) (by kernel_rfl) (fun c a w h => h) (.inl ⟨by kernel_rfl, fun w' hS => ?_⟩) trivial ?_
  · clear hS; go_simp
  try go_simp
  refine wpAnyH_take (i := 6) (v := .int .i64 (a2 : Int)) rfl (by kernel_rfl) (by kernel_rfl) (by kernel_rfl) (fun c a w h => h) (.inl ⟨by kernel_rfl, fun w' hS => ?_⟩) trivial ?_
  · clear hS; go_simp
  try go_simp
  refine wpAnyH_take (i := 7) (v := .int .i64 (most : Int)) rfl (by kernel_rfl) (by kernel_rfl) (by kernel_rfl) (fun c a w h => h) (.inl ⟨by kernel_rfl, fun w' hS => ?_⟩) trivial ?_
  · clear hS; go_simp
  try go_simp
  refine wpAnyH_take (i := 8) (v := .int .i64 (most : Int)) rfl (by kernel_rfl) (by kernel_rfl) (by kernel_rfl) (fun c a w h => h) (.inl ⟨by kernel_rfl, fun w' hS => ?_⟩) trivial ?_
  · clear hS; go_simp
  try go_simp
  refine wpAnyH_done (by kernel_rfl) ?_ _
  have KZ1 := HKZ.out W0 hb0
  have KH1 := KH W0
  have HB0 := Lib.hid hb0
  clear hor w3 w4 w5 w7 w8 hb0 ja jb jc jd q1 q2 q3 q4 zH KH
  go_upto_region 9 with (first
    | (go_at_call 53; refine KZ1.mono ?_; rintro e w1 ⟨rfl, hw⟩; obtain rfl := hw.symm)
    | (go_at_call 54; refine (KA _).mono ?_; rintro e w1 ⟨rfl, hw⟩; obtain rfl := hw.symm)
    | (go_at_call 55; refine KH1.mono ?_; rintro e w2 ⟨rfl, hb2⟩; have HB2 := Lib.hid (HB0.out.trans (hb2.mono HB0.out.size)); clear hb2 KH1))
  clear KZ1 KA m1 m2 m3
  have hmm := @run_makeMap Tryz.prog
  go_upto_region 10 with (fail)
  clear hmm
  have hM0 := FM.made w2 (fun _ => (none, 0))
  have hbS := Blk.new (w2.alloc (.map #[] 0)) #[.pointer (some ⟨D, 0, none⟩), .pointer none, .int .i64 0, .string ⟨#[]⟩, .map (some w2.heap.size), .int .i64 (most : Int), .bool false] 79
  have hb3 := (HB2.out.alloc HB2.out.size (.map #[] 0)).alloc (by have := HB2.out.size; simp; omega) (.cells #[.pointer (some ⟨D, 0, none⟩), .pointer none, .int .i64 0, .string ⟨#[]⟩, .map (some w2.heap.size), .int .i64 (most : Int), .bool false] 79)
  have hM1 := hM0.block (Below.heap_alloc (w2.alloc (.map #[] 0)) (.cells #[.pointer (some ⟨D, 0, none⟩), .pointer none, .int .i64 0, .string ⟨#[]⟩, .map (some w2.heap.size), .int .i64 (most : Int), .bool false] 79) w2.heap.size hM0.lt)
  rw [World.size_alloc] at hbS
  have hMge : w.heap.size ≤ w2.heap.size := HB2.out.size
  obtain ⟨W3, hW3⟩ : ∃ q, (w2.alloc (.map #[] 0)).alloc (.cells #[.pointer (some ⟨D, 0, none⟩), .pointer none, .int .i64 0, .string ⟨#[]⟩, .map (some w2.heap.size), .int .i64 (most : Int), .bool false] 79) = q := ⟨_, rfl⟩
  simp only [hW3] at hbS hb3 hM1 ⊢
  obtain ⟨M, hMe⟩ : ∃ q, w2.heap.size = q := ⟨_, rfl⟩
  rw [hMe] at hbS hM1 hMge
  try simp only [hMe]
  have KO := HKO.out W3 hb3
  rw [show ((2 + most : Nat) : Int) = 2 + (most : Int) by push_cast; rfl] at KO
  have HS3 := Lib.hid (And.intro hbS (And.intro hb3 (And.intro hM1 hMge)))
  clear hM0 hbS hb3 hM1 hMge hW3 hMe
  go_upto_region 11 with (first
    | (go_at_call 58; refine KO.mono ?_; rintro e w4 ⟨X', hd4, hm4, hok, hno⟩; obtain ⟨Lg, n4, rfl, hge, hLX, hWL⟩ := hok trivial; have hS4 := hm4.blk HS3.out.1 (fun hx => by have := HLT.out _ hx; have := HS3.out.2.2.2; omega); have y1 := hS4.cell 1; have f1 := hS4.frozen 1; simp at y1; have l4 := hS4.lt; have HW4 := Lib.hid (And.intro hd4 (And.intro hm4 (And.intro hge (And.intro hLX (And.intro hWL hS4))))); clear hd4 hm4 hok hno hge hLX hWL hS4 KO))
  have hst5 : Sto (w4.setCell ⟨M + 1, 1, none⟩ (.pointer (some ⟨Lg, 0, none⟩))) X' (M + 1) D Lg M ⟨ds, [], [], most, false⟩ := by
    obtain ⟨hd4, hm4, hge, hLX, hWL, hS4⟩ := HW4.out
    obtain ⟨hbS, hb3, hM1, hMge⟩ := HS3.out
    have hg := grown_set w4 (M + 1) 1 (.pointer (some ⟨Lg, 0, none⟩))
    have hSl := hbS.lt
    have hXn : ∀ x ∈ X, x < w.heap.size := HLT.out
    have hSX : M + 1 ∉ X := fun hx => by have := hXn _ hx; omega
    have hMX : M ∉ X := fun hx => by have := hXn _ hx; omega
    have hSX' := hm4.apart hSX hSl
    have hMX' := hm4.apart hMX hM1.lt
    have h0X' := hm4.apart HT.out.2.2 (Nat.lt_of_lt_of_le HT.out.2.1 hb3.size)
    have hfr : Frm [M + 1] w4 (w4.setCell ⟨M + 1, 1, none⟩ (.pointer (some ⟨Lg, 0, none⟩))) := ⟨hg.os, hg.tape, hg.output, hg.size, fun k hk hx => hg.block k hk (by simpa using hx)⟩
    have htb := ((HT.out.1.below HT.out.2.1 hb3).mv hm4 (Nat.lt_of_lt_of_le HT.out.2.1 hb3.size) HT.out.2.2)
    have htb5 := htb.1.mv (Mv.of_frm hfr) htb.2.1 (by simp)
    have hM4 : FM w4 M (fun _ => (none, 0)) [] := hM1.block (hm4.frm.block M hM1.lt hMX)
    refine ⟨?_, hd4.frm hfr (fun x hx e => hSX' (by simp at e; rwa [← e])), hfr.blk hWL (by simp; omega), ⟨fun _ => (none, 0), hM4.block (hg.block M hM4.lt (by simp)), fun f hf => by cases hf⟩, ⟨hSX', hLX, hMX', h0X'⟩, htb5.1, htb5.2.1⟩
    have := hS4.set 1 (.pointer (some ⟨Lg, 0, none⟩))
    have e : mk (packB []) = (⟨#[]⟩ : ByteArray) := by rw [show packB [] = [] from rfl]; rfl
    simpa [stoCells, e] using this
  have hmv5 : Mv X X' w (w4.setCell ⟨M + 1, 1, none⟩ (.pointer (some ⟨Lg, 0, none⟩))) :=
    ((Mv.of_below X HS3.out.2.1).trans HW4.out.2.1).hide (S := M + 1) (Mv.of_grown (grown_set w4 (M + 1) 1 _) (by simp)) (by have := HS3.out.2.2.2; omega)
  obtain ⟨W5, hW5⟩ : ∃ q, w4.setCell ⟨M + 1, 1, none⟩ (.pointer (some ⟨Lg, 0, none⟩)) = q := ⟨_, rfl⟩
  rw [hW5] at hst5 hmv5 ⊢
  have KL := HKL.out X' (M + 1) Lg M W5 hst5
  have HMV := Lib.hid hmv5
  have HMG := Lib.hid HS3.out.2.2.2
  clear hW5 hst5 hmv5 y1 f1 l4
  go_wp2_with (first
    | (go_at_call 59; refine KL.mono ?_; rintro e w6 ⟨rfl, hst6, hmv6⟩; have H6 := Lib.hid (And.intro hst6 hmv6); clear hst6 hmv6 KL))
  go_ret2
  have hge := HMG.out
  exact ⟨X', M + 1, Lg, M, rfl, H6.out.1, HMV.out.hide H6.out.2 (by omega), by omega, hge⟩
end Go.Proofs.YtcmcdddnckcpcaaGreatDoor
/- slices.Repeat of one text, sector.New, walked. -/
namespace Go.Proofs.YtcmcdddnckcpcaaGreatDoor
open Go.RowKit
theorem info9 : (Tryz.prog.info? 9).map (fun i => (i.zero, i.size, i.bytes)) = some (some (.string ⟨#[]⟩), 1, 16) := by kernel_rfl
theorem size42 (w : World) : (sizeOf (Tryz.prog.elem 42)).run Tryz.prog w = .ok 1 w := by
  obtain ⟨i0, hi, _, h1, _⟩ := info_parts info9
  rw [show Tryz.prog.elem 42 = 9 by kernel_rfl]
  simp [sizeOf, typeInfo, hi, h1]
theorem cut42 (A : Option Addr) (n cap lo : Nat) (w : World) (h : lo < n) (hc : n ≤ cap) : (Instr.slice 42 (.slice A n cap) (some (.int .i64 (lo : Int))) none none).run Tryz.prog w = .ok (.slice (A.map (·.add lo)) (n - lo) (cap - lo)) w := by
  rw [run_slice_l (P := Tryz.prog) w 42 A n cap (by kernel_rfl) .i64 lo (by omega) (by omega), size42]
  simp [Result.andThen, sliced]
  intro e; omega
theorem cut42h (A : Option Addr) (n cap hi : Nat) (w : World) (h0 : 0 < hi) (hc : hi ≤ cap) : (Instr.slice 42 (.slice A n cap) none (some (.int .i64 (hi : Int))) none).run Tryz.prog w = .ok (.slice A hi cap) w := by
  rw [run_slice_h (P := Tryz.prog) w 42 A n cap (by kernel_rfl) .i64 hi (by omega) (by omega), size42]
  cases A <;> simp [Result.andThen, sliced]
  all_goals (try (intro _; rfl))
theorem wp_copy_splice {P : Program} {o : Oper} {a : Act} {w : World} {K : Act → World → Prop} {Q : Exit → Act → World → Prop} (hgd : o.guard = none) (d s : Operand) (dT sT : TypeId)
    (ho : o.op = .call { callee := .builtin .copy, args := #[d, s], argTypes := #[dT, sT] }) (elem : TypeId) (hu : P.underlying dT = some (.slice elem)) (hsz : (P.info? elem).map (·.size) = some 1)
    (dp sp : Option Addr) (dLen dCap sLen sCap : Nat) (hd : a.eval d = .slice dp dLen dCap) (hs : a.eval s = .slice sp sLen sCap)
    (g off : Nat) (cur : List Value) (t : TypeId) (hg : w.heap[g]? = some (.cells cur.toArray t (0, 0))) (cs : List Value) (hn : cs.length = Nat.min sLen dLen)
    (hpos : 0 < cs.length → dp = some ⟨g, off, none⟩ ∧ ∃ ad, sp = some ad ∧ ∀ j v, cs[j]? = some v → w.cell? (ad.add j) = some v)
    (hfit : off + cs.length ≤ cur.length) (h1 : ∀ v ∈ cs, v.oneCell' = true) (B : Nat) (w0 : World) (hb : RowKit.Below B w0 w) (hBg : B ≤ g)
    (h : ∀ w', RowKit.Hid (w'.heap[g]? = some (.cells (splice cur off cs).toArray t (0, 0))) → RowKit.Below B w0 w' → K (a.put o.dst (goInt cs.length)) w') : Oper.wp P o a w K Q := by
  have h2 := step_copy_splice (P := P) (ops := #[]) (Q := Q) (E := True) hgd d s dT sT ho elem hu hsz dp sp dLen dCap sLen sCap hd hs g off cur t hg cs hn hpos hfit h1 B w0 hb hBg h
  rwa [if_pos (by simp [Region.wanted, hgd])] at h2
/-- k texts s, then empty ones, n in all. -/
def repC (s : ByteArray) (k n : Nat) : List Value := List.replicate k (.string s) ++ List.replicate (n - k) (.string ⟨#[]⟩)
theorem repC_length (s : ByteArray) (k n : Nat) (h : k ≤ n) : (repC s k n).length = n := by unfold repC; simp; omega
theorem repC_splice (s : ByteArray) (k n m : Nat) (h : k + m ≤ n) : splice (repC s k n) k (List.replicate m (.string s)) = repC s (k + m) n := by
  unfold splice repC
  rw [List.take_append_of_le_length (by simp), List.take_of_length_le (by simp), List.drop_append]
  simp only [List.length_replicate, List.drop_replicate]
  rw [show k - (k + m) = 0 by omega, List.replicate_zero, List.nil_append, ← List.append_assoc, List.replicate_append_replicate]
  congr 2
  omega
set_option maxRecDepth 100000 in
set_option maxHeartbeats 2000000 in
theorem repeat_any (g0 n : Nat) (s : ByteArray) (w : World) (hc : w.cell? ⟨g0, 0, none⟩ = some (.string s)) (h1 : 1 ≤ n) (hn : n ≤ 4096) :
    Calls Tryz.prog 61 #[.slice (some ⟨g0, 0, none⟩) 1 1, .int .i64 n] w fun e w' => ∃ g, e = .returned (.slice (some ⟨g, 0, none⟩) n n) ∧ w.heap.size ≤ g ∧ w'.ownsRow w.heap.size 9 1 (.slice (some ⟨g, 0, none⟩) n n) n (List.replicate n (.string s)) ∧ Below w.heap.size w w' := by
  have KM := fun w => Tryz.bits_Mul 1 n (by omega) (by omega) w
  rw [show 1 * n / 18446744073709551616 = 0 by omega, show 1 * n % 18446744073709551616 = n by omega] at KM
  obtain ⟨i9, hi0, hi1, hi2, hi3⟩ := info_parts info9
  have hmk := fun (w : World) => run_make (P := Tryz.prog) w 42 9 i9 _ Tryz.underlying42 hi0 hi1 .i64 .i64 (n : Int) (n : Int) (by omega) (by omega) (by rw [hi3]; omega) (by omega)
  have hmc : madeCells (Value.cells (.string ⟨#[]⟩)) ((n : Int).toNat * i9.size) = (repC s 0 n).toArray := by
    rw [hi2, Nat.mul_one, Int.toNat_natCast]
    apply Array.toList_inj.1
    rw [show Value.cells (.string ⟨#[]⟩) = #[.string ⟨#[]⟩] from rfl, toList_madeCells_one]
    simp [repC]
  rw [hmc, Int.toNat_natCast] at hmk
  have n0 : (0 : Int) ≤ (n : Int) := by omega
  have n1 : ¬ ((9223372036854775807 : Int) < (n : Int)) := by omega
  have n2 : ¬ ((n : Int) < 0) := by omega
  have hg0 : g0 < w.heap.size := cell_lt hc
  go_enter Tryz.func61, Tryz.ntmps61
  have mixed : Tryz.prog.follows Departure.mixedOrders = true := by kernel_rfl
  go_upto_region 7 with (go_at_call 102; refine (KM _).mono ?_; rintro e w1 ⟨rfl, hw⟩; obtain rfl := hw.symm)
  have hb1 := below_alloc w (.cells (repC s 0 n).toArray 9)
  have hg1 : (w.alloc (.cells (repC s 0 n).toArray 9)).heap[w.heap.size]? = some (.cells (repC s 0 n).toArray 9 (0, 0)) := heap_alloc_new _ _
  have hc1 : (w.alloc (.cells (repC s 0 n).toArray 9)).cell? ⟨g0, 0, none⟩ = some (.string s) := (cell_old w _ ⟨g0, 0, none⟩ hg0).trans hc
  obtain ⟨W, hW⟩ : ∃ u, w.alloc (.cells (repC s 0 n).toArray 9) = u := ⟨_, rfl⟩
  obtain ⟨G, hG⟩ : ∃ G, w.heap.size = G := ⟨_, rfl⟩
  rw [hG] at hg1
  rw [hW] at hb1 hg1 hc1 ⊢
  simp only [hG]
  have HG := Lib.hid hG
  clear hW hG hmk hmc
  have hsz9 : (Tryz.prog.info? 9).map (·.size) = some 1 := by rw [hi0]; simp [hi2]
  have m1 : ([Value.string s] : List Value).length = Nat.min 1 n := by show 1 = min 1 n; omega
  have m2 : 0 + ([Value.string s] : List Value).length ≤ (repC s 0 n).length := by rw [repC_length _ _ _ (by omega)]; exact h1
  have m3 : ∀ v ∈ ([Value.string s] : List Value), v.oneCell' = true := by simp [Value.oneCell']
  have m4 : ∀ j v, ([Value.string s] : List Value)[j]? = some v → W.cell? ((⟨g0, 0, none⟩ : Addr).add j) = some v := fun j v hj => by
    cases j with
    | zero => simp at hj; subst hj; exact hc1
    | succ j => simp at hj
  have m5 : w.heap.size ≤ G := by rw [HG.out]; exact Nat.le_refl _
  go_wp2_with (refine wpList_copy_splice rfl (.tmp 31) (.tmp 32) 42 42 rfl 9 Tryz.underlying42 hsz9 (some ⟨G, 0, none⟩) (some ⟨g0, 0, none⟩) n n 1 1 (by rfl) (by rfl) G 0 (repC s 0 n) 9 hg1 [.string s] m1 (fun _ => ⟨rfl, _, rfl, m4⟩) m2 m3 w.heap.size w hb1 m5 ?_; intro w2 hg2 hb2)
  clear m1 m2 m3 m4
  have HG2 : Hid (w2.heap[G]? = some (.cells (repC s 1 n).toArray 9 (0, 0))) := by
    have := hg2.out
    rw [show ([Value.string s] : List Value) = List.replicate 1 (.string s) from rfl, repC_splice s 0 n 1 (by omega)] at this
    exact Lib.hid this
  have HB2 := Lib.hid hb2
  clear hg2 hb2 hb1 hg1 hc1
  go_loopw [8] (fun kv wr => ∃ k : Nat, 1 ≤ k ∧ k ≤ n ∧ kv = .int .i64 k ∧ wr.heap[G]? = some (.cells (repC s k n).toArray 9 (0, 0)) ∧ Below w.heap.size w wr) (fun kv _ => n - (intOf kv).toNat)
  case atStart => exact ⟨1, by omega, h1, rfl, HG2.out, HB2.out⟩
  case round =>
    clear HG2 HB2
    obtain ⟨k, hk1, hk, rfl, hgr, hb⟩ := hrel
    have k0 : (0 : Int) ≤ (k : Int) := by omega
    by_cases hkn : k < n
    · have k1 : (k : Int) < (n : Int) := by omega
      have HGR := Lib.hid hgr
      have HB := Lib.hid hb
      clear hgr hb
      go_wp2
      have hct := fun w => cut42 (some ⟨G, 0, none⟩) n n k w hkn (Nat.le_refl n)
      have hch := fun w => cut42h (some ⟨G, 0, none⟩) n n k w (by omega) hk
      simp only [Option.map_some, add_lit', Nat.zero_add] at hct
      obtain ⟨mm, hmm⟩ : ∃ q, Nat.min k (n - k) = q := ⟨_, rfl⟩
      have q1 : mm ≤ k := by rw [← hmm]; exact Nat.min_le_left _ _
      have q2 : mm ≤ n - k := by rw [← hmm]; exact Nat.min_le_right _ _
      have q3 : 1 ≤ mm := by rw [← hmm]; exact Nat.le_min.2 ⟨hk1, by omega⟩
      have HMN := Lib.hid hmm
      clear hmm
      refine wp_region_held (S := fun w' => True) mixed ?_
      change wpAnyH _ _ _ _ _ _ _ _ wr.drew
      have hgW : wr.drew.heap[G]? = some (.cells (repC s k n).toArray 9 (0, 0)) := HGR.out
      have hbW : Below w.heap.size w wr.drew := HB.out.drew
      obtain ⟨W3, hW3⟩ : ∃ u, wr.drew = u := ⟨_, rfl⟩
      rw [hW3] at hgW hbW ⊢
      clear hW3
      refine wpAnyH_take (i := 0) (v := .int .i64 k) rfl (by kernel_rfl) (by kernel_rfl) (by kernel_rfl) (fun c a w h => h) (.inl ⟨by kernel_rfl, fun w' hS => ?_⟩) trivial ?_
      · clear hS; go_simp
      try go_simp
      refine wpAnyH_take (i := 1) (v := .slice (some ⟨G, 0, none⟩) n n) rfl (by kernel_rfl) (by kernel_rfl) (by kernel_rfl) (fun c a w h => h) (.inl ⟨by kernel_rfl, fun w' hS => ?_⟩) trivial ?_
      · clear hS; go_simp
      try go_simp
      refine wpAnyH_take (i := 2) (v := .int .i64 k) rfl (by kernel_rfl) (by kernel_rfl) (by kernel_rfl) (fun c a w h => h) (.inl ⟨by kernel_rfl, fun w' hS => ?_⟩) trivial ?_
      · clear hS; go_simp
      try go_simp
      refine wpAnyH_take (i := 3) (v := .slice (some ⟨G, k, none⟩) (n - k) (n - k)) rfl (by kernel_rfl) (by kernel_rfl) (by kernel_rfl) (fun c a w h => h) (.inl ⟨by kernel_rfl, fun w' hS => ?_⟩) trivial ?_
      · clear hS; go_simp
      try go_simp
      refine wpAnyH_take (i := 4) (v := .slice (some ⟨G, 0, none⟩) n n) rfl (by kernel_rfl) (by kernel_rfl) (by kernel_rfl) (fun c a w h => h) (.inl ⟨by kernel_rfl, fun w' hS => ?_⟩) trivial ?_
      · clear hS; go_simp
      try go_simp
      refine wpAnyH_take (i := 5) (v := .int .i64 k) rfl (by kernel_rfl) (by kernel_rfl) (by kernel_rfl) (fun c a w h => h) (.inl ⟨by kernel_rfl, fun w' hS => ?_⟩) trivial ?_
      · clear hS; go_simp
      try go_simp
      refine wpAnyH_take (i := 6) (v := .slice (some ⟨G, 0, none⟩) k n) rfl (by kernel_rfl) (by kernel_rfl) (by kernel_rfl) (fun c a w h => h) (.inl ⟨by kernel_rfl, fun w' hS => ?_⟩) trivial ?_
      · clear hS; go_simp
      try go_simp
      refine wpAnyH_all (rs := [7]) (by kernel_rfl) (by simp) ?_
      intro i hi
      simp only [List.mem_cons, List.not_mem_nil, or_false] at hi
      subst hi
      unfold wpOp
      simp only []
      have m3 : ∀ v ∈ (List.replicate mm (Value.string s)), v.oneCell' = true := fun v hv => by rw [List.eq_of_mem_replicate hv]; rfl
      have m4 : ∀ j v, (List.replicate mm (Value.string s))[j]? = some v → W3.cell? ((⟨G, 0, none⟩ : Addr).add j) = some v := fun j v hj => by
        have hjm : j < mm := by have := (List.getElem?_eq_some_iff.1 hj).1; simpa using this
        have hv : v = .string s := by simpa [hjm] using hj.symm
        rw [add_lit', Nat.zero_add, hv]
        unfold World.cell?
        rw [hgW]
        simp only [List.getElem?_toArray]
        unfold repC
        rw [List.getElem?_append_left (by rw [List.length_replicate]; omega), List.getElem?_replicate, if_neg (by simp), if_pos (by omega)]
      refine .inl (wp_copy_splice rfl (.tmp 41) (.tmp 44) 42 42 rfl 9 Tryz.underlying42 hsz9 (some ⟨G, k, none⟩) (some ⟨G, 0, none⟩) (n - k) (n - k) k n (by rfl) (by rfl) G k (repC s k n) 9 hgW (List.replicate mm (.string s)) (by rw [List.length_replicate]; exact HMN.out.symm) (fun _ => ⟨rfl, _, rfl, m4⟩) (by rw [repC_length _ _ _ hk, List.length_replicate]; omega) m3 w.heap.size w hbW m5 ?_)
      intro W4 hg4 hb4
      refine ⟨trivial, ?_⟩
      have HG4 : Hid (W4.heap[G]? = some (.cells (repC s (k + mm) n).toArray 9 (0, 0))) := by
        have := hg4.out
        rw [repC_splice s k n mm (by omega)] at this
        exact Lib.hid this
      have HB4 := Lib.hid hb4
      have hwr : IntKind.i64.wrap ((k : Int) + (mm : Int)) = (k : Int) + (mm : Int) := by rw [Go.IntWalk.i64_left, Go.IntWalk.wrap64_in _ (by omega)]
      have HMM := Lib.hid (show 1 ≤ mm ∧ k + mm ≤ n from by omega)
      rw [List.length_replicate]
      clear hg4 hb4 m3 m4 hgW hbW hct hch q1 q2 q3
      try go_simp
      refine wpAnyH_take (i := 8) (v := .int .i64 ((k : Int) + (mm : Int))) rfl (by kernel_rfl) (by kernel_rfl) (by kernel_rfl) (fun c a w h => h) (.inl ⟨by kernel_rfl, fun w' hS => ?_⟩) trivial ?_
      · clear hS; go_simp
      try go_simp
      refine wpAnyH_take (i := 9) (v := .int .i64 ((k : Int) + (mm : Int))) rfl (by kernel_rfl) (by kernel_rfl) (by kernel_rfl) (fun c a w h => h) (.inl ⟨by kernel_rfl, fun w' hS => ?_⟩) trivial ?_
      · clear hS; go_simp
      try go_simp
      refine wpAnyH_done (by kernel_rfl) ?_ _
      go_wp2
      go_roundw
      case rel => exact ⟨k + mm, by omega, HMM.out.2, by go_num, HG4.out, HB4.out⟩
      case measure => have := HMM.out; simp [intOf]; omega
    · obtain rfl : k = n := by omega
      have HFN := Lib.hid (show wr.ownsRow w.heap.size 9 1 (.slice (some ⟨G, 0, none⟩) k k) k (List.replicate k (.string s)) from
        ⟨by simp, .inr ⟨G, k, (repC s k k).toArray, rfl, by rw [HG.out]; exact Nat.le_refl _, hgr, Nat.le_refl _, by unfold maxLen; omega, by simp [repC], by simp [repC]⟩⟩)
      have HB := Lib.hid hb
      clear hgr hb
      go_wp2
      go_ret
      exact ⟨G, rfl, by rw [HG.out]; exact Nat.le_refl _, HFN.out, HB.out⟩
set_option maxRecDepth 100000 in
theorem new_any (n : Nat) (w : World) (h1 : 1 ≤ n) (hn : n ≤ 4096) : Calls Tryz.prog 26 #[.int .i64 n] w fun e w' => ∃ X D, e = .returned (.tuple #[.pointer (some ⟨D, 0, none⟩), .int .i64 0]) ∧ Dsk w' X D ⟨List.replicate n zeroS, [], none, false⟩ ∧ Mv [] X w w' := by
  have KB := blank_any w
  obtain ⟨Z, hZ⟩ : ∃ Z, mk zeroS = Z := ⟨_, rfl⟩
  rw [hZ] at KB
  have HZ := Lib.hid hZ
  have KR := fun g0 (w : World) hc => repeat_any g0 n Z w hc h1 hn
  have n0 : (0 : Int) ≤ (n : Int) := by omega
  have n1 : ¬ ((4096 : Int) < (n : Int)) := by omega
  have n2 : ¬ ((n : Int) < 1) := by omega
  clear hZ
  go_enter Tryz.func26, Tryz.ntmps26
  go_wp2_with (first
    | (go_at_call 62; refine KB.mono ?_; rintro e w1 ⟨rfl, hb1⟩)
    | (go_at_call 61; refine (KR w1.heap.size _ (by rw [(Blk.new w1 #[.string Z] 9).cell]; rfl)).mono ?_; rintro e w2 ⟨gL, rfl, hg2, ho2, hb2⟩))
  go_wp2
  go_ret2
  have hb12 : Below w.heap.size w w2 := (hb1.alloc hb1.size _).trans (hb2.mono (by have := hb1.size; simp; omega))
  have hz : w.heap.size ≤ w2.heap.size := hb12.size
  have hgl := (ho2.lt gL rfl).2
  have hg0 : w.heap.size ≤ gL := by have := hb1.size; simp at hg2; omega
  refine ⟨[w2.heap.size, gL], w2.heap.size, rfl, ⟨⟨gL, n, .slice none 0 0, .pointer none, 0, by simpa using Blk.new w2 _ 123, ?_, World.ownsRow_nil _ _ _ _, rfl, by simp, fun g e => (by cases e)⟩, ⟨fun x hx => ?_, fun x hx => (by cases hx), by simpa using hn⟩, by simp, fun x hx => ?_⟩, Frm.of_below [] (hb12.alloc hz _), fun x hx => ?_⟩
  · have := own_weaken (World.ownsRow.alloc ho2 (.cells #[.slice (some ⟨gL, 0, none⟩) n n, .slice none 0 0, .pointer none, .bool false, .int .i64 0] 123)) (Nat.zero_le _)
    rw [show txc (List.replicate n zeroS) = List.replicate n (.string Z) by simp [txc, HZ.out]]
    simpa using this
  · rw [List.eq_of_mem_replicate hx]; unfold zeroS; rw [List.length_replicate]
  · simp at hx ⊢
    rcases hx with rfl | rfl <;> omega
  · simp at hx
    rcases hx with rfl | rfl <;> omega
theorem new_bad (n : Int) (w : World) (h : n < 1 ∨ 4096 < n) : Calls Tryz.prog 26 #[.int .i64 n] w fun e w' => e = .returned (.tuple #[.pointer none, .int .i64 1]) ∧ w' = w := by
  by_cases h1 : n < 1
  · clear h
    go_enter Tryz.func26, Tryz.ntmps26
    go_wp2
    go_ret2
    exact ⟨rfl, rfl⟩
  · have h2 : 4096 < n := by omega
    clear h
    go_enter Tryz.func26, Tryz.ntmps26
    go_wp2
    go_ret2
    exact ⟨rfl, rfl⟩
end Go.Proofs.YtcmcdddnckcpcaaGreatDoor
/- stemmaref07.Good, walked. -/
namespace Go.Proofs.YtcmcdddnckcpcaaGreatDoor
open Go.RowKit
theorem ret_bool {a b : Bool} (h : a = b) : Ending.returned (.bool a) = .returned (.bool b) := by rw [h]
set_option maxHeartbeats 800000 in
theorem rgood_any (s : ByteArray) (w : World) (hs : s.size ≤ maxLen) :
    Calls Tryz.prog 12 #[.string s] w fun e w' => e = .returned (.bool (goodF s.data.toList)) ∧ w = w' := by
  unfold maxLen at hs
  have hsl : s.data.toList.length = s.size := by simp
  by_cases h0 : s.size < 1 ∨ 80 < s.size
  · have HG := Lib.hid (show goodF s.data.toList = false by
      unfold goodF; rw [hsl]
      rcases h0 with h | h
      · rw [decide_eq_false (show ¬ 1 ≤ s.size by omega)]; simp
      · rw [decide_eq_false (show ¬ s.size ≤ 80 by omega)]; simp)
    clear hsl
    rcases h0 with h | h
    all_goals
      go_enter Tryz.func12, Tryz.ntmps12
      go_wp2
      go_ret
      exact ⟨ret_bool HG.out.symm, rfl⟩
  · have h1 : 1 ≤ s.size ∧ s.size ≤ 80 := by omega
    obtain ⟨h1, h2⟩ := h1
    have HT := Lib.hid (show goodF s.data.toList = s.data.toList.all signC by
      unfold goodF; rw [hsl, decide_eq_true h1, decide_eq_true h2]; simp)
    clear h0
    go_enter Tryz.func12, Tryz.ntmps12
    go_wp2
    go_loop [3] (fun i => ∃ k : Nat, k ≤ s.size ∧ i = .int .i64 k ∧ (s.data.toList.take k).all signC = true) (fun i => s.size - (intOf i).toNat)
    case atStart => exact ⟨0, Nat.zero_le _, rfl, rfl⟩
    case round =>
      obtain ⟨k, hk, rfl, hall⟩ := hrel
      by_cases hlt : k < s.size
      · have hlt' : k < s.data.toList.length := by omega
        have H1 := Lib.hid (all_take_succ signC s.data.toList k hlt' hall)
        have H2 := Lib.hid (all_false signC s.data.toList k hlt')
        have h3 := signC_nat s[k]
        clear hall
        by_cases hc : signC s[k] = true
        · obtain ⟨h, h'⟩ := h3.1 hc
          have hi : 33 ≤ (s[k].toNat : Int) := by omega
          have hi' : (s[k].toNat : Int) ≤ 126 := by omega
          have HC := Lib.hid hc
          clear hc h3 h h'
          go_wp2
          go_round
          case rel => exact ⟨k + 1, by omega, by go_num, H1.out.trans HC.out⟩
          case measure => simp [intOf]; omega
        · have hn : ¬ (33 ≤ s[k].toNat ∧ s[k].toNat ≤ 126) := fun h => hc (h3.2 h)
          have HB := Lib.hid (H2.out (Bool.eq_false_iff.2 hc))
          have hr : ((s[k].toNat : Int) < 33) ∨ (127 ≤ (s[k].toNat : Int)) := by omega
          clear hc h3 hn
          rcases hr with h | h
          all_goals
            go_wp2
            go_ret
            exact ⟨ret_bool (HT.out.trans HB.out).symm, rfl⟩
      · obtain rfl : k = s.size := by omega
        have e : s.data.toList.take s.size = s.data.toList := List.take_of_length_le (by omega)
        rw [e] at hall
        have HA := Lib.hid hall
        clear hall e
        go_wp2
        go_ret
        exact ⟨ret_bool (HT.out.trans HA.out).symm, rfl⟩
end Go.Proofs.YtcmcdddnckcpcaaGreatDoor
/- Plain: what commands leave on a disk whose power is on; a new store's sectors. -/
namespace Go.Proofs.YtcmcdddnckcpcaaGreatDoor
def wrOf : List Cmd → List (Nat × Bs)
  | [] => []
  | .wr i b :: l => (i, b) :: wrOf l
  | .sy :: l => wrOf l
theorem wrOf_append (a b : List Cmd) : wrOf (a ++ b) = wrOf a ++ wrOf b := by
  induction a with
  | nil => rfl
  | cons c a ih => cases c <;> simp [wrOf, ih]
theorem wrOf_wrs (x : List (Nat × Bs)) : wrOf (wrs x) = x := by
  induction x with
  | nil => rfl
  | cons c x ih => show (c.1, c.2) :: wrOf (wrs x) = _; rw [ih]
theorem overlay_cons (L : List Bs) (c : Nat × Bs) (S : List (Nat × Bs)) : overlay L (c :: S) = overlay (L.set c.1 c.2) S := rfl
theorem run_on : ∀ (l : List Cmd) (d : DS), d.cut = none → d.off = false → (DS.run l d).1 = 0 ∧ (DS.run l d).2.cut = none ∧ (DS.run l d).2.off = false ∧ (DS.run l d).2.vis = overlay d.vis (fulls (wrOf l)) := by
  intro l
  induction l with
  | nil => intro d h1 h2; exact ⟨rfl, h1, h2, rfl⟩
  | cons c l ih =>
    intro d h1 h2
    obtain ⟨L, S, cut, off⟩ := d
    dsimp only at h1 h2
    subst h1 h2
    cases c with
    | wr i b =>
      rw [DS.run, show DS.cmd ⟨L, S, none, false⟩ (.wr i b) = (0, ⟨L, S ++ [(i, fullB b)], none, false⟩) from rfl, if_pos rfl]
      obtain ⟨a1, a2, a3, a4⟩ := ih ⟨L, S ++ [(i, fullB b)], none, false⟩ rfl rfl
      refine ⟨a1, a2, a3, a4.trans ?_⟩
      show overlay (overlay L (S ++ [(i, fullB b)])) _ = _
      rw [overlay_snoc]; rfl
    | sy =>
      rw [DS.run, show DS.cmd ⟨L, S, none, false⟩ .sy = (0, ⟨overlay L S, [], none, false⟩) from rfl, if_pos rfl]
      exact ih ⟨overlay L S, [], none, false⟩ rfl rfl
theorem run_sy (l : List Cmd) (d : DS) (h1 : d.cut = none) (h2 : d.off = false) : (DS.run (l ++ [.sy]) d).2.S = [] := by
  obtain ⟨a1, a2, a3, _⟩ := run_on l d h1 h2
  rw [run_append, if_pos a1]
  obtain ⟨⟨L, S, cut, off⟩, hd⟩ : ∃ q, (DS.run l d).2 = q := ⟨_, rfl⟩
  rw [hd] at a2 a3 ⊢
  dsimp only at a2 a3
  subst a2 a3
  rfl
theorem secAt_ne (W : List (Nat × Bs)) : ∀ (v : List Bs) (j : Nat), j ∉ W.map (·.1) → secAt (overlay v (fulls W)) j = secAt v j := by
  induction W with
  | nil => intro v j _; rfl
  | cons c W ih =>
    intro v j h
    rw [List.map_cons, List.mem_cons, not_or] at h
    show secAt (overlay (v.set c.1 (fullB c.2)) (fulls W)) j = _
    rw [ih _ j h.2]
    unfold secAt
    rw [List.getElem?_set, if_neg (fun e => h.1 e.symm)]
theorem secAt_set (v : List Bs) (i : Nat) (b : Bs) (h : i < v.length) : secAt (v.set i b) i = b := by
  unfold secAt; simp [h]
theorem secAt_set_ne (v : List Bs) (i j : Nat) (b : Bs) (h : i ≠ j) : secAt (v.set i b) j = secAt v j := by
  unfold secAt; rw [List.getElem?_set, if_neg h]
def freshL (n f : Nat) : List Bs := (List.replicate n zeroS).set 0 (headB n f)
theorem fmt_fresh (n f : Nat) : overlay (List.replicate n zeroS) (fulls (fmtX n f)) = freshL n f := by
  have key : ∀ k, k ≤ f + 2 → overlay (List.replicate n zeroS) (fulls ((fmtX n f).take (k + 1))) = freshL n f := by
    intro k
    induction k with
    | zero =>
      intro _
      have : (fmtX n f).take (0 + 1) = [(0, headB n f)] := by
        unfold fmtX
        rw [← List.map_take, List.take_range, show min (0 + 1) (f + 3) = 1 by omega]; rfl
      rw [this]
      show (List.replicate n zeroS).set 0 (fullB (headB n f)) = _
      rw [show fullB (headB n f) = headB n f by unfold fullB; rw [headB_len]; simp]
      rfl
    | succ k ih =>
      intro hk
      have hk2 : k + 1 < (fmtX n f).length := by simp [fmtX]; omega
      have e : fulls ((fmtX n f).take (k + 1 + 1)) = fulls ((fmtX n f).take (k + 1)) ++ [(k + 1, zeroS)] := by
        rw [List.take_succ_eq_append_getElem hk2]
        simp [fulls, fmtX, fullB_nil]
      rw [e, overlay_snoc, ih (by omega)]
      unfold freshL
      refine List.ext_getElem (by simp) fun j h1 h2 => ?_
      rw [List.getElem_set]
      split
      · rename_i hj
        subst hj
        rw [List.getElem_set, if_neg (by omega), List.getElem_replicate]
      · rfl
  have := key (f + 2) (Nat.le_refl _)
  rwa [List.take_of_length_le (by simp [fmtX])] at this
theorem fresh_len (n f : Nat) : (freshL n f).length = n := by simp [freshL]
theorem fresh_head (n f : Nat) (h : 0 < n) : secAt (freshL n f) 0 = headB n f := secAt_set _ _ _ (by simpa using h)
theorem fresh_zero (n f j : Nat) (h0 : j ≠ 0) (h : j < n) : secAt (freshL n f) j = zeroS := by
  unfold freshL
  rw [secAt_set_ne _ _ _ _ (Ne.symm h0)]
  unfold secAt; simp [h]
theorem pack_zero (u : Nat) (h : u ≤ 4096) : fullB (packB (List.replicate u false)) = zeroS := by
  rw [packB_zero]
  unfold fullB zeroS
  rw [List.length_replicate, List.replicate_append_replicate]
  congr 1; omega
theorem fresh_log (n f : Nat) (h : f + 8 ≤ n) : saidB (freshL n f) (2 + f) 5 = [] := by
  unfold saidB saidOk
  rw [fresh_zero n f (2 + f) (by omega) (by omega)]
  rw [show (zeroS.take 2 == [87, 76]) = false from by decide]
  rfl
end Go.Proofs.YtcmcdddnckcpcaaGreatDoor
/- stemmalaw07.made, walked. -/
namespace Go.Proofs.YtcmcdddnckcpcaaGreatDoor
open Go.RowKit Go.Maps
/-- Nothing of w has turned; what may turn is new. -/
structure Nw (w : World) (Y : List Nat) (w' : World) : Prop where
  below : Below w.heap.size w w'
  new : ∀ y ∈ Y, w.heap.size ≤ y
theorem Nw.mv {w w1 w2 : World} {Y Z : List Nat} (h : Nw w Y w1) (m : Mv Y Z w1 w2) : Nw w Z w2 :=
  ⟨h.below.trans (m.frm.below h.new h.below.size), fun z hz => (m.sub z hz).elim (h.new z) (fun hh => Nat.le_trans h.below.size hh)⟩
theorem Nw.step {w w1 w2 : World} {Y : List Nat} (h : Nw w Y w1) (k : Below w1.heap.size w1 w2) : Nw w Y w2 := h.mv (.of_below _ k)
theorem Nw.start (w : World) : Nw w [] w := ⟨Below.refl _ _, fun y hy => by cases hy⟩
def freshM (n f : Nat) : StoM := ⟨⟨freshL n f, [], none, false⟩, [], List.replicate (n - f - 7) false, f, false⟩
set_option maxRecDepth 100000 in
set_option maxHeartbeats 4000000 in
theorem made_any (n f : Nat) (w : World) (h1 : 1 ≤ f) (h2 : f ≤ 256) (h3 : f + 8 ≤ n) (h4 : n ≤ 4000) (hT : TB w) (hw : 0 < w.heap.size) :
    Calls Tryz.prog 13 #[.int .i64 n, .int .i64 f] w fun e w' => ∃ X D S Lg M, e = .returned (.tuple #[.pointer (some ⟨D, 0, none⟩), .pointer (some ⟨S, 0, none⟩), .bool true]) ∧ Sto w' X S D Lg M (freshM n f) ∧ Nw w (S :: M :: X) w' := by
  have KN := new_any n w (by omega) (by omega)
  have KF := fun (X : List Nat) (D : Nat) (w1 : World) (hd : Dsk w1 X D ⟨List.replicate n zeroS, [], none, false⟩) => format_ok X D (List.replicate n zeroS) f w1 hd h1 h2 (by rw [List.length_replicate]; exact h3)
  simp only [List.length_replicate, fmt_fresh] at KF
  have KM := fun (X : List Nat) (D : Nat) (w1 : World) (hd : Dsk w1 X D ⟨freshL n f, [], none, false⟩) (hT1 : TB w1) (hw1 : 0 < w1.heap.size) (hX : 0 ∉ X) =>
    mount0_any X D ⟨freshL n f, [], none, false⟩ f (n - f - 7) w1 hd rfl ⟨h1, h2⟩ (by rw [fresh_len]; omega) (by omega) (by omega) (by rw [fresh_len]; exact fresh_head n f (by omega)) (by rw [pack_zero _ (by omega)]; exact fresh_zero n f 1 (by omega) (by omega)) (fun i hi => fresh_zero n f (2 + i) (by omega) (by omega)) (fresh_log n f h3) (by simp) hT1 hw1 hX
  have HKF := Lib.hid KF
  have HKM := Lib.hid KM
  have HT := Lib.hid (And.intro hT hw)
  have HM0 := Lib.hid (show freshM n f = ⟨⟨freshL n f, [], none, false⟩, [], List.replicate (n - f - 7) false, f, false⟩ from rfl)
  obtain ⟨FM0, hFM0⟩ : ∃ q, freshM n f = q := ⟨_, rfl⟩
  rw [hFM0] at HM0 ⊢
  clear KF KM h1 h2 h3 h4 hT hw hFM0
  go_enter Tryz.func13, Tryz.ntmps13
  go_wp2_with (first
    | (go_at_call 26; refine KN.mono ?_; rintro e w1 ⟨X1, D, rfl, hd1, hm1⟩; have KF1 := HKF.out X1 D w1 hd1; have HM1 := Lib.hid hm1; clear hd1 hm1 KN)
    | (go_at_call 23; refine KF1.mono ?_; rintro e w2 ⟨rfl, X2, hd2, hm2⟩; have hm12 := HM1.out.trans hm2; have ht2 := HT.out.1.mv hm12 HT.out.2 (by simp); have KM2 := HKM.out X2 D w2 hd2 ht2.1 ht2.2.1 ht2.2.2; have HM2 := Lib.hid hm12; clear hd2 hm2 hm12 ht2 KF1)
    | (go_at_call 24; refine KM2.mono ?_; rintro e w3 ⟨X3, S, Lg, M, rfl, hst, hm3, hS, hM⟩; have H3 := Lib.hid (And.intro hst (And.intro hm3 (And.intro hS hM))); clear hst hm3 hS hM KM2))
  refine bodyPost_ret (v := .tuple #[.pointer (some ⟨D, 0, none⟩), .pointer (some ⟨S, 0, none⟩), .bool true]) ?_ rfl ?_
  · simp [results, Tryz.f13, go_sem]
  · refine ⟨X3, D, S, Lg, M, rfl, by rw [HM0.out]; exact H3.out.1, ?_⟩
    have hn := ((Nw.start w).mv HM2.out).mv H3.out.2.1
    have hz := HM2.out.size
    exact ⟨hn.below, fun y hy => by
      rcases List.mem_cons.1 hy with rfl | hy
      · exact Nat.le_trans hz H3.out.2.2.1
      · rcases List.mem_cons.1 hy with rfl | hy
        · exact Nat.le_trans hz H3.out.2.2.2
        · exact hn.new y hy⟩
end Go.Proofs.YtcmcdddnckcpcaaGreatDoor
/- stemmalaw07.speaks, walked: true. -/
namespace Go.Proofs.YtcmcdddnckcpcaaGreatDoor
open Go.RowKit Go.Maps
theorem freshB (n f : Nat) (h1 : 1 ≤ f) (h2 : f ≤ 256) (h3 : f + 8 ≤ n) (h4 : n ≤ 4000) : StoB (freshM n f) where
  ent := fun g hg => by cases hg
  nam := fun g hg => by cases hg
  siz := fun g hg => by cases hg
  exl := fun g hg => by cases hg
  exb := fun g hg => by cases hg
  len := by simp [freshM]
  mo := ⟨h1, h2⟩
  tl := by simp [freshM]; omega
  ll := by simp [freshM, fresh_len]; omega
  sl := by simp [freshM]
def spkF : FileM := ⟨[97], 0, 3, [(0, 1)]⟩
def spkT : List Bool := true :: List.replicate 8 false
theorem spk_pre : preW (freshM 20 4) [97] [120, 121, 122] = (0, some (spkT, spkF)) := by kernel_rfl
def spkC : List Cmd := putC 4 spkT (secL (4 + 7) [(0, 1)]) [120, 121, 122] spkF
def spkM (d : DS) : StoM := ⟨d, putF [] spkF, spkT, 4, false⟩
theorem spk_run : (DS.run spkC (freshM 20 4).ds).1 = 0 ∧ (DS.run spkC (freshM 20 4).ds).2.off = false ∧ StoB (spkM (DS.run spkC (freshM 20 4).ds).2) ∧ readW (spkM (DS.run spkC (freshM 20 4).ds).2) [97] = [120, 121, 122] := by
  obtain ⟨a1, a2, a3, a4⟩ := run_on spkC (freshM 20 4).ds rfl rfl
  obtain ⟨b1, b2⟩ := run_len spkC (freshM 20 4).ds
  have hF : ∀ f ∈ putF [] spkF, f = spkF := fun f hf => by
    rcases putF_mem hf with h | ⟨h, _⟩
    · exact h
    · cases h
  have b3 : spkC.length ≤ 100 := by decide
  obtain ⟨d, hd⟩ : ∃ q, (DS.run spkC (freshM 20 4).ds).2 = q := ⟨_, rfl⟩
  rw [hd] at a2 a3 a4 b1 b2
  rw [hd]
  refine ⟨a1, a3, ?_, ?_⟩
  · exact { ent := fun f hf => by rw [hF f hf]; exact (by decide : 0 < 4)
            nam := fun f hf => by rw [hF f hf]; decide
            siz := fun f hf => by rw [hF f hf]; decide
            exl := fun f hf => by rw [hF f hf]; decide
            exb := fun f hf => by rw [hF f hf]; intro x hx; have : x = (0, 1) := by simpa [spkF] using hx
                                  subst this; exact (by decide : 0 + 1 ≤ spkT.length)
            len := (by decide : (putF [] spkF).length ≤ 1000)
            mo := (by decide : 1 ≤ 4 ∧ 4 ≤ 256)
            tl := (by decide : spkT.length ≤ 4096)
            ll := by show spkT.length + 4 + 7 = d.L.length; rw [b1]; simp [freshM, fresh_len, spkT]
            sl := by
              have : (freshM 20 4).ds.S.length = 0 := rfl
              show d.S.length ≤ _; omega }
  · have h11 : secAt d.vis 11 = fullB [120, 121, 122] := by
      rw [a4]
      have e : wrOf spkC = (11, [120, 121, 122]) :: (wrOf spkC).tail := by rfl
      have e2 : (wrOf spkC).tail.map (·.1) = [7, 8, 6, 1, 2, 6] := by rfl
      rw [e]
      show secAt (overlay ((freshM 20 4).ds.vis.set 11 (fullB [120, 121, 122])) (fulls (wrOf spkC).tail)) 11 = _
      rw [secAt_ne _ _ _ (by rw [e2]; decide)]
      exact secAt_set _ _ _ (by show 11 < (freshL 20 4).length; rw [fresh_len]; decide)
    show (secsB d.vis [11]).take 3 = _
    unfold secsB
    rw [List.flatMap_cons, h11]
    rfl
set_option maxRecDepth 100000 in
set_option maxHeartbeats 4000000 in
theorem speaks_any (w : World) (hT : TB w) (hw : 0 < w.heap.size) : Calls Tryz.prog 10 #[] w fun e w' => e = .returned (.bool true) ∧ Below w.heap.size w w' := by
  have KM := made_any 20 4 w (by decide) (by decide) (by decide) (by decide) hT hw
  have KW := fun (X : List Nat) (S D Lg M : Nat) (w1 : World) (hs : Sto w1 X S D Lg M (freshM 20 4)) => fwrite_any X S D Lg M (freshM 20 4) [97] [120, 121, 122] w1 hs (freshB 20 4 (by decide) (by decide) (by decide) (by decide)) rfl rfl (by decide)
  rw [spk_pre] at KW
  obtain ⟨hr1, hr2, hr3, hr4⟩ := spk_run
  have HP := Lib.hid (fun (X : List Nat) (S D Lg M : Nat) (w1 : World) (e : Ending) (w2 : World) (h : WriteP X S D Lg M (freshM 20 4) (0, some (spkT, spkF)) [120, 121, 122] w1 e w2) => (show e = .returned (.int .i64 0) ∧ ∃ X', Mv (S :: M :: X) (S :: M :: X') w1 w2 ∧ Sto w2 X' S D Lg M (spkM (DS.run spkC (freshM 20 4).ds).2) from by
    obtain ⟨h1, X', h2, h3, _⟩ := h.2 spkT spkF rfl
    have hr : (DS.run (putC (freshM 20 4).most spkT (secL ((freshM 20 4).most + 7) spkF.ext) [120, 121, 122] spkF) (freshM 20 4).ds).1 = 0 := hr1
    refine ⟨?_, X', h2, h3 hr⟩
    rw [h1, hr]; rfl))
  have KR := fun (X : List Nat) (S D Lg M : Nat) (w1 : World) (hs : Sto w1 X S D Lg M (spkM (DS.run spkC (freshM 20 4).ds).2)) => fread_any X S D Lg M _ [97] w1 hs hr3 rfl hr2 (by decide) (fun f hf => by
    rcases putF_mem (show f ∈ putF [] spkF from hf) with rfl | ⟨h, _⟩
    · decide
    · cases h) (fun f hf => by
    rcases putF_mem (show f ∈ putF [] spkF from hf) with rfl | ⟨h, _⟩
    · decide
    · cases h)
  rw [hr4, show findE (spkM (DS.run spkC (freshM 20 4).ds).2).F [97] = 0 from by rfl] at KR
  have KF := fun (X : List Nat) (S D Lg M : Nat) (w1 : World) (hs : Sto w1 X S D Lg M (spkM (DS.run spkC (freshM 20 4).ds).2)) => ffree_any X S D Lg M _ w1 hs (by show spkT.length ≤ _; decide) (by show 4 ≤ 1000; decide) (by show (putF [] spkF).length ≤ _; decide)
  rw [show (spkM (DS.run spkC (freshM 20 4).ds).2).T.count false = 8 from by rfl, show ((spkM (DS.run spkC (freshM 20 4).ds).2).most : Int) - ((spkM (DS.run spkC (freshM 20 4).ds).2).F.length : Int) = 3 from by rfl] at KF
  obtain ⟨m1, hm1⟩ : ∃ q, spkM (DS.run spkC (freshM 20 4).ds).2 = q := ⟨_, rfl⟩
  simp only [hm1] at HP KR KF
  obtain ⟨m0, hm0⟩ : ∃ q, freshM 20 4 = q := ⟨_, rfl⟩
  simp only [hm0] at KM KW HP
  have KW2 := fun (X : List Nat) (S D Lg M : Nat) (w1 : World) (hs : Sto w1 X S D Lg M m0) => (KW X S D Lg M w1 hs).mono (fun e w2 h => HP.out X S D Lg M w1 e w2 h)
  have HKW := Lib.hid KW2
  have HKR := Lib.hid KR
  have HKF := Lib.hid KF
  clear hT hw KW KW2 HP KR KF hr1 hr2 hr3 hr4 hm1 hm0
  have hmk : (mk [120, 121, 122]).toList = [120, 121, 122] := mk_toList' _
  go_enter Tryz.func10, Tryz.ntmps10
  go_wp2_with (first
    | (go_at_call 13; refine KM.mono ?_; rintro e w1 ⟨X1, D, S, Lg, M, rfl, hst, hnw⟩; have KW1 := HKW.out X1 S D Lg M w1 hst; have HN1 := Lib.hid hnw; clear hst hnw KM)
    | (go_at_call 14; refine KW1.mono ?_; rintro e w2 ⟨rfl, X2, hm2, hst2⟩; have KR2 := HKR.out X2 S D Lg M w2 hst2; have HN2 := Lib.hid (And.intro (HN1.out.mv hm2) hst2); clear hst2 hm2 KW1)
    | (go_at_call 17; refine KR2.mono ?_; rintro e w3 ⟨rfl, hb3⟩; have KF3 := HKF.out X2 S D Lg M w3 (HN2.out.2.below hb3); have HN3 := Lib.hid (And.intro (HN2.out.1.step hb3) (HN2.out.2.below hb3)); clear hb3 KR2)
    | (go_at_call 19; refine KF3.mono ?_; rintro e w4 ⟨rfl, hb4⟩; have HN4 := Lib.hid (HN3.out.1.step hb4); clear hb4 KF3))
  go_ret
  exact ⟨rfl, HN4.out.below⟩
end Go.Proofs.YtcmcdddnckcpcaaGreatDoor
/- FileNames, walked: true. -/
namespace Go.Proofs.YtcmcdddnckcpcaaGreatDoor
open Go.RowKit Go.Maps
set_option maxRecDepth 100000 in
set_option maxHeartbeats 1000000 in
theorem fileNames_any (s : ByteArray) (w : World) (hs : s.size ≤ maxLen) (hT : TB w) (hw : 0 < w.heap.size) : Calls Tryz.prog 3 #[.string s] w fun e w' => e = .returned (.bool true) ∧ Below w.heap.size w w' := by
  have KS := speaks_any w hT hw
  have KG := fun w1 => good_any s.data.toList w1 (by have : s.data.toList.length = s.size := by rw [Array.length_toList]; rfl
                                                     unfold maxLen at hs; omega)
  have hmk : mk s.data.toList = s := by simp [mk]
  rw [hmk] at KG
  have KR := fun w1 => rgood_any s w1 hs
  obtain ⟨B, hB⟩ : ∃ q, goodF s.data.toList = q := ⟨_, rfl⟩
  rw [hB] at KG KR
  clear hs hT hw hmk hB
  go_enter Tryz.func3, Tryz.ntmps3
  go_wp2_with (first
    | (go_at_call 10; refine KS.mono ?_; rintro e w1 ⟨rfl, hb1⟩; have HB1 := Lib.hid hb1; have KG1 := KG w1; clear hb1 KS KG)
    | (go_at_call 11; refine KG1.mono ?_; rintro e w2 ⟨rfl, hb2⟩; have HB2 := Lib.hid hb2; have KR2 := KR w2; clear hb2 KG1 KR)
    | (go_at_call 12; refine KR2.mono ?_; rintro e w3 ⟨rfl, hw3⟩; obtain rfl := hw3; clear KR2))
  go_ret
  exact ⟨rfl, HB1.out.trans (HB2.out.mono HB1.out.size)⟩
end Go.Proofs.YtcmcdddnckcpcaaGreatDoor
/- Plain: a store's units. -/
namespace Go.Proofs.YtcmcdddnckcpcaaGreatDoor
/-- The units of extents. -/
def unitsL (l : List (Nat × Nat)) : List Nat := l.flatMap fun x => List.range' x.1 x.2
theorem unitsL_cons (x : Nat × Nat) (l : List (Nat × Nat)) : unitsL (x :: l) = List.range' x.1 x.2 ++ unitsL l := rfl
theorem unitsL_length : ∀ l : List (Nat × Nat), (unitsL l).length = sumN l := by
  intro l
  induction l with
  | nil => rfl
  | cons x l ih => rw [unitsL_cons, List.length_append, ih, sumN_cons, List.length_range']
theorem mem_unitsL {j : Nat} {l : List (Nat × Nat)} : j ∈ unitsL l ↔ ∃ x ∈ l, x.1 ≤ j ∧ j < x.1 + x.2 := by
  unfold unitsL
  rw [List.mem_flatMap]
  constructor
  · rintro ⟨x, hx, hj⟩; exact ⟨x, hx, by rw [List.mem_range'_1] at hj; exact hj⟩
  · rintro ⟨x, hx, hj⟩; exact ⟨x, hx, by rw [List.mem_range'_1]; exact hj⟩
theorem set_getD (T : List Bool) (i j : Nat) (b : Bool) (h : i < T.length) : (T.set i b).getD j false = if i = j then b else T.getD j false := by
  rw [List.getD_eq_getElem?_getD, List.getD_eq_getElem?_getD, List.getElem?_set]
  by_cases e : i = j
  · subst e; simp [h]
  · rw [if_neg e, if_neg e]
theorem turn1_give : ∀ (m : Nat) (T : List Bool) (i : Nat), i + m ≤ T.length → (∀ j, i ≤ j → j < i + m → T.getD j false = true) →
    ∃ T', turn1 false T i m = some T' ∧ T'.length = T.length ∧ ∀ j, T'.getD j false = (T.getD j false && !decide (i ≤ j ∧ j < i + m)) := by
  intro m
  induction m with
  | zero => intro T i _ _; exact ⟨T, rfl, rfl, fun j => by simp; intro _; omega⟩
  | succ m ih =>
    intro T i hl hf
    have h0 := hf i (Nat.le_refl _) (by omega)
    have hil : i < T.length := by omega
    obtain ⟨T', h1, h2, h3⟩ := ih (T.set i false) (i + 1) (by rw [List.length_set]; omega) (fun j hj hj2 => by
      rw [set_getD _ _ _ _ hil, if_neg (by omega)]; exact hf j (by omega) (by omega))
    refine ⟨T', ?_, by rw [h2, List.length_set], fun j => ?_⟩
    · rw [turn1, h0, if_neg (by simp)]
      exact h1
    · rw [h3, set_getD _ _ _ _ hil]
      by_cases e : i = j
      · subst e; simp
      · rw [if_neg e]
        congr 2
        exact decide_eq_decide.2 (by constructor <;> intro h <;> omega)
theorem turnS_give : ∀ (l : List (Nat × Nat)) (T : List Bool), (∀ x ∈ l, 1 ≤ x.2 ∧ x.1 + x.2 ≤ T.length) → (unitsL l).Nodup → (∀ j ∈ unitsL l, T.getD j false = true) →
    ∃ T', turnS false T l = some T' ∧ T'.length = T.length ∧ ∀ j, T'.getD j false = (T.getD j false && !decide (j ∈ unitsL l)) := by
  intro l
  induction l with
  | nil => intro T _ _ _; exact ⟨T, rfl, rfl, fun j => by simp [unitsL]⟩
  | cons x l ih =>
    intro T hb hn ht
    obtain ⟨a1, a2⟩ := hb x (List.mem_cons_self ..)
    rw [unitsL_cons, List.nodup_append] at hn
    obtain ⟨_, n2, n3⟩ := hn
    obtain ⟨T1, b1, b2, b3⟩ := turn1_give x.2 T x.1 a2 (fun j h1 h2 => ht j (by rw [unitsL_cons]; exact List.mem_append_left _ (by rw [List.mem_range'_1]; exact ⟨h1, h2⟩)))
    obtain ⟨T', c1, c2, c3⟩ := ih T1 (fun y hy => by rw [b2]; exact hb y (List.mem_cons_of_mem _ hy)) n2 (fun j hj => by
      rw [b3, ht j (by rw [unitsL_cons]; exact List.mem_append_right _ hj)]
      simp
      rcases Nat.lt_or_ge j x.1 with h1 | h1
      · exact .inl h1
      refine .inr ?_
      rcases Nat.lt_or_ge j (x.1 + x.2) with h | h
      · exact absurd rfl (n3 j (by rw [List.mem_range'_1]; exact ⟨h1, h⟩) j hj)
      · exact h)
    refine ⟨T', ?_, by rw [c2, b2], fun j => ?_⟩
    · rw [turnS, if_neg (by omega), b1]; exact c1
    · rw [c3, b3, unitsL_cons, Bool.and_assoc]
      congr 1
      rw [← Bool.not_or]
      congr 1
      rw [← Bool.decide_or]
      exact decide_eq_decide.2 (by rw [List.mem_append, List.mem_range'_1])
theorem nodup_lt : ∀ (n : Nat) (l : List Nat), l.Nodup → (∀ x ∈ l, x < n) → l.length ≤ n := by
  intro n
  induction n with
  | zero =>
    intro l _ h
    cases l with
    | nil => exact Nat.le_refl _
    | cons a l => exact absurd (h a (List.mem_cons_self ..)) (by omega)
  | succ n ih =>
    intro l h1 h2
    have h3 := ih (l.filter (· != n)) (h1.filter _) (fun x hx => by
      obtain ⟨a, b⟩ := List.mem_filter.1 hx
      have := h2 x a
      have : x ≠ n := by simpa using b
      omega)
    have h4 : l.length ≤ (l.filter (· != n)).length + 1 := by
      have h5 := List.length_eq_countP_add_countP (p := fun x => x != n) (l := l)
      rw [List.countP_eq_length_filter] at h5
      have h6 : List.countP (fun a => decide ¬(a != n) = true) l ≤ 1 := by
        have h7 := List.nodup_iff_count.1 h1 n
        refine Nat.le_trans (Nat.le_of_eq ?_) h7
        unfold List.count
        congr 1
        funext a
        by_cases e : a = n <;> simp [e]
      omega
    omega
theorem perm_del : ∀ (F : List FileM) (g : FileM) (t : Bs), (F.map (·.name)).Nodup → fileOf F t = some g → F.Perm (g :: delF F t) := by
  intro F
  induction F with
  | nil => intro g t _ h; cases h
  | cons a F ih =>
    intro g t hn h
    rw [List.map_cons, List.nodup_cons] at hn
    by_cases ha : a.name = t
    · have : fileOf (a :: F) t = some a := by unfold fileOf; rw [List.find?_cons, show (a.name == t) = true by simpa using ha]
      rw [this] at h
      cases h
      have hd : delF (a :: F) t = F := by
        unfold delF
        rw [List.filter_cons, show (!(a.name == t)) = false by simp [ha]]
        simp only [Bool.false_eq_true, if_false]
        rw [List.filter_eq_self]
        intro b hb
        have : b.name ≠ t := fun e => hn.1 (by rw [ha, ← e]; exact List.mem_map.2 ⟨b, hb, rfl⟩)
        simp [this]
      rw [hd]
    · have h2 : fileOf (a :: F) t = fileOf F t := by unfold fileOf; rw [List.find?_cons, show (a.name == t) = false by simpa using ha]
      rw [h2] at h
      have hd : delF (a :: F) t = a :: delF F t := by
        unfold delF
        rw [List.filter_cons, show (!(a.name == t)) = true by simp [ha]]
        simp
      rw [hd]
      exact ((ih g t hn.2 h).cons a).trans (List.Perm.swap g a _)
theorem del_none {F : List FileM} {t : Bs} (h : fileOf F t = none) : delF F t = F := by
  unfold delF
  rw [List.filter_eq_self]
  intro b hb
  have := fileOf_none.1 h b hb
  simp [this]
/-- A store in order: its disk is on and nothing waits to be synced; its files are good, their units are just those that are taken, each once. -/
structure Inv (m : StoM) : Prop where
  b : StoB m
  cut : m.ds.cut = none
  on : m.ds.off = false
  syn : m.ds.S = []
  up : m.off = false
  good : ∀ f ∈ m.F, goodF f.name = true
  names : (m.F.map (·.name)).Nodup
  entries : (m.F.map (·.entry)).Nodup
  pos : ∀ f ∈ m.F, ∀ x ∈ f.ext, 1 ≤ x.2
  sum : ∀ f ∈ m.F, sumN f.ext = needsN f.size
  once : (m.F.flatMap fun f => unitsL f.ext).Nodup
  taken : ∀ j, m.T.getD j false = true ↔ j ∈ m.F.flatMap fun f => unitsL f.ext
theorem inv_fresh (n f : Nat) (h1 : 1 ≤ f) (h2 : f ≤ 256) (h3 : f + 8 ≤ n) (h4 : n ≤ 4000) : Inv (freshM n f) where
  b := freshB n f h1 h2 h3 h4
  cut := rfl
  on := rfl
  syn := rfl
  up := rfl
  good := fun g hg => by cases hg
  names := by simp [freshM]
  entries := by simp [freshM]
  pos := fun g hg => by cases hg
  sum := fun g hg => by cases hg
  once := by simp [freshM]
  taken := fun j => by
    simp [freshM, List.getD_eq_getElem?_getD, List.getElem?_replicate]
    split <;> rfl
end Go.Proofs.YtcmcdddnckcpcaaGreatDoor
/- Plain: putting and dropping a file keeps a store in order. -/
namespace Go.Proofs.YtcmcdddnckcpcaaGreatDoor
theorem perm_put : ∀ (F : List FileM) (f : FileM), (F.map (·.name)).Nodup → (putF F f).Perm (f :: delF F f.name) := by
  intro F f hn
  unfold putF
  split
  · rename_i h
    induction F with
    | nil => cases h
    | cons a F ih =>
      rw [List.map_cons, List.nodup_cons] at hn
      by_cases ha : a.name = f.name
      · have hne : ∀ b ∈ F, b.name ≠ f.name := fun b hb e => hn.1 (by rw [ha, ← e]; exact List.mem_map.2 ⟨b, hb, rfl⟩)
        have h1 : (F.map fun g => if g.name == f.name then f else g) = F := by
          conv => rhs; rw [← List.map_id F]
          exact List.map_congr_left fun b hb => by simp [hne b hb]
        have hd : delF (a :: F) f.name = F := by
          unfold delF
          rw [List.filter_cons, show (!(a.name == f.name)) = false by simp [ha]]
          simp only [Bool.false_eq_true, if_false]
          rw [List.filter_eq_self]
          intro b hb
          simp [hne b hb]
        rw [List.map_cons, h1, hd, if_pos (by simpa using ha)]
      · have h2 : (fileOf F f.name).isSome = true := by
          unfold fileOf at h ⊢
          rw [List.find?_cons, show (a.name == f.name) = false by simpa using ha] at h
          exact h
        have hd : delF (a :: F) f.name = a :: delF F f.name := by
          unfold delF
          rw [List.filter_cons, show (!(a.name == f.name)) = true by simp [ha]]
          simp
        rw [List.map_cons, hd, if_neg (by simpa using ha)]
        exact ((ih hn.2 h2).cons a).trans (List.Perm.swap f a _)
  · rename_i h
    rw [del_none (by simpa using h)]
    exact List.perm_append_comm (l₁ := F) (l₂ := [f])
def unitsF (F : List FileM) : List Nat := F.flatMap fun f => unitsL f.ext
theorem unitsF_perm {F G : List FileM} (h : F.Perm G) : (unitsF F).Perm (unitsF G) := h.flatMap_right _
/-- What a store's units are, with one file's out. -/
theorem units_split {m : StoM} (h : Inv m) (t : Bs) : (unitsF m.F).Perm (unitsL (oldX m.F t) ++ unitsF (delF m.F t)) := by
  unfold oldX
  cases hf : fileOf m.F t with
  | none => rw [del_none hf]; exact List.Perm.refl _
  | some g => exact unitsF_perm (perm_del _ _ _ h.names hf)
theorem rise_units : ∀ (l : List (Nat × Nat)) (lo : Nat), Rise lo l → (unitsL l).Nodup ∧ ∀ j ∈ unitsL l, lo ≤ j := by
  intro l
  induction l with
  | nil => intro lo _; exact ⟨List.nodup_nil, fun j hj => by cases hj⟩
  | cons x l ih =>
    intro lo h
    obtain ⟨i1, i2⟩ := ih _ h.2
    have h1 := h.1
    rw [unitsL_cons]
    refine ⟨List.nodup_append.2 ⟨List.nodup_range', i1, fun a ha b hb => ?_⟩, fun j hj => ?_⟩
    · have := i2 b hb
      rw [List.mem_range'_1] at ha
      omega
    · rcases List.mem_append.1 hj with hj | hj
      · rw [List.mem_range'_1] at hj; omega
      · have := i2 j hj; omega
theorem getD_two (T : List Bool) (j : Nat) : T.getD j false = (decide (j < T.length) && T.getD j true) := by
  rw [List.getD_eq_getElem?_getD, List.getD_eq_getElem?_getD]
  by_cases h : j < T.length
  · simp [h]
  · simp [h]
theorem preW_some {m : StoM} {name data : Bs} {T2 : List Bool} {f : FileM} (h : preW m name data = (0, some (T2, f))) :
    goodF name = true ∧ data.length ≤ 1048576 ∧ slotW m name = some f.entry ∧ f.name = name ∧ f.size = data.length ∧ ∃ T1, takeS m.T (needsN data.length) 64 = some (f.ext, T1) ∧ turnS false T1 (oldX m.F name) = some T2 := by
  unfold preW at h
  split at h
  · simp at h
  · rename_i hg
    split at h
    · simp at h
    · rename_i hl
      cases hs : slotW m name with
      | none => rw [hs] at h; simp at h
      | some i =>
        rw [hs] at h
        dsimp only at h
        cases ht : takeS m.T (needsN data.length) 64 with
        | none => rw [ht] at h; simp at h
        | some p =>
          obtain ⟨l, T1⟩ := p
          rw [ht] at h
          dsimp only at h
          cases hu : turnS false T1 (oldX m.F name) with
          | none => rw [hu] at h; simp at h
          | some T3 =>
            rw [hu] at h
            simp only [Prod.mk.injEq, true_and, Option.some.injEq] at h
            obtain ⟨rfl, rfl⟩ := h
            exact ⟨by simpa using hg, by omega, rfl, rfl, rfl, T1, rfl, hu⟩
theorem old_facts {m : StoM} (h : Inv m) (t : Bs) : (∀ x ∈ oldX m.F t, 1 ≤ x.2 ∧ x.1 + x.2 ≤ m.T.length) ∧ (unitsL (oldX m.F t)).Nodup ∧ ∀ j ∈ unitsL (oldX m.F t), m.T.getD j false = true := by
  have hsp := units_split h t
  have hn : (unitsL (oldX m.F t) ++ unitsF (delF m.F t)).Nodup := hsp.nodup_iff.1 h.once
  refine ⟨?_, (List.nodup_append.1 hn).1, fun j hj => (h.taken j).2 (hsp.mem_iff.2 (List.mem_append_left _ hj))⟩
  unfold oldX
  cases hf : fileOf m.F t with
  | none => intro x hx; cases hx
  | some g => exact fun x hx => ⟨h.pos g (fileOf_mem hf) x hx, h.b.exb g (fileOf_mem hf) x hx⟩
/-- The units behind a Write. -/
theorem put_units {m : StoM} (h : Inv m) {l : List (Nat × Nat)} {T1 T2 : List Bool} {k : Nat} {t : Bs} (h1 : takeS m.T k 64 = some (l, T1)) (h2 : turnS false T1 (oldX m.F t) = some T2) :
    T2.length = m.T.length ∧ (unitsL l ++ unitsF (delF m.F t)).Nodup ∧ ∀ j, T2.getD j false = true ↔ j ∈ unitsL l ++ unitsF (delF m.F t) := by
  obtain ⟨a1, a2, a3, a4, a5, a6⟩ := takeS_facts h1
  obtain ⟨o1, o2, o3⟩ := old_facts h t
  have hsp := units_split h t
  have hn := List.nodup_append.1 (hsp.nodup_iff.1 h.once)
  have hfree : ∀ j ∈ unitsL l, m.T.getD j false = false ∧ j < m.T.length := fun j hj => by
    obtain ⟨x, hx, b1, b2⟩ := mem_unitsL.1 hj
    obtain ⟨c1, c2, c3⟩ := a3 x hx
    exact ⟨by rw [getD_two, c3 j b1 b2]; simp, by omega⟩
  have hT1 : ∀ j, T1.getD j false = (m.T.getD j false || decide (j ∈ unitsL l)) := fun j => by
    rw [getD_two, a6 j, a4, getD_two m.T j]
    by_cases hj : j ∈ unitsL l
    · have := (hfree j hj).2
      have hany : (l.any fun x => decide (x.1 ≤ j ∧ j < x.1 + x.2)) = true := by
        obtain ⟨x, hx, b⟩ := mem_unitsL.1 hj
        exact List.any_eq_true.2 ⟨x, hx, by simpa using b⟩
      rw [hany]
      simp [this, hj]
    · have hany : (l.any fun x => decide (x.1 ≤ j ∧ j < x.1 + x.2)) = false := by
        rw [List.any_eq_false]
        intro x hx hb
        exact hj (mem_unitsL.2 ⟨x, hx, by simpa using hb⟩)
      rw [hany]
      simp [hj]
  obtain ⟨T3, e1, e2, e3⟩ := turnS_give (oldX m.F t) T1 (fun x hx => by rw [a4]; exact o1 x hx) o2 (fun j hj => by rw [hT1, o3 j hj]; rfl)
  rw [h2] at e1
  cases e1
  have hdj : ∀ j ∈ unitsL l, j ∉ unitsL (oldX m.F t) ∧ j ∉ unitsF (delF m.F t) := fun j hj => by
    have h0 := (hfree j hj).1
    have hnot : j ∉ m.F.flatMap fun f => unitsL f.ext := fun hm => by rw [(h.taken j).2 hm] at h0; cases h0
    exact ⟨fun hm => hnot (hsp.mem_iff.2 (List.mem_append_left _ hm)), fun hm => hnot (hsp.mem_iff.2 (List.mem_append_right _ hm))⟩
  refine ⟨by rw [e2, a4], List.nodup_append.2 ⟨(rise_units l 0 a2).1, hn.2.1, fun a ha b hb e => (hdj a ha).2 (e ▸ hb)⟩, fun j => ?_⟩
  rw [e3, hT1, List.mem_append]
  have ht := h.taken j
  have hm : (j ∈ m.F.flatMap fun f => unitsL f.ext) ↔ (j ∈ unitsL (oldX m.F t) ∨ j ∈ unitsF (delF m.F t)) := by rw [← List.mem_append]; exact hsp.mem_iff
  rw [hm] at ht
  have hod : j ∈ unitsL (oldX m.F t) → j ∉ unitsF (delF m.F t) := fun ha hb => hn.2.2 j ha j hb rfl
  have hd := hdj j
  simp only [Bool.and_eq_true, Bool.or_eq_true, decide_eq_true_eq, Bool.not_eq_true', decide_eq_false_iff_not]
  rw [ht]
  constructor
  · rintro ⟨(h1 | h1) | h1, h2⟩
    · exact absurd h1 h2
    · exact .inr h1
    · exact .inl h1
  · rintro (h1 | h1)
    · exact ⟨.inr h1, (hd h1).1⟩
    · exact ⟨.inl (.inr h1), fun h2 => hod h2 h1⟩
end Go.Proofs.YtcmcdddnckcpcaaGreatDoor
/- Plain: a store in order stays so behind Write and Remove. -/
namespace Go.Proofs.YtcmcdddnckcpcaaGreatDoor
theorem settle_sy (most : Nat) (T : List Bool) (C : List (Nat × Bs)) : ∃ p, settleC most T C = p ++ [.sy] :=
  ⟨(wrs (imgs (settleX T C) (2 + most)) ++ [.sy]) ++ ([.wr (2 + most) (headW (settleX T C)), .sy] ++ ((wrs (settleX T C) ++ [.sy]) ++ [.wr (2 + most) []])), by simp [settleC, commitC]⟩
theorem run_settled {d : DS} (h1 : d.cut = none) (h2 : d.off = false) (pre : List Cmd) (most : Nat) (T : List Bool) (C : List (Nat × Bs)) :
    (DS.run (pre ++ settleC most T C) d).1 = 0 ∧ (DS.run (pre ++ settleC most T C) d).2.cut = none ∧ (DS.run (pre ++ settleC most T C) d).2.off = false ∧ (DS.run (pre ++ settleC most T C) d).2.S = [] ∧ (DS.run (pre ++ settleC most T C) d).2.L.length = d.L.length := by
  obtain ⟨a1, a2, a3, _⟩ := run_on (pre ++ settleC most T C) d h1 h2
  obtain ⟨p, hp⟩ := settle_sy most T C
  refine ⟨a1, a2, a3, ?_, (run_len _ d).1⟩
  rw [hp, ← List.append_assoc]
  exact run_sy _ d h1 h2
theorem slot_fresh {m : StoM} (h : Inv m) {t : Bs} {i : Nat} (hs : slotW m t = some i) : i < m.most ∧ ∀ g ∈ delF m.F t, g.entry ≠ i := by
  refine ⟨slotW_lt h.b hs, ?_⟩
  unfold slotW at hs
  split at hs
  · rename_i f hf
    cases hs
    have hp := (perm_del _ _ _ h.names hf).map (·.entry)
    have hn := hp.nodup_iff.1 h.entries
    rw [List.map_cons, List.nodup_cons] at hn
    exact fun g hg e => hn.1 (by rw [← e]; exact List.mem_map.2 ⟨g, hg, rfl⟩)
  · exact fun g hg => (vacN_lt hs).2 g (List.mem_filter.1 hg).1
theorem inv_put {m : StoM} {name data : Bs} {T2 : List Bool} {f : FileM} (h : Inv m) (hp : preW m name data = (0, some (T2, f))) :
    (DS.run (putC m.most T2 (secL (m.most + 7) f.ext) data f) m.ds).1 = 0 ∧ Inv ⟨(DS.run (putC m.most T2 (secL (m.most + 7) f.ext) data f) m.ds).2, putF m.F f, T2, m.most, m.off⟩ := by
  obtain ⟨p1, p2, p3, rfl, p5, T1, p6, p7⟩ := preW_some hp
  obtain ⟨u1, u2, u3⟩ := put_units h p6 p7
  obtain ⟨s1, s2⟩ := slot_fresh h p3
  obtain ⟨a1, a2, a3, _, a5, _⟩ := takeS_facts p6
  obtain ⟨r1, r2, r3, r4, r5⟩ := run_settled h.cut h.on (layC (secL (m.most + 7) f.ext) data) m.most T2 [(f.entry, entryB f.name f.size f.ext)]
  have hpp := perm_put m.F f h.names
  have hent : ((putF m.F f).map (·.entry)).Nodup := by
    rw [(hpp.map (·.entry)).nodup_iff, List.map_cons, List.nodup_cons]
    refine ⟨fun hm => ?_, h.entries.sublist (List.filter_sublist.map _)⟩
    obtain ⟨g, hg, e⟩ := List.mem_map.1 hm
    exact s2 g hg e
  have hU := unitsF_perm hpp
  have hlt : ∀ g ∈ putF m.F f, g.entry < m.most := fun g hg => by
    rcases putF_mem hg with rfl | ⟨hg, _⟩
    · exact s1
    · exact h.b.ent g hg
  refine ⟨r1, ?_⟩
  exact { b := { ent := hlt
                 nam := fun g hg => by
                  rcases putF_mem hg with rfl | ⟨hg, _⟩
                  · exact goodF_len p1
                  · exact h.b.nam g hg
                 siz := fun g hg => by
                  rcases putF_mem hg with rfl | ⟨hg, _⟩
                  · rw [p5]; exact p2
                  · exact h.b.siz g hg
                 exl := fun g hg => by
                  rcases putF_mem hg with rfl | ⟨hg, _⟩
                  · exact a1
                  · exact h.b.exl g hg
                 exb := fun g hg x hx => by
                  show _ ≤ T2.length
                  rw [u1]
                  rcases putF_mem hg with rfl | ⟨hg, _⟩
                  · exact (a3 x hx).2.1
                  · exact h.b.exb g hg x hx
                 len := by
                  have := nodup_lt m.most _ hent (fun x hx => by obtain ⟨g, hg, rfl⟩ := List.mem_map.1 hx; exact hlt g hg)
                  rw [List.length_map] at this
                  have := h.b.mo.2
                  show (putF m.F f).length ≤ _
                  omega
                 mo := h.b.mo
                 tl := by show T2.length ≤ _; rw [u1]; exact h.b.tl
                 ll := by
                  show T2.length + m.most + 7 = (DS.run (putC m.most T2 (secL (m.most + 7) f.ext) data f) m.ds).2.L.length
                  rw [u1, h.b.ll]; exact r5.symm
                 sl := by
                  show (DS.run (putC m.most T2 (secL (m.most + 7) f.ext) data f) m.ds).2.S.length ≤ _
                  have : (DS.run (putC m.most T2 (secL (m.most + 7) f.ext) data f) m.ds).2.S = [] := r4
                  rw [this]; simp }
          cut := r2
          on := r3
          syn := r4
          up := h.up
          good := fun g hg => by
            rcases putF_mem hg with rfl | ⟨hg, _⟩
            · exact p1
            · exact h.good g hg
          names := putF_nodup h.names
          entries := hent
          pos := fun g hg x hx => by
            rcases putF_mem hg with rfl | ⟨hg, _⟩
            · exact (a3 x hx).1
            · exact h.pos g hg x hx
          sum := fun g hg => by
            rcases putF_mem hg with rfl | ⟨hg, _⟩
            · rw [a5, p5]
            · exact h.sum g hg
          once := hU.nodup_iff.2 u2
          taken := fun j => (u3 j).trans hU.mem_iff.symm }
theorem inv_remove {m : StoM} {name : Bs} {f : FileM} (h : Inv m) (hg : goodF name = true) (hf : fileOf m.F name = some f) :
    ∃ T2, preR m name = (0, some (T2, f)) ∧ (DS.run (settleC m.most T2 [(f.entry, [])]) m.ds).1 = 0 ∧ Inv ⟨(DS.run (settleC m.most T2 [(f.entry, [])]) m.ds).2, delF m.F name, T2, m.most, m.off⟩ ∧ T2.length = m.T.length := by
  have hsp := units_split h name
  have ho : oldX m.F name = f.ext := by unfold oldX; rw [hf]; rfl
  obtain ⟨o1, o2, o3⟩ := old_facts h name
  rw [ho] at hsp o1 o2 o3
  have hn := List.nodup_append.1 (hsp.nodup_iff.1 h.once)
  obtain ⟨T2, e1, e2, e3⟩ := turnS_give f.ext m.T o1 o2 o3
  obtain ⟨r1, r2, r3, r4, r5⟩ := run_settled h.cut h.on [] m.most T2 [(f.entry, [])]
  rw [List.nil_append] at r1 r2 r3 r4 r5
  have hsub : ∀ g ∈ delF m.F name, g ∈ m.F := fun g hg => (List.mem_filter.1 hg).1
  have htk : ∀ j, T2.getD j false = true ↔ j ∈ unitsF (delF m.F name) := fun j => by
    rw [e3]
    have ht := h.taken j
    have hm : (j ∈ m.F.flatMap fun f => unitsL f.ext) ↔ (j ∈ unitsL f.ext ∨ j ∈ unitsF (delF m.F name)) := by rw [← List.mem_append]; exact hsp.mem_iff
    rw [hm] at ht
    have hod : j ∈ unitsL f.ext → j ∉ unitsF (delF m.F name) := fun ha hb => hn.2.2 j ha j hb rfl
    simp only [Bool.and_eq_true, Bool.not_eq_true', decide_eq_false_iff_not]
    rw [ht]
    constructor
    · rintro ⟨h1 | h1, h2⟩
      · exact absurd h1 h2
      · exact h1
    · exact fun h1 => ⟨.inr h1, fun h2 => hod h2 h1⟩
  refine ⟨T2, by unfold preR; rw [if_neg (by rw [hg]; decide), hf]; dsimp only; rw [e1], r1, ?_, e2⟩
  · exact { b := { ent := fun g hg => h.b.ent g (hsub g hg)
                   nam := fun g hg => h.b.nam g (hsub g hg)
                   siz := fun g hg => h.b.siz g (hsub g hg)
                   exl := fun g hg => h.b.exl g (hsub g hg)
                   exb := fun g hg x hx => by show _ ≤ T2.length; rw [e2]; exact h.b.exb g (hsub g hg) x hx
                   len := Nat.le_trans (List.length_filter_le ..) h.b.len
                   mo := h.b.mo
                   tl := by show T2.length ≤ _; rw [e2]; exact h.b.tl
                   ll := by
                    show T2.length + m.most + 7 = (DS.run (settleC m.most T2 [(f.entry, [])]) m.ds).2.L.length
                    rw [e2, h.b.ll]; exact r5.symm
                   sl := by
                    show (DS.run (settleC m.most T2 [(f.entry, [])]) m.ds).2.S.length ≤ _
                    rw [r4]; simp }
            cut := r2
            on := r3
            syn := r4
            up := h.up
            good := fun g hg => h.good g (hsub g hg)
            names := delF_nodup h.names
            entries := h.entries.sublist (List.filter_sublist.map _)
            pos := fun g hg => h.pos g (hsub g hg)
            sum := fun g hg => h.sum g (hsub g hg)
            once := hn.2.1
            taken := htk }
theorem free_empty {m : StoM} (h : Inv m) (hF : m.F = []) : m.T.count false = m.T.length := by
  rw [List.count_eq_length]
  intro b hb
  obtain ⟨j, hj, rfl⟩ := List.getElem_of_mem hb
  have h1 := h.taken j
  rw [hF, List.getD_eq_getElem?_getD, List.getElem?_eq_getElem hj, Option.getD_some] at h1
  cases hc : m.T[j] with
  | false => rfl
  | true => rw [hc] at h1; exact absurd (h1.1 rfl) (by simp)
end Go.Proofs.YtcmcdddnckcpcaaGreatDoor
/- slices.Clone of extents, walked at any slice. -/
namespace Go.Proofs.YtcmcdddnckcpcaaGreatDoor
open Go.RowKit Go.Maps
/-- 'row = append(row, what lies anywhere...)' in a walk. -/
theorem wpList_app {w : World} {ops : Array Oper} {rest : List Oper} {o : Oper} {a : Act} {Q : Exit → Act → World → Prop} (hgd : o.guard = none) (s x : Operand) (t e : TypeId)
    (ho : o.op = .call { callee := .builtin .append, args := #[s, x], argTypes := #[t, t] }) (i : TypeInfo) (z : Value) (size bytes : Nat) (ht : Tryz.prog.underlying t = some (.slice e)) (hi : Tryz.prog.info? e = some i) (hz : i.zero = some z) (hs : i.size = size) (hby : i.bytes = bytes) (hzs : z.cells.size = size) (hsz : 0 < size)
    (B : Nat) (v : Value) (hsv : a.eval s = v) (n : Nat) (xs : List Value) (hown : w.ownsRow B e size v n xs) (A : Option Addr) (m c : Nat) (hx : a.eval x = .slice A m c) (news : List Value) (hl : news.length = m * size) (hL : Lies w A news) (h1 : ∀ u ∈ news, u.oneCell' = true) (h63 : n + m ≤ 10000000) (hby2 : bytes ≤ 1000) (hB : B ≤ w.heap.size)
    (hK : ∀ A' c' w', w'.ownsRow B e size (.slice A' (n + m) c') (n + m) (xs ++ news) → w.grownBy w' v.ownBlock → wpList Tryz.prog ops Q rest (a.put o.dst (.slice A' (n + m) c')) w') : wpList Tryz.prog ops Q (o :: rest) a w :=
  wpList_plain hgd fun K hK2 => by
    obtain ⟨A', c', w', hrun, h2, h3⟩ := run_app (P := Tryz.prog) o.type t e i z size bytes ht hi hz hs hby hzs hsz B v n xs hown A m c news hl hL h1 h63 hby2 hB
    unfold Oper.wp execOp
    simp only [ho, resolve, invoke, builtin, Sem.run_bind, Sem.run_pure, Result.andThen_ok, List.map_toArray, List.map_cons, List.map_nil, hsv, hx, hrun]
    exact hK2 _ _ (hK A' c' w' h2 h3)
theorem ecells_one (l : List (Nat × Nat)) : ∀ v ∈ ecells l, v.oneCell' = true := by
  intro v hv
  unfold ecells at hv
  obtain ⟨r, _, hr⟩ := List.mem_flatMap.1 hv
  simp at hr
  rcases hr with rfl | rfl <;> rfl
theorem ecells_app (a b : List (Nat × Nat)) : ecells (a ++ b) = ecells a ++ ecells b := by unfold ecells; rw [List.flatMap_append]
set_option maxRecDepth 100000 in
set_option maxHeartbeats 1600000 in
theorem clone_ext (A : Option Addr) (l : List (Nat × Nat)) (cap : Nat) (w : World) (hn : l.length ≤ 1000000) (hL : Lies w A (ecells l)) :
    Calls Tryz.prog 44 #[.slice A l.length cap] w fun e w' => ∃ A' c', e = .returned (.slice A' l.length c') ∧ w'.ownsRow w.heap.size 90 2 (.slice A' l.length c') l.length (ecells l) ∧ Below w.heap.size w w' := by
  obtain ⟨i0, hi, hz0, hz1, hz2⟩ := info_parts info90
  have hq : ∀ (w : World) (a : Option Addr) (n c n' c' : Nat), (binOp .eql 67 (.slice a n c) (.slice none n' c')).run Tryz.prog w = .ok (.bool a.isNone) w := fun w a n c n' c' => Lib.run_eql_slice_nil w _ _ a n c n' c' Tryz.underlying67
  have hx := ecells_length l
  have h1 := ecells_one l
  obtain ⟨xs, hxs⟩ : ∃ q, ecells l = q := ⟨_, rfl⟩
  obtain ⟨n, hnn⟩ : ∃ q, l.length = q := ⟨_, rfl⟩
  rw [hxs, hnn] at hx
  rw [hxs] at h1 hL ⊢
  rw [hnn] at hn ⊢
  clear hxs hnn
  cases A with
  | none =>
    obtain rfl : n = 0 := by
      rcases Nat.eq_zero_or_pos n with h | h
      · exact h
      · obtain ⟨g, o, e, _⟩ := hL (by omega); cases e
    obtain rfl : xs = [] := List.eq_nil_of_length_eq_zero (by omega)
    clear hL h1 hx
    go_enter Tryz.func44, Tryz.ntmps44
    go_wp2
    go_ret
    exact ⟨none, 0, rfl, World.ownsRow_nil _ _ _ _, Below.refl _ _⟩
  | some a =>
    have HL := Lib.hid (show ∀ j u, xs[j]? = some u → (w.alloc (.cells #[] 90)).cell? (a.add j) = some u from fun j u hu => by
      obtain ⟨g, o, e, hl, hc⟩ := hL (by have := (List.getElem?_eq_some_iff.1 hu).1; omega)
      injection e with e
      rw [e, add_lit']
      exact ((below_alloc w _).cell (p := ⟨g, o + j, none⟩) hl).trans (hc j u hu))
    have H1 := Lib.hid h1
    have HX := Lib.hid hx
    clear hL h1 hx
    go_enter Tryz.func44, Tryz.ntmps44
    go_wp2_with (at_builtin; refine wpList_append_own _ rfl _ _ 67 rfl w.heap.size 90 i0 _ 2 16 Tryz.underlying67 hi hz0 hz1 hz2 rfl (by decide) _ _ _ rfl (World.ownsRow_made w #[] 0 (Nat.le_refl _) (Nat.zero_le _) rfl) a n cap xs rfl HX.out HL.out H1.out ?c4 ?c5 ?c6 ?_)
    case c4 => simp only [maxLen]; omega
    case c5 => omega
    case c6 => simp
    intro v' w1 hown hgrow hnil
    obtain ⟨A', c', rfl⟩ := own_form' hown
    go_wp2
    go_ret
    exact ⟨A', c', by simp, by simpa using hown, ((Below.refl _ w).alloc (Nat.le_refl _) _).grown hgrow (by simp) (by intro k hk; simp [Value.ownBlock] at hk; omega)⟩
end Go.Proofs.YtcmcdddnckcpcaaGreatDoor
/- file.Append, walked. -/
namespace Go.Proofs.YtcmcdddnckcpcaaGreatDoor
open Go.RowKit Go.Maps
/-- The last sector of a file; what stands in it. -/
def lastS (m : StoM) (f : FileM) : Nat := ((secL (m.most + 7) f.ext)[sumN f.ext - 1]?).getD 0
def appL (m : StoM) (f : FileM) : List Nat := if f.size % 512 = 0 then [] else [lastS m f]
def appD (m : StoM) (f : FileM) : Bs := if f.size % 512 = 0 then [] else (secAt m.ds.vis (lastS m f)).take (f.size % 512)
/-- What Append finds, ahead of writing: the units, the sectors, the bytes, the file. -/
def preA (m : StoM) (name data : Bs) : Nat × Option (List Bool × List Nat × Bs × FileM) :=
  if goodF name = false then (11, none) else match fileOf m.F name with
  | none => (9, none)
  | some f => if 1048576 < f.size + data.length then (6, none) else if data = [] then (0, none) else
    match takeS m.T (needsN (f.size + data.length) - sumN f.ext) (64 - f.ext.length) with
    | none => (8, none)
    | some (l, T1) => (0, some (T1, appL m f ++ secL (m.most + 7) l, appD m f ++ data, ⟨name, f.entry, f.size + data.length, f.ext ++ l⟩))
def AppendP (X : List Nat) (S D Lg M : Nat) (m : StoM) (p : Nat × Option (List Bool × List Nat × Bs × FileM)) (w : World) (e : Ending) (w' : World) : Prop :=
  (p.2 = none → e = .returned (.int .i64 (p.1 : Nat)) ∧ Below w.heap.size w w' ∧ Sto w' X S D Lg M m) ∧
  ∀ T2 L dt f, p.2 = some (T2, L, dt, f) → PutP X S D Lg M m T2 L dt f w e w'
/-- What Take hands back. -/
def TakeR (T : List Bool) (k most B : Nat) (w' : World) (VA : Value) (VN : Int) (VP : ByteArray) (VE : Int) : Prop :=
  (takeS T k most = none ∧ VA = .slice none 0 0 ∧ VN = 0 ∧ VP = ⟨#[]⟩ ∧ VE = 8) ∨
  ∃ l T1 A4 c4, takeS T k most = some (l, T1) ∧ VA = .slice A4 l.length c4 ∧ VN = T1.length ∧ VP = mk (packB T1) ∧ VE = 0 ∧ Lies w' A4 (ecells l) ∧ Typed w' A4 90 ∧ ∀ g, A4 = some g → B ≤ g.block
theorem take_rel (T : List Bool) (k most : Nat) (w : World) (hn : T.length ≤ 4096) (hk : k ≤ 2199023255552) (hm : most ≤ 2199023255552) : Calls Tryz.prog 39 #[spv T, .int .i64 k, .int .i64 most] w fun e w' =>
    ∃ VA VN VP VE, e = .returned (.tuple #[VA, .agg #[.int .i64 VN, .string VP], .int .i64 VE]) ∧ TakeR T k most w.heap.size w' VA VN VP VE ∧ Below w.heap.size w w' := by
  refine (take_all T k most w hn hk hm).mono ?_
  rintro e w' ⟨h1, h2, hb⟩
  cases ht : takeS T k most with
  | none => exact ⟨_, _, _, _, h2 ht, .inl ⟨ht, rfl, rfl, rfl, rfl⟩, hb⟩
  | some p =>
    obtain ⟨l, T1⟩ := p
    obtain ⟨A, c, he, hrow⟩ := h1 l T1 ht
    exact ⟨_, _, _, _, he, .inr ⟨l, T1, A, c, ht, rfl, rfl, rfl, rfl, Lies.of_row hrow, Typed.of_row hrow, fun g hg => own_ge hrow g hg⟩, hb⟩
theorem TakeR.low {T : List Bool} {k most B B' : Nat} {w : World} {VA : Value} {VN : Int} {VP : ByteArray} {VE : Int} (h : TakeR T k most B w VA VN VP VE) (hb : B' ≤ B) : TakeR T k most B' w VA VN VP VE := by
  rcases h with h | ⟨l, T1, A4, c4, h0, h1, h2, h3, h4, h5, h6, h7⟩
  · exact .inl h
  · exact .inr ⟨l, T1, A4, c4, h0, h1, h2, h3, h4, h5, h6, fun g hg => Nat.le_trans hb (h7 g hg)⟩
theorem TakeR.below {T : List Bool} {k most B : Nat} {w w' : World} {VA : Value} {VN : Int} {VP : ByteArray} {VE : Int} (h : TakeR T k most B w VA VN VP VE) (hb : Below w.heap.size w w') : TakeR T k most B w' VA VN VP VE := by
  rcases h with h | ⟨l, T1, A4, c4, h0, h1, h2, h3, h4, h5, h6, h7⟩
  · exact .inl h
  · exact .inr ⟨l, T1, A4, c4, h0, h1, h2, h3, h4, h5.below (Nat.le_refl _) hb, h6.below hb, h7⟩
theorem lastS_at {m : StoM} {f : FileM} (hs : sumN f.ext = needsN f.size) (hz : ¬ f.size % 512 = 0) : ∃ h : sumN f.ext - 1 < (secL (m.most + 7) f.ext).length, lastS m f = (secL (m.most + 7) f.ext)[sumN f.ext - 1] ∧ 1 ≤ sumN f.ext := by
  have h1 : 1 ≤ sumN f.ext := by rw [hs]; unfold needsN; omega
  have h2 : sumN f.ext - 1 < (secL (m.most + 7) f.ext).length := by rw [secL_length]; omega
  exact ⟨h2, by unfold lastS; rw [List.getElem?_eq_getElem h2, Option.getD_some], h1⟩
theorem lastS_lt {m : StoM} (hb : StoB m) {f : FileM} (hx : ∀ x ∈ f.ext, x.1 + x.2 ≤ m.T.length) (hs : sumN f.ext = needsN f.size) (hz : ¬ f.size % 512 = 0) : lastS m f < m.ds.L.length := by
  obtain ⟨h1, h2, _⟩ := lastS_at (m := m) hs hz
  obtain ⟨x, hm, h3, h4⟩ := secL_mem (List.getElem_mem h1)
  have := hx x hm
  have := hb.ll
  omega
set_option maxRecDepth 100000 in
set_option maxHeartbeats 4000000 in
theorem fappend_any (X : List Nat) (S D Lg M : Nat) (m : StoM) (name data : Bs) (w : World) (h : Sto w X S D Lg M m) (hb : StoB m) (h1 : m.off = false) (h2 : m.ds.off = false) (hn : name.length ≤ maxLen) (hd : data.length ≤ 1099511627776)
    (hsum : ∀ f ∈ m.F, sumN f.ext = needsN f.size) :
    Calls Tryz.prog 16 #[.pointer (some ⟨S, 0, none⟩), .string (mk name), .string (mk data)] w (AppendP X S D Lg M m (preA m name data) w) := by
  obtain ⟨ad, hFM, hEX⟩ := h.map
  have KF := find_ok X S D Lg M m ad name w h hFM h1 h2 hn
  have zd := mk_size data
  by_cases hE : findE m.F name = 0
  case neg =>
    have hR : preA m name data = (findE m.F name, none) := by
      unfold preA
      unfold findE at hE ⊢
      cases hg : goodF name with
      | false => rfl
      | true =>
        rw [hg] at hE
        cases hc : fileOf m.F name with
        | none => rfl
        | some f => rw [hc] at hE; exact absurd rfl hE
    have hN : findE m.F name = 9 ∨ findE m.F name = 11 := by
      unfold findE at hE ⊢
      split <;> simp_all
    rw [hR]
    obtain ⟨a, A, k, c, hv⟩ := findV_form ad m.F name
    rw [hv] at KF
    have HST := Lib.hid h
    obtain ⟨NM, hNM⟩ : ∃ q, mk name = q := ⟨_, rfl⟩
    obtain ⟨DT, hDT⟩ : ∃ q, mk data = q := ⟨_, rfl⟩
    obtain ⟨z, hzz⟩ : ∃ q, sizeW m.F name = q := ⟨_, rfl⟩
    obtain ⟨N, hNN⟩ : ∃ q, findE m.F name = q := ⟨_, rfl⟩
    rw [hNM, hzz, hNN] at KF
    rw [hNM, hNN, hDT]
    rw [hNN] at hN
    clear h hb h1 h2 hn hFM hEX hv hNM hzz hNN hE hR hDT zd hd hsum
    rcases hN with rfl | rfl
    all_goals
      go_enter Tryz.func16, Tryz.ntmps16
      go_wp2_with (first | (go_at_call 37; refine KF.mono ?_; rintro e w1 ⟨rfl, hb1⟩; have HB1 := Lib.hid hb1; clear hb1))
      go_ret
      have hbF := HB1.out.alloc HB1.out.size (.cells #[.int .i64 a, .int .i64 (z : Int), .slice A k c] 69)
      exact ⟨fun _ => ⟨rfl, hbF, HST.out.below hbF⟩, fun _ _ _ _ h => by cases h⟩
  case pos =>
    obtain ⟨f, hf, hg⟩ : ∃ f, fileOf m.F name = some f ∧ goodF name = true := by
      unfold findE at hE
      split at hE
      · rename_i hg
        cases hc : fileOf m.F name with
        | none => rw [hc] at hE; simp at hE
        | some f => exact ⟨f, rfl, hg⟩
      · cases hE
    have hV : findV ad m.F name = inoV ad f := by unfold findV; rw [if_pos hg, hf]; rfl
    have hfm := fileOf_mem hf
    have hfn := fileOf_name hf
    have hPR : preA m name data = if 1048576 < f.size + data.length then (6, none) else if data = [] then (0, none) else
        match takeS m.T (needsN (f.size + data.length) - sumN f.ext) (64 - f.ext.length) with
        | none => (8, none)
        | some (l, T1) => (0, some (T1, appL m f ++ secL (m.most + 7) l, appD m f ++ data, ⟨name, f.entry, f.size + data.length, f.ext ++ l⟩)) := by unfold preA; rw [if_neg (by rw [hg]; decide), hf]
    have HPR := Lib.hid hPR
    obtain ⟨P, hP⟩ : ∃ q, preA m name data = q := ⟨_, rfl⟩
    rw [hP]
    have HP := Lib.hid hP
    clear hP
    rw [hE, hV] at KF
    obtain ⟨hx1, hx2, hx3⟩ := hEX f hfm
    unfold inoV at KF
    obtain ⟨⟨A, c⟩, hA⟩ : ∃ q, ad f.name = q := ⟨_, rfl⟩
    rw [hA] at KF hx1 hx2 hx3
    dsimp only at KF hx1 hx2 hx3
    have hexb := hb.exb f hfm
    have hexl := hb.exl f hfm
    have hfe := hb.ent f hfm
    have hfz := hb.siz f hfm
    have hfs := hsum f hfm
    have HST := Lib.hid h
    have HBB := Lib.hid hb
    have HF := Lib.hid (And.intro hexb (And.intro hexl (And.intro hfe (And.intro hfz (And.intro hfs (And.intro hfn (goodF_len hg)))))))
    have HLA := Lib.hid (And.intro hx1 (And.intro hx2 hx3))
    have HSLT := Lib.hid (show ∀ x ∈ S :: M :: X, x < w.heap.size from fun x hx => by
        rcases List.mem_cons.1 hx with rfl | hx
        · exact h.blk.lt
        · rcases List.mem_cons.1 hx with rfl | hx
          · exact hFM.lt
          · exact h.dsk.lt x hx)
    have KS := fun (l : List (Nat × Nat)) (A : Option Addr) (c : Nat) (w5 : World) hS hA (h1 : l.length ≤ 1000) (h2 : ∀ x ∈ l, x.1 + x.2 ≤ m.T.length) (h3 : sumN l ≤ 100000) => sectors_any S m.most A c l w5 hS (by have := hb.mo; omega) hA h1 (fun x hx => by have := h2 x hx; have := hb.tl; omega) (by rw [secL_length]; exact h3)
    have HKS := Lib.hid KS
    obtain ⟨NM, hNM⟩ : ∃ q, mk name = q := ⟨_, rfl⟩
    obtain ⟨DT, hDT⟩ : ∃ q, mk data = q := ⟨_, rfl⟩
    obtain ⟨dl, hdl⟩ : ∃ q, data.length = q := ⟨_, rfl⟩
    obtain ⟨xl, hxl⟩ : ∃ q, f.ext.length = q := ⟨_, rfl⟩
    obtain ⟨sz, hsz⟩ : ∃ q, f.size = q := ⟨_, rfl⟩
    obtain ⟨fe, hfeq⟩ : ∃ q, f.entry = q := ⟨_, rfl⟩
    rw [hNM, hsz, hfeq, hxl] at KF
    rw [hDT, hdl] at zd
    rw [hNM, hDT]
    have HNM := Lib.hid hNM
    have HDT := Lib.hid hDT
    have HDL := Lib.hid hdl
    have HXL := Lib.hid hxl
    have HSZ := Lib.hid hsz
    have HFE := Lib.hid hfeq
    have hszb : (sz : Int) ≤ 1048576 := by omega
    have hsz0 : (0 : Int) ≤ (sz : Int) := by omega
    have hdlb : (dl : Int) ≤ 1099511627776 := by omega
    have hdl0 : (0 : Int) ≤ (dl : Int) := by omega
    by_cases hlong : 1048576 < f.size + data.length
    · have HE : P = (6, none) := by rw [← HP.out, HPR.out, if_pos hlong]
      subst HE
      have hlong2 : (dl : Int) > 1048576 - (sz : Int) := by omega
      clear h hb h1 h2 hn hFM hEX hE hf hg hV hfm hfn hPR hx1 hx2 hx3 hA hexb hexl hfe hfz hfs KS hNM hDT hdl hxl hsz hfeq hlong hsum hd
      go_enter Tryz.func16, Tryz.ntmps16
      go_wp2_with (first | (go_at_call 37; refine KF.mono ?_; rintro e w1 ⟨rfl, hb1⟩; have HB1 := Lib.hid hb1; clear hb1))
      go_ret
      have hbF := HB1.out.alloc HB1.out.size (.cells #[.int .i64 (fe : Int), .int .i64 (sz : Int), .slice A xl c] 69)
      exact ⟨fun _ => ⟨rfl, hbF, HST.out.below hbF⟩, fun _ _ _ _ h => by cases h⟩
    have hlong2 : ¬ ((dl : Int) > 1048576 - (sz : Int)) := by omega
    by_cases hemp : data = []
    · have HE : P = (0, none) := by rw [← HP.out, HPR.out, if_neg hlong, if_pos hemp]
      subst HE
      subst hemp
      have hDT0 : DT = ⟨#[]⟩ := by rw [← hDT]; rfl
      subst hDT0
      clear h hb h1 h2 hn hFM hEX hE hf hg hV hfm hfn hPR hx1 hx2 hx3 hA hexb hexl hfe hfz hfs KS hNM hDT hxl hsz hfeq hlong hsum hd
      go_enter Tryz.func16, Tryz.ntmps16
      go_wp2_with (first | (go_at_call 37; refine KF.mono ?_; rintro e w1 ⟨rfl, hb1⟩; have HB1 := Lib.hid hb1; clear hb1))
      go_ret
      have hbF := HB1.out.alloc HB1.out.size (.cells #[.int .i64 (fe : Int), .int .i64 (sz : Int), .slice A xl c] 69)
      exact ⟨fun _ => ⟨rfl, hbF, HST.out.below hbF⟩, fun _ _ _ _ h => by cases h⟩
    have hnN : sumN f.ext = needsN sz := by rw [hfs, hsz]
    have hn63 : sumN f.ext ≤ 2048 := by rw [hnN]; unfold needsN; omega
    have hle : sumN f.ext ≤ needsN (sz + dl) := by rw [hnN]; unfold needsN; omega
    have hPR2 : P = match takeS m.T (needsN (sz + dl) - sumN f.ext) (64 - xl) with
        | none => (8, none)
        | some (l, T1) => (0, some (T1, appL m f ++ secL (m.most + 7) l, appD m f ++ data, ⟨name, f.entry, f.size + data.length, f.ext ++ l⟩)) := by
      rw [← HP.out, HPR.out, if_neg hlong, if_neg hemp]
      simp only [hsz, hdl, hxl]
    have HPR2 := Lib.hid hPR2
    have KN := fun w1 : World => needs_any (sz + dl) w1 (by omega)
    have KT := fun w1 : World => take_rel m.T (needsN (sz + dl) - sumN f.ext) (64 - xl) w1 hb.tl (by unfold needsN; omega) (by omega)
    have hN1 : needsN (sz + dl) = (sz + dl + 511) / 512 := rfl
    obtain ⟨N1, hN1q⟩ : ∃ q, needsN (sz + dl) = q := ⟨_, rfl⟩
    have hN1b : N1 ≤ 2048 := by rw [← hN1q]; unfold needsN; omega
    rw [← hN1, hN1q] at KN
    rw [hN1q] at KT hle
    obtain ⟨n, hnq⟩ : ∃ q, sumN f.ext = q := ⟨_, rfl⟩
    rw [hnq] at KT hnN hn63 hle
    obtain ⟨KK, hKK⟩ : ∃ q, N1 - n = q := ⟨_, rfl⟩
    rw [hKK] at KT
    have hXE : ((64 - xl : Nat) : Int) = 64 - (xl : Int) := by omega
    have hKE : ((KK : Nat) : Int) = (N1 : Int) - (n : Int) := by omega
    rw [hXE, hKE] at KT
    rw [Int.natCast_add] at KN
    unfold spv at KT
    obtain ⟨tl, htl⟩ : ∃ q, m.T.length = q := ⟨_, rfl⟩
    obtain ⟨PB, hPB⟩ : ∃ q, mk (packB m.T) = q := ⟨_, rfl⟩
    rw [htl, hPB] at KT
    have HKN := Lib.hid KN
    have HKT := Lib.hid KT
    have HTK := Lib.hid (show takeS m.T (needsN (sz + dl) - sumN f.ext) (64 - xl) = takeS m.T KK (64 - xl) by rw [hN1q, hnq, hKK])
    have HNUM := Lib.hid (And.intro hnq (And.intro hnN (And.intro hn63 (And.intro hle (And.intro hKK (And.intro hN1q hN1b))))))
    have HTL := Lib.hid htl
    have x2 := fun w1 (hw : Sto w1 X S D Lg M m) => hw.blk.cell 2
    have x3 := fun w1 (hw : Sto w1 X S D Lg M m) => hw.blk.cell 3
    have x5 := fun w1 (hw : Sto w1 X S D Lg M m) => hw.blk.cell 5
    have x0 := fun w1 (hw : Sto w1 X S D Lg M m) => hw.blk.cell 0
    simp only [stoCells, htl, hPB] at x0 x2 x3 x5
    have HX0 := Lib.hid x0
    have HX2 := Lib.hid x2
    have HX3 := Lib.hid x3
    have HX5 := Lib.hid x5
    have HOFF := Lib.hid h2
    have HGD := Lib.hid h.dsk.good
    have HDE : Hid (data ≠ []) := Lib.hid hemp
    have hDT0 : DT.toList.isEmpty = false := by
      rw [← hDT, mk_toList']
      cases hq : data with
      | nil => exact absurd hq hemp
      | cons a t => rfl
    obtain ⟨i90, hi0, hi1, hi2, hi3⟩ := info_parts info90
    have HLI := Lib.hid (show ∀ l : List (Nat × Nat), (∀ x ∈ l, 1 ≤ x.2 ∧ x.1 + x.2 ≤ m.T.length ∧ ∀ j, x.1 ≤ j → j < x.1 + x.2 → m.T.getD j true = false) → ∀ i ∈ appL m f ++ secL (m.most + 7) l, i < m.ds.L.length from fun l h i hi => by
      rcases List.mem_append.1 hi with hi | hi
      · unfold appL at hi
        split at hi
        · cases hi
        · rename_i hz
          rw [List.mem_singleton] at hi
          subst hi
          exact lastS_lt hb hexb hfs hz
      · exact put_secs hb h i hi)
    have HXB2 := Lib.hid (show ∀ l : List (Nat × Nat), (∀ x ∈ l, 1 ≤ x.2 ∧ x.1 + x.2 ≤ m.T.length ∧ ∀ j, x.1 ≤ j → j < x.1 + x.2 → m.T.getD j true = false) → ∀ x ∈ f.ext ++ l, x.1 ≤ 4096 ∧ x.2 ≤ 4096 from fun l h x hx => by
      have := hb.tl
      rcases List.mem_append.1 hx with hx | hx
      · have := hexb x hx; omega
      · have := (h x hx).2.1; omega)
    have HXB := Lib.hid (show ∀ l : List (Nat × Nat), (∀ x ∈ l, 1 ≤ x.2 ∧ x.1 + x.2 ≤ m.T.length ∧ ∀ j, x.1 ≤ j → j < x.1 + x.2 → m.T.getD j true = false) → ∀ x ∈ f.ext ++ l, x.1 ≤ 1099511627776 ∧ x.2 ≤ 1099511627776 from fun l h x hx => by have := HXB2.out l h x hx; omega)
    have mixed : Tryz.prog.follows Departure.mixedOrders = true := by kernel_rfl
    clear h hb h1 h2 hn hFM hEX hE hf hg hV hfm hfn hPR hx1 hx2 hx3 hA hexb hexl hfe hfz hfs KS hNM hDT hdl hxl hsz hfeq hlong hsum hd hemp hPR2 KN KT hXE hKE hN1 hN1q hnq hKK hnN htl hPB x0 x2 x3 x5
    go_enter Tryz.func16, Tryz.ntmps16
    go_upto_region 8 with (first | (go_at_call 37; refine KF.mono ?_; rintro e w1 ⟨rfl, hb1⟩; have HB1 := Lib.hid hb1; clear hb1))
    have hB7 := Blk.new w1 #[.int .i64 (fe : Int), .int .i64 (sz : Int), .slice A xl c] 69
    have hbw := HB1.out.alloc HB1.out.size (.cells #[.int .i64 (fe : Int), .int .i64 (sz : Int), .slice A xl c] 69)
    have hH7 := HB1.out.size
    obtain ⟨H7, hH⟩ : ∃ q, w1.heap.size = q := ⟨_, rfl⟩
    obtain ⟨W1, hW⟩ : ∃ q, w1.alloc (.cells #[.int .i64 (fe : Int), .int .i64 (sz : Int), .slice A xl c] 69) = q := ⟨_, rfl⟩
    rw [hH] at hB7 hH7
    simp only [hW] at hB7 hbw ⊢
    try simp only [hH]
    have hst1 := HST.out.below hbw
    have y5 := HX5.out W1 hst1
    simp at y5
    have KS1 := HKS.out f.ext A c W1 y5 (HLA.out.1.below (Nat.le_refl _) hbw) (by have := HF.out.2.1; omega) HF.out.1 (by have := HNUM.out.1; have := HNUM.out.2.2.1; omega)
    rw [secL_length, HXL.out, HNUM.out.1] at KS1
    have q2 := hB7.cell 2
    have lt7 := hB7.lt
    simp at q2
    have HB7 := Lib.hid hB7
    have HBW := Lib.hid hbw
    have HH7 := Lib.hid hH7
    clear hH hW hB7 hbw hst1 hH7 y5
    go_upto_region 9 with (first | (go_at_call 43; refine KS1.mono ?_; rintro e w2 ⟨⟨A2, c2, rfl, hrow⟩, hb2⟩; have HR2 := Lib.hid (And.intro hrow hb2); clear hrow hb2 KS1 q2 lt7))
    have hst2 := HST.out.below (HBW.out.trans (HR2.out.2.mono HBW.out.size))
    have y0 := HX0.out w2 hst2
    have y2 := HX2.out w2 hst2
    have y3 := HX3.out w2 hst2
    have y5 := HX5.out w2 hst2
    have hB72 := HB7.out.below HR2.out.2
    have z1 := hB72.cell 1
    have z2 := hB72.cell 2
    simp at y0 y2 y3 y5 z1 z2
    have HY := Lib.hid (And.intro y2 (And.intro y3 (And.intro z1 (And.intro z2 (And.intro hst2.blk.lt hB72.lt)))))
    have HB72 := Lib.hid hB72
    have HBW2 := Lib.hid (HBW.out.trans (HR2.out.2.mono HBW.out.size))
    have HST2 := Lib.hid hst2
    clear hst2 y0 y2 y3 y5 hB72 z1 z2
    obtain ⟨W2, hW2⟩ : ∃ q, w2 = q := ⟨_, rfl⟩
    rw [hW2] at HR2 HY HB72 HBW2 HST2 ⊢
    clear hW2
    have wa1 : IntKind.i64.wrap ((sz : Int) + (dl : Int)) = (sz : Int) + (dl : Int) := by simp [IntKind.wrap, IntKind.bits, IntKind.signed]; omega
    have wa2 : IntKind.i64.wrap (64 - (xl : Int)) = 64 - (xl : Int) := by have := HF.out.2.1; have := HXL.out; simp [IntKind.wrap, IntKind.bits, IntKind.signed]; omega
    have wa3 : IntKind.i64.wrap ((N1 : Int) - (n : Int)) = (N1 : Int) - (n : Int) := by have := HNUM.out; simp [IntKind.wrap, IntKind.bits, IntKind.signed]; omega
    go_cut [8, 10, 11] from 40 to 61 (fun s8 s10 s11 wx => ∃ H11, s11 = .pointer (some ⟨H11, 0, none⟩) ∧ W2.heap.size ≤ H11 ∧ Below W2.heap.size W2 wx ∧
      ((takeS m.T KK (64 - xl) = none ∧ s8 = .int .i64 8) ∨ (∃ l T1 A4 c4, takeS m.T KK (64 - xl) = some (l, T1) ∧ s8 = .int .i64 0 ∧ s10 = .slice A4 l.length c4 ∧ Lies wx A4 (ecells l) ∧ Typed wx A4 90 ∧ (∀ g, A4 = some g → W2.heap.size ≤ g.block) ∧ Blk wx H11 #[.int .i64 T1.length, .string (mk (packB T1))] 76)))
    case first =>
      refine wp_region_held (S := fun w' => Below W2.heap.size W2 w') mixed ?_
      change wpAnyH _ _ _ _ _ _ _ _ W2.drew
      have hS0 : Below W2.heap.size W2 W2.drew := (Below.refl _ _).drew
      obtain ⟨W0, hW0⟩ : ∃ q, W2.drew = q := ⟨_, rfl⟩
      rw [hW0] at hS0 ⊢
      clear hW0
      refine wpAnyH_take (i := 0) (v := .pointer (some ⟨S, 0, none⟩)) rfl (by kernel_rfl) (by kernel_rfl) (by kernel_rfl) (fun c a w h => h) (.inl ⟨by kernel_rfl, fun w' hS => ?_⟩) hS0 ?_
      · clear hS; go_simp
      try go_simp
      refine wpAnyH_take (i := 1) (v := .pointer (some ⟨S, 0, none⟩)) rfl (by kernel_rfl) (by kernel_rfl) (by kernel_rfl) (fun c a w h => h) (.inl ⟨by kernel_rfl, fun w' hS => ?_⟩) hS0 ?_
      · clear hS; go_simp
      try go_simp
      refine wpAnyH_take (i := 2) (v := .pointer (some ⟨S, 2, none⟩)) rfl (by kernel_rfl) (by kernel_rfl) (by kernel_rfl) (fun c a w h => h) (.inl ⟨by kernel_rfl, fun w' hS => ?_⟩) hS0 ?_
      · clear hS; go_simp
      try go_simp
      refine wpAnyH_take (i := 3) (v := .agg #[.int .i64 (tl : Int), .string PB]) rfl (by kernel_rfl) (by kernel_rfl) (by kernel_rfl) (fun c a w h => h) (.inl ⟨by kernel_rfl, fun w' hS => ?_⟩) hS0 ?_
      · have q0 := (hS.cell (p := ⟨S, 2, none⟩) HY.out.2.2.2.2.1).trans HY.out.1; have q1 := (hS.cell (p := ⟨S, 3, none⟩) HY.out.2.2.2.2.1).trans HY.out.2.1; go_simp
      try go_simp
      refine wpAnyH_take (i := 4) (v := .pointer (some ⟨H7, 1, none⟩)) rfl (by kernel_rfl) (by kernel_rfl) (by kernel_rfl) (fun c a w h => h) (.inl ⟨by kernel_rfl, fun w' hS => ?_⟩) hS0 ?_
      · clear hS; go_simp
      try go_simp
      refine wpAnyH_take (i := 5) (v := .int .i64 (sz : Int)) rfl (by kernel_rfl) (by kernel_rfl) (by kernel_rfl) (fun c a w h => h) (.inl ⟨by kernel_rfl, fun w' hS => ?_⟩) hS0 ?_
      · have q0 := (hS.cell (p := ⟨H7, 1, none⟩) HY.out.2.2.2.2.2).trans HY.out.2.2.1; go_simp
      try go_simp
      refine wpAnyH_take (i := 6) (v := .string DT) rfl (by kernel_rfl) (by kernel_rfl) (by kernel_rfl) (fun c a w h => h) (.inl ⟨by kernel_rfl, fun w' hS => ?_⟩) hS0 ?_
      · clear hS; go_simp
      try go_simp
      refine wpAnyH_take (i := 7) (v := .int .i64 (dl : Int)) rfl (by kernel_rfl) (by kernel_rfl) (by kernel_rfl) (fun c a w h => h) (.inl ⟨by kernel_rfl, fun w' hS => ?_⟩) hS0 ?_
      · clear hS; go_simp
      try go_simp
      refine wpAnyH_take (i := 8) (v := .int .i64 ((sz : Int) + (dl : Int))) rfl (by kernel_rfl) (by kernel_rfl) (by kernel_rfl) (fun c a w h => h) (.inl ⟨by kernel_rfl, fun w' hS => ?_⟩) hS0 ?_
      · clear hS; go_simp
      try go_simp
      refine wpAnyH_take (i := 10) (v := .slice A2 n c2) rfl (by kernel_rfl) (by kernel_rfl) (by kernel_rfl) (fun c a w h => h) (.inl ⟨by kernel_rfl, fun w' hS => ?_⟩) hS0 ?_
      · clear hS; go_simp
      try go_simp
      refine wpAnyH_take (i := 11) (v := .int .i64 (n : Int)) rfl (by kernel_rfl) (by kernel_rfl) (by kernel_rfl) (fun c a w h => h) (.inl ⟨by kernel_rfl, fun w' hS => ?_⟩) hS0 ?_
      · clear hS; go_simp
      try go_simp
      refine wpAnyH_take (i := 13) (v := .pointer (some ⟨H7, 2, none⟩)) rfl (by kernel_rfl) (by kernel_rfl) (by kernel_rfl) (fun c a w h => h) (.inl ⟨by kernel_rfl, fun w' hS => ?_⟩) hS0 ?_
      · clear hS; go_simp
      try go_simp
      refine wpAnyH_take (i := 14) (v := .slice A xl c) rfl (by kernel_rfl) (by kernel_rfl) (by kernel_rfl) (fun c a w h => h) (.inl ⟨by kernel_rfl, fun w' hS => ?_⟩) hS0 ?_
      · have q0 := (hS.cell (p := ⟨H7, 2, none⟩) HY.out.2.2.2.2.2).trans HY.out.2.2.2.1; go_simp
      try go_simp
      refine wpAnyH_take (i := 15) (v := .int .i64 (xl : Int)) rfl (by kernel_rfl) (by kernel_rfl) (by kernel_rfl) (fun c a w h => h) (.inl ⟨by kernel_rfl, fun w' hS => ?_⟩) hS0 ?_
      · clear hS; go_simp
      try go_simp
      refine wpAnyH_take (i := 16) (v := .int .i64 (64 - (xl : Int))) rfl (by kernel_rfl) (by kernel_rfl) (by kernel_rfl) (fun c a w h => h) (.inl ⟨by kernel_rfl, fun w' hS => ?_⟩) hS0 ?_
      · clear hS; go_simp
      try go_simp
      refine wpAnyH_all (rs := [9, 22]) (by kernel_rfl) (by simp) ?_
      intro i hi
      simp only [List.mem_cons, List.not_mem_nil, or_false] at hi
      rcases hi with rfl | rfl
      · unfold wpOp
        go_simp
        refine .inl ?_
        go_at_call 40
        refine (HKN.out W0).mono ?_
        rintro e w' ⟨rfl, hw⟩
        obtain rfl := hw.symm
        refine ⟨hS0, ?_⟩
        try go_simp
        refine wpAnyH_take (i := 12) (v := .int .i64 ((N1 : Int) - (n : Int))) rfl (by kernel_rfl) (by kernel_rfl) (by kernel_rfl) (fun c a w h => h) (.inl ⟨by kernel_rfl, fun w' hS => ?_⟩) hS0 ?_
        · clear hS; go_simp
        try go_simp
        refine wpAnyH_all (rs := [17, 22]) (by kernel_rfl) (by simp) ?_
        intro i hi
        simp only [List.mem_cons, List.not_mem_nil, or_false] at hi
        rcases hi with rfl | rfl
        · unfold wpOp
          go_simp
          refine .inl ?_
          go_at_call 39
          refine (HKT.out W0).mono ?_
          rintro e w3 ⟨VA, VN, VP, VE, rfl, htr, hb3⟩
          have hS3 := hS0.trans (hb3.mono hS0.size)
          have HV0 := Lib.hid (htr.low hS0.size)
          refine ⟨hS3, ?_⟩
          try go_simp
          clear hS0 hb3 htr
          refine wpAnyH_take (i := 18) (v := .tuple #[VA, .agg #[.int .i64 VN, .string VP], .int .i64 VE]) rfl (by kernel_rfl) (by kernel_rfl) (by kernel_rfl) (fun c a w h => h) (.inl ⟨by kernel_rfl, fun w' hS => ?_⟩) hS3 ?_
          · clear hS; go_simp
          try go_simp
          refine wpAnyH_take (i := 19) (v := VA) rfl (by kernel_rfl) (by kernel_rfl) (by kernel_rfl) (fun c a w h => h) (.inl ⟨by kernel_rfl, fun w' hS => ?_⟩) hS3 ?_
          · clear hS; go_simp
          try go_simp
          refine wpAnyH_take (i := 20) (v := .agg #[.int .i64 VN, .string VP]) rfl (by kernel_rfl) (by kernel_rfl) (by kernel_rfl) (fun c a w h => h) (.inl ⟨by kernel_rfl, fun w' hS => ?_⟩) hS3 ?_
          · clear hS; go_simp
          try go_simp
          refine wpAnyH_take (i := 21) (v := .int .i64 VE) rfl (by kernel_rfl) (by kernel_rfl) (by kernel_rfl) (fun c a w h => h) (.inl ⟨by kernel_rfl, fun w' hS => ?_⟩) hS3 ?_
          · clear hS; go_simp
          try go_simp
          refine wpAnyH_all (rs := [22]) (by kernel_rfl) (by simp) ?_
          intro i hi
          simp only [List.mem_cons, List.not_mem_nil, or_false] at hi
          subst hi
          unfold wpOp
          go_simp
          have hB11 := Blk.new w3 #[.int .i64 0, .string ⟨#[]⟩] 76
          have hge : W2.heap.size ≤ w3.heap.size := hS3.size
          have hS5 := hS3.alloc hS3.size (.cells #[.int .i64 0, .string ⟨#[]⟩] 76)
          have HV := Lib.hid (HV0.out.below (below_alloc w3 (.cells #[.int .i64 0, .string ⟨#[]⟩] 76)))
          obtain ⟨H11, hH11⟩ : ∃ q, w3.heap.size = q := ⟨_, rfl⟩
          rw [hH11] at hB11 hge
          obtain ⟨w5, hw5⟩ : ∃ q, w3.alloc (.cells #[.int .i64 0, .string ⟨#[]⟩] 76) = q := ⟨_, rfl⟩
          rw [hw5] at hB11 hS5 HV ⊢
          try rw [hH11]
          clear hw5 hH11 hS3 HV0
          rename World => w3
          have hS3 := hS5
          clear hS5
          first | refine .inl ⟨hS3, ?_⟩ | refine ⟨hS3, ?_⟩
          -- from: w3, hB11 : Blk w3 H11 #[0, ""] 76; hS3 : Below W2.heap.size W2 w3; hge : W2.heap.size ≤ H11; VA VB VC: the call's results; HV : Hid what they are at w3
          refine wpAnyH_take (i := 23) (v := VA) rfl (by kernel_rfl) (by kernel_rfl) (by kernel_rfl) (fun c a w h => h) (.inl ⟨by kernel_rfl, fun w' hS => ?_⟩) hS3 ?_
          · clear hS; go_simp
          try go_simp
          refine wpAnyH_all (rs := [24]) (by kernel_rfl) (by simp) ?_
          intro i hi
          simp only [List.mem_cons, List.not_mem_nil, or_false] at hi
          subst hi
          unfold wpOp
          have c0 := hB11.cell 0
          have c1 := hB11.cell 1
          have f0 := hB11.frozen 0
          have f1 := hB11.frozen 1
          simp at c0 c1
          have l11 := hB11.lt
          go_simp
          have hB114 := (hB11.set 0 (.int .i64 VN)).set 1 (.string VP)
          have hS4 := below_set (below_set hS3 H11 0 (.int .i64 VN) hge) H11 1 (.string VP) hge
          have hg4 := grown_set2 w3 H11 0 1 (.int .i64 VN) (.string VP)
          obtain ⟨w4, hw4⟩ : ∃ q, (w3.setCell ⟨H11, 0, none⟩ (.int .i64 VN)).setCell ⟨H11, 1, none⟩ (.string VP) = q := ⟨_, rfl⟩
          rw [hw4] at hB114 hS4 hg4 ⊢
          clear hw4 hS3 c0 c1 f0 f1 l11
          first | refine .inl ⟨hS4, ?_⟩ | refine ⟨hS4, ?_⟩
          refine wpAnyH_all (rs := [25]) (by kernel_rfl) (by simp) ?_
          intro i hi
          simp only [List.mem_cons, List.not_mem_nil, or_false] at hi
          subst hi
          unfold wpOp
          go_simp
          first | refine .inl ⟨hS4, ?_⟩ | refine ⟨hS4, ?_⟩ | refine .inl ?_ | skip
          refine wpAnyH_done (by kernel_rfl) ?_ _
          go_wp2_with fail
          go_meet
          refine ⟨H11, rfl, hge, hS4, ?_⟩
          rcases HV.out with ⟨h0, rfl, rfl, rfl, rfl⟩ | ⟨l, T1, A4, c4, h0, rfl, rfl, rfl, rfl, h1, h2, h3⟩
          · exact .inl ⟨h0, rfl⟩
          · obtain ⟨h4, h5⟩ := h1.grown h2 hg4 (fun g e => by cases e; exact ⟨_, 76, _, hB11, by decide⟩)
            exact .inr ⟨l, T1, A4, c4, h0, rfl, rfl, h4, h5, h3, hB114⟩
        · skip
          unfold wpOp
          go_simp
          have hB11 := Blk.new W0 #[.int .i64 0, .string ⟨#[]⟩] 76
          have hge : W2.heap.size ≤ W0.heap.size := hS0.size
          have hS3 := hS0.alloc hS0.size (.cells #[.int .i64 0, .string ⟨#[]⟩] 76)
          obtain ⟨H11, hH11⟩ : ∃ q, W0.heap.size = q := ⟨_, rfl⟩
          rw [hH11] at hB11 hge
          obtain ⟨w3, hw3⟩ : ∃ q, W0.alloc (.cells #[.int .i64 0, .string ⟨#[]⟩] 76) = q := ⟨_, rfl⟩
          rw [hw3] at hB11 hS3 ⊢
          try rw [hH11]
          clear hw3 hH11 hS0
          first | refine .inl ⟨hS3, ?_⟩ | refine ⟨hS3, ?_⟩
          refine wpAnyH_all (rs := [17]) (by kernel_rfl) (by simp) ?_
          intro i hi
          simp only [List.mem_cons, List.not_mem_nil, or_false] at hi
          subst hi
          unfold wpOp
          go_simp
          refine .inl ?_
          go_at_call 39
          refine (HKT.out w3).mono ?_
          rintro e w5 ⟨VA, VN, VP, VE, rfl, htr, hb3⟩
          have hS5 := hS3.trans (hb3.mono hS3.size)
          have HV := Lib.hid (htr.low hS3.size)
          have hB15 := hB11.below hb3
          refine ⟨hS5, ?_⟩
          try go_simp
          clear hS3 hb3 htr hB11
          rename World => w3
          have hS3 := hS5
          have hB11 := hB15
          clear hS5 hB15
          refine wpAnyH_take (i := 18) (v := .tuple #[VA, .agg #[.int .i64 VN, .string VP], .int .i64 VE]) rfl (by kernel_rfl) (by kernel_rfl) (by kernel_rfl) (fun c a w h => h) (.inl ⟨by kernel_rfl, fun w' hS => ?_⟩) hS3 ?_
          · clear hS; go_simp
          try go_simp
          refine wpAnyH_take (i := 19) (v := VA) rfl (by kernel_rfl) (by kernel_rfl) (by kernel_rfl) (fun c a w h => h) (.inl ⟨by kernel_rfl, fun w' hS => ?_⟩) hS3 ?_
          · clear hS; go_simp
          try go_simp
          refine wpAnyH_take (i := 20) (v := .agg #[.int .i64 VN, .string VP]) rfl (by kernel_rfl) (by kernel_rfl) (by kernel_rfl) (fun c a w h => h) (.inl ⟨by kernel_rfl, fun w' hS => ?_⟩) hS3 ?_
          · clear hS; go_simp
          try go_simp
          refine wpAnyH_take (i := 21) (v := .int .i64 VE) rfl (by kernel_rfl) (by kernel_rfl) (by kernel_rfl) (fun c a w h => h) (.inl ⟨by kernel_rfl, fun w' hS => ?_⟩) hS3 ?_
          · clear hS; go_simp
          try go_simp
          -- from: w3, hB11 : Blk w3 H11 #[0, ""] 76; hS3 : Below W2.heap.size W2 w3; hge : W2.heap.size ≤ H11; VA VB VC: the call's results; HV : Hid what they are at w3
          refine wpAnyH_take (i := 23) (v := VA) rfl (by kernel_rfl) (by kernel_rfl) (by kernel_rfl) (fun c a w h => h) (.inl ⟨by kernel_rfl, fun w' hS => ?_⟩) hS3 ?_
          · clear hS; go_simp
          try go_simp
          refine wpAnyH_all (rs := [24]) (by kernel_rfl) (by simp) ?_
          intro i hi
          simp only [List.mem_cons, List.not_mem_nil, or_false] at hi
          subst hi
          unfold wpOp
          have c0 := hB11.cell 0
          have c1 := hB11.cell 1
          have f0 := hB11.frozen 0
          have f1 := hB11.frozen 1
          simp at c0 c1
          have l11 := hB11.lt
          go_simp
          have hB114 := (hB11.set 0 (.int .i64 VN)).set 1 (.string VP)
          have hS4 := below_set (below_set hS3 H11 0 (.int .i64 VN) hge) H11 1 (.string VP) hge
          have hg4 := grown_set2 w3 H11 0 1 (.int .i64 VN) (.string VP)
          obtain ⟨w4, hw4⟩ : ∃ q, (w3.setCell ⟨H11, 0, none⟩ (.int .i64 VN)).setCell ⟨H11, 1, none⟩ (.string VP) = q := ⟨_, rfl⟩
          rw [hw4] at hB114 hS4 hg4 ⊢
          clear hw4 hS3 c0 c1 f0 f1 l11
          first | refine .inl ⟨hS4, ?_⟩ | refine ⟨hS4, ?_⟩
          refine wpAnyH_all (rs := [25]) (by kernel_rfl) (by simp) ?_
          intro i hi
          simp only [List.mem_cons, List.not_mem_nil, or_false] at hi
          subst hi
          unfold wpOp
          go_simp
          first | refine .inl ⟨hS4, ?_⟩ | refine ⟨hS4, ?_⟩ | refine .inl ?_ | skip
          refine wpAnyH_done (by kernel_rfl) ?_ _
          go_wp2_with fail
          go_meet
          refine ⟨H11, rfl, hge, hS4, ?_⟩
          rcases HV.out with ⟨h0, rfl, rfl, rfl, rfl⟩ | ⟨l, T1, A4, c4, h0, rfl, rfl, rfl, rfl, h1, h2, h3⟩
          · exact .inl ⟨h0, rfl⟩
          · obtain ⟨h4, h5⟩ := h1.grown h2 hg4 (fun g e => by cases e; exact ⟨_, 76, _, hB11, by decide⟩)
            exact .inr ⟨l, T1, A4, c4, h0, rfl, rfl, h4, h5, h3, hB114⟩
      · skip
        unfold wpOp
        go_simp
        have hB11 := Blk.new W0 #[.int .i64 0, .string ⟨#[]⟩] 76
        have hge : W2.heap.size ≤ W0.heap.size := hS0.size
        have hS3 := hS0.alloc hS0.size (.cells #[.int .i64 0, .string ⟨#[]⟩] 76)
        obtain ⟨H11, hH11⟩ : ∃ q, W0.heap.size = q := ⟨_, rfl⟩
        rw [hH11] at hB11 hge
        obtain ⟨w3, hw3⟩ : ∃ q, W0.alloc (.cells #[.int .i64 0, .string ⟨#[]⟩] 76) = q := ⟨_, rfl⟩
        rw [hw3] at hB11 hS3 ⊢
        try rw [hH11]
        clear hw3 hH11 hS0
        first | refine .inl ⟨hS3, ?_⟩ | refine ⟨hS3, ?_⟩
        refine wpAnyH_all (rs := [9]) (by kernel_rfl) (by simp) ?_
        intro i hi
        simp only [List.mem_cons, List.not_mem_nil, or_false] at hi
        subst hi
        unfold wpOp
        go_simp
        refine .inl ?_
        go_at_call 40
        refine (HKN.out w3).mono ?_
        rintro e w' ⟨rfl, hw⟩
        obtain rfl := hw.symm
        refine ⟨hS3, ?_⟩
        try go_simp
        refine wpAnyH_take (i := 12) (v := .int .i64 ((N1 : Int) - (n : Int))) rfl (by kernel_rfl) (by kernel_rfl) (by kernel_rfl) (fun c a w h => h) (.inl ⟨by kernel_rfl, fun w' hS => ?_⟩) hS3 ?_
        · clear hS; go_simp
        try go_simp
        refine wpAnyH_all (rs := [17]) (by kernel_rfl) (by simp) ?_
        intro i hi
        simp only [List.mem_cons, List.not_mem_nil, or_false] at hi
        subst hi
        unfold wpOp
        go_simp
        refine .inl ?_
        go_at_call 39
        refine (HKT.out w3).mono ?_
        rintro e w5 ⟨VA, VN, VP, VE, rfl, htr, hb3⟩
        have hS5 := hS3.trans (hb3.mono hS3.size)
        have HV := Lib.hid (htr.low hS3.size)
        have hB15 := hB11.below hb3
        refine ⟨hS5, ?_⟩
        try go_simp
        clear hS3 hb3 htr hB11
        rename World => w3
        have hS3 := hS5
        have hB11 := hB15
        clear hS5 hB15
        refine wpAnyH_take (i := 18) (v := .tuple #[VA, .agg #[.int .i64 VN, .string VP], .int .i64 VE]) rfl (by kernel_rfl) (by kernel_rfl) (by kernel_rfl) (fun c a w h => h) (.inl ⟨by kernel_rfl, fun w' hS => ?_⟩) hS3 ?_
        · clear hS; go_simp
        try go_simp
        refine wpAnyH_take (i := 19) (v := VA) rfl (by kernel_rfl) (by kernel_rfl) (by kernel_rfl) (fun c a w h => h) (.inl ⟨by kernel_rfl, fun w' hS => ?_⟩) hS3 ?_
        · clear hS; go_simp
        try go_simp
        refine wpAnyH_take (i := 20) (v := .agg #[.int .i64 VN, .string VP]) rfl (by kernel_rfl) (by kernel_rfl) (by kernel_rfl) (fun c a w h => h) (.inl ⟨by kernel_rfl, fun w' hS => ?_⟩) hS3 ?_
        · clear hS; go_simp
        try go_simp
        refine wpAnyH_take (i := 21) (v := .int .i64 VE) rfl (by kernel_rfl) (by kernel_rfl) (by kernel_rfl) (fun c a w h => h) (.inl ⟨by kernel_rfl, fun w' hS => ?_⟩) hS3 ?_
        · clear hS; go_simp
        try go_simp
        -- from: w3, hB11 : Blk w3 H11 #[0, ""] 76; hS3 : Below W2.heap.size W2 w3; hge : W2.heap.size ≤ H11; VA VB VC: the call's results; HV : Hid what they are at w3
        refine wpAnyH_take (i := 23) (v := VA) rfl (by kernel_rfl) (by kernel_rfl) (by kernel_rfl) (fun c a w h => h) (.inl ⟨by kernel_rfl, fun w' hS => ?_⟩) hS3 ?_
        · clear hS; go_simp
        try go_simp
        refine wpAnyH_all (rs := [24]) (by kernel_rfl) (by simp) ?_
        intro i hi
        simp only [List.mem_cons, List.not_mem_nil, or_false] at hi
        subst hi
        unfold wpOp
        have c0 := hB11.cell 0
        have c1 := hB11.cell 1
        have f0 := hB11.frozen 0
        have f1 := hB11.frozen 1
        simp at c0 c1
        have l11 := hB11.lt
        go_simp
        have hB114 := (hB11.set 0 (.int .i64 VN)).set 1 (.string VP)
        have hS4 := below_set (below_set hS3 H11 0 (.int .i64 VN) hge) H11 1 (.string VP) hge
        have hg4 := grown_set2 w3 H11 0 1 (.int .i64 VN) (.string VP)
        obtain ⟨w4, hw4⟩ : ∃ q, (w3.setCell ⟨H11, 0, none⟩ (.int .i64 VN)).setCell ⟨H11, 1, none⟩ (.string VP) = q := ⟨_, rfl⟩
        rw [hw4] at hB114 hS4 hg4 ⊢
        clear hw4 hS3 c0 c1 f0 f1 l11
        first | refine .inl ⟨hS4, ?_⟩ | refine ⟨hS4, ?_⟩
        refine wpAnyH_all (rs := [25]) (by kernel_rfl) (by simp) ?_
        intro i hi
        simp only [List.mem_cons, List.not_mem_nil, or_false] at hi
        subst hi
        unfold wpOp
        go_simp
        first | refine .inl ⟨hS4, ?_⟩ | refine ⟨hS4, ?_⟩ | refine .inl ?_ | skip
        refine wpAnyH_done (by kernel_rfl) ?_ _
        go_wp2_with fail
        go_meet
        refine ⟨H11, rfl, hge, hS4, ?_⟩
        rcases HV.out with ⟨h0, rfl, rfl, rfl, rfl⟩ | ⟨l, T1, A4, c4, h0, rfl, rfl, rfl, rfl, h1, h2, h3⟩
        · exact .inl ⟨h0, rfl⟩
        · obtain ⟨h4, h5⟩ := h1.grown h2 hg4 (fun g e => by cases e; exact ⟨_, 76, _, hB11, by decide⟩)
          exact .inr ⟨l, T1, A4, c4, h0, rfl, rfl, h4, h5, h3, hB114⟩
    case rest =>
      rename World => wx
      obtain ⟨H11, rfl, hge, hbx, hr⟩ := hcut
      have hbF := HBW2.out.trans (hbx.mono HBW2.out.size)
      rcases hr with ⟨h0, rfl⟩ | ⟨l, T1, A4, c4, h0, rfl, rfl, hL4, hT4, hG4, hB11⟩
      · have HE : P = (8, none) := by rw [HPR2.out, HTK.out, h0]
        subst HE
        have HBF := Lib.hid hbF
        clear h0 hbF hge hbx
        go_wp2
        go_ret
        exact ⟨fun _ => ⟨rfl, HBF.out, HST.out.below HBF.out⟩, fun _ _ _ _ h => by cases h⟩
      have HE : P = (0, some (T1, appL m f ++ secL (m.most + 7) l, appD m f ++ data, ⟨name, f.entry, f.size + data.length, f.ext ++ l⟩)) := by rw [HPR2.out, HTK.out, h0]
      subst HE
      obtain ⟨hl1, hl2, hl3, hl4, hl5, _⟩ := takeS_facts h0
      have HTF := Lib.hid (And.intro hl1 (And.intro hl3 (And.intro hl4 hl5)))
      have hstx := HST2.out.below hbx
      have y5 := HX5.out wx hstx
      simp at y5
      have KS2 := HKS.out l A4 c4 wx y5 hL4 (by omega) (fun x hx => (hl3 x hx).2.1) (by have := HNUM.out; omega)
      rw [secL_length, hl5] at KS2
      obtain ⟨ll, hll⟩ : ∃ q, l.length = q := ⟨_, rfl⟩
      rw [hll] at KS2 ⊢
      have HLL := Lib.hid hll
      have HWX := Lib.hid (And.intro hge (And.intro hbx (And.intro hL4 (And.intro hT4 (And.intro hG4 (And.intro hB11 hbF))))))
      clear h0 hl1 hl2 hl3 hl4 hl5 hstx y5 hll hge hbx hL4 hT4 hG4 hB11 hbF
      go_upto_region 13 with (first | (go_at_call 43; (with_reducible refine KS2.mono ?_); rintro e w3 ⟨⟨A5, c5, rfl, hrow⟩, hb3⟩; have HR3 := Lib.hid (And.intro hrow hb3); clear hrow hb3 KS2))
      have hb03 := HWX.out.2.2.2.2.2.2.trans (HR3.out.2.mono HWX.out.2.2.2.2.2.2.size)
      have hb23 := HWX.out.2.1.trans (HR3.out.2.mono HWX.out.2.1.size)
      have hB73 := HB72.out.below hb23
      have z1 := hB73.cell 1
      have zl := hB73.lt
      have zf := hB73.frozen 1
      simp at z1
      have HB73 := Lib.hid hB73
      have HW3 := Lib.hid (And.intro (HWX.out.2.2.1.below (Nat.le_refl _) HR3.out.2) (And.intro (HWX.out.2.2.2.1.below HR3.out.2) (And.intro (HWX.out.2.2.2.2.2.1.below HR3.out.2) (And.intro hb03 (And.intro (Lies.of_row HR3.out.1) (Typed.of_row HR3.out.1))))))
      have HA5 := Lib.hid (show ∀ g, A5 = some g → w.heap.size ≤ g.block from fun g hg => Nat.le_trans HWX.out.2.2.2.2.2.2.size (own_ge HR3.out.1 g hg))
      clear hb03 hb23 hB73
      have hrem : (sz : Int).tmod 512 = ((sz % 512 : Nat) : Int) := by rw [Int.tmod_eq_emod_of_nonneg (by omega)]; omega
      rcases Nat.eq_zero_or_pos (sz % 512) with hr | hr
      · rw [hr] at hrem
        go_upto_region 22 with (fail)
        obtain ⟨ZZ, hZZ⟩ : ∃ q, (sz : Int) + (dl : Int) = q := ⟨_, rfl⟩
        try simp only [hZZ]
        have hgT := grown_set w3 H7 1 (.int .i64 ZZ)
        have hB7T := HB73.out.set 1 (.int .i64 ZZ)
        have hB11T : Blk (w3.setCell ⟨H7, 1, none⟩ (.int .i64 ZZ)) H11 #[.int .i64 T1.length, .string (mk (packB T1))] 76 := HW3.out.2.2.1.grown hgT (by have := HWX.out.1; have := HY.out.2.2.2.2.2; simp; omega)
        have hbT := below_set HW3.out.2.2.2.1 H7 1 (.int .i64 ZZ) HH7.out
        obtain ⟨hL6T, hT6T⟩ := HW3.out.2.2.2.2.1.grown HW3.out.2.2.2.2.2 hgT (fun g e => by cases e; exact ⟨_, 69, _, HB73.out, by decide⟩)
        obtain ⟨hL4T, hT4T⟩ := HW3.out.1.grown HW3.out.2.1 hgT (fun g e => by cases e; exact ⟨_, 69, _, HB73.out, by decide⟩)
        obtain ⟨WT, hWT⟩ : ∃ q, w3.setCell ⟨H7, 1, none⟩ (.int .i64 ZZ) = q := ⟨_, rfl⟩
        simp only [hWT] at hB7T hB11T hbT hL6T hT6T hL4T hT4T ⊢
        have HZZ := Lib.hid (show ((f.size + data.length : Nat) : Int) = ZZ by rw [← hZZ, HSZ.out, HDL.out]; omega)
        obtain ⟨A6, hA6⟩ : ∃ q, A5 = q := ⟨_, rfl⟩
        obtain ⟨c6, hc6⟩ : ∃ q, c5 = q := ⟨_, rfl⟩
        have hL0 : appL m f = [] := by unfold appL; rw [HSZ.out, if_pos hr]
        have hD0 : appD m f = [] := by unfold appD; rw [HSZ.out, if_pos hr]
        obtain ⟨L, hL⟩ : ∃ q, secL (m.most + 7) l = q := ⟨_, rfl⟩
        obtain ⟨dt, hdt⟩ : ∃ q, data = q := ⟨_, rfl⟩
        have HT22 := Lib.hid (show Blk WT H7 #[.int .i64 (fe : Int), .int .i64 ZZ, .slice A xl c] 69 ∧ Blk WT H11 #[.int .i64 T1.length, .string (mk (packB T1))] 76 ∧ Below w.heap.size w WT ∧ Lies WT A6 (ncells L) ∧ Typed WT A6 3 ∧ (∀ g, A6 = some g → w.heap.size ≤ g.block) ∧ Lies WT A4 (ecells l) ∧ Typed WT A4 90 from
          ⟨hB7T, hB11T, hbT, by rw [← hA6, ← hL]; exact hL6T, by rw [← hA6]; exact hT6T, by rw [← hA6]; exact HA5.out, hL4T, hT4T⟩)
        have HNL := Lib.hid (show L = appL m f ++ secL (m.most + 7) l ∧ L.length = KK ∧ dt = appD m f ++ data ∧ KK ≤ 2049 ∧ dt.length ≤ 1000000000 from ⟨by rw [hL0, List.nil_append, hL], by rw [← hL, secL_length, HTF.out.2.2.2], by rw [hD0, List.nil_append, hdt], by have := HNUM.out; omega, by rw [← hdt, HDL.out]; omega⟩)
        have hdd := HDT.out
        rw [hdt] at hdd
        rw [hA6, hc6, ← hdd]
        clear hgT hB7T hB11T hbT hL6T hT6T hL4T hT4T hZZ hWT hA6 hc6 hL0 hD0 hL hdt hdd z1 zl zf
        -- from: WT; HT22, HNL, ZZ, HZZ
        have KC := clone_ext A f.ext c WT (by have := HF.out.2.1; omega) (HLA.out.1.below (Nat.le_refl _) HT22.out.2.2.1)
        rw [HXL.out] at KC
        have y2 := HT22.out.1.cell 2
        have lt7 := HT22.out.1.lt
        simp at y2
        go_upto_region 23 with (first
          | (go_at_call 44; (with_reducible refine KC.mono ?_); rintro e w5 ⟨A7, c7, rfl, hrow7, hb7⟩; have HR7 := Lib.hid (And.intro hrow7 hb7); clear hrow7 hb7 KC)
          | (at_builtin; refine wpList_app rfl (.tmp 112) (.tmp 113) 67 90 rfl i90 _ 2 16 Tryz.underlying67 hi0 hi1 hi2 hi3 rfl (by decide) WT.heap.size _ rfl xl (ecells f.ext) HR7.out.1 A4 ll c4 rfl (ecells l) (by rw [ecells_length, HLL.out]) (HT22.out.2.2.2.2.2.2.1.below (Nat.le_refl _) HR7.out.2) (ecells_one l) (by have := HF.out.2.1; have := HXL.out; have := HTF.out.1; have := HLL.out; omega) (by decide) HR7.out.2.size ?_; intro A8 c8 w6 hrow8 hg8; have hB76 := (HT22.out.1.below HR7.out.2).grown hg8 (fun e => by have := (HR7.out.1.lt H7 e).1; omega); have lt76 := hB76.lt; have z0 := hB76.frozen 2; have z1 := hB76.cell 2; simp at z1; have HR8 := Lib.hid (And.intro hrow8 (And.intro hg8 hB76)); clear hrow8 hg8 hB76))
        have hg9 := grown_set w6 H7 2 (.slice A8 (xl + ll) c8)
        have hnb : ∀ k, (Value.slice A7 xl c7).ownBlock = some k → w.heap.size ≤ k := fun k hk => Nat.le_trans HT22.out.2.2.1.size (HR7.out.1.lt k hk).1
        have hB79 := HR8.out.2.2.set 2 (.slice A8 (xl + ll) c8)
        have hB119 : Blk (w6.setCell ⟨H7, 2, none⟩ (.slice A8 (xl + ll) c8)) H11 #[.int .i64 T1.length, .string (mk (packB T1))] 76 := ((HT22.out.2.1.below HR7.out.2).grown HR8.out.2.1 (fun e => by have := (HR7.out.1.lt H11 e).1; have := HT22.out.2.1.lt; omega)).grown hg9 (by have := HWX.out.1; have := HY.out.2.2.2.2.2; simp; omega)
        have hbT6 := (HT22.out.2.2.1.trans (HR7.out.2.mono HT22.out.2.2.1.size)).grown HR8.out.2.1 (Nat.le_trans HT22.out.2.2.1.size HR7.out.2.size) hnb
        have hbT9 := below_set hbT6 H7 2 (.slice A8 (xl + ll) c8) HH7.out
        obtain ⟨hL85, hT85⟩ := (Lies.of_row HR8.out.1).grown (Typed.of_row HR8.out.1) hg9 (fun g e => by cases e; exact ⟨_, 69, _, HR8.out.2.2, by decide⟩)
        obtain ⟨hL65, hT65⟩ := (HT22.out.2.2.2.1.below (Nat.le_refl _) HR7.out.2).grown (HT22.out.2.2.2.2.1.below HR7.out.2) HR8.out.2.1 (fun g hg => by obtain ⟨c', fr, hc⟩ := row_kind HR7.out.1 g hg; exact ⟨c', 90, fr, hc, by decide⟩)
        obtain ⟨hL69, hT69⟩ := hL65.grown hT65 hg9 (fun g e => by cases e; exact ⟨_, 69, _, HR8.out.2.2, by decide⟩)
        have hA8 : ∀ g, A8 = some g → w.heap.size ≤ g.block := fun g hg => Nat.le_trans HT22.out.2.2.1.size (own_ge HR8.out.1 g hg)
        rw [← ecells_app] at hL85
        have KP := put_any' X S D Lg M m ⟨name, f.entry, f.size + data.length, f.ext ++ l⟩ A8 c8 T1 A6 c6 (appL m f ++ secL (m.most + 7) l) (appD m f ++ data) _ (HST.out.below hbT9) hL85 hT85 (fun g hg hx => by have q1 := hA8 g hg; have q2 := HSLT.out _ (List.mem_cons_of_mem _ (List.mem_cons_of_mem _ hx)); omega) (by rw [← HNL.out.1]; exact hL69) (fun g hg hx => by have q1 := HT22.out.2.2.2.2.2.1 g hg; have q2 := HSLT.out _ (List.mem_cons_of_mem _ (List.mem_cons_of_mem _ hx)); omega) (HLI.out l HTF.out.2.1) (by rw [← HNL.out.1, HNL.out.2.1]; have := HNL.out.2.2.2.1; omega) (by rw [← HNL.out.2.2.1]; have := HNL.out.2.2.2.2; omega) HTF.out.2.2.1 (by rw [HTF.out.2.2.1]; exact HBB.out.tl) HF.out.2.2.1 HF.out.2.2.2.2.2.2 (by show f.size + data.length ≤ _; rw [HSZ.out, HDL.out]; omega) (by have := HF.out.2.1; have := HTF.out.1; have := HXL.out; simp; omega) (HXB.out l HTF.out.2.1) (bodyB_len _ _ _ HF.out.2.2.2.2.2.2 (by show f.size + data.length ≤ _; rw [HSZ.out, HDL.out]; omega) (by have := HF.out.2.1; have := HTF.out.1; have := HXL.out; simp; omega) (fun x hx => by have h1 := HXB2.out l HTF.out.2.1 x hx; omega)) HBB.out.len HBB.out.mo (by have := HBB.out.ll; omega) (by have := HBB.out.sl; omega)
        unfold spv at KP
        dsimp only at KP
        rw [List.length_append, HXL.out, HLL.out, HFE.out, ← HNL.out.1, HNL.out.2.1, ← HNL.out.2.2.1] at KP
        rw [show ((f.size + data.length : Nat) : Int) = ZZ from HZZ.out] at KP
        have hnm := HNM.out
        rw [hnm] at KP
        obtain ⟨t1, ht1⟩ : ∃ q, T1.length = q := ⟨_, rfl⟩
        obtain ⟨PB1, hPB1⟩ : ∃ q, mk (packB T1) = q := ⟨_, rfl⟩
        rw [ht1, hPB1] at KP hB119
        obtain ⟨DT3, hDT3⟩ : ∃ q, mk dt = q := ⟨_, rfl⟩
        rw [hDT3] at KP ⊢
        have HBT := Lib.hid hbT6
        have HBT9 := Lib.hid hbT9
        have x0 := hB79.cell 0
        have x1 := hB79.cell 1
        have x2 := hB79.cell 2
        have x3 := hB119.cell 0
        have x4 := hB119.cell 1
        simp at x0 x1 x2 x3 x4
        have l79 := hB79.lt
        have l119 := hB119.lt
        clear hg9 hnb hB79 hB119 hbT6 hbT9 hL85 hT85 hL65 hT65 hL69 hT69 hA8 hnm ht1 hPB1 hDT3 y2 lt7 lt76 z0 z1
        go_wp2_with (first
          | (go_at_call 42; refine KP.mono ?_; intro e W10 hp; have HPP := Lib.hid hp; obtain ⟨rfl, X1, hM, _⟩ := hp; clear hM KP))
        go_ret
        exact ⟨fun h => by (cases h), fun T2' L' dt' f' h => by (cases h; have e1 := HNL.out.1; have e2 := HNL.out.2.2.1; have e3 := HFE.out; subst e1 e2 e3; exact HPP.out.from HBT9.out)⟩
      · have hz' : ¬ f.size % 512 = 0 := by rw [HSZ.out]; omega
        obtain ⟨hlt, hls, hn1⟩ := lastS_at (m := m) HF.out.2.2.2.2.1 hz'
        have hsl0 := lastS_lt HBB.out HF.out.1 HF.out.2.2.2.2.1 hz'
        have hb23 := HWX.out.2.1.trans (HR3.out.2.mono HWX.out.2.1.size)
        obtain ⟨g2, o2, hA2, hg2, hc2⟩ := (Lies.of_row HR2.out.1).below (Nat.le_refl _) hb23 (by rw [ncells_length, secL_length]; omega)
        have d0 := hc2 _ _ (ncells_at _ _ hlt)
        rw [← hls] at d0
        have KR := read_any X D m.ds (lastS m f) w3 (HST.out.below HW3.out.2.2.2.1).dsk hsl0 HOFF.out
        change Calls _ _ _ _ (fun e w' => e = .returned (.tuple #[.string (mk (secAt m.ds.vis (lastS m f))), .int .i64 0]) ∧ w' = w3) at KR
        have hvl := vis_sec HGD.out _ hsl0
        obtain ⟨k, hk⟩ : ∃ k, n = k + 1 := ⟨n - 1, by have := HNUM.out.1; omega⟩
        rw [show sumN f.ext - 1 = k by have := HNUM.out.1; omega] at d0
        obtain ⟨LS, hLS⟩ : ∃ q, lastS m f = q := ⟨_, rfl⟩
        rw [hLS] at d0 KR hvl
        obtain ⟨r, hrr⟩ : ∃ q, sz % 512 = q := ⟨_, rfl⟩
        rw [hrr] at hr hrem
        have hD1 : appD m f = (secAt m.ds.vis LS).take r := by unfold appD; rw [if_neg hz', hLS, HSZ.out, hrr]
        have hL1 : appL m f = [LS] := by unfold appL; rw [if_neg hz', hLS]
        obtain ⟨V, hV⟩ : ∃ q, secAt m.ds.vis LS = q := ⟨_, rfl⟩
        rw [hV] at KR hvl hD1
        have hr5 : r ≤ 512 := by omega
        have hrsz : r ≤ sz := by have := Nat.mod_le sz 512; omega
        have hsl := fun (w : World) => run_slice_string_h (P := Tryz.prog) (w := w) (t := 9) (s := mk V) Tryz.underlying9 .i64 (r : Int) (by omega) (by rw [mk_size, hvl]; omega)
        have e1 : (mk V).extract 0 (r : Int).toNat = mk (appD m f) := by
          have := ext_mk' (mk V) 0 r
          rw [Nat.zero_add, mk_data, List.drop_zero] at this
          rw [Int.toNat_natCast, this, hD1]
        rw [e1] at hsl
        have hdl2 : (appD m f).length = r := by rw [hD1, List.length_take, hvl]; omega
        obtain ⟨TV, hTV⟩ : ∃ q, mk V = q := ⟨_, rfl⟩
        rw [hTV] at KR hsl
        have y0 := HX0.out w3 (HST.out.below HW3.out.2.2.2.1)
        simp at y0
        have hSl := (HST.out.below HW3.out.2.2.2.1).blk.lt
        have hadd : (mk (appD m f)).size + dl ≤ 9223372036854775807 := by rw [mk_size, hdl2]; omega
        have HP1 := Lib.hid (And.intro hL1 (And.intro hdl2 (And.intro hrsz hr5)))
        have HSLI := Lib.hid hsl
        have hrp : (0 : Int) < (r : Int) := by omega
        subst hA2
        subst hk
        clear hz' hlt hls hn1 hsl0 hb23 hg2 hc2 hLS hrr hD1 hL1 hV hrsz hr5 hsl e1 hdl2 hTV hvl hr
        go_upto_region 19 with (first
          | (go_at_call 33; (with_reducible refine KR.mono ?_); rintro e w4 ⟨rfl, hw⟩; obtain rfl := hw.symm; clear KR))
        obtain ⟨i3, hj0, hj1, hj2, hj3⟩ := info_parts info3
        refine wp_region_held (S := fun w' => Below w3.heap.size w3 w') mixed ?_
        change wpAnyH _ _ _ _ _ _ _ _ w3.drew
        have hS0 : Below w3.heap.size w3 w3.drew := (Below.refl _ _).drew
        obtain ⟨W0, hW0⟩ : ∃ q, w3.drew = q := ⟨_, rfl⟩
        rw [hW0] at hS0 ⊢
        clear hW0
        refine wpAnyH_take (i := 0) (v := .int .i64 (LS : Int)) rfl (by kernel_rfl) (by kernel_rfl) (by kernel_rfl) (fun c a w h => h) (.inl ⟨by kernel_rfl, fun w' hS => ?_⟩) hS0 ?_
        · clear hS; go_simp
        try go_simp
        refine wpAnyH_take (i := 2) (v := .slice A5 KK c5) rfl (by kernel_rfl) (by kernel_rfl) (by kernel_rfl) (fun c a w h => h) (.inl ⟨by kernel_rfl, fun w' hS => ?_⟩) hS0 ?_
        · clear hS; go_simp
        try go_simp
        refine wpAnyH_take (i := 4) (v := .string TV) rfl (by kernel_rfl) (by kernel_rfl) (by kernel_rfl) (fun c a w h => h) (.inl ⟨by kernel_rfl, fun w' hS => ?_⟩) hS0 ?_
        · clear hS; go_simp
        try go_simp
        refine wpAnyH_take (i := 5) (v := .int .i64 (r : Int)) rfl (by kernel_rfl) (by kernel_rfl) (by kernel_rfl) (fun c a w h => h) (.inl ⟨by kernel_rfl, fun w' hS => ?_⟩) hS0 ?_
        · clear hS; go_simp
        try go_simp
        refine wpAnyH_take (i := 6) (v := .string (mk (appD m f))) rfl (by kernel_rfl) (by kernel_rfl) (by kernel_rfl) (fun c a w h => h) (.inl ⟨by kernel_rfl, fun w' hS => ?_⟩) hS0 ?_
        · have hsl := HSLI.out w'; go_simp
        try go_simp
        refine wpAnyH_take (i := 7) (v := .string DT) rfl (by kernel_rfl) (by kernel_rfl) (by kernel_rfl) (fun c a w h => h) (.inl ⟨by kernel_rfl, fun w' hS => ?_⟩) hS0 ?_
        · clear hS; go_simp
        try go_simp
        refine wpAnyH_take (i := 8) (v := .string (mk (appD m f) ++ DT)) rfl (by kernel_rfl) (by kernel_rfl) (by kernel_rfl) (fun c a w h => h) (.inl ⟨by kernel_rfl, fun w' hS => ?_⟩) hS0 ?_
        · clear hS; go_simp
        try go_simp
        refine wpAnyH_all (rs := [1]) (by kernel_rfl) (by simp) ?_
        intro i hi
        simp only [List.mem_cons, List.not_mem_nil, or_false] at hi
        subst hi
        unfold wpOp
        go_simp
        have hN := own_new (w := W0.alloc (.cells #[.int .i64 (LS : Int)] 3)) (B := w3.heap.size) (g := W0.heap.size) (c := 1) (e := 3) (cs := [.int .i64 (LS : Int)]) (size := 1) (n := 1) (by simpa using heap_alloc_new W0 (.cells #[.int .i64 (LS : Int)] 3)) hS0.size rfl rfl (by omega)
        have hS1 := hS0.alloc hS0.size (.cells #[.int .i64 (LS : Int)] 3)
        have hGE : w3.heap.size ≤ W0.heap.size := hS0.size
        have hLx := HW3.out.2.2.2.2.1.below (Nat.le_refl _) hS1
        obtain ⟨GZ, hGZ⟩ : ∃ q, W0.heap.size = q := ⟨_, rfl⟩
        rw [hGZ] at hN hGE
        obtain ⟨w5, hw5⟩ : ∃ q, W0.alloc (.cells #[.int .i64 (LS : Int)] 3) = q := ⟨_, rfl⟩
        rw [hw5] at hN hS1 hLx ⊢
        try rw [hGZ]
        clear hw5 hGZ hS0
        first | refine .inl ⟨hS1, ?_⟩ | refine ⟨hS1, ?_⟩
        refine wpAnyH_all (rs := [3]) (by kernel_rfl) (by simp) ?_
        intro i hi
        simp only [List.mem_cons, List.not_mem_nil, or_false] at hi
        subst hi
        refine wpOp_of rfl rfl (wp_app (P := Tryz.prog) (.tmp 91) (.tmp 92) 58 3 rfl i3 _ 1 8 Tryz.underlying58 hj0 hj1 hj2 hj3 (by rfl) (by decide) w3.heap.size _ (by rfl) 1 [.int .i64 (LS : Int)] hN A5 KK c5 (by rfl) (ncells (secL (m.most + 7) l)) (by rw [ncells_length, secL_length, HTF.out.2.2.2]; simp) hLx (by intro v hv; simp [ncells] at hv; obtain ⟨x, _, rfl⟩ := hv; rfl) (by have := HNUM.out; omega) (by decide) hS1.size ?_)
        intro A6 c6 w6 hr6 hg6
        have hS2 := hS1.grown hg6 hS1.size (fun q hq => by cases hq; exact hGE)
        refine ⟨hS2, ?_⟩
        try go_simp
        refine wpAnyH_take (i := 9) (v := .slice A6 (1 + KK) c6) rfl (by kernel_rfl) (by kernel_rfl) (by kernel_rfl) (fun c a w h => h) (.inl ⟨by kernel_rfl, fun w' hS => ?_⟩) hS2 ?_
        · clear hS; go_simp
        try go_simp
        refine wpAnyH_take (i := 10) (v := .string (mk (appD m f) ++ DT)) rfl (by kernel_rfl) (by kernel_rfl) (by kernel_rfl) (fun c a w h => h) (.inl ⟨by kernel_rfl, fun w' hS => ?_⟩) hS2 ?_
        · clear hS; go_simp
        try go_simp
        refine wpAnyH_done (by kernel_rfl) ?_ _
        have hB76 := HB73.out.below hS2
        have x1 := hB76.cell 1
        have f1 := hB76.frozen 1
        have l7 := hB76.lt
        simp at x1
        have HR6 := Lib.hid (And.intro hr6 (And.intro hS2 hB76))
        obtain ⟨DT2, hDT2⟩ : ∃ q, mk (appD m f) ++ DT = q := ⟨_, rfl⟩
        simp only [hDT2]
        have zd2 : DT2.size = (appD m f ++ data).length := by rw [← hDT2, ← HDT.out, mk_app, mk_size]
        rw [List.length_append, HP1.out.2.1, HDL.out] at zd2
        obtain ⟨e2, he2⟩ : ∃ q, r + dl = q := ⟨_, rfl⟩
        rw [he2] at zd2
        have HE2 := Lib.hid (And.intro he2 hDT2)
        have wb1 : IntKind.i64.wrap ((sz : Int) - (r : Int)) = (sz : Int) - (r : Int) := by have := HP1.out; simp [IntKind.wrap, IntKind.bits, IntKind.signed]; omega
        have wb2 : IntKind.i64.wrap ((sz : Int) - (r : Int) + (e2 : Int)) = (sz : Int) - (r : Int) + (e2 : Int) := by have := HP1.out; simp [IntKind.wrap, IntKind.bits, IntKind.signed]; omega
        clear hr6 hS2 hS1 hN hLx hg6 hGE hB76 he2 hDT2 hadd y0 hSl d0
        go_upto_region 22 with (fail)
        have hgT := grown_set2 w6 H7 1 1 (.int .i64 ((sz : Int) - (r : Int))) (.int .i64 ((sz : Int) - (r : Int) + (e2 : Int)))
        have hB7T := (HR6.out.2.2.set 1 (.int .i64 ((sz : Int) - (r : Int)))).set 1 (.int .i64 ((sz : Int) - (r : Int) + (e2 : Int)))
        have hB11T := (HW3.out.2.2.1.below HR6.out.2.1).grown hgT (by have := HWX.out.1; have := HY.out.2.2.2.2.2; simp; omega)
        have hbT := below_set (below_set (HW3.out.2.2.2.1.trans (HR6.out.2.1.mono HW3.out.2.2.2.1.size)) H7 1 (.int .i64 ((sz : Int) - (r : Int))) HH7.out) H7 1 (.int .i64 ((sz : Int) - (r : Int) + (e2 : Int))) HH7.out
        obtain ⟨hL6T, hT6T⟩ := (Lies.of_row HR6.out.1).grown (Typed.of_row HR6.out.1) hgT (fun g e => by cases e; exact ⟨_, 69, _, HR6.out.2.2, by decide⟩)
        obtain ⟨hL4T, hT4T⟩ := (HW3.out.1.below (Nat.le_refl _) HR6.out.2.1).grown (HW3.out.2.1.below HR6.out.2.1) hgT (fun g e => by cases e; exact ⟨_, 69, _, HR6.out.2.2, by decide⟩)
        obtain ⟨ZZ, hZZ⟩ : ∃ q, (sz : Int) - (r : Int) + (e2 : Int) = q := ⟨_, rfl⟩
        try simp only [hZZ]
        rw [hZZ] at hB7T hB11T hbT hL6T hT6T hL4T hT4T
        obtain ⟨WT, hWT⟩ : ∃ q, (w6.setCell ⟨H7, 1, none⟩ (.int .i64 ((sz : Int) - (r : Int)))).setCell ⟨H7, 1, none⟩ (.int .i64 ZZ) = q := ⟨_, rfl⟩
        rw [hWT] at hB7T hB11T hbT hL6T hT6T hL4T hT4T ⊢
        have HZZ := Lib.hid (show ((f.size + data.length : Nat) : Int) = ZZ by have := HE2.out.1; have := HP1.out; rw [← hZZ, HSZ.out, HDL.out]; omega)
        obtain ⟨L, hL⟩ : ∃ q, appL m f ++ secL (m.most + 7) l = q := ⟨_, rfl⟩
        obtain ⟨dt, hdt⟩ : ∃ q, appD m f ++ data = q := ⟨_, rfl⟩
        obtain ⟨LL, hLL⟩ : ∃ q, 1 + KK = q := ⟨_, rfl⟩
        rw [hLL]
        have hcl : [Value.int .i64 (LS : Int)] ++ ncells (secL (m.most + 7) l) = ncells L := by rw [← hL, HP1.out.1]; rfl
        rw [hcl] at hL6T
        have HT22 := Lib.hid (show Blk WT H7 #[.int .i64 (fe : Int), .int .i64 ZZ, .slice A xl c] 69 ∧ Blk WT H11 #[.int .i64 T1.length, .string (mk (packB T1))] 76 ∧ Below w.heap.size w WT ∧ Lies WT A6 (ncells L) ∧ Typed WT A6 3 ∧ (∀ g, A6 = some g → w.heap.size ≤ g.block) ∧ Lies WT A4 (ecells l) ∧ Typed WT A4 90 from
          ⟨hB7T, hB11T, hbT, hL6T, hT6T, fun g hg => Nat.le_trans HW3.out.2.2.2.1.size (own_ge HR6.out.1 g hg), hL4T, hT4T⟩)
        have HNL := Lib.hid (show L = appL m f ++ secL (m.most + 7) l ∧ L.length = LL ∧ dt = appD m f ++ data ∧ LL ≤ 2049 ∧ dt.length ≤ 1000000000 from ⟨hL.symm, by rw [← hL, HP1.out.1, List.length_append, secL_length, HTF.out.2.2.2, ← hLL]; rfl, hdt.symm, by have := HNUM.out; omega, by rw [← hdt, List.length_append, HP1.out.2.1, HDL.out]; have := HP1.out; omega⟩)
        have hdd : DT2 = mk dt := by rw [← HE2.out.2, ← HDT.out, mk_app, hdt]
        rw [hdd]
        clear hgT hB7T hB11T hbT hL6T hT6T hL4T hT4T hZZ hWT hL hdt hdd hLL hcl z1 zl zf x1 f1 l7 zd2 wb1 wb2
        -- from: WT; HT22, HNL, ZZ, HZZ
        have KC := clone_ext A f.ext c WT (by have := HF.out.2.1; omega) (HLA.out.1.below (Nat.le_refl _) HT22.out.2.2.1)
        rw [HXL.out] at KC
        have y2 := HT22.out.1.cell 2
        have lt7 := HT22.out.1.lt
        simp at y2
        go_upto_region 23 with (first
          | (go_at_call 44; (with_reducible refine KC.mono ?_); rintro e w5 ⟨A7, c7, rfl, hrow7, hb7⟩; have HR7 := Lib.hid (And.intro hrow7 hb7); clear hrow7 hb7 KC)
          | (at_builtin; refine wpList_app rfl (.tmp 112) (.tmp 113) 67 90 rfl i90 _ 2 16 Tryz.underlying67 hi0 hi1 hi2 hi3 rfl (by decide) WT.heap.size _ rfl xl (ecells f.ext) HR7.out.1 A4 ll c4 rfl (ecells l) (by rw [ecells_length, HLL.out]) (HT22.out.2.2.2.2.2.2.1.below (Nat.le_refl _) HR7.out.2) (ecells_one l) (by have := HF.out.2.1; have := HXL.out; have := HTF.out.1; have := HLL.out; omega) (by decide) HR7.out.2.size ?_; intro A8 c8 w6 hrow8 hg8; have hB76 := (HT22.out.1.below HR7.out.2).grown hg8 (fun e => by have := (HR7.out.1.lt H7 e).1; omega); have lt76 := hB76.lt; have z0 := hB76.frozen 2; have z1 := hB76.cell 2; simp at z1; have HR8 := Lib.hid (And.intro hrow8 (And.intro hg8 hB76)); clear hrow8 hg8 hB76))
        have hg9 := grown_set w6 H7 2 (.slice A8 (xl + ll) c8)
        have hnb : ∀ k, (Value.slice A7 xl c7).ownBlock = some k → w.heap.size ≤ k := fun k hk => Nat.le_trans HT22.out.2.2.1.size (HR7.out.1.lt k hk).1
        have hB79 := HR8.out.2.2.set 2 (.slice A8 (xl + ll) c8)
        have hB119 : Blk (w6.setCell ⟨H7, 2, none⟩ (.slice A8 (xl + ll) c8)) H11 #[.int .i64 T1.length, .string (mk (packB T1))] 76 := ((HT22.out.2.1.below HR7.out.2).grown HR8.out.2.1 (fun e => by have := (HR7.out.1.lt H11 e).1; have := HT22.out.2.1.lt; omega)).grown hg9 (by have := HWX.out.1; have := HY.out.2.2.2.2.2; simp; omega)
        have hbT6 := (HT22.out.2.2.1.trans (HR7.out.2.mono HT22.out.2.2.1.size)).grown HR8.out.2.1 (Nat.le_trans HT22.out.2.2.1.size HR7.out.2.size) hnb
        have hbT9 := below_set hbT6 H7 2 (.slice A8 (xl + ll) c8) HH7.out
        obtain ⟨hL85, hT85⟩ := (Lies.of_row HR8.out.1).grown (Typed.of_row HR8.out.1) hg9 (fun g e => by cases e; exact ⟨_, 69, _, HR8.out.2.2, by decide⟩)
        obtain ⟨hL65, hT65⟩ := (HT22.out.2.2.2.1.below (Nat.le_refl _) HR7.out.2).grown (HT22.out.2.2.2.2.1.below HR7.out.2) HR8.out.2.1 (fun g hg => by obtain ⟨c', fr, hc⟩ := row_kind HR7.out.1 g hg; exact ⟨c', 90, fr, hc, by decide⟩)
        obtain ⟨hL69, hT69⟩ := hL65.grown hT65 hg9 (fun g e => by cases e; exact ⟨_, 69, _, HR8.out.2.2, by decide⟩)
        have hA8 : ∀ g, A8 = some g → w.heap.size ≤ g.block := fun g hg => Nat.le_trans HT22.out.2.2.1.size (own_ge HR8.out.1 g hg)
        rw [← ecells_app] at hL85
        have KP := put_any' X S D Lg M m ⟨name, f.entry, f.size + data.length, f.ext ++ l⟩ A8 c8 T1 A6 c6 (appL m f ++ secL (m.most + 7) l) (appD m f ++ data) _ (HST.out.below hbT9) hL85 hT85 (fun g hg hx => by have q1 := hA8 g hg; have q2 := HSLT.out _ (List.mem_cons_of_mem _ (List.mem_cons_of_mem _ hx)); omega) (by rw [← HNL.out.1]; exact hL69) (fun g hg hx => by have q1 := HT22.out.2.2.2.2.2.1 g hg; have q2 := HSLT.out _ (List.mem_cons_of_mem _ (List.mem_cons_of_mem _ hx)); omega) (HLI.out l HTF.out.2.1) (by rw [← HNL.out.1, HNL.out.2.1]; have := HNL.out.2.2.2.1; omega) (by rw [← HNL.out.2.2.1]; have := HNL.out.2.2.2.2; omega) HTF.out.2.2.1 (by rw [HTF.out.2.2.1]; exact HBB.out.tl) HF.out.2.2.1 HF.out.2.2.2.2.2.2 (by show f.size + data.length ≤ _; rw [HSZ.out, HDL.out]; omega) (by have := HF.out.2.1; have := HTF.out.1; have := HXL.out; simp; omega) (HXB.out l HTF.out.2.1) (bodyB_len _ _ _ HF.out.2.2.2.2.2.2 (by show f.size + data.length ≤ _; rw [HSZ.out, HDL.out]; omega) (by have := HF.out.2.1; have := HTF.out.1; have := HXL.out; simp; omega) (fun x hx => by have h1 := HXB2.out l HTF.out.2.1 x hx; omega)) HBB.out.len HBB.out.mo (by have := HBB.out.ll; omega) (by have := HBB.out.sl; omega)
        unfold spv at KP
        dsimp only at KP
        rw [List.length_append, HXL.out, HLL.out, HFE.out, ← HNL.out.1, HNL.out.2.1, ← HNL.out.2.2.1] at KP
        rw [show ((f.size + data.length : Nat) : Int) = ZZ from HZZ.out] at KP
        have hnm := HNM.out
        rw [hnm] at KP
        obtain ⟨t1, ht1⟩ : ∃ q, T1.length = q := ⟨_, rfl⟩
        obtain ⟨PB1, hPB1⟩ : ∃ q, mk (packB T1) = q := ⟨_, rfl⟩
        rw [ht1, hPB1] at KP hB119
        obtain ⟨DT3, hDT3⟩ : ∃ q, mk dt = q := ⟨_, rfl⟩
        rw [hDT3] at KP ⊢
        have HBT := Lib.hid hbT6
        have HBT9 := Lib.hid hbT9
        have x0 := hB79.cell 0
        have x1 := hB79.cell 1
        have x2 := hB79.cell 2
        have x3 := hB119.cell 0
        have x4 := hB119.cell 1
        simp at x0 x1 x2 x3 x4
        have l79 := hB79.lt
        have l119 := hB119.lt
        clear hg9 hnb hB79 hB119 hbT6 hbT9 hL85 hT85 hL65 hT65 hL69 hT69 hA8 hnm ht1 hPB1 hDT3 y2 lt7 lt76 z0 z1
        go_wp2_with (first
          | (go_at_call 42; refine KP.mono ?_; intro e W10 hp; have HPP := Lib.hid hp; obtain ⟨rfl, X1, hM, _⟩ := hp; clear hM KP))
        go_ret
        exact ⟨fun h => by (cases h), fun T2' L' dt' f' h => by (cases h; have e1 := HNL.out.1; have e2 := HNL.out.2.2.1; have e3 := HFE.out; subst e1 e2 e3; exact HPP.out.from HBT9.out)⟩
end Go.Proofs.YtcmcdddnckcpcaaGreatDoor
