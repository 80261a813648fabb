/- file.Remove, walked. -/
import Derived.Test.YtcmcdddnckcpcaaGreatDoorRe
import Derived.Maps.OwnIn
namespace Go.Proofs.YtcmcdddnckcpcaaGreatDoor
open Go.RowKit Go.Maps
/-- What Remove finds, ahead of writing. -/
def preR (m : StoM) (name : Bs) : Nat × Option (List Bool × FileM) :=
  if goodF name = false then (11, none) else match fileOf m.F name with
  | none => (9, none)
  | some f => match turnS false m.T f.ext with
    | none => (14, none)
    | some T2 => (0, some (T2, f))
def RemP (X : List Nat) (S D Lg M : Nat) (m : StoM) (T2 : List Bool) (F2 : List FileM) (C : List (Nat × Bs)) (w : World) (e : Ending) (w' : World) : Prop :=
  e = .returned (.int .i64 ((DS.run (settleC m.most T2 C) m.ds).1 : Nat)) ∧ ∃ X', Mv (S :: M :: X) (S :: M :: X') w w' ∧
    ((DS.run (settleC m.most T2 C) m.ds).1 = 0 → Sto w' X' S D Lg M ⟨(DS.run (settleC m.most T2 C) m.ds).2, F2, T2, m.most, m.off⟩) ∧
    ((DS.run (settleC m.most T2 C) m.ds).1 ≠ 0 → Sto w' X' S D Lg M ⟨(DS.run (settleC m.most T2 C) m.ds).2, m.F, m.T, m.most, true⟩)
def RemoveP (X : List Nat) (S D Lg M : Nat) (m : StoM) (p : Nat × Option (List Bool × FileM)) (w : World) (e : Ending) (w' : World) : Prop :=
  (p.2 = none → e = .returned (.int .i64 (p.1 : Nat)) ∧ Below w.heap.size w w' ∧ Sto w' X S D Lg M m) ∧
  ∀ T2 f, p.2 = some (T2, f) → RemP X S D Lg M m T2 (delF m.F f.name) [(f.entry, [])] w e w'
theorem Exts.sub {w : World} {X : List Nat} {ad : AdM} {F G : List FileM} (h : Exts w X ad F) (hs : ∀ f ∈ G, f ∈ F) : Exts w X ad G := fun f hf => h f (hs f hf)
theorem wpList_insert {P : Program} {ops : Array Oper} {rest : List Oper} {Q : Exit → Act → World → Prop} {a : Act} {w w' : World} {o : Oper} (hg : o.guard = none) (t : TypeId) (m x v : Operand) (hop : o.op = .insert t m x v) (mv kv vv : Value)
    (hm : a.eval m = mv) (hx : a.eval x = kv) (hv : a.eval v = vv) (hrun : (Instr.mapUpdate t mv kv vv).run P w = .ok () w') (hK : wpList P ops Q rest (a.put o.dst undef) w') : wpList P ops Q (o :: rest) a w := by
  refine wpList_plain hg fun K' hK' => ?_
  unfold Oper.wp
  simp [execOp, hop, hm, hx, hv, hrun, Result.andThen]
  exact hK' _ _ hK
set_option maxRecDepth 100000 in
set_option maxHeartbeats 4000000 in
theorem fremove_any (X : List Nat) (S D Lg M : Nat) (m : StoM) (name : Bs) (w : World) (h : Sto w X S D Lg M m) (hb : StoB m) (h1 : m.off = false) (h2 : m.ds.off = false) (hn : name.length ≤ maxLen) :
    Calls Tryz.prog 21 #[.pointer (some ⟨S, 0, none⟩), .string (mk name)] w (RemoveP X S D Lg M m (preR m name) w) := by
  obtain ⟨ad, hFM, hEX⟩ := h.map
  have KF := find_ok X S D Lg M m ad name w h hFM h1 h2 hn
  by_cases hE : findE m.F name = 0
  case neg =>
    have hR : preR m name = (findE m.F name, none) := by
      unfold preR
      unfold findE at hE ⊢
      cases hg : goodF name with
      | false => rfl
      | true =>
        rw [hg] at hE
        cases hc : fileOf m.F name with
        | none => rfl
        | some f => rw [hc] at hE; exact absurd rfl hE
    have hN : findE m.F name = 9 ∨ findE m.F name = 11 := by
      unfold findE at hE ⊢
      split <;> simp_all
    rw [hR]
    obtain ⟨a, A, k, c, hv⟩ := findV_form ad m.F name
    rw [hv] at KF
    have HST := Lib.hid h
    obtain ⟨NM, hNM⟩ : ∃ q, mk name = q := ⟨_, rfl⟩
    obtain ⟨z, hzz⟩ : ∃ q, sizeW m.F name = q := ⟨_, rfl⟩
    obtain ⟨N, hNN⟩ : ∃ q, findE m.F name = q := ⟨_, rfl⟩
    rw [hNM, hzz, hNN] at KF
    rw [hNM, hNN]
    rw [hNN] at hN
    clear h hb h1 h2 hn hFM hEX hv hNM hzz hNN hE hR
    rcases hN with rfl | rfl
    all_goals
      go_enter Tryz.func21, Tryz.ntmps21
      go_wp2_with (first | (go_at_call 37; refine KF.mono ?_; rintro e w1 ⟨rfl, hb1⟩; have HB1 := Lib.hid hb1; clear hb1))
      go_ret
      have hbF := HB1.out.alloc HB1.out.size (.cells #[.int .i64 a, .int .i64 (z : Int), .slice A k c] 69)
      exact ⟨fun _ => ⟨rfl, hbF, HST.out.below hbF⟩, fun T2 f h => by cases h⟩
  case pos =>
    obtain ⟨f, hf, hg⟩ : ∃ f, fileOf m.F name = some f ∧ goodF name = true := by
      unfold findE at hE
      split at hE
      · rename_i hg
        cases hc : fileOf m.F name with
        | none => rw [hc] at hE; simp at hE
        | some f => exact ⟨f, rfl, hg⟩
      · cases hE
    have hV : findV ad m.F name = inoV ad f := by unfold findV; rw [if_pos hg, hf]; rfl
    have hfm := fileOf_mem hf
    have hfn := fileOf_name hf
    have hPR : preR m name = match turnS false m.T f.ext with
        | none => (14, none)
        | some T2 => (0, some (T2, f)) := by unfold preR; rw [if_neg (by rw [hg]; decide), hf]
    have HPR := Lib.hid hPR
    obtain ⟨P, hP⟩ : ∃ q, preR m name = q := ⟨_, rfl⟩
    rw [hP]
    have HP := Lib.hid hP
    clear hP
    rw [hE, hV] at KF
    obtain ⟨hx1, hx2, _⟩ := hEX f hfm
    unfold inoV at KF
    obtain ⟨⟨A, c⟩, hA⟩ : ∃ q, ad f.name = q := ⟨_, rfl⟩
    rw [hA] at KF hx1 hx2
    dsimp only at KF hx1 hx2
    have hexb := hb.exb f hfm
    have hexl := hb.exl f hfm
    have hfe := hb.ent f hfm
    have HTL := Lib.hid hb.tl
    have KG := fun (w5 : World) (hL : Lies w5 A (ecells f.ext)) => give_any m.T f.ext A c w5 hb.tl hL (fun x hx => by have := hexb x hx; have := hb.tl; omega) (by omega)
    have KST := fun (X1 : List Nat) (Mc : Nat) (T2 : List Bool) (hT : T2.length = m.T.length) (w1 : World) (hs1 : Sto w1 X1 S D Lg M m) (hC : CM w1 Mc [(f.entry, [])]) =>
      settle_any X1 S D Lg M Mc m T2 [(f.entry, [])] w1 hs1 hC hT (by rw [hT]; exact HTL.out) (by simp) (fun c hc => by
        have : c = (f.entry, []) := by simpa using hc
        subst this; exact ⟨hfe, by simp⟩) hb.mo (by have := hb.ll; omega) (by have := hb.sl; omega)
    obtain ⟨tn, PBn, en, hRf⟩ := turnV_form (turnS false m.T f.ext)
    have HRF := Lib.hid hRf
    rw [hRf] at KG
    have HDR := Lib.hid (fun (ad : AdM) (w1 : World) (hf1 : FM w1 M ad m.F) => hf1.drop name hn 0)
    unfold spv at KG
    obtain ⟨tl, htl⟩ : ∃ q, m.T.length = q := ⟨_, rfl⟩
    obtain ⟨PB, hPB⟩ : ∃ q, mk (packB m.T) = q := ⟨_, rfl⟩
    obtain ⟨xl, hxl⟩ : ∃ q, f.ext.length = q := ⟨_, rfl⟩
    rw [hxl] at KF KG
    rw [htl, hPB] at KG
    obtain ⟨sz, hsz⟩ : ∃ q, f.size = q := ⟨_, rfl⟩
    rw [hsz] at KF
    obtain ⟨fe, hfeq⟩ : ∃ q, f.entry = q := ⟨_, rfl⟩
    rw [hfeq] at KF hfe
    simp only [hfeq] at KST
    obtain ⟨NM, hNM⟩ : ∃ q, mk name = q := ⟨_, rfl⟩
    rw [hNM] at KF HDR
    rw [hNM]
    have x2 := fun w1 (hw : Sto w1 X S D Lg M m) => hw.blk.cell 2
    have x3 := fun w1 (hw : Sto w1 X S D Lg M m) => hw.blk.cell 3
    simp only [stoCells, htl, hPB] at x2 x3
    have HX2 := Lib.hid x2
    have HX3 := Lib.hid x3
    have HST := Lib.hid h
    have HSLT := Lib.hid (show ∀ x ∈ S :: M :: X, x < w.heap.size from fun x hx => by
        rcases List.mem_cons.1 hx with rfl | hx
        · exact h.blk.lt
        · rcases List.mem_cons.1 hx with rfl | hx
          · exact hFM.lt
          · exact h.dsk.lt x hx)
    have HKG := Lib.hid KG
    have HKST := Lib.hid KST
    have HLA := Lib.hid hx1
    have HFE := Lib.hid (show fe ≤ 1000000 by have := hb.mo; omega)
    have HFEQ := Lib.hid hfeq
    have HFN := Lib.hid hfn
    have mixed : Tryz.prog.follows Departure.mixedOrders = true := by kernel_rfl
    clear h hb h1 h2 hn hFM hEX hE hf hg hV hfm hfn hPR hx1 hx2 hA hexb hexl hfe KG KST hRf htl hPB hxl hsz hfeq hNM x2 x3
    go_enter Tryz.func21, Tryz.ntmps21
    go_upto_region 4 with (first | (go_at_call 37; refine KF.mono ?_; rintro e w1 ⟨rfl, hb1⟩; have HB1 := Lib.hid hb1; clear hb1))
    have hB5 := Blk.new w1 #[.int .i64 (fe : Int), .int .i64 (sz : Int), .slice A xl c] 69
    have hbw := HB1.out.alloc HB1.out.size (.cells #[.int .i64 (fe : Int), .int .i64 (sz : Int), .slice A xl c] 69)
    have hH5 := HB1.out.size
    obtain ⟨H5, hH⟩ : ∃ q, w1.heap.size = q := ⟨_, rfl⟩
    obtain ⟨W1, hW⟩ : ∃ q, w1.alloc (.cells #[.int .i64 (fe : Int), .int .i64 (sz : Int), .slice A xl c] 69) = q := ⟨_, rfl⟩
    rw [hH] at hB5 hH5
    simp only [hW] at hB5 hbw ⊢
    try simp only [hH]
    have hst1 := HST.out.below hbw
    have y2 := HX2.out W1 hst1
    have y3 := HX3.out W1 hst1
    have y5 := hB5.cell 2
    simp at y2 y3 y5
    have HY := Lib.hid (And.intro y2 (And.intro y3 (And.intro y5 (And.intro hst1.blk.lt hB5.lt))))
    have HBW := Lib.hid hbw
    have HB5 := Lib.hid hB5
    have HH5 := Lib.hid hH5
    have HLA1 := Lib.hid (HLA.out.below (Nat.le_refl _) hbw)
    clear hH hW hB5 hbw hst1 hH5 y2 y3 y5
    refine wp_region_held (S := fun w' => Below W1.heap.size W1 w') mixed ?_
    change wpAnyH _ _ _ _ _ _ _ _ W1.drew
    have hS0 : Below W1.heap.size W1 W1.drew := (Below.refl _ _).drew
    obtain ⟨W0, hW0⟩ : ∃ q, W1.drew = q := ⟨_, rfl⟩
    rw [hW0] at hS0 ⊢
    clear hW0
    refine wpAnyH_take (i := 0) (v := .pointer (some ⟨S, 0, none⟩)) rfl (by kernel_rfl) (by kernel_rfl) (by kernel_rfl) (fun c a w h => h) (.inl ⟨by kernel_rfl, fun w' hS => ?_⟩) hS0 ?_
    · clear hS; go_simp
    try go_simp
    refine wpAnyH_take (i := 1) (v := .pointer (some ⟨S, 0, none⟩)) rfl (by kernel_rfl) (by kernel_rfl) (by kernel_rfl) (fun c a w h => h) (.inl ⟨by kernel_rfl, fun w' hS => ?_⟩) hS0 ?_
    · clear hS; go_simp
    try go_simp
    refine wpAnyH_take (i := 2) (v := .pointer (some ⟨S, 2, none⟩)) rfl (by kernel_rfl) (by kernel_rfl) (by kernel_rfl) (fun c a w h => h) (.inl ⟨by kernel_rfl, fun w' hS => ?_⟩) hS0 ?_
    · clear hS; go_simp
    try go_simp
    refine wpAnyH_take (i := 3) (v := .agg #[.int .i64 (tl : Int), .string PB]) rfl (by kernel_rfl) (by kernel_rfl) (by kernel_rfl) (fun c a w h => h) (.inl ⟨by kernel_rfl, fun w' hS => ?_⟩) hS0 ?_
    · have q0 := (hS.cell (p := ⟨S, 2, none⟩) HY.out.2.2.2.1).trans HY.out.1; have q1 := (hS.cell (p := ⟨S, 3, none⟩) HY.out.2.2.2.1).trans HY.out.2.1; go_simp
    try go_simp
    refine wpAnyH_take (i := 4) (v := .pointer (some ⟨H5, 2, none⟩)) rfl (by kernel_rfl) (by kernel_rfl) (by kernel_rfl) (fun c a w h => h) (.inl ⟨by kernel_rfl, fun w' hS => ?_⟩) hS0 ?_
    · clear hS; go_simp
    try go_simp
    refine wpAnyH_take (i := 5) (v := .slice A xl c) rfl (by kernel_rfl) (by kernel_rfl) (by kernel_rfl) (fun c a w h => h) (.inl ⟨by kernel_rfl, fun w' hS => ?_⟩) hS0 ?_
    · have q0 := (hS.cell (p := ⟨H5, 2, none⟩) HY.out.2.2.2.2).trans HY.out.2.2.1; go_simp
    try go_simp
    refine wpAnyH_all (rs := [6, 10]) (by kernel_rfl) (by simp) ?_
    intro i hi
    simp only [List.mem_cons, List.not_mem_nil, or_false] at hi
    rcases hi with rfl | rfl
    · unfold wpOp
      go_simp
      refine .inl ?_
      go_at_call 41
      refine (HKG.out W0 (HLA1.out.below (Nat.le_refl _) hS0)).mono ?_
      rintro e w2 ⟨rfl, hb2⟩
      have hS1 := hS0.trans (hb2.mono hS0.size)
      refine ⟨hS1, ?_⟩
      try go_simp
      clear hS0 hb2
      refine wpAnyH_take (i := 7) (v := .tuple #[.agg #[.int .i64 tn, .string PBn], .int .i64 en]) rfl (by kernel_rfl) (by kernel_rfl) (by kernel_rfl) (fun c a w h => h) (.inl ⟨by kernel_rfl, fun w' hS => ?_⟩) hS1 ?_
      · clear hS; go_simp
      try go_simp
      refine wpAnyH_take (i := 8) (v := .agg #[.int .i64 tn, .string PBn]) rfl (by kernel_rfl) (by kernel_rfl) (by kernel_rfl) (fun c a w h => h) (.inl ⟨by kernel_rfl, fun w' hS => ?_⟩) hS1 ?_
      · clear hS; go_simp
      try go_simp
      refine wpAnyH_take (i := 9) (v := .int .i64 en) rfl (by kernel_rfl) (by kernel_rfl) (by kernel_rfl) (fun c a w h => h) (.inl ⟨by kernel_rfl, fun w' hS => ?_⟩) hS1 ?_
      · clear hS; go_simp
      try go_simp
      refine wpAnyH_all (rs := [10]) (by kernel_rfl) (by simp) ?_
      intro i hi
      simp only [List.mem_cons, List.not_mem_nil, or_false] at hi
      subst hi
      unfold wpOp
      go_simp
      have hB7 := Blk.new w2 #[.int .i64 0, .string ⟨#[]⟩] 76
      have hS3 := hS1.alloc hS1.size (.cells #[.int .i64 0, .string ⟨#[]⟩] 76)
      have hge : W1.heap.size ≤ w2.heap.size := hS1.size
      obtain ⟨H7, hH7⟩ : ∃ q, w2.heap.size = q := ⟨_, rfl⟩
      rw [hH7] at hB7 hge
      obtain ⟨w3, hw3⟩ : ∃ q, w2.alloc (.cells #[.int .i64 0, .string ⟨#[]⟩] 76) = q := ⟨_, rfl⟩
      rw [hw3] at hB7 hS3 ⊢
      try rw [hH7]
      clear hw3 hH7 hS1
      first | refine .inl ⟨hS3, ?_⟩ | refine ⟨hS3, ?_⟩
      -- from: w3; hB7 : Blk w3 H7 #[0, ""] 76; hS3 : Below W1.heap.size W1 w3; hge : W1.heap.size ≤ H7
      have c0 := hB7.cell 0
      have c1 := hB7.cell 1
      have f0 := hB7.frozen 0
      have f1 := hB7.frozen 1
      simp at c0 c1
      have l7 := hB7.lt
      refine wpAnyH_all (rs := [11]) (by kernel_rfl) (by simp) ?_
      intro i hi
      simp only [List.mem_cons, List.not_mem_nil, or_false] at hi
      subst hi
      unfold wpOp
      go_simp
      have hB74 := (hB7.set 0 (.int .i64 tn)).set 1 (.string PBn)
      have hS4 := below_set (below_set hS3 H7 0 (.int .i64 tn) hge) H7 1 (.string PBn) hge
      obtain ⟨w4, hw4⟩ : ∃ q, (w3.setCell ⟨H7, 0, none⟩ (.int .i64 tn)).setCell ⟨H7, 1, none⟩ (.string PBn) = q := ⟨_, rfl⟩
      rw [hw4] at hB74 hS4 ⊢
      clear hw4 hB7 hS3 c0 c1 f0 f1 l7
      first | refine .inl ⟨hS4, ?_⟩ | refine ⟨hS4, ?_⟩
      refine wpAnyH_all (rs := [12]) (by kernel_rfl) (by simp) ?_
      intro i hi
      simp only [List.mem_cons, List.not_mem_nil, or_false] at hi
      subst hi
      unfold wpOp
      go_simp
      first | refine .inl ⟨hS4, ?_⟩ | refine ⟨hS4, ?_⟩ | refine .inl ?_ | skip
      refine wpAnyH_done (by kernel_rfl) ?_ _
      have HB7 := Lib.hid hB74
      have HS4 := Lib.hid hS4
      have HGE := Lib.hid hge
      clear hB74 hS4 hge
      cases htn : turnS false m.T f.ext with
      | none =>
        have hq := HRF.out
        rw [htn] at hq
        unfold turnV at hq
        simp only [Value.tuple.injEq, Array.mk.injEq, List.cons.injEq, Value.agg.injEq, Value.int.injEq, Value.string.injEq, true_and, and_true] at hq
        obtain ⟨⟨rfl, rfl⟩, rfl⟩ := hq
        have HE : P = (14, none) := by rw [← HP.out, HPR.out, htn]
        subst HE
        clear htn
        go_wp2
        go_ret
        have hbF := HBW.out.trans (HS4.out.mono HBW.out.size)
        exact ⟨fun _ => ⟨rfl, hbF, HST.out.below hbF⟩, fun T2 f h => by cases h⟩
      | some T2 =>
        have hq := HRF.out
        rw [htn] at hq
        unfold turnV spv at hq
        simp only [Value.tuple.injEq, Array.mk.injEq, List.cons.injEq, Value.agg.injEq, Value.int.injEq, Value.string.injEq, true_and, and_true] at hq
        obtain ⟨⟨rfl, rfl⟩, rfl⟩ := hq
        have HE : P = (0, some (T2, f)) := by rw [← HP.out, HPR.out, htn]
        subst HE
        have hT2 := turnS_len _ _ _ _ htn
        have KST := fun (X1 : List Nat) (Mc : Nat) (w1 : World) hs1 hC => HKST.out X1 Mc T2 hT2 w1 hs1 hC
        unfold SetP spv at KST
        have HRP := Lib.hid (show ∀ e w', RemP X S D Lg M m T2 (delF m.F name) [(fe, [])] w e w' → RemoveP X S D Lg M m (0, some (T2, f)) w e w' from fun e w' hr => ⟨fun h => by (cases h), fun T3 f3 h => by
          cases h
          rw [HFN.out, HFEQ.out]; exact hr⟩)
        obtain ⟨t2, ht2⟩ : ∃ q, T2.length = q := ⟨_, rfl⟩
        obtain ⟨PB2, hPB2⟩ : ∃ q, mk (packB T2) = q := ⟨_, rfl⟩
        simp only [ht2, hPB2] at KST
        rw [ht2, hPB2] at HB7
        have hn2 := run_num (settleC m.most T2 [(fe, [])]) m.ds
        obtain ⟨r2, hr2⟩ : ∃ q, DS.run (settleC m.most T2 [(fe, [])]) m.ds = q := ⟨_, rfl⟩
        have HR2 := Lib.hid hr2
        rw [hr2] at hn2
        simp only [hr2] at KST
        obtain ⟨n2, d2⟩ := r2
        dsimp only at hn2 KST
        clear htn hT2 hr2 hPB2 ht2
        have hb4 := HBW.out.trans (HS4.out.mono HBW.out.size)
        have HB4 := Lib.hid hb4
        have hX : Blk w4 H5 #[.int .i64 (fe : Int), .int .i64 (sz : Int), .slice A xl c] 69 ∧ Blk w4 H7 #[.int .i64 (t2 : Int), .string PB2] 76 := ⟨HB5.out.below HS4.out, HB7.out⟩
        have HX := Lib.hid hX
        have HORD := Lib.hid (show (∀ x ∈ S :: M :: X, x ≠ H5 ∧ x ≠ H7) from fun x hx => by
          have q1 := HSLT.out x hx
          have q2 := HH5.out
          have q3 := HGE.out
          have q4 := HBW.out.size
          omega)
        clear hb4 hX
        have hb2 := HB4.out.alloc HB4.out.size (.map #[] 0)
        have hS2 : Blk (w4.alloc (.map #[] 0)) H5 #[.int .i64 (fe : Int), .int .i64 (sz : Int), .slice A xl c] 69 ∧ Blk (w4.alloc (.map #[] 0)) H7 #[.int .i64 (t2 : Int), .string PB2] 76 := ⟨HX.out.1.alloc _, HX.out.2.alloc _⟩
        have hcm2 := CM.made w4
        have hMc : w.heap.size ≤ w4.heap.size := HB4.out.size
        have e0 := HX.out.2.cell 0
        have e1 := HX.out.2.cell 1
        have e2 := HX.out.1.cell 0
        have l5 := HX.out.1.lt
        have l7 := HX.out.2.lt
        simp at e0 e1 e2
        obtain ⟨W4, hrun4, hcm4, hg4⟩ := hcm2.one fe [] HFE.out
        have hb4 := hb2.grown hg4 hb2.size (fun g e => by cases e; exact hMc)
        have hS4 : Blk W4 H5 #[.int .i64 (fe : Int), .int .i64 (sz : Int), .slice A xl c] 69 ∧ Blk W4 H7 #[.int .i64 (t2 : Int), .string PB2] 76 := ⟨hS2.1.grown hg4 (fun e => by cases e; exact hcm2.not_cells hS2.1 rfl), hS2.2.grown hg4 (fun e => by cases e; exact hcm2.not_cells hS2.2 rfl)⟩
        have hst4 := HST.out.below hb4
        have HW4 := Lib.hid (And.intro hcm4 (And.intro hst4 (And.intro hS4 hb4)))
        have HRUN := Lib.hid hrun4
        have KST1 := KST X w4.heap.size W4 hst4 hcm4
        clear hb2 hcm2 hMc hrun4 hcm4 hg4 hb4 hS4 hst4 hS2 KST
        have hmm := @run_makeMap Tryz.prog
        rcases hn2 with rfl | rfl
        case inr =>
          go_wp2_with (first
            | (refine wpList_insert rfl 102 (.tmp 32) (.tmp 34) (.const (.string ⟨#[]⟩)) rfl _ _ _ (by rfl) (by rfl) (by rfl) HRUN.out ?_)
            | (go_at_call 50; (with_reducible refine KST1.mono ?_); rintro e W5 ⟨rfl, X2, hM5, hS0, hS7⟩; have HF := Lib.hid (And.intro (hS7 (by decide)) (((Mv.of_below (S :: X) HW4.out.2.2.2).trans hM5).cons2 M)); clear hM5 hS0 hS7 KST1))
          go_ret
          refine HRP.out _ _ ?_
          unfold RemP
          rw [HR2.out]
          exact ⟨rfl, X2, HF.out.2, by first | exact HF.out.1 | exact ⟨(fun h => by cases h), fun _ => HF.out.1⟩ | exact ⟨fun _ => HF.out.1, fun h => absurd rfl h⟩⟩
        go_upto_region 10 with (first
            | (refine wpList_insert rfl 102 (.tmp 32) (.tmp 34) (.const (.string ⟨#[]⟩)) rfl _ _ _ (by rfl) (by rfl) (by rfl) HRUN.out ?_)
            | (go_at_call 50; (with_reducible refine KST1.mono ?_); rintro e W5 ⟨rfl, X2, hM5, hS0, hS7⟩; have HF5 := Lib.hid (And.intro (hS0 rfl) (((Mv.of_below (S :: X) HW4.out.2.2.2).trans hM5).cons2 M)); clear hM5 hS0 hS7 KST1))
        obtain ⟨ad5, hFM5, hEX5⟩ := HF5.out.1.map
        obtain ⟨W6, hrun6, hFM6, hg6⟩ := HDR.out ad5 W5 hFM5
        have hne6 : ∀ g, some M = some g → ∀ c fr, W5.heap[g]? ≠ some (.cells c 90 fr) := fun g e c fr hc => by cases e; exact (hFM5.not_cells hc) rfl
        have hst6 := HF5.out.1.store hg6 hFM6 ((hEX5.grown hg6 hne6).sub (fun g hg => (List.mem_filter.1 hg).1))
        have HF := Lib.hid (And.intro hst6 (HF5.out.2.trans (Mv.of_grown hg6 (by simp))))
        have x4 := HF5.out.1.blk.cell 4
        simp at x4
        have s5 := HF5.out.1.blk.lt
        clear hFM5 hEX5 hFM6 hg6 hne6 hst6 e0 e1 e2 l5 l7 hmm
        go_wp2
        go_ret
        refine HRP.out _ _ ?_
        unfold RemP
        rw [HR2.out]
        exact ⟨rfl, X2, HF.out.2, by first | exact HF.out.1 | exact ⟨fun _ => HF.out.1, fun h => absurd rfl h⟩⟩
    · unfold wpOp
      go_simp
      have hB7 := Blk.new W0 #[.int .i64 0, .string ⟨#[]⟩] 76
      have hS1 := hS0.alloc hS0.size (.cells #[.int .i64 0, .string ⟨#[]⟩] 76)
      have hge : W1.heap.size ≤ W0.heap.size := hS0.size
      obtain ⟨H7, hH7⟩ : ∃ q, W0.heap.size = q := ⟨_, rfl⟩
      rw [hH7] at hB7 hge
      obtain ⟨w2, hw2⟩ : ∃ q, W0.alloc (.cells #[.int .i64 0, .string ⟨#[]⟩] 76) = q := ⟨_, rfl⟩
      rw [hw2] at hB7 hS1 ⊢
      try rw [hH7]
      clear hw2 hH7 hS0
      first | refine .inl ⟨hS1, ?_⟩ | refine ⟨hS1, ?_⟩
      have hB70 := hB7
      clear hB7
      refine wpAnyH_all (rs := [6]) (by kernel_rfl) (by simp) ?_
      intro i hi
      simp only [List.mem_cons, List.not_mem_nil, or_false] at hi
      subst hi
      unfold wpOp
      go_simp
      refine .inl ?_
      go_at_call 41
      refine (HKG.out w2 (HLA1.out.below (Nat.le_refl _) hS1)).mono ?_
      rintro e w3 ⟨rfl, hb3⟩
      have hS3 := hS1.trans (hb3.mono hS1.size)
      have hB7 := hB70.below hb3
      refine ⟨hS3, ?_⟩
      try go_simp
      clear hS1 hb3 hB70
      refine wpAnyH_take (i := 7) (v := .tuple #[.agg #[.int .i64 tn, .string PBn], .int .i64 en]) rfl (by kernel_rfl) (by kernel_rfl) (by kernel_rfl) (fun c a w h => h) (.inl ⟨by kernel_rfl, fun w' hS => ?_⟩) hS3 ?_
      · clear hS; go_simp
      try go_simp
      refine wpAnyH_take (i := 8) (v := .agg #[.int .i64 tn, .string PBn]) rfl (by kernel_rfl) (by kernel_rfl) (by kernel_rfl) (fun c a w h => h) (.inl ⟨by kernel_rfl, fun w' hS => ?_⟩) hS3 ?_
      · clear hS; go_simp
      try go_simp
      refine wpAnyH_take (i := 9) (v := .int .i64 en) rfl (by kernel_rfl) (by kernel_rfl) (by kernel_rfl) (fun c a w h => h) (.inl ⟨by kernel_rfl, fun w' hS => ?_⟩) hS3 ?_
      · clear hS; go_simp
      try go_simp
      -- from: w3; hB7 : Blk w3 H7 #[0, ""] 76; hS3 : Below W1.heap.size W1 w3; hge : W1.heap.size ≤ H7
      have c0 := hB7.cell 0
      have c1 := hB7.cell 1
      have f0 := hB7.frozen 0
      have f1 := hB7.frozen 1
      simp at c0 c1
      have l7 := hB7.lt
      refine wpAnyH_all (rs := [11]) (by kernel_rfl) (by simp) ?_
      intro i hi
      simp only [List.mem_cons, List.not_mem_nil, or_false] at hi
      subst hi
      unfold wpOp
      go_simp
      have hB74 := (hB7.set 0 (.int .i64 tn)).set 1 (.string PBn)
      have hS4 := below_set (below_set hS3 H7 0 (.int .i64 tn) hge) H7 1 (.string PBn) hge
      obtain ⟨w4, hw4⟩ : ∃ q, (w3.setCell ⟨H7, 0, none⟩ (.int .i64 tn)).setCell ⟨H7, 1, none⟩ (.string PBn) = q := ⟨_, rfl⟩
      rw [hw4] at hB74 hS4 ⊢
      clear hw4 hB7 hS3 c0 c1 f0 f1 l7
      first | refine .inl ⟨hS4, ?_⟩ | refine ⟨hS4, ?_⟩
      refine wpAnyH_all (rs := [12]) (by kernel_rfl) (by simp) ?_
      intro i hi
      simp only [List.mem_cons, List.not_mem_nil, or_false] at hi
      subst hi
      unfold wpOp
      go_simp
      first | refine .inl ⟨hS4, ?_⟩ | refine ⟨hS4, ?_⟩ | refine .inl ?_ | skip
      refine wpAnyH_done (by kernel_rfl) ?_ _
      have HB7 := Lib.hid hB74
      have HS4 := Lib.hid hS4
      have HGE := Lib.hid hge
      clear hB74 hS4 hge
      cases htn : turnS false m.T f.ext with
      | none =>
        have hq := HRF.out
        rw [htn] at hq
        unfold turnV at hq
        simp only [Value.tuple.injEq, Array.mk.injEq, List.cons.injEq, Value.agg.injEq, Value.int.injEq, Value.string.injEq, true_and, and_true] at hq
        obtain ⟨⟨rfl, rfl⟩, rfl⟩ := hq
        have HE : P = (14, none) := by rw [← HP.out, HPR.out, htn]
        subst HE
        clear htn
        go_wp2
        go_ret
        have hbF := HBW.out.trans (HS4.out.mono HBW.out.size)
        exact ⟨fun _ => ⟨rfl, hbF, HST.out.below hbF⟩, fun T2 f h => by cases h⟩
      | some T2 =>
        have hq := HRF.out
        rw [htn] at hq
        unfold turnV spv at hq
        simp only [Value.tuple.injEq, Array.mk.injEq, List.cons.injEq, Value.agg.injEq, Value.int.injEq, Value.string.injEq, true_and, and_true] at hq
        obtain ⟨⟨rfl, rfl⟩, rfl⟩ := hq
        have HE : P = (0, some (T2, f)) := by rw [← HP.out, HPR.out, htn]
        subst HE
        have hT2 := turnS_len _ _ _ _ htn
        have KST := fun (X1 : List Nat) (Mc : Nat) (w1 : World) hs1 hC => HKST.out X1 Mc T2 hT2 w1 hs1 hC
        unfold SetP spv at KST
        have HRP := Lib.hid (show ∀ e w', RemP X S D Lg M m T2 (delF m.F name) [(fe, [])] w e w' → RemoveP X S D Lg M m (0, some (T2, f)) w e w' from fun e w' hr => ⟨fun h => by (cases h), fun T3 f3 h => by
          cases h
          rw [HFN.out, HFEQ.out]; exact hr⟩)
        obtain ⟨t2, ht2⟩ : ∃ q, T2.length = q := ⟨_, rfl⟩
        obtain ⟨PB2, hPB2⟩ : ∃ q, mk (packB T2) = q := ⟨_, rfl⟩
        simp only [ht2, hPB2] at KST
        rw [ht2, hPB2] at HB7
        have hn2 := run_num (settleC m.most T2 [(fe, [])]) m.ds
        obtain ⟨r2, hr2⟩ : ∃ q, DS.run (settleC m.most T2 [(fe, [])]) m.ds = q := ⟨_, rfl⟩
        have HR2 := Lib.hid hr2
        rw [hr2] at hn2
        simp only [hr2] at KST
        obtain ⟨n2, d2⟩ := r2
        dsimp only at hn2 KST
        clear htn hT2 hr2 hPB2 ht2
        have hb4 := HBW.out.trans (HS4.out.mono HBW.out.size)
        have HB4 := Lib.hid hb4
        have hX : Blk w4 H5 #[.int .i64 (fe : Int), .int .i64 (sz : Int), .slice A xl c] 69 ∧ Blk w4 H7 #[.int .i64 (t2 : Int), .string PB2] 76 := ⟨HB5.out.below HS4.out, HB7.out⟩
        have HX := Lib.hid hX
        have HORD := Lib.hid (show (∀ x ∈ S :: M :: X, x ≠ H5 ∧ x ≠ H7) from fun x hx => by
          have q1 := HSLT.out x hx
          have q2 := HH5.out
          have q3 := HGE.out
          have q4 := HBW.out.size
          omega)
        clear hb4 hX
        have hb2 := HB4.out.alloc HB4.out.size (.map #[] 0)
        have hS2 : Blk (w4.alloc (.map #[] 0)) H5 #[.int .i64 (fe : Int), .int .i64 (sz : Int), .slice A xl c] 69 ∧ Blk (w4.alloc (.map #[] 0)) H7 #[.int .i64 (t2 : Int), .string PB2] 76 := ⟨HX.out.1.alloc _, HX.out.2.alloc _⟩
        have hcm2 := CM.made w4
        have hMc : w.heap.size ≤ w4.heap.size := HB4.out.size
        have e0 := HX.out.2.cell 0
        have e1 := HX.out.2.cell 1
        have e2 := HX.out.1.cell 0
        have l5 := HX.out.1.lt
        have l7 := HX.out.2.lt
        simp at e0 e1 e2
        obtain ⟨W4, hrun4, hcm4, hg4⟩ := hcm2.one fe [] HFE.out
        have hb4 := hb2.grown hg4 hb2.size (fun g e => by cases e; exact hMc)
        have hS4 : Blk W4 H5 #[.int .i64 (fe : Int), .int .i64 (sz : Int), .slice A xl c] 69 ∧ Blk W4 H7 #[.int .i64 (t2 : Int), .string PB2] 76 := ⟨hS2.1.grown hg4 (fun e => by cases e; exact hcm2.not_cells hS2.1 rfl), hS2.2.grown hg4 (fun e => by cases e; exact hcm2.not_cells hS2.2 rfl)⟩
        have hst4 := HST.out.below hb4
        have HW4 := Lib.hid (And.intro hcm4 (And.intro hst4 (And.intro hS4 hb4)))
        have HRUN := Lib.hid hrun4
        have KST1 := KST X w4.heap.size W4 hst4 hcm4
        clear hb2 hcm2 hMc hrun4 hcm4 hg4 hb4 hS4 hst4 hS2 KST
        have hmm := @run_makeMap Tryz.prog
        rcases hn2 with rfl | rfl
        case inr =>
          go_wp2_with (first
            | (refine wpList_insert rfl 102 (.tmp 32) (.tmp 34) (.const (.string ⟨#[]⟩)) rfl _ _ _ (by rfl) (by rfl) (by rfl) HRUN.out ?_)
            | (go_at_call 50; (with_reducible refine KST1.mono ?_); rintro e W5 ⟨rfl, X2, hM5, hS0, hS7⟩; have HF := Lib.hid (And.intro (hS7 (by decide)) (((Mv.of_below (S :: X) HW4.out.2.2.2).trans hM5).cons2 M)); clear hM5 hS0 hS7 KST1))
          go_ret
          refine HRP.out _ _ ?_
          unfold RemP
          rw [HR2.out]
          exact ⟨rfl, X2, HF.out.2, by first | exact HF.out.1 | exact ⟨(fun h => by cases h), fun _ => HF.out.1⟩ | exact ⟨fun _ => HF.out.1, fun h => absurd rfl h⟩⟩
        go_upto_region 10 with (first
            | (refine wpList_insert rfl 102 (.tmp 32) (.tmp 34) (.const (.string ⟨#[]⟩)) rfl _ _ _ (by rfl) (by rfl) (by rfl) HRUN.out ?_)
            | (go_at_call 50; (with_reducible refine KST1.mono ?_); rintro e W5 ⟨rfl, X2, hM5, hS0, hS7⟩; have HF5 := Lib.hid (And.intro (hS0 rfl) (((Mv.of_below (S :: X) HW4.out.2.2.2).trans hM5).cons2 M)); clear hM5 hS0 hS7 KST1))
        obtain ⟨ad5, hFM5, hEX5⟩ := HF5.out.1.map
        obtain ⟨W6, hrun6, hFM6, hg6⟩ := HDR.out ad5 W5 hFM5
        have hne6 : ∀ g, some M = some g → ∀ c fr, W5.heap[g]? ≠ some (.cells c 90 fr) := fun g e c fr hc => by cases e; exact (hFM5.not_cells hc) rfl
        have hst6 := HF5.out.1.store hg6 hFM6 ((hEX5.grown hg6 hne6).sub (fun g hg => (List.mem_filter.1 hg).1))
        have HF := Lib.hid (And.intro hst6 (HF5.out.2.trans (Mv.of_grown hg6 (by simp))))
        have x4 := HF5.out.1.blk.cell 4
        simp at x4
        have s5 := HF5.out.1.blk.lt
        clear hFM5 hEX5 hFM6 hg6 hne6 hst6 e0 e1 e2 l5 l7 hmm
        go_wp2
        go_ret
        refine HRP.out _ _ ?_
        unfold RemP
        rw [HR2.out]
        exact ⟨rfl, X2, HF.out.2, by first | exact HF.out.1 | exact ⟨fun _ => HF.out.1, fun h => absurd rfl h⟩⟩
end Go.Proofs.YtcmcdddnckcpcaaGreatDoor
