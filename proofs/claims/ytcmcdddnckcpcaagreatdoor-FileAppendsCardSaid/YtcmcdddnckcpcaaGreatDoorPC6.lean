/- FileAppends: the row and its tied card. -/
import Derived.Test.YtcmcdddnckcpcaaGreatDoorPC5
import Derived.Test.YtcmcdddnckcpcaaGreatDoorRows
import Derived.ProofKit
import Derived.LaidMore
import Derived.OpenShut
import Derived.ShutString
import Derived.Deep.DeepHandedRow
import Derived.Shelf.Vars
import Derived.MakeChecks
import Derived.Lib.LaidTab
import Derived.Test.YtcmcdddnckcpcaaGreatDoorPC1
import Derived.Deep.Slices
import Derived.SizedLaws
import Derived.Test.YtcmcdddnckcpcaaGreatDoorCards
import Derived.Test.YtcmcdddnckcpcaaGreatDoorTie
/- file.Rename, walked. -/
namespace Go.Proofs.YtcmcdddnckcpcaaGreatDoor
open Go.RowKit Go.Maps
def renF (f : FileM) (t : Bs) : FileM := ⟨t, f.entry, f.size, f.ext⟩
/-- What Rename finds, ahead of writing: the units, the entries, the files. -/
def preN (m : StoM) (name dest : Bs) : Nat × Option (List Bool × List (Nat × Bs) × List FileM) :=
  if goodF name = false ∨ goodF dest = false then (11, none) else match fileOf m.F name with
  | none => (9, none)
  | some f => if name = dest then (0, none) else match fileOf m.F dest with
    | none => (0, some (m.T, [(f.entry, entryB dest f.size f.ext)], putF (delF m.F name) (renF f dest)))
    | some g => match turnS false m.T g.ext with
      | none => (14, none)
      | some T2 => (0, some (T2, two2 f.entry (entryB dest f.size f.ext) g.entry [], putF (delF m.F name) (renF f dest)))
def RenameP (X : List Nat) (S D Lg M : Nat) (m : StoM) (p : Nat × Option (List Bool × List (Nat × Bs) × List FileM)) (w : World) (e : Ending) (w' : World) : Prop :=
  (p.2 = none → e = .returned (.int .i64 (p.1 : Nat)) ∧ Below w.heap.size w w' ∧ Sto w' X S D Lg M m) ∧
  ∀ T2 C F2, p.2 = some (T2, C, F2) → RemP X S D Lg M m T2 F2 C w e w'
theorem wpList_mapUpd {P : Program} {ops : Array Oper} {rest : List Oper} {Q : Exit → Act → World → Prop} {a : Act} {w w' : World} {o : Oper} (hg : o.guard = none) (t : TypeId) (m x v : Operand) (hop : o.op = .mapUpdate t m x v) (mv kv vv : Value)
    (hm : a.eval m = mv) (hx : a.eval x = kv) (hv : a.eval v = vv) (hrun : (Instr.mapUpdate t mv kv vv).run P w = .ok () w') (hK : wpList P ops Q rest (a.put o.dst undef) w') : wpList P ops Q (o :: rest) a w := by
  refine wpList_plain hg fun K' hK' => ?_
  unfold Oper.wp
  simp [execOp, hop, hm, hx, hv, hrun, Result.andThen]
  exact hK' _ _ hK
theorem entry_inj : ∀ {F : List FileM}, (F.map (·.entry)).Nodup → ∀ {f g : FileM}, f ∈ F → g ∈ F → f.entry = g.entry → f = g
  | [], _, _, _, h, _, _ => by cases h
  | a :: F, hnd, f, g, hf, hg, he => by
    rw [List.map_cons, List.nodup_cons] at hnd
    rcases List.mem_cons.1 hf with e1 | hf
    · rcases List.mem_cons.1 hg with e2 | hg
      · rw [e1, e2]
      · exact absurd (show a.entry ∈ F.map (·.entry) from List.mem_map.2 ⟨g, hg, by rw [← he, e1]⟩) hnd.1
    · rcases List.mem_cons.1 hg with e2 | hg
      · exact absurd (show a.entry ∈ F.map (·.entry) from List.mem_map.2 ⟨f, hf, by rw [he, e2]⟩) hnd.1
      · exact entry_inj hnd.2 hf hg he
theorem lies_grownM {w w' : World} {A : Option Addr} {xs : List Value} {e : TypeId} {r : Option Nat} (h : Lies w A xs) (ht : Typed w A e) (hg : w.grownBy w' r) (hr : ∀ g, r = some g → ∀ c fr, w.heap[g]? ≠ some (.cells c e fr)) : Lies w' A xs ∧ Typed w' A e := by
  refine ⟨fun h0 => ?_, fun a ha => ?_⟩
  · obtain ⟨g, o, he, hl, hc⟩ := h h0
    obtain ⟨cs, fr, hh⟩ := ht _ he
    have := hg.block g hl (fun e2 => hr g e2.symm cs fr hh)
    exact ⟨g, o, he, Nat.lt_of_lt_of_le hl hg.size, fun j u hu => (World.cell?_of_block (a := ⟨g, o + j, none⟩) this).trans (hc j u hu)⟩
  · obtain ⟨cs, fr, hh⟩ := ht a ha
    exact ⟨cs, fr, (hg.block _ (Array.getElem?_eq_some_iff.1 hh).1 (fun e2 => hr _ e2.symm cs fr hh)).trans hh⟩
set_option maxRecDepth 100000 in
set_option maxHeartbeats 4000000 in
theorem frename_any (X : List Nat) (S D Lg M : Nat) (m : StoM) (name dest : Bs) (w : World) (h : Sto w X S D Lg M m) (hb : StoB m) (h1 : m.off = false) (h2 : m.ds.off = false) (hn : name.length ≤ maxLen) (hn2 : dest.length ≤ maxLen) (hent : (m.F.map (·.entry)).Nodup) :
    Calls Tryz.prog 20 #[.pointer (some ⟨S, 0, none⟩), .string (mk name), .string (mk dest)] w (RenameP X S D Lg M m (preN m name dest) w) := by
  obtain ⟨ad, hFM, hEX⟩ := h.map
  have KRD := ready_ok X S D Lg M m w h h1 h2
  have KG1 := fun w1 => good_any name w1 (by unfold maxLen at hn; omega)
  have KG2 := fun w1 => good_any dest w1 (by unfold maxLen at hn2; omega)
  have HST := Lib.hid h
  obtain ⟨P, hP⟩ : ∃ q, preN m name dest = q := ⟨_, rfl⟩
  rw [hP]
  by_cases hgg : goodF name = false ∨ goodF dest = false
  · have HE : P = (11, none) := by rw [← hP]; unfold preN; rw [if_pos hgg]
    subst HE
    obtain ⟨NM, hNM⟩ : ∃ q, mk name = q := ⟨_, rfl⟩
    obtain ⟨DM, hDM⟩ : ∃ q, mk dest = q := ⟨_, rfl⟩
    rw [hNM] at KG1 ⊢
    rw [hDM] at KG2 ⊢
    rcases hgg with hg | hg
    · rw [hg] at KG1
      clear h hb h1 h2 hn hn2 hFM hEX hP hNM hDM hg hent KG2
      go_enter Tryz.func20, Tryz.ntmps20
      go_wp2_with (first
        | (go_at_call 48; refine KRD.mono ?_; rintro e w1 ⟨rfl, hw⟩; obtain rfl := hw.symm; clear KRD)
        | (go_at_call 11; refine (KG1 _).mono ?_; rintro e w1 ⟨rfl, hb1⟩; have HB1 := Lib.hid hb1; clear hb1 KG1))
      go_ret
      exact ⟨fun _ => ⟨rfl, HB1.out, HST.out.below HB1.out⟩, fun _ _ _ h => by cases h⟩
    · rw [hg] at KG2
      cases hg1 : goodF name with
      | false =>
        rw [hg1] at KG1
        clear h hb h1 h2 hn hn2 hFM hEX hP hNM hDM hg hg1 hent KG2
        go_enter Tryz.func20, Tryz.ntmps20
        go_wp2_with (first
          | (go_at_call 48; refine KRD.mono ?_; rintro e w1 ⟨rfl, hw⟩; obtain rfl := hw.symm; clear KRD)
          | (go_at_call 11; refine (KG1 _).mono ?_; rintro e w1 ⟨rfl, hb1⟩; have HB1 := Lib.hid hb1; clear hb1 KG1))
        go_ret
        exact ⟨fun _ => ⟨rfl, HB1.out, HST.out.below HB1.out⟩, fun _ _ _ h => by cases h⟩
      | true =>
        rw [hg1] at KG1
        clear h hb h1 h2 hn hn2 hFM hEX hP hNM hDM hg hg1 hent
        go_enter Tryz.func20, Tryz.ntmps20
        go_wp2_with (first
          | (go_at_call 48; refine KRD.mono ?_; rintro e w1 ⟨rfl, hw⟩; obtain rfl := hw.symm; clear KRD)
          | (go_at_call 11; (with_reducible refine (KG1 _).mono ?_); rintro e w1 ⟨rfl, hb1⟩; have HB1 := Lib.hid hb1; clear hb1 KG1)
          | (go_at_call 11; (with_reducible refine (KG2 _).mono ?_); rintro e w2 ⟨rfl, hb2⟩; have HB2 := Lib.hid (HB1.out.trans (hb2.mono HB1.out.size)); clear hb2 KG2))
        go_ret
        exact ⟨fun _ => ⟨rfl, HB2.out, HST.out.below HB2.out⟩, fun _ _ _ h => by cases h⟩
  have hg1 : goodF name = true := by cases hq : goodF name with
    | true => rfl
    | false => exact absurd (.inl hq) hgg
  have hg2 : goodF dest = true := by cases hq : goodF dest with
    | true => rfl
    | false => exact absurd (.inr hq) hgg
  rw [hg1] at KG1
  rw [hg2] at KG2
  have KF := fun (w1 : World) (hb1 : Below w.heap.size w w1) => find_ok X S D Lg M m ad name w1 (h.below hb1) (hFM.block (hb1.block M hFM.lt)) h1 h2 hn
  unfold preN at hP
  rw [if_neg hgg] at hP
  cases hf : fileOf m.F name with
  | none =>
    have HE : P = (9, none) := by rw [← hP, hf]
    subst HE
    have hV : findV ad m.F name = inoZ ∧ findE m.F name = 9 := by unfold findV findE; rw [if_pos hg1, if_pos hg1, hf]; exact ⟨rfl, rfl⟩
    rw [hV.1, hV.2] at KF
    unfold inoZ at KF
    obtain ⟨NM, hNM⟩ : ∃ q, mk name = q := ⟨_, rfl⟩
    obtain ⟨DM, hDM⟩ : ∃ q, mk dest = q := ⟨_, rfl⟩
    rw [hNM] at KG1 KF ⊢
    rw [hDM] at KG2 ⊢
    have HKF := Lib.hid KF
    clear h hb h1 h2 hn hn2 hFM hEX hP hNM hDM hg1 hg2 hgg hent hf hV KF
    go_enter Tryz.func20, Tryz.ntmps20
    go_wp2_with (first
      | (go_at_call 48; refine KRD.mono ?_; rintro e w1 ⟨rfl, hw⟩; obtain rfl := hw.symm; clear KRD)
      | (go_at_call 11; (with_reducible refine (KG1 _).mono ?_); rintro e w1 ⟨rfl, hb1⟩; have HB1 := Lib.hid hb1; clear hb1 KG1)
      | (go_at_call 11; (with_reducible refine (KG2 _).mono ?_); rintro e w2 ⟨rfl, hb2⟩; have HB2 := Lib.hid (HB1.out.trans (hb2.mono HB1.out.size)); have KF2 := HKF.out w2 HB2.out; clear hb2 KG2)
      | (go_at_call 37; refine KF2.mono ?_; rintro e w3 ⟨rfl, hb3⟩; have HB3 := Lib.hid (HB2.out.trans (hb3.mono HB2.out.size)); clear hb3 KF2))
    go_ret
    have hbF := HB3.out.alloc HB3.out.size (.cells #[.int .i64 0, .int .i64 0, .slice none 0 0] 69)
    exact ⟨fun _ => ⟨rfl, hbF, HST.out.below hbF⟩, fun _ _ _ h => by cases h⟩
  | some f =>
    rw [hf] at hP
    dsimp only at hP
    have hfm := fileOf_mem hf
    have hV : findV ad m.F name = inoV ad f ∧ findE m.F name = 0 := by unfold findV findE; rw [if_pos hg1, if_pos hg1, hf]; exact ⟨rfl, rfl⟩
    rw [hV.1, hV.2] at KF
    obtain ⟨hx1, hx2, hx3⟩ := hEX f hfm
    unfold inoV at KF
    obtain ⟨⟨A, c⟩, hA⟩ : ∃ q, ad f.name = q := ⟨_, rfl⟩
    rw [hA] at KF hx1 hx2 hx3
    dsimp only at KF hx1 hx2 hx3
    by_cases hnd : name = dest
    · have HE : P = (0, none) := by rw [← hP, if_pos hnd]
      subst HE
      subst hnd
      obtain ⟨fe, hfe⟩ : ∃ q, f.entry = q := ⟨_, rfl⟩
      obtain ⟨sz, hsz⟩ : ∃ q, f.size = q := ⟨_, rfl⟩
      obtain ⟨xl, hxl⟩ : ∃ q, f.ext.length = q := ⟨_, rfl⟩
      rw [hfe, hsz, hxl] at KF
      obtain ⟨NM, hNM⟩ : ∃ q, mk name = q := ⟨_, rfl⟩
      rw [hNM] at KG1 KF KG2 ⊢
      have HKF := Lib.hid KF
      clear h hb h1 h2 hn hn2 hFM hEX hP hNM hg1 hg2 hgg hent hf hV KF hfm hx1 hx2 hx3 hA hfe hsz hxl
      go_enter Tryz.func20, Tryz.ntmps20
      go_wp2_with (first
        | (go_at_call 48; refine KRD.mono ?_; rintro e w1 ⟨rfl, hw⟩; obtain rfl := hw.symm; clear KRD)
        | (go_at_call 11; (with_reducible refine (KG1 _).mono ?_); rintro e w1 ⟨rfl, hb1⟩; have HB1 := Lib.hid hb1; clear hb1 KG1)
        | (go_at_call 11; (with_reducible refine (KG2 _).mono ?_); rintro e w2 ⟨rfl, hb2⟩; have HB2 := Lib.hid (HB1.out.trans (hb2.mono HB1.out.size)); have KF2 := HKF.out w2 HB2.out; clear hb2 KG2)
        | (go_at_call 37; refine KF2.mono ?_; rintro e w3 ⟨rfl, hb3⟩; have HB3 := Lib.hid (HB2.out.trans (hb3.mono HB2.out.size)); clear hb3 KF2))
      go_ret
      have hbF := HB3.out.alloc HB3.out.size (.cells #[.int .i64 (fe : Int), .int .i64 (sz : Int), .slice A xl c] 69)
      exact ⟨fun _ => ⟨rfl, hbF, HST.out.below hbF⟩, fun _ _ _ h => by cases h⟩
    rw [if_neg hnd] at hP
    have HP := Lib.hid hP
    have hfn := fileOf_name hf
    have hexb := hb.exb f hfm
    have hexl := hb.exl f hfm
    have hfe0 := hb.ent f hfm
    have hfz := hb.siz f hfm
    have htl := hb.tl
    have hbl := bodyB_len dest f.size f.ext (goodF_len hg2) hfz hexl (fun x hx => by have := hexb x hx; omega)
    have hel : (entryB dest f.size f.ext).length ≤ 512 := by unfold entryB; rw [full_length _ (by rw [List.length_append, sumB_length]; omega)]; omega
    have KE := fun w1 hA1 hT1 hw1 => entry_any dest f.entry f.size A c f.ext w1 hA1 (by omega) (by omega) (fun x hx => by have := hexb x hx; omega) hbl hT1 hw1
    have HEN := Lib.hid hent
    have HFM := Lib.hid (And.intro hFM hEX)
    have HND := Lib.hid hnd
    have HBB := Lib.hid hb
    have HF := Lib.hid (And.intro hf (And.intro hfm (And.intro hfn (And.intro hexb (And.intro hexl (And.intro hfe0 (And.intro hfz hel)))))))
    have HLA := Lib.hid (And.intro hx1 (And.intro hx2 hx3))
    have HNN := Lib.hid (And.intro hn hn2)
    have HSLT := Lib.hid (show ∀ x ∈ S :: M :: X, x < w.heap.size from fun x hx => by
        rcases List.mem_cons.1 hx with rfl | hx
        · exact h.blk.lt
        · rcases List.mem_cons.1 hx with rfl | hx
          · exact hFM.lt
          · exact h.dsk.lt x hx)
    have hne : (mk name).toList ≠ (mk dest).toList := by rw [mk_toList', mk_toList']; exact hnd
    obtain ⟨fe, hfe⟩ : ∃ q, f.entry = q := ⟨_, rfl⟩
    obtain ⟨sz, hsz⟩ : ∃ q, f.size = q := ⟨_, rfl⟩
    obtain ⟨xl, hxl⟩ : ∃ q, f.ext.length = q := ⟨_, rfl⟩
    obtain ⟨EB, hEB⟩ : ∃ q, entryB dest f.size f.ext = q := ⟨_, rfl⟩
    rw [hfe, hsz, hxl] at KF
    rw [hEB, hfe, hsz, hxl] at KE
    obtain ⟨ES, hES⟩ : ∃ q, mk EB = q := ⟨_, rfl⟩
    rw [hES] at KE
    obtain ⟨NM, hNM⟩ : ∃ q, mk name = q := ⟨_, rfl⟩
    obtain ⟨DM, hDM⟩ : ∃ q, mk dest = q := ⟨_, rfl⟩
    rw [hNM] at KG1 KF hne ⊢
    rw [hDM] at KG2 KE hne ⊢
    have HEB := Lib.hid (And.intro hEB hES)
    have HFE := Lib.hid (And.intro hfe (And.intro hsz hxl))
    have HNM := Lib.hid (And.intro hNM hDM)
    have HFEB := Lib.hid (show fe ≤ 1000000 by have := hb.mo; omega)
    have hne2 : (NM.toList == DM.toList) = false := beq_eq_false_iff_ne.2 hne
    have HKF := Lib.hid KF
    have HKE := Lib.hid KE
    have mixed : Tryz.prog.follows Departure.mixedOrders = true := by kernel_rfl
    clear h hb h1 h2 hn hn2 hFM hEX hP hNM hDM hg1 hg2 hgg hent hf hV KF hfm hx1 hx2 hx3 hA hfe hsz hxl hnd hfn hexb hexl hfe0 hfz htl hbl hel KE hne hEB hES
    go_enter Tryz.func20, Tryz.ntmps20
    go_upto_region 9 with (first
        | (go_at_call 48; refine KRD.mono ?_; rintro e w1 ⟨rfl, hw⟩; obtain rfl := hw.symm; clear KRD)
        | (go_at_call 11; (with_reducible refine (KG1 _).mono ?_); rintro e w1 ⟨rfl, hb1⟩; have HB1 := Lib.hid hb1; clear hb1 KG1)
        | (go_at_call 11; (with_reducible refine (KG2 _).mono ?_); rintro e w2 ⟨rfl, hb2⟩; have HB2 := Lib.hid (HB1.out.trans (hb2.mono HB1.out.size)); have KF2 := HKF.out w2 HB2.out; clear hb2 KG2)
        | (go_at_call 37; refine KF2.mono ?_; rintro e w3 ⟨rfl, hb3⟩; have HB3 := Lib.hid (HB2.out.trans (hb3.mono HB2.out.size)); clear hb3 KF2))
    have hB8 := Blk.new w3 #[.int .i64 (fe : Int), .int .i64 (sz : Int), .slice A xl c] 69
    have hbw := HB3.out.alloc HB3.out.size (.cells #[.int .i64 (fe : Int), .int .i64 (sz : Int), .slice A xl c] 69)
    have hH8 := HB3.out.size
    obtain ⟨H8, hH⟩ : ∃ q, w3.heap.size = q := ⟨_, rfl⟩
    obtain ⟨W1, hW⟩ : ∃ q, w3.alloc (.cells #[.int .i64 (fe : Int), .int .i64 (sz : Int), .slice A xl c] 69) = q := ⟨_, rfl⟩
    rw [hH] at hB8 hH8
    simp only [hW] at hB8 hbw ⊢
    try simp only [hH]
    have HB8 := Lib.hid hB8
    have HBW := Lib.hid hbw
    have HH8 := Lib.hid hH8
    have HST1 := Lib.hid (HST.out.below hbw)
    have HLA1 := Lib.hid (HLA.out.1.below (Nat.le_refl _) hbw)
    clear hH hW hB8 hbw hH8
    go_cut [10] from 42 to 48 (fun s10 wx => ∃ Mc, s10 = .map (some Mc) ∧ CM wx Mc [(fe, EB)] ∧ W1.heap.size ≤ Mc ∧ Below W1.heap.size W1 wx)
    case first =>
      refine wp_region_held (S := fun w' => Below W1.heap.size W1 w') mixed ?_
      change wpAnyH _ _ _ _ _ _ _ _ W1.drew
      have hS0 : Below W1.heap.size W1 W1.drew := (Below.refl _ _).drew
      obtain ⟨W0, hW0⟩ : ∃ q, W1.drew = q := ⟨_, rfl⟩
      rw [hW0] at hS0 ⊢
      clear hW0
      have HY := Lib.hid (And.intro (HB8.out.cell 0) (And.intro (HB8.out.cell 1) (And.intro (HB8.out.cell 2) HB8.out.lt)))
      refine wpAnyH_take (i := 1) (v := .pointer (some ⟨H8, 0, none⟩)) rfl (by kernel_rfl) (by kernel_rfl) (by kernel_rfl) (fun c a w h => h) (.inl ⟨by kernel_rfl, fun w' hS => ?_⟩) hS0 ?_
      · clear hS; go_simp
      try go_simp
      refine wpAnyH_take (i := 2) (v := .int .i64 (fe : Int)) rfl (by kernel_rfl) (by kernel_rfl) (by kernel_rfl) (fun c a w h => h) (.inl ⟨by kernel_rfl, fun w' hS => ?_⟩) hS0 ?_
      · have q0 := (hS.cell (p := ⟨H8, 0, none⟩) HY.out.2.2.2).trans HY.out.1; simp at q0; go_simp
      try go_simp
      refine wpAnyH_take (i := 3) (v := .string DM) rfl (by kernel_rfl) (by kernel_rfl) (by kernel_rfl) (fun c a w h => h) (.inl ⟨by kernel_rfl, fun w' hS => ?_⟩) hS0 ?_
      · clear hS; go_simp
      try go_simp
      refine wpAnyH_take (i := 4) (v := .agg #[.int .i64 (fe : Int), .int .i64 (sz : Int), .slice A xl c]) rfl (by kernel_rfl) (by kernel_rfl) (by kernel_rfl) (fun c a w h => h) (.inl ⟨by kernel_rfl, fun w' hS => ?_⟩) hS0 ?_
      · have q0 := (hS.cell (p := ⟨H8, 0, none⟩) HY.out.2.2.2).trans HY.out.1; have q1 := (hS.cell (p := ⟨H8, 1, none⟩) HY.out.2.2.2).trans HY.out.2.1; have q2 := (hS.cell (p := ⟨H8, 2, none⟩) HY.out.2.2.2).trans HY.out.2.2.1; simp at q0 q1 q2; go_simp
      try go_simp
      refine wpAnyH_all (rs := [0, 5]) (by kernel_rfl) (by simp) ?_
      intro i hi
      simp only [List.mem_cons, List.not_mem_nil, or_false] at hi
      rcases hi with rfl | rfl
      · unfold wpOp
        have hmm := @run_makeMap Tryz.prog
        go_simp
        clear hmm
        have hcm := CM.made W0
        have hge : W1.heap.size ≤ W0.heap.size := hS0.size
        have hS1 := hS0.alloc hS0.size (.map #[] 0)
        obtain ⟨Mc, hMc⟩ : ∃ q, W0.heap.size = q := ⟨_, rfl⟩
        rw [hMc] at hcm hge
        obtain ⟨W2, hW2⟩ : ∃ q, W0.alloc (.map #[] 0) = q := ⟨_, rfl⟩
        rw [hW2] at hcm hS1 ⊢
        try rw [hMc]
        clear hW2 hMc hS0
        first | refine .inl ⟨hS1, ?_⟩ | refine ⟨hS1, ?_⟩
        refine wpAnyH_all (rs := [5]) (by kernel_rfl) (by simp) ?_
        intro i hi
        simp only [List.mem_cons, List.not_mem_nil, or_false] at hi
        subst hi
        unfold wpOp
        go_simp
        refine .inl ?_
        go_at_call 49
        refine (HKE.out W2 (HLA1.out.below (Nat.le_refl _) hS1) ((HST1.out.below hS1).tb) ((HST1.out.below hS1).pos)).mono ?_
        rintro e W3 ⟨rfl, hbe⟩
        have hS2 := hS1.trans (hbe.mono hS1.size)
        have hcm2 := hcm.block (hbe.block Mc hcm.lt)
        refine ⟨hS2, ?_⟩
        try go_simp
        clear hS1 hcm hbe
        -- from: W3, hcm2 : CM W3 Mc [], hge, hS2 : Below W1.heap.size W1 W3
        obtain ⟨W4, hrun4, hcm4, hg4⟩ := hcm2.one fe EB HFEB.out
        rw [HEB.out.2] at hrun4
        have hS4 := hS2.grown hg4 hS2.size (fun g e => by cases e; exact hge)
        refine wpAnyH_all (rs := [6]) (by kernel_rfl) (by simp) ?_
        intro i hi
        simp only [List.mem_cons, List.not_mem_nil, or_false] at hi
        subst hi
        refine wpOp_insert rfl rfl 102 (.tmp 42) (.tmp 44) (.tmp 47) rfl _ _ _ (by rfl) (by rfl) (by rfl) hrun4 ?_
        refine ⟨hS4, ?_⟩
        clear hrun4 hS2 hcm2
        refine wpAnyH_take (i := 7) (v := .map (some Mc)) rfl (by kernel_rfl) (by kernel_rfl) (by kernel_rfl) (fun c a w h => h) (.inl ⟨by kernel_rfl, fun w' hS => ?_⟩) hS4 ?_
        · clear hS; go_simp
        try go_simp
        refine wpAnyH_take (i := 8) (v := .map (some Mc)) rfl (by kernel_rfl) (by kernel_rfl) (by kernel_rfl) (fun c a w h => h) (.inl ⟨by kernel_rfl, fun w' hS => ?_⟩) hS4 ?_
        · clear hS; go_simp
        try go_simp
        refine wpAnyH_done (by kernel_rfl) ?_ _
        go_wp2_with fail
        go_meet
        exact ⟨Mc, rfl, hcm4, hge, hS4⟩
      · unfold wpOp
        go_simp
        refine .inl ?_
        go_at_call 49
        refine (HKE.out W0 (HLA1.out.below (Nat.le_refl _) hS0) ((HST1.out.below hS0).tb) ((HST1.out.below hS0).pos)).mono ?_
        rintro e W2 ⟨rfl, hbe⟩
        have hS1 := hS0.trans (hbe.mono hS0.size)
        refine ⟨hS1, ?_⟩
        try go_simp
        clear hS0 hbe
        refine wpAnyH_all (rs := [0]) (by kernel_rfl) (by simp) ?_
        intro i hi
        simp only [List.mem_cons, List.not_mem_nil, or_false] at hi
        subst hi
        unfold wpOp
        have hmm := @run_makeMap Tryz.prog
        go_simp
        clear hmm
        have hcm2 := CM.made W2
        have hge : W1.heap.size ≤ W2.heap.size := hS1.size
        have hS2 := hS1.alloc hS1.size (.map #[] 0)
        obtain ⟨Mc, hMc⟩ : ∃ q, W2.heap.size = q := ⟨_, rfl⟩
        rw [hMc] at hcm2 hge
        obtain ⟨W3, hW3⟩ : ∃ q, W2.alloc (.map #[] 0) = q := ⟨_, rfl⟩
        rw [hW3] at hcm2 hS2 ⊢
        try rw [hMc]
        clear hW3 hMc hS1
        first | refine .inl ⟨hS2, ?_⟩ | refine ⟨hS2, ?_⟩
        -- from: W3, hcm2 : CM W3 Mc [], hge, hS2 : Below W1.heap.size W1 W3
        obtain ⟨W4, hrun4, hcm4, hg4⟩ := hcm2.one fe EB HFEB.out
        rw [HEB.out.2] at hrun4
        have hS4 := hS2.grown hg4 hS2.size (fun g e => by cases e; exact hge)
        refine wpAnyH_all (rs := [6]) (by kernel_rfl) (by simp) ?_
        intro i hi
        simp only [List.mem_cons, List.not_mem_nil, or_false] at hi
        subst hi
        refine wpOp_insert rfl rfl 102 (.tmp 42) (.tmp 44) (.tmp 47) rfl _ _ _ (by rfl) (by rfl) (by rfl) hrun4 ?_
        refine ⟨hS4, ?_⟩
        clear hrun4 hS2 hcm2
        refine wpAnyH_take (i := 7) (v := .map (some Mc)) rfl (by kernel_rfl) (by kernel_rfl) (by kernel_rfl) (fun c a w h => h) (.inl ⟨by kernel_rfl, fun w' hS => ?_⟩) hS4 ?_
        · clear hS; go_simp
        try go_simp
        refine wpAnyH_take (i := 8) (v := .map (some Mc)) rfl (by kernel_rfl) (by kernel_rfl) (by kernel_rfl) (fun c a w h => h) (.inl ⟨by kernel_rfl, fun w' hS => ?_⟩) hS4 ?_
        · clear hS; go_simp
        try go_simp
        refine wpAnyH_done (by kernel_rfl) ?_ _
        go_wp2_with fail
        go_meet
        exact ⟨Mc, rfl, hcm4, hge, hS4⟩
    case rest =>
      rename World => wx
      obtain ⟨Mc, rfl, hcm, hge, hbx⟩ := hcut
      have hstx := HST1.out.below hbx
      have y2 := hstx.blk.cell 2
      have y3 := hstx.blk.cell 3
      simp only [stoCells] at y2 y3
      simp at y2 y3
      have hSl := hstx.blk.lt
      obtain ⟨tl, htl⟩ : ∃ q, m.T.length = q := ⟨_, rfl⟩
      obtain ⟨PB, hPB⟩ : ∃ q, mk (packB m.T) = q := ⟨_, rfl⟩
      rw [htl] at y2
      rw [hPB] at y3
      have HTL := Lib.hid (And.intro htl hPB)
      have HX := Lib.hid (And.intro hcm (And.intro hge hbx))
      have HSTX := Lib.hid hstx
      clear hcm hge hbx hstx htl hPB
      go_upto_region 11 with (fail)
      have hB11 := Blk.new wx #[.int .i64 (tl : Int), .string PB] 76
      have hb3 := HX.out.2.2.alloc HX.out.2.2.size (.cells #[.int .i64 (tl : Int), .string PB] 76)
      have hst3 := HSTX.out.below (below_alloc wx (.cells #[.int .i64 (tl : Int), .string PB] 76))
      have hcm3 := HX.out.1.block ((below_alloc wx (.cells #[.int .i64 (tl : Int), .string PB] 76)).block Mc HX.out.1.lt)
      have hge11 : W1.heap.size ≤ wx.heap.size := HX.out.2.2.size
      have hMc11 : Mc < wx.heap.size := HX.out.1.lt
      obtain ⟨H11, hH11⟩ : ∃ q, wx.heap.size = q := ⟨_, rfl⟩
      rw [hH11] at hB11 hge11 hMc11
      obtain ⟨W3, hW3⟩ : ∃ q, wx.alloc (.cells #[.int .i64 (tl : Int), .string PB] 76) = q := ⟨_, rfl⟩
      simp only [hW3] at hB11 hb3 hst3 hcm3 ⊢
      try simp only [hH11]
      have HW3 := Lib.hid (And.intro hB11 (And.intro hb3 (And.intro hst3 (And.intro hcm3 (And.intro hge11 hMc11)))))
      obtain ⟨ad3, hFM3, hEX3⟩ := hst3.map
      have hlk := hFM3.look dest HNN.out.2
      rw [HNM.out.2] at hlk
      have z4 := hst3.blk.cell 4
      simp at z4
      have hSl3 := hst3.blk.lt
      have HEX3 := Lib.hid hEX3
      have HP2 := HP.out
      clear hB11 hb3 hst3 hcm3 hge11 hMc11 hW3 hH11 hFM3 hEX3 y2 y3 hSl
      cases hg : fileOf m.F dest with
      | none =>
        rw [hg] at hlk HP2
        simp only [Option.map_none, Option.getD_none, Option.isSome_none] at hlk
        unfold inoZ at hlk
        dsimp only at HP2
        subst HP2
        have HC := Lib.hid (show m.T.length = m.T.length ∧ [(fe, EB)].length ≤ 2 ∧ ∀ q ∈ [(fe, EB)], q.1 < m.most ∧ q.2.length ≤ 512 from ⟨rfl, by simp, fun q hq => by
          have : q = (fe, EB) := by simpa using hq
          subst this
          exact ⟨by rw [← HFE.out.1]; exact HF.out.2.2.2.2.2.1, by rw [← HEB.out.1]; exact HF.out.2.2.2.2.2.2.2⟩⟩)
        clear hg HP
        go_upto_region 17 with (fail)
        have hb5 := HW3.out.2.1.alloc HW3.out.2.1.size (.cells #[.int .i64 0, .int .i64 0, .slice none 0 0] 69)
        have hb35 := below_alloc W3 (.cells #[.int .i64 0, .int .i64 0, .slice none 0 0] 69)
        obtain ⟨W5, hW5⟩ : ∃ q, W3.alloc (.cells #[.int .i64 0, .int .i64 0, .slice none 0 0] 69) = q := ⟨_, rfl⟩
        rw [hW5] at hb5 hb35 ⊢
        obtain ⟨T2, hT2⟩ : ∃ T2 : List Bool, T2 = m.T := ⟨_, rfl⟩
        obtain ⟨C, hC⟩ : ∃ C : List (Nat × Bs), C = [(f.entry, entryB dest f.size f.ext)] := ⟨_, rfl⟩
        have HRP := Lib.hid (show ∀ e w', RemP X S D Lg M m T2 (putF (delF m.F name) (renF f dest)) C w e w' → RenameP X S D Lg M m (0, some (m.T, [(f.entry, entryB dest f.size f.ext)], putF (delF m.F name) (renF f dest))) w e w' from fun e w' hr => ⟨fun h => by (cases h), fun T3 C3 F3 h => by
          cases h
          rw [← hT2, ← hC]
          exact hr⟩)
        have hC2 : C = [(fe, EB)] := by rw [hC, HFE.out.1, HEB.out.1]
        have HT2L := Lib.hid (show T2.length = tl ∧ mk (packB T2) = PB by rw [hT2]; exact HTL.out)
        have HT17 := Lib.hid (show Blk W5 H8 #[.int .i64 (fe : Int), .int .i64 (sz : Int), .slice A xl c] 69 ∧ Blk W5 H11 #[.int .i64 (tl : Int), .string PB] 76 ∧ Below w.heap.size w W5 ∧ CM W5 Mc C from
          ⟨HB8.out.below hb5, HW3.out.1.below hb35, HBW.out.trans (hb5.mono HBW.out.size), by rw [hC2]; exact HW3.out.2.2.2.1.block (hb35.block Mc HW3.out.2.2.2.1.lt)⟩)
        replace HC := Lib.hid (show T2.length = m.T.length ∧ C.length ≤ 2 ∧ ∀ q ∈ C, q.1 < m.most ∧ q.2.length ≤ 512 by rw [hT2, hC2]; exact HC.out)
        clear hb5 hb35 hW5 hT2 hC hC2
        -- from: W5 (region 17); HT17 : Hid (Blk W5 H8 #[fe, sz, slice A xl c] 69 ∧ Blk W5 H11 #[t2, PB2] 76 ∧ Below w.heap.size w W5 ∧ CM W5 Mc C); HC: Hid facts of T2, C; HE17: P = (0, some (T2, C, ..)) was substituted
        have hst5 := HST.out.below HT17.out.2.2.1
        have KST := settle_any X S D Lg M Mc m T2 C W5 hst5 HT17.out.2.2.2 HC.out.1 (by rw [HC.out.1]; exact HBB.out.tl) HC.out.2.1 HC.out.2.2 HBB.out.mo (by have := HBB.out.ll; omega) (by have := HBB.out.sl; omega)
        unfold SetP spv at KST
        rw [HT2L.out.1, HT2L.out.2] at KST
        have hn2 := run_num (settleC m.most T2 C) m.ds
        obtain ⟨r2, hr2⟩ : ∃ q, DS.run (settleC m.most T2 C) m.ds = q := ⟨_, rfl⟩
        have HR2 := Lib.hid hr2
        rw [hr2] at hn2 KST
        obtain ⟨n2, d2⟩ := r2
        dsimp only at hn2 KST
        have hx5 := HT17.out.1
        have hA5 := HLA.out.1.below (Nat.le_refl _) HT17.out.2.2.1
        have hAT5 := HLA.out.2.1.below HT17.out.2.2.1
        have hAX5 : ∀ a, A = some a → a.block ∉ S :: X := fun a ha hx => by
          rcases List.mem_cons.1 hx with e | e
          · obtain ⟨cs, fr, hc⟩ := HLA.out.2.1 a ha
            have hb := HST.out.blk
            unfold Blk at hb
            rw [e, hb] at hc
            simp at hc
          · exact HLA.out.2.2 a ha e
        have HA5 := Lib.hid (And.intro hA5 (And.intro hAT5 hAX5))
        have hH8X : H8 ∉ S :: X := fun hx => by
          have q1 := HH8.out
          rcases List.mem_cons.1 hx with e | e
          · have := HSLT.out S (by simp); omega
          · have := HSLT.out H8 (by simp [e]); omega
        have HH8X := Lib.hid hH8X
        have g0 := HT17.out.2.1.cell 0
        have g1 := HT17.out.2.1.cell 1
        simp at g0 g1
        have l11 := HT17.out.2.1.lt
        clear hst5 hr2 hx5 hA5 hAT5 hAX5 hH8X
        rcases hn2 with rfl | rfl
        case inr =>
          go_wp2_with (first
            | (go_at_call 50; (with_reducible refine KST.mono ?_); rintro e W6 ⟨rfl, X2, hM6, hS0, hS7⟩; have HF := Lib.hid (And.intro (hS7 (by decide)) (((Mv.of_below (S :: X) HT17.out.2.2.1).trans hM6).cons2 M)); clear hM6 hS0 hS7 KST))
          go_ret
          refine HRP.out _ _ ?_
          unfold RemP
          rw [HR2.out]
          exact ⟨rfl, X2, HF.out.2, by first | exact HF.out.1 | exact ⟨(fun h => by cases h), fun _ => HF.out.1⟩ | exact ⟨fun _ => HF.out.1, fun h => absurd rfl h⟩⟩
        go_upto_region 20 with (first
            | (go_at_call 50; (with_reducible refine KST.mono ?_); rintro e W6 ⟨rfl, X2, hM6, hS0, hS7⟩; have HF6 := Lib.hid (And.intro (hS0 rfl) hM6); clear hM6 hS0 hS7 KST))
        obtain ⟨ad6, hFM6, hEX6⟩ := HF6.out.1.map
        obtain ⟨W7, hrun7, hFM7, hg7⟩ := hFM6.drop name HNN.out.1 0
        rw [HNM.out.1] at hrun7
        have hne7 : ∀ g, some M = some g → ∀ c fr, W6.heap[g]? ≠ some (.cells c 90 fr) := fun g e c fr hc => by cases e; exact (hFM6.not_cells hc) rfl
        have hEX7 := (hEX6.grown hg7 hne7).sub (G := delF m.F name) (fun g hg => (List.mem_filter.1 hg).1)
        have hst7 := HF6.out.1.store hg7 hFM7 hEX7
        have hA6 := HF6.out.2.lies HA5.out.1 HA5.out.2.2
        have hAT6 := HA5.out.2.1.frm HF6.out.2.frm HA5.out.2.2
        have hAX6 : ∀ a, A = some a → a.block ∉ X2 := fun a ha hx => by
          obtain ⟨cs, fr, hc⟩ := HA5.out.2.1 a ha
          exact HF6.out.2.apart (HA5.out.2.2 a ha) (Array.getElem?_eq_some_iff.1 hc).1 (List.mem_cons_of_mem _ hx)
        obtain ⟨hA7, hAT7⟩ := lies_grownM hA6 hAT6 hg7 hne7
        have x4 := HF6.out.1.blk.cell 4
        simp at x4
        have s5 := HF6.out.1.blk.lt
        have hB86 := HF6.out.2.blk HT17.out.1 HH8X.out
        have hB87 := hB86.grown hg7 (fun e => (hFM6.not_cells hB86) (by cases e; rfl))
        have y4 := hst7.blk.cell 4
        simp at y4
        have HW7 := Lib.hid (And.intro hst7 (And.intro (((Mv.of_below (S :: X) HT17.out.2.2.1).trans HF6.out.2).cons2 M) (And.intro hg7 (And.intro hA7 (And.intro hAT7 (And.intro hAX6 (And.intro hB87 y4)))))))
        clear hFM6 hEX6 hFM7 hg7 hne7 hEX7 hst7 hA6 hAT6 hAX6 hA7 hAT7 hB86 hB87 y4 g0 g1 l11
        go_upto_region 21 with (fail)
        obtain ⟨ad7, hFM7, hEX7⟩ := HW7.out.1.map
        have hFM7' : FM W7.drew M ad7 (delF m.F name) := hFM7
        obtain ⟨W8, hrun8, hFM8, hg8'⟩ := hFM7'.store (renF f dest) A c (Nat.lt_of_le_of_lt (Nat.le_trans (List.length_filter_le ..) HBB.out.len) (by unfold maxLen; omega)) HNN.out.2
        have hg8 : W7.grownBy W8 (some M) := ⟨hg8'.os, hg8'.tape, hg8'.output, hg8'.size, hg8'.block⟩
        have hrun8b := hrun8
        unfold renF at hrun8b
        dsimp only at hrun8b
        rw [HNM.out.2, HFE.out.1, HFE.out.2.1, HFE.out.2.2] at hrun8b
        have hne8 : ∀ g, some M = some g → ∀ c fr, W7.heap[g]? ≠ some (.cells c 90 fr) := fun g e c fr hc => by cases e; exact (hFM7.not_cells hc) rfl
        have hE8 := (hEX7.grown hg8 hne8).put (f := renF f dest) (c := c) (lies_grownM HW7.out.2.2.2.1 HW7.out.2.2.2.2.1 hg8 hne8).1 (lies_grownM HW7.out.2.2.2.1 HW7.out.2.2.2.2.1 hg8 hne8).2 HW7.out.2.2.2.2.2.1
        have hst8 := HW7.out.1.store hg8 hFM8 hE8
        have HF := Lib.hid (And.intro hst8 ((HW7.out.2.1.trans (Mv.of_grown HW7.out.2.2.1 (by simp))).trans (Mv.of_grown hg8 (by simp))))
        have HRUN8 := Lib.hid hrun8b
        have hS9 : W8.cell? ⟨S, 4, none⟩ = some (.map (some M)) ∧ Blk W8 H8 #[.int .i64 (fe : Int), .int .i64 (sz : Int), .slice A xl c] 69 :=
          ⟨(World.cell?_of_block (a := ⟨S, 4, none⟩) (hg8.block S HW7.out.1.blk.lt (fun e => HW7.out.1.ne.2.1 (by cases e; rfl)))).trans HW7.out.2.2.2.2.2.2.2, HW7.out.2.2.2.2.2.2.1.grown hg8 (fun e => (hFM7.not_cells HW7.out.2.2.2.2.2.2.1) (by cases e; rfl))⟩
        clear hFM7 hEX7 hFM7' hrun8 hrun8b hFM8 hg8 hg8' hne8 hE8 hst8
        refine wp_region_held (S := fun w' => w'.cell? ⟨S, 4, none⟩ = some (.map (some M)) ∧ Blk w' H8 #[.int .i64 (fe : Int), .int .i64 (sz : Int), .slice A xl c] 69) mixed ?_
        change wpAnyH _ _ _ _ _ _ _ _ W7.drew
        have hS8 : W7.drew.cell? ⟨S, 4, none⟩ = some (.map (some M)) ∧ Blk W7.drew H8 #[.int .i64 (fe : Int), .int .i64 (sz : Int), .slice A xl c] 69 := ⟨HW7.out.2.2.2.2.2.2.2, HW7.out.2.2.2.2.2.2.1⟩
        refine wpAnyH_take (i := 0) (v := .pointer (some ⟨S, 0, none⟩)) rfl (by kernel_rfl) (by kernel_rfl) (by kernel_rfl) (fun c a w h => h) (.inl ⟨by kernel_rfl, fun w' hS => ?_⟩) hS8 ?_
        · clear hS; go_simp
        try go_simp
        refine wpAnyH_take (i := 1) (v := .pointer (some ⟨S, 0, none⟩)) rfl (by kernel_rfl) (by kernel_rfl) (by kernel_rfl) (fun c a w h => h) (.inl ⟨by kernel_rfl, fun w' hS => ?_⟩) hS8 ?_
        · clear hS; go_simp
        try go_simp
        refine wpAnyH_take (i := 2) (v := .pointer (some ⟨S, 4, none⟩)) rfl (by kernel_rfl) (by kernel_rfl) (by kernel_rfl) (fun c a w h => h) (.inl ⟨by kernel_rfl, fun w' hS => ?_⟩) hS8 ?_
        · clear hS; go_simp
        try go_simp
        refine wpAnyH_take (i := 3) (v := .map (some M)) rfl (by kernel_rfl) (by kernel_rfl) (by kernel_rfl) (fun c a w h => h) (.inl ⟨by kernel_rfl, fun w' hS => ?_⟩) hS8 ?_
        · have q0 := hS.1; go_simp
        try go_simp
        refine wpAnyH_take (i := 4) (v := .string DM) rfl (by kernel_rfl) (by kernel_rfl) (by kernel_rfl) (fun c a w h => h) (.inl ⟨by kernel_rfl, fun w' hS => ?_⟩) hS8 ?_
        · clear hS; go_simp
        try go_simp
        refine wpAnyH_take (i := 5) (v := .agg #[.int .i64 (fe : Int), .int .i64 (sz : Int), .slice A xl c]) rfl (by kernel_rfl) (by kernel_rfl) (by kernel_rfl) (fun c a w h => h) (.inl ⟨by kernel_rfl, fun w' hS => ?_⟩) hS8 ?_
        · have q0 := hS.2.cell 0; have q1 := hS.2.cell 1; have q2 := hS.2.cell 2; simp at q0 q1 q2; go_simp
        try go_simp
        refine wpAnyH_all (rs := [6]) (by kernel_rfl) (by simp) ?_
        intro i hi
        simp only [List.mem_cons, List.not_mem_nil, or_false] at hi
        subst hi
        refine wpOp_mapUpdate rfl rfl 77 (.tmp 90) (.tmp 91) (.tmp 92) rfl _ _ _ (by rfl) (by rfl) (by rfl) HRUN8.out ?_
        refine ⟨hS9, ?_⟩
        refine wpAnyH_done (by kernel_rfl) ?_ _
        clear hS8 hS9
        go_wp2
        go_ret
        refine HRP.out _ _ ?_
        unfold RemP
        rw [HR2.out]
        exact ⟨rfl, X2, HF.out.2, by first | exact HF.out.1 | exact ⟨(fun h => by cases h), fun _ => HF.out.1⟩ | exact ⟨fun _ => HF.out.1, fun h => absurd rfl h⟩⟩
      | some g =>
        rw [hg] at hlk HP2
        simp only [Option.map_some, Option.getD_some, Option.isSome_some] at hlk
        have hgm := fileOf_mem hg
        have hgn := fileOf_name hg
        have hexg := HEX3.out g hgm
        unfold inoV at hlk
        obtain ⟨⟨A9, c9⟩, hA9⟩ : ∃ q, ad3 g.name = q := ⟨_, rfl⟩
        rw [hA9] at hlk hexg
        dsimp only at hlk hexg HP2
        have hne : g.entry ≠ f.entry := fun e => by
          have := entry_inj HEN.out hgm HF.out.2.1 e
          subst this
          have q1 := HF.out.2.2.1
          exact HND.out (q1.symm.trans hgn)
        have KG := fun (w5 : World) (hL : Lies w5 A9 (ecells g.ext)) => give_any m.T g.ext A9 c9 w5 HBB.out.tl hL (fun x hx => by have := HBB.out.exb g hgm x hx; have := HBB.out.tl; omega) (by have := HBB.out.exl g hgm; omega)
        obtain ⟨tn, PBn, en, hRf⟩ := turnV_form (turnS false m.T g.ext)
        have HRF := Lib.hid hRf
        rw [hRf] at KG
        unfold spv at KG
        rw [HTL.out.1, HTL.out.2] at KG
        have HGE := Lib.hid (show g.entry < m.most ∧ g.entry ≤ 1000000 by have := HBB.out.ent g hgm; have := HBB.out.mo; omega)
        obtain ⟨ge, hge⟩ : ∃ q, g.entry = q := ⟨_, rfl⟩
        obtain ⟨gs, hgs⟩ : ∃ q, g.size = q := ⟨_, rfl⟩
        obtain ⟨gl, hgl⟩ : ∃ q, g.ext.length = q := ⟨_, rfl⟩
        rw [hge, hgs, hgl] at hlk
        rw [hgl] at KG
        rw [hge] at hne HGE
        rw [HFE.out.1] at hne
        have HGL := Lib.hid (And.intro hne (And.intro hge hgl))
        have HLG := Lib.hid (And.intro hexg.1 hexg.2.1)
        have HP3 := Lib.hid HP2
        clear hg HP HP2 hgm hgn hexg hA9 hne hRf hge hgs hgl
        go_upto_region 13 with (fail)
        have hB12 := Blk.new W3 #[.int .i64 (ge : Int), .int .i64 (gs : Int), .slice A9 gl c9] 69
        have hb34 := below_alloc W3 (.cells #[.int .i64 (ge : Int), .int .i64 (gs : Int), .slice A9 gl c9] 69)
        have hcm4 := HW3.out.2.2.2.1.block (hb34.block Mc HW3.out.2.2.2.1.lt)
        have hB114 := HW3.out.1.below hb34
        have hLG4 := HLG.out.1.below (Nat.le_refl _) hb34
        have hTG4 := HLG.out.2.below hb34
        have hlt12 := HW3.out.1.lt
        obtain ⟨H12, hH12⟩ : ∃ q, W3.heap.size = q := ⟨_, rfl⟩
        rw [hH12] at hB12 hlt12
        have hge12 : W1.heap.size ≤ H12 := by have := HW3.out.2.1.size; omega
        obtain ⟨W4, hW4⟩ : ∃ q, W3.alloc (.cells #[.int .i64 (ge : Int), .int .i64 (gs : Int), .slice A9 gl c9] 69) = q := ⟨_, rfl⟩
        rw [hW4] at hB12 hb34 hcm4 hB114 hLG4 hTG4 ⊢
        try rw [hH12]
        obtain ⟨W5, hrun5, hcm5, hg5⟩ := CM.two fe ge EB [] hcm4 HGE.out.2 (Ne.symm HGL.out.1)
        rw [show mk [] = ⟨#[]⟩ from rfl] at hrun5
        have hnM : ∀ {b : Nat} {cs : Array Value} {t : TypeId}, Blk W4 b cs t → some Mc ≠ some b := fun {b cs t} hb e => by cases e; exact hcm4.not_cells hb rfl
        have hB125 := hB12.grown hg5 (hnM hB12)
        have hB115 := hB114.grown hg5 (hnM hB114)
        obtain ⟨hLG5, hTG5⟩ := lies_grownM hLG4 hTG4 hg5 (fun g e c fr hc => by cases e; exact hcm4.not_cells hc rfl)
        have hb15 : Below W1.heap.size W1 W5 := (HW3.out.2.1.trans (hb34.mono HW3.out.2.1.size)).grown hg5 (Nat.le_trans HW3.out.2.1.size hb34.size) (fun g e => by cases e; exact HX.out.2.1)
        have w0 := hB12.cell 0
        have w0l := hB12.lt
        have v0 := hB115.cell 0
        have v1 := hB115.cell 1
        have v2 := hB125.cell 2
        simp at w0 v0 v1 v2
        have vl := hB115.lt
        have vl2 := hB125.lt
        have KG5 := KG W5 hLG5
        have HW5 := Lib.hid (And.intro hB125 (And.intro hB115 (And.intro hcm5 hb15)))
        have HRUN5 := Lib.hid hrun5
        clear hB12 hb34 hcm4 hB114 hLG4 hTG4 hW4 hH12 hnM hB125 hB115 hLG5 hTG5 hb15 hcm5 hg5 hrun5 KG hlk
        go_upto_region 15 with (first
          | (refine wpList_mapUpd rfl 102 (.tmp 63) (.tmp 65) (.const (.string ⟨#[]⟩)) rfl _ _ _ (by rfl) (by rfl) (by rfl) HRUN5.out ?_)
          | (go_at_call 41; (with_reducible refine KG5.mono ?_); rintro e W6 ⟨rfl, hb6⟩; have hB116 := HW5.out.2.1.below hb6; have q0 := hB116.frozen 0; have q1 := hB116.frozen 1; have u0 := hB116.cell 0; have u1 := hB116.cell 1; simp at u0 u1; have ul := hB116.lt; have HW6 := Lib.hid (And.intro hB116 hb6); clear hB116 hb6 KG5))
        have hB117 := (HW6.out.1.set 0 (.int .i64 tn)).set 1 (.string PBn)
        have hg7 := grown_set2 W6 H11 0 1 (.int .i64 tn) (.string PBn)
        have hb16 := HW5.out.2.2.2.trans (HW6.out.2.mono HW5.out.2.2.2.size)
        have hb17 := below_set (below_set hb16 H11 0 (.int .i64 tn) HW3.out.2.2.2.2.1) H11 1 (.string PBn) HW3.out.2.2.2.2.1
        have hcm6 := HW5.out.2.2.1.block (HW6.out.2.block Mc HW5.out.2.2.1.lt)
        have hcm7 := hcm6.block (hg7.block Mc hcm6.lt (fun e => by cases e; exact hcm6.not_cells HW6.out.1 rfl))
        have hb7 := HBW.out.trans (hb17.mono HBW.out.size)
        obtain ⟨W7, hW7⟩ : ∃ q, (W6.setCell ⟨H11, 0, none⟩ (.int .i64 tn)).setCell ⟨H11, 1, none⟩ (.string PBn) = q := ⟨_, rfl⟩
        rw [hW7] at hB117 hb17 hcm7 hb7 ⊢
        have HW7 := Lib.hid (And.intro hB117 (And.intro hb17 (And.intro hcm7 hb7)))
        clear hB117 hg7 hb16 hb17 hcm6 hcm7 hb7 hW7 w0 w0l v0 v1 v2 vl vl2 q0 q1 u0 u1 ul z4 hSl3
        cases htn : turnS false m.T g.ext with
        | none =>
          have hq := HRF.out
          rw [htn] at hq
          unfold turnV at hq
          simp only [Value.tuple.injEq, Array.mk.injEq, List.cons.injEq, Value.agg.injEq, Value.int.injEq, Value.string.injEq, true_and, and_true] at hq
          obtain ⟨⟨rfl, rfl⟩, rfl⟩ := hq
          have HE : P = (14, none) := by rw [← HP3.out, htn]
          subst HE
          clear htn
          go_wp2
          go_ret
          exact ⟨fun _ => ⟨rfl, HW7.out.2.2.2, HST.out.below HW7.out.2.2.2⟩, fun _ _ _ h => by cases h⟩
        | some T2 =>
          have hq := HRF.out
          rw [htn] at hq
          unfold turnV spv at hq
          simp only [Value.tuple.injEq, Array.mk.injEq, List.cons.injEq, Value.agg.injEq, Value.int.injEq, Value.string.injEq, true_and, and_true] at hq
          obtain ⟨⟨rfl, rfl⟩, rfl⟩ := hq
          have HE : P = (0, some (T2, two2 f.entry (entryB dest f.size f.ext) g.entry [], putF (delF m.F name) (renF f dest))) := by rw [← HP3.out, htn]
          subst HE
          have hT2 := turnS_len _ _ _ _ htn
          obtain ⟨t2, ht2⟩ : ∃ q, T2.length = q := ⟨_, rfl⟩
          obtain ⟨PB2, hPB2⟩ : ∃ q, mk (packB T2) = q := ⟨_, rfl⟩
          rw [ht2, hPB2] at HW7
          obtain ⟨C, hC⟩ : ∃ C, C = two2 f.entry (entryB dest f.size f.ext) g.entry [] := ⟨_, rfl⟩
          have hC2 : C = two2 fe EB ge [] := by rw [hC, HFE.out.1, HEB.out.1, HGL.out.2.1]
          have HRP := Lib.hid (show ∀ e w', RemP X S D Lg M m T2 (putF (delF m.F name) (renF f dest)) C w e w' → RenameP X S D Lg M m (0, some (T2, two2 f.entry (entryB dest f.size f.ext) g.entry [], putF (delF m.F name) (renF f dest))) w e w' from fun e w' hr => ⟨fun h => by (cases h), fun T3 C3 F3 h => by
            cases h
            rw [← hC]
            exact hr⟩)
          have HT2L := Lib.hid (And.intro ht2 hPB2)
          have HT17 := Lib.hid (show Blk W7 H8 #[.int .i64 (fe : Int), .int .i64 (sz : Int), .slice A xl c] 69 ∧ Blk W7 H11 #[.int .i64 (t2 : Int), .string PB2] 76 ∧ Below w.heap.size w W7 ∧ CM W7 Mc C from
            ⟨HB8.out.below HW7.out.2.1, HW7.out.1, HW7.out.2.2.2, by rw [hC2]; exact HW7.out.2.2.1⟩)
          have HC := Lib.hid (show T2.length = m.T.length ∧ C.length ≤ 2 ∧ ∀ q ∈ C, q.1 < m.most ∧ q.2.length ≤ 512 from ⟨hT2, by rw [hC2]; unfold two2; split <;> simp, fun q hq => by
            rw [hC2] at hq
            have : q = (fe, EB) ∨ q = (ge, []) := by
              unfold two2 at hq
              split at hq <;> simp at hq <;> rcases hq with h | h <;> simp [h]
            rcases this with rfl | rfl
            · exact ⟨by rw [← HFE.out.1]; exact HF.out.2.2.2.2.2.1, by rw [← HEB.out.1]; exact HF.out.2.2.2.2.2.2.2⟩
            · exact ⟨HGE.out.1, by simp⟩⟩)
          clear htn hT2 ht2 hPB2 hC hC2
          obtain ⟨W5, hW5⟩ : ∃ q, W7 = q := ⟨_, rfl⟩
          rw [hW5] at HT17 ⊢
          clear hW5 HW7 HW6
          go_upto_region 17 with (fail)
          -- from: W5 (region 17); HT17 : Hid (Blk W5 H8 #[fe, sz, slice A xl c] 69 ∧ Blk W5 H11 #[t2, PB2] 76 ∧ Below w.heap.size w W5 ∧ CM W5 Mc C); HC: Hid facts of T2, C; HE17: P = (0, some (T2, C, ..)) was substituted
          have hst5 := HST.out.below HT17.out.2.2.1
          have KST := settle_any X S D Lg M Mc m T2 C W5 hst5 HT17.out.2.2.2 HC.out.1 (by rw [HC.out.1]; exact HBB.out.tl) HC.out.2.1 HC.out.2.2 HBB.out.mo (by have := HBB.out.ll; omega) (by have := HBB.out.sl; omega)
          unfold SetP spv at KST
          rw [HT2L.out.1, HT2L.out.2] at KST
          have hn2 := run_num (settleC m.most T2 C) m.ds
          obtain ⟨r2, hr2⟩ : ∃ q, DS.run (settleC m.most T2 C) m.ds = q := ⟨_, rfl⟩
          have HR2 := Lib.hid hr2
          rw [hr2] at hn2 KST
          obtain ⟨n2, d2⟩ := r2
          dsimp only at hn2 KST
          have hx5 := HT17.out.1
          have hA5 := HLA.out.1.below (Nat.le_refl _) HT17.out.2.2.1
          have hAT5 := HLA.out.2.1.below HT17.out.2.2.1
          have hAX5 : ∀ a, A = some a → a.block ∉ S :: X := fun a ha hx => by
            rcases List.mem_cons.1 hx with e | e
            · obtain ⟨cs, fr, hc⟩ := HLA.out.2.1 a ha
              have hb := HST.out.blk
              unfold Blk at hb
              rw [e, hb] at hc
              simp at hc
            · exact HLA.out.2.2 a ha e
          have HA5 := Lib.hid (And.intro hA5 (And.intro hAT5 hAX5))
          have hH8X : H8 ∉ S :: X := fun hx => by
            have q1 := HH8.out
            rcases List.mem_cons.1 hx with e | e
            · have := HSLT.out S (by simp); omega
            · have := HSLT.out H8 (by simp [e]); omega
          have HH8X := Lib.hid hH8X
          have g0 := HT17.out.2.1.cell 0
          have g1 := HT17.out.2.1.cell 1
          simp at g0 g1
          have l11 := HT17.out.2.1.lt
          clear hst5 hr2 hx5 hA5 hAT5 hAX5 hH8X
          rcases hn2 with rfl | rfl
          case inr =>
            go_wp2_with (first
              | (go_at_call 50; (with_reducible refine KST.mono ?_); rintro e W6 ⟨rfl, X2, hM6, hS0, hS7⟩; have HF := Lib.hid (And.intro (hS7 (by decide)) (((Mv.of_below (S :: X) HT17.out.2.2.1).trans hM6).cons2 M)); clear hM6 hS0 hS7 KST))
            go_ret
            refine HRP.out _ _ ?_
            unfold RemP
            rw [HR2.out]
            exact ⟨rfl, X2, HF.out.2, by first | exact HF.out.1 | exact ⟨(fun h => by cases h), fun _ => HF.out.1⟩ | exact ⟨fun _ => HF.out.1, fun h => absurd rfl h⟩⟩
          go_upto_region 20 with (first
              | (go_at_call 50; (with_reducible refine KST.mono ?_); rintro e W6 ⟨rfl, X2, hM6, hS0, hS7⟩; have HF6 := Lib.hid (And.intro (hS0 rfl) hM6); clear hM6 hS0 hS7 KST))
          obtain ⟨ad6, hFM6, hEX6⟩ := HF6.out.1.map
          obtain ⟨W7, hrun7, hFM7, hg7⟩ := hFM6.drop name HNN.out.1 0
          rw [HNM.out.1] at hrun7
          have hne7 : ∀ g, some M = some g → ∀ c fr, W6.heap[g]? ≠ some (.cells c 90 fr) := fun g e c fr hc => by cases e; exact (hFM6.not_cells hc) rfl
          have hEX7 := (hEX6.grown hg7 hne7).sub (G := delF m.F name) (fun g hg => (List.mem_filter.1 hg).1)
          have hst7 := HF6.out.1.store hg7 hFM7 hEX7
          have hA6 := HF6.out.2.lies HA5.out.1 HA5.out.2.2
          have hAT6 := HA5.out.2.1.frm HF6.out.2.frm HA5.out.2.2
          have hAX6 : ∀ a, A = some a → a.block ∉ X2 := fun a ha hx => by
            obtain ⟨cs, fr, hc⟩ := HA5.out.2.1 a ha
            exact HF6.out.2.apart (HA5.out.2.2 a ha) (Array.getElem?_eq_some_iff.1 hc).1 (List.mem_cons_of_mem _ hx)
          obtain ⟨hA7, hAT7⟩ := lies_grownM hA6 hAT6 hg7 hne7
          have x4 := HF6.out.1.blk.cell 4
          simp at x4
          have s5 := HF6.out.1.blk.lt
          have hB86 := HF6.out.2.blk HT17.out.1 HH8X.out
          have hB87 := hB86.grown hg7 (fun e => (hFM6.not_cells hB86) (by cases e; rfl))
          have y4 := hst7.blk.cell 4
          simp at y4
          have HW7 := Lib.hid (And.intro hst7 (And.intro (((Mv.of_below (S :: X) HT17.out.2.2.1).trans HF6.out.2).cons2 M) (And.intro hg7 (And.intro hA7 (And.intro hAT7 (And.intro hAX6 (And.intro hB87 y4)))))))
          clear hFM6 hEX6 hFM7 hg7 hne7 hEX7 hst7 hA6 hAT6 hAX6 hA7 hAT7 hB86 hB87 y4 g0 g1 l11
          go_upto_region 21 with (fail)
          obtain ⟨ad7, hFM7, hEX7⟩ := HW7.out.1.map
          have hFM7' : FM W7.drew M ad7 (delF m.F name) := hFM7
          obtain ⟨W8, hrun8, hFM8, hg8'⟩ := hFM7'.store (renF f dest) A c (Nat.lt_of_le_of_lt (Nat.le_trans (List.length_filter_le ..) HBB.out.len) (by unfold maxLen; omega)) HNN.out.2
          have hg8 : W7.grownBy W8 (some M) := ⟨hg8'.os, hg8'.tape, hg8'.output, hg8'.size, hg8'.block⟩
          have hrun8b := hrun8
          unfold renF at hrun8b
          dsimp only at hrun8b
          rw [HNM.out.2, HFE.out.1, HFE.out.2.1, HFE.out.2.2] at hrun8b
          have hne8 : ∀ g, some M = some g → ∀ c fr, W7.heap[g]? ≠ some (.cells c 90 fr) := fun g e c fr hc => by cases e; exact (hFM7.not_cells hc) rfl
          have hE8 := (hEX7.grown hg8 hne8).put (f := renF f dest) (c := c) (lies_grownM HW7.out.2.2.2.1 HW7.out.2.2.2.2.1 hg8 hne8).1 (lies_grownM HW7.out.2.2.2.1 HW7.out.2.2.2.2.1 hg8 hne8).2 HW7.out.2.2.2.2.2.1
          have hst8 := HW7.out.1.store hg8 hFM8 hE8
          have HF := Lib.hid (And.intro hst8 ((HW7.out.2.1.trans (Mv.of_grown HW7.out.2.2.1 (by simp))).trans (Mv.of_grown hg8 (by simp))))
          have HRUN8 := Lib.hid hrun8b
          have hS9 : W8.cell? ⟨S, 4, none⟩ = some (.map (some M)) ∧ Blk W8 H8 #[.int .i64 (fe : Int), .int .i64 (sz : Int), .slice A xl c] 69 :=
            ⟨(World.cell?_of_block (a := ⟨S, 4, none⟩) (hg8.block S HW7.out.1.blk.lt (fun e => HW7.out.1.ne.2.1 (by cases e; rfl)))).trans HW7.out.2.2.2.2.2.2.2, HW7.out.2.2.2.2.2.2.1.grown hg8 (fun e => (hFM7.not_cells HW7.out.2.2.2.2.2.2.1) (by cases e; rfl))⟩
          clear hFM7 hEX7 hFM7' hrun8 hrun8b hFM8 hg8 hg8' hne8 hE8 hst8
          refine wp_region_held (S := fun w' => w'.cell? ⟨S, 4, none⟩ = some (.map (some M)) ∧ Blk w' H8 #[.int .i64 (fe : Int), .int .i64 (sz : Int), .slice A xl c] 69) mixed ?_
          change wpAnyH _ _ _ _ _ _ _ _ W7.drew
          have hS8 : W7.drew.cell? ⟨S, 4, none⟩ = some (.map (some M)) ∧ Blk W7.drew H8 #[.int .i64 (fe : Int), .int .i64 (sz : Int), .slice A xl c] 69 := ⟨HW7.out.2.2.2.2.2.2.2, HW7.out.2.2.2.2.2.2.1⟩
          refine wpAnyH_take (i := 0) (v := .pointer (some ⟨S, 0, none⟩)) rfl (by kernel_rfl) (by kernel_rfl) (by kernel_rfl) (fun c a w h => h) (.inl ⟨by kernel_rfl, fun w' hS => ?_⟩) hS8 ?_
          · clear hS; go_simp
          try go_simp
          refine wpAnyH_take (i := 1) (v := .pointer (some ⟨S, 0, none⟩)) rfl (by kernel_rfl) (by kernel_rfl) (by kernel_rfl) (fun c a w h => h) (.inl ⟨by kernel_rfl, fun w' hS => ?_⟩) hS8 ?_
          · clear hS; go_simp
          try go_simp
          refine wpAnyH_take (i := 2) (v := .pointer (some ⟨S, 4, none⟩)) rfl (by kernel_rfl) (by kernel_rfl) (by kernel_rfl) (fun c a w h => h) (.inl ⟨by kernel_rfl, fun w' hS => ?_⟩) hS8 ?_
          · clear hS; go_simp
          try go_simp
          refine wpAnyH_take (i := 3) (v := .map (some M)) rfl (by kernel_rfl) (by kernel_rfl) (by kernel_rfl) (fun c a w h => h) (.inl ⟨by kernel_rfl, fun w' hS => ?_⟩) hS8 ?_
          · have q0 := hS.1; go_simp
          try go_simp
          refine wpAnyH_take (i := 4) (v := .string DM) rfl (by kernel_rfl) (by kernel_rfl) (by kernel_rfl) (fun c a w h => h) (.inl ⟨by kernel_rfl, fun w' hS => ?_⟩) hS8 ?_
          · clear hS; go_simp
          try go_simp
          refine wpAnyH_take (i := 5) (v := .agg #[.int .i64 (fe : Int), .int .i64 (sz : Int), .slice A xl c]) rfl (by kernel_rfl) (by kernel_rfl) (by kernel_rfl) (fun c a w h => h) (.inl ⟨by kernel_rfl, fun w' hS => ?_⟩) hS8 ?_
          · have q0 := hS.2.cell 0; have q1 := hS.2.cell 1; have q2 := hS.2.cell 2; simp at q0 q1 q2; go_simp
          try go_simp
          refine wpAnyH_all (rs := [6]) (by kernel_rfl) (by simp) ?_
          intro i hi
          simp only [List.mem_cons, List.not_mem_nil, or_false] at hi
          subst hi
          refine wpOp_mapUpdate rfl rfl 77 (.tmp 90) (.tmp 91) (.tmp 92) rfl _ _ _ (by rfl) (by rfl) (by rfl) HRUN8.out ?_
          refine ⟨hS9, ?_⟩
          refine wpAnyH_done (by kernel_rfl) ?_ _
          clear hS8 hS9
          go_wp2
          go_ret
          refine HRP.out _ _ ?_
          unfold RemP
          rw [HR2.out]
          exact ⟨rfl, X2, HF.out.2, by first | exact HF.out.1 | exact ⟨(fun h => by cases h), fun _ => HF.out.1⟩ | exact ⟨fun _ => HF.out.1, fun h => absurd rfl h⟩⟩
end Go.Proofs.YtcmcdddnckcpcaaGreatDoor
/- Plain: a store in order stays so behind Append and Rename. -/
namespace Go.Proofs.YtcmcdddnckcpcaaGreatDoor
/-- What is asked of a file in a store of so many units and entries. -/
structure FileIn (most tl : Nat) (f : FileM) : Prop where
  ent : f.entry < most
  good : goodF f.name = true
  siz : f.size ≤ 1048576
  exl : f.ext.length ≤ 64
  exb : ∀ x ∈ f.ext, 1 ≤ x.2 ∧ x.1 + x.2 ≤ tl
  sum : sumN f.ext = needsN f.size
theorem Inv.fin {m : StoM} (h : Inv m) {f : FileM} (hf : f ∈ m.F) : FileIn m.most m.T.length f :=
  ⟨h.b.ent f hf, h.good f hf, h.b.siz f hf, h.b.exl f hf, fun x hx => ⟨h.pos f hf x hx, h.b.exb f hf x hx⟩, h.sum f hf⟩
theorem inv_mk {m' : StoM} (G : List FileM) (hp : m'.F.Perm G) (hfin : ∀ f ∈ G, FileIn m'.most m'.T.length f) (hn : (G.map (·.name)).Nodup) (he : (G.map (·.entry)).Nodup) (hu : (unitsF G).Nodup) (ht : ∀ j, m'.T.getD j false = true ↔ j ∈ unitsF G)
    (hm : 1 ≤ m'.most ∧ m'.most ≤ 256) (htl : m'.T.length ≤ 4096) (hll : m'.T.length + m'.most + 7 = m'.ds.L.length) (hc : m'.ds.cut = none) (ho : m'.ds.off = false) (hs : m'.ds.S = []) (hup : m'.off = false) : Inv m' where
  b := { ent := fun f hf => (hfin f (hp.mem_iff.1 hf)).ent
         nam := fun f hf => goodF_len (hfin f (hp.mem_iff.1 hf)).good
         siz := fun f hf => (hfin f (hp.mem_iff.1 hf)).siz
         exl := fun f hf => (hfin f (hp.mem_iff.1 hf)).exl
         exb := fun f hf x hx => ((hfin f (hp.mem_iff.1 hf)).exb x hx).2
         len := by
          have := nodup_lt m'.most _ he (fun x hx => by obtain ⟨g, hg, rfl⟩ := List.mem_map.1 hx; exact (hfin g hg).ent)
          rw [List.length_map] at this
          have := hp.length_eq
          omega
         mo := hm
         tl := htl
         ll := hll
         sl := by rw [hs]; simp }
  cut := hc
  on := ho
  syn := hs
  up := hup
  good := fun f hf => (hfin f (hp.mem_iff.1 hf)).good
  names := (hp.map (·.name)).nodup_iff.2 hn
  entries := (hp.map (·.entry)).nodup_iff.2 he
  pos := fun f hf x hx => ((hfin f (hp.mem_iff.1 hf)).exb x hx).1
  sum := fun f hf => (hfin f (hp.mem_iff.1 hf)).sum
  once := (unitsF_perm hp).nodup_iff.2 hu
  taken := fun j => (ht j).trans (unitsF_perm hp).mem_iff.symm
theorem unitsL_app (a b : List (Nat × Nat)) : unitsL (a ++ b) = unitsL a ++ unitsL b := by unfold unitsL; rw [List.flatMap_append]
theorem sumN_app (a b : List (Nat × Nat)) : sumN (a ++ b) = sumN a + sumN b := by rw [← unitsL_length, ← unitsL_length, ← unitsL_length, unitsL_app, List.length_append]
theorem unitsF_cons (f : FileM) (F : List FileM) : unitsF (f :: F) = unitsL f.ext ++ unitsF F := rfl
/-- What taking more units does. -/
theorem take_units {m : StoM} (h : Inv m) {k most : Nat} {l : List (Nat × Nat)} {T1 : List Bool} (h1 : takeS m.T k most = some (l, T1)) :
    T1.length = m.T.length ∧ (unitsL l).Nodup ∧ (∀ j ∈ unitsL l, j ∉ unitsF m.F) ∧ ∀ j, T1.getD j false = true ↔ j ∈ unitsL l ∨ j ∈ unitsF m.F := by
  obtain ⟨a1, a2, a3, a4, a5, a6⟩ := takeS_facts h1
  have hfree : ∀ j ∈ unitsL l, m.T.getD j false = false ∧ j < m.T.length := fun j hj => by
    obtain ⟨x, hx, b1, b2⟩ := mem_unitsL.1 hj
    obtain ⟨c1, c2, c3⟩ := a3 x hx
    exact ⟨by rw [getD_two, c3 j b1 b2]; simp, by omega⟩
  refine ⟨a4, (rise_units l 0 a2).1, fun j hj hm => ?_, fun j => ?_⟩
  · have := (h.taken j).2 hm
    rw [(hfree j hj).1] at this; cases this
  · have ht := h.taken j
    have hT1 : T1.getD j false = (m.T.getD j false || decide (j ∈ unitsL l)) := by
      rw [getD_two, a6 j, a4, getD_two m.T j]
      by_cases hj : j ∈ unitsL l
      · have := (hfree j hj).2
        have hany : (l.any fun x => decide (x.1 ≤ j ∧ j < x.1 + x.2)) = true := by
          obtain ⟨x, hx, b⟩ := mem_unitsL.1 hj
          exact List.any_eq_true.2 ⟨x, hx, by simpa using b⟩
        rw [hany]
        simp [this, hj]
      · have hany : (l.any fun x => decide (x.1 ≤ j ∧ j < x.1 + x.2)) = false := by
          rw [List.any_eq_false]
          intro x hx hb
          exact hj (mem_unitsL.2 ⟨x, hx, by simpa using hb⟩)
        rw [hany]
        simp [hj]
    rw [hT1]
    simp only [Bool.or_eq_true, decide_eq_true_eq]
    rw [ht]
    exact ⟨fun h => h.elim .inr .inl, fun h => h.elim .inr .inl⟩
theorem preA_some {m : StoM} {name data : Bs} {T1 : List Bool} {L : List Nat} {dt : Bs} {f' : FileM} (h : preA m name data = (0, some (T1, L, dt, f'))) :
    ∃ f l, goodF name = true ∧ fileOf m.F name = some f ∧ f.size + data.length ≤ 1048576 ∧ data ≠ [] ∧ takeS m.T (needsN (f.size + data.length) - sumN f.ext) (64 - f.ext.length) = some (l, T1) ∧ L = appL m f ++ secL (m.most + 7) l ∧ dt = appD m f ++ data ∧ f' = ⟨name, f.entry, f.size + data.length, f.ext ++ l⟩ := by
  unfold preA at h
  split at h
  · simp at h
  · rename_i hg
    cases hf : fileOf m.F name with
    | none => rw [hf] at h; simp at h
    | some f =>
      rw [hf] at h
      dsimp only at h
      split at h
      · simp at h
      · rename_i hl
        split at h
        · simp at h
        · rename_i he
          cases ht : takeS m.T (needsN (f.size + data.length) - sumN f.ext) (64 - f.ext.length) with
          | none => rw [ht] at h; simp at h
          | some p =>
            obtain ⟨l, T2⟩ := p
            rw [ht] at h
            simp only [Prod.mk.injEq, true_and, Option.some.injEq] at h
            obtain ⟨rfl, rfl, rfl, rfl⟩ := h
            exact ⟨f, l, by simpa using hg, rfl, by omega, he, ht, rfl, rfl, rfl⟩
theorem inv_append {m : StoM} {name data : Bs} {T1 : List Bool} {L : List Nat} {dt : Bs} {f' : FileM} (h : Inv m) (hp : preA m name data = (0, some (T1, L, dt, f'))) :
    (DS.run (putC m.most T1 L dt f') m.ds).1 = 0 ∧ Inv ⟨(DS.run (putC m.most T1 L dt f') m.ds).2, putF m.F f', T1, m.most, m.off⟩ := by
  obtain ⟨f, l, p1, p2, p3, p4, p5, p6, p7, rfl⟩ := preA_some hp
  obtain ⟨a1, a2, a3, a4, a5, _⟩ := takeS_facts p5
  obtain ⟨u1, u2, u3, u4⟩ := take_units h p5
  have hfm := fileOf_mem p2
  have hfn := fileOf_name p2
  have hfi := h.fin hfm
  obtain ⟨r1, r2, r3, r4, r5⟩ := run_settled h.cut h.on (layC L dt) m.most T1 [(f.entry, entryB name (f.size + data.length) (f.ext ++ l))]
  have hpd := perm_del _ _ _ h.names p2
  have hpp := perm_put m.F ⟨name, f.entry, f.size + data.length, f.ext ++ l⟩ h.names
  have hE := (hpd.map (·.entry)).nodup_iff.1 h.entries
  have hN := (hpd.map (·.name)).nodup_iff.1 h.names
  have hU := (unitsF_perm hpd).nodup_iff.1 h.once
  have hUm : ∀ j, j ∈ unitsF m.F ↔ j ∈ unitsL f.ext ∨ j ∈ unitsF (delF m.F name) := fun j => by
    rw [(unitsF_perm hpd).mem_iff, unitsF_cons, List.mem_append]
  rw [unitsF_cons] at hU
  refine ⟨r1, inv_mk _ hpp ?_ ?_ ?_ ?_ ?_ h.b.mo (by show T1.length ≤ _; rw [u1]; exact h.b.tl) (by show T1.length + _ + 7 = _; rw [u1]; exact h.b.ll.trans r5.symm) r2 r3 r4 h.up⟩
  · intro g hg
    show FileIn m.most T1.length g
    rw [u1]
    rcases List.mem_cons.1 hg with rfl | hg
    · exact ⟨hfi.ent, p1, p3, by rw [List.length_append]; have := hfi.exl; omega, fun x hx => by
        rcases List.mem_append.1 hx with hx | hx
        · exact hfi.exb x hx
        · exact ⟨(a3 x hx).1, (a3 x hx).2.1⟩, by
        have := hfi.sum
        have h2 : sumN f.ext ≤ needsN (f.size + data.length) := by rw [this]; unfold needsN; omega
        show sumN (f.ext ++ l) = needsN (f.size + data.length)
        rw [sumN_app, a5]; omega⟩
    · exact h.fin (List.mem_filter.1 hg).1
  · rw [List.map_cons] at hN ⊢; rw [hfn] at hN; exact hN
  · rw [List.map_cons] at hE ⊢; exact hE
  · rw [unitsF_cons]
    show (unitsL (f.ext ++ l) ++ _).Nodup
    rw [unitsL_app]
    have hn := List.nodup_append.1 hU
    refine List.nodup_append.2 ⟨List.nodup_append.2 ⟨hn.1, u2, fun a ha b hb e => u3 b hb ((hUm b).2 (.inl (e ▸ ha)))⟩, hn.2.1, fun a ha b hb e => ?_⟩
    rcases List.mem_append.1 ha with ha | ha
    · exact hn.2.2 a ha b hb e
    · exact u3 a ha ((hUm a).2 (.inr (e ▸ hb)))
  · intro j
    rw [unitsF_cons]
    show _ ↔ j ∈ unitsL (f.ext ++ l) ++ _
    rw [unitsL_app, List.mem_append, List.mem_append]
    show T1.getD j false = true ↔ _
    rw [u4, hUm]
    constructor
    · rintro (h | h | h)
      · exact .inl (.inr h)
      · exact .inl (.inl h)
      · exact .inr h
    · rintro ((h | h) | h)
      · exact .inr (.inl h)
      · exact .inl h
      · exact .inr (.inr h)
theorem fileOf_del {F : List FileM} {name t : Bs} (h : t ≠ name) : fileOf (delF F name) t = fileOf F t := by
  unfold fileOf delF
  induction F with
  | nil => rfl
  | cons a F ih =>
    rw [List.filter_cons]
    by_cases ha : a.name = name
    · rw [if_neg (by simp [ha]), ih, List.find?_cons]
      rw [show (a.name == t) = false from beq_eq_false_iff_ne.2 (fun e => h (by rw [← e, ha]))]
    · rw [if_pos (by simp [ha]), List.find?_cons, List.find?_cons, ih]
theorem preN_some {m : StoM} {name dest : Bs} {T2 : List Bool} {C : List (Nat × Bs)} {F2 : List FileM} (h : preN m name dest = (0, some (T2, C, F2))) :
    ∃ f, goodF name = true ∧ goodF dest = true ∧ fileOf m.F name = some f ∧ name ≠ dest ∧ F2 = putF (delF m.F name) (renF f dest) ∧
      ((fileOf m.F dest = none ∧ T2 = m.T ∧ C = [(f.entry, entryB dest f.size f.ext)]) ∨ ∃ g, fileOf m.F dest = some g ∧ turnS false m.T g.ext = some T2 ∧ C = two2 f.entry (entryB dest f.size f.ext) g.entry []) := by
  unfold preN at h
  split at h
  · simp at h
  · rename_i hg
    have hg1 : goodF name = true := by cases hq : goodF name with
      | true => rfl
      | false => exact absurd (.inl hq) hg
    have hg2 : goodF dest = true := by cases hq : goodF dest with
      | true => rfl
      | false => exact absurd (.inr hq) hg
    cases hf : fileOf m.F name with
    | none => rw [hf] at h; simp at h
    | some f =>
      rw [hf] at h
      dsimp only at h
      split at h
      · simp at h
      · rename_i hne
        cases hd : fileOf m.F dest with
        | none =>
          rw [hd] at h
          simp only [Prod.mk.injEq, true_and, Option.some.injEq] at h
          obtain ⟨rfl, rfl, rfl⟩ := h
          exact ⟨f, hg1, hg2, rfl, hne, rfl, .inl ⟨rfl, rfl, rfl⟩⟩
        | some g =>
          rw [hd] at h
          dsimp only at h
          cases ht : turnS false m.T g.ext with
          | none => rw [ht] at h; simp at h
          | some T3 =>
            rw [ht] at h
            simp only [Prod.mk.injEq, true_and, Option.some.injEq] at h
            obtain ⟨rfl, rfl, rfl⟩ := h
            exact ⟨f, hg1, hg2, rfl, hne, rfl, .inr ⟨g, rfl, ht, rfl⟩⟩
theorem inv_rename {m : StoM} {name dest : Bs} {T2 : List Bool} {C : List (Nat × Bs)} {F2 : List FileM} (h : Inv m) (hp : preN m name dest = (0, some (T2, C, F2))) :
    (DS.run (settleC m.most T2 C) m.ds).1 = 0 ∧ Inv ⟨(DS.run (settleC m.most T2 C) m.ds).2, F2, T2, m.most, m.off⟩ := by
  obtain ⟨f, p1, p2, p3, p4, rfl, p6⟩ := preN_some hp
  have hfm := fileOf_mem p3
  have hfi := h.fin hfm
  obtain ⟨r1, r2, r3, r4, r5⟩ := run_settled h.cut h.on [] m.most T2 C
  rw [List.nil_append] at r1 r2 r3 r4 r5
  have hpd := perm_del _ _ _ h.names p3
  have hnd : ((delF m.F name).map (·.name)).Nodup := delF_nodup h.names
  have hpp := perm_put (delF m.F name) (renF f dest) hnd
  have hsub : ∀ g ∈ delF (delF m.F name) dest, g ∈ m.F := fun g hg => (List.mem_filter.1 (List.mem_filter.1 hg).1).1
  have hrf : FileIn m.most m.T.length (renF f dest) := ⟨hfi.ent, p2, hfi.siz, hfi.exl, hfi.exb, hfi.sum⟩
  have hN : ((renF f dest :: delF (delF m.F name) dest).map (·.name)).Nodup := by
    rw [List.map_cons, List.nodup_cons]
    refine ⟨fun hm => ?_, delF_nodup hnd⟩
    obtain ⟨g, hg, e⟩ := List.mem_map.1 hm
    have := (List.mem_filter.1 hg).2
    have e2 : g.name = dest := e
    simp [e2] at this
  have hE0 := (hpd.map (·.entry)).nodup_iff.1 h.entries
  have hE : ((renF f dest :: delF (delF m.F name) dest).map (·.entry)).Nodup := by
    rw [List.map_cons, List.nodup_cons] at hE0 ⊢
    exact ⟨fun hm => hE0.1 (by obtain ⟨g, hg, e⟩ := List.mem_map.1 hm; exact List.mem_map.2 ⟨g, (List.mem_filter.1 hg).1, e⟩), hE0.2.sublist (List.filter_sublist.map _)⟩
  have hU := (unitsF_perm hpd).nodup_iff.1 h.once
  have hUm : ∀ j, j ∈ unitsF m.F ↔ j ∈ unitsL f.ext ∨ j ∈ unitsF (delF m.F name) := fun j => by
    rw [(unitsF_perm hpd).mem_iff, unitsF_cons, List.mem_append]
  rw [unitsF_cons] at hU
  have hUn := List.nodup_append.1 hU
  rcases p6 with ⟨q1, rfl, _⟩ | ⟨g, q1, q2, _⟩
  · have hdd : delF (delF m.F name) dest = delF m.F name := del_none (by rw [fileOf_del (Ne.symm p4)]; exact q1)
    rw [hdd] at hN hE hsub
    rw [show (renF f dest).name = dest from rfl, hdd] at hpp
    refine ⟨r1, inv_mk _ hpp ?_ hN hE ?_ ?_ h.b.mo h.b.tl (h.b.ll.trans r5.symm) r2 r3 r4 h.up⟩
    · intro k hk
      rcases List.mem_cons.1 hk with rfl | hk
      · exact hrf
      · exact h.fin (hsub k hk)
    · rw [unitsF_cons]; exact hU
    · intro j
      rw [unitsF_cons, List.mem_append]
      exact (h.taken j).trans (hUm j)
  · have hgm := fileOf_mem q1
    have hpg := perm_del (delF m.F name) g dest hnd (by rw [fileOf_del (Ne.symm p4)]; exact q1)
    have hUg : ∀ j, j ∈ unitsF (delF m.F name) ↔ j ∈ unitsL g.ext ∨ j ∈ unitsF (delF (delF m.F name) dest) := fun j => by
      rw [(unitsF_perm hpg).mem_iff, unitsF_cons, List.mem_append]
    have hUg2 := (unitsF_perm hpg).nodup_iff.1 hUn.2.1
    rw [unitsF_cons] at hUg2
    have hUg3 := List.nodup_append.1 hUg2
    have hgi := h.fin hgm
    obtain ⟨T3, e1, e2, e3⟩ := turnS_give g.ext m.T hgi.exb hUg3.1 (fun j hj => (h.taken j).2 ((hUm j).2 (.inr ((hUg j).2 (.inl hj)))))
    rw [q2] at e1
    cases e1
    rw [show (renF f dest).name = dest from rfl] at hpp
    refine ⟨r1, inv_mk _ hpp ?_ hN hE ?_ ?_ h.b.mo (by show T2.length ≤ _; rw [e2]; exact h.b.tl) (by show T2.length + _ + 7 = _; rw [e2]; exact h.b.ll.trans r5.symm) r2 r3 r4 h.up⟩
    · intro k hk
      show FileIn m.most T2.length k
      rw [e2]
      rcases List.mem_cons.1 hk with rfl | hk
      · exact hrf
      · exact h.fin (hsub k hk)
    · rw [unitsF_cons]
      exact List.nodup_append.2 ⟨hUn.1, hUg3.2.1, fun a ha b hb e => hUn.2.2 a ha b ((hUg b).2 (.inr hb)) e⟩
    · intro j
      rw [unitsF_cons, List.mem_append]
      show T2.getD j false = true ↔ _
      rw [e3]
      simp only [Bool.and_eq_true, Bool.not_eq_true', decide_eq_false_iff_not]
      rw [h.taken j]
      show (j ∈ unitsF m.F ∧ _) ↔ _
      rw [hUm, hUg]
      constructor
      · rintro ⟨h1 | h1 | h1, h2⟩
        · exact .inl h1
        · exact absurd h1 h2
        · exact .inr h1
      · rintro (h1 | h1)
        · exact ⟨.inl h1, fun h2 => hUn.2.2 j h1 j ((hUg j).2 (.inl h2)) rfl⟩
        · exact ⟨.inr (.inr h1), fun h2 => hUg3.2.2 j h2 j h1 rfl⟩
end Go.Proofs.YtcmcdddnckcpcaaGreatDoor
/- A store in order under Write, Append, Rename, Remove. -/
namespace Go.Proofs.YtcmcdddnckcpcaaGreatDoor
open Go.RowKit
/-- What a call leaves: a store in order, of the same size. -/
def StP (X : List Nat) (S D Lg M : Nat) (m : StoM) (w : World) (e : Ending) (w' : World) : Prop :=
  ∃ (n : Nat) (X' : List Nat) (m' : StoM), e = .returned (.int .i64 n) ∧ Mv (S :: M :: X) (S :: M :: X') w w' ∧ Sto w' X' S D Lg M m' ∧ Inv m' ∧ m'.most = m.most ∧ m'.T.length = m.T.length
theorem StP.same {X : List Nat} {S D Lg M : Nat} {m : StoM} {w w' : World} {n : Nat} (h : Sto w' X S D Lg M m) (hi : Inv m) (hb : Below w.heap.size w w') : StP X S D Lg M m w (.returned (.int .i64 (n : Nat))) w' :=
  ⟨n, X, m, rfl, Mv.of_below _ hb, h, hi, rfl, rfl⟩
theorem inv_same_len {m : StoM} {C : List Cmd} {F : List FileM} {T : List Bool} (h : Inv m) (h2 : Inv ⟨(DS.run C m.ds).2, F, T, m.most, m.off⟩) : T.length = m.T.length := by
  have a := h.b.ll
  have b : T.length + m.most + 7 = (DS.run C m.ds).2.L.length := h2.b.ll
  have c := (run_len C m.ds).1
  omega
theorem preW_zero {m : StoM} {name data : Bs} {q : List Bool × FileM} (h : (preW m name data).2 = some q) : preW m name data = (0, some q) := by
  unfold preW at h ⊢
  split
  · rename_i h1; rw [if_pos h1] at h; cases h
  · rename_i h1; rw [if_neg h1] at h
    split
    · rename_i h2; rw [if_pos h2] at h; cases h
    · rename_i h2; rw [if_neg h2] at h
      cases hs : slotW m name with
      | none => rw [hs] at h; cases h
      | some i =>
        rw [hs] at h
        dsimp only at h ⊢
        cases ht : takeS m.T (needsN data.length) 64 with
        | none => rw [ht] at h; cases h
        | some p =>
          obtain ⟨l, T1⟩ := p
          rw [ht] at h
          dsimp only at h ⊢
          cases hu : turnS false T1 (oldX m.F name) with
          | none => rw [hu] at h; cases h
          | some T3 => rw [hu] at h; dsimp only at h ⊢; rw [h]
theorem preA_zero {m : StoM} {name data : Bs} {q : List Bool × List Nat × Bs × FileM} (h : (preA m name data).2 = some q) : preA m name data = (0, some q) := by
  unfold preA at h ⊢
  split
  · rename_i h1; rw [if_pos h1] at h; cases h
  · rename_i h1; rw [if_neg h1] at h
    cases hf : fileOf m.F name with
    | none => rw [hf] at h; cases h
    | some f =>
      rw [hf] at h
      dsimp only at h ⊢
      split
      · rename_i h2; rw [if_pos h2] at h; cases h
      · rename_i h2; rw [if_neg h2] at h
        split
        · rename_i h3; rw [if_pos h3] at h; cases h
        · rename_i h3; rw [if_neg h3] at h
          cases ht : takeS m.T (needsN (f.size + data.length) - sumN f.ext) (64 - f.ext.length) with
          | none => rw [ht] at h; cases h
          | some p => rw [ht] at h; dsimp only at h ⊢; rw [h]
theorem preN_zero {m : StoM} {name dest : Bs} {q : List Bool × List (Nat × Bs) × List FileM} (h : (preN m name dest).2 = some q) : preN m name dest = (0, some q) := by
  unfold preN at h ⊢
  split
  · rename_i h1; rw [if_pos h1] at h; cases h
  · rename_i h1; rw [if_neg h1] at h
    cases hf : fileOf m.F name with
    | none => rw [hf] at h; cases h
    | some f =>
      rw [hf] at h
      dsimp only at h ⊢
      split
      · rename_i h2; rw [if_pos h2] at h; cases h
      · rename_i h2; rw [if_neg h2] at h
        cases hd : fileOf m.F dest with
        | none => rw [hd] at h; dsimp only at h ⊢; rw [h]
        | some g =>
          rw [hd] at h
          dsimp only at h ⊢
          cases ht : turnS false m.T g.ext with
          | none => rw [ht] at h; cases h
          | some T3 => rw [ht] at h; dsimp only at h ⊢; rw [h]
theorem preR_zero {m : StoM} {name : Bs} {q : List Bool × FileM} (h : (preR m name).2 = some q) : goodF name = true ∧ fileOf m.F name = some q.2 ∧ preR m name = (0, some q) := by
  unfold preR at h ⊢
  split
  · rename_i h1; rw [if_pos h1] at h; cases h
  · rename_i h1; rw [if_neg h1] at h
    cases hf : fileOf m.F name with
    | none => rw [hf] at h; cases h
    | some f =>
      rw [hf] at h
      dsimp only at h ⊢
      cases ht : turnS false m.T f.ext with
      | none => rw [ht] at h; cases h
      | some T3 => rw [ht] at h; dsimp only at h ⊢; rw [← Option.some.inj h]; exact ⟨by simpa using h1, rfl, rfl⟩
theorem gwrite (X : List Nat) (S D Lg M : Nat) (m : StoM) (name data : Bs) (w : World) (h : Sto w X S D Lg M m) (hi : Inv m) (hn : name.length ≤ maxLen) :
    Calls Tryz.prog 14 #[.pointer (some ⟨S, 0, none⟩), .string (mk name), .string (mk data)] w (StP X S D Lg M m w) := by
  refine (fwrite_any X S D Lg M m name data w h hi.b hi.up hi.on hn).mono ?_
  intro e w' hp
  cases hq : (preW m name data).2 with
  | none =>
    obtain ⟨rfl, hb, hs⟩ := hp.1 hq
    exact StP.same hs hi hb
  | some q =>
    obtain ⟨T2, f⟩ := q
    obtain ⟨rfl, X', hm, h0, _⟩ := hp.2 T2 f hq
    obtain ⟨hr, hi2⟩ := inv_put hi (preW_zero hq)
    exact ⟨_, X', _, rfl, hm, h0 hr, hi2, rfl, inv_same_len hi hi2⟩
theorem gappend (X : List Nat) (S D Lg M : Nat) (m : StoM) (name data : Bs) (w : World) (h : Sto w X S D Lg M m) (hi : Inv m) (hn : name.length ≤ maxLen) (hd : data.length ≤ 1099511627776) :
    Calls Tryz.prog 16 #[.pointer (some ⟨S, 0, none⟩), .string (mk name), .string (mk data)] w (StP X S D Lg M m w) := by
  refine (fappend_any X S D Lg M m name data w h hi.b hi.up hi.on hn hd hi.sum).mono ?_
  intro e w' hp
  cases hq : (preA m name data).2 with
  | none =>
    obtain ⟨rfl, hb, hs⟩ := hp.1 hq
    exact StP.same hs hi hb
  | some q =>
    obtain ⟨T2, L, dt, f⟩ := q
    obtain ⟨rfl, X', hm, h0, _⟩ := hp.2 T2 L dt f hq
    obtain ⟨hr, hi2⟩ := inv_append hi (preA_zero hq)
    exact ⟨_, X', _, rfl, hm, h0 hr, hi2, rfl, inv_same_len hi hi2⟩
theorem grename (X : List Nat) (S D Lg M : Nat) (m : StoM) (name dest : Bs) (w : World) (h : Sto w X S D Lg M m) (hi : Inv m) (hn : name.length ≤ maxLen) (hn2 : dest.length ≤ maxLen) :
    Calls Tryz.prog 20 #[.pointer (some ⟨S, 0, none⟩), .string (mk name), .string (mk dest)] w (StP X S D Lg M m w) := by
  refine (frename_any X S D Lg M m name dest w h hi.b hi.up hi.on hn hn2 hi.entries).mono ?_
  intro e w' hp
  cases hq : (preN m name dest).2 with
  | none =>
    obtain ⟨rfl, hb, hs⟩ := hp.1 hq
    exact StP.same hs hi hb
  | some q =>
    obtain ⟨T2, C, F2⟩ := q
    obtain ⟨rfl, X', hm, h0, _⟩ := hp.2 T2 C F2 hq
    obtain ⟨hr, hi2⟩ := inv_rename hi (preN_zero hq)
    exact ⟨_, X', _, rfl, hm, h0 hr, hi2, rfl, inv_same_len hi hi2⟩
theorem gremove (X : List Nat) (S D Lg M : Nat) (m : StoM) (name : Bs) (w : World) (h : Sto w X S D Lg M m) (hi : Inv m) (hn : name.length ≤ maxLen) :
    Calls Tryz.prog 21 #[.pointer (some ⟨S, 0, none⟩), .string (mk name)] w (StP X S D Lg M m w) := by
  refine (fremove_any X S D Lg M m name w h hi.b hi.up hi.on hn).mono ?_
  intro e w' hp
  cases hq : (preR m name).2 with
  | none =>
    obtain ⟨rfl, hb, hs⟩ := hp.1 hq
    exact StP.same hs hi hb
  | some q =>
    obtain ⟨T2, f⟩ := q
    obtain ⟨rfl, X', hm, h0, _⟩ := hp.2 T2 f hq
    obtain ⟨hg, hf, hz⟩ := preR_zero hq
    obtain ⟨T3, hz2, hr, hi2, _⟩ := inv_remove hi hg hf
    rw [hz] at hz2
    cases hz2
    have hnm := fileOf_name hf
    dsimp only at hnm
    rw [hnm] at h0
    exact ⟨_, X', _, rfl, hm, h0 hr, hi2, rfl, inv_same_len hi hi2⟩
/-- A file that is there is removed. -/
theorem gremove_ok (X : List Nat) (S D Lg M : Nat) (m : StoM) (f : FileM) (w : World) (h : Sto w X S D Lg M m) (hi : Inv m) (hf : f ∈ m.F) :
    Calls Tryz.prog 21 #[.pointer (some ⟨S, 0, none⟩), .string (mk f.name)] w fun e w' => e = .returned (.int .i64 0) ∧ ∃ X' m', Mv (S :: M :: X) (S :: M :: X') w w' ∧ Sto w' X' S D Lg M m' ∧ Inv m' ∧ m'.most = m.most ∧ m'.T.length = m.T.length ∧ m'.F = delF m.F f.name := by
  have hg := hi.good f hf
  have hff : fileOf m.F f.name = some f := by
    cases hc : fileOf m.F f.name with
    | none => exact absurd rfl (fileOf_none.1 hc f hf)
    | some g => rw [name_inj hi.names (fileOf_mem hc) hf (fileOf_name hc)]
  have hgl := goodF_len hg
  refine (fremove_any X S D Lg M m f.name w h hi.b hi.up hi.on (by unfold maxLen; omega)).mono ?_
  intro e w' hp
  obtain ⟨T3, hz2, hr, hi2, _⟩ := inv_remove hi hg hff
  obtain ⟨rfl, X', hm, h0, _⟩ := hp.2 T3 f (by rw [hz2])
  rw [hr]
  exact ⟨rfl, X', _, hm, h0 hr, hi2, rfl, inv_same_len hi hi2, rfl⟩
end Go.Proofs.YtcmcdddnckcpcaaGreatDoor
/- Plain: what files hold, behind each call. -/
namespace Go.Proofs.YtcmcdddnckcpcaaGreatDoor
/-- Data, sector by sector. -/
def layR : List Nat → Bs → List (Nat × Bs)
  | [], _ => []
  | i :: l, d => (i, d.take 512) :: layR l (d.drop 512)
theorem layX_eq (l : List Nat) (d : Bs) : layX l d = layR l d := by
  have key : ∀ (l : List Nat) (k : Nat), (l.zipIdx k).map (fun c => (c.1, (d.drop (512 * c.2)).take 512)) = layR l (d.drop (512 * k)) := by
    intro l
    induction l with
    | nil => intro k; rfl
    | cons i l ih =>
      intro k
      rw [List.zipIdx_cons, List.map_cons, layR, ih (k + 1), List.drop_drop, show 512 * (k + 1) = 512 * k + 512 by omega]
  have := key l 0
  rw [Nat.mul_zero, List.drop_zero] at this
  exact this
theorem layR_sec (l : List Nat) : ∀ d : Bs, (layR l d).map (·.1) = l := by
  induction l with
  | nil => intro d; rfl
  | cons i l ih => intro d; rw [layR, List.map_cons, ih]
theorem secsB_congr {v v' : List Bs} {l : List Nat} (h : ∀ i ∈ l, secAt v' i = secAt v i) : secsB v' l = secsB v l := by
  unfold secsB
  induction l with
  | nil => rfl
  | cons i l ih => rw [List.flatMap_cons, List.flatMap_cons, h i (List.mem_cons_self ..), ih (fun j hj => h j (List.mem_cons_of_mem _ hj))]
theorem secsB_app (v : List Bs) (a b : List Nat) : secsB v (a ++ b) = secsB v a ++ secsB v b := by unfold secsB; rw [List.flatMap_append]
theorem full_app (d : Bs) (n : Nat) (h : d.length ≤ 512 * (n + 1)) : fullB (d.take 512) ++ (d.drop 512 ++ List.replicate (512 * n - (d.drop 512).length) 0) = d ++ List.replicate (512 * (n + 1) - d.length) 0 := by
  unfold fullB
  by_cases h1 : 512 ≤ d.length
  · have e0 : (d.take 512).length = 512 := by rw [List.length_take]; omega
    have e1 : 512 * n - (d.drop 512).length = 512 * (n + 1) - d.length := by rw [List.length_drop]; omega
    have e2 : List.replicate (512 - (d.take 512).length) (0 : UInt8) = [] := by rw [e0]; exact List.replicate_zero
    rw [e2, e1, List.append_nil, ← List.append_assoc, List.take_append_drop]
  · have e1 : 512 * (n + 1) - d.length = (512 - d.length) + 512 * n := by omega
    rw [List.take_of_length_le (by omega), List.drop_eq_nil_of_le (by omega), List.nil_append, List.length_nil, Nat.sub_zero, List.append_assoc, List.replicate_append_replicate, e1]
theorem secs_lay : ∀ (l : List Nat) (d : Bs) (v : List Bs), l.Nodup → (∀ i ∈ l, i < v.length) → d.length ≤ 512 * l.length →
    secsB (overlay v (fulls (layR l d))) l = d ++ List.replicate (512 * l.length - d.length) 0 := by
  intro l
  induction l with
  | nil => intro d v _ _ h; have : d = [] := by simpa using h
           subst this; rfl
  | cons i l ih =>
    intro d v hn hv h
    rw [List.nodup_cons] at hn
    have e1 : overlay v (fulls (layR (i :: l) d)) = overlay (v.set i (fullB (d.take 512))) (fulls (layR l (d.drop 512))) := rfl
    rw [e1]
    have h2 := ih (d.drop 512) (v.set i (fullB (d.take 512))) hn.2 (fun j hj => by rw [List.length_set]; exact hv j (List.mem_cons_of_mem _ hj)) (by rw [List.length_drop]; simp at h; omega)
    show secAt _ i ++ secsB _ l = _
    rw [h2, secAt_ne _ _ _ (by rw [layR_sec]; exact hn.1), secAt_set _ _ _ (hv i (List.mem_cons_self ..))]
    rw [List.length_cons] at h ⊢
    exact full_app d l.length h
theorem secL_map (b : Nat) (l : List (Nat × Nat)) : secL b l = (unitsL l).map (b + ·) := by
  unfold secL unitsL
  rw [List.map_flatMap]
  congr 1
  funext x
  unfold secX
  rw [List.range'_eq_map_range, List.map_map]
  refine List.map_congr_left fun i _ => ?_
  show b + x.1 + i = b + (x.1 + i)
  omega
theorem mem_secL {b i : Nat} {l : List (Nat × Nat)} : i ∈ secL b l ↔ ∃ u ∈ unitsL l, i = b + u := by
  rw [secL_map, List.mem_map]
  exact ⟨fun ⟨u, h, e⟩ => ⟨u, h, e.symm⟩, fun ⟨u, h, e⟩ => ⟨u, h, e.symm⟩⟩
theorem secL_nodup {b : Nat} {l : List (Nat × Nat)} (h : (unitsL l).Nodup) : (secL b l).Nodup := by
  rw [secL_map]
  exact List.pairwise_map.2 (List.Pairwise.imp (fun hne e => hne (by omega)) h)
theorem secL_app (b : Nat) (a c : List (Nat × Nat)) : secL b (a ++ c) = secL b a ++ secL b c := by unfold secL; rw [List.flatMap_append]
theorem imgs_low (x : List (Nat × Bs)) (f : Nat) : ∀ c ∈ imgs x f, c.1 < f + 1 + x.length := by
  intro c hc
  obtain ⟨k, hk, rfl⟩ := List.getElem_of_mem hc
  rw [imgs_length] at hk
  rw [imgs_at x f k hk]
  show f + 1 + k < _
  omega
/-- Settling writes ahead of the data. -/
theorem settle_low {most : Nat} {T : List Bool} {C : List (Nat × Bs)} (hC : ∀ c ∈ C, c.1 < most) (hl : C.length ≤ 2) (i : Nat) (hi : most + 7 ≤ i) : i ∉ (wrOf (settleC most T C)).map (·.1) := by
  intro hm
  have e : wrOf (settleC most T C) = imgs (settleX T C) (2 + most) ++ ((2 + most, headW (settleX T C)) :: (settleX T C ++ [(2 + most, [])])) := by
    unfold settleC commitC
    simp only [wrOf_append, wrOf_wrs]
    simp [wrOf]
  rw [e, List.map_append, List.mem_append] at hm
  rcases hm with hm | hm
  · obtain ⟨c, hc, he⟩ := List.mem_map.1 hm
    have := imgs_low _ _ c hc
    rw [settleX_length] at this
    omega
  · rw [List.map_cons, List.mem_cons, List.map_append, List.mem_append] at hm
    rcases hm with hm | hm | hm
    · simp only at hm; omega
    · obtain ⟨c, hc, he⟩ := List.mem_map.1 hm
      unfold settleX at hc
      rcases List.mem_cons.1 hc with rfl | hc
      · simp only at he; omega
      · obtain ⟨d, hd, rfl⟩ := List.mem_map.1 hc
        have := hC d hd
        simp only at he; omega
    · simp at hm; omega
theorem wrOf_lay (L : List Nat) (dt : Bs) : wrOf (layC L dt) = layR L dt := by
  unfold layC
  split
  · rename_i h; subst h; rfl
  · rw [wrOf_append, wrOf_wrs, layX_eq]; simp [wrOf]
/-- What stands in the data's sectors behind a put. -/
theorem put_sec {d : DS} (h1 : d.cut = none) (h2 : d.off = false) (L : List Nat) (dt : Bs) {most : Nat} {T : List Bool} {C : List (Nat × Bs)} (hC : ∀ c ∈ C, c.1 < most) (hl : C.length ≤ 2) (i : Nat) (hi : most + 7 ≤ i) :
    secAt (DS.run (layC L dt ++ settleC most T C) d).2.vis i = secAt (overlay d.vis (fulls (layR L dt))) i := by
  obtain ⟨_, _, _, hv⟩ := run_on (layC L dt ++ settleC most T C) d h1 h2
  rw [hv, wrOf_append, wrOf_lay]
  have e : overlay d.vis (fulls (layR L dt ++ wrOf (settleC most T C))) = overlay (overlay d.vis (fulls (layR L dt))) (fulls (wrOf (settleC most T C))) := by
    unfold overlay fulls; rw [List.map_append, List.foldl_append]
  rw [e, secAt_ne _ _ _ (settle_low hC hl i hi)]
theorem put_other {d : DS} (h1 : d.cut = none) (h2 : d.off = false) (L : List Nat) (dt : Bs) {most : Nat} {T : List Bool} {C : List (Nat × Bs)} (hC : ∀ c ∈ C, c.1 < most) (hl : C.length ≤ 2) (i : Nat) (hi : most + 7 ≤ i) (hL : i ∉ L) :
    secAt (DS.run (layC L dt ++ settleC most T C) d).2.vis i = secAt d.vis i := by
  rw [put_sec h1 h2 L dt hC hl i hi, secAt_ne _ _ _ (by rw [layR_sec]; exact hL)]
theorem put_new {d : DS} (h1 : d.cut = none) (h2 : d.off = false) (L : List Nat) (dt : Bs) {most : Nat} {T : List Bool} {C : List (Nat × Bs)} (hC : ∀ c ∈ C, c.1 < most) (hl : C.length ≤ 2) (hL : ∀ i ∈ L, most + 7 ≤ i) (hn : L.Nodup) (hv : ∀ i ∈ L, i < d.L.length) (hd : dt.length ≤ 512 * L.length) :
    secsB (DS.run (layC L dt ++ settleC most T C) d).2.vis L = dt ++ List.replicate (512 * L.length - dt.length) 0 := by
  rw [secsB_congr (v := overlay d.vis (fulls (layR L dt))) (fun i hi => put_sec h1 h2 L dt hC hl i (hL i hi))]
  exact secs_lay L dt d.vis hn (fun i hi => by rw [vis_length]; exact hv i hi) hd
theorem secL_ge {b i : Nat} {l : List (Nat × Nat)} (h : i ∈ secL b l) : b ≤ i := by obtain ⟨u, _, rfl⟩ := mem_secL.1 h; omega
theorem fileOf_perm {F G : List FileM} (h : F.Perm G) (hn : (F.map (·.name)).Nodup) (t : Bs) : fileOf F t = fileOf G t := by
  cases hF : fileOf F t with
  | none =>
    symm
    rw [fileOf_none] at hF ⊢
    exact fun f hf => hF f (h.mem_iff.2 hf)
  | some f =>
    have hf := fileOf_mem hF
    have hfn := fileOf_name hF
    cases hG : fileOf G t with
    | none => exact absurd hfn (fileOf_none.1 hG f (h.mem_iff.1 hf))
    | some g => rw [name_inj hn hf (h.mem_iff.2 (fileOf_mem hG)) (hfn.trans (fileOf_name hG).symm)]
theorem fileOf_put (F : List FileM) (f : FileM) (hn : (F.map (·.name)).Nodup) (t : Bs) : fileOf (putF F f) t = if t = f.name then some f else fileOf F t := by
  rw [fileOf_perm (perm_put F f hn) (putF_nodup hn)]
  by_cases h : t = f.name
  · subst h
    rw [if_pos rfl]
    unfold fileOf; rw [List.find?_cons]; simp
  · rw [if_neg h]
    show List.find? _ _ = _
    rw [List.find?_cons, show (f.name == t) = false from beq_eq_false_iff_ne.2 (fun e => h e.symm)]
    exact fileOf_del h
theorem fileOf_gone (F : List FileM) (n t : Bs) : fileOf (delF F n) t = if t = n then none else fileOf F t := by
  by_cases h : t = n
  · subst h
    rw [if_pos rfl, fileOf_none]
    intro f hf e
    have := (List.mem_filter.1 hf).2
    simp [e] at this
  · rw [if_neg h, fileOf_del h]
/-- What a file of a store in order holds. -/
theorem readF_len {m : StoM} (h : Inv m) (hd : DGood m.ds) {f : FileM} (hf : f ∈ m.F) : (readF m f).length = f.size := by
  have hfi := h.fin hf
  have hb := h.b.ll
  unfold readF
  rw [List.length_take, secsB_len hd _ (fun i hi => by
    obtain ⟨x, hx, h1, h2⟩ := secL_mem hi
    have := (hfi.exb x hx).2
    omega), secL_length, hfi.sum]
  unfold needsN
  omega
end Go.Proofs.YtcmcdddnckcpcaaGreatDoor
/- Plain: what is read behind each call. -/
namespace Go.Proofs.YtcmcdddnckcpcaaGreatDoor
theorem read_same {m m' : StoM} {f : FileM} (hm : m'.most = m.most) (h : ∀ i ∈ secL (m.most + 7) f.ext, secAt m'.ds.vis i = secAt m.ds.vis i) : readF m' f = readF m f := by
  unfold readF
  rw [hm, secsB_congr h]
/-- Settling leaves what files hold. -/
theorem settle_read {m : StoM} (h : Inv m) {T2 T' : List Bool} {C : List (Nat × Bs)} {F' : List FileM} {o : Bool} (hC : ∀ c ∈ C, c.1 < m.most) (hl : C.length ≤ 2) (g : FileM) :
    readF ⟨(DS.run (settleC m.most T2 C) m.ds).2, F', T', m.most, o⟩ g = readF m g :=
  read_same rfl (fun i hi => put_other h.cut h.on [] [] hC hl i (secL_ge hi) (by simp))
theorem put_read {m : StoM} (h : Inv m) {T2 : List Bool} {L : List Nat} {dt : Bs} {f : FileM} {F' : List FileM} {o : Bool} (he : f.entry < m.most) (g : FileM) (hg : ∀ i ∈ secL (m.most + 7) g.ext, i ∉ L) :
    readF ⟨(DS.run (putC m.most T2 L dt f) m.ds).2, F', T2, m.most, o⟩ g = readF m g :=
  read_same rfl (fun i hi => put_other h.cut h.on L dt (fun c hc => by
    have : c = (f.entry, entryB f.name f.size f.ext) := by simpa using hc
    subst this; exact he) (by simp) i (secL_ge hi) (hg i hi))
theorem mem_unitsF {j : Nat} {F : List FileM} : j ∈ unitsF F ↔ ∃ f ∈ F, j ∈ unitsL f.ext := List.mem_flatMap
theorem take_app_len {α : Type} (a b c : List α) (n : Nat) (h : n = a.length + b.length) : (a ++ (b ++ c)).take n = a ++ b := by
  subst h
  rw [← List.append_assoc, ← List.length_append, List.take_left]
theorem write_read {m : StoM} {name data : Bs} {T2 : List Bool} {f : FileM} (h : Inv m) (hp : preW m name data = (0, some (T2, f))) :
    f.name = name ∧ readF ⟨(DS.run (putC m.most T2 (secL (m.most + 7) f.ext) data f) m.ds).2, putF m.F f, T2, m.most, m.off⟩ f = data ∧
      ∀ g ∈ delF m.F name, readF ⟨(DS.run (putC m.most T2 (secL (m.most + 7) f.ext) data f) m.ds).2, putF m.F f, T2, m.most, m.off⟩ g = readF m g := by
  obtain ⟨p1, p2, p3, p4, p5, T1, p6, p7⟩ := preW_some hp
  obtain ⟨u1, u2, u3⟩ := put_units h p6 p7
  obtain ⟨s1, s2⟩ := slot_fresh h p3
  obtain ⟨a1, a2, a3, _, a5, _⟩ := takeS_facts p6
  have hu := List.nodup_append.1 u2
  refine ⟨p4, ?_, fun g hg => put_read h s1 g (fun i hi hL => ?_)⟩
  · have hn := put_new h.cut h.on (secL (m.most + 7) f.ext) data (most := m.most) (T := T2) (C := [(f.entry, entryB f.name f.size f.ext)]) (fun c hc => by
      have : c = (f.entry, entryB f.name f.size f.ext) := by simpa using hc
      subst this; exact s1) (by simp) (fun i hi => secL_ge hi) (secL_nodup hu.1) (put_secs h.b a3) (by rw [secL_length, a5]; unfold needsN; omega)
    show (secsB (DS.run (layC (secL (m.most + 7) f.ext) data ++ settleC m.most T2 [(f.entry, entryB f.name f.size f.ext)]) m.ds).2.vis (secL (m.most + 7) f.ext)).take f.size = data
    rw [hn, p5, List.take_left]
  · obtain ⟨u, hu1, e1⟩ := mem_secL.1 hi
    obtain ⟨v, hv1, e2⟩ := mem_secL.1 hL
    have : u = v := by omega
    subst this
    exact hu.2.2 u hv1 u (mem_unitsF.2 ⟨g, hg, hu1⟩) rfl
theorem last_split {α : Type} (l : List α) (n : Nat) (h : l.length = n + 1) (h2 : n < l.length) : l = l.take n ++ [l[n]] := by
  have := List.take_succ_eq_append_getElem h2
  rw [← this, List.take_of_length_le (by omega)]
theorem append_read {m : StoM} {name data : Bs} {T1 : List Bool} {L : List Nat} {dt : Bs} {f' : FileM} (h : Inv m) (hd : DGood m.ds) (hp : preA m name data = (0, some (T1, L, dt, f'))) :
    ∃ f, fileOf m.F name = some f ∧ f'.name = name ∧ f'.size = f.size + data.length ∧ readF ⟨(DS.run (putC m.most T1 L dt f') m.ds).2, putF m.F f', T1, m.most, m.off⟩ f' = readF m f ++ data ∧
      ∀ g ∈ delF m.F name, readF ⟨(DS.run (putC m.most T1 L dt f') m.ds).2, putF m.F f', T1, m.most, m.off⟩ g = readF m g := by
  obtain ⟨f, l, p1, p2, p3, p4, p5, p6, p7, rfl⟩ := preA_some hp
  obtain ⟨a1, a2, a3, a4, a5, _⟩ := takeS_facts p5
  obtain ⟨u1, u2, u3, u4⟩ := take_units h p5
  have hfm := fileOf_mem p2
  have hfi := h.fin hfm
  have hb := h.b.ll
  have hpd := perm_del _ _ _ h.names p2
  have hU := (unitsF_perm hpd).nodup_iff.1 h.once
  rw [unitsF_cons] at hU
  have hUn := List.nodup_append.1 hU
  have hUm : ∀ j, j ∈ unitsF m.F ↔ j ∈ unitsL f.ext ∨ j ∈ unitsF (delF m.F name) := fun j => by
    rw [(unitsF_perm hpd).mem_iff, unitsF_cons, List.mem_append]
  have hin : ∀ i ∈ secL (m.most + 7) f.ext, i < m.ds.L.length := fun i hi => by
    obtain ⟨x, hx, h1, h2⟩ := secL_mem hi
    have := (hfi.exb x hx).2
    omega
  have hLm : ∀ i ∈ L, (∃ v ∈ unitsL l, i = m.most + 7 + v) ∨ (f.size % 512 ≠ 0 ∧ i = lastS m f) := fun i hi => by
    rw [p6] at hi
    rcases List.mem_append.1 hi with hi | hi
    · unfold appL at hi
      split at hi
      · cases hi
      · rename_i hz
        exact .inr ⟨hz, by simpa using hi⟩
    · exact .inl (mem_secL.1 hi)
  have hlast : f.size % 512 ≠ 0 → ∃ v ∈ unitsL f.ext, lastS m f = m.most + 7 + v := fun hz => by
    obtain ⟨h1, h2, _⟩ := lastS_at (m := m) hfi.sum hz
    have := List.getElem_mem h1
    rw [← h2] at this
    exact mem_secL.1 this
  have hdis : ∀ u, u ∈ unitsF (delF m.F name) → m.most + 7 + u ∉ L := fun u hu hL => by
    rcases hLm _ hL with ⟨v, hv, e⟩ | ⟨hz, e⟩
    · have : u = v := by omega
      subst this
      exact u3 u hv ((hUm u).2 (.inr hu))
    · obtain ⟨v, hv, e2⟩ := hlast hz
      have : u = v := by omega
      subst this
      exact hUn.2.2 u hv u hu rfl
  have hC : ∀ c ∈ [(f.entry, entryB name (f.size + data.length) (f.ext ++ l))], c.1 < m.most := fun c hc => by
    have : c = (f.entry, entryB name (f.size + data.length) (f.ext ++ l)) := by simpa using hc
    subst this; exact hfi.ent
  have hnl : (secL (m.most + 7) l).Nodup := secL_nodup u2
  have hne : (secL (m.most + 7) f.ext).Nodup := secL_nodup hUn.1
  have hsd : ∀ i ∈ secL (m.most + 7) f.ext, i ∉ secL (m.most + 7) l := fun i hi hl => by
    obtain ⟨u, hu, e1⟩ := mem_secL.1 hi
    obtain ⟨v, hv, e2⟩ := mem_secL.1 hl
    have : u = v := by omega
    subst this
    exact u3 u hv ((hUm u).2 (.inl hu))
  refine ⟨f, p2, rfl, rfl, ?_, fun g hg => put_read (f := ⟨name, f.entry, f.size + data.length, f.ext ++ l⟩) h hfi.ent g (fun i hi => by
    obtain ⟨u, hu1, rfl⟩ := mem_secL.1 hi
    exact hdis u (mem_unitsF.2 ⟨g, hg, hu1⟩))⟩
  unfold readF putC
  dsimp only
  obtain ⟨v', hv'⟩ : ∃ q, q = (DS.run (layC L dt ++ settleC m.most T1 [(f.entry, entryB name (f.size + data.length) (f.ext ++ l))]) m.ds).2.vis := ⟨_, rfl⟩
  rw [← hv']
  · skip
    have hlen := secsB_len hd _ hin
    rw [secL_length, hfi.sum] at hlen
    by_cases hz : f.size % 512 = 0
    · have hL : L = secL (m.most + 7) l := by rw [p6]; unfold appL; rw [if_pos hz, List.nil_append]
      have hD : dt = data := by rw [p7]; unfold appD; rw [if_pos hz, List.nil_append]
      have hnew := put_new h.cut h.on L dt (most := m.most) (T := T1) hC (by simp) (fun i hi => by rw [hL] at hi; exact secL_ge hi) (by rw [hL]; exact hnl) (by rw [hL]; exact put_secs h.b a3) (by rw [hL, hD, secL_length, a5, hfi.sum]; unfold needsN; omega)
      have hold : secsB v' (secL (m.most + 7) f.ext) = secsB m.ds.vis (secL (m.most + 7) f.ext) := by
        rw [hv']
        exact secsB_congr fun i hi => put_other h.cut h.on L dt hC (by simp) i (secL_ge hi) (by rw [hL]; exact hsd i hi)
      rw [← hv'] at hnew
      rw [secL_app, secsB_app, hold, ← hL, hnew, hD]
      have e0 : 512 * needsN f.size = f.size := by unfold needsN; omega
      rw [take_app_len _ _ _ _ (by rw [hlen, e0]), List.take_of_length_le (by omega)]
    · obtain ⟨h1, h2, h3⟩ := lastS_at (m := m) hfi.sum hz
      have hsl := secL_length (m.most + 7) f.ext
      have hsp := last_split (secL (m.most + 7) f.ext) (sumN f.ext - 1) (by omega) h1
      rw [← h2] at hsp
      obtain ⟨I, hI⟩ : ∃ q, (secL (m.most + 7) f.ext).take (sumN f.ext - 1) = q := ⟨_, rfl⟩
      rw [hI] at hsp
      have hIl : I.length = sumN f.ext - 1 := by rw [← hI, List.length_take]; omega
      obtain ⟨E, hE⟩ : ∃ q, secL (m.most + 7) f.ext = q := ⟨_, rfl⟩
      rw [hE] at hsp hin hne hsd hlen
      subst hsp
      have hn2 := List.nodup_append.1 hne
      have hL : L = [lastS m f] ++ secL (m.most + 7) l := by rw [p6]; unfold appL; rw [if_neg hz]
      have hD : dt = (secAt m.ds.vis (lastS m f)).take (f.size % 512) ++ data := by rw [p7]; unfold appD; rw [if_neg hz]
      have hls := vis_sec hd (lastS m f) (hin _ (by simp))
      have hge : ∀ i ∈ I ++ [lastS m f], m.most + 7 ≤ i := fun i hi => by rw [← hE] at hi; exact secL_ge hi
      have hnL : L.Nodup := by
        rw [hL]
        exact List.nodup_append.2 ⟨by simp, hnl, fun a ha b hb e => by
          have : a = lastS m f := by simpa using ha
          subst this
          exact hsd _ (by simp) (e ▸ hb)⟩
      have hnew := put_new h.cut h.on L dt (most := m.most) (T := T1) hC (by simp) (fun i hi => by
        rw [hL] at hi
        rcases List.mem_append.1 hi with hi | hi
        · have : i = lastS m f := by simpa using hi
          subst this
          exact hge _ (by simp)
        · exact secL_ge hi) hnL (fun i hi => by
        rw [hL] at hi
        rcases List.mem_append.1 hi with hi | hi
        · have : i = lastS m f := by simpa using hi
          subst this
          exact hin _ (by simp)
        · exact put_secs h.b a3 i hi) (by rw [hL, hD, List.length_append, List.length_append, secL_length, a5, hfi.sum, List.length_take, hls]; simp only [List.length_singleton]; unfold needsN; omega)
      have hold : secsB v' I = secsB m.ds.vis I := by
        rw [hv']
        refine secsB_congr fun i hi => put_other h.cut h.on L dt hC (by simp) i (hge i (by simp [hi])) ?_
        rw [hL]
        intro hm
        rcases List.mem_append.1 hm with hm | hm
        · exact hn2.2.2 i hi i hm rfl
        · exact hsd i (by simp [hi]) hm
      rw [← hv'] at hnew
      have hIn := secsB_len hd I (fun i hi => hin i (by simp [hi]))
      rw [hIl] at hIn
      have hsz : f.size = 512 * (sumN f.ext - 1) + f.size % 512 := by
        have := hfi.sum
        unfold needsN at this
        omega
      have hone : secsB m.ds.vis [lastS m f] = secAt m.ds.vis (lastS m f) := by unfold secsB; simp
      rw [secL_app, hE, List.append_assoc, ← hL, secsB_app, hold, hnew, hD, secsB_app, hone]
      rw [take_app_len (secsB m.ds.vis I) ((secAt m.ds.vis (lastS m f)).take (f.size % 512) ++ data) _ (f.size + data.length) (by rw [hIn, List.length_append, List.length_take, hls]; omega)]
      have e9 : f.size - (secsB m.ds.vis I).length = f.size % 512 := by rw [hIn]; omega
      rw [List.take_append, e9, List.take_of_length_le (l := secsB m.ds.vis I) (i := f.size) (by rw [hIn]; omega), List.append_assoc]
end Go.Proofs.YtcmcdddnckcpcaaGreatDoor
/- stemmalaw07.text, walked. -/
namespace Go.Proofs.YtcmcdddnckcpcaaGreatDoor
open Go.RowKit
def textN (b i k : Nat) : Nat := (b + i * 31 + k + k / 512) % 256
def textL (n : Int) : Nat := (min (max n 0) 6000).toNat
def textB (n : Int) (b i : Nat) : Bs := (List.range (textL n)).map fun k => UInt8.ofNat (textN b i k)
def tbuf (n b i k : Nat) : List Nat := (List.range n).map fun j => if j < k then textN b i j else 0
theorem tbuf_length (n b i k : Nat) : (tbuf n b i k).length = n := by simp [tbuf]
theorem tbuf_step (n b i k : Nat) : (tbuf n b i k).set k (textN b i k) = tbuf n b i (k + 1) := by
  refine List.ext_getElem (by simp [tbuf]) fun j h1 h2 => ?_
  rw [List.getElem_set]
  simp only [tbuf, List.getElem_map, List.getElem_range]
  by_cases e : k = j
  · subst e; simp
  · rw [if_neg e]
    by_cases h : j < k
    · rw [if_pos h, if_pos (by omega)]
    · rw [if_neg h, if_neg (by omega)]
theorem tbuf_start (n b i : Nat) : tbuf n b i 0 = List.replicate n 0 := by
  rw [List.eq_replicate_iff]
  refine ⟨by simp [tbuf], fun x hx => ?_⟩
  obtain ⟨j, _, rfl⟩ := List.mem_map.1 hx
  simp
theorem textB_length (n : Int) (b i : Nat) : (textB n b i).length = textL n := by simp [textB]
theorem textL_le (n : Int) : textL n ≤ 6000 := by unfold textL; omega
theorem made_u8 (m : Nat) : madeCells (Value.int .u8 0).cells m = ((List.replicate m 0).map (fun b : Nat => Value.int .u8 (b : Int))).toArray := by
  refine Array.ext (by simp [madeCells]) fun i h1 h2 => ?_
  simp [madeCells, Value.cells, Nat.mod_one]

set_option maxRecDepth 100000 in
set_option maxHeartbeats 2000000 in
theorem text_any (what : Int) (name dest : ByteArray) (n : Int) (b i : Nat) (w : World) (hi : i ≤ 1000) :
    Calls Tryz.prog 15 #[.agg #[.int .i64 what, .string name, .string dest, .int .i64 n, .int .u8 b], .int .i64 i] w fun e w' => e = .returned (.string (mk (textB n b i))) ∧ Below w.heap.size w w' := by
  obtain ⟨i5, hi0, hi1, hi2, hi3⟩ := info_parts info5
  have hL := textL_le n
  have hLZ : min (max n 0) 6000 = ((textL n : Nat) : Int) := by unfold textL; omega
  have hBS : ∀ k (hk : k < textL n), (textB n b i)[k]? = some (UInt8.ofNat (textN b i k)) := fun k hk => by simp [textB, hk]
  have hBL := textB_length n b i
  obtain ⟨q, hq⟩ : ∃ q, textL n = q := ⟨_, rfl⟩
  obtain ⟨T, hT⟩ : ∃ q, textB n b i = q := ⟨_, rfl⟩
  rw [hT] at hBS hBL ⊢
  rw [hq] at hBS hBL hL hLZ
  have hmk := run_make (P := Tryz.prog) (w.alloc (.cells #[.int .i64 what, .string name, .string dest, .int .i64 n, .int .u8 b] 26)) 62 5 i5 _ Tryz.underlying62 hi0 hi1 .i64 .i64 (q : Int) (q : Int) (by omega) (by omega) (by rw [hi3]; omega) (by omega)
  have hmc : madeCells (Value.cells (.int .u8 0)) ((q : Int).toNat * i5.size) = ((tbuf q b i 0).map (fun b : Nat => Value.int .u8 (b : Int))).toArray := by
    rw [hi2, Nat.mul_one, Int.toNat_natCast, tbuf_start]
    exact made_u8 q
  rw [hmc, Int.toNat_natCast] at hmk
  have hB0 := (Blk.new w #[.int .i64 what, .string name, .string dest, .int .i64 n, .int .u8 b] 26).alloc (.cells ((tbuf q b i 0).map (fun b : Nat => Value.int .u8 (b : Int))).toArray 5)
  have hbuf : Buf ((w.alloc (.cells #[.int .i64 what, .string name, .string dest, .int .i64 n, .int .u8 b] 26)).alloc (.cells ((tbuf q b i 0).map (fun b : Nat => Value.int .u8 (b : Int))).toArray 5)) (w.heap.size + 1) 5 (tbuf q b i 0) :=
    ⟨[], 0, 0, by
      have := heap_alloc_new (w.alloc (.cells #[.int .i64 what, .string name, .string dest, .int .i64 n, .int .u8 b] 26)) (.cells ((tbuf q b i 0).map (fun b : Nat => Value.int .u8 (b : Int))).toArray 5)
      rw [World.size_alloc] at this
      rw [List.append_nil]; exact this, .inl rfl⟩
  have hbw := ((Below.refl w.heap.size w).alloc (Nat.le_refl _) (.cells #[.int .i64 what, .string name, .string dest, .int .i64 n, .int .u8 b] 26)).alloc (by simp) (.cells ((tbuf q b i 0).map (fun b : Nat => Value.int .u8 (b : Int))).toArray 5)
  have hcell : (w.alloc (.cells #[.int .i64 what, .string name, .string dest, .int .i64 n, .int .u8 b] 26)).cell? ⟨w.heap.size, 3, none⟩ = some (.int .i64 n) := by
    rw [(Blk.new w #[.int .i64 what, .string name, .string dest, .int .i64 n, .int .u8 b] 26).cell 3]; rfl
  rw [World.size_alloc] at hmk
  obtain ⟨H, hH⟩ : ∃ q, w.heap.size = q := ⟨_, rfl⟩
  simp only [hH] at hmk hB0 hbuf hbw
  obtain ⟨W1, hW1⟩ : ∃ z, (w.alloc (.cells #[.int .i64 what, .string name, .string dest, .int .i64 n, .int .u8 b] 26)).alloc (.cells ((tbuf q b i 0).map (fun b : Nat => Value.int .u8 (b : Int))).toArray 5) = z := ⟨_, rfl⟩
  rw [hW1] at hmk hB0 hbuf hbw
  have HB0 := Lib.hid hB0
  have HBUF := Lib.hid hbuf
  have HBW := Lib.hid hbw
  have HBS := Lib.hid hBS
  have HBL := Lib.hid hBL
  have HH := Lib.hid hH
  have hi31 : IntKind.i64.wrap ((i : Int) * 31) = ((i * 31 : Nat) : Int) := by simp [IntKind.wrap, IntKind.bits, IntKind.signed]; omega
  rw [hH]
  clear hi0 hi1 hi2 hi3 hmc hB0 hbuf hbw hBS hBL hT hq hH hW1
  go_enter Tryz.func15, Tryz.ntmps15
  go_wp2
  try simp only [HH.out]
  go_loopw [7] (fun kv wr => ∃ k : Nat, k ≤ q ∧ kv = .int .i64 k ∧ Buf wr (H + 1) 5 (tbuf q b i k) ∧ Blk wr H #[.int .i64 what, .string name, .string dest, .int .i64 n, .int .u8 b] 26 ∧ Below H w wr) (fun kv _ => q - (intOf kv).toNat)
  case atStart => exact ⟨0, Nat.zero_le _, rfl, HBUF.out, HB0.out, HBW.out⟩
  case round =>
    clear HBUF HB0 HBW
    obtain ⟨k, hk, rfl, hbu, hB0, hbw⟩ := hrel
    by_cases hkq : k < q
    · have k0 : (0 : Int) ≤ (k : Int) := by omega
      have k1 : (k : Int) < (q : Int) := by omega
      have c4 := hB0.cell 4
      simp at c4
      have hHl := hB0.lt
      have hGl := hbu.lt
      have d0 := hbu.cell (i := k) (by rw [tbuf_length]; exact hkq)
      have f0 := hbu.frozen (i := k) (by rw [tbuf_length]; exact hkq)
      have HFN := Lib.hid (And.intro hbu (And.intro hB0 hbw))
      clear hbu hB0 hbw
      go_wp2
      have hv : ((b : Int) + (i : Int) * 31 + (k : Int) + (k : Int) / 512) % 256 = ((textN b i k : Nat) : Int) := by unfold textN; omega
      rw [hv]
      go_roundw
      case rel => exact ⟨k + 1, by omega, by go_num, by rw [← tbuf_step]; exact HFN.out.1.set (by rw [tbuf_length]; exact hkq) _, (Below.heap_setCell _ _ _ _ (by simp)).trans HFN.out.2.1, below_set HFN.out.2.2 (H + 1) k _ (by omega)⟩
      case measure => simp [intOf]; omega
    · obtain rfl : k = q := by omega
      have hcv : (convert 62 9 (.slice (some ⟨H + 1, 0, none⟩) k k)).run Tryz.prog wr = .ok (.string (mk T)) wr := by
        have h := run_convert_bytes_back (P := Tryz.prog) wr 62 9 5 ⟨H + 1, 0, none⟩ k T Tryz.underlying62 Tryz.underlying5 Tryz.underlying9 (fun j hj => by
          have hj' : j < k := by have := HBL.out; omega
          have e := HBS.out j hj'
          rw [List.getElem?_eq_getElem hj, Option.some.injEq] at e
          rw [add_lit', Nat.zero_add, hbu.cell (by rw [tbuf_length]; exact hj'), e]
          simp only [tbuf, List.getElem_map, List.getElem_range, if_pos hj']
          rw [UInt8.toNat_ofNat', Nat.mod_eq_of_lt (by unfold textN; omega)])
        rwa [HBL.out] at h
      have HBW := Lib.hid hbw
      clear hbu hB0 hbw
      go_wp2
      go_ret
      exact ⟨rfl, HBW.out⟩
end Go.Proofs.YtcmcdddnckcpcaaGreatDoor
/- Acts of a script: how they lie. -/
namespace Go.Proofs.YtcmcdddnckcpcaaGreatDoor
open Go.RowKit
structure ActM where
  what : Int
  name : Bs
  dest : Bs
  n : Int
  b : Nat
structure ActOk (a : ActM) : Prop where
  name : a.name.length ≤ maxLen
  dest : a.dest.length ≤ maxLen
  what : -9223372036854775808 ≤ a.what ∧ a.what ≤ 9223372036854775807
def actV (a : ActM) : List Value := [.int .i64 a.what, .string (mk a.name), .string (mk a.dest), .int .i64 a.n, .int .u8 a.b]
def acells (l : List ActM) : List Value := l.flatMap actV
theorem acells_length (l : List ActM) : (acells l).length = l.length * 5 := by
  induction l with
  | nil => rfl
  | cons a l ih => unfold acells at ih ⊢; rw [List.flatMap_cons, List.length_append, ih]; simp [actV]; omega
theorem acells_at : ∀ (l : List ActM) (j : Nat) (h : j < l.length), (acells l)[j * 5]? = some (.int .i64 l[j].what) ∧ (acells l)[j * 5 + 1]? = some (.string (mk l[j].name)) ∧ (acells l)[j * 5 + 2]? = some (.string (mk l[j].dest)) ∧ (acells l)[j * 5 + 3]? = some (.int .i64 l[j].n) ∧ (acells l)[j * 5 + 4]? = some (.int .u8 l[j].b) := by
  intro l
  induction l with
  | nil => intro j h; simp at h
  | cons a l ih =>
    intro j h
    have e : acells (a :: l) = .int .i64 a.what :: .string (mk a.name) :: .string (mk a.dest) :: .int .i64 a.n :: .int .u8 a.b :: acells l := rfl
    rw [e]
    cases j with
    | zero => exact ⟨rfl, rfl, rfl, rfl, rfl⟩
    | succ j =>
      have := ih j (by simpa using h)
      rw [show (j + 1) * 5 = j * 5 + 1 + 1 + 1 + 1 + 1 by omega, show j * 5 + 1 + 1 + 1 + 1 + 1 + 1 = (j * 5 + 1) + 1 + 1 + 1 + 1 + 1 by omega, show j * 5 + 1 + 1 + 1 + 1 + 1 + 2 = (j * 5 + 2) + 1 + 1 + 1 + 1 + 1 by omega, show j * 5 + 1 + 1 + 1 + 1 + 1 + 3 = (j * 5 + 3) + 1 + 1 + 1 + 1 + 1 by omega, show j * 5 + 1 + 1 + 1 + 1 + 1 + 4 = (j * 5 + 4) + 1 + 1 + 1 + 1 + 1 by omega]
      simpa using this
/-- The remainder of what an act says. -/
theorem rem_bounds (x m : Int) (hm : 1 ≤ m) : -m < x.tmod m ∧ x.tmod m < m := by
  have h1 := Int.tmod_lt_of_pos x (b := m) (by omega)
  have h2 := Int.tmod_lt_of_pos (-x) (b := m) (by omega)
  rw [Int.neg_tmod] at h2
  omega
def whatN (x m : Int) : Int := (x.tmod m + m).tmod m
theorem what_bounds (x m : Int) (hm : 1 ≤ m) : 0 ≤ whatN x m ∧ whatN x m < m := by
  have h1 := rem_bounds x m hm
  unfold whatN
  exact ⟨Int.tmod_nonneg _ (by omega), Int.tmod_lt_of_pos _ (by omega)⟩
end Go.Proofs.YtcmcdddnckcpcaaGreatDoor
/- FileAppends: the calls, on a store with one file. -/
namespace Go.Proofs.YtcmcdddnckcpcaaGreatDoor
open Go.RowKit
theorem runs_true (R : List Bool) : ∀ p i, runs (List.replicate p true ++ R) i 0 = runs R (i + p) 0 := by
  intro p
  induction p with
  | zero => intro i; rfl
  | succ p ih =>
    intro i
    rw [List.replicate_succ, List.cons_append, runs, if_pos rfl, List.nil_append, ih, show i + 1 + p = i + (p + 1) by omega]
theorem runs_false : ∀ q i c, runs (List.replicate q false) i c = if c + q = 0 then [] else [(i - c, c + q)] := by
  intro q
  induction q with
  | zero => intro i c; rfl
  | succ q ih =>
    intro i c
    rw [List.replicate_succ, runs, ih, if_neg (by omega), if_neg (by omega), show i + 1 - (c + 1) = i - c by omega, show c + 1 + q = c + (q + 1) by omega]
/-- The first p units are taken, and no others. -/
def Front (T : List Bool) (p : Nat) : Prop := p ≤ T.length ∧ ∀ j, T.getD j false = decide (j < p)
theorem Front.eq {T : List Bool} {p : Nat} (h : Front T p) : T = List.replicate p true ++ List.replicate (T.length - p) false := by
  have h0 := h.1
  refine List.ext_getElem (by simp; omega) fun j h1 h2 => ?_
  have := h.2 j
  rw [List.getD_eq_getElem?_getD, List.getElem?_eq_getElem h1, Option.getD_some] at this
  rw [this]
  by_cases hj : j < p
  · rw [List.getElem_append_left (by simpa using hj)]; simp [hj]
  · rw [List.getElem_append_right (by simp; omega)]; simp [hj]
theorem take_front {T : List Bool} {p k most : Nat} (h : Front T p) (hk : p + k ≤ T.length) (hm : 1 ≤ most) : ∃ l T1, takeS T k most = some (l, T1) ∧ l.length ≤ 1 ∧ Front T1 (p + k) := by
  have hr : runs T 0 0 = if T.length - p = 0 then [] else [(p, T.length - p)] := by
    conv => lhs; rw [h.eq]
    rw [runs_true, runs_false]
    simp
  have htr : (trimR (runs T 0 0) k).2 = 0 ∧ (trimR (runs T 0 0) k).1 = if k = 0 then [] else [(p, k)] := by
    rw [hr]
    by_cases h0 : k = 0
    · subst h0; rw [trimR_zero]; exact ⟨rfl, rfl⟩
    · rw [if_neg (by omega), if_neg h0, trimR, if_neg h0, Nat.min_eq_right (by omega), Nat.sub_self, trimR_zero]
      exact ⟨rfl, rfl⟩
  obtain ⟨T1, c1, _, _⟩ := take_claims T k
  have hl : (trimR (runs T 0 0) k).1.length ≤ 1 := by rw [htr.2]; split <;> simp
  have ht : takeS T k most = some ((trimR (runs T 0 0) k).1, T1) := by
    unfold takeS
    rw [if_neg (by rw [htr.1]; omega), c1]; rfl
  obtain ⟨_, _, _, a4, _, a6⟩ := takeS_facts ht
  refine ⟨_, T1, ht, hl, by rw [a4]; exact hk, fun j => ?_⟩
  have h6 := a6 j
  rw [htr.2] at h6
  have hp := h.1
  have h7 : (decide (j < T.length) && T.getD j true) = decide (j < p) := by rw [← getD_two, h.2 j]
  rw [getD_two, h6, a4]
  by_cases hj : j < T.length
  · have h8 : T.getD j true = decide (j < p) := by simpa [hj] using h7
    rw [h8]
    simp only [hj, decide_true, Bool.true_and]
    by_cases hk0 : k = 0
    · subst hk0; simp
    · rw [if_neg hk0]
      rw [Bool.eq_iff_iff]
      simp
      omega
  · have h9 : ¬ j < p + k := by omega
    simp [hj, h9]
/-- A store in order with one file, 'a', in the first units. -/
structure One (m : StoM) (bs : Bs) (c : Nat) : Prop where
  inv : Inv m
  most : m.most = 4
  len : m.T.length = 189
  front : Front m.T (needsN bs.length)
  file : ∃ f, m.F = [f] ∧ f.name = [97] ∧ f.entry = 0 ∧ f.size = bs.length ∧ f.ext.length ≤ c ∧ readF m f = bs
theorem front_fresh : Front (freshM 200 4).T 0 := ⟨Nat.zero_le _, fun j => by
  show (List.replicate 189 false).getD j false = _
  rw [List.getD_eq_getElem?_getD, List.getElem?_replicate]
  split <;> simp⟩
theorem one_write {data : Bs} (hd : data.length ≤ 6000) : ∃ T2 f, preW (freshM 200 4) [97] data = (0, some (T2, f)) ∧ One ⟨(DS.run (putC (freshM 200 4).most T2 (secL ((freshM 200 4).most + 7) f.ext) data f) (freshM 200 4).ds).2, putF (freshM 200 4).F f, T2, (freshM 200 4).most, (freshM 200 4).off⟩ data 1 := by
  have hk : needsN data.length ≤ 12 := by unfold needsN; omega
  obtain ⟨l, T1, h1, h2, h3⟩ := take_front front_fresh (k := needsN data.length) (most := 64) (by show 0 + _ ≤ (List.replicate 189 false).length; rw [List.length_replicate]; omega) (by decide)
  have hp : preW (freshM 200 4) [97] data = (0, some (T1, ⟨[97], 0, data.length, l⟩)) := by
    unfold preW
    rw [if_neg (by decide), if_neg (by omega)]
    have : slotW (freshM 200 4) [97] = some 0 := by kernel_rfl
    rw [this]
    dsimp only
    rw [h1]
    rfl
  have hi := inv_fresh 200 4 (by decide) (by decide) (by decide) (by decide)
  obtain ⟨_, hi2⟩ := inv_put hi hp
  obtain ⟨_, hr, _⟩ := write_read hi hp
  rw [Nat.zero_add] at h3
  exact ⟨_, _, hp, hi2, rfl, inv_same_len hi hi2, h3, _, rfl, rfl, rfl, rfl, h2, hr⟩
theorem one_append {m : StoM} {bs data : Bs} {c : Nat} (h : One m bs c) (hg : DGood m.ds) (hc : c ≤ 60) (hl : bs.length + data.length ≤ 30000) (hne : data ≠ []) :
    ∃ T1 L dt f', preA m [97] data = (0, some (T1, L, dt, f')) ∧ One ⟨(DS.run (putC m.most T1 L dt f') m.ds).2, putF m.F f', T1, m.most, m.off⟩ (bs ++ data) (c + 1) := by
  obtain ⟨f, hF, hfn, hfe, hfs, hfx, hfr⟩ := h.file
  have hfile : fileOf m.F [97] = some f := by rw [hF]; unfold fileOf; rw [List.find?_cons, hfn]; rfl
  have hsum := h.inv.sum f (by rw [hF]; simp)
  have hk : needsN bs.length + (needsN (bs.length + data.length) - needsN bs.length) ≤ m.T.length := by rw [h.len]; unfold needsN; omega
  obtain ⟨l, T1, h1, h2, h3⟩ := take_front h.front hk (most := 64 - f.ext.length) (by omega)
  have hp : ∃ L dt, preA m [97] data = (0, some (T1, L, dt, ⟨[97], f.entry, f.size + data.length, f.ext ++ l⟩)) := by
    unfold preA
    rw [if_neg (by decide), hfile]
    dsimp only
    rw [if_neg (by omega), if_neg hne, hsum, hfs, h1]
    exact ⟨_, _, rfl⟩
  obtain ⟨L, dt, hp⟩ := hp
  obtain ⟨_, hi2⟩ := inv_append h.inv hp
  obtain ⟨f2, e1, _, _, hr, _⟩ := append_read h.inv hg hp
  rw [hfile] at e1
  cases e1
  rw [hfr] at hr
  refine ⟨_, _, _, _, hp, hi2, h.most, (inv_same_len h.inv hi2).trans h.len, ?_, ⟨[97], f.entry, f.size + data.length, f.ext ++ l⟩, ?_, rfl, hfe, ?_, ?_, hr⟩
  · have e : needsN bs.length + (needsN (bs.length + data.length) - needsN bs.length) = needsN (bs ++ data).length := by rw [List.length_append]; unfold needsN; omega
    rw [e] at h3
    exact h3
  · show putF m.F _ = _
    rw [hF]
    unfold putF
    rw [if_pos (by unfold fileOf; rw [List.find?_cons, hfn]; rfl)]
    simp [hfn]
  · show f.size + data.length = _
    rw [hfs, List.length_append]
  · show (f.ext ++ l).length ≤ _
    rw [List.length_append]; omega
/-- Behind the last Write: two files of the same bytes. -/
structure Two (m : StoM) (bs : Bs) : Prop where
  inv : Inv m
  a : readW m [97] = bs ∧ findE m.F [97] = 0 ∧ sizeW m.F [97] = bs.length
  b : readW m [98] = bs ∧ findE m.F [98] = 0
theorem one_two {m : StoM} {bs : Bs} {c : Nat} (h : One m bs c) (hl : bs.length ≤ 30000) :
    ∃ T2 f, preW m [98] bs = (0, some (T2, f)) ∧ Two ⟨(DS.run (putC m.most T2 (secL (m.most + 7) f.ext) bs f) m.ds).2, putF m.F f, T2, m.most, m.off⟩ bs := by
  obtain ⟨f, hF, hfn, hfe, hfs, hfx, hfr⟩ := h.file
  have hb : fileOf m.F [98] = none := by rw [hF]; unfold fileOf; rw [List.find?_cons, hfn]; rfl
  obtain ⟨l, T1, h1, h2, h3⟩ := take_front h.front (k := needsN bs.length) (most := 64) (by rw [h.len]; unfold needsN; omega) (by decide)
  have hs : slotW m [98] = some 1 := by
    unfold slotW
    rw [hb]
    dsimp only
    rw [h.most, hF]
    unfold vacN
    have : (List.range 4).map (fun i => [f].any fun g => g.entry == i) = [true, false, false, false] := by simp [List.range_succ, hfe]
    rw [this]; rfl
  have hp : preW m [98] bs = (0, some (T1, ⟨[98], 1, bs.length, l⟩)) := by
    unfold preW
    rw [if_neg (by decide), if_neg (by omega), hs]
    dsimp only
    rw [h1]
    dsimp only
    have : oldX m.F [98] = [] := by unfold oldX; rw [hb]; rfl
    rw [this]
    rfl
  obtain ⟨_, hi2⟩ := inv_put h.inv hp
  obtain ⟨_, hr, ho⟩ := write_read h.inv hp
  have hoa := ho f (by rw [del_none hb, hF]; simp)
  have hPF : ∀ t, fileOf (putF m.F ⟨[98], 1, bs.length, l⟩) t = if t = [98] then some ⟨[98], 1, bs.length, l⟩ else fileOf m.F t := fun t => fileOf_put _ _ h.inv.names t
  have hfa : fileOf m.F [97] = some f := by rw [hF]; unfold fileOf; rw [List.find?_cons, hfn]; rfl
  have e1 : fileOf (putF m.F ⟨[98], 1, bs.length, l⟩) [97] = some f := by rw [hPF, if_neg (by decide)]; exact hfa
  have e2 : fileOf (putF m.F ⟨[98], 1, bs.length, l⟩) [98] = some ⟨[98], 1, bs.length, l⟩ := by rw [hPF, if_pos rfl]
  refine ⟨_, _, hp, hi2, ⟨?_, ?_, ?_⟩, ⟨?_, ?_⟩⟩
  · unfold readW
    rw [if_pos (by decide), e1]
    show readF _ f = bs
    rw [hoa, hfr]
  · unfold findE
    rw [if_pos (by decide), e1]; rfl
  · unfold sizeW
    rw [if_pos (by decide), e1]
    exact hfs
  · unfold readW
    rw [if_pos (by decide), e2]
    exact hr
  · unfold findE
    rw [if_pos (by decide), e2]; rfl
def StO (X : List Nat) (S D Lg M : Nat) (Q : StoM → Prop) (w : World) (e : Ending) (w' : World) : Prop :=
  e = .returned (.int .i64 0) ∧ ∃ X' m', Mv (S :: M :: X) (S :: M :: X') w w' ∧ Sto w' X' S D Lg M m' ∧ Q m'
theorem o_write (X : List Nat) (S D Lg M : Nat) (data : Bs) (w : World) (h : Sto w X S D Lg M (freshM 200 4)) (hd : data.length ≤ 6000) :
    Calls Tryz.prog 14 #[.pointer (some ⟨S, 0, none⟩), .string ⟨#[97]⟩, .string (mk data)] w (StO X S D Lg M (fun m' => One m' data 1) w) := by
  obtain ⟨T2, f, hp, ho⟩ := one_write hd
  have hi := inv_fresh 200 4 (by decide) (by decide) (by decide) (by decide)
  refine (fwrite_any X S D Lg M (freshM 200 4) [97] data w h hi.b hi.up hi.on (by decide)).mono ?_
  intro e w' hw
  obtain ⟨rfl, X', hm, h0, _⟩ := hw.2 T2 f (by rw [hp])
  have hr := (inv_put hi hp).1
  rw [hr]
  exact ⟨rfl, X', _, hm, h0 hr, ho⟩
theorem o_append (X : List Nat) (S D Lg M : Nat) (m : StoM) (bs data : Bs) (c : Nat) (w : World) (h : Sto w X S D Lg M m) (ho : One m bs c) (hc : c ≤ 60) (hl : bs.length + data.length ≤ 30000) :
    Calls Tryz.prog 16 #[.pointer (some ⟨S, 0, none⟩), .string ⟨#[97]⟩, .string (mk data)] w (StO X S D Lg M (fun m' => One m' (bs ++ data) (c + 1)) w) := by
  refine (fappend_any X S D Lg M m [97] data w h ho.inv.b ho.inv.up ho.inv.on (by decide) (by omega) ho.inv.sum).mono ?_
  intro e w' hw
  by_cases hne : data = []
  · subst hne
    obtain ⟨f, hF, hfn, _, hfs, _⟩ := ho.file
    have hp : preA m [97] [] = (0, none) := by
      unfold preA
      rw [if_neg (by decide), show fileOf m.F [97] = some f from by rw [hF]; unfold fileOf; rw [List.find?_cons, hfn]; rfl]
      dsimp only
      rw [if_neg (by rw [hfs]; simp; simp at hl; omega), if_pos rfl]
    obtain ⟨rfl, hb, hs⟩ := hw.1 (by rw [hp])
    rw [hp]
    refine ⟨rfl, X, m, Mv.of_below _ hb, hs, ?_⟩
    rw [List.append_nil]
    obtain ⟨f, g1, g2, g3, g4, g5, g6⟩ := ho.file
    exact ⟨ho.inv, ho.most, ho.len, ho.front, f, g1, g2, g3, g4, by omega, g6⟩
  · obtain ⟨T1, L, dt, f', hp, h2⟩ := one_append ho h.dsk.good hc hl hne
    obtain ⟨rfl, X', hm, h0, _⟩ := hw.2 T1 L dt f' (by rw [hp])
    have hr := (inv_append ho.inv hp).1
    rw [hr]
    exact ⟨rfl, X', _, hm, h0 hr, h2⟩
theorem o_two (X : List Nat) (S D Lg M : Nat) (m : StoM) (bs : Bs) (c : Nat) (w : World) (h : Sto w X S D Lg M m) (ho : One m bs c) (hl : bs.length ≤ 30000) :
    Calls Tryz.prog 14 #[.pointer (some ⟨S, 0, none⟩), .string ⟨#[98]⟩, .string (mk bs)] w (StO X S D Lg M (fun m' => Two m' bs) w) := by
  obtain ⟨T2, f, hp, h2⟩ := one_two ho hl
  refine (fwrite_any X S D Lg M m [98] bs w h ho.inv.b ho.inv.up ho.inv.on (by decide)).mono ?_
  intro e w' hw
  obtain ⟨rfl, X', hm, h0, _⟩ := hw.2 T2 f (by rw [hp])
  have hr := (inv_put ho.inv hp).1
  rw [hr]
  exact ⟨rfl, X', _, hm, h0 hr, h2⟩
theorem inv_zs {m : StoM} (h : Inv m) : (∀ f ∈ m.F, f.size ≤ 512 * sumN f.ext) ∧ ∀ f ∈ m.F, sumN f.ext ≤ 4096 :=
  ⟨fun f hf => by rw [h.sum f hf]; unfold needsN; omega, fun f hf => by have := h.b.siz f hf; rw [h.sum f hf]; unfold needsN; omega⟩
end Go.Proofs.YtcmcdddnckcpcaaGreatDoor
/- FileAppends, walked: true. -/
namespace Go.Proofs.YtcmcdddnckcpcaaGreatDoor
open Go.RowKit
set_option maxRecDepth 100000 in
set_option maxHeartbeats 8000000 in
theorem fileAppends_any (A : Option Addr) (ac : List ActM) (cap : Nat) (fa : ActM) (w : World) (hA : Lies w A (acells ac)) (hl : ac.length ≤ maxLen) (hT : TB w) (hw : 0 < w.heap.size) :
    Calls Tryz.prog 4 #[.slice A ac.length cap, .agg (actV fa).toArray] w fun e w' => e = .returned (.bool true) ∧ Below w.heap.size w w' := by
  obtain ⟨wh0, nm0, ds0, nn0, bb0⟩ := fa
  unfold actV
  dsimp only
  have hlb : ac.length ≤ 9223372036854775807 := by unfold maxLen at hl; omega
  obtain ⟨al, hal⟩ : ∃ q, ac.length = q := ⟨_, rfl⟩
  rw [hal] at hlb ⊢
  have HAL := Lib.hid hal
  have HA := Lib.hid hA
  have hb00 := below_alloc w (.cells #[.int .i64 wh0, .string (mk nm0), .string (mk ds0), .int .i64 nn0, .int .u8 bb0] 26)
  have hBF := Blk.new w #[.int .i64 wh0, .string (mk nm0), .string (mk ds0), .int .i64 nn0, .int .u8 bb0] 26
  have K0 := speaks_any (w.alloc (.cells #[.int .i64 wh0, .string (mk nm0), .string (mk ds0), .int .i64 nn0, .int .u8 bb0] 26)) (hT.below hw hb00) (Nat.lt_of_lt_of_le hw hb00.size)
  have KM := fun (w1 : World) (hb : Below w.heap.size w w1) => made_any 200 4 w1 (by decide) (by decide) (by decide) (by decide) (hT.below hw hb) (Nat.lt_of_lt_of_le hw hb.size)
  have HKM := Lib.hid KM
  obtain ⟨NM0, hNM0⟩ : ∃ q, mk nm0 = q := ⟨_, rfl⟩
  obtain ⟨DM0, hDM0⟩ : ∃ q, mk ds0 = q := ⟨_, rfl⟩
  rw [hNM0, hDM0] at hb00 hBF K0 ⊢
  have KT := fun w1 => text_any wh0 NM0 DM0 nn0 bb0 0 w1 (by omega)
  have KW := Lib.hid (fun (X : List Nat) (S D Lg M : Nat) (w1 : World) (h : Sto w1 X S D Lg M (freshM 200 4)) => o_write X S D Lg M (textB nn0 bb0 0) w1 h (by rw [textB_length]; exact textL_le nn0))
  have ht0 : (textB nn0 bb0 0).length ≤ 6000 := by rw [textB_length]; exact textL_le nn0
  obtain ⟨T0, hT0⟩ : ∃ q, textB nn0 bb0 0 = q := ⟨_, rfl⟩
  rw [hT0] at ht0
  simp only [hT0] at KT KW
  obtain ⟨TX0, hTX0⟩ : ∃ q, mk T0 = q := ⟨_, rfl⟩
  simp only [hTX0] at KT KW
  have HT0 := Lib.hid (And.intro ht0 hTX0)
  have HKT := Lib.hid KT
  have hsz0 : (w.alloc (.cells #[.int .i64 wh0, .string NM0, .string DM0, .int .i64 nn0, .int .u8 bb0] 26)).heap.size = w.heap.size + 1 := by simp
  obtain ⟨H, hH⟩ : ∃ q, w.heap.size = q := ⟨_, rfl⟩
  obtain ⟨W0, hW0⟩ : ∃ q, w.alloc (.cells #[.int .i64 wh0, .string NM0, .string DM0, .int .i64 nn0, .int .u8 bb0] 26) = q := ⟨_, rfl⟩
  rw [hH] at hb00 hBF
  rw [hW0] at hb00 hBF K0
  have HH := Lib.hid hH
  have HB0 := Lib.hid (show Below w.heap.size w W0 by rw [hH]; exact hb00)
  have HBF := Lib.hid hBF
  clear hal hA hl hT hw KM hb00 hBF hNM0 hDM0 hT0 hTX0 hsz0 ht0 KT
  go_enter Tryz.func4, Tryz.ntmps4
  go_upto_region 1 with (fail)
  try simp only [hW0, hH]
  clear hW0 hH
  go_upto_region 4 with (first
    | (go_at_call 10; refine K0.mono ?_; rintro e w1 ⟨rfl, hb1⟩; have hB1 := HB0.out.trans (hb1.mono HB0.out.size); have KM1 := HKM.out w1 hB1; have HB1 := Lib.hid hB1; have HBF1 := Lib.hid (HBF.out.below hb1); clear hb1 hB1 K0)
    | (go_at_call 13; refine KM1.mono ?_; rintro e w2 ⟨X2, D, S, Lg, M, rfl, hst, hnw⟩; have H2 := Lib.hid (And.intro hst hnw); clear hst hnw KM1))
  have HCF := Lib.hid (fun (w5 : World) (hb : Below w1.heap.size w1 w5) => (show w5.cell? ⟨H, 0, none⟩ = some (.int .i64 wh0) ∧ w5.cell? ⟨H, 1, none⟩ = some (.string NM0) ∧ w5.cell? ⟨H, 2, none⟩ = some (.string DM0) ∧ w5.cell? ⟨H, 3, none⟩ = some (.int .i64 nn0) ∧ w5.cell? ⟨H, 4, none⟩ = some (.int .u8 bb0) from by
    have h := HBF1.out.below hb
    have x0 := h.cell 0
    have x1 := h.cell 1
    have x2 := h.cell 2
    have x3 := h.cell 3
    have x4 := h.cell 4
    simp at x0 x1 x2 x3 x4
    exact ⟨x0, x1, x2, x3, x4⟩))
  obtain ⟨x0, x1, x2, x3, x4⟩ := HCF.out w2 H2.out.2.below
  have KT2 := HKT.out w2
  go_upto_region 6 with (first
    | (go_at_call 15; refine KT2.mono ?_; rintro e w3 ⟨rfl, hb3⟩; have KW3 := KW.out X2 S D Lg M w3 (H2.out.1.below hb3); have H3 := Lib.hid (H2.out.2.step hb3); clear hb3 KT2)
    | (go_at_call 14; refine KW3.mono ?_; rintro e w4 ⟨rfl, X4, m4, hm4, hs4, ho4⟩; have H4 := Lib.hid (And.intro hs4 (And.intro ho4 (H3.out.mv hm4))); clear hm4 hs4 ho4 KW3))
  clear x0 x1 x2 x3 x4
  obtain ⟨x0, x1, x2, x3, x4⟩ := HCF.out w4 H4.out.2.2.below
  have KT4 := HKT.out w4
  go_upto_region 7 with (first
    | (go_at_call 15; refine KT4.mono ?_; rintro e w5 ⟨rfl, hb5⟩; have H5 := Lib.hid (And.intro (H4.out.1.below hb5) (And.intro H4.out.2.1 (H4.out.2.2.step hb5))); clear hb5 KT4))
  clear x0 x1 x2 x3 x4 HCF HBF1 HBF HKT KW
  go_wp2
  go_loopw [8, 9] (fun av iv wr => ∃ (k : Nat) (X' : List Nat) (m' : StoM) (bs : Bs), k ≤ al ∧ k ≤ 12 ∧ iv = .int .i64 k ∧ av = .string (mk bs) ∧ bs.length ≤ 30000 ∧ Sto wr X' S D Lg M m' ∧ One m' bs (k + 1) ∧ Nw w1 (S :: M :: X') wr) (fun _ iv _ => al - (intOf iv).toNat)
  case atStart => exact ⟨0, X4, m4, T0, Nat.zero_le _, Nat.zero_le _, rfl, by rw [HT0.out.2], by have := HT0.out.1; omega, H5.out.1, H5.out.2.1, H5.out.2.2⟩
  case round =>
    clear H2 H3 H4 H5
    obtain ⟨k, X', m', bs, hk, hk12, rfl, rfl, hbl, hst, ho, hn⟩ := hrel
    have k0 : (0 : Int) ≤ (k : Int) := by omega
    have HW := Lib.hid (And.intro hst (And.intro ho (And.intro hn hbl)))
    have zb := mk_size bs
    obtain ⟨zl, hzl⟩ : ∃ q, bs.length = q := ⟨_, rfl⟩
    rw [hzl] at zb hbl
    obtain ⟨B, hB⟩ : ∃ q, mk bs = q := ⟨_, rfl⟩
    rw [hB] at zb ⊢
    have HBS := Lib.hid (And.intro hB hzl)
    have hzb : (zl : Int) ≤ 30000 := by omega
    have hz0 : (0 : Int) ≤ (zl : Int) := by omega
    clear hst ho hn hzl hB
    by_cases hkl : k < al ∧ k < 12
    · obtain ⟨hk1, hk2⟩ := hkl
      have hkc : k < ac.length := by rw [HAL.out]; exact hk1
      obtain ⟨g, o, rfl, hgl, hcs⟩ := HA.out (by rw [acells_length]; omega)
      obtain ⟨d0, d1, d2, d3, d4⟩ := acells_at ac k hkc
      have c0 := hcs _ _ d0
      have c1 := hcs _ _ d1
      have c2 := hcs _ _ d2
      have c3 := hcs _ _ d3
      have c4 := hcs _ _ d4
      rw [← Nat.add_assoc] at c1 c2 c3 c4
      obtain ⟨⟨wh, nm, ds, nn, bb⟩, ha⟩ : ∃ q, ac[k] = q := ⟨_, rfl⟩
      rw [ha] at c0 c1 c2 c3 c4
      dsimp only at c0 c1 c2 c3 c4
      have KT := text_any wh (mk nm) (mk ds) nn bb k wr (by omega)
      have htl : (textB nn bb k).length ≤ 6000 := by rw [textB_length]; exact textL_le nn
      obtain ⟨T, hT⟩ : ∃ q, textB nn bb k = q := ⟨_, rfl⟩
      rw [hT] at KT htl
      have zt := mk_size T
      obtain ⟨tl, htl2⟩ : ∃ q, T.length = q := ⟨_, rfl⟩
      rw [htl2] at zt htl
      have KA := Lib.hid (fun (w5 : World) (hb : Below wr.heap.size wr w5) (hz : zl + tl ≤ 30000) => o_append X' S D Lg M m' bs T (k + 1) w5 (HW.out.1.below hb) HW.out.2.1 (by omega) (by rw [HBS.out.2, htl2]; exact hz))
      obtain ⟨TX, hTX⟩ : ∃ q, mk T = q := ⟨_, rfl⟩
      rw [hTX] at zt KT
      simp only [hTX] at KA
      have HTX := Lib.hid (And.intro hTX htl2)
      have hb := HB1.out.trans (HW.out.2.2.1.below.mono HB1.out.size)
      replace c0 := (hb.cell (p := ⟨g, o + k * 5, none⟩) hgl).trans c0
      replace c1 := (hb.cell (p := ⟨g, o + k * 5 + 1, none⟩) hgl).trans c1
      replace c2 := (hb.cell (p := ⟨g, o + k * 5 + 2, none⟩) hgl).trans c2
      replace c3 := (hb.cell (p := ⟨g, o + k * 5 + 3, none⟩) hgl).trans c3
      replace c4 := (hb.cell (p := ⟨g, o + k * 5 + 4, none⟩) hgl).trans c4
      replace hgl := Nat.lt_of_lt_of_le hgl hb.size
      obtain ⟨NM, hNM⟩ : ∃ q, mk nm = q := ⟨_, rfl⟩
      obtain ⟨DM, hDM⟩ : ∃ q, mk ds = q := ⟨_, rfl⟩
      rw [hNM] at c1 KT
      rw [hDM] at c2 KT
      have k1 : (k : Int) < (al : Int) := by omega
      have k2 : (k : Int) < 12 := by omega
      have ht0 : (0 : Int) ≤ (tl : Int) := by omega
      have ht6 : (tl : Int) ≤ 6000 := by omega
      clear hcs d0 d1 d2 d3 d4 ha hNM hDM hT hTX htl2 hkc hb
      by_cases hlong : zl + tl ≤ 30000
      · have hl2 : ¬ ((zl : Int) + (tl : Int) > 30000) := by omega
        have hadd : zl + tl ≤ 9223372036854775807 := by omega
        go_wp2_with (first
          | (go_at_call 15; refine KT.mono ?_; rintro e w4 ⟨rfl, hb4⟩; have K4 := KA.out w4 hb4 hlong; have H4 := Lib.hid (HW.out.2.2.1.step hb4); clear hb4 KT)
          | (go_at_call 16; refine K4.mono ?_; rintro e w5 ⟨rfl, X5, m5, hm5, hst5, ho5⟩; have H5 := Lib.hid (And.intro (H4.out.mv hm5) (And.intro hst5 ho5)); clear hm5 hst5 ho5 K4))
        go_roundw
        case rel => exact ⟨k + 1, X5, m5, bs ++ T, by omega, by omega, by go_num, by rw [← HBS.out.1, ← HTX.out.1, mk_app], by rw [List.length_append, HBS.out.2, HTX.out.2]; exact hlong, H5.out.2.1, H5.out.2.2, H5.out.1⟩
        case measure => simp [intOf]; omega
      · have hl2 : ((zl : Int) + (tl : Int) > 30000) := by omega
        go_upto_region 15 with (first
          | (go_at_call 15; refine KT.mono ?_; rintro e w4 ⟨rfl, hb4⟩; have HW4 := Lib.hid (show Sto w4 X' S D Lg M m' ∧ One m' bs (k + 1) ∧ Nw w1 (S :: M :: X') w4 ∧ bs.length ≤ 30000 from ⟨HW.out.1.below hb4, HW.out.2.1, HW.out.2.2.1.step hb4, HW.out.2.2.2⟩); clear hb4 KT))
        clear HW c0 c1 c2 c3 c4 hgl KA HTX
        obtain ⟨wr2, hwr2⟩ : ∃ q, w4 = q := ⟨_, rfl⟩
        rw [hwr2] at HW4 ⊢
        clear hwr2
        have HW := HW4
        rename World => wr
        clear HW4
        -- from: HW : Hid (Sto wr X' S D Lg M m' ∧ One m' bs (k + 1) ∧ Nw w1 (S :: M :: X') wr ∧ bs.length ≤ 30000); B = mk bs, zb : B.size = zl, HBS : Hid (mk bs = B ∧ bs.length = zl)
        have K2 := o_two X' S D Lg M m' bs (k + 1) wr HW.out.1 HW.out.2.1 HW.out.2.2.2
        rw [HBS.out.1] at K2
        have HRD := Lib.hid (fun (X5 : List Nat) (m5 : StoM) (w5 : World) (hs : Sto w5 X5 S D Lg M m5) (h2 : Two m5 bs) => (⟨by
            have := fread_any X5 S D Lg M m5 [97] w5 hs h2.inv.b h2.inv.up h2.inv.on (by decide) (inv_zs h2.inv).1 (inv_zs h2.inv).2
            rw [h2.a.1, h2.a.2.1, HBS.out.1] at this; exact this, fun w6 hb => by
            have := fread_any X5 S D Lg M m5 [98] w6 (hs.below hb) h2.inv.b h2.inv.up h2.inv.on (by decide) (inv_zs h2.inv).1 (inv_zs h2.inv).2
            rw [h2.b.1, h2.b.2, HBS.out.1] at this; exact this, fun w6 hb => by
            have := fsize_any X5 S D Lg M m5 [97] w6 (hs.below hb) h2.inv.up h2.inv.on (by decide)
            rw [h2.a.2.2, h2.a.2.1, HBS.out.2] at this; exact this⟩ :
          Calls Tryz.prog 17 #[.pointer (some ⟨S, 0, none⟩), .string ⟨#[97]⟩] w5 (fun e w' => e = .returned (.tuple #[.string B, .int .i64 (0 : Nat)]) ∧ Below w5.heap.size w5 w') ∧
          (∀ w6, Below w5.heap.size w5 w6 → Calls Tryz.prog 17 #[.pointer (some ⟨S, 0, none⟩), .string ⟨#[98]⟩] w6 (fun e w' => e = .returned (.tuple #[.string B, .int .i64 (0 : Nat)]) ∧ Below w6.heap.size w6 w')) ∧
          ∀ w6, Below w5.heap.size w5 w6 → Calls Tryz.prog 18 #[.pointer (some ⟨S, 0, none⟩), .string ⟨#[97]⟩] w6 (fun e w' => e = .returned (.tuple #[.int .i64 (zl : Nat), .int .i64 (0 : Nat)]) ∧ Below w6.heap.size w6 w')))
        go_wp2_with (first
          | (go_at_call 14; refine K2.mono ?_; rintro e w5 ⟨rfl, X5, m5, hm5, hs5, h25⟩; obtain ⟨R1, R2, R3⟩ := HRD.out X5 m5 w5 hs5 h25; have HR2 := Lib.hid R2; have HR3 := Lib.hid R3; have H5 := Lib.hid (HW.out.2.2.1.mv hm5); clear hm5 hs5 h25 R2 R3 K2)
          | (go_at_call 17; (with_reducible refine R1.mono ?_); rintro e w6 ⟨rfl, hb6⟩; have R4 := HR2.out w6 hb6; have H6 := Lib.hid (And.intro hb6 (H5.out.step hb6)); clear hb6 R1)
          | (go_at_call 17; (with_reducible refine R4.mono ?_); rintro e w7 ⟨rfl, hb7⟩; have R5 := HR3.out w7 (H6.out.1.trans (hb7.mono H6.out.1.size)); have H7 := Lib.hid (H6.out.2.step hb7); clear hb7 R4)
          | (go_at_call 18; refine R5.mono ?_; rintro e w8 ⟨rfl, hb8⟩; have H8 := Lib.hid (H7.out.step hb8); clear hb8 R5))
        go_ret
        exact ⟨rfl, HB1.out.trans (H8.out.below.mono HB1.out.size)⟩
    · have hcond : ¬ ((k : Int) < (al : Int)) ∨ ¬ ((k : Int) < 12) := by omega
      rcases hcond with h | h
      · skip
        -- from: HW : Hid (Sto wr X' S D Lg M m' ∧ One m' bs (k + 1) ∧ Nw w1 (S :: M :: X') wr ∧ bs.length ≤ 30000); B = mk bs, zb : B.size = zl, HBS : Hid (mk bs = B ∧ bs.length = zl)
        have K2 := o_two X' S D Lg M m' bs (k + 1) wr HW.out.1 HW.out.2.1 HW.out.2.2.2
        rw [HBS.out.1] at K2
        have HRD := Lib.hid (fun (X5 : List Nat) (m5 : StoM) (w5 : World) (hs : Sto w5 X5 S D Lg M m5) (h2 : Two m5 bs) => (⟨by
            have := fread_any X5 S D Lg M m5 [97] w5 hs h2.inv.b h2.inv.up h2.inv.on (by decide) (inv_zs h2.inv).1 (inv_zs h2.inv).2
            rw [h2.a.1, h2.a.2.1, HBS.out.1] at this; exact this, fun w6 hb => by
            have := fread_any X5 S D Lg M m5 [98] w6 (hs.below hb) h2.inv.b h2.inv.up h2.inv.on (by decide) (inv_zs h2.inv).1 (inv_zs h2.inv).2
            rw [h2.b.1, h2.b.2, HBS.out.1] at this; exact this, fun w6 hb => by
            have := fsize_any X5 S D Lg M m5 [97] w6 (hs.below hb) h2.inv.up h2.inv.on (by decide)
            rw [h2.a.2.2, h2.a.2.1, HBS.out.2] at this; exact this⟩ :
          Calls Tryz.prog 17 #[.pointer (some ⟨S, 0, none⟩), .string ⟨#[97]⟩] w5 (fun e w' => e = .returned (.tuple #[.string B, .int .i64 (0 : Nat)]) ∧ Below w5.heap.size w5 w') ∧
          (∀ w6, Below w5.heap.size w5 w6 → Calls Tryz.prog 17 #[.pointer (some ⟨S, 0, none⟩), .string ⟨#[98]⟩] w6 (fun e w' => e = .returned (.tuple #[.string B, .int .i64 (0 : Nat)]) ∧ Below w6.heap.size w6 w')) ∧
          ∀ w6, Below w5.heap.size w5 w6 → Calls Tryz.prog 18 #[.pointer (some ⟨S, 0, none⟩), .string ⟨#[97]⟩] w6 (fun e w' => e = .returned (.tuple #[.int .i64 (zl : Nat), .int .i64 (0 : Nat)]) ∧ Below w6.heap.size w6 w')))
        go_wp2_with (first
          | (go_at_call 14; refine K2.mono ?_; rintro e w5 ⟨rfl, X5, m5, hm5, hs5, h25⟩; obtain ⟨R1, R2, R3⟩ := HRD.out X5 m5 w5 hs5 h25; have HR2 := Lib.hid R2; have HR3 := Lib.hid R3; have H5 := Lib.hid (HW.out.2.2.1.mv hm5); clear hm5 hs5 h25 R2 R3 K2)
          | (go_at_call 17; (with_reducible refine R1.mono ?_); rintro e w6 ⟨rfl, hb6⟩; have R4 := HR2.out w6 hb6; have H6 := Lib.hid (And.intro hb6 (H5.out.step hb6)); clear hb6 R1)
          | (go_at_call 17; (with_reducible refine R4.mono ?_); rintro e w7 ⟨rfl, hb7⟩; have R5 := HR3.out w7 (H6.out.1.trans (hb7.mono H6.out.1.size)); have H7 := Lib.hid (H6.out.2.step hb7); clear hb7 R4)
          | (go_at_call 18; refine R5.mono ?_; rintro e w8 ⟨rfl, hb8⟩; have H8 := Lib.hid (H7.out.step hb8); clear hb8 R5))
        go_ret
        exact ⟨rfl, HB1.out.trans (H8.out.below.mono HB1.out.size)⟩
      · skip
        by_cases h2 : (k : Int) < (al : Int)
        · skip
          -- from: HW : Hid (Sto wr X' S D Lg M m' ∧ One m' bs (k + 1) ∧ Nw w1 (S :: M :: X') wr ∧ bs.length ≤ 30000); B = mk bs, zb : B.size = zl, HBS : Hid (mk bs = B ∧ bs.length = zl)
          have K2 := o_two X' S D Lg M m' bs (k + 1) wr HW.out.1 HW.out.2.1 HW.out.2.2.2
          rw [HBS.out.1] at K2
          have HRD := Lib.hid (fun (X5 : List Nat) (m5 : StoM) (w5 : World) (hs : Sto w5 X5 S D Lg M m5) (h2 : Two m5 bs) => (⟨by
              have := fread_any X5 S D Lg M m5 [97] w5 hs h2.inv.b h2.inv.up h2.inv.on (by decide) (inv_zs h2.inv).1 (inv_zs h2.inv).2
              rw [h2.a.1, h2.a.2.1, HBS.out.1] at this; exact this, fun w6 hb => by
              have := fread_any X5 S D Lg M m5 [98] w6 (hs.below hb) h2.inv.b h2.inv.up h2.inv.on (by decide) (inv_zs h2.inv).1 (inv_zs h2.inv).2
              rw [h2.b.1, h2.b.2, HBS.out.1] at this; exact this, fun w6 hb => by
              have := fsize_any X5 S D Lg M m5 [97] w6 (hs.below hb) h2.inv.up h2.inv.on (by decide)
              rw [h2.a.2.2, h2.a.2.1, HBS.out.2] at this; exact this⟩ :
            Calls Tryz.prog 17 #[.pointer (some ⟨S, 0, none⟩), .string ⟨#[97]⟩] w5 (fun e w' => e = .returned (.tuple #[.string B, .int .i64 (0 : Nat)]) ∧ Below w5.heap.size w5 w') ∧
            (∀ w6, Below w5.heap.size w5 w6 → Calls Tryz.prog 17 #[.pointer (some ⟨S, 0, none⟩), .string ⟨#[98]⟩] w6 (fun e w' => e = .returned (.tuple #[.string B, .int .i64 (0 : Nat)]) ∧ Below w6.heap.size w6 w')) ∧
            ∀ w6, Below w5.heap.size w5 w6 → Calls Tryz.prog 18 #[.pointer (some ⟨S, 0, none⟩), .string ⟨#[97]⟩] w6 (fun e w' => e = .returned (.tuple #[.int .i64 (zl : Nat), .int .i64 (0 : Nat)]) ∧ Below w6.heap.size w6 w')))
          go_wp2_with (first
            | (go_at_call 14; refine K2.mono ?_; rintro e w5 ⟨rfl, X5, m5, hm5, hs5, h25⟩; obtain ⟨R1, R2, R3⟩ := HRD.out X5 m5 w5 hs5 h25; have HR2 := Lib.hid R2; have HR3 := Lib.hid R3; have H5 := Lib.hid (HW.out.2.2.1.mv hm5); clear hm5 hs5 h25 R2 R3 K2)
            | (go_at_call 17; (with_reducible refine R1.mono ?_); rintro e w6 ⟨rfl, hb6⟩; have R4 := HR2.out w6 hb6; have H6 := Lib.hid (And.intro hb6 (H5.out.step hb6)); clear hb6 R1)
            | (go_at_call 17; (with_reducible refine R4.mono ?_); rintro e w7 ⟨rfl, hb7⟩; have R5 := HR3.out w7 (H6.out.1.trans (hb7.mono H6.out.1.size)); have H7 := Lib.hid (H6.out.2.step hb7); clear hb7 R4)
            | (go_at_call 18; refine R5.mono ?_; rintro e w8 ⟨rfl, hb8⟩; have H8 := Lib.hid (H7.out.step hb8); clear hb8 R5))
          go_ret
          exact ⟨rfl, HB1.out.trans (H8.out.below.mono HB1.out.size)⟩
        · skip
          -- from: HW : Hid (Sto wr X' S D Lg M m' ∧ One m' bs (k + 1) ∧ Nw w1 (S :: M :: X') wr ∧ bs.length ≤ 30000); B = mk bs, zb : B.size = zl, HBS : Hid (mk bs = B ∧ bs.length = zl)
          have K2 := o_two X' S D Lg M m' bs (k + 1) wr HW.out.1 HW.out.2.1 HW.out.2.2.2
          rw [HBS.out.1] at K2
          have HRD := Lib.hid (fun (X5 : List Nat) (m5 : StoM) (w5 : World) (hs : Sto w5 X5 S D Lg M m5) (h2 : Two m5 bs) => (⟨by
              have := fread_any X5 S D Lg M m5 [97] w5 hs h2.inv.b h2.inv.up h2.inv.on (by decide) (inv_zs h2.inv).1 (inv_zs h2.inv).2
              rw [h2.a.1, h2.a.2.1, HBS.out.1] at this; exact this, fun w6 hb => by
              have := fread_any X5 S D Lg M m5 [98] w6 (hs.below hb) h2.inv.b h2.inv.up h2.inv.on (by decide) (inv_zs h2.inv).1 (inv_zs h2.inv).2
              rw [h2.b.1, h2.b.2, HBS.out.1] at this; exact this, fun w6 hb => by
              have := fsize_any X5 S D Lg M m5 [97] w6 (hs.below hb) h2.inv.up h2.inv.on (by decide)
              rw [h2.a.2.2, h2.a.2.1, HBS.out.2] at this; exact this⟩ :
            Calls Tryz.prog 17 #[.pointer (some ⟨S, 0, none⟩), .string ⟨#[97]⟩] w5 (fun e w' => e = .returned (.tuple #[.string B, .int .i64 (0 : Nat)]) ∧ Below w5.heap.size w5 w') ∧
            (∀ w6, Below w5.heap.size w5 w6 → Calls Tryz.prog 17 #[.pointer (some ⟨S, 0, none⟩), .string ⟨#[98]⟩] w6 (fun e w' => e = .returned (.tuple #[.string B, .int .i64 (0 : Nat)]) ∧ Below w6.heap.size w6 w')) ∧
            ∀ w6, Below w5.heap.size w5 w6 → Calls Tryz.prog 18 #[.pointer (some ⟨S, 0, none⟩), .string ⟨#[97]⟩] w6 (fun e w' => e = .returned (.tuple #[.int .i64 (zl : Nat), .int .i64 (0 : Nat)]) ∧ Below w6.heap.size w6 w')))
          go_wp2_with (first
            | (go_at_call 14; refine K2.mono ?_; rintro e w5 ⟨rfl, X5, m5, hm5, hs5, h25⟩; obtain ⟨R1, R2, R3⟩ := HRD.out X5 m5 w5 hs5 h25; have HR2 := Lib.hid R2; have HR3 := Lib.hid R3; have H5 := Lib.hid (HW.out.2.2.1.mv hm5); clear hm5 hs5 h25 R2 R3 K2)
            | (go_at_call 17; (with_reducible refine R1.mono ?_); rintro e w6 ⟨rfl, hb6⟩; have R4 := HR2.out w6 hb6; have H6 := Lib.hid (And.intro hb6 (H5.out.step hb6)); clear hb6 R1)
            | (go_at_call 17; (with_reducible refine R4.mono ?_); rintro e w7 ⟨rfl, hb7⟩; have R5 := HR3.out w7 (H6.out.1.trans (hb7.mono H6.out.1.size)); have H7 := Lib.hid (H6.out.2.step hb7); clear hb7 R4)
            | (go_at_call 18; refine R5.mono ?_; rintro e w8 ⟨rfl, hb8⟩; have H8 := Lib.hid (H7.out.step hb8); clear hb8 R5))
          go_ret
          exact ⟨rfl, HB1.out.trans (H8.out.below.mono HB1.out.size)⟩
end Go.Proofs.YtcmcdddnckcpcaaGreatDoor
/- What each row of this seat shares: the world that a witness starts in (the door's own run, and the pinned table), the number that internal/bytealg keeps. -/
namespace Go.Proofs.YtcmcdddnckcpcaaGreatDoor
open Go.ChangeShapes Go.WideShapes Go.ChangeAt Go.RowKit
theorem own : ownKnob Tryz.prog.godebug = none := by kernel_rfl
theorem laidOut : laidOutB Tryz.prog = true := by kernel_rfl
/-- The pinned table lies where it lies. -/
theorem tb_of {W : World} {laid : List (String × DataW Unit)} (hlist : laid = Rows.fileNamesRow.laid) (hmet : laidMetH Tryz.prog laid W) : TB W := by
  subst hlist
  rw [Go.MakeChecks.laidMetH_plain _ _ _ (by kernel_rfl)] at hmet
  rw [show Rows.fileNamesRow.laid = [("stemma/crc.table", (Lib.tabData .u32 tblL : DataW Unit))] by kernel_rfl] at hmet
  have htab : Lib.TabIs Tryz.prog W "stemma/crc.table" .u32 tblL :=
    Lib.tabIs_of_head (g := 0) (t := 186) (e := 153) (n := 16) (by kernel_rfl) (by kernel_rfl) (by kernel_rfl) (by kernel_rfl) (by kernel_rfl) (by kernel_rfl) hmet
  intro k hk
  exact htab.cell (by kernel_rfl) k hk
theorem tb_pos {W : World} (h : TB W) : 0 < W.heap.size := by
  have := h 0 (by decide)
  rcases Nat.eq_zero_or_pos W.heap.size with h0 | h0
  · rw [World.cell?, Array.getElem?_eq_none (by simp [h0])] at this; cases this
  · exact h0
noncomputable def laidW (os : Os) : World := World.doorLaid Tryz.prog 400 os
theorem laid_met (os : Os) (args : Array Value) : laidMet Tryz.prog Rows.fileNamesRow.laid ((laidW os).forCall (fun _ _ => 0) ⟨#[], args, []⟩).memory :=
  laidMet_of_run' 8 (by kernel_rfl) (by kernel_rfl)
end Go.Proofs.YtcmcdddnckcpcaaGreatDoor
/- How acts that came in are opened. -/
namespace Go.Proofs.YtcmcdddnckcpcaaGreatDoor
open Go.ChangeShapes Go.WideShapes Go.ChangeAt Go.RowKit
theorem cells26 : Tryz.prog.cellsOf 26 = 5 := by kernel_rfl
theorem cells9 : Tryz.prog.cellsOf 9 = 1 := by kernel_rfl
theorem cells3 : Tryz.prog.cellsOf 3 = 1 := by kernel_rfl
theorem cells5 : Tryz.prog.cellsOf 5 = 1 := by kernel_rfl
theorem addr_block {W : World} {b : Addr} {i : Nat} {v : Value} (g : W.cell? (b.add i) = some v) (hi : i = 0) : ∃ bb off, b = ⟨bb, off, none⟩ ∧ bb < W.heap.size := by
  subst hi
  obtain ⟨bb, off, spot⟩ := b
  have hspot : spot = none := by simpa [Addr.add] using World.cell?_spot g
  subst hspot
  refine ⟨bb, off, rfl, ?_⟩
  rcases Nat.lt_or_ge bb W.heap.size with h | h
  · exact h
  · simp [World.cell?, Addr.add, Array.getElem?_eq_none h] at g
instance : Inhabited ActM := ⟨⟨0, [], [], 0, 0⟩⟩
theorem len_five {α : Type} {l : List α} (h : l.length = 5) : ∃ a b c d e, l = [a, b, c, d, e] := by
  match l, h with
  | [a, b, c, d, e], _ => exact ⟨a, b, c, d, e, rfl⟩
/-- An act that came in, by its five cells. -/
theorem act_cells {H : Type} {enc : TypeId × Value → H} {W : World} {cs : List Value} {fuel : Nat} {sp : Nat → Bool} {held : Bool} {x : DataW H × List MemPlace} (h : DataW.trod enc Tryz.prog W 0 sp held fuel 26 cs = some x) (hl2 : cs.length = 5) :
    ∃ a : ActM, cs = actV a ∧ ActOk a := by
  obtain ⟨xs, k, _, hD, _, hxl, hel⟩ := DataW.trod_struct Tryz.underlying26 h
  have t0 := hel 0 _ rfl
  have t1 := hel 1 _ rfl
  have t2 := hel 2 _ rfl
  have t3 := hel 3 _ rfl
  have t4 := hel 4 _ rfl
  obtain ⟨c0, c1, c2, c3, c4, rfl⟩ := len_five hl2
  obtain ⟨y0, y1, y2, y3, y4, rfl⟩ := len_five (show xs.length = 5 from hxl)
  simp [cells9, cells3, cells5] at t0 t1 t2 t3 t4
  obtain ⟨n0, e0, rfl, w0⟩ := DataW.trod_int Tryz.underlying3 t0
  obtain ⟨s1, e1, rfl, w1⟩ := DataW.trod_string Tryz.underlying9 t1
  obtain ⟨s2, e2, rfl, w2⟩ := DataW.trod_string Tryz.underlying9 t2
  obtain ⟨n3, e3, rfl, _⟩ := DataW.trod_int Tryz.underlying3 t3
  obtain ⟨n4, e4, rfl, w4⟩ := DataW.trod_int Tryz.underlying5 t4
  simp only [List.cons.injEq, and_true] at e0 e1 e2 e3 e4
  subst e0 e1 e2 e3 e4
  simp [Lit.wf] at w0 w4
  have q1 : IntKind.i64.min = -9223372036854775808 := by decide
  have q2 : IntKind.i64.max = 9223372036854775807 := by decide
  have q3 : IntKind.u8.min = 0 := by decide
  have q4 : IntKind.u8.max = 255 := by decide
  have z1 : s1.data.toList.length = s1.size := by rw [Array.length_toList]; rfl
  have z2 : s2.data.toList.length = s2.size := by rw [Array.length_toList]; rfl
  refine ⟨⟨n0, s1.data.toList, s2.data.toList, n3, n4.toNat⟩, ?_, ⟨by show s1.data.toList.length ≤ _; omega, by show s2.data.toList.length ≤ _; omega, by show _ ≤ n0 ∧ n0 ≤ _; omega⟩⟩
  unfold actV
  rw [mk_list, mk_list, show ((n4.toNat : Nat) : Int) = n4 by omega]
set_option maxRecDepth 100000 in
/-- An act that came in by value. -/
theorem act_arg {H : Type} {enc : TypeId × Value → H} {W W' : World} {v : Value} {r : Reach} {base : Nat} {fuel : Nat} {sp : Nat → Bool} {held : Bool} {x : DataW H × List MemPlace} (hv : Value.okWide Tryz.prog W' r base 26 v) (h : DataW.trod enc Tryz.prog W 0 sp held fuel 26 v.cells.toList = some x) :
    ∃ a : ActM, v = .agg (actV a).toArray ∧ ActOk a := by
  obtain ⟨cs, rfl, hsz⟩ := okWide_struct Tryz.underlying26 hv
  rw [cells26] at hsz
  obtain ⟨a, ha, hok⟩ := act_cells (cs := cs.toList) h (by rw [Array.length_toList]; exact hsz)
  exact ⟨a, by rw [← ha], hok⟩
/-- A slice of acts that came in. -/
theorem acts_arg {H : Type} {enc : TypeId × Value → H} {W : World} {a : Option Addr} {len cap fuel : Nat} {sp : Nat → Bool} {held : Bool} {x : DataW H × List MemPlace} (h : DataW.trod enc Tryz.prog W 0 sp held fuel 24 (Value.slice a len cap).cells.toList = some x) :
    ∃ l : List ActM, l.length = len ∧ len ≤ maxLen ∧ Lies W a (acells l) ∧ ∀ u ∈ l, ActOk u := by
  rcases Deep.open_slice Tryz.underlying24 h with ⟨hcs, _⟩ | ⟨b, len', cap', m, n, D, Pl, hcs, _, hl, hm, hmm, rfl, hx⟩
  · simp [Value.cells] at hcs
    obtain ⟨rfl, rfl, rfl⟩ := hcs
    exact ⟨[], rfl, Nat.zero_le _, fun h => absurd h (by simp [acells]), fun p hp => by cases hp⟩
  · simp [Value.cells] at hcs
    obtain ⟨rfl, rfl, rfl⟩ := hcs
    have hle : len ≤ m := by rw [hmm]; split <;> omega
    have each : ∀ i, i < len → ∃ p : ActM, (∀ k (hk : k < 5), ∀ v, (actV p)[k]? = some v → W.cell? (b.add (i * 5 + k)) = some v) ∧ ActOk p := by
      intro i hi
      obtain ⟨cs', hc, ht⟩ := hx i (by omega)
      rw [cells26] at hc
      obtain ⟨_, hl2, hcell⟩ := World.cells?_some hc
      obtain ⟨p, rfl, hok⟩ := act_cells ht hl2
      refine ⟨p, fun k hk v hv => ?_, hok⟩
      have g := hcell k hk
      rw [Deep.add_add] at g
      rw [g]
      exact hv
    obtain ⟨f, hf⟩ := Deep.choose_lt (α := ActM) (p := fun i p => (∀ k (hk : k < 5), ∀ v, (actV p)[k]? = some v → W.cell? (b.add (i * 5 + k)) = some v) ∧ ActOk p) each
    have hfl : ((List.range len).map f).length = len := by simp
    refine ⟨(List.range len).map f, hfl, by omega, fun hp => ?_, fun u hu => ?_⟩
    · rw [acells_length, hfl] at hp
      obtain ⟨bb, off, rfl, hbb⟩ := addr_block ((hf 0 (by omega)).1 0 (by omega) _ rfl) rfl
      refine ⟨bb, off, rfl, hbb, fun j u hu => ?_⟩
      have hj := (List.getElem?_eq_some_iff.1 hu).1
      rw [acells_length, hfl] at hj
      have hjl : j / 5 < ((List.range len).map f).length := by rw [hfl]; omega
      have h5 := (hf (j / 5) (by omega)).1 (j % 5) (by omega) u (by
        obtain ⟨a0, a1, a2, a3, a4⟩ := acells_at ((List.range len).map f) (j / 5) hjl
        have e : ((List.range len).map f)[j / 5] = f (j / 5) := by simp
        rw [e] at a0 a1 a2 a3 a4
        have hm : j % 5 = 0 ∨ j % 5 = 1 ∨ j % 5 = 2 ∨ j % 5 = 3 ∨ j % 5 = 4 := by omega
        rcases hm with hm | hm | hm | hm | hm
        · rw [show j / 5 * 5 = j by omega] at a0; rw [hm, ← hu, a0]; rfl
        · rw [show j / 5 * 5 + 1 = j by omega] at a1; rw [hm, ← hu, a1]; rfl
        · rw [show j / 5 * 5 + 2 = j by omega] at a2; rw [hm, ← hu, a2]; rfl
        · rw [show j / 5 * 5 + 3 = j by omega] at a3; rw [hm, ← hu, a3]; rfl
        · rw [show j / 5 * 5 + 4 = j by omega] at a4; rw [hm, ← hu, a4]; rfl)
      rw [add_lit'] at h5
      rw [show j / 5 * 5 + j % 5 = j by omega] at h5
      exact h5
    · obtain ⟨i, hi, rfl⟩ := List.mem_map.1 hu
      exact (hf i (List.mem_range.1 hi)).2
end Go.Proofs.YtcmcdddnckcpcaaGreatDoor
namespace Go.Proofs.YtcmcdddnckcpcaaGreatDoor
open Go.ChangeShapes Go.WideShapes Go.ChangeAt Go.RowKit
open Go.ChangeMaps (open_string shut_string)
theorem fileAppends_reads (os : Os) {H : Type} (enc : TypeId × Value → H) : ∃ places, DataW.whole enc Tryz.prog ((laidW os).forCall (fun _ _ => 0) ⟨#[], #[.slice none 0 0, .agg #[.int .i64 0, .string ⟨#[]⟩, .string ⟨#[]⟩, .int .i64 0, .int .u8 0]], []⟩).memory Tryz.f4.params.toList Rows.fileAppendsSpec.vars false #[Value.slice none 0 0, Value.agg #[.int .i64 0, .string ⟨#[]⟩, .string ⟨#[]⟩, .int .i64 0, .int .u8 0]].toList 8 = some ([.nil, .agg [.lit (.int .i64 0), .lit (.string []), .lit (.string []), .lit (.int .i64 0), .lit (.int .u8 0)]], [], places) :=
  ⟨[], by kernel_rfl⟩
set_option maxRecDepth 100000 in
theorem fileAppends_lifted (os : Os) (started : os.Started) (H : Type) (enc : TypeId × Value → H) (F : Stop.Interp) :
    ReturnsInHanded {} Tryz.checked os 4 .any ((OpenSpec.ofChange Rows.fileAppendsSpec).preRow enc Tryz.prog Tryz.f4 Rows.fileAppendsRow.domain false Rows.fileAppendsRow.laid) (((OpenSpec.ofChange Rows.fileAppendsSpec).at F).post enc Tryz.prog Tryz.f4 false true false false) := by
  obtain ⟨places, hx⟩ := fileAppends_reads os enc
  refine returnsInHanded_of_row (C := Tryz.checked) (s := OpenSpec.ofChange Rows.fileAppendsSpec) own started (by kernel_rfl) Tryz.func4
    (witness_row_at (enc := enc) (C := Tryz.checked) false (laidW os) #[.slice none 0 0, .agg #[.int .i64 0, .string ⟨#[]⟩, .string ⟨#[]⟩, .int .i64 0, .int .u8 0]] rfl (by kernel_rfl) (by kernel_rfl) (by kernel_rfl)
      (OpenSpec.preRow_of_cond 8 hx (by kernel_rfl) (fun k hk => by cases hk) (by kernel_rfl) (laid_met os _))) ?_
  intro W base args ds gs before hval0 hW _ _ hz hmet hsh _
  have hval : ∀ (j : Nat) t v, Tryz.f4.params[j]? = some t → args[j]? = some v → Value.okWide Tryz.prog W .any base t v := hval0
  have hW' := hW
  obtain ⟨p, q, hA0, hV, rfl, _, _⟩ := hW
  have hA : DataW.TrodAll enc Tryz.prog W 0 (fun _ => true) true Tryz.f4.params.toList args.toList ds p := hA0
  have hz' : (DataW.weightsEach Tryz.prog (Tryz.f4.params.toList ++ []) (ds ++ gs)).all (· ≤ reachBytes) = true := hz
  rw [Tryz.params4] at hA hval hz'
  obtain ⟨v0, v1, d0, d1, p0, p1, rfl, rfl, rfl, h0, h1⟩ := trodAll_two hA
  obtain ⟨rfl, rfl⟩ := trodVars_none hV
  obtain ⟨a0, l0, c0, rfl⟩ := okWide_slice Tryz.underlying24 (hval 0 24 v0 rfl rfl)
  have h0k := h0
  obtain ⟨fuel0, hf0⟩ := h0
  have hw0 : ∀ k ∈ d0.weights Tryz.prog 24, k ≤ reachBytes := fun k hk => by simpa using List.all_eq_true.1 hz' k (DataW.weights_mem_each (j := 0) rfl rfl k hk)
  have h1k := h1
  obtain ⟨fuel1, hf1⟩ := h1
  clear hA0 hval0 hz hz'
  simp only [List.append_nil] at hW'
  have hlt := hW'.lt
  obtain ⟨as0, rfl, AL0, AC0, AO0⟩ := acts_arg hf0
  obtain ⟨ac1, rfl, AK1⟩ := act_arg (hval 1 26 v1 rfl rfl) hf1
  refine (fileAppends_any a0 as0 c0 ac1 W AC0 AL0 (tb_of rfl hmet) (tb_pos (tb_of rfl hmet))).mono fun e W' ⟨he, hb⟩ => ?_
  subst he
  refine ⟨_, rfl, _, _, _, [], _, [], hW', trodAll_mk1 (shut_bool Tryz.underlying4 true), trodAll_mk2 (Below.trod laidOut (by kernel_rfl) (of_decide_eq_true (by kernel_rfl)) h0k hb (fun x hx => hlt x (by simp [hx]))) (Below.trod laidOut (by kernel_rfl) (of_decide_eq_true (by kernel_rfl)) h1k hb (fun x hx => hlt x (by simp [hx]))), rfl, hb.frame _, fun h => by cases h⟩
theorem fileAppends_said : Rows.FileAppendsSaid :=
  OpenClaim.holds_of_cond 4 Tryz.f4 rfl rfl rfl rfl rfl rfl rfl ⟨rfl, rfl, rfl, rfl, rfl⟩ rfl rfl rfl rfl rfl (by kernel_rfl) Tryz.func4 (by kernel_rfl)
    (of_decide_eq_true (by kernel_rfl)) (by unfold Func.isWrapper; first | (rw [if_pos (by decide +kernel)]; kernel_rfl) | (rw [if_neg (by decide +kernel)]; exact ⟨rfl, rfl⟩))
    (fun os started H enc _ F => by rw [OpenClaim.pre_eq_preRow]; exact fileAppends_lifted os started H enc F)
theorem fileAppends_plain (f : FuncId) (fn : Func) (hf : Tryz.pinned.checked.prog.funcNamed "stemma/stemmalaw07.FileAppends" = some f) (hfn : Tryz.pinned.checked.prog.funcs[f]? = some fn) :
    false = Tryz.pinned.checked.prog.looks [] ∧ ∀ (j : Nat) t, fn.params[j]? = some t → Tryz.pinned.checked.prog.wantsStandIn t = false := by
  obtain rfl : f = 4 := Option.some.inj ((show Tryz.prog.funcNamed "stemma/stemmalaw07.FileAppends" = some 4 by kernel_rfl).symm.trans hf) |>.symm
  obtain rfl : fn = Tryz.f4 := (Option.some.inj (Tryz.func4.symm.trans hfn)).symm
  refine ⟨by kernel_rfl, fun j t ht => ?_⟩
  rw [Tryz.params4] at ht
  have hm : t ∈ [24, 26] := by simpa using Array.mem_of_getElem? ht
  have hall : ([24, 26].all fun u => !Tryz.prog.wantsStandIn u) = true := by kernel_rfl
  exact (show Tryz.prog.wantsStandIn t = false by simpa using List.all_eq_true.1 hall t hm)
theorem fileAppends_card : Rows.FileAppendsCardSaid :=
  Claim7.holds_tied_plain_at .later [] _ _ _ _ fileAppends_said (fun _ h => by cases h) (by kernel_rfl) (fun _ h => by cases h) fileAppends_row_tie rfl ⟨rfl, rfl⟩ (by kernel_rfl) rfl fileAppends_plain (by kernel_rfl)
#print axioms fileAppends_card
end Go.Proofs.YtcmcdddnckcpcaaGreatDoor
