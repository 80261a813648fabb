/- file.Write, walked. -/
import Derived.Test.YtcmcdddnckcpcaaGreatDoorTb
import Derived.Test.YtcmcdddnckcpcaaGreatDoorOs
import Derived.Test.YtcmcdddnckcpcaaGreatDoorFa
namespace Go.Proofs.YtcmcdddnckcpcaaGreatDoor
open Go.RowKit Go.Maps
theorem take_all (T : List Bool) (k most : Nat) (w : World) (hn : T.length ≤ 4096) (hk : k ≤ 2199023255552) (hm : most ≤ 2199023255552) : Calls Tryz.prog 39 #[spv T, .int .i64 k, .int .i64 most] w fun e w' =>
    (∀ l T', takeS T k most = some (l, T') → ∃ A c, e = .returned (.tuple #[.slice A l.length c, spv T', .int .i64 0]) ∧ w'.ownsRow w.heap.size 90 2 (.slice A l.length c) l.length (ecells l)) ∧
    (takeS T k most = none → e = .returned (.tuple #[.slice none 0 0, .agg #[.int .i64 0, .string ⟨#[]⟩], .int .i64 8])) ∧ Below w.heap.size w w' := by
  by_cases h0 : k = 0
  · subst h0
    refine (take_zero T most w hn hm).mono ?_
    rintro e w' ⟨rfl, hb⟩
    refine ⟨fun l T' h => ?_, fun h => ?_, hb⟩
    · rw [take_zeroS] at h
      cases h
      exact ⟨none, 0, rfl, rfl, .inl ⟨rfl, rfl⟩⟩
    · rw [take_zeroS] at h; cases h
  · exact take_any T k most w hn hk (by omega) hm
theorem find_form (w : World) (X : List Nat) (ad : AdM) (F : List FileM) (name : Bs) (h : Exts w X ad F) (hg : goodF name = true) :
    ∃ (a b : Int) (A : Option Addr) (c : Nat), findV ad F name = .agg #[.int .i64 a, .int .i64 b, .slice A (oldX F name).length c] ∧ Lies w A (ecells (oldX F name)) ∧
      ((fileOf F name = none ∧ a = 0 ∧ findE F name = 9) ∨ (∃ f, fileOf F name = some f ∧ a = f.entry ∧ findE F name = 0)) := by
  unfold findV findE oldX
  rw [hg]
  cases hf : fileOf F name with
  | none => exact ⟨0, 0, none, 0, rfl, fun h => absurd h (by simp [ecells]), .inl ⟨rfl, rfl, rfl⟩⟩
  | some f =>
    obtain ⟨h1, h2, h3⟩ := h f (fileOf_mem hf)
    exact ⟨f.entry, f.size, _, _, rfl, h1, .inr ⟨f, rfl, rfl, rfl⟩⟩
theorem oldX_small {m : StoM} (hb : StoB m) (name : Bs) : (oldX m.F name).length ≤ 64 ∧ ∀ x ∈ oldX m.F name, x.1 ≤ 2199023255552 ∧ x.2 ≤ 2199023255552 := by
  unfold oldX
  cases hf : fileOf m.F name with
  | none => exact ⟨by simp, fun x hx => by simp at hx⟩
  | some f => exact ⟨hb.exl f (fileOf_mem hf), fun x hx => by have := hb.exb f (fileOf_mem hf) x hx; have := hb.tl; omega⟩
theorem own_ge {w : World} {B s n c : Nat} {e : TypeId} {A : Option Addr} {xs : List Value} (h : w.ownsRow B e s (.slice A n c) n xs) (g : Addr) (hg : A = some g) : B ≤ g.block := by
  rcases h.2 with ⟨hv, _⟩ | ⟨b, cap, cur, hv, hB, _⟩
  · simp [hg] at hv
  · simp only [Value.slice.injEq] at hv
    rw [hg] at hv
    rw [Option.some.inj hv.1]
    exact hB
theorem PutP.from {X : List Nat} {S D Lg M : Nat} {m : StoM} {T : List Bool} {l : List Nat} {data : Bs} {f : FileM} {w w1 w' : World} {e : Ending} (h : PutP X S D Lg M m T l data f w1 e w') (hb : Below w.heap.size w w1) : PutP X S D Lg M m T l data f w e w' := by
  obtain ⟨h1, X', h2, h3⟩ := h
  exact ⟨h1, X', (Mv.of_below _ hb).trans h2, h3⟩
theorem put_secs {m : StoM} (hb : StoB m) {l : List (Nat × Nat)} (h : ∀ x ∈ l, 1 ≤ x.2 ∧ x.1 + x.2 ≤ m.T.length ∧ ∀ j, x.1 ≤ j → j < x.1 + x.2 → m.T.getD j true = false) : ∀ i ∈ secL (m.most + 7) l, i < m.ds.L.length := fun i hi => by
  obtain ⟨x, hx, h1, h2⟩ := secL_mem hi
  have := (h x hx).2.1
  have := hb.ll
  omega
def WriteP (X : List Nat) (S D Lg M : Nat) (m : StoM) (p : Nat × Option (List Bool × FileM)) (data : Bs) (w : World) (e : Ending) (w' : World) : Prop :=
  (p.2 = none → e = .returned (.int .i64 (p.1 : Nat)) ∧ Below w.heap.size w w' ∧ Sto w' X S D Lg M m) ∧
  ∀ T2 f, p.2 = some (T2, f) → PutP X S D Lg M m T2 (secL (m.most + 7) f.ext) data f w e w'
set_option maxRecDepth 100000 in
set_option maxHeartbeats 4000000 in
theorem fwrite_any (X : List Nat) (S D Lg M : Nat) (m : StoM) (name data : Bs) (w : World) (h : Sto w X S D Lg M m) (hb : StoB m) (h1 : m.off = false) (h2 : m.ds.off = false) (hn : name.length ≤ maxLen) :
    Calls Tryz.prog 14 #[.pointer (some ⟨S, 0, none⟩), .string (mk name), .string (mk data)] w (WriteP X S D Lg M m (preW m name data) data w) := by
  obtain ⟨ad, hFM, hEX⟩ := h.map
  have KF := find_ok X S D Lg M m ad name w h hFM h1 h2 hn
  have zd := mk_size data
  obtain ⟨P, hP⟩ : ∃ q, preW m name data = q := ⟨_, rfl⟩
  rw [hP]
  have HP := Lib.hid hP
  clear hP
  cases hg : goodF name with
  | false =>
    have HE : P = (11, none) := by rw [← HP.out]; unfold preW; rw [if_pos hg]
    subst HE
    have HV := Lib.hid (show findV ad m.F name = inoZ ∧ findE m.F name = 11 by unfold findV findE; rw [hg]; exact ⟨rfl, rfl⟩)
    rw [HV.out.1, HV.out.2] at KF
    unfold inoZ at KF
    have HST := Lib.hid h
    obtain ⟨NM, hNM⟩ : ∃ q, mk name = q := ⟨_, rfl⟩
    obtain ⟨DT, hDT⟩ : ∃ q, mk data = q := ⟨_, rfl⟩
    rw [hNM] at KF
    rw [hNM, hDT]
    clear h hb h1 h2 hn hg hFM hEX zd HV hNM hDT
    go_enter Tryz.func14, Tryz.ntmps14
    go_wp2_with (first | (go_at_call 37; refine KF.mono ?_; rintro e w1 ⟨rfl, hb1⟩; have HB1 := Lib.hid hb1; clear hb1))
    go_ret
    have hb := HB1.out.alloc HB1.out.size (.cells #[.int .i64 0, .int .i64 0, .slice none 0 0] 69)
    exact ⟨fun _ => ⟨rfl, hb, HST.out.below hb⟩, fun T2 f h => by cases h⟩
  | true =>
    obtain ⟨a, b, A, c, hfv, hLA, hcs⟩ := find_form w X ad m.F name hEX hg
    rw [hfv] at KF
    obtain ⟨xl, hxl⟩ : ∃ q, (oldX m.F name).length = q := ⟨_, rfl⟩
    rw [hxl] at KF
    by_cases hlong : 1048576 < data.length
    · have HE : P = (6, none) := by rw [← HP.out]; unfold preW; rw [if_neg (by rw [hg]; decide), if_pos hlong]
      subst HE
      have HST := Lib.hid h
      have hN : findE m.F name = 9 ∨ findE m.F name = 0 := by rcases hcs with h | ⟨f, h⟩; exact .inl h.2.2; exact .inr h.2.2
      obtain ⟨NM, hNM⟩ : ∃ q, mk name = q := ⟨_, rfl⟩
      obtain ⟨DT, hDT⟩ : ∃ q, mk data = q := ⟨_, rfl⟩
      obtain ⟨N, hNN⟩ : ∃ q, findE m.F name = q := ⟨_, rfl⟩
      obtain ⟨dl, hdl⟩ : ∃ q, data.length = q := ⟨_, rfl⟩
      rw [hNN] at KF hN
      rw [hNM] at KF
      rw [hDT, hdl] at zd
      rw [hdl] at hlong
      rw [hNM, hDT]
      clear h hb h1 h2 hn hg hFM hEX hNM hDT hNN hcs hfv hLA hdl hxl
      rcases hN with rfl | rfl
      all_goals
        go_enter Tryz.func14, Tryz.ntmps14
        go_wp2_with (first | (go_at_call 37; refine KF.mono ?_; rintro e w1 ⟨rfl, hb1⟩; have HB1 := Lib.hid hb1; clear hb1))
        go_ret
        have hb := HB1.out.alloc HB1.out.size (.cells #[.int .i64 a, .int .i64 b, .slice A xl c] 69)
        exact ⟨fun _ => ⟨rfl, hb, HST.out.below hb⟩, fun T2 f h => by cases h⟩
    · obtain ⟨N, hNN⟩ : ∃ q, findE m.F name = q := ⟨_, rfl⟩
      have hnext : preW m name data = match slotW m name with
        | none => (8, none)
        | some i => match takeS m.T (needsN data.length) 64 with
          | none => (8, none)
          | some (l, T1) => match turnS false T1 (oldX m.F name) with
            | none => (14, none)
            | some T2 => (0, some (T2, ⟨name, i, data.length, l⟩)) := by
        unfold preW
        rw [if_neg (by rw [hg]; decide), if_neg hlong]
        rfl
      have HST := Lib.hid h
      have HSLT := Lib.hid (show ∀ x ∈ S :: M :: X, x < w.heap.size from fun x hx => by
        rcases List.mem_cons.1 hx with rfl | hx
        · exact h.blk.lt
        · rcases List.mem_cons.1 hx with rfl | hx
          · exact hFM.lt
          · exact h.dsk.lt x hx)
      have HX := Lib.hid hnext
      have HBB := Lib.hid hb
      have HLA := Lib.hid hLA
      have HCS := Lib.hid hcs
      have HGL := Lib.hid (goodF_len hg)
      have HTL := Lib.hid hb.tl
      have KV := fun w1 (hw : Sto w1 X S D Lg M m) => vacant_any X S D Lg M m w1 hw hb.mo hb.ent
      have KN := fun (w1 : World) => needs_any data.length w1 (by omega)
      have KT := fun (w1 : World) => take_all m.T (needsN data.length) 64 w1 hb.tl (by unfold needsN; omega) (by omega)
      obtain ⟨V, hV⟩ : ∃ q, vacI m.F m.most = q := ⟨_, rfl⟩
      have HV := Lib.hid hV
      rw [hV] at KV
      obtain ⟨kn, hkn⟩ : ∃ q, needsN data.length = q := ⟨_, rfl⟩
      have hkn' : (data.length + 511) / 512 = kn := hkn
      rw [hkn] at KT
      rw [hkn'] at KN
      have HKN := Lib.hid hkn
      unfold spv at KT
      obtain ⟨tl, htl⟩ : ∃ q, m.T.length = q := ⟨_, rfl⟩
      obtain ⟨PB, hPB⟩ : ∃ q, mk (packB m.T) = q := ⟨_, rfl⟩
      rw [htl, hPB] at KT
      obtain ⟨NM, hNM⟩ : ∃ q, mk name = q := ⟨_, rfl⟩
      obtain ⟨DT, hDT⟩ : ∃ q, mk data = q := ⟨_, rfl⟩
      obtain ⟨dl, hdl⟩ : ∃ q, data.length = q := ⟨_, rfl⟩
      have HDL := Lib.hid hdl
      rw [hNN] at KF
      rw [hNM] at KF
      rw [hDT, hdl] at zd
      rw [hdl] at hlong KN
      rw [hNM, hDT]
      have x2 := fun w1 (hw : Sto w1 X S D Lg M m) => hw.blk.cell 2
      have x3 := fun w1 (hw : Sto w1 X S D Lg M m) => hw.blk.cell 3
      simp only [stoCells, htl, hPB] at x2 x3
      have HX2 := Lib.hid x2
      have HX3 := Lib.hid x3
      clear x2 x3
      have hSl := h.blk.lt
      have HTLE := Lib.hid htl
      have HPB := Lib.hid hPB
      have HNM := Lib.hid hNM
      have HDT := Lib.hid hDT
      have HXL := Lib.hid hxl
      have hlong2 : (dl : Int) ≤ 1048576 := by omega
      have hdl0 : (0 : Int) ≤ (dl : Int) := by omega
      have hN : N = 9 ∨ N = 0 := by rw [← hNN]; rcases hcs with h | ⟨f, h⟩; exact .inl h.2.2; exact .inr h.2.2
      have HNN := Lib.hid hNN
      clear h hb h1 h2 hn hg hFM hEX hNM hDT hNN hcs hfv hLA hdl hxl hV hkn hkn' htl hPB hnext hlong
      rcases hN with rfl | rfl
      · have hsl : slotW m name = vacN m.F m.most ∧ a = 0 := by
          rcases HCS.out with ⟨h1, h2, _⟩ | ⟨f, _, _, h3⟩
          · unfold slotW; rw [h1]; exact ⟨rfl, h2⟩
          · rw [HNN.out] at h3; cases h3
        have hVV := HV.out
        unfold vacI at hVV
        cases hvn : vacN m.F m.most with
        | none =>
          rw [hvn] at hVV
          have HE : P = (8, none) := by rw [← HP.out, HX.out, hsl.1, hvn]
          subst HE
          simp only at hVV
          subst hVV
          have HA0 := hsl.2
          subst HA0
          clear hsl hvn
          go_enter Tryz.func14, Tryz.ntmps14
          go_upto_if 34 with (first | (go_at_call 37; refine KF.mono ?_; rintro e w1 ⟨rfl, hb1⟩; have HB1 := Lib.hid hb1; clear hb1))
          have hB7 := (Blk.new w1 #[.int .i64 0, .int .i64 b, .slice A xl c] 69).alloc (.cells #[.int .i64 0, .int .i64 dl, .slice none 0 0] 69)
          have hB9 := Blk.new (w1.alloc (.cells #[.int .i64 0, .int .i64 b, .slice A xl c] 69)) #[.int .i64 0, .int .i64 dl, .slice none 0 0] 69
          have hbw := (HB1.out.alloc HB1.out.size (.cells #[.int .i64 0, .int .i64 b, .slice A xl c] 69)).alloc (by have := HB1.out.size; simp; omega) (.cells #[.int .i64 0, .int .i64 dl, .slice none 0 0] 69)
          rw [World.size_alloc] at hB9
          have hH7 := HB1.out.size
          obtain ⟨H7, hH⟩ : ∃ q, w1.heap.size = q := ⟨_, rfl⟩
          obtain ⟨W1, hW⟩ : ∃ q, (w1.alloc (.cells #[.int .i64 0, .int .i64 b, .slice A xl c] 69)).alloc (.cells #[.int .i64 0, .int .i64 dl, .slice none 0 0] 69) = q := ⟨_, rfl⟩
          rw [hH] at hB7 hB9 hH7
          simp only [hW] at hB7 hB9 hbw ⊢
          try simp only [hH]
          have hst1 := HST.out.below hbw
          have hSH : S < H7 := Nat.lt_of_lt_of_le HST.out.blk.lt hH7
          have KV1 := KV W1 hst1
          rw [show decide ((0 : Int) ≤ -1) = false from rfl] at KV1
          have HBW := Lib.hid hbw
          have HST1 := Lib.hid hst1
          have HB9 := Lib.hid hB9
          have HH7 := Lib.hid hH7
          clear hH hW hB7 hB9 hbw hst1 hSH hH7
          go_wp2_with (first | (go_at_call 38; go_loud (refine KV1.mono ?_; rintro e w2 ⟨rfl, hb2⟩; have hB2 := HB9.out.below hb2; have d0 := hB2.cell 0; have q0 := hB2.frozen 0; simp at d0; have hlt2 := hB2.lt; have HB2 := Lib.hid hb2; clear hb2 hB2)))
          go_ret
          have hbF := below_set (HBW.out.trans (HB2.out.mono HBW.out.size)) (H7 + 1) 0 (.int .i64 (-1)) (by have := HH7.out; omega)
          exact ⟨fun _ => ⟨rfl, hbF, HST.out.below hbF⟩, fun T2 f h => by cases h⟩
        | some i =>
          rw [hvn] at hVV
          have HI := Lib.hid (hsl.1.trans hvn)
          have HII := Lib.hid (vacN_lt hvn).1
          have HA0 := hsl.2
          subst HA0
          simp only at hVV
          subst hVV
          clear hsl hvn
          go_enter Tryz.func14, Tryz.ntmps14
          go_upto_if 34 with (first | (go_at_call 37; refine KF.mono ?_; rintro e w1 ⟨rfl, hb1⟩; have HB1 := Lib.hid hb1; clear hb1))
          have hB7 := (Blk.new w1 #[.int .i64 0, .int .i64 b, .slice A xl c] 69).alloc (.cells #[.int .i64 0, .int .i64 dl, .slice none 0 0] 69)
          have hB9 := Blk.new (w1.alloc (.cells #[.int .i64 0, .int .i64 b, .slice A xl c] 69)) #[.int .i64 0, .int .i64 dl, .slice none 0 0] 69
          have hbw := (HB1.out.alloc HB1.out.size (.cells #[.int .i64 0, .int .i64 b, .slice A xl c] 69)).alloc (by have := HB1.out.size; simp; omega) (.cells #[.int .i64 0, .int .i64 dl, .slice none 0 0] 69)
          rw [World.size_alloc] at hB9
          have hH7 := HB1.out.size
          obtain ⟨H7, hH⟩ : ∃ q, w1.heap.size = q := ⟨_, rfl⟩
          obtain ⟨W1, hW⟩ : ∃ q, (w1.alloc (.cells #[.int .i64 0, .int .i64 b, .slice A xl c] 69)).alloc (.cells #[.int .i64 0, .int .i64 dl, .slice none 0 0] 69) = q := ⟨_, rfl⟩
          rw [hH] at hB7 hB9 hH7
          simp only [hW] at hB7 hB9 hbw ⊢
          try simp only [hH]
          have hst1 := HST.out.below hbw
          have hSH : S < H7 := Nat.lt_of_lt_of_le HST.out.blk.lt hH7
          have KV1 := KV W1 hst1
          have HBW := Lib.hid hbw
          have HST1 := Lib.hid hst1
          have HB7 := Lib.hid hB7
          have HB9 := Lib.hid hB9
          have HSH := Lib.hid hSH
          have HH7 := Lib.hid hH7
          clear hH hW hB7 hB9 hbw hst1 hSH hH7
          go_upto_region 13 with (first | (go_at_call 38; refine KV1.mono ?_; rintro e w2 ⟨rfl, hb2⟩; have hB2 := HB9.out.below hb2; have d0 := hB2.cell 0; have q0 := hB2.frozen 0; simp at d0; have hlt2 := hB2.lt; have HB2 := Lib.hid hb2; have s2 := HX2.out w2 (HST1.out.below hb2); have s3 := HX3.out w2 (HST1.out.below hb2); have hS2 := (HST1.out.below hb2).blk.lt; have hSne : S ≠ H7 + 1 := (by have := HSH.out; omega); simp at s2 s3; clear hb2 hB2))
          have HST2 := Lib.hid (HST1.out.below HB2.out)
          have hB92 := (HB9.out.below HB2.out).set 0 (.int .i64 (i : Int))
          have hB72 : Blk (w2.setCell ⟨H7 + 1, 0, none⟩ (.int .i64 (i : Int))) H7 #[.int .i64 0, .int .i64 b, .slice A xl c] 69 := (Below.heap_setCell _ _ _ _ (by simp)).trans (HB7.out.below HB2.out)
          have hbw2 := below_set (HBW.out.trans (HB2.out.mono HBW.out.size)) (H7 + 1) 0 (.int .i64 (i : Int)) (by have := HH7.out; omega)
          have hlt9 := hB92.lt
          have hB113 := Blk.new (w2.setCell ⟨H7 + 1, 0, none⟩ (.int .i64 (i : Int))) #[.int .i64 (tl : Int), .string PB] 76
          have hB93 := hB92.alloc (.cells #[.int .i64 (tl : Int), .string PB] 76)
          have hB73 := hB72.alloc (.cells #[.int .i64 (tl : Int), .string PB] 76)
          have hbw3 := hbw2.alloc hbw2.size (.cells #[.int .i64 (tl : Int), .string PB] 76)
          have hlt11 : H7 + 2 ≤ w2.heap.size := by simp at hlt9; omega
          rw [World.size_setCell] at hB113
          obtain ⟨H11, hH11⟩ : ∃ q, w2.heap.size = q := ⟨_, rfl⟩
          rw [hH11] at hB113 hlt11
          obtain ⟨W3, hW3⟩ : ∃ q, (w2.setCell ⟨H7 + 1, 0, none⟩ (.int .i64 (i : Int))).alloc (.cells #[.int .i64 (tl : Int), .string PB] 76) = q := ⟨_, rfl⟩
          simp only [hW3] at hB113 hB93 hB73 hbw3 ⊢
          try simp only [hH11]
          have HB73 := Lib.hid hB73
          have HB93 := Lib.hid hB93
          have HB113 := Lib.hid hB113
          have HST3 := Lib.hid (HST.out.below hbw3)
          have HBW3 := Lib.hid hbw3
          have HORD := Lib.hid (show w.heap.size ≤ H7 ∧ H7 + 2 ≤ H11 ∧ W3.heap.size = H11 + 1 from ⟨HH7.out, hlt11, by rw [← hW3, ← hH11]; simp⟩)
          clear hW3 hH11 hB92 hB72 hbw2 hlt9 hB113 hB93 hB73 hbw3 hlt11 d0 q0 s2 s3 hS2 hSne hlt2 KV1 KV KF
          have mixed : Tryz.prog.follows Departure.mixedOrders = true := by kernel_rfl
          refine wp_region_S 11 (fun w' => w'.cell? ⟨H7 + 1, 1, none⟩ = some (.int .i64 (dl : Int))) (fun w' => Blk w' H11 #[.int .i64 (tl : Int), .string PB] 76) mixed ?_
          change wpAnyS _ _ _ _ _ _ _ _ _ _ W3.drew
          have hB9 : Blk W3.drew (H7 + 1) #[.int .i64 (i : Int), .int .i64 (dl : Int), .slice none 0 0] 69 := HB93.out
          have hB11 : Blk W3.drew H11 #[.int .i64 (tl : Int), .string PB] 76 := HB113.out
          have hb0 : Below W3.heap.size W3 W3.drew := (Below.refl _ _).drew
          obtain ⟨W0, hW0⟩ : ∃ q, W3.drew = q := ⟨_, rfl⟩
          rw [hW0] at hB9 hB11 hb0 ⊢
          clear hW0
          have HE0 : ∀ L : Array Bool, HeldS 11 (fun w' => w'.cell? ⟨H7 + 1, 1, none⟩ = some (.int .i64 (dl : Int))) (fun w' => Blk w' H11 #[.int .i64 (tl : Int), .string PB] 76) L W0 := fun L => ⟨by have q := hB9.cell 1; simp at q; exact q, fun _ => hB11⟩
          refine wpAnyS_take2 (i := 0) (v := .agg #[.int .i64 (tl : Int), .string PB]) rfl (by decide) rfl (by kernel_rfl) (by kernel_rfl) (by kernel_rfl) (by kernel_rfl) (by kernel_rfl) (fun c a w h => h) (.inl ⟨by kernel_rfl, fun w' hS => ?_⟩) (HE0 _) ?_
          · have q0 := hS.2.cell 0; have q1 := hS.2.cell 1; simp at q0 q1; go_simp
          try go_simp
          refine wpAnyS_take (i := 1) (v := .pointer (some ⟨H7 + 1, 1, none⟩)) rfl (by decide) (by kernel_rfl) (by kernel_rfl) (by kernel_rfl) (fun c a w h => h) (.inl ⟨by kernel_rfl, fun w' hS => ?_⟩) (HE0 _) ?_
          · clear hS; go_simp
          try go_simp
          refine wpAnyS_take (i := 2) (v := .int .i64 (dl : Int)) rfl (by decide) (by kernel_rfl) (by kernel_rfl) (by kernel_rfl) (fun c a w h => h) (.inl ⟨by kernel_rfl, fun w' hS => ?_⟩) (HE0 _) ?_
          · have q0 := hS; go_simp
          try go_simp
          refine wpAnyS_all (rs := [3]) (by kernel_rfl) (by simp) ?_
          intro ix hix
          simp only [List.mem_cons, List.not_mem_nil, or_false] at hix
          subst hix
          unfold wpOp
          go_simp
          refine .inl ?_
          go_at_call 40
          refine (KN W0).mono ?_
          rintro e w' ⟨rfl, hw⟩
          obtain rfl := hw.symm
          refine ⟨HE0 _, ?_⟩
          try go_simp
          refine wpAnyS_all (rs := [4]) (by kernel_rfl) (by simp) ?_
          intro ix hix
          simp only [List.mem_cons, List.not_mem_nil, or_false] at hix
          subst hix
          unfold wpOp
          go_simp
          refine .inl ?_
          go_at_call 39
          refine (KT W0).mono ?_
          rintro e W4 ⟨ht1, ht2, hb4⟩
          have hB94 := hB9.below hb4
          have hB114 := hB11.below hb4
          have HE4 : ∀ L : Array Bool, HeldS 11 (fun w' => w'.cell? ⟨H7 + 1, 1, none⟩ = some (.int .i64 (dl : Int))) (fun w' => Blk w' H11 #[.int .i64 (tl : Int), .string PB] 76) L W4 := fun L => ⟨by have q := hB94.cell 1; simp at q; exact q, fun _ => hB114⟩
          have HB94 := Lib.hid hB94
          have HB114 := Lib.hid hB114
          have HB34 := Lib.hid (hb0.trans (hb4.mono hb0.size))
          have HW0S := Lib.hid hb0.size
          cases htk : takeS m.T kn 64 with
          | none =>
            obtain rfl := ht2 htk
            refine ⟨HE4 _, ?_⟩
            try go_simp
            clear HE0 hB9 hB11 hb0 hb4 hB94 hB114
            refine wpAnyS_take (i := 5) (v := .tuple #[.slice none 0 0, .agg #[.int .i64 0, .string ⟨#[]⟩], .int .i64 8]) rfl (by decide) (by kernel_rfl) (by kernel_rfl) (by kernel_rfl) (fun c a w h => h) (.inl ⟨by kernel_rfl, fun w' hS => ?_⟩) (HE4 _) ?_
            · clear hS; go_simp
            try go_simp
            refine wpAnyS_take (i := 6) (v := .slice none 0 0) rfl (by decide) (by kernel_rfl) (by kernel_rfl) (by kernel_rfl) (fun c a w h => h) (.inl ⟨by kernel_rfl, fun w' hS => ?_⟩) (HE4 _) ?_
            · clear hS; go_simp
            try go_simp
            refine wpAnyS_take (i := 7) (v := .agg #[.int .i64 0, .string ⟨#[]⟩]) rfl (by decide) (by kernel_rfl) (by kernel_rfl) (by kernel_rfl) (fun c a w h => h) (.inl ⟨by kernel_rfl, fun w' hS => ?_⟩) (HE4 _) ?_
            · clear hS; go_simp
            try go_simp
            refine wpAnyS_take (i := 8) (v := .int .i64 8) rfl (by decide) (by kernel_rfl) (by kernel_rfl) (by kernel_rfl) (fun c a w h => h) (.inl ⟨by kernel_rfl, fun w' hS => ?_⟩) (HE4 _) ?_
            · clear hS; go_simp
            try go_simp
            refine wpAnyS_take (i := 9) (v := .pointer (some ⟨H7 + 1, 2, none⟩)) rfl (by decide) (by kernel_rfl) (by kernel_rfl) (by kernel_rfl) (fun c a w h => h) (.inl ⟨by kernel_rfl, fun w' hS => ?_⟩) (HE4 _) ?_
            · clear hS; go_simp
            try go_simp
            have d2 := HB94.out.cell 2
            have q2 := HB94.out.frozen 2
            have e0 := HB114.out.cell 0
            have e1 := HB114.out.cell 1
            have f0 := HB114.out.frozen 0
            have f1 := HB114.out.frozen 1
            simp at d2 e0 e1
            have l9 := HB94.out.lt
            have l11 := HB114.out.lt
            have hne : H7 + 1 ≠ H11 := by have := HORD.out; omega
            have hne2 : H11 ≠ H7 + 1 := Ne.symm hne
            refine wpAnyS_all (rs := [10]) (by kernel_rfl) (by simp) ?_
            intro ix hix
            simp only [List.mem_cons, List.not_mem_nil, or_false] at hix
            subst hix
            unfold wpOp
            go_simp
            have hB95 := HB94.out.set 2 (.slice none 0 0)
            have hB115 : Blk (W4.setCell ⟨H7 + 1, 2, none⟩ (.slice none 0 0)) H11 #[.int .i64 (tl : Int), .string PB] 76 := (Below.heap_setCell _ _ _ _ (by simp only; omega)).trans HB114.out
            have HE5 : ∀ L : Array Bool, HeldS 11 (fun w' => w'.cell? ⟨H7 + 1, 1, none⟩ = some (.int .i64 (dl : Int))) (fun w' => Blk w' H11 #[.int .i64 (tl : Int), .string PB] 76) L (W4.setCell ⟨H7 + 1, 2, none⟩ (.slice none 0 0)) := fun L => ⟨by have q := hB95.cell 1; simp at q; exact q, fun _ => hB115⟩
            first | refine .inl ⟨HE5 _, ?_⟩ | refine ⟨HE5 _, ?_⟩
            refine wpAnyS_all (rs := [11]) (by kernel_rfl) (by simp) ?_
            intro ix hix
            simp only [List.mem_cons, List.not_mem_nil, or_false] at hix
            subst hix
            unfold wpOp
            go_simp
            have hB96 : Blk (((W4.setCell ⟨H7 + 1, 2, none⟩ (.slice none 0 0)).setCell ⟨H11, 0, none⟩ (.int .i64 0)).setCell ⟨H11, 1, none⟩ (.string ⟨#[]⟩)) (H7 + 1) #[.int .i64 (i : Int), .int .i64 (dl : Int), .slice none 0 0] 69 := (Below.heap_setCell _ _ _ _ (by simp only; omega)).trans ((Below.heap_setCell _ _ _ _ (by simp only; omega)).trans hB95)
            have hB116 := (hB115.set 0 (.int .i64 0)).set 1 (.string ⟨#[]⟩)
            have hb6 := below_set (below_set (below_set (HBW3.out.trans (HB34.out.mono HBW3.out.size)) (H7 + 1) 2 (.slice none 0 0) (by have := HORD.out; omega)) H11 0 (.int .i64 0) (by have := HORD.out; omega)) H11 1 (.string ⟨#[]⟩) (by have := HORD.out; omega)
            have hB76 := ((HB73.out.below HB34.out).grown (grown_set W4 (H7 + 1) 2 (.slice none 0 0)) (by simp)).grown (grown_set2 (W4.setCell ⟨H7 + 1, 2, none⟩ (.slice none 0 0)) H11 0 1 (.int .i64 0) (.string ⟨#[]⟩)) (by have := HORD.out; simp; omega)
            have HB96 := Lib.hid hB96
            have HB76 := Lib.hid hB76
            have HB116 := Lib.hid hB116
            have HB6 := Lib.hid hb6
            have hz6 := hb6.size
            have hE6 := hB96.cell 1
            simp at hE6
            obtain ⟨W6, hW6⟩ : ∃ q, ((W4.setCell ⟨H7 + 1, 2, none⟩ (.slice none 0 0)).setCell ⟨H11, 0, none⟩ (.int .i64 0)).setCell ⟨H11, 1, none⟩ (.string ⟨#[]⟩) = q := ⟨_, rfl⟩
            rw [hW6] at HB96 HB76 HB116 HB6 hz6
            try simp only [hW6] at hE6
            have HE6 : ∀ L : Array Bool, L.getD 11 false = true → HeldS 11 (fun w' => w'.cell? ⟨H7 + 1, 1, none⟩ = some (.int .i64 (dl : Int))) (fun w' => Blk w' H11 #[.int .i64 (tl : Int), .string PB] 76) L W6 := fun L hL => ⟨by have q := HB96.out.cell 1; simp at q; exact q, fun e => by rw [hL] at e; cases e⟩
            rw [hW6]
            clear hB95 hB115 HE5 hB76 hB96 hB116 hb6 hE6 hW6 d2 q2 e0 e1 f0 f1 l9 l11 hne hne2
            first | refine .inl ⟨HE6 _ (by kernel_rfl), ?_⟩ | refine ⟨HE6 _ (by kernel_rfl), ?_⟩
            refine wpAnyS_all (rs := [12]) (by kernel_rfl) (by simp) ?_
            intro ix hix
            simp only [List.mem_cons, List.not_mem_nil, or_false] at hix
            subst hix
            unfold wpOp
            go_simp
            first | refine .inl ⟨HE6 _ (by kernel_rfl), ?_⟩ | refine ⟨HE6 _ (by kernel_rfl), ?_⟩ | refine .inl ?_ | skip
            refine wpAnyS_done (by kernel_rfl) ?_ _
            clear HE4 HE6
            have HE : P = (8, none) := by rw [← HP.out, HX.out, HI.out]; simp only [HKN.out, htk]
            subst HE
            clear KT KN htk ht1 ht2 hz6
            go_wp2
            go_ret
            exact ⟨fun _ => ⟨rfl, HB6.out, HST.out.below HB6.out⟩, fun T2 f h => by cases h⟩
          | some p =>
            obtain ⟨l, T1⟩ := p
            obtain ⟨hl1, hl2, hl3, hl4, hl5, _⟩ := takeS_facts htk
            obtain ⟨A2, c2, rfl, hrow⟩ := ht1 l T1 htk
            have KG := fun (w5 : World) (hL : Lies w5 A (ecells (oldX m.F name))) => give_any T1 (oldX m.F name) A c w5 (by rw [hl4]; exact HTL.out) hL (oldX_small HBB.out name).2 (by have := (oldX_small HBB.out name).1; omega)
            rw [HXL.out] at KG
            have KS := fun (w5 : World) hS hA => sectors_any S m.most A2 c2 l w5 hS (by have := HBB.out.mo; omega) hA (by omega) (fun x hx => by have := (hl3 x hx).2.1; have := HTL.out; omega) (by rw [secL_length, hl5, ← HKN.out, HDL.out]; unfold needsN; omega)
            have hLA2 := Lies.of_row hrow
            have hTA2 := Typed.of_row hrow
            have hA2X : ∀ g, A2 = some g → W0.heap.size ≤ g.block := fun g hg => own_ge hrow g hg
            have HL := Lib.hid (And.intro hLA2 (And.intro hTA2 hA2X))
            have HFACT := Lib.hid (And.intro hl1 (And.intro hl3 (And.intro hl4 hl5)))
            have HTK := Lib.hid htk
            unfold spv at KG
            obtain ⟨t1, ht1l⟩ : ∃ q, T1.length = q := ⟨_, rfl⟩
            obtain ⟨PB1, hPB1⟩ : ∃ q, mk (packB T1) = q := ⟨_, rfl⟩
            obtain ⟨ll, hll⟩ : ∃ q, l.length = q := ⟨_, rfl⟩
            rw [ht1l, hPB1] at KG ⊢
            rw [hll] at KS ⊢
            have HLL := Lib.hid hll
            have HT1L := Lib.hid (And.intro ht1l hPB1)
            clear ht1 ht2 htk hl1 hl2 hl3 hl4 hl5 hrow hLA2 hTA2 hA2X ht1l hPB1 hll KT KN
            refine ⟨HE4 _, ?_⟩
            try go_simp
            clear HE0 hB9 hB11 hb0 hb4 hB94 hB114
            refine wpAnyS_take (i := 5) (v := .tuple #[.slice A2 ll c2, .agg #[.int .i64 (t1 : Int), .string PB1], .int .i64 0]) rfl (by decide) (by kernel_rfl) (by kernel_rfl) (by kernel_rfl) (fun c a w h => h) (.inl ⟨by kernel_rfl, fun w' hS => ?_⟩) (HE4 _) ?_
            · clear hS; go_simp
            try go_simp
            refine wpAnyS_take (i := 6) (v := .slice A2 ll c2) rfl (by decide) (by kernel_rfl) (by kernel_rfl) (by kernel_rfl) (fun c a w h => h) (.inl ⟨by kernel_rfl, fun w' hS => ?_⟩) (HE4 _) ?_
            · clear hS; go_simp
            try go_simp
            refine wpAnyS_take (i := 7) (v := .agg #[.int .i64 (t1 : Int), .string PB1]) rfl (by decide) (by kernel_rfl) (by kernel_rfl) (by kernel_rfl) (fun c a w h => h) (.inl ⟨by kernel_rfl, fun w' hS => ?_⟩) (HE4 _) ?_
            · clear hS; go_simp
            try go_simp
            refine wpAnyS_take (i := 8) (v := .int .i64 0) rfl (by decide) (by kernel_rfl) (by kernel_rfl) (by kernel_rfl) (fun c a w h => h) (.inl ⟨by kernel_rfl, fun w' hS => ?_⟩) (HE4 _) ?_
            · clear hS; go_simp
            try go_simp
            refine wpAnyS_take (i := 9) (v := .pointer (some ⟨H7 + 1, 2, none⟩)) rfl (by decide) (by kernel_rfl) (by kernel_rfl) (by kernel_rfl) (fun c a w h => h) (.inl ⟨by kernel_rfl, fun w' hS => ?_⟩) (HE4 _) ?_
            · clear hS; go_simp
            try go_simp
            have d2 := HB94.out.cell 2
            have q2 := HB94.out.frozen 2
            have e0 := HB114.out.cell 0
            have e1 := HB114.out.cell 1
            have f0 := HB114.out.frozen 0
            have f1 := HB114.out.frozen 1
            simp at d2 e0 e1
            have l9 := HB94.out.lt
            have l11 := HB114.out.lt
            have hne : H7 + 1 ≠ H11 := by have := HORD.out; omega
            have hne2 : H11 ≠ H7 + 1 := Ne.symm hne
            refine wpAnyS_all (rs := [10]) (by kernel_rfl) (by simp) ?_
            intro ix hix
            simp only [List.mem_cons, List.not_mem_nil, or_false] at hix
            subst hix
            unfold wpOp
            go_simp
            have hB95 := HB94.out.set 2 (.slice A2 ll c2)
            have hB115 : Blk (W4.setCell ⟨H7 + 1, 2, none⟩ (.slice A2 ll c2)) H11 #[.int .i64 (tl : Int), .string PB] 76 := (Below.heap_setCell _ _ _ _ (by simp only; omega)).trans HB114.out
            have HE5 : ∀ L : Array Bool, HeldS 11 (fun w' => w'.cell? ⟨H7 + 1, 1, none⟩ = some (.int .i64 (dl : Int))) (fun w' => Blk w' H11 #[.int .i64 (tl : Int), .string PB] 76) L (W4.setCell ⟨H7 + 1, 2, none⟩ (.slice A2 ll c2)) := fun L => ⟨by have q := hB95.cell 1; simp at q; exact q, fun _ => hB115⟩
            first | refine .inl ⟨HE5 _, ?_⟩ | refine ⟨HE5 _, ?_⟩
            refine wpAnyS_all (rs := [11]) (by kernel_rfl) (by simp) ?_
            intro ix hix
            simp only [List.mem_cons, List.not_mem_nil, or_false] at hix
            subst hix
            unfold wpOp
            go_simp
            have hB96 : Blk (((W4.setCell ⟨H7 + 1, 2, none⟩ (.slice A2 ll c2)).setCell ⟨H11, 0, none⟩ (.int .i64 (t1 : Int))).setCell ⟨H11, 1, none⟩ (.string PB1)) (H7 + 1) #[.int .i64 (i : Int), .int .i64 (dl : Int), .slice A2 ll c2] 69 := (Below.heap_setCell _ _ _ _ (by simp only; omega)).trans ((Below.heap_setCell _ _ _ _ (by simp only; omega)).trans hB95)
            have hB116 := (hB115.set 0 (.int .i64 (t1 : Int))).set 1 (.string PB1)
            have hb6 := below_set (below_set (below_set (HBW3.out.trans (HB34.out.mono HBW3.out.size)) (H7 + 1) 2 (.slice A2 ll c2) (by have := HORD.out; omega)) H11 0 (.int .i64 (t1 : Int)) (by have := HORD.out; omega)) H11 1 (.string PB1) (by have := HORD.out; omega)
            have hB76 := ((HB73.out.below HB34.out).grown (grown_set W4 (H7 + 1) 2 (.slice A2 ll c2)) (by simp)).grown (grown_set2 (W4.setCell ⟨H7 + 1, 2, none⟩ (.slice A2 ll c2)) H11 0 1 (.int .i64 (t1 : Int)) (.string PB1)) (by have := HORD.out; simp; omega)
            have HB96 := Lib.hid hB96
            have HB76 := Lib.hid hB76
            have HB116 := Lib.hid hB116
            have HB6 := Lib.hid hb6
            have hz6 := hb6.size
            have hE6 := hB96.cell 1
            simp at hE6
            have hL4 := HL.out
            obtain ⟨hL51, hL52⟩ := hL4.1.grown hL4.2.1 (grown_set W4 (H7 + 1) 2 (.slice A2 ll c2)) (fun g e => by cases e; exact ⟨_, 69, _, HB94.out, by decide⟩)
            obtain ⟨hL61, hL62⟩ := hL51.grown hL52 (grown_set2 (W4.setCell ⟨H7 + 1, 2, none⟩ (.slice A2 ll c2)) H11 0 1 (.int .i64 (t1 : Int)) (.string PB1)) (fun g e => by cases e; exact ⟨_, 76, _, hB115, by decide⟩)
            have HL6 := Lib.hid (show Lies (((W4.setCell ⟨H7 + 1, 2, none⟩ (.slice A2 ll c2)).setCell ⟨H11, 0, none⟩ (.int .i64 (t1 : Int))).setCell ⟨H11, 1, none⟩ (.string PB1)) A2 (ecells l) ∧ Typed (((W4.setCell ⟨H7 + 1, 2, none⟩ (.slice A2 ll c2)).setCell ⟨H11, 0, none⟩ (.int .i64 (t1 : Int))).setCell ⟨H11, 1, none⟩ (.string PB1)) A2 90 from ⟨hL61, hL62⟩)
            clear hL4 hL51 hL52 hL61 hL62
            obtain ⟨W6, hW6⟩ : ∃ q, ((W4.setCell ⟨H7 + 1, 2, none⟩ (.slice A2 ll c2)).setCell ⟨H11, 0, none⟩ (.int .i64 (t1 : Int))).setCell ⟨H11, 1, none⟩ (.string PB1) = q := ⟨_, rfl⟩
            rw [hW6] at HL6
            rw [hW6] at HB96 HB76 HB116 HB6 hz6
            try simp only [hW6] at hE6
            have HE6 : ∀ L : Array Bool, L.getD 11 false = true → HeldS 11 (fun w' => w'.cell? ⟨H7 + 1, 1, none⟩ = some (.int .i64 (dl : Int))) (fun w' => Blk w' H11 #[.int .i64 (tl : Int), .string PB] 76) L W6 := fun L hL => ⟨by have q := HB96.out.cell 1; simp at q; exact q, fun e => by rw [hL] at e; cases e⟩
            rw [hW6]
            clear hB95 hB115 HE5 hB76 hB96 hB116 hb6 hE6 hW6 d2 q2 e0 e1 f0 f1 l9 l11 hne hne2
            first | refine .inl ⟨HE6 _ (by kernel_rfl), ?_⟩ | refine ⟨HE6 _ (by kernel_rfl), ?_⟩
            refine wpAnyS_all (rs := [12]) (by kernel_rfl) (by simp) ?_
            intro ix hix
            simp only [List.mem_cons, List.not_mem_nil, or_false] at hix
            subst hix
            unfold wpOp
            go_simp
            first | refine .inl ⟨HE6 _ (by kernel_rfl), ?_⟩ | refine ⟨HE6 _ (by kernel_rfl), ?_⟩ | refine .inl ?_ | skip
            refine wpAnyS_done (by kernel_rfl) ?_ _
            clear HE4 HE6
            have k0 := HB116.out.cell 0
            have k1 := HB116.out.cell 1
            have k2 := HB76.out.cell 2
            simp at k0 k1 k2
            have l11 := HB116.out.lt
            have KG6 := KG W6 (HLA.out.below (Nat.le_refl _) HB6.out)
            have HK := Lib.hid (And.intro k0 (And.intro k1 (And.intro k2 l11)))
            clear KG hz6
            cases htn : turnS false T1 (oldX m.F name) with
            | none =>
              rw [htn] at KG6
              unfold turnV at KG6
              dsimp only at KG6
              have HE : P = (14, none) := by rw [← HP.out, HX.out, HI.out]; simp only [HKN.out, HTK.out, htn]
              subst HE
              clear htn KS HK
              go_wp2_with (first | (go_at_call 41; refine KG6.mono ?_; rintro e W7 ⟨rfl, hb7⟩; have hB7x := HB116.out.below hb7; have f0 := hB7x.frozen 0; have f1 := hB7x.frozen 1; have g0 := hB7x.cell 0; have g1 := hB7x.cell 1; simp at g0 g1; have l12 := hB7x.lt; have HB7 := Lib.hid hb7; clear hb7 hB7x k0 k1 k2 l11))
              go_ret
              have hbF := below_set (below_set (HB6.out.trans (HB7.out.mono HB6.out.size)) H11 0 (.int .i64 0) (by have := HORD.out; omega)) H11 1 (.string ⟨#[]⟩) (by have := HORD.out; omega)
              exact ⟨fun _ => ⟨rfl, hbF, HST.out.below hbF⟩, fun T2 f h => by cases h⟩
            | some T2 =>
              rw [htn] at KG6
              unfold turnV spv at KG6
              dsimp only at KG6
              have HE : P = (0, some (T2, ⟨name, i, data.length, l⟩)) := by rw [← HP.out, HX.out, HI.out]; simp only [HKN.out, HTK.out, htn]
              subst HE
              have HT2 := Lib.hid (turnS_len _ _ _ _ htn)
              obtain ⟨t2, ht2⟩ : ∃ q, T2.length = q := ⟨_, rfl⟩
              obtain ⟨PB2, hPB2⟩ : ∃ q, mk (packB T2) = q := ⟨_, rfl⟩
              rw [ht2, hPB2] at KG6
              have HT2L := Lib.hid (And.intro ht2 hPB2)
              clear htn HK ht2 hPB2
              go_upto_region 19 with (first | (go_at_call 41; refine KG6.mono ?_; rintro e W7 ⟨rfl, hb7⟩; have hB7x := HB116.out.below hb7; have f0 := hB7x.frozen 0; have f1 := hB7x.frozen 1; have g0 := hB7x.cell 0; have g1 := hB7x.cell 1; simp at g0 g1; have l12 := hB7x.lt; have HB7 := Lib.hid hb7; clear hb7 hB7x k0 k1 k2 l11))
              have hB118 := ((HB116.out.below HB7.out).set 0 (.int .i64 (t2 : Int))).set 1 (.string PB2)
              have hB98 : Blk ((W7.setCell ⟨H11, 0, none⟩ (.int .i64 (t2 : Int))).setCell ⟨H11, 1, none⟩ (.string PB2)) (H7 + 1) #[.int .i64 (i : Int), .int .i64 (dl : Int), .slice A2 ll c2] 69 := (HB96.out.below HB7.out).grown (grown_set2 W7 H11 0 1 _ _) (by have := HORD.out; simp; omega)
              have hb8 := below_set (below_set (HB6.out.trans (HB7.out.mono HB6.out.size)) H11 0 (.int .i64 (t2 : Int)) (by have := HORD.out; omega)) H11 1 (.string PB2) (by have := HORD.out; omega)
              obtain ⟨hL81, hL82⟩ := (HL6.out.1.below (Nat.le_refl _) HB7.out).grown (HL6.out.2.below HB7.out) (grown_set2 W7 H11 0 1 (.int .i64 (t2 : Int)) (.string PB2)) (fun g e => by cases e; exact ⟨_, 76, _, HB116.out.below HB7.out, by decide⟩)
              obtain ⟨W8, hW8⟩ : ∃ q, (W7.setCell ⟨H11, 0, none⟩ (.int .i64 (t2 : Int))).setCell ⟨H11, 1, none⟩ (.string PB2) = q := ⟨_, rfl⟩
              rw [hW8] at hB118 hB98 hb8 hL81 hL82 ⊢
              have HL8 := Lib.hid (And.intro hL81 hL82)
              have HB8 := Lib.hid hb8
              have HBX8 := Lib.hid (And.intro hB98 hB118)
              clear hW8 hB118 hB98 hb8 hL81 hL82 f0 f1 g0 g1 l12 KG6
              refine wp_region_held (S := fun w' => Blk w' (H7 + 1) #[.int .i64 (i : Int), .int .i64 (dl : Int), .slice A2 ll c2] 69 ∧ Blk w' H11 #[.int .i64 (t2 : Int), .string PB2] 76) mixed ?_
              change wpAnyH _ _ _ _ _ _ _ _ W8.drew
              have hS1 : Blk W8.drew (H7 + 1) #[.int .i64 (i : Int), .int .i64 (dl : Int), .slice A2 ll c2] 69 ∧ Blk W8.drew H11 #[.int .i64 (t2 : Int), .string PB2] 76 := HBX8.out
              have hbd : Below w.heap.size w W8.drew := HB8.out.drew
              have hLd : Lies W8.drew A2 (ecells l) ∧ Typed W8.drew A2 90 := HL8.out
              obtain ⟨WA, hWA⟩ : ∃ q, W8.drew = q := ⟨_, rfl⟩
              rw [hWA] at hS1 hbd hLd ⊢
              clear hWA
              have HBD := Lib.hid hbd
              have HLD := Lib.hid hLd
              have hst8 := HST.out.below hbd
              have x5 := hst8.blk.cell 5
              simp at x5
              have HST8 := Lib.hid hst8
              have KSA := KS WA x5 (by exact HLD.out.1)
              clear hbd hLd hst8 x5 KS
              refine wpAnyH_take (i := 0) (v := .pointer (some ⟨S, 0, none⟩)) rfl (by kernel_rfl) (by kernel_rfl) (by kernel_rfl) (fun c a w h => h) (.inl ⟨by kernel_rfl, fun w' hS => ?_⟩) hS1 ?_
              · clear hS; go_simp
              try go_simp
              refine wpAnyH_take (i := 1) (v := .string NM) rfl (by kernel_rfl) (by kernel_rfl) (by kernel_rfl) (fun c a w h => h) (.inl ⟨by kernel_rfl, fun w' hS => ?_⟩) hS1 ?_
              · clear hS; go_simp
              try go_simp
              refine wpAnyH_take (i := 2) (v := .agg #[.int .i64 (i : Int), .int .i64 (dl : Int), .slice A2 ll c2]) rfl (by kernel_rfl) (by kernel_rfl) (by kernel_rfl) (fun c a w h => h) (.inl ⟨by kernel_rfl, fun w' hS => ?_⟩) hS1 ?_
              · have q0 := hS.1.cell 0; have q1 := hS.1.cell 1; have q2 := hS.1.cell 2; simp at q0 q1 q2; go_simp
              try go_simp
              refine wpAnyH_take (i := 3) (v := .agg #[.int .i64 (t2 : Int), .string PB2]) rfl (by kernel_rfl) (by kernel_rfl) (by kernel_rfl) (fun c a w h => h) (.inl ⟨by kernel_rfl, fun w' hS => ?_⟩) hS1 ?_
              · have q0 := hS.2.cell 0; have q1 := hS.2.cell 1; simp at q0 q1; go_simp
              try go_simp
              refine wpAnyH_take (i := 4) (v := .pointer (some ⟨S, 0, none⟩)) rfl (by kernel_rfl) (by kernel_rfl) (by kernel_rfl) (fun c a w h => h) (.inl ⟨by kernel_rfl, fun w' hS => ?_⟩) hS1 ?_
              · clear hS; go_simp
              try go_simp
              refine wpAnyH_take (i := 5) (v := .pointer (some ⟨H7 + 1, 2, none⟩)) rfl (by kernel_rfl) (by kernel_rfl) (by kernel_rfl) (fun c a w h => h) (.inl ⟨by kernel_rfl, fun w' hS => ?_⟩) hS1 ?_
              · clear hS; go_simp
              try go_simp
              refine wpAnyH_take (i := 6) (v := .slice A2 ll c2) rfl (by kernel_rfl) (by kernel_rfl) (by kernel_rfl) (fun c a w h => h) (.inl ⟨by kernel_rfl, fun w' hS => ?_⟩) hS1 ?_
              · have q2 := hS.1.cell 2; simp at q2; go_simp
              try go_simp
              refine wpAnyH_take (i := 8) (v := .string DT) rfl (by kernel_rfl) (by kernel_rfl) (by kernel_rfl) (fun c a w h => h) (.inl ⟨by kernel_rfl, fun w' hS => ?_⟩) hS1 ?_
              · clear hS; go_simp
              try go_simp
              refine wpAnyH_all (rs := [7]) (by kernel_rfl) (by simp) ?_
              intro ix hix
              simp only [List.mem_cons, List.not_mem_nil, or_false] at hix
              subst hix
              unfold wpOp
              go_simp
              refine .inl ?_
              go_at_call 43
              refine KSA.mono ?_
              rintro e W9 ⟨⟨A3, c3, rfl, hrow⟩, hb9⟩
              have hS2 : Blk W9 (H7 + 1) #[.int .i64 (i : Int), .int .i64 (dl : Int), .slice A2 ll c2] 69 ∧ Blk W9 H11 #[.int .i64 (t2 : Int), .string PB2] 76 := ⟨hS1.1.below hb9, hS1.2.below hb9⟩
              refine ⟨hS2, ?_⟩
              try go_simp
              have HB9W := Lib.hid (HBD.out.trans (hb9.mono HBD.out.size))
              have HL9 := Lib.hid (And.intro (HLD.out.1.below (Nat.le_refl _) hb9) (HLD.out.2.below hb9))
              have hA3 : ∀ g, A3 = some g → WA.heap.size ≤ g.block := fun g hg => own_ge hrow g hg
              have KP := put_any' X S D Lg M m ⟨name, i, data.length, l⟩ A2 c2 T2 A3 c3 (secL (m.most + 7) l) data W9 (HST8.out.below hb9) HL9.out.1 HL9.out.2 (fun g hg hx => by have q1 := HL.out.2.2 g hg; have q2 := HSLT.out _ (List.mem_cons_of_mem _ (List.mem_cons_of_mem _ hx)); have q3 := HW0S.out; have q4 := HBW3.out.size; omega) (Lies.of_row hrow) (fun g hg hx => by have q1 := hA3 g hg; have q2 := HSLT.out _ (List.mem_cons_of_mem _ (List.mem_cons_of_mem _ hx)); have q4 := HBD.out.size; omega) (put_secs HBB.out HFACT.out.2.1) (by rw [secL_length, HFACT.out.2.2.2, ← HKN.out, HDL.out]; unfold needsN; omega) (by rw [HDL.out]; omega) (by rw [HT2.out, HFACT.out.2.2.1]) (by rw [HT2.out, HFACT.out.2.2.1]; exact HTL.out) HII.out HGL.out (by show data.length ≤ _; rw [HDL.out]; omega) (by have := HFACT.out.1; show l.length ≤ _; omega) (fun x hx => by have := (HFACT.out.2.1 x hx).2.1; have := HTL.out; omega) (bodyB_len _ _ _ HGL.out (by show data.length ≤ _; rw [HDL.out]; omega) HFACT.out.1 (fun x hx => by have := (HFACT.out.2.1 x hx).2.1; have := HTL.out; omega)) HBB.out.len HBB.out.mo (by have := HBB.out.ll; omega) (by have := HBB.out.sl; omega)
              unfold spv at KP
              dsimp only at KP
              have hll2 := HLL.out
              have ht2l := HT2L.out
              have hnm := HNM.out
              have hdt := HDT.out
              have hdl2 := HDL.out
              rw [hll2, ht2l.1, ht2l.2, hnm, hdt, hdl2] at KP
              clear hll2 ht2l hnm hdt hdl2 hrow hA3 KSA hb9 hS1
              refine wpAnyH_all (rs := [9]) (by kernel_rfl) (by simp) ?_
              intro ix hix
              simp only [List.mem_cons, List.not_mem_nil, or_false] at hix
              subst hix
              unfold wpOp
              go_simp
              refine .inl ?_
              go_at_call 42
              refine KP.mono ?_
              intro e W10 hp
              have HPP := Lib.hid hp
              obtain ⟨rfl, X1, hM, _⟩ := hp
              have hS3 : Blk W10 (H7 + 1) #[.int .i64 (i : Int), .int .i64 (dl : Int), .slice A2 ll c2] 69 ∧ Blk W10 H11 #[.int .i64 (t2 : Int), .string PB2] 76 := ⟨hM.blk hS2.1 (fun hx => by have := HSLT.out _ hx; have := HORD.out; omega), hM.blk hS2.2 (fun hx => by have := HSLT.out _ hx; have := HORD.out; omega)⟩
              refine ⟨hS3, ?_⟩
              try go_simp
              clear hS2 KP hM
              refine wpAnyH_all (rs := [10]) (by kernel_rfl) (by simp) ?_
              intro ix hix
              simp only [List.mem_cons, List.not_mem_nil, or_false] at hix
              subst hix
              unfold wpOp
              go_simp
              first | refine .inl ⟨hS3, ?_⟩ | refine ⟨hS3, ?_⟩ | refine .inl ?_ | skip
              refine wpAnyH_done (by kernel_rfl) ?_ _
              clear hS3
              go_wp2
              go_ret
              exact ⟨fun h => by (cases h), fun T2' f' h => by (cases h; have q := HPP.out.from HB9W.out; have hd := HDL.out; subst hd; exact q)⟩
      · have hsl : ∃ f, fileOf m.F name = some f ∧ a = f.entry := by
          rcases HCS.out with ⟨_, _, h3⟩ | ⟨f, h1, h2, _⟩
          · rw [HNN.out] at h3; cases h3
          · exact ⟨f, h1, h2⟩
        obtain ⟨f, hf, rfl⟩ := hsl
        have HI := Lib.hid (show slotW m name = some f.entry by unfold slotW; rw [hf])
        obtain ⟨i, hi⟩ : ∃ q, f.entry = q := ⟨_, rfl⟩
        rw [hi] at HI KF
        have HII := Lib.hid (show i < m.most by rw [← hi]; exact HBB.out.ent f (fileOf_mem hf))
        clear hf hi
        go_enter Tryz.func14, Tryz.ntmps14
        go_upto_if 34 with (first | (go_at_call 37; refine KF.mono ?_; rintro e w1 ⟨rfl, hb1⟩; have HB1 := Lib.hid hb1; clear hb1))
        have hB7 := (Blk.new w1 #[.int .i64 (i : Int), .int .i64 b, .slice A xl c] 69).alloc (.cells #[.int .i64 (i : Int), .int .i64 dl, .slice none 0 0] 69)
        have hB9 := Blk.new (w1.alloc (.cells #[.int .i64 (i : Int), .int .i64 b, .slice A xl c] 69)) #[.int .i64 (i : Int), .int .i64 dl, .slice none 0 0] 69
        have hbw := (HB1.out.alloc HB1.out.size (.cells #[.int .i64 (i : Int), .int .i64 b, .slice A xl c] 69)).alloc (by have := HB1.out.size; simp; omega) (.cells #[.int .i64 (i : Int), .int .i64 dl, .slice none 0 0] 69)
        rw [World.size_alloc] at hB9
        have hH7 := HB1.out.size
        obtain ⟨H7, hH⟩ : ∃ q, w1.heap.size = q := ⟨_, rfl⟩
        obtain ⟨W1, hW⟩ : ∃ q, (w1.alloc (.cells #[.int .i64 (i : Int), .int .i64 b, .slice A xl c] 69)).alloc (.cells #[.int .i64 (i : Int), .int .i64 dl, .slice none 0 0] 69) = q := ⟨_, rfl⟩
        rw [hH] at hB7 hB9 hH7
        simp only [hW] at hB7 hB9 hbw ⊢
        try simp only [hH]
        have hst1 := HST.out.below hbw
        have s2 := HX2.out W1 hst1
        have s3 := HX3.out W1 hst1
        have hS2 := hst1.blk.lt
        simp at s2 s3
        have HB7 := Lib.hid hB7
        have HB9 := Lib.hid hB9
        have HBW := Lib.hid hbw
        have HH7 := Lib.hid hH7
        have HWZ := Lib.hid (show W1.heap.size = H7 + 2 by rw [← hW, ← hH]; simp)
        clear hH hW hB7 hB9 hbw hst1 hH7
        go_upto_region 13 with (fail)
        have hB113 := Blk.new W1 #[.int .i64 (tl : Int), .string PB] 76
        have hB93 := HB9.out.alloc (.cells #[.int .i64 (tl : Int), .string PB] 76)
        have hB73 := HB7.out.alloc (.cells #[.int .i64 (tl : Int), .string PB] 76)
        have hbw3 := HBW.out.alloc HBW.out.size (.cells #[.int .i64 (tl : Int), .string PB] 76)
        have hlt11 : H7 + 2 ≤ W1.heap.size := by rw [HWZ.out]; omega
        obtain ⟨H11, hH11⟩ : ∃ q, W1.heap.size = q := ⟨_, rfl⟩
        rw [hH11] at hB113 hlt11
        obtain ⟨W3, hW3⟩ : ∃ q, W1.alloc (.cells #[.int .i64 (tl : Int), .string PB] 76) = q := ⟨_, rfl⟩
        simp only [hW3] at hB113 hB93 hB73 hbw3 ⊢
        try simp only [hH11]
        have HB73 := Lib.hid hB73
        have HB93 := Lib.hid hB93
        have HB113 := Lib.hid hB113
        have HST3 := Lib.hid (HST.out.below hbw3)
        have HBW3 := Lib.hid hbw3
        have HORD := Lib.hid (show w.heap.size ≤ H7 ∧ H7 + 2 ≤ H11 ∧ W3.heap.size = H11 + 1 from ⟨HH7.out, hlt11, by rw [← hW3, ← hH11]; simp⟩)
        clear hW3 hH11 hB113 hB93 hB73 hbw3 hlt11 s2 s3 hS2 KV KF
        have mixed : Tryz.prog.follows Departure.mixedOrders = true := by kernel_rfl
        refine wp_region_S 11 (fun w' => w'.cell? ⟨H7 + 1, 1, none⟩ = some (.int .i64 (dl : Int))) (fun w' => Blk w' H11 #[.int .i64 (tl : Int), .string PB] 76) mixed ?_
        change wpAnyS _ _ _ _ _ _ _ _ _ _ W3.drew
        have hB9 : Blk W3.drew (H7 + 1) #[.int .i64 (i : Int), .int .i64 (dl : Int), .slice none 0 0] 69 := HB93.out
        have hB11 : Blk W3.drew H11 #[.int .i64 (tl : Int), .string PB] 76 := HB113.out
        have hb0 : Below W3.heap.size W3 W3.drew := (Below.refl _ _).drew
        obtain ⟨W0, hW0⟩ : ∃ q, W3.drew = q := ⟨_, rfl⟩
        rw [hW0] at hB9 hB11 hb0 ⊢
        clear hW0
        have HE0 : ∀ L : Array Bool, HeldS 11 (fun w' => w'.cell? ⟨H7 + 1, 1, none⟩ = some (.int .i64 (dl : Int))) (fun w' => Blk w' H11 #[.int .i64 (tl : Int), .string PB] 76) L W0 := fun L => ⟨by have q := hB9.cell 1; simp at q; exact q, fun _ => hB11⟩
        refine wpAnyS_take2 (i := 0) (v := .agg #[.int .i64 (tl : Int), .string PB]) rfl (by decide) rfl (by kernel_rfl) (by kernel_rfl) (by kernel_rfl) (by kernel_rfl) (by kernel_rfl) (fun c a w h => h) (.inl ⟨by kernel_rfl, fun w' hS => ?_⟩) (HE0 _) ?_
        · have q0 := hS.2.cell 0; have q1 := hS.2.cell 1; simp at q0 q1; go_simp
        try go_simp
        refine wpAnyS_take (i := 1) (v := .pointer (some ⟨H7 + 1, 1, none⟩)) rfl (by decide) (by kernel_rfl) (by kernel_rfl) (by kernel_rfl) (fun c a w h => h) (.inl ⟨by kernel_rfl, fun w' hS => ?_⟩) (HE0 _) ?_
        · clear hS; go_simp
        try go_simp
        refine wpAnyS_take (i := 2) (v := .int .i64 (dl : Int)) rfl (by decide) (by kernel_rfl) (by kernel_rfl) (by kernel_rfl) (fun c a w h => h) (.inl ⟨by kernel_rfl, fun w' hS => ?_⟩) (HE0 _) ?_
        · have q0 := hS; go_simp
        try go_simp
        refine wpAnyS_all (rs := [3]) (by kernel_rfl) (by simp) ?_
        intro ix hix
        simp only [List.mem_cons, List.not_mem_nil, or_false] at hix
        subst hix
        unfold wpOp
        go_simp
        refine .inl ?_
        go_at_call 40
        refine (KN W0).mono ?_
        rintro e w' ⟨rfl, hw⟩
        obtain rfl := hw.symm
        refine ⟨HE0 _, ?_⟩
        try go_simp
        refine wpAnyS_all (rs := [4]) (by kernel_rfl) (by simp) ?_
        intro ix hix
        simp only [List.mem_cons, List.not_mem_nil, or_false] at hix
        subst hix
        unfold wpOp
        go_simp
        refine .inl ?_
        go_at_call 39
        refine (KT W0).mono ?_
        rintro e W4 ⟨ht1, ht2, hb4⟩
        have hB94 := hB9.below hb4
        have hB114 := hB11.below hb4
        have HE4 : ∀ L : Array Bool, HeldS 11 (fun w' => w'.cell? ⟨H7 + 1, 1, none⟩ = some (.int .i64 (dl : Int))) (fun w' => Blk w' H11 #[.int .i64 (tl : Int), .string PB] 76) L W4 := fun L => ⟨by have q := hB94.cell 1; simp at q; exact q, fun _ => hB114⟩
        have HB94 := Lib.hid hB94
        have HB114 := Lib.hid hB114
        have HB34 := Lib.hid (hb0.trans (hb4.mono hb0.size))
        have HW0S := Lib.hid hb0.size
        cases htk : takeS m.T kn 64 with
        | none =>
          obtain rfl := ht2 htk
          refine ⟨HE4 _, ?_⟩
          try go_simp
          clear HE0 hB9 hB11 hb0 hb4 hB94 hB114
          refine wpAnyS_take (i := 5) (v := .tuple #[.slice none 0 0, .agg #[.int .i64 0, .string ⟨#[]⟩], .int .i64 8]) rfl (by decide) (by kernel_rfl) (by kernel_rfl) (by kernel_rfl) (fun c a w h => h) (.inl ⟨by kernel_rfl, fun w' hS => ?_⟩) (HE4 _) ?_
          · clear hS; go_simp
          try go_simp
          refine wpAnyS_take (i := 6) (v := .slice none 0 0) rfl (by decide) (by kernel_rfl) (by kernel_rfl) (by kernel_rfl) (fun c a w h => h) (.inl ⟨by kernel_rfl, fun w' hS => ?_⟩) (HE4 _) ?_
          · clear hS; go_simp
          try go_simp
          refine wpAnyS_take (i := 7) (v := .agg #[.int .i64 0, .string ⟨#[]⟩]) rfl (by decide) (by kernel_rfl) (by kernel_rfl) (by kernel_rfl) (fun c a w h => h) (.inl ⟨by kernel_rfl, fun w' hS => ?_⟩) (HE4 _) ?_
          · clear hS; go_simp
          try go_simp
          refine wpAnyS_take (i := 8) (v := .int .i64 8) rfl (by decide) (by kernel_rfl) (by kernel_rfl) (by kernel_rfl) (fun c a w h => h) (.inl ⟨by kernel_rfl, fun w' hS => ?_⟩) (HE4 _) ?_
          · clear hS; go_simp
          try go_simp
          refine wpAnyS_take (i := 9) (v := .pointer (some ⟨H7 + 1, 2, none⟩)) rfl (by decide) (by kernel_rfl) (by kernel_rfl) (by kernel_rfl) (fun c a w h => h) (.inl ⟨by kernel_rfl, fun w' hS => ?_⟩) (HE4 _) ?_
          · clear hS; go_simp
          try go_simp
          have d2 := HB94.out.cell 2
          have q2 := HB94.out.frozen 2
          have e0 := HB114.out.cell 0
          have e1 := HB114.out.cell 1
          have f0 := HB114.out.frozen 0
          have f1 := HB114.out.frozen 1
          simp at d2 e0 e1
          have l9 := HB94.out.lt
          have l11 := HB114.out.lt
          have hne : H7 + 1 ≠ H11 := by have := HORD.out; omega
          have hne2 : H11 ≠ H7 + 1 := Ne.symm hne
          refine wpAnyS_all (rs := [10]) (by kernel_rfl) (by simp) ?_
          intro ix hix
          simp only [List.mem_cons, List.not_mem_nil, or_false] at hix
          subst hix
          unfold wpOp
          go_simp
          have hB95 := HB94.out.set 2 (.slice none 0 0)
          have hB115 : Blk (W4.setCell ⟨H7 + 1, 2, none⟩ (.slice none 0 0)) H11 #[.int .i64 (tl : Int), .string PB] 76 := (Below.heap_setCell _ _ _ _ (by simp only; omega)).trans HB114.out
          have HE5 : ∀ L : Array Bool, HeldS 11 (fun w' => w'.cell? ⟨H7 + 1, 1, none⟩ = some (.int .i64 (dl : Int))) (fun w' => Blk w' H11 #[.int .i64 (tl : Int), .string PB] 76) L (W4.setCell ⟨H7 + 1, 2, none⟩ (.slice none 0 0)) := fun L => ⟨by have q := hB95.cell 1; simp at q; exact q, fun _ => hB115⟩
          first | refine .inl ⟨HE5 _, ?_⟩ | refine ⟨HE5 _, ?_⟩
          refine wpAnyS_all (rs := [11]) (by kernel_rfl) (by simp) ?_
          intro ix hix
          simp only [List.mem_cons, List.not_mem_nil, or_false] at hix
          subst hix
          unfold wpOp
          go_simp
          have hB96 : Blk (((W4.setCell ⟨H7 + 1, 2, none⟩ (.slice none 0 0)).setCell ⟨H11, 0, none⟩ (.int .i64 0)).setCell ⟨H11, 1, none⟩ (.string ⟨#[]⟩)) (H7 + 1) #[.int .i64 (i : Int), .int .i64 (dl : Int), .slice none 0 0] 69 := (Below.heap_setCell _ _ _ _ (by simp only; omega)).trans ((Below.heap_setCell _ _ _ _ (by simp only; omega)).trans hB95)
          have hB116 := (hB115.set 0 (.int .i64 0)).set 1 (.string ⟨#[]⟩)
          have hb6 := below_set (below_set (below_set (HBW3.out.trans (HB34.out.mono HBW3.out.size)) (H7 + 1) 2 (.slice none 0 0) (by have := HORD.out; omega)) H11 0 (.int .i64 0) (by have := HORD.out; omega)) H11 1 (.string ⟨#[]⟩) (by have := HORD.out; omega)
          have hB76 := ((HB73.out.below HB34.out).grown (grown_set W4 (H7 + 1) 2 (.slice none 0 0)) (by simp)).grown (grown_set2 (W4.setCell ⟨H7 + 1, 2, none⟩ (.slice none 0 0)) H11 0 1 (.int .i64 0) (.string ⟨#[]⟩)) (by have := HORD.out; simp; omega)
          have HB96 := Lib.hid hB96
          have HB76 := Lib.hid hB76
          have HB116 := Lib.hid hB116
          have HB6 := Lib.hid hb6
          have hz6 := hb6.size
          have hE6 := hB96.cell 1
          simp at hE6
          obtain ⟨W6, hW6⟩ : ∃ q, ((W4.setCell ⟨H7 + 1, 2, none⟩ (.slice none 0 0)).setCell ⟨H11, 0, none⟩ (.int .i64 0)).setCell ⟨H11, 1, none⟩ (.string ⟨#[]⟩) = q := ⟨_, rfl⟩
          rw [hW6] at HB96 HB76 HB116 HB6 hz6
          try simp only [hW6] at hE6
          have HE6 : ∀ L : Array Bool, L.getD 11 false = true → HeldS 11 (fun w' => w'.cell? ⟨H7 + 1, 1, none⟩ = some (.int .i64 (dl : Int))) (fun w' => Blk w' H11 #[.int .i64 (tl : Int), .string PB] 76) L W6 := fun L hL => ⟨by have q := HB96.out.cell 1; simp at q; exact q, fun e => by rw [hL] at e; cases e⟩
          rw [hW6]
          clear hB95 hB115 HE5 hB76 hB96 hB116 hb6 hE6 hW6 d2 q2 e0 e1 f0 f1 l9 l11 hne hne2
          first | refine .inl ⟨HE6 _ (by kernel_rfl), ?_⟩ | refine ⟨HE6 _ (by kernel_rfl), ?_⟩
          refine wpAnyS_all (rs := [12]) (by kernel_rfl) (by simp) ?_
          intro ix hix
          simp only [List.mem_cons, List.not_mem_nil, or_false] at hix
          subst hix
          unfold wpOp
          go_simp
          first | refine .inl ⟨HE6 _ (by kernel_rfl), ?_⟩ | refine ⟨HE6 _ (by kernel_rfl), ?_⟩ | refine .inl ?_ | skip
          refine wpAnyS_done (by kernel_rfl) ?_ _
          clear HE4 HE6
          have HE : P = (8, none) := by rw [← HP.out, HX.out, HI.out]; simp only [HKN.out, htk]
          subst HE
          clear KT KN htk ht1 ht2 hz6
          go_wp2
          go_ret
          exact ⟨fun _ => ⟨rfl, HB6.out, HST.out.below HB6.out⟩, fun T2 f h => by cases h⟩
        | some p =>
          obtain ⟨l, T1⟩ := p
          obtain ⟨hl1, hl2, hl3, hl4, hl5, _⟩ := takeS_facts htk
          obtain ⟨A2, c2, rfl, hrow⟩ := ht1 l T1 htk
          have KG := fun (w5 : World) (hL : Lies w5 A (ecells (oldX m.F name))) => give_any T1 (oldX m.F name) A c w5 (by rw [hl4]; exact HTL.out) hL (oldX_small HBB.out name).2 (by have := (oldX_small HBB.out name).1; omega)
          rw [HXL.out] at KG
          have KS := fun (w5 : World) hS hA => sectors_any S m.most A2 c2 l w5 hS (by have := HBB.out.mo; omega) hA (by omega) (fun x hx => by have := (hl3 x hx).2.1; have := HTL.out; omega) (by rw [secL_length, hl5, ← HKN.out, HDL.out]; unfold needsN; omega)
          have hLA2 := Lies.of_row hrow
          have hTA2 := Typed.of_row hrow
          have hA2X : ∀ g, A2 = some g → W0.heap.size ≤ g.block := fun g hg => own_ge hrow g hg
          have HL := Lib.hid (And.intro hLA2 (And.intro hTA2 hA2X))
          have HFACT := Lib.hid (And.intro hl1 (And.intro hl3 (And.intro hl4 hl5)))
          have HTK := Lib.hid htk
          unfold spv at KG
          obtain ⟨t1, ht1l⟩ : ∃ q, T1.length = q := ⟨_, rfl⟩
          obtain ⟨PB1, hPB1⟩ : ∃ q, mk (packB T1) = q := ⟨_, rfl⟩
          obtain ⟨ll, hll⟩ : ∃ q, l.length = q := ⟨_, rfl⟩
          rw [ht1l, hPB1] at KG ⊢
          rw [hll] at KS ⊢
          have HLL := Lib.hid hll
          have HT1L := Lib.hid (And.intro ht1l hPB1)
          clear ht1 ht2 htk hl1 hl2 hl3 hl4 hl5 hrow hLA2 hTA2 hA2X ht1l hPB1 hll KT KN
          refine ⟨HE4 _, ?_⟩
          try go_simp
          clear HE0 hB9 hB11 hb0 hb4 hB94 hB114
          refine wpAnyS_take (i := 5) (v := .tuple #[.slice A2 ll c2, .agg #[.int .i64 (t1 : Int), .string PB1], .int .i64 0]) rfl (by decide) (by kernel_rfl) (by kernel_rfl) (by kernel_rfl) (fun c a w h => h) (.inl ⟨by kernel_rfl, fun w' hS => ?_⟩) (HE4 _) ?_
          · clear hS; go_simp
          try go_simp
          refine wpAnyS_take (i := 6) (v := .slice A2 ll c2) rfl (by decide) (by kernel_rfl) (by kernel_rfl) (by kernel_rfl) (fun c a w h => h) (.inl ⟨by kernel_rfl, fun w' hS => ?_⟩) (HE4 _) ?_
          · clear hS; go_simp
          try go_simp
          refine wpAnyS_take (i := 7) (v := .agg #[.int .i64 (t1 : Int), .string PB1]) rfl (by decide) (by kernel_rfl) (by kernel_rfl) (by kernel_rfl) (fun c a w h => h) (.inl ⟨by kernel_rfl, fun w' hS => ?_⟩) (HE4 _) ?_
          · clear hS; go_simp
          try go_simp
          refine wpAnyS_take (i := 8) (v := .int .i64 0) rfl (by decide) (by kernel_rfl) (by kernel_rfl) (by kernel_rfl) (fun c a w h => h) (.inl ⟨by kernel_rfl, fun w' hS => ?_⟩) (HE4 _) ?_
          · clear hS; go_simp
          try go_simp
          refine wpAnyS_take (i := 9) (v := .pointer (some ⟨H7 + 1, 2, none⟩)) rfl (by decide) (by kernel_rfl) (by kernel_rfl) (by kernel_rfl) (fun c a w h => h) (.inl ⟨by kernel_rfl, fun w' hS => ?_⟩) (HE4 _) ?_
          · clear hS; go_simp
          try go_simp
          have d2 := HB94.out.cell 2
          have q2 := HB94.out.frozen 2
          have e0 := HB114.out.cell 0
          have e1 := HB114.out.cell 1
          have f0 := HB114.out.frozen 0
          have f1 := HB114.out.frozen 1
          simp at d2 e0 e1
          have l9 := HB94.out.lt
          have l11 := HB114.out.lt
          have hne : H7 + 1 ≠ H11 := by have := HORD.out; omega
          have hne2 : H11 ≠ H7 + 1 := Ne.symm hne
          refine wpAnyS_all (rs := [10]) (by kernel_rfl) (by simp) ?_
          intro ix hix
          simp only [List.mem_cons, List.not_mem_nil, or_false] at hix
          subst hix
          unfold wpOp
          go_simp
          have hB95 := HB94.out.set 2 (.slice A2 ll c2)
          have hB115 : Blk (W4.setCell ⟨H7 + 1, 2, none⟩ (.slice A2 ll c2)) H11 #[.int .i64 (tl : Int), .string PB] 76 := (Below.heap_setCell _ _ _ _ (by simp only; omega)).trans HB114.out
          have HE5 : ∀ L : Array Bool, HeldS 11 (fun w' => w'.cell? ⟨H7 + 1, 1, none⟩ = some (.int .i64 (dl : Int))) (fun w' => Blk w' H11 #[.int .i64 (tl : Int), .string PB] 76) L (W4.setCell ⟨H7 + 1, 2, none⟩ (.slice A2 ll c2)) := fun L => ⟨by have q := hB95.cell 1; simp at q; exact q, fun _ => hB115⟩
          first | refine .inl ⟨HE5 _, ?_⟩ | refine ⟨HE5 _, ?_⟩
          refine wpAnyS_all (rs := [11]) (by kernel_rfl) (by simp) ?_
          intro ix hix
          simp only [List.mem_cons, List.not_mem_nil, or_false] at hix
          subst hix
          unfold wpOp
          go_simp
          have hB96 : Blk (((W4.setCell ⟨H7 + 1, 2, none⟩ (.slice A2 ll c2)).setCell ⟨H11, 0, none⟩ (.int .i64 (t1 : Int))).setCell ⟨H11, 1, none⟩ (.string PB1)) (H7 + 1) #[.int .i64 (i : Int), .int .i64 (dl : Int), .slice A2 ll c2] 69 := (Below.heap_setCell _ _ _ _ (by simp only; omega)).trans ((Below.heap_setCell _ _ _ _ (by simp only; omega)).trans hB95)
          have hB116 := (hB115.set 0 (.int .i64 (t1 : Int))).set 1 (.string PB1)
          have hb6 := below_set (below_set (below_set (HBW3.out.trans (HB34.out.mono HBW3.out.size)) (H7 + 1) 2 (.slice A2 ll c2) (by have := HORD.out; omega)) H11 0 (.int .i64 (t1 : Int)) (by have := HORD.out; omega)) H11 1 (.string PB1) (by have := HORD.out; omega)
          have hB76 := ((HB73.out.below HB34.out).grown (grown_set W4 (H7 + 1) 2 (.slice A2 ll c2)) (by simp)).grown (grown_set2 (W4.setCell ⟨H7 + 1, 2, none⟩ (.slice A2 ll c2)) H11 0 1 (.int .i64 (t1 : Int)) (.string PB1)) (by have := HORD.out; simp; omega)
          have HB96 := Lib.hid hB96
          have HB76 := Lib.hid hB76
          have HB116 := Lib.hid hB116
          have HB6 := Lib.hid hb6
          have hz6 := hb6.size
          have hE6 := hB96.cell 1
          simp at hE6
          have hL4 := HL.out
          obtain ⟨hL51, hL52⟩ := hL4.1.grown hL4.2.1 (grown_set W4 (H7 + 1) 2 (.slice A2 ll c2)) (fun g e => by cases e; exact ⟨_, 69, _, HB94.out, by decide⟩)
          obtain ⟨hL61, hL62⟩ := hL51.grown hL52 (grown_set2 (W4.setCell ⟨H7 + 1, 2, none⟩ (.slice A2 ll c2)) H11 0 1 (.int .i64 (t1 : Int)) (.string PB1)) (fun g e => by cases e; exact ⟨_, 76, _, hB115, by decide⟩)
          have HL6 := Lib.hid (show Lies (((W4.setCell ⟨H7 + 1, 2, none⟩ (.slice A2 ll c2)).setCell ⟨H11, 0, none⟩ (.int .i64 (t1 : Int))).setCell ⟨H11, 1, none⟩ (.string PB1)) A2 (ecells l) ∧ Typed (((W4.setCell ⟨H7 + 1, 2, none⟩ (.slice A2 ll c2)).setCell ⟨H11, 0, none⟩ (.int .i64 (t1 : Int))).setCell ⟨H11, 1, none⟩ (.string PB1)) A2 90 from ⟨hL61, hL62⟩)
          clear hL4 hL51 hL52 hL61 hL62
          obtain ⟨W6, hW6⟩ : ∃ q, ((W4.setCell ⟨H7 + 1, 2, none⟩ (.slice A2 ll c2)).setCell ⟨H11, 0, none⟩ (.int .i64 (t1 : Int))).setCell ⟨H11, 1, none⟩ (.string PB1) = q := ⟨_, rfl⟩
          rw [hW6] at HL6
          rw [hW6] at HB96 HB76 HB116 HB6 hz6
          try simp only [hW6] at hE6
          have HE6 : ∀ L : Array Bool, L.getD 11 false = true → HeldS 11 (fun w' => w'.cell? ⟨H7 + 1, 1, none⟩ = some (.int .i64 (dl : Int))) (fun w' => Blk w' H11 #[.int .i64 (tl : Int), .string PB] 76) L W6 := fun L hL => ⟨by have q := HB96.out.cell 1; simp at q; exact q, fun e => by rw [hL] at e; cases e⟩
          rw [hW6]
          clear hB95 hB115 HE5 hB76 hB96 hB116 hb6 hE6 hW6 d2 q2 e0 e1 f0 f1 l9 l11 hne hne2
          first | refine .inl ⟨HE6 _ (by kernel_rfl), ?_⟩ | refine ⟨HE6 _ (by kernel_rfl), ?_⟩
          refine wpAnyS_all (rs := [12]) (by kernel_rfl) (by simp) ?_
          intro ix hix
          simp only [List.mem_cons, List.not_mem_nil, or_false] at hix
          subst hix
          unfold wpOp
          go_simp
          first | refine .inl ⟨HE6 _ (by kernel_rfl), ?_⟩ | refine ⟨HE6 _ (by kernel_rfl), ?_⟩ | refine .inl ?_ | skip
          refine wpAnyS_done (by kernel_rfl) ?_ _
          clear HE4 HE6
          have k0 := HB116.out.cell 0
          have k1 := HB116.out.cell 1
          have k2 := HB76.out.cell 2
          simp at k0 k1 k2
          have l11 := HB116.out.lt
          have KG6 := KG W6 (HLA.out.below (Nat.le_refl _) HB6.out)
          have HK := Lib.hid (And.intro k0 (And.intro k1 (And.intro k2 l11)))
          clear KG hz6
          cases htn : turnS false T1 (oldX m.F name) with
          | none =>
            rw [htn] at KG6
            unfold turnV at KG6
            dsimp only at KG6
            have HE : P = (14, none) := by rw [← HP.out, HX.out, HI.out]; simp only [HKN.out, HTK.out, htn]
            subst HE
            clear htn KS HK
            go_wp2_with (first | (go_at_call 41; refine KG6.mono ?_; rintro e W7 ⟨rfl, hb7⟩; have hB7x := HB116.out.below hb7; have f0 := hB7x.frozen 0; have f1 := hB7x.frozen 1; have g0 := hB7x.cell 0; have g1 := hB7x.cell 1; simp at g0 g1; have l12 := hB7x.lt; have HB7 := Lib.hid hb7; clear hb7 hB7x k0 k1 k2 l11))
            go_ret
            have hbF := below_set (below_set (HB6.out.trans (HB7.out.mono HB6.out.size)) H11 0 (.int .i64 0) (by have := HORD.out; omega)) H11 1 (.string ⟨#[]⟩) (by have := HORD.out; omega)
            exact ⟨fun _ => ⟨rfl, hbF, HST.out.below hbF⟩, fun T2 f h => by cases h⟩
          | some T2 =>
            rw [htn] at KG6
            unfold turnV spv at KG6
            dsimp only at KG6
            have HE : P = (0, some (T2, ⟨name, i, data.length, l⟩)) := by rw [← HP.out, HX.out, HI.out]; simp only [HKN.out, HTK.out, htn]
            subst HE
            have HT2 := Lib.hid (turnS_len _ _ _ _ htn)
            obtain ⟨t2, ht2⟩ : ∃ q, T2.length = q := ⟨_, rfl⟩
            obtain ⟨PB2, hPB2⟩ : ∃ q, mk (packB T2) = q := ⟨_, rfl⟩
            rw [ht2, hPB2] at KG6
            have HT2L := Lib.hid (And.intro ht2 hPB2)
            clear htn HK ht2 hPB2
            go_upto_region 19 with (first | (go_at_call 41; refine KG6.mono ?_; rintro e W7 ⟨rfl, hb7⟩; have hB7x := HB116.out.below hb7; have f0 := hB7x.frozen 0; have f1 := hB7x.frozen 1; have g0 := hB7x.cell 0; have g1 := hB7x.cell 1; simp at g0 g1; have l12 := hB7x.lt; have HB7 := Lib.hid hb7; clear hb7 hB7x k0 k1 k2 l11))
            have hB118 := ((HB116.out.below HB7.out).set 0 (.int .i64 (t2 : Int))).set 1 (.string PB2)
            have hB98 : Blk ((W7.setCell ⟨H11, 0, none⟩ (.int .i64 (t2 : Int))).setCell ⟨H11, 1, none⟩ (.string PB2)) (H7 + 1) #[.int .i64 (i : Int), .int .i64 (dl : Int), .slice A2 ll c2] 69 := (HB96.out.below HB7.out).grown (grown_set2 W7 H11 0 1 _ _) (by have := HORD.out; simp; omega)
            have hb8 := below_set (below_set (HB6.out.trans (HB7.out.mono HB6.out.size)) H11 0 (.int .i64 (t2 : Int)) (by have := HORD.out; omega)) H11 1 (.string PB2) (by have := HORD.out; omega)
            obtain ⟨hL81, hL82⟩ := (HL6.out.1.below (Nat.le_refl _) HB7.out).grown (HL6.out.2.below HB7.out) (grown_set2 W7 H11 0 1 (.int .i64 (t2 : Int)) (.string PB2)) (fun g e => by cases e; exact ⟨_, 76, _, HB116.out.below HB7.out, by decide⟩)
            obtain ⟨W8, hW8⟩ : ∃ q, (W7.setCell ⟨H11, 0, none⟩ (.int .i64 (t2 : Int))).setCell ⟨H11, 1, none⟩ (.string PB2) = q := ⟨_, rfl⟩
            rw [hW8] at hB118 hB98 hb8 hL81 hL82 ⊢
            have HL8 := Lib.hid (And.intro hL81 hL82)
            have HB8 := Lib.hid hb8
            have HBX8 := Lib.hid (And.intro hB98 hB118)
            clear hW8 hB118 hB98 hb8 hL81 hL82 f0 f1 g0 g1 l12 KG6
            refine wp_region_held (S := fun w' => Blk w' (H7 + 1) #[.int .i64 (i : Int), .int .i64 (dl : Int), .slice A2 ll c2] 69 ∧ Blk w' H11 #[.int .i64 (t2 : Int), .string PB2] 76) mixed ?_
            change wpAnyH _ _ _ _ _ _ _ _ W8.drew
            have hS1 : Blk W8.drew (H7 + 1) #[.int .i64 (i : Int), .int .i64 (dl : Int), .slice A2 ll c2] 69 ∧ Blk W8.drew H11 #[.int .i64 (t2 : Int), .string PB2] 76 := HBX8.out
            have hbd : Below w.heap.size w W8.drew := HB8.out.drew
            have hLd : Lies W8.drew A2 (ecells l) ∧ Typed W8.drew A2 90 := HL8.out
            obtain ⟨WA, hWA⟩ : ∃ q, W8.drew = q := ⟨_, rfl⟩
            rw [hWA] at hS1 hbd hLd ⊢
            clear hWA
            have HBD := Lib.hid hbd
            have HLD := Lib.hid hLd
            have hst8 := HST.out.below hbd
            have x5 := hst8.blk.cell 5
            simp at x5
            have HST8 := Lib.hid hst8
            have KSA := KS WA x5 (by exact HLD.out.1)
            clear hbd hLd hst8 x5 KS
            refine wpAnyH_take (i := 0) (v := .pointer (some ⟨S, 0, none⟩)) rfl (by kernel_rfl) (by kernel_rfl) (by kernel_rfl) (fun c a w h => h) (.inl ⟨by kernel_rfl, fun w' hS => ?_⟩) hS1 ?_
            · clear hS; go_simp
            try go_simp
            refine wpAnyH_take (i := 1) (v := .string NM) rfl (by kernel_rfl) (by kernel_rfl) (by kernel_rfl) (fun c a w h => h) (.inl ⟨by kernel_rfl, fun w' hS => ?_⟩) hS1 ?_
            · clear hS; go_simp
            try go_simp
            refine wpAnyH_take (i := 2) (v := .agg #[.int .i64 (i : Int), .int .i64 (dl : Int), .slice A2 ll c2]) rfl (by kernel_rfl) (by kernel_rfl) (by kernel_rfl) (fun c a w h => h) (.inl ⟨by kernel_rfl, fun w' hS => ?_⟩) hS1 ?_
            · have q0 := hS.1.cell 0; have q1 := hS.1.cell 1; have q2 := hS.1.cell 2; simp at q0 q1 q2; go_simp
            try go_simp
            refine wpAnyH_take (i := 3) (v := .agg #[.int .i64 (t2 : Int), .string PB2]) rfl (by kernel_rfl) (by kernel_rfl) (by kernel_rfl) (fun c a w h => h) (.inl ⟨by kernel_rfl, fun w' hS => ?_⟩) hS1 ?_
            · have q0 := hS.2.cell 0; have q1 := hS.2.cell 1; simp at q0 q1; go_simp
            try go_simp
            refine wpAnyH_take (i := 4) (v := .pointer (some ⟨S, 0, none⟩)) rfl (by kernel_rfl) (by kernel_rfl) (by kernel_rfl) (fun c a w h => h) (.inl ⟨by kernel_rfl, fun w' hS => ?_⟩) hS1 ?_
            · clear hS; go_simp
            try go_simp
            refine wpAnyH_take (i := 5) (v := .pointer (some ⟨H7 + 1, 2, none⟩)) rfl (by kernel_rfl) (by kernel_rfl) (by kernel_rfl) (fun c a w h => h) (.inl ⟨by kernel_rfl, fun w' hS => ?_⟩) hS1 ?_
            · clear hS; go_simp
            try go_simp
            refine wpAnyH_take (i := 6) (v := .slice A2 ll c2) rfl (by kernel_rfl) (by kernel_rfl) (by kernel_rfl) (fun c a w h => h) (.inl ⟨by kernel_rfl, fun w' hS => ?_⟩) hS1 ?_
            · have q2 := hS.1.cell 2; simp at q2; go_simp
            try go_simp
            refine wpAnyH_take (i := 8) (v := .string DT) rfl (by kernel_rfl) (by kernel_rfl) (by kernel_rfl) (fun c a w h => h) (.inl ⟨by kernel_rfl, fun w' hS => ?_⟩) hS1 ?_
            · clear hS; go_simp
            try go_simp
            refine wpAnyH_all (rs := [7]) (by kernel_rfl) (by simp) ?_
            intro ix hix
            simp only [List.mem_cons, List.not_mem_nil, or_false] at hix
            subst hix
            unfold wpOp
            go_simp
            refine .inl ?_
            go_at_call 43
            refine KSA.mono ?_
            rintro e W9 ⟨⟨A3, c3, rfl, hrow⟩, hb9⟩
            have hS2 : Blk W9 (H7 + 1) #[.int .i64 (i : Int), .int .i64 (dl : Int), .slice A2 ll c2] 69 ∧ Blk W9 H11 #[.int .i64 (t2 : Int), .string PB2] 76 := ⟨hS1.1.below hb9, hS1.2.below hb9⟩
            refine ⟨hS2, ?_⟩
            try go_simp
            have HB9W := Lib.hid (HBD.out.trans (hb9.mono HBD.out.size))
            have HL9 := Lib.hid (And.intro (HLD.out.1.below (Nat.le_refl _) hb9) (HLD.out.2.below hb9))
            have hA3 : ∀ g, A3 = some g → WA.heap.size ≤ g.block := fun g hg => own_ge hrow g hg
            have KP := put_any' X S D Lg M m ⟨name, i, data.length, l⟩ A2 c2 T2 A3 c3 (secL (m.most + 7) l) data W9 (HST8.out.below hb9) HL9.out.1 HL9.out.2 (fun g hg hx => by have q1 := HL.out.2.2 g hg; have q2 := HSLT.out _ (List.mem_cons_of_mem _ (List.mem_cons_of_mem _ hx)); have q3 := HW0S.out; have q4 := HBW3.out.size; omega) (Lies.of_row hrow) (fun g hg hx => by have q1 := hA3 g hg; have q2 := HSLT.out _ (List.mem_cons_of_mem _ (List.mem_cons_of_mem _ hx)); have q4 := HBD.out.size; omega) (put_secs HBB.out HFACT.out.2.1) (by rw [secL_length, HFACT.out.2.2.2, ← HKN.out, HDL.out]; unfold needsN; omega) (by rw [HDL.out]; omega) (by rw [HT2.out, HFACT.out.2.2.1]) (by rw [HT2.out, HFACT.out.2.2.1]; exact HTL.out) HII.out HGL.out (by show data.length ≤ _; rw [HDL.out]; omega) (by have := HFACT.out.1; show l.length ≤ _; omega) (fun x hx => by have := (HFACT.out.2.1 x hx).2.1; have := HTL.out; omega) (bodyB_len _ _ _ HGL.out (by show data.length ≤ _; rw [HDL.out]; omega) HFACT.out.1 (fun x hx => by have := (HFACT.out.2.1 x hx).2.1; have := HTL.out; omega)) HBB.out.len HBB.out.mo (by have := HBB.out.ll; omega) (by have := HBB.out.sl; omega)
            unfold spv at KP
            dsimp only at KP
            have hll2 := HLL.out
            have ht2l := HT2L.out
            have hnm := HNM.out
            have hdt := HDT.out
            have hdl2 := HDL.out
            rw [hll2, ht2l.1, ht2l.2, hnm, hdt, hdl2] at KP
            clear hll2 ht2l hnm hdt hdl2 hrow hA3 KSA hb9 hS1
            refine wpAnyH_all (rs := [9]) (by kernel_rfl) (by simp) ?_
            intro ix hix
            simp only [List.mem_cons, List.not_mem_nil, or_false] at hix
            subst hix
            unfold wpOp
            go_simp
            refine .inl ?_
            go_at_call 42
            refine KP.mono ?_
            intro e W10 hp
            have HPP := Lib.hid hp
            obtain ⟨rfl, X1, hM, _⟩ := hp
            have hS3 : Blk W10 (H7 + 1) #[.int .i64 (i : Int), .int .i64 (dl : Int), .slice A2 ll c2] 69 ∧ Blk W10 H11 #[.int .i64 (t2 : Int), .string PB2] 76 := ⟨hM.blk hS2.1 (fun hx => by have := HSLT.out _ hx; have := HORD.out; omega), hM.blk hS2.2 (fun hx => by have := HSLT.out _ hx; have := HORD.out; omega)⟩
            refine ⟨hS3, ?_⟩
            try go_simp
            clear hS2 KP hM
            refine wpAnyH_all (rs := [10]) (by kernel_rfl) (by simp) ?_
            intro ix hix
            simp only [List.mem_cons, List.not_mem_nil, or_false] at hix
            subst hix
            unfold wpOp
            go_simp
            first | refine .inl ⟨hS3, ?_⟩ | refine ⟨hS3, ?_⟩ | refine .inl ?_ | skip
            refine wpAnyH_done (by kernel_rfl) ?_ _
            clear hS3
            go_wp2
            go_ret
            exact ⟨fun h => by (cases h), fun T2' f' h => by (cases h; have q := HPP.out.from HB9W.out; have hd := HDL.out; subst hd; exact q)⟩
end Go.Proofs.YtcmcdddnckcpcaaGreatDoor
