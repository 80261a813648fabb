/- stemmalaw16.NamesTurned, walked. -/
import Derived.Test.YtlkfnhcnfjdgbaaDoorAu
import Derived.Test.YtlkfnhcnfjdgbaaDoorSk
namespace Go.Proofs.YtlkfnhcnfjdgbaaDoor
open Go.RowKit Go.Maps Go.WideMaps
theorem main_mk : mk mainB = ⟨#[104, 101, 97, 100, 115, 47, 109, 97, 105, 110]⟩ := rfl
theorem both_txn (A : Option Addr) (cap : Nat) (x : NTxn) (w : World) (hx : NUpds w A x.l) (hl : x.l.length ≤ 9223372036854775807) : Calls Tryd.prog 12 #[.agg #[.slice A x.l.length cap, .string (mk x.head)]] w fun e w' => ∃ A1 c1 A2 c2, e = .returned (.tuple #[.slice A1 x.us.length c1, .slice A2 x.us.length c2]) ∧
    w'.ownsRow w.heap.size 39 3 (.slice A1 x.us.length c1) x.us.length (ucells x.us) ∧ w'.ownsRow w.heap.size 66 3 (.slice A2 x.us.length c2) x.us.length (ucells x.us) ∧ Below w.heap.size w w' := by
  refine (both_any A x.l.length cap x.l (mk x.head) w rfl hl hx).mono ?_
  rintro e w' ⟨A1, c1, A2, c2, us, rfl, rfl, h1, h2, h3⟩
  exact ⟨A1, c1, A2, c2, rfl, h1, h2, h3⟩
set_option maxRecDepth 100000 in
set_option maxHeartbeats 8000000 in
theorem turned_any (A : Option Addr) (n cap : Nat) (l : List NTxn) (x : NTxn) (Ax : Option Addr) (cx : Nat) (m : Int) (w : World) (hln : l.length = n) (hn : n ≤ 9223372036854775807) (hL : Txns w A l) (hok : ∀ y ∈ l, y.ok) (hx : NUpds w Ax x.l) (hxo : x.ok) (hm : w.cell? ⟨0, 0, none⟩ = some (.int .i64 m)) :
    Calls Tryd.prog 4 #[.slice A n cap, .agg #[.slice Ax x.l.length cx, .string (mk x.head)]] w fun e w' => e = .returned (.bool true) ∧ Below w.heap.size w w' := by
  have hb0 := below_alloc w (.cells #[.slice Ax x.l.length cx, .string (mk x.head)] 27)
  have hm0 := (hb0.cell (p := ⟨0, 0, none⟩) (cell_lt hm)).trans hm
  have KS := speaks_any m _ hm0
  have hx0 := hx.below (Nat.le_refl _) hb0
  have hL0 := hL.below (Nat.le_refl _) hb0
  have hbox := Blk.new w #[.slice Ax x.l.length cx, .string (mk x.head)] 27
  obtain ⟨W, hW⟩ : ∃ u, w.alloc (.cells #[.slice Ax x.l.length cx, .string (mk x.head)] 27) = u := ⟨_, rfl⟩
  rw [hW] at hb0 hm0 KS hx0 hL0 hbox
  have hW' := Lib.hid hW
  obtain ⟨nx, hnx⟩ : ∃ k, x.l.length = k := ⟨_, rfl⟩
  obtain ⟨hdx, hhdx⟩ : ∃ h, mk x.head = h := ⟨_, rfl⟩
  rw [hnx, hhdx] at hbox hW'
  rw [hnx, hhdx]
  have GA := Lib.hid (show ∀ w', Below W.heap.size W w' → w'.cell? ⟨0, 0, none⟩ = some (.int .i64 m) ∧ Txns w' A l ∧ NUpds w' Ax x.l ∧ w'.cell? ⟨w.heap.size, 0, none⟩ = some (.slice Ax nx cx) ∧ w'.cell? ⟨w.heap.size, 1, none⟩ = some (.string hdx) from fun w' hb =>
    ⟨(hb.cell (p := ⟨0, 0, none⟩) (cell_lt hm0)).trans hm0, hL0.below (Nat.le_refl _) hb, hx0.below (Nat.le_refl _) hb, (hbox.below hb).cell 0, (hbox.below hb).cell 1⟩)
  have HOK := Lib.hid hok
  have HXO := Lib.hid hxo
  have HNX := Lib.hid hnx
  have HHX := Lib.hid hhdx
  have hws := hb0.size
  have hnx1 : nx ≤ 9223372036854775807 := by rw [← hnx]; exact hxo.1
  clear hL hok hx hxo hm hm0 hx0 hL0 hbox hW hnx hhdx
  go_enter Tryd.func4, Tryd.ntmps4
  go_wp2_with (go_at_call 7; rw [hW'.out]; refine KS.mono ?_; rintro e W1 ⟨rfl, hb1⟩)
  have hTb : TblAt (W1.alloc (.cells #[.slice none 0 0, .string (mk mainB), .slice none 0 0] 31)) ⟨[], mainB, []⟩ (.agg #[.slice none 0 0, .string (mk mainB), .slice none 0 0]) :=
    ⟨_, 0, _, 0, rfl, fun _ => rfl, fun _ => rfl, fun h => by simp at h, fun h => by simp [ucells] at h, fun a h => by simp at h, fun a h => by simp at h⟩
  have hY := Blk.new W1 #[.slice none 0 0, .string (mk mainB), .slice none 0 0] 31
  have hbY := hb1.alloc hb1.size (.cells #[.slice none 0 0, .string (mk mainB), .slice none 0 0] 31)
  have HTb := Lib.hid hTb
  have HY := Lib.hid hY
  have HbY := Lib.hid hbY
  have hWs := hb1.size
  obtain ⟨Y, hYY⟩ : ∃ Y, W1.heap.size = Y := ⟨_, rfl⟩
  rw [hYY] at HY hWs
  simp only [hYY]
  clear hTb hY hbY KS hYY
  go_loopw [6] (fun i wr => ∃ (k : Nat) (t : Tbl) (T : Option Addr) (nT ct : Nat) (hT : ByteArray) (TB : Option Addr) (nB cb : Nat), k ≤ 6 ∧ k ≤ n ∧ i = .int .i64 k ∧ Blk wr Y #[.slice T nT ct, .string hT, .slice TB nB cb] 31 ∧ TblAt wr t (.agg #[.slice T nT ct, .string hT, .slice TB nB cb]) ∧ TOk k t ∧ Below W.heap.size W wr) (fun i _ => 6 - (intOf i).toNat)
  case atStart => exact ⟨0, _, _, _, _, _, _, _, _, by omega, by omega, rfl, HY.out, HTb.out, ⟨List.Pairwise.nil, by simp, by simp⟩, HbY.out⟩
  case round =>
    clear HTb HY HbY
    obtain ⟨k, t, T, nT, ct, hT, TB, nB, cb, hk, hkn, rfl, hY, hTA, hTO, hb⟩ := hrel
    obtain ⟨hm1, hTx, hNx, hbx0, hbx1⟩ := GA.out _ hb
    by_cases h : k < 6 ∧ k < n
    · obtain ⟨h6, hkn'⟩ := h
      have hkl : k < l.length := by omega
      obtain ⟨g, o, rfl, hg, hcs⟩ := hTx (by omega)
      obtain ⟨Bk, ck, c0, c1, hNk⟩ := hcs k hkl
      have hyok := HOK.out _ (List.getElem_mem hkl)
      obtain ⟨y, hy⟩ : ∃ y, l[k] = y := ⟨_, rfl⟩
      rw [hy] at c0 c1 hNk hyok
      have KB := both_txn Bk ck y wr hNk hyok.1
      have hul := y.us_len
      have huo := NTxn.us_ok hyok
      have hhl := hyok.2.2
      obtain ⟨ny, hny⟩ : ∃ k, y.l.length = k := ⟨_, rfl⟩
      obtain ⟨hdy, hhdy⟩ : ∃ h, mk y.head = h := ⟨_, rfl⟩
      rw [hny] at c0 KB
      rw [hhdy] at c1 KB
      obtain ⟨us, hus⟩ : ∃ us, y.us = us := ⟨_, rfl⟩
      obtain ⟨N, hN⟩ : ∃ N, us.length = N := ⟨_, rfl⟩
      rw [hus] at KB hul huo
      rw [hN] at KB
      have HNN := Lib.hid hN
      have HUS := Lib.hid hus
      have HHy := Lib.hid hhdy
      have hyl := hY.lt
      clear hTx hNx hcs hy hny hhdy hNk hyok hus hN
      have k0 : (0 : Int) ≤ (k : Int) := by omega
      have k1 : (k : Int) < (n : Int) := by omega
      have k2 : (k : Int) < 6 := by omega
      go_upto_region 8 with (go_at_call 12; refine KB.mono ?_; rintro e w3 ⟨A1, d1, A2, d2, rfl, ho1, _, hb3⟩)
      have hb13 := below_step hb hb3
      have hY3 := hY.below hb3
      have hT3 := hTA.below hb3
      have hs3 := hb3.size
      have hrl : t.refs.length ≤ 900000 := by have := hTO.2.1; omega
      have hll : t.log.length ≤ 900000 := by have := hTO.2.2; omega
      have KA : ∀ ww, Below w3.heap.size w3 ww → Calls Tryd.prog 13 #[.agg #[.slice T nT ct, .string hT, .slice TB nB cb], .slice A1 N d1, .string hdy] ww fun e w' => ∃ P nR pc hP PB nL pb, e = .returned (.tuple #[.agg #[.slice P nR pc, .string hP, .slice PB nL pb], .int .i64 (mayE t.refs us y.head)]) ∧ TblAt w' (t.res us y.head) (.agg #[.slice P nR pc, .string hP, .slice PB nL pb]) ∧ Below ww.heap.size ww w' := fun ww hw => by
        have ho := ho1
        rw [← HNN.out] at ho
        have := apply_any t _ us A1 d1 y.head m ww (hT3.below hw) hTO.1 hrl hll huo (by omega) ((Upds.of_row ho).below (Nat.le_refl _) hw) (row_none' ho) hhl (GA.out _ (below_step hb13 hw)).1
        rw [HHy.out, HNN.out] at this
        exact this
      have hg3 : g < w3.heap.size := by omega
      have GK := Lib.hid (show ∀ ww, Below w3.heap.size w3 ww → ww.cell? ⟨Y, 0, none⟩ = some (.slice T nT ct) ∧ ww.cell? ⟨Y, 1, none⟩ = some (.string hT) ∧ ww.cell? ⟨Y, 2, none⟩ = some (.slice TB nB cb) ∧ ww.cell? ⟨g, o + k * 2 + 1, none⟩ = some (.string hdy) from fun ww hw =>
        ⟨(hY3.below hw).cell 0, (hY3.below hw).cell 1, (hY3.below hw).cell 2, (hw.cell (p := ⟨g, o + k * 2 + 1, none⟩) hg3).trans ((hb3.cell (p := ⟨g, o + k * 2 + 1, none⟩) hg).trans c1)⟩)
      obtain ⟨E, hE⟩ : ∃ E, mayE t.refs us y.head = E := ⟨_, rfl⟩
      obtain ⟨tt, htt⟩ : ∃ tt, t.res us y.head = tt := ⟨_, rfl⟩
      rw [hE, htt] at KA
      have HE := Lib.hid hE
      have Htt := Lib.hid htt
      obtain ⟨y0, y1, y2, yh⟩ := GK.out _ (Below.refl _ w3)
      clear hE htt ho1 c0 c1 hT3 KB huo
      go_cut [9, 10] from 41 to 51 (fun s9 s10 wx => ∃ Z P nR pc hP PB nL pb, s9 = .pointer (some ⟨Z, 0, none⟩) ∧ s10 = .int .i64 E ∧ Blk wx Z #[.slice P nR pc, .string hP, .slice PB nL pb] 31 ∧ TblAt wx tt (.agg #[.slice P nR pc, .string hP, .slice PB nL pb]) ∧ Below w3.heap.size w3 wx)
      case first =>
        have B1 := Below.refl w3.heap.size w3
        have X1 : True := trivial
        have hXle : True := trivial
        have F1 : True := trivial
        have F1a : True := trivial
        go_region_held3 (fun w' => w'.cell? ⟨Y, 0, none⟩ = some (.slice T nT ct) ∧ w'.cell? ⟨Y, 1, none⟩ = some (.string hT) ∧ w'.cell? ⟨Y, 2, none⟩ = some (.slice TB nB cb) ∧ w'.cell? ⟨g, o + k * 2 + 1, none⟩ = some (.string hdy))
          (first | (go_keep) | (exact F1) | (exact F1a _) | (exact GK.out _ ((Below.refl _ w3).alloc (Nat.le_refl _) _)) | (exact GK.out _ (((B1.setCell (p := ⟨_, 0, none⟩) hXle _).setCell (p := ⟨_, 1, none⟩) hXle _).setCell (p := ⟨_, 2, none⟩) hXle _)))
          (first
            | (go_at_call 13
               refine (KA _ (by first | exact Below.refl _ _ | exact (Below.refl _ _).drew | exact (Below.refl _ w3).alloc (Nat.le_refl _) _ | exact ((Below.refl _ w3).alloc (Nat.le_refl _) _).drew)).mono ?_
               rintro e w1 ⟨P, nR, pc, hP, PB, nL, pb, rfl, ht1, h1⟩
               first
                 | (have X1 := Blk.below_new (e := 31) h1
                    have hXle := B1.size)
                 | (have X1 := Blk.below_new' (e := 31) h1
                    have hXle := B1.size)
                 | skip
               first
                 | (have B1 := below_step B1 h1)
                 | (have B1 := below_step B1.drew h1)
                 | (have B1 := below_step (B1.alloc B1.size _) h1)
                 | (have B1 := below_step (B1.alloc B1.size _).drew h1)
               first
                 | (have y0 := X1.cell 0
                    have y1 := X1.cell 1
                    have y2 := X1.cell 2
                    have f0 := X1.frozen 0
                    have f1 := X1.frozen 1
                    have f2 := X1.frozen 2
                    simp at y0 y1 y2 f0 f1 f2)
                 | skip
               have F1 := GK.out _ B1
               have F1a := fun o => GK.out _ (B1.alloc B1.size o))
            | (fail))
        all_goals clear F1 F1a
        all_goals go_wp2_with fail
        all_goals go_meet
        all_goals first
          | exact ⟨w1.heap.size, P, nR, pc, hP, PB, nL, pb, rfl, rfl, Blk.new _ _ _, ht1.below (below_alloc _ _), B1.alloc B1.size _⟩
          | exact ⟨_, P, nR, pc, hP, PB, nL, pb, rfl, rfl, ((X1.set 0 _).set 1 _).set 2 _, ((ht1.set X1 0 _).set (X1.set 0 _) 1 _).set ((X1.set 0 _).set 1 _) 2 _, ((B1.setCell (p := ⟨_, 0, none⟩) hXle _).setCell (p := ⟨_, 1, none⟩) hXle _).setCell (p := ⟨_, 2, none⟩) hXle _⟩
      case rest =>
        rename World => wx
        obtain ⟨Z, P, nR, pc, hP, PB, nL, pb, rfl, rfl, hZ, htx, hbx⟩ := hcut
        have hbY := below_step hb13 hbx
        have hYx := hY3.below hbx
        have hTx := (hTA.below hb3).below hbx
        have z0 := hZ.cell 0
        have z1 := hZ.cell 1
        have z2 := hZ.cell 2
        have f0 := hYx.frozen 0
        have f1 := hYx.frozen 1
        have f2 := hYx.frozen 2
        have x0 := hYx.cell 0
        have x1 := hYx.cell 1
        have x2 := hYx.cell 2
        simp at z0 z1 z2 x0 x1 x2
        clear GK y0 y1 y2 yh KA
        by_cases hE0 : E = 0
        · have htt' : tt = t.put us y.head := by rw [← Htt.out]; unfold Tbl.res; rw [if_pos (HE.out.trans hE0)]
          subst hE0
          have hTO' : TOk (k + 1) tt := by rw [htt']; exact hTO.put us hul _
          have hYf := ((hYx.set 0 (.slice P nR pc)).set 1 (.string hP)).set 2 (.slice PB nL pb)
          simp at hYf
          have hTf := ((htx.set hYx 0 (.slice P nR pc)).set (hYx.set 0 (.slice P nR pc)) 1 (.string hP)).set ((hYx.set 0 (.slice P nR pc)).set 1 (.string hP)) 2 (.slice PB nL pb)
          have hBf := ((hbY.setCell (p := ⟨Y, 0, none⟩) hWs (.slice P nR pc)).setCell (p := ⟨Y, 1, none⟩) hWs (.string hP)).setCell (p := ⟨Y, 2, none⟩) hWs (.slice PB nL pb)
          have HR := Lib.hid (And.intro hYf (And.intro hTf (And.intro hTO' hBf)))
          clear hYf hTf hBf hTO' htt' hYx hTx htx hZ hbY
          go_wp2
          go_roundw
          case rel => exact ⟨k + 1, tt, _, _, _, _, _, _, _, by omega, by omega, by go_num, HR.out.1, HR.out.2.1, HR.out.2.2.1, HR.out.2.2.2⟩
          case measure => simp [intOf]; omega
        · have hne : (E == 0) = false := beq_eq_false_iff_ne.2 hE0
          have HR := Lib.hid (And.intro hYx (And.intro hTx (And.intro (hTO.mono (Nat.le_succ k)) hbY)))
          clear hYx hTx htx hZ hbY hE0 hTA hTO
          go_wp2
          go_roundw
          case rel => exact ⟨k + 1, t, _, _, _, _, _, _, _, by omega, by omega, by go_num, HR.out.1, HR.out.2.1, HR.out.2.2.1, HR.out.2.2.2⟩
          case measure => simp [intOf]; omega
    · rename World => wA
      have KB := both_txn Ax cx x wA hNx HXO.out.1
      have hul := x.us_len
      have huo := NTxn.us_ok HXO.out
      have hhl := HXO.out.2.2
      rw [HNX.out, HHX.out] at KB
      obtain ⟨us, hus⟩ : ∃ us, x.us = us := ⟨_, rfl⟩
      obtain ⟨N, hN⟩ : ∃ N, us.length = N := ⟨_, rfl⟩
      rw [hus] at KB hul huo
      rw [hN] at KB hul
      have HNN := Lib.hid hN
      have hTO6 : TOk 6 t := hTO.mono hk
      have hrl : t.refs.length ≤ 900000 := by have := hTO6.2.1; omega
      have hll : t.log.length ≤ 900000 := by have := hTO6.2.2; omega
      have hrl72 : t.refs.length ≤ 72 := by have := hTO6.2.1; omega
      have hTs := Lib.hid hTO6.1
      obtain ⟨iu, hiu, hu0, hu1, hu2⟩ := info_parts info39
      have HUO := Lib.hid huo
      clear hTx hNx hus hN hTO hTO6 huo
      have hcase : (k = 6 ∧ k < n) ∨ k = n := by omega
      rcases hcase with ⟨rfl, h1⟩ | rfl
      all_goals
        go_upto_region 13 with (go_at_call 12; refine KB.mono ?_; rintro e w3 ⟨A1, d1, A2, d2, rfl, ho1, _, hb3⟩)
        clear KB
        have hb13 := below_step hb hb3
        have hY3 := hY.below hb3
        have hT3 := hTA.below hb3
        have HO1 := Lib.hid ho1
        have HR3 := Lib.hid (And.intro hY3 (And.intro hT3 hb13))
        clear hY hTA hb hm1 hbx0 hbx1 hY3 hT3 hb13 ho1
        have hNi : (N : Int) ≤ 12 := by omega
        go_wp2
        go_loopw [13, 14] (fun vb i wr => ∃ (ii : Nat) (B : Option Addr) (db : Nat), ii ≤ N ∧ i = .int .i64 ((ii : Int) - 1) ∧ vb = .slice B (N - ii) db ∧ wr.ownsRow w3.heap.size 39 3 (.slice B (N - ii) db) (N - ii) (ucells (us.reverse.take (N - ii))) ∧ Below w3.heap.size w3 wr) (fun _ i _ => (intOf i + 1).toNat)
        case atStart => exact ⟨N, none, 0, Nat.le_refl _, rfl, by rw [Nat.sub_self], by rw [Nat.sub_self]; exact World.ownsRow_nil _ _ _ _, Below.refl _ _⟩
        case round =>
          obtain ⟨ii, B, db, hii, rfl, rfl, hB, hb2⟩ := hrel
          cases ii with
          | succ q =>
            have hql : q < us.length := by rw [HNN.out]; omega
            obtain ⟨g1, hA1, hg1, hcu⟩ := ((Upds.of_row (by rw [HNN.out]; exact HO1.out) : Upds w3 A1 us).below (Nat.le_refl _) hb2) (by omega)
            subst hA1
            obtain ⟨o0, o1, o2⟩ := hcu q hql
            obtain ⟨M, hM⟩ : ∃ M, N - (q + 1) = M := ⟨_, rfl⟩
            have hM1 : N - q = M + 1 := by omega
            have hMl : M < us.reverse.length := by rw [List.length_reverse, HNN.out]; omega
            have hrev : us.reverse[M] = us[q] := by
              rw [List.getElem_reverse]
              congr 1
              rw [HNN.out]; omega
            have hsn : ucells (us.reverse.take (M + 1)) = ucells (us.reverse.take M) ++ [.string (mk us[q].name), .string (mk us[q].old), .string (mk us[q].new)] := by
              rw [List.take_succ_eq_append_getElem hMl, ucells_app, hrev]; rfl
            rw [hM] at hB
            obtain ⟨nA, hnA⟩ : ∃ a, mk us[q].name = a := ⟨_, rfl⟩
            obtain ⟨nB, hnB⟩ : ∃ a, mk us[q].old = a := ⟨_, rfl⟩
            obtain ⟨nC, hnC⟩ : ∃ a, mk us[q].new = a := ⟨_, rfl⟩
            rw [hnA] at o0 hsn
            rw [hnB] at o1 hsn
            rw [hnC] at o2 hsn
            have hiq : ((q + 1 : Nat) : Int) - 1 = (q : Int) := by omega
            have hq0 : (0 : Int) ≤ (q : Int) := by omega
            have hq1 : (q : Int) < (N : Int) := by omega
            obtain ⟨xs, hxs⟩ : ∃ xs, ucells (us.reverse.take M) = xs := ⟨_, rfl⟩
            rw [hxs] at hB hsn
            have HSN := Lib.hid hsn
            have HM1 := Lib.hid hM1
            have HB := Lib.hid hB
            have hb2a := hb2.alloc hb2.size (.cells #[.string nA, .string nB, .string nC] 39)
            have hM12 : M ≤ 12 := by omega
            clear hsn hM1 hrev hMl hnA hnB hnC hcu hxs hB
            simp only [hiq, hM]
            clear hM hiq
            go_wp2_with (at_builtin; refine wpList_append_lies _ rfl (.tmp 67) (.tmp 72) 29 rfl w3.heap.size 39 iu _ 3 48 Tryd.underlying29 hiu hu0 hu1 hu2 rfl (by decide) (.slice B M db) M xs rfl (HB.out.alloc _) ⟨wr.heap.size, 0, none⟩ 1 1 [.string nA, .string nB, .string nC] rfl rfl (World.news_of_block (cs := #[.string nA, .string nB, .string nC]) (heap_alloc_new _ _)) (by simp [Value.oneCell']) (by omega) (by simp only [maxLen]; omega) (by omega) hb2a.size _ rfl ?_; intro ga capa wa howna hgra _ _; have hba : Below w3.heap.size w3 wa := hb2a.grown hgra hb2a.size (fun k e => ((HB.out.alloc (.cells #[.string nA, .string nB, .string nC] 39)).lt k e).1); clear hgra)
            go_roundw
            case rel => exact ⟨q, some ⟨ga, 0, none⟩, capa, by omega, by go_num, by rw [HM1.out], by rw [HM1.out, HSN.out]; exact howna, hba⟩
            case measure => first | (simp [intOf]; done) | (simp [intOf]; omega)
          | zero =>
            have hrt : us.reverse.take N = us.reverse := List.take_of_length_le (by rw [List.length_reverse, HNN.out]; exact Nat.le_refl _)
            rw [Nat.sub_zero, hrt] at hB
            simp only [Nat.sub_zero]
            have hz1 : ((0 : Nat) : Int) - 1 = -1 := rfl
            have hT2 := HR3.out.2.1.below hb2
            have hY2 := HR3.out.1.below hb2
            have hb12 := below_step HR3.out.2.2 hb2
            have hO2 : wr.ownsRow wA.heap.size 39 3 (.slice A1 N d1) N (ucells us) := own_below HO1.out hb2
            have hul' : us.length ≤ 10000 := by rw [HNN.out]; omega
            have K1 : ∀ ww, Below wr.heap.size wr ww → Calls Tryd.prog 13 #[.agg #[.slice T nT ct, .string hT, .slice TB nB cb], .slice A1 N d1, .string hdx] ww fun e w' => ∃ P nR pc hP PB nL pb, e = .returned (.tuple #[.agg #[.slice P nR pc, .string hP, .slice PB nL pb], .int .i64 (mayE t.refs us x.head)]) ∧ TblAt w' (t.res us x.head) (.agg #[.slice P nR pc, .string hP, .slice PB nL pb]) ∧ Below ww.heap.size ww w' := fun ww hw => by
              have ho := hO2
              rw [← HNN.out] at ho
              have := apply_any t _ us A1 d1 x.head m ww (hT2.below hw) hTs.out hrl hll HUO.out hul' ((Upds.of_row ho).below (Nat.le_refl _) hw) (row_none' ho) hhl (GA.out _ (below_step hb12 hw)).1
              rw [HHX.out, HNN.out] at this
              exact this
            have K2 : ∀ ww, Below wr.heap.size wr ww → Calls Tryd.prog 13 #[.agg #[.slice T nT ct, .string hT, .slice TB nB cb], .slice B N db, .string hdx] ww fun e w' => ∃ P nR pc hP PB nL pb, e = .returned (.tuple #[.agg #[.slice P nR pc, .string hP, .slice PB nL pb], .int .i64 (mayE t.refs us.reverse x.head)]) ∧ TblAt w' (t.res us.reverse x.head) (.agg #[.slice P nR pc, .string hP, .slice PB nL pb]) ∧ Below ww.heap.size ww w' := fun ww hw => by
              have ho := hB
              rw [show N = us.reverse.length by rw [List.length_reverse, HNN.out]] at ho
              have := apply_any t _ us.reverse B db x.head m ww (hT2.below hw) hTs.out hrl hll (fun u hu => HUO.out u (List.mem_reverse.1 hu)) (by rw [List.length_reverse]; exact hul') ((Upds.of_row ho).below (Nat.le_refl _) hw) (row_none' ho) hhl (GA.out _ (below_step hb12 hw)).1
              rw [HHX.out, List.length_reverse, HNN.out] at this
              exact this
            have GY := Lib.hid (show ∀ ww, Below wr.heap.size wr ww → ww.cell? ⟨Y, 0, none⟩ = some (.slice T nT ct) ∧ ww.cell? ⟨Y, 1, none⟩ = some (.string hT) ∧ ww.cell? ⟨Y, 2, none⟩ = some (.slice TB nB cb) ∧ ww.cell? ⟨w.heap.size, 1, none⟩ = some (.string hdx) from fun ww hw =>
              ⟨(hY2.below hw).cell 0, (hY2.below hw).cell 1, (hY2.below hw).cell 2, (GA.out _ (below_step hb12 hw)).2.2.2.2⟩)
            obtain ⟨y0, y1, y2, yh⟩ := GY.out _ (Below.refl _ wr)
            have hmr := may_rev t.refs us x.head
            have hrr := res_rev t us x.head hTs.out
            have htl : (t.res us x.head).refs.length ≤ 900000 := by
              unfold Tbl.res
              split
              · have := fold_len us t.refs
                rw [HNN.out] at this
                simp only [Tbl.put]
                omega
              · simp
            obtain ⟨E1, hE1⟩ : ∃ E, mayE t.refs us x.head = E := ⟨_, rfl⟩
            obtain ⟨E2, hE2⟩ : ∃ E, mayE t.refs us.reverse x.head = E := ⟨_, rfl⟩
            obtain ⟨tt, htt⟩ : ∃ tt, t.res us x.head = tt := ⟨_, rfl⟩
            obtain ⟨tr, htr⟩ : ∃ tt, t.res us.reverse x.head = tt := ⟨_, rfl⟩
            rw [hE1, htt] at K1
            rw [hE2, htr] at K2
            rw [hE1, hE2] at hmr
            rw [htt, htr] at hrr
            rw [htt] at htl
            have hq : ∃ bz : Bool, (E1 == 0) = bz ∧ (E2 == 0) = bz := ⟨E1 == 0, rfl, by
              by_cases e : E1 = 0
              · rw [e, hmr.2 e]
              · rw [beq_eq_false_iff_ne.2 e, beq_eq_false_iff_ne.2 (fun e' => e (hmr.1 e'))]⟩
            obtain ⟨bz, hbz1, hbz2⟩ := hq
            have HRR := Lib.hid hrr
            have HB12 := Lib.hid hb12
            clear hmr hrr hE1 hE2 htt htr hT2 hY2 hO2 hB hrt hb12 hb2 hb3
            simp only [hz1]
            clear hz1
            go_upto_region 18 with (go_at_call 13; refine (K1 _ (Below.refl _ _)).mono ?_; rintro e w5 ⟨P, nR, pc, hP, PB, nL, pb, rfl, ht5, hb5⟩)
            have hZ1 := Blk.new w5 #[.slice P nR pc, .string hP, .slice PB nL pb] 31
            have hb6 := hb5.alloc hb5.size (.cells #[.slice P nR pc, .string hP, .slice PB nL pb] 31)
            have ht6 := ht5.below (below_alloc w5 (.cells #[.slice P nR pc, .string hP, .slice PB nL pb] 31))
            obtain ⟨q0, q1, q2, qh⟩ := GY.out _ hb6
            have K2' := K2 _ hb6
            clear K1 K2 GY y0 y1 y2 yh hb5
            go_upto_region 19 with (go_at_call 13; refine K2'.mono ?_; rintro e w7 ⟨Q, nQ, qc, hQ, QB, nM, qb, rfl, ht7, hb7⟩)
            obtain ⟨P1, p1, PB1, pb1, eq1, _, _, hRP, _⟩ := ht6
            obtain ⟨Q1, q1', QB1, qb1, eq2, _, _, hRQ, _⟩ := ht7
            simp only [Value.agg.injEq, Array.mk.injEq, List.cons.injEq, Value.slice.injEq, Value.string.injEq, and_true] at eq1 eq2
            obtain ⟨⟨rfl, rfl, rfl⟩, rfl, rfl, rfl, rfl⟩ := eq1
            obtain ⟨⟨rfl, rfl, rfl⟩, rfl, rfl, rfl, rfl⟩ := eq2
            obtain ⟨er, eh, el⟩ := HRR.out
            rw [er] at hRQ
            rw [er, eh, el]
            have hb8 := hb7.alloc hb7.size (.cells #[.slice Q tt.refs.length qc, .string (mk tt.head), .slice QB tt.log.length qb] 31)
            have hRQ8 := hRQ.below (Nat.le_refl _) (below_alloc w7 (.cells #[.slice Q tt.refs.length qc, .string (mk tt.head), .slice QB tt.log.length qb] 31))
            have hRP8 := hRP.below (Nat.le_refl _) hb8
            have hZ1' := hZ1.below hb8
            have hZ2' := Blk.new w7 #[.slice Q tt.refs.length qc, .string (mk tt.head), .slice QB tt.log.length qb] 31
            have hbf : Below w.heap.size w (w7.alloc (.cells #[.slice Q tt.refs.length qc, .string (mk tt.head), .slice QB tt.log.length qb] 31)) := hb0.trans ((below_step HB12.out (below_step hb6 hb8)).mono hws)
            obtain ⟨w8, hw8⟩ : ∃ u, w7.alloc (.cells #[.slice Q tt.refs.length qc, .string (mk tt.head), .slice QB tt.log.length qb] 31) = u := ⟨_, rfl⟩
            rw [hw8] at hb8 hRQ8 hRP8 hZ1' hZ2' hbf
            obtain ⟨R, hR⟩ : ∃ R, tt.refs = R := ⟨_, rfl⟩
            obtain ⟨hh, hhh⟩ : ∃ R, mk tt.head = R := ⟨_, rfl⟩
            obtain ⟨nl, hnl⟩ : ∃ R, tt.log.length = R := ⟨_, rfl⟩
            rw [hR] at hRQ8 hRP8
            rw [hR, hhh, hnl] at hZ1' hZ2'
            simp only [hR, hhh, hnl] at hw8 ⊢
            have hRl := htl
            rw [hR] at hRl
            obtain ⟨nr, hnr⟩ : ∃ n, R.length = n := ⟨_, rfl⟩
            rw [hnr] at hZ1' hZ2' hRl
            simp only [hnr] at hw8 ⊢
            have HW8 := Lib.hid hw8
            have GF := Lib.hid (show ∀ w', Below w8.heap.size w8 w' → w'.cell? ⟨w5.heap.size, 0, none⟩ = some (.slice P nr pc) ∧ w'.cell? ⟨w7.heap.size, 0, none⟩ = some (.slice Q nr qc) ∧ RefsAt w' P R ∧ RefsAt w' Q R from fun w' hb =>
              ⟨(hZ1'.below hb).cell 0, (hZ2'.below hb).cell 0, hRP8.below (Nat.le_refl _) hb, hRQ8.below (Nat.le_refl _) hb⟩)
            have s0 := hZ1'.cell 0
            have s1 := hZ1'.cell 1
            have s2 := hZ1'.cell 2
            have r0 := hZ2'.cell 0
            have r1 := hZ2'.cell 1
            have r2 := hZ2'.cell 2
            simp at s0 s1 s2 r0 r1 r2
            have HNR := Lib.hid hnr
            clear hw8 hR hhh hnl hnr er eh el hRP hRQ hRP8 hRQ8 hZ1 hZ1' hZ2' hb6 hb7 hb8 q0 q1 q2 qh
            simp only [HW8.out]
            cases bz
            all_goals
              go_wp2
              go_loopw [19] (fun i w' => ∃ j : Nat, j ≤ nr ∧ i = .int .i64 j ∧ Below w8.heap.size w8 w') (fun i _ => nr - (intOf i).toNat)
              case atStart => exact ⟨0, Nat.zero_le _, rfl, Below.refl _ _⟩
              case round =>
                clear s0 s1 s2 r0 r1 r2
                obtain ⟨j, hj, rfl, hbj⟩ := hrel
                obtain ⟨s0, r0, hRP, hRQ⟩ := GF.out _ hbj
                by_cases hjn : j < nr
                · have hjR : j < R.length := by rw [HNR.out]; exact hjn
                  obtain ⟨gp, rfl, _, hcp⟩ := hRP (by omega)
                  obtain ⟨gq, rfl, _, hcq⟩ := hRQ (by omega)
                  obtain ⟨a0, a1⟩ := hcp j hjR
                  obtain ⟨b0, b1⟩ := hcq j hjR
                  obtain ⟨rA, hrA⟩ : ∃ a, mk R[j].1 = a := ⟨_, rfl⟩
                  obtain ⟨rB, hrB⟩ : ∃ a, mk R[j].2 = a := ⟨_, rfl⟩
                  rw [hrA] at a0 b0
                  rw [hrB] at a1 b1
                  have hsame := ref_same rA rB
                  have hguard := eq_guard41
                  have j0 : (0 : Int) ≤ (j : Int) := by omega
                  have j1 : (j : Int) < (nr : Int) := by omega
                  clear hrA hrB hcp hcq hRP hRQ
                  go_wp2_with fail
                  go_quiet (skip)
                  go_wp2
                  go_roundw
                  case rel => exact ⟨j + 1, by omega, by go_num, hbj.trans (⟨rfl, rfl, rfl, Nat.le_refl _, fun _ _ => rfl⟩)⟩
                  case measure => first | (simp [intOf]; done) | (simp [intOf]; omega)
                · obtain rfl : j = nr := by omega
                  go_wp2
                  go_ret
                  exact ⟨rfl, hbf.trans (hbj.mono hbf.size)⟩
end Go.Proofs.YtlkfnhcnfjdgbaaDoor
