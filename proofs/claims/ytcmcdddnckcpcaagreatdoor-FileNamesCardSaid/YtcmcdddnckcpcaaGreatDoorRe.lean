/- file.Read, walked. -/
import Derived.Test.YtcmcdddnckcpcaaGreatDoorRd
namespace Go.Proofs.YtcmcdddnckcpcaaGreatDoor
open Go.RowKit Go.Maps
theorem Lies.others {w w' : World} {b : Nat} {A : Option Addr} {xs : List Value} {e t : TypeId} {cs : Array Value} (h : Lies w A xs) (ht : Typed w A e) (he : e ≠ 5) (ho : Others b w w') (hs : w.heap.size ≤ w'.heap.size) (hb : ∃ fr, w.heap[b]? = some (.cells cs t fr)) (hte : t ≠ e) : Lies w' A xs ∧ Typed w' A e := by
  have hne : ∀ a, A = some a → a.block ≠ b := fun a ha hx => by
    obtain ⟨cs, fr, hc⟩ := ht a ha
    obtain ⟨fr', h1⟩ := hb
    rw [hx, h1] at hc
    simp only [Option.some.injEq, Obj.cells.injEq] at hc
    exact hte hc.2.1
  have hk : ∀ a, A = some a → w'.heap[a.block]? = w.heap[a.block]? := fun a ha => by
    obtain ⟨cs, fr, hc⟩ := ht a ha
    rw [hc]
    exact ho a.block cs e fr he (hne a ha) hc
  refine ⟨fun h0 => ?_, fun a ha => ?_⟩
  · obtain ⟨g, o, rfl, hl, hc⟩ := h h0
    exact ⟨g, o, rfl, Nat.lt_of_lt_of_le hl hs, fun j u hu => (World.cell?_of_block (a := ⟨g, o + j, none⟩) (hk ⟨g, o, none⟩ rfl)).trans (hc j u hu)⟩
  · obtain ⟨cs, fr, hc⟩ := ht a ha
    exact ⟨cs, fr, (hk a ha).trans hc⟩
def secsB (v : List Bs) (l : List Nat) : Bs := l.flatMap fun i => secAt v i
theorem secsB_len {d : DS} (h : DGood d) : ∀ l : List Nat, (∀ i ∈ l, i < d.L.length) → (secsB d.vis l).length = 512 * l.length := by
  intro l
  induction l with
  | nil => intro _; rfl
  | cons i l ih =>
    intro hl
    have h1 := ih (fun j hj => hl j (List.mem_cons_of_mem _ hj))
    have h2 := vis_sec h i (hl i (List.mem_cons_self ..))
    unfold secsB at h1 ⊢
    rw [List.flatMap_cons, List.length_append, h1, h2, List.length_cons]
    omega
def readF (m : StoM) (f : FileM) : Bs := (secsB m.ds.vis (secL (m.most + 7) f.ext)).take f.size
def readW (m : StoM) (name : Bs) : Bs := if goodF name then ((fileOf m.F name).map (readF m)).getD [] else []
theorem isb_blk {B b : Nat} {bs : List Value} {w : World} (h : Lib.IsBuilder 93 5 B b bs w) : ∃ cs fr, w.heap[b]? = some (.cells cs 93 fr) := by
  rcases h with ⟨_, v, h, _⟩ | ⟨_, v, h, _⟩ <;> exact ⟨_, _, h⟩
set_option maxRecDepth 100000 in
set_option maxHeartbeats 4000000 in
theorem fread_any (X : List Nat) (S D Lg M : Nat) (m : StoM) (name : Bs) (w : World) (h : Sto w X S D Lg M m) (hb : StoB m) (h1 : m.off = false) (h2 : m.ds.off = false) (hn : name.length ≤ maxLen)
    (hz : ∀ f ∈ m.F, f.size ≤ 512 * sumN f.ext) (hs : ∀ f ∈ m.F, sumN f.ext ≤ 4096) :
    Calls Tryz.prog 17 #[.pointer (some ⟨S, 0, none⟩), .string (mk name)] w fun e w' => e = .returned (.tuple #[.string (mk (readW m name)), .int .i64 (findE m.F name : Nat)]) ∧ Below w.heap.size w w' := by
  obtain ⟨ad, hFM, hEX⟩ := h.map
  have KF := find_ok X S D Lg M m ad name w h hFM h1 h2 hn
  by_cases hE : findE m.F name = 0
  case neg =>
    have hR : readW m name = [] := by
      unfold readW
      unfold findE at hE
      split
      · rename_i hg
        rw [if_pos hg] at hE
        cases hc : fileOf m.F name with
        | none => rfl
        | some f => rw [hc] at hE; exact absurd rfl hE
      · rfl
    have hN : findE m.F name = 9 ∨ findE m.F name = 11 := by
      unfold findE at hE ⊢
      split <;> simp_all
    rw [hR]
    obtain ⟨a, A, k, c, hv⟩ := findV_form ad m.F name
    rw [hv] at KF
    obtain ⟨NM, hNM⟩ : ∃ q, mk name = q := ⟨_, rfl⟩
    obtain ⟨z, hzz⟩ : ∃ q, sizeW m.F name = q := ⟨_, rfl⟩
    obtain ⟨N, hNN⟩ : ∃ q, findE m.F name = q := ⟨_, rfl⟩
    rw [hNM, hzz, hNN] at KF
    rw [hNM, hNN]
    rw [hNN] at hN
    clear h hb h1 h2 hn hFM hEX hv hNM hzz hNN hz hs hE hR
    rcases hN with rfl | rfl
    all_goals
      go_enter Tryz.func17, Tryz.ntmps17
      go_wp2_with (first | (go_at_call 37; refine KF.mono ?_; rintro e w1 ⟨rfl, hb1⟩; have HB1 := Lib.hid hb1; clear hb1))
      go_ret2
      exact ⟨rfl, HB1.out.alloc HB1.out.size _⟩
  case pos =>
    obtain ⟨f, hf, hg⟩ : ∃ f, fileOf m.F name = some f ∧ goodF name = true := by
      unfold findE at hE
      split at hE
      · rename_i hg
        cases hc : fileOf m.F name with
        | none => rw [hc] at hE; simp at hE
        | some f => exact ⟨f, rfl, hg⟩
      · cases hE
    have hR : readW m name = readF m f := by unfold readW; rw [if_pos hg, hf]; rfl
    have hV : findV ad m.F name = inoV ad f := by unfold findV; rw [if_pos hg, hf]; rfl
    have hfm := fileOf_mem hf
    have hfn := fileOf_name hf
    rw [hE, hV] at KF
    rw [hE, hR]
    obtain ⟨hx1, hx2, _⟩ := hEX f hfm
    unfold inoV at KF
    obtain ⟨⟨A, c⟩, hA⟩ : ∃ q, ad f.name = q := ⟨_, rfl⟩
    rw [hA] at KF hx1 hx2
    dsimp only at KF hx1 hx2
    have hexb := hb.exb f hfm
    have hexl := hb.exl f hfm
    have hfs := hz f hfm
    have hfs2 := hs f hfm
    have KS := fun (w5 : World) hS hA => sectors_any S m.most A c f.ext w5 hS (by have := hb.mo; omega) hA (by omega) (fun x hx => by have := hexb x hx; have := hb.tl; omega) (by rw [secL_length]; omega)
    have hin : ∀ i ∈ secL (m.most + 7) f.ext, i < m.ds.L.length := fun i hi => by
      obtain ⟨x, hx, h1, h2⟩ := secL_mem hi
      have := hexb x hx
      have := hb.ll
      omega
    have hLl := secL_length (m.most + 7) f.ext
    have hBl := secsB_len h.dsk.good _ hin
    have KR := fun (i : Nat) (w5 : World) (hw : Sto w5 X S D Lg M m) (hi : i < m.ds.L.length) => read_any X D m.ds i w5 hw.dsk hi h2
    have hRF : readF m f = (secsB m.ds.vis (secL (m.most + 7) f.ext)).take f.size := rfl
    have hgd := h.dsk.good
    obtain ⟨l, hl⟩ : ∃ q, secL (m.most + 7) f.ext = q := ⟨_, rfl⟩
    rw [hl] at hin hLl hBl hRF
    simp only [hl] at KS
    obtain ⟨xl, hxl⟩ : ∃ q, f.ext.length = q := ⟨_, rfl⟩
    rw [hxl] at KF
    simp only [hxl] at KS
    obtain ⟨n, hnl⟩ : ∃ q, l.length = q := ⟨_, rfl⟩
    rw [hnl] at hLl hBl
    simp only [hnl] at KS
    obtain ⟨sz, hsz⟩ : ∃ q, f.size = q := ⟨_, rfl⟩
    rw [hsz] at KF hfs hRF
    obtain ⟨RB, hRB⟩ : ∃ q, mk (readF m f) = q := ⟨_, rfl⟩
    rw [hRB]
    have HRB := Lib.hid (show mk ((secsB m.ds.vis l).take sz) = RB by rw [← hRF, hRB])
    obtain ⟨NM, hNM⟩ : ∃ q, mk name = q := ⟨_, rfl⟩
    rw [hNM] at KF
    rw [hNM]
    have x0 := fun w1 (hw : Sto w1 X S D Lg M m) => hw.blk.cell 0
    have x5 := fun w1 (hw : Sto w1 X S D Lg M m) => hw.blk.cell 5
    simp only [stoCells] at x0 x5
    have HX0 := Lib.hid x0
    have HX5 := Lib.hid x5
    have HST := Lib.hid h
    have HKR := Lib.hid KR
    have HIN := Lib.hid hin
    have HN := Lib.hid hnl
    have HGD := Lib.hid hgd
    have HBL := Lib.hid hBl
    have HLX := Lib.hid hx1
    have hn6 : n ≤ 4096 := by omega
    have hszn : sz ≤ 512 * n := by omega
    have mixed : Tryz.prog.follows Departure.mixedOrders = true := by kernel_rfl
    clear h hb h1 h2 hn hz hs hFM hEX hE hf hg hR hV hfm hfn hx1 hx2 hA hexb hexl hfs hfs2 hin hLl hBl KR hRF hgd hl hxl hnl hsz hRB hNM x0 x5
    go_enter Tryz.func17, Tryz.ntmps17
    go_upto_region 5 with (first | (go_at_call 37; refine KF.mono ?_; rintro e w1 ⟨rfl, hb1⟩; have HB1 := Lib.hid hb1; clear hb1))
    have hB7 := (Blk.new w1 #[.int .i64 (f.entry : Int), .int .i64 (sz : Int), .slice A xl c] 69).alloc (.cells #[.pointer none, .slice none 0 0] 93)
    have hBu := Lib.fresh_isBuilder 93 5 (w1.alloc (.cells #[.int .i64 (f.entry : Int), .int .i64 (sz : Int), .slice A xl c] 69))
    rw [World.size_alloc] at hBu
    have hbw := (HB1.out.alloc HB1.out.size (.cells #[.int .i64 (f.entry : Int), .int .i64 (sz : Int), .slice A xl c] 69)).alloc (by have := HB1.out.size; simp; omega) (.cells #[.pointer none, .slice none 0 0] 93)
    have hH7 := HB1.out.size
    obtain ⟨H7, hH⟩ : ∃ q, w1.heap.size = q := ⟨_, rfl⟩
    have hWZ : ((w1.alloc (.cells #[.int .i64 (f.entry : Int), .int .i64 (sz : Int), .slice A xl c] 69)).alloc (.cells #[.pointer none, .slice none 0 0] 93)).heap.size = H7 + 2 := by rw [← hH]; simp
    obtain ⟨W1, hW⟩ : ∃ q, (w1.alloc (.cells #[.int .i64 (f.entry : Int), .int .i64 (sz : Int), .slice A xl c] 69)).alloc (.cells #[.pointer none, .slice none 0 0] 93) = q := ⟨_, rfl⟩
    rw [hH] at hB7 hBu hH7
    simp only [hW] at hB7 hBu hbw hWZ ⊢
    try simp only [hH]
    have hst1 := HST.out.below hbw
    have y5 := HX5.out W1 hst1
    simp at y5
    have KS1 := KS W1 y5 (HLX.out.below (Nat.le_refl _) hbw)
    have y2 := hB7.cell 2
    simp at y2
    have l7 := hB7.lt
    have HB7 := Lib.hid hB7
    have HBU := Lib.hid hBu
    have HBW := Lib.hid hbw
    have HWZ := Lib.hid hWZ
    have HH7 := Lib.hid hH7
    clear hH hW hB7 hBu hbw hWZ hst1 hH7 KS y5
    go_wp2_with (first | (go_at_call 43; refine KS1.mono ?_; rintro e w2 ⟨⟨A3, c3, rfl, hrow⟩, hb2⟩; have HR2 := Lib.hid (And.intro hrow hb2); clear hrow hb2 KS1 y2 l7))
    have hrow := HR2.out.1
    have hb2 := HR2.out.2
    have hbu2 := isb_below HBU.out hb2
    have hbw2 := HBW.out.trans (hb2.mono HBW.out.size)
    have h72 : w2.cell? ⟨H7, 1, none⟩ = some (.int .i64 (sz : Int)) := by
      have := (HB7.out.below hb2).cell 1
      simpa using this
    have hrow2 : Lies w2 A3 (ncells l) ∧ Typed w2 A3 3 := ⟨Lies.of_row hrow, Typed.of_row hrow⟩
    have hsz2 : H7 + 2 ≤ w2.heap.size := by rw [← HWZ.out]; exact hb2.size
    have HS2 := Lib.hid (And.intro hbu2 (And.intro hbw2 (And.intro h72 (And.intro hrow2 hsz2))))
    clear hrow hb2 hbu2 hbw2 h72 hrow2 hsz2
    go_loopw [27] (fun i wr => ∃ k : Nat, k ≤ n ∧ i = .int .i64 k ∧ Lib.IsBuilder 93 5 (H7 + 1) (H7 + 1) (Lib.byteCells (secsB m.ds.vis (l.take k))) wr ∧ Below w.heap.size w wr ∧ wr.cell? ⟨H7, 1, none⟩ = some (.int .i64 (sz : Int)) ∧ (Lies wr A3 (ncells l) ∧ Typed wr A3 3) ∧ H7 + 2 ≤ wr.heap.size) (fun i _ => n - (intOf i).toNat)
    case atStart => exact ⟨0, Nat.zero_le _, rfl, HS2.out.1, HS2.out.2.1, HS2.out.2.2.1, HS2.out.2.2.2.1, HS2.out.2.2.2.2⟩
    case round =>
      obtain ⟨k, hk, rfl, hbu, hB, h7, hrow, hsize⟩ := hrel
      by_cases hlt : k < n
      · have hkl : k < l.length := by rw [HN.out]; exact hlt
        obtain ⟨g, off, hA3, hgl, hcs⟩ := hrow.1 (by rw [ncells_length]; omega)
        subst hA3
        have d0 := hcs k _ (ncells_at l k hkl)
        have hst := HST.out.below hB
        have e0 := HX0.out wr hst
        simp at e0
        have KR1 := HKR.out l[k] wr hst (HIN.out _ (List.getElem_mem _))
        have hsl := vis_sec HGD.out l[k] (HIN.out _ (List.getElem_mem _))
        change Calls _ _ _ _ (fun e w' => e = .returned (.tuple #[.string (mk (secAt m.ds.vis l[k])), .int .i64 0]) ∧ w' = wr) at KR1
        have hsn : secsB m.ds.vis (l.take (k + 1)) = secsB m.ds.vis (l.take k) ++ secAt m.ds.vis l[k] := by
          unfold secsB; rw [List.take_succ_eq_append_getElem hkl, List.flatMap_append, List.flatMap_cons, List.flatMap_nil, List.append_nil]
        have hTl := secsB_len HGD.out (l.take k) (fun i hi => HIN.out i (List.mem_of_mem_take hi))
        rw [List.length_take, Nat.min_eq_left (by omega)] at hTl
        obtain ⟨s, hs⟩ : ∃ q, l[k] = q := ⟨_, rfl⟩
        rw [hs] at d0 KR1 hsl hsn
        obtain ⟨x, hx⟩ : ∃ q, secAt m.ds.vis s = q := ⟨_, rfl⟩
        rw [hx] at KR1 hsl hsn
        obtain ⟨T, hT⟩ : ∃ q, secsB m.ds.vis (l.take k) = q := ⟨_, rfl⟩
        rw [hT] at hbu hsn hTl
        have zx : (mk x).size = x.length := mk_size _
        obtain ⟨XS, hXS⟩ : ∃ q, mk x = q := ⟨_, rfl⟩
        rw [hXS] at KR1 zx
        have KW := bwrite_any (H7 + 1) (H7 + 1) (Lib.byteCells T) XS wr hbu (by rw [zx, hsl]; simp [Lib.byteCells]; omega) (by omega)
        have HK := Lib.hid (And.intro hsn (And.intro hXS (And.intro hbu (And.intro hB (And.intro h7 (And.intro hrow hsize))))))
        have k0 : (0 : Int) ≤ (k : Int) := by omega
        have k1 : (k : Int) < (n : Int) := by omega
        clear hcs hst hsl hsn hTl hs hx hT zx hXS hbu hB h7 hrow
        go_wp2_with (first
          | (go_at_call 33; refine KR1.mono ?_; rintro e w3 ⟨rfl, hw⟩; obtain rfl := hw.symm; clear KR1)
          | (go_at_call 45; (with_reducible refine KW.mono ?_); rintro e w4 ⟨rfl, hbu4, hb4, ho4⟩; have HU := Lib.hid (And.intro hbu4 (And.intro hb4 ho4)); clear KW hbu4 hb4 ho4))
        go_roundw
        case rel =>
          obtain ⟨hsn, hXS, hbu, hB, h7, hrow, hsize⟩ := HK.out
          obtain ⟨hbu4, hb4, ho4⟩ := HU.out
          have hfin : Lib.byteCells T ++ Lib.strCells XS = Lib.byteCells (secsB m.ds.vis (l.take (k + 1))) := by
            rw [hsn, ← hXS]; simp [Lib.byteCells, Lib.strCells, mk_data]
          have hsz4 : wr.heap.size ≤ w4.heap.size := hb4.size
          obtain ⟨cs, hfr⟩ := isb_blk hbu
          refine ⟨k + 1, by omega, by go_num, .inr (by rw [← hfin]; exact hbu4), hB.trans (hb4.mono (by have := HH7.out; omega)), (hb4.cell (p := ⟨H7, 1, none⟩) (by simp)).trans h7, hrow.1.others hrow.2 (by decide) ho4 hsz4 hfr (by decide), by omega⟩
        case measure => simp [intOf]; omega
      · obtain rfl : k = n := by omega
        have e : l.take k = l := List.take_of_length_le (by rw [HN.out]; exact Nat.le_refl _)
        rw [e] at hbu
        have hBl := HBL.out
        obtain ⟨D0, hD0⟩ : ∃ q, secsB m.ds.vis l = q := ⟨_, rfl⟩
        rw [hD0] at hbu hBl
        have HD0 := Lib.hid hD0
        have zD : (mk D0).size = D0.length := mk_size _
        have hsl := fun (w : World) => run_slice_string_h (P := Tryz.prog) (w := w) (t := 9) (s := mk D0) Tryz.underlying9 .i64 (sz : Int) (by omega) (by rw [zD, hBl]; omega)
        have e1 : (mk D0).extract 0 (sz : Int).toNat = RB := by
          have := ext_mk' (mk D0) 0 sz
          rw [Nat.zero_add, mk_data, List.drop_zero] at this
          rw [Int.toNat_natCast, this, ← HRB.out, hD0]
        rw [e1] at hsl
        have hmkD : (⟨D0.toArray⟩ : ByteArray) = mk D0 := rfl
        obtain ⟨DS0, hDS⟩ : ∃ q, mk D0 = q := ⟨_, rfl⟩
        rw [hDS] at hsl hmkD
        have KS2 := fun (w5 : World) (hb5 : Below wr.heap.size wr w5) => Tryz.Builder_String_any (H7 + 1) (H7 + 1) D0 w5 (isb_below hbu hb5) (by have := hb5.size; omega)
        simp only [hmkD] at KS2
        have HSL := Lib.hid hsl
        have HBW2 := Lib.hid hB
        have HH7S := Lib.hid h7
        clear hbu hBl zD hsl e1 hmkD hDS hB h7 hrow e hD0
        go_upto_region 13 with (fail)
        refine wp_region_held (S := fun w' => w'.cell? ⟨H7, 1, none⟩ = some (.int .i64 (sz : Int))) mixed ?_
        change wpAnyH _ _ _ _ _ _ _ _ wr.drew
        have hS0 : wr.drew.cell? ⟨H7, 1, none⟩ = some (.int .i64 (sz : Int)) := HH7S.out
        have hb0 : Below wr.heap.size wr wr.drew := (Below.refl _ _).drew
        obtain ⟨W0, hW0⟩ : ∃ q, wr.drew = q := ⟨_, rfl⟩
        rw [hW0] at hS0 hb0 ⊢
        clear hW0
        refine wpAnyH_take (i := 1) (v := .pointer (some ⟨H7, 1, none⟩)) rfl (by kernel_rfl) (by kernel_rfl) (by kernel_rfl) (fun c a w h => h) (.inl ⟨by kernel_rfl, fun w' hS => ?_⟩) hS0 ?_
        · clear hS; go_simp
        try go_simp
        refine wpAnyH_take (i := 2) (v := .int .i64 (sz : Int)) rfl (by kernel_rfl) (by kernel_rfl) (by kernel_rfl) (fun c a w h => h) (.inl ⟨by kernel_rfl, fun w' hS => ?_⟩) hS0 ?_
        · have q0 := hS; go_simp
        try go_simp
        refine wpAnyH_all (rs := [0]) (by kernel_rfl) (by simp) ?_
        intro i hi
        simp only [List.mem_cons, List.not_mem_nil, or_false] at hi
        subst hi
        unfold wpOp
        go_simp
        refine .inl ?_
        go_at_call 46
        refine (KS2 W0 hb0).mono ?_
        rintro e w1 ⟨rfl, hb1⟩
        have hS1 : w1.cell? ⟨H7, 1, none⟩ = some (.int .i64 (sz : Int)) := (hb1.cell (p := ⟨H7, 1, none⟩) (by simp)).trans hS0
        have HB5 := Lib.hid (And.intro hb0 hb1)
        refine ⟨hS1, ?_⟩
        try go_simp
        clear hS0 hb0 hb1 KS2
        refine wpAnyH_all (rs := [3]) (by kernel_rfl) (by simp) ?_
        intro i hi
        simp only [List.mem_cons, List.not_mem_nil, or_false] at hi
        subst hi
        unfold wpOp
        have hsl := HSL.out w1
        go_simp
        clear hsl
        first | refine .inl ⟨hS1, ?_⟩ | refine ⟨hS1, ?_⟩ | refine .inl ?_ | skip
        refine wpAnyH_take (i := 4) (v := .string RB) rfl (by kernel_rfl) (by kernel_rfl) (by kernel_rfl) (fun c a w h => h) (.inl ⟨by kernel_rfl, fun w' hS => ?_⟩) hS1 ?_
        · clear hS; go_simp
        try go_simp
        refine wpAnyH_take (i := 5) (v := .int .i64 0) rfl (by kernel_rfl) (by kernel_rfl) (by kernel_rfl) (fun c a w h => h) (.inl ⟨by kernel_rfl, fun w' hS => ?_⟩) hS1 ?_
        · clear hS; go_simp
        try go_simp
        refine wpAnyH_done (by kernel_rfl) ?_ _
        clear hS1
        go_wp2
        go_ret2
        exact ⟨rfl, HBW2.out.trans ((HB5.out.1.mono HBW2.out.size).trans (HB5.out.2.mono (by have := HH7.out; omega)))⟩
end Go.Proofs.YtcmcdddnckcpcaaGreatDoor
