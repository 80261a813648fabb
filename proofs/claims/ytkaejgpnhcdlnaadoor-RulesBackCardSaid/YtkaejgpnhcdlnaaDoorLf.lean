/- RulesFront, walked. -/
import Derived.Test.YtkaejgpnhcdlnaaDoorSw
import Derived.Test.YtkaejgpnhcdlnaaDoorPc
import Derived.BigQuiet
import Derived.Deep.RegionHeld3
namespace Go.Proofs.YtkaejgpnhcdlnaaDoor
open Go.RowKit
set_option maxRecDepth 100000 in
set_option maxHeartbeats 1600000 in
theorem rulesFront_any (s : ByteArray) (n turn : Int) (m : Int) (w : World) (hs : s.size ≤ maxLen) (hm : w.cell? ⟨0, 0, none⟩ = some (.int .i64 m)) :
    Calls Tryd.prog 6 #[.string s, .int .i64 n, .int .i64 turn] w fun e w' => e = .returned (.bool true) ∧ Below w.heap.size w w' := by
  unfold maxLen at hs
  have hw0 : 0 < w.heap.size := by
    rcases Nat.eq_zero_or_pos w.heap.size with h | h
    · rw [World.cell?, Array.getElem?_eq_none (by simp [h])] at hm; cases hm
    · exact h
  by_cases hlong : 3000 < s.size
  · go_enter Tryd.func6, Tryd.ntmps6
    go_wp2_with fail
    refine (speaks_any m w hm).mono ?_
    rintro e w1 ⟨rfl, hb⟩
    go_wp2
    go_ret
    exact ⟨rfl, hb⟩
  · obtain ⟨rs, ln, er, hP⟩ : ∃ rs ln er, parseS s.data.toList = (rs, ln, er) := ⟨_, _, _, rfl⟩
    have K1 := fun w hm => parse_any s m w (by omega) hm
    rw [hP] at K1
    have hln := parse_len s.data.toList
    rw [hP] at hln
    by_cases her : er = 0
    · subst her
      obtain ⟨hfit, hshow, rfl, _⟩ := parse_back _ _ _ hP
      obtain ⟨L, hL⟩ : ∃ L, rs.length = L := ⟨_, rfl⟩
      simp only [hL] at K1 hln
      clear hP
      have M0 : (0 : Int) < (L : Int) + 1 := by omega
      have ha1 := Int.tmod_lt_of_pos n M0
      have ha2 := Int.lt_tmod_of_pos n M0
      obtain ⟨a, ha⟩ : ∃ a, n.tmod ((L : Int) + 1) = a := ⟨_, rfl⟩
      rw [ha] at ha1 ha2
      have hc1 := Int.tmod_lt_of_pos (a + (L : Int) + 1) M0
      obtain ⟨c, hc⟩ : ∃ c : Nat, (a + (L : Int) + 1).tmod ((L : Int) + 1) = (c : Int) := ⟨_, (Int.toNat_of_nonneg (Int.tmod_nonneg _ (by omega))).symm⟩
      rw [hc] at hc1
      have hslen : (showS rs).length ≤ 3000 := by rw [hshow, ← Lib.size_eq]; omega
      have hft := fits_take rs c hfit
      have hsl2 := show_take_le rs c
      have hpp := show_parse (rs.take c) (by rw [List.length_take]; omega) hft (by omega)
      have hcl : (rs.take c).length = c := by rw [List.length_take]; omega
      go_enter Tryd.func6, Tryd.ntmps6
      go_wp2_with fail
      refine (speaks_any m w hm).mono ?_
      rintro e w1 ⟨rfl, hb1⟩
      have hz1 := hb1.size
      have hm1 := (hb1.cell (p := ⟨0, 0, none⟩) hw0).trans hm
      go_wp2_with fail
      refine (K1 w1 hm1).mono ?_
      rintro e w2 ⟨v1, rfl, ho1, hb2⟩
      obtain ⟨A1, cap1, rfl⟩ := owns_form ho1
      have hb2' : Below w.heap.size w w2 := hb1.trans (hb2.mono hz1)
      clear K1 hb2
      have hcap : L ≤ cap1 := by
        rcases ho1.2 with ⟨hv, h0⟩ | ⟨g, c', cur, hv, _, _, h3, _⟩
        · omega
        · injection hv with _ _ h; omega
      have hm2 := (hb2'.cell (p := ⟨0, 0, none⟩) hw0).trans hm
      have hop := own_prefix ho1 (show c ≤ L by omega)
      rw [← cells_take] at hop
      have K2 := show_any w1.heap.size (.slice A1 c cap1) (rs.take c) w2 (by rw [hcl]; exact hop) (by omega) (by omega)
      have hz2 := hb2'.size
      go_wp2_with fail
      refine K2.mono ?_
      rintro e w3 ⟨rfl, hb3⟩
      have hb3' : Below w.heap.size w w3 := hb2'.trans (hb3.mono hz2)
      have hm3 := (hb3'.cell (p := ⟨0, 0, none⟩) hw0).trans hm
      have hz3 := hb3'.size
      have K3 := parse_any (mk (showS (rs.take c))) m w3 (by rw [mk_size]; omega) hm3
      rw [mk_data, hpp, hcl] at K3
      have ho3 := own_below ho1 hb3
      clear K2 hop hb3 hpp hft
      go_wp2_with fail
      refine K3.mono ?_
      rintro e w4 ⟨v4, rfl, ho4, hb4⟩
      obtain ⟨A4, cap4, rfl⟩ := owns_form ho4
      have hb4' : Below w.heap.size w w4 := hb3'.trans (hb4.mono hz3)
      have ho5 := own_below ho3 hb4
      have hz4 := hb4'.size
      clear K3 ho3 ho4 hb4 ho1 ha hc hm1 hm2 hm3 hb3' hb2'
      by_cases hL2 : L < 2
      · go_wp2
        go_ret
        exact ⟨rfl, hb4'⟩
      · have M1 : (0 : Int) < (L : Int) - 1 := by omega
        have hb1' := Int.tmod_lt_of_pos turn M1
        have hb2' := Int.lt_tmod_of_pos turn M1
        obtain ⟨a2, ha2'⟩ : ∃ a, turn.tmod ((L : Int) - 1) = a := ⟨_, rfl⟩
        rw [ha2'] at hb1' hb2'
        have hc2 := Int.tmod_lt_of_pos (a2 + (L : Int) - 1) M1
        obtain ⟨c2, hc2'⟩ : ∃ c : Nat, (a2 + (L : Int) - 1).tmod ((L : Int) - 1) = (c : Int) := ⟨_, (Int.toNat_of_nonneg (Int.tmod_nonneg _ (by omega))).symm⟩
        rw [hc2'] at hc2
        obtain ⟨g1, rfl⟩ := own_addr ho5 (by omega)
        have hg1 := (ho5.lt g1 rfl).2
        have hclen : (cells rs).length = L * 2 := by rw [cells_length, hL]
        have hnews : ∀ j u, (cells rs)[j]? = some u → (w4.alloc (.cells #[] 35)).cell? ((⟨g1, 0, none⟩ : Addr).add j) = some u := fun j u hu => by
          have hadd : (⟨g1, 0, none⟩ : Addr).add j = ⟨g1, j, none⟩ := by unfold Addr.add; split <;> simp_all
          have hj : j < L * 2 := by rw [← hclen]; exact (List.getElem?_eq_some_iff.1 hu).1
          rw [hadd]
          exact ((ho5.alloc _).cellAt j hj).trans hu
        have hone : ∀ u ∈ cells rs, u.oneCell' = true := by
          intro u hu
          simp only [cells, List.mem_flatMap] at hu
          obtain ⟨r, _, hr⟩ := hu
          simp at hr
          rcases hr with rfl | rfl <;> rfl
        have hmade : (w4.alloc (.cells #[] 35)).ownsRow w.heap.size 35 2 (.slice (some ⟨w4.heap.size, 0, none⟩) 0 0) 0 [] := World.ownsRow_made w4 #[] 0 hz4 (by unfold maxLen; omega) rfl
        obtain ⟨i0, hi, hzz0, hzz1, hzz2⟩ := info_parts info35
        have HN := Lib.hid hnews
        have HO := Lib.hid hone
        have HM := Lib.hid hmade
        have HSL := Lib.hid hslen
        clear hnews hone hmade hslen hsl2 hcl
        go_wp2_with (at_builtin; refine wpList_append_own _ rfl (.tmp 80) (.tmp 81) 26 rfl w.heap.size 35 i0 _ 2 32 Tryd.underlying26 hi hzz0 hzz1 hzz2 rfl (by decide) _ _ _ rfl HM.out ⟨g1, 0, none⟩ L cap1 (cells rs) rfl ?c1 HN.out HO.out ?c3 ?c4 ?c5 ?_)
        case c1 => exact hclen
        case c3 => simp only [maxLen]; omega
        case c4 => omega
        case c5 => simp; omega
        intro v6 w6 ho6 hgr6 _
        have hb6 : Below w.heap.size w w6 := (hb4'.alloc hz4 _).grown hgr6 (by simp; omega) (fun g e => (HM.out.lt g e).1)
        obtain ⟨A6, cap6, rfl⟩ := owns_form ho6
        obtain ⟨g6, rfl⟩ := own_addr ho6 (by omega)
        have hsp := split_two rs c2 (by omega)
        have hat1 := cells_at rs c2 (by omega)
        have hat2 := cells_at rs (c2 + 1) (by omega)
        obtain ⟨x, hx⟩ : ∃ x, rs.take c2 = x := ⟨_, rfl⟩
        obtain ⟨y, hy⟩ : ∃ x, rs.drop (c2 + 2) = x := ⟨_, rfl⟩
        obtain ⟨ra, hra⟩ : ∃ x, rs[c2] = x := ⟨_, rfl⟩
        obtain ⟨rb, hrb⟩ : ∃ x, rs[c2 + 1] = x := ⟨_, rfl⟩
        have hxl : x.length = c2 := by rw [← hx, List.length_take]; omega
        rw [hx, hy, hra, hrb] at hsp
        rw [hra] at hat1
        rw [hrb] at hat2
        have q1 := (ho6.cellAt (c2 * 2) (by omega)).trans hat1.1
        have q2 := (ho6.cellAt (c2 * 2 + 1) (by omega)).trans hat1.2
        have q3 := (ho6.cellAt ((c2 + 1) * 2) (by omega)).trans hat2.1
        have q4 := (ho6.cellAt ((c2 + 1) * 2 + 1) (by omega)).trans hat2.2
        have p1 := ho6.frozenAt (c2 * 2)
        have p2 := ho6.frozenAt (c2 * 2 + 1)
        have p3 := ho6.frozenAt ((c2 + 1) * 2)
        have p4 := ho6.frozenAt ((c2 + 1) * 2 + 1)
        have n1 : (0 : Int) ≤ (c2 : Int) := by omega
        have n2 : (c2 : Int) < (L : Int) := by omega
        have n3 : (0 : Int) ≤ (c2 : Int) + 1 := by omega
        have n4 : (c2 : Int) + 1 < (L : Int) := by omega
        have n5 : ((c2 : Int) + 1).toNat = c2 + 1 := by omega
        have hwr : IntKind.i64.wrap ((c2 : Int) + 1) = (c2 : Int) + 1 := by rw [Go.IntWalk.i64_left, Go.IntWalk.wrap64_in _ (by omega)]
        clear HN HO HM hgr6 ha2' hc2' hb4' ho5 hat1 hat2 hx hy hra hrb
        go_wp2_with fail
        go_region
        have ho7 := ((((ho6.stored (c2 * 2) (.string (mk rb.1))).1.stored (c2 * 2 + 1) (.string (mk rb.2))).1.stored ((c2 + 1) * 2) (.string (mk ra.1))).1.stored ((c2 + 1) * 2 + 1) (.string (mk ra.2))).1.drew
        have hg6 := (ho6.lt g6 rfl).1
        have hb7 := ((((hb6.setCell (p := ⟨g6, c2 * 2, none⟩) hg6 (.string (mk rb.1))).setCell (p := ⟨g6, c2 * 2 + 1, none⟩) hg6 (.string (mk rb.2))).setCell (p := ⟨g6, (c2 + 1) * 2, none⟩) hg6 (.string (mk ra.1))).setCell (p := ⟨g6, (c2 + 1) * 2 + 1, none⟩) hg6 (.string (mk ra.2))).drew
        obtain ⟨w7, hw7⟩ : ∃ w7, ((((w6.setCell ⟨g6, c2 * 2, none⟩ (.string (mk rb.1))).setCell ⟨g6, c2 * 2 + 1, none⟩ (.string (mk rb.2))).setCell ⟨g6, (c2 + 1) * 2, none⟩ (.string (mk ra.1))).setCell ⟨g6, (c2 + 1) * 2 + 1, none⟩ (.string (mk ra.2))).drew = w7 := ⟨_, rfl⟩
        rw [hw7] at ho7 hb7 ⊢
        have hcs : (((((cells rs).set (c2 * 2) (.string (mk rb.1))).set (c2 * 2 + 1) (.string (mk rb.2))).set ((c2 + 1) * 2) (.string (mk ra.1))).set ((c2 + 1) * 2 + 1) (.string (mk ra.2))) = cells (x ++ rb :: ra :: y) := by
          rw [hsp]; exact cells_swap x y ra rb c2 hxl
        rw [hcs] at ho7
        have hlen2 : (x ++ rb :: ra :: y).length = L := by rw [← hL, hsp]; simp
        have hsl3 : (showS (x ++ rb :: ra :: y)).length ≤ 3000 := by rw [show_swap_len, ← hsp]; exact HSL.out
        have hsw := show_swap x y ra rb (by rw [← hsp, hL]; omega) (by rw [← hsp]; exact hfit) (by rw [← hsp]; have := HSL.out; omega)
        rw [hxl] at hsw
        have K7 := show_any w.heap.size (.slice (some ⟨g6, 0, none⟩) L cap6) (x ++ rb :: ra :: y) w7 (by rw [hlen2]; exact ho7) (by omega) (by omega)
        have hz7 := hb7.size
        clear hw7 ho6 q1 q2 q3 q4 p1 p2 p3 p4 hcs hb6 ho7
        go_wp2_with fail
        refine K7.mono ?_
        rintro e w8 ⟨rfl, hb8⟩
        have hb8' : Below w.heap.size w w8 := hb7.trans (hb8.mono hz7)
        have hz8 := hb8'.size
        have K8 := parse_any (mk (showS (x ++ rb :: ra :: y))) m w8 (by rw [mk_size]; omega) ((hb8'.cell (p := ⟨0, 0, none⟩) hw0).trans hm)
        rw [mk_data, hsw] at K8
        clear K7 hsw
        go_wp2_with fail
        refine K8.mono ?_
        rintro e w9 ⟨v9, rfl, _, hb9⟩
        go_wp2
        go_ret
        exact ⟨by simp, hb8'.trans (hb9.mono hz8)⟩
    · have hne : ((er : Int) != 0) = true := by simp; omega
      clear hP
      go_enter Tryd.func6, Tryd.ntmps6
      go_wp2_with fail
      refine (speaks_any m w hm).mono ?_
      rintro e w1 ⟨rfl, hb1⟩
      have hz1 := hb1.size
      go_wp2_with fail
      refine (K1 w1 ((hb1.cell (p := ⟨0, 0, none⟩) hw0).trans hm)).mono ?_
      rintro e w2 ⟨v1, rfl, ho1, hb2⟩
      clear K1 ho1
      go_wp2
      go_ret
      exact ⟨rfl, hb1.trans (hb2.mono hz1)⟩
end Go.Proofs.YtkaejgpnhcdlnaaDoor
