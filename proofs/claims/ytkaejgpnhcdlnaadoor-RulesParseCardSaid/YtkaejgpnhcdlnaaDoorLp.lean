/- RulesParse, walked. -/
import Derived.Test.YtkaejgpnhcdlnaaDoorRw
import Derived.Test.YtkaejgpnhcdlnaaDoorSw
namespace Go.Proofs.YtkaejgpnhcdlnaaDoor
open Go.RowKit
set_option maxRecDepth 100000 in
set_option maxHeartbeats 1600000 in
theorem rulesParse_any (s name : ByteArray) (m : Int) (w : World) (hs : s.size ≤ maxLen) (hname : name.size ≤ maxLen) (hm : w.cell? ⟨0, 0, none⟩ = some (.int .i64 m)) :
    Calls Tryd.prog 4 #[.string s, .string name] w fun e w' => e = .returned (.bool true) ∧ Below w.heap.size w w' := by
  have hs' := hs
  unfold maxLen at hs
  have hw0 : 0 < w.heap.size := by
    rcases Nat.eq_zero_or_pos w.heap.size with h | h
    · rw [World.cell?, Array.getElem?_eq_none (by simp [h])] at hm; cases hm
    · exact h
  by_cases hlong : 3000 < s.size
  · go_enter Tryd.func4, Tryd.ntmps4
    go_wp2_with fail
    refine (speaks_any m w hm).mono ?_
    rintro e w1 ⟨rfl, hb⟩
    go_wp2
    go_ret
    exact ⟨rfl, hb⟩
  · obtain ⟨rs, ln, er, hP⟩ : ∃ rs ln er, parseS s.data.toList = (rs, ln, er) := ⟨_, _, _, rfl⟩
    have K1 := fun w hm => parse_any s m w (by omega) hm
    have K2 := fun w => ref_any s w hs'
    have K3 := fun w => good_any name w hname
    have K4 := fun w => rgood_any name w hname
    rw [hP] at K1 K2
    have hback : er = 0 → mk (showS rs) = s ∧ rs.length ≤ 4096 ∧ (showS rs).length = s.size := fun h => by
      rw [h] at hP
      obtain ⟨_, h2, _, h4⟩ := parse_back _ _ _ hP
      exact ⟨by rw [h2, mk_list], h4, by rw [h2, ← Lib.size_eq]⟩
    have hln : rs.length ≤ 4096 := by have := parse_len s.data.toList; rw [hP] at this; exact this
    have HBk := Lib.hid hback
    obtain ⟨gn, hgn⟩ : ∃ b, good name.data.toList = b := ⟨_, rfl⟩
    rw [hgn] at K3 K4
    have hat : ∀ k, k < rs.length → ∃ a b : ByteArray, (cells rs)[k * 2]? = some (.string a) ∧ (cells rs)[k * 2 + 1]? = some (.string b) := fun k h => ⟨_, _, cells_at rs k h⟩
    obtain ⟨cl, hcl⟩ : ∃ c, cells rs = c := ⟨_, rfl⟩
    rw [hcl] at hat
    simp only [hcl] at K1 K2
    obtain ⟨n, hn⟩ : ∃ n, rs.length = n := ⟨_, rfl⟩
    simp only [hn] at K1 K2
    rw [hn] at hat hln
    have HAt := Lib.hid hat
    clear hat
    clear hP hback hgn
    go_enter Tryd.func4, Tryd.ntmps4
    go_wp2_with fail
    refine (speaks_any m w hm).mono ?_
    rintro e w1 ⟨rfl, hb1⟩
    have hz1 := hb1.size
    go_wp2_with fail
    refine (K1 w1 ((hb1.cell (p := ⟨0, 0, none⟩) hw0).trans hm)).mono ?_
    rintro e w2 ⟨v1, rfl, ho1, hb2⟩
    obtain ⟨A1, cap1, rfl⟩ := owns_form ho1
    have hb2' : Below w.heap.size w w2 := hb1.trans (hb2.mono hz1)
    go_wp2_with fail
    refine (K2 w2).mono ?_
    rintro e w3 ⟨v2, rfl, ho2, hb3⟩
    obtain ⟨A2, cap2, rfl⟩ := owns_form ho2
    have ho1' := own_below ho1 hb3
    have hb3' : Below w.heap.size w w3 := hb2'.trans (hb3.mono hb2'.size)
    clear ho1 hb2 hb3 hb2' K1 K2 hb1 hm
    go_wp2_with fail
    refine (K3 w3).mono ?_
    rintro e w4 ⟨rfl, rfl⟩
    go_wp2_with fail
    refine (K4 w3).mono ?_
    rintro e w4 ⟨rfl, rfl⟩
    clear K3 K4
    have hgg : (gn != gn) = false := by cases gn <;> rfl
    go_wp2
    go_loopw [11] (fun i wr => ∃ k : Nat, k ≤ n ∧ i = .int .i64 k ∧ wr.ownsRow w1.heap.size 35 2 (.slice A1 n cap1) n cl ∧ wr.ownsRow w2.heap.size 34 2 (.slice A2 n cap2) n cl ∧ Below w.heap.size w wr) (fun i _ => n - (intOf i).toNat)
    case atStart => exact ⟨0, Nat.zero_le _, rfl, ho1', ho2, hb3'⟩
    case round =>
      clear ho1' ho2 hb3'
      obtain ⟨k, hk, rfl, ho1, ho2, hB⟩ := hrel
      by_cases hlt : k < n
      · obtain ⟨a, b, ha, hb⟩ := HAt.out k hlt
        obtain ⟨g1, rfl⟩ := own_addr ho1 (by omega)
        obtain ⟨g2, rfl⟩ := own_addr ho2 (by omega)
        have c1 := (ho1.cellAt (k * 2) (by omega)).trans ha
        have c2 := (ho1.cellAt (k * 2 + 1) (by omega)).trans hb
        have c3 := (ho2.cellAt (k * 2) (by omega)).trans ha
        have c4 := (ho2.cellAt (k * 2 + 1) (by omega)).trans hb
        clear ha hb HAt HBk
        go_wp2_with fail
        go_quiet (fail)
        have ho1' : (wr.drewN nq).ownsRow w1.heap.size 35 2 (.slice (some ⟨g1, 0, none⟩) n cap1) n cl := ho1
        have ho2' : (wr.drewN nq).ownsRow w2.heap.size 34 2 (.slice (some ⟨g2, 0, none⟩) n cap2) n cl := ho2
        have hB' : Below w.heap.size w (wr.drewN nq) := hB.trans (Go.Joins.below_draws _ _ _)
        clear ho1 ho2 hB c1 c2 c3 c4
        go_wp2
        go_roundw
        case rel => exact ⟨k + 1, by omega, by go_num, ho1', ho2', hB'⟩
        case measure => simp [intOf]; omega
      · obtain rfl : k = n := by omega
        by_cases her : er = 0
        · obtain ⟨e1, e2, e3⟩ := HBk.out her
          have hsz := hB.size
          have K5 := show_any w1.heap.size (.slice A1 k cap1) rs wr (by rw [hn, hcl]; exact ho1) (by omega) (by omega)
          rw [e1] at K5
          subst her
          clear HBk HAt e1
          go_wp2_with fail
          refine K5.mono ?_
          rintro e w5 ⟨rfl, hb5⟩
          go_wp2
          go_ret
          exact ⟨by simp, hB.trans (hb5.mono hsz)⟩
        · have hne : ((er : Int) != 0) = true := by simp; omega
          clear HBk HAt
          go_wp2
          go_ret
          exact ⟨by simp, hB⟩
end Go.Proofs.YtkaejgpnhcdlnaaDoor
