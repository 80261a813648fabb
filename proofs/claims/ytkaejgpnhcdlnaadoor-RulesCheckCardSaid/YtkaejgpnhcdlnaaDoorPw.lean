/- rules.Parse, walked. -/
import Derived.Test.YtkaejgpnhcdlnaaDoorPa
import Derived.Test.YtkaejgpnhcdlnaaDoorLw
import Derived.Lib.SmallJoins
import Derived.RangeFuncBox
import Derived.OwnWalk
namespace Go.Proofs.YtkaejgpnhcdlnaaDoor
open Go.RowKit
theorem cell_at {W : World} {g : Nat} {cs : Array Value} {t : TypeId} {fr : Nat × Nat} (h : W.heap[g]? = some (.cells cs t fr)) (i : Nat) : W.cell? ⟨g, i, none⟩ = cs[i]? := by
  unfold World.cell?; rw [h]; simp
theorem owns_form {w : World} {base size : Nat} {e : TypeId} {v : Value} {n : Nat} {xs : List Value} (h : w.ownsRow base e size v n xs) : ∃ A cap, v = .slice A n cap := by
  rcases h.2 with ⟨rfl, h0⟩ | ⟨g, cap, _, rfl, _⟩
  · subst h0; exact ⟨_, _, rfl⟩
  · exact ⟨_, _, rfl⟩
theorem own_base {w : World} {b b' size : Nat} {e : TypeId} {v : Value} {n : Nat} {xs : List Value} (h : w.ownsRow b e size v n xs) (hb : b' ≤ b) : w.ownsRow b' e size v n xs := by
  refine ⟨h.1, h.2.imp id ?_⟩
  rintro ⟨g, cap, cur, h1, h2, h3⟩
  exact ⟨g, cap, cur, h1, Nat.le_trans hb h2, h3⟩
theorem info35 : (Tryd.prog.info? 35).map (fun i => (i.zero, i.size, i.bytes)) = some (some (.agg #[.string ⟨#[]⟩, .string ⟨#[]⟩]), 2, 32) := by kernel_rfl
theorem mk_inj {a b : Bs} (h : mk a = mk b) : a = b := by rw [← mk_data a, ← mk_data b, h]
theorem mk_toList (a : Bs) : (mk a).toList = a := by rw [bytes_list, mk_data]
theorem count_le_len (s : Bs) : (lines s).length ≤ s.length + 1 := by
  have := spl_le s
  rw [spl_length] at this
  have := List.count_le_length (a := (10 : UInt8)) (l := s)
  omega
theorem line_le (s : Bs) (l : Bs) (h : l ∈ lines s) : l.length ≤ s.length := by
  have h1 := lines_join s
  have h2 := (List.sublist_flatten_of_mem h).length_le
  rw [h1] at h2; exact h2
theorem trim_le (t : Bs) : (Lib.trimSuffix t [10]).length ≤ t.length := by
  unfold Lib.trimSuffix; split <;> simp
theorem nm_le (t : Bs) : (nm t).length ≤ t.length := by
  refine Nat.le_trans ?_ (trim_le t)
  unfold nm Lib.cut; split <;> simp <;> omega
theorem pt_le (t : Bs) : (pt t).length ≤ t.length := by
  refine Nat.le_trans ?_ (trim_le t)
  unfold pt Lib.cut; split <;> simp
theorem cutSuffix_t (t : Bs) (w : World) (h : t.length ≤ 262144) :
    Calls Tryd.prog 20 #[.string (mk t), .string ⟨#[10]⟩] w fun e w' => e = .returned (.tuple #[.string (mk (Lib.trimSuffix t [10])), .bool (ended t)]) ∧ w = w' := by
  have H := Tryd.strings_CutSuffix (mk t) ⟨#[10]⟩ w (by rw [mk_size]; omega)
  rw [mk_data] at H
  exact H.mono fun e w' ⟨h1, h2⟩ => ⟨h1, h2.symm⟩
theorem cut_t (t : Bs) (m : Int) (w : World) (h : t.length ≤ 262144) (hm : w.cell? ⟨0, 0, none⟩ = some (.int .i64 m)) :
    Calls Tryd.prog 21 #[.string (mk (Lib.trimSuffix t [10])), .string ⟨#[32]⟩] w fun e w' => e = .returned (.tuple #[.string (mk (nm t)), .string (mk (pt t)), .bool (sp t)]) ∧ ∃ n, w.drewN n = w' := by
  have H := Tryd.strings_Cut (mk (Lib.trimSuffix t [10])) ⟨#[32]⟩ m w (by rw [mk_size]; have := trim_le t; omega) hm
  rw [mk_data] at H
  exact H.mono fun e w' ⟨h1, n, h2⟩ => ⟨h1, n, h2.symm⟩
theorem good_t (t : Bs) (w : World) (h : t.length ≤ 262144) : Calls Tryd.prog 12 #[.string (mk t)] w fun e w' => e = .returned (.bool (good t)) ∧ w = w' := by
  have H := good_any (mk t) w (by unfold maxLen; rw [mk_size]; omega)
  rw [mk_data] at H
  exact H
theorem pat_t (t : Bs) (w : World) (h : t.length ≤ 262144) : Calls Tryd.prog 22 #[.string (mk t)] w fun e w' => e = .returned (.bool (pat t)) ∧ w = w' := by
  have H := pat_any (mk t) w (by unfold maxLen; rw [mk_size]; omega)
  rw [mk_data] at H
  exact H
set_option maxRecDepth 100000 in
set_option maxHeartbeats 1600000 in
theorem parse_any (s : ByteArray) (m : Int) (w : World) (hs : s.size < 4294967281) (hm : w.cell? ⟨0, 0, none⟩ = some (.int .i64 m)) :
    Calls Tryd.prog 10 #[.string s] w fun e w' => ∃ v, e = .returned (.tuple #[v, .int .i64 (parseS s.data.toList).2.1, .int .i64 (parseS s.data.toList).2.2]) ∧
      w'.ownsRow w.heap.size 35 2 v (parseS s.data.toList).1.length (cells (parseS s.data.toList).1) ∧ Below w.heap.size w w' := by
  obtain ⟨i0, hi, hz0, hz1, hz2⟩ := info_parts info35
  have hsl : s.data.toList.length = s.size := (Lib.size_eq s).symm
  have hw0 : 0 < w.heap.size := by
    rcases Nat.eq_zero_or_pos w.heap.size with h | h
    · rw [World.cell?, Array.getElem?_eq_none (by simp [h])] at hm; cases hm
    · exact h
  obtain ⟨R, hR⟩ : ∃ R, parseS s.data.toList = R := ⟨_, rfl⟩
  rw [hR]
  by_cases hlong : 262144 < s.size
  · rw [parseS, if_pos (by omega)] at hR
    subst hR
    clear hsl
    go_enter Tryd.func10, Tryd.ntmps10
    go_wp2
    go_ret3
    exact ⟨_, rfl, World.ownsRow_nil _ _ _ _, Below.refl _ _⟩
  · rw [parseS, if_neg (by omega)] at hR
    have hspl := spl_get s.data.toList
    have hcl := count_le_len s.data.toList
    have hll := line_le s.data.toList
    have hLcap := spl_le s.data.toList
    have H := lines_any s m w hs hm
    rw [hsl] at hcl hll
    obtain ⟨ls, hls⟩ : ∃ ls, lines s.data.toList = ls := ⟨_, rfl⟩
    obtain ⟨N, hN⟩ : ∃ N, (spl s.data.toList).length = N := ⟨_, rfl⟩
    have hx : (w.alloc (.cells (strs (spl s.data.toList)) 9)).heap[w.heap.size]? = some (.cells (strs (spl s.data.toList)) 9 (0, 0)) := heap_alloc_new w _
    obtain ⟨cs, hcs⟩ : ∃ cs, strs (spl s.data.toList) = cs := ⟨_, rfl⟩
    have hcell : ∀ i (h : i < ls.length), cs[i]? = some (.string (mk ls[i])) := fun i h => by
      subst hls; subst hcs
      rw [strs_get, hspl i h]; rfl
    obtain ⟨W, hW⟩ : ∃ W, w.alloc (.cells cs 9) = W := ⟨_, rfl⟩
    have hbw : Below w.heap.size w W := by rw [← hW]; exact (Below.refl _ w).alloc (Nat.le_refl _) _
    have hsz : W.heap.size = w.heap.size + 1 := by rw [← hW]; simp
    rw [hls, hN, hcs] at H
    rw [hls] at hcl hll hR hLcap
    rw [hN] at hLcap
    rw [hcs] at hx
    rw [hW] at H hx
    clear hspl hcs hls hN hW
    have HH := Lib.hid hcell
    have HL := Lib.hid hll
    have HR := Lib.hid hR
    clear hcell hll hR hsl
    go_enter Tryd.func10, Tryd.ntmps10
    go_wp2_with fail
    refine H.mono ?_
    rintro e w1 ⟨rfl, rfl⟩
    go_wp2
    go_loopw [5, 6, 7, 8, 9, 10, 11, 12, 13, 20] (fun out _ _ _ _ _ _ _ _ i wr => ∃ (k : Nat) (acc : List Rl), k ≤ ls.length ∧ k = acc.length ∧ k ≤ 4096 ∧ i = .int .i64 k ∧ wr.ownsRow (w.heap.size + 1) 35 2 out k (cells acc) ∧
        Below (w.heap.size + 1) W wr ∧ stepsG (ls.drop k) acc = R) (fun _ _ _ _ _ _ _ _ _ i _ => ls.length - (intOf i).toNat)
    case atStart => exact ⟨0, [], Nat.zero_le _, rfl, by omega, rfl, World.ownsRow_nil _ _ _ _, Below.refl _ _, HR.out⟩
    case round =>
      obtain ⟨k, acc, hk, hka, hk4, rfl, hown, hB, hst⟩ := hrel
      have hsz3 := hB.size
      obtain ⟨A, cap, rfl⟩ := owns_form hown
      by_cases hlt : k < ls.length
      · have htl : (ls[k]).length ≤ 262144 := by have := HL.out _ (List.getElem_mem hlt); omega
        have hc : wr.cell? ⟨w.heap.size, k, none⟩ = some (.string (mk ls[k])) := (cell_at ((hB.block _ (by omega)).trans hx) k).trans (HH.out k hlt)
        have hm' : wr.cell? ⟨0, 0, none⟩ = some (.int .i64 m) := (hB.cell (p := ⟨0, 0, none⟩) (by show (0 : Nat) < _; omega)).trans ((hbw.cell (p := ⟨0, 0, none⟩) hw0).trans hm)
        have hd : ls.drop k = ls[k] :: ls.drop (k + 1) := List.drop_eq_getElem_cons hlt
        rw [hd] at hst
        obtain ⟨t, ht⟩ : ∃ t, ls[k] = t := ⟨_, rfl⟩
        rw [ht] at hst hc htl
        by_cases h4 : k = 4096
        · rw [stepsG_long _ _ _ (by omega), ← hka] at hst
          subst hst
          subst h4
          clear hd ht hka hx HL HH hm hm'
          go_wp2
          go_ret3
          exact ⟨_, rfl, World.ownsRow_nil _ _ _ _, hbw.trans (hB.mono (by omega))⟩
        · have L1 := stepsG_form t (ls.drop (k + 1)) acc (by omega)
          have L2 := stepsG_order t (ls.drop (k + 1)) acc (by omega)
          have L3 := stepsG_next t (ls.drop (k + 1)) acc (by omega)
          rw [hst, ← hka] at L1 L2
          rw [hst] at L3
          have hkl : k < 4096 := by omega
          have hn1 := nm_le t
          have hp1 := pt_le t
          have K1 := cutSuffix_t t wr htl
          have K2 := cut_t t m wr htl hm'
          obtain ⟨n, hn⟩ : ∃ n, nm t = n := ⟨_, rfl⟩
          obtain ⟨p, hp⟩ : ∃ p, pt t = p := ⟨_, rfl⟩
          obtain ⟨be, hbe⟩ : ∃ b, ended t = b := ⟨_, rfl⟩
          obtain ⟨bs, hbs⟩ : ∃ b, sp t = b := ⟨_, rfl⟩
          obtain ⟨bd, hbd⟩ : ∃ b, Lib.trimSuffix t [10] = b := ⟨_, rfl⟩
          rw [hbe, hbs, hn, hp] at L1 L2 L3
          rw [hbe, hbd] at K1
          rw [hbd, hn, hp, hbs] at K2
          rw [hn] at hn1
          rw [hp] at hp1
          have T1 := Lib.hid L1
          have T2 := Lib.hid L2
          have T3 := Lib.hid L3
          have HK := Lib.hid hka
          clear L1 L2 L3 hka hd hst hn hp hbe hbs hbd
          go_wp2_with fail
          refine K1.mono ?_
          rintro e w1 ⟨rfl, rfl⟩
          go_wp2_with fail
          refine K2.mono ?_
          rintro e w1 ⟨rfl, q, hq⟩
          have hB1 : Below (w.heap.size + 1) W w1 := by rw [← hq]; exact hB.trans (Go.Joins.below_draws _ _ _)
          have hown1 : w1.ownsRow (w.heap.size + 1) 35 2 (.slice A k cap) k (cells acc) := by rw [← hq]; exact hown
          clear hq hown hB hc hm' K1 K2
          have K3 := good_t n w1 (by omega)
          have K4 := pat_t p w1 (by omega)
          obtain ⟨bg, hbg⟩ : ∃ b, good n = b := ⟨_, rfl⟩
          obtain ⟨bp, hbp⟩ : ∃ b, pat p = b := ⟨_, rfl⟩
          rw [hbg] at K3
          rw [hbp] at K4
          rw [hbg, hbp] at T1 T2 T3
          have hsz1 := hB1.size
          cases be
          · have hR := T1.out rfl
            clear T1 T2 T3 K3 K4 HK HL HH
            subst hR
            go_wp2
            go_ret3
            exact ⟨_, rfl, World.ownsRow_nil _ _ _ _, hbw.trans (hB1.mono (by omega))⟩
          · cases bs
            · have hR := T1.out rfl
              clear T1 T2 T3 K3 K4 HK HL HH
              subst hR
              go_wp2
              go_ret3
              exact ⟨_, rfl, World.ownsRow_nil _ _ _ _, hbw.trans (hB1.mono (by omega))⟩
            · go_wp2_with fail
              refine K3.mono ?_
              rintro e w2 ⟨rfl, rfl⟩
              cases bg
              · have hR := T1.out rfl
                clear T1 T2 T3 K3 K4 HK HL HH
                subst hR
                go_wp2
                go_ret3
                exact ⟨_, rfl, World.ownsRow_nil _ _ _ _, hbw.trans (hB1.mono (by omega))⟩
              · go_wp2_with fail
                refine K4.mono ?_
                rintro e w2 ⟨rfl, rfl⟩
                cases bp
                · have hR := T1.out rfl
                  clear T1 T2 T3 K3 K4 HK HL HH
                  subst hR
                  go_wp2
                  go_ret3
                  exact ⟨_, rfl, World.ownsRow_nil _ _ _ _, hbw.trans (hB1.mono (by omega))⟩
                · clear T1 K3 K4
                  by_cases hk0 : k = 0
                  · have hst := T3.out rfl (fun h => absurd h (by have := HK.out; omega))
                    clear T2 T3 HL HH
                    subst hk0
                    go_wp2_with (at_builtin; refine wpList_append_own _ rfl (.tmp 71) (.tmp 75) 26 rfl (w.heap.size + 1) 35 i0 _ 2 32 Tryd.underlying26 hi hz0 hz1 hz2 rfl (by decide) _ _ _ rfl (hown1.alloc _) ⟨w1.heap.size, 0, none⟩ 1 1 [.string (mk n), .string (mk p)] rfl rfl ?c1 ?c2 ?c3 ?c4 ?c5 ?_)
                    case c1 => exact cell_two_new _ _ _ _
                    case c2 => simp [Value.oneCell']
                    case c3 => simp only [maxLen]; omega
                    case c4 => omega
                    case c5 => simp; omega
                    intro v' w2 hown' hgr _
                    have hB2 : Below (w.heap.size + 1) W w2 := (hB1.alloc (by omega) _).grown hgr (by simp; omega) (fun g e => (hown1.lt g e).1)
                    have hown2 : w2.ownsRow (w.heap.size + 1) 35 2 v' (0 + 1) (cells (acc ++ [(n, p)])) := by rw [cells_snoc]; exact hown'
                    clear hown' hown1 hgr hB1
                    go_wp2
                    go_roundw
                    case rel => exact ⟨0 + 1, acc ++ [(n, p)], by omega, by rw [List.length_append, ← HK.out]; rfl, by omega, by go_num, hown2, hB2, hst.symm⟩
                    case measure => simp [intOf]; omega
                  · obtain ⟨j, rfl⟩ : ∃ j, k = j + 1 := ⟨k - 1, by omega⟩
                    have hj0 : 0 < acc.length := by have := HK.out; omega
                    have hla := lastN_at acc j HK.out.symm
                    have hj : j < acc.length := by have := HK.out; omega
                    obtain ⟨g, cap', hg⟩ := ownsRow_succ hown1
                    injection hg with hg1 _ hg2
                    subst hg1
                    subst hg2
                    have hcl2 := hown1.cellAt (j * 2) (by show j * 2 < (j + 1) * 2; omega)
                    rw [(cells_at acc j hj).1] at hcl2
                    rw [hla] at T2 T3
                    obtain ⟨pr, hpr⟩ : ∃ x, acc[j].1 = x := ⟨_, rfl⟩
                    rw [hpr] at T2 T3 hcl2
                    by_cases hle : leqB n pr = true
                    · have hR := T2.out rfl (by omega) hle
                      have hle' : (Op.bytesLess (mk n).toList (mk pr).toList || (mk n).toList == (mk pr).toList) = true := by rw [mk_toList, mk_toList]; exact hle
                      clear T2 T3 HK HL HH hla hle hpr hj
                      subst hR
                      go_wp2
                      go_ret3
                      exact ⟨_, rfl, World.ownsRow_nil _ _ _ _, hbw.trans (hB1.mono (by omega))⟩
                    · have hst := T3.out rfl (fun _ => by simpa using hle)
                      have hle' : (Op.bytesLess (mk n).toList (mk pr).toList || (mk n).toList == (mk pr).toList) = false := by rw [mk_toList, mk_toList]; exact Bool.eq_false_iff.2 hle
                      clear T2 T3 HL HH hla hle hpr hj hj0
                      go_wp2_with (at_builtin; refine wpList_append_own _ rfl (.tmp 71) (.tmp 75) 26 rfl (w.heap.size + 1) 35 i0 _ 2 32 Tryd.underlying26 hi hz0 hz1 hz2 rfl (by decide) _ _ _ rfl (hown1.alloc _) ⟨w1.heap.size, 0, none⟩ 1 1 [.string (mk n), .string (mk p)] rfl rfl ?c1 ?c2 ?c3 ?c4 ?c5 ?_)
                      case c1 => exact cell_two_new _ _ _ _
                      case c2 => simp [Value.oneCell']
                      case c3 => simp only [maxLen]; omega
                      case c4 => omega
                      case c5 => simp; omega
                      intro v' w2 hown' hgr _
                      have hB2 : Below (w.heap.size + 1) W w2 := (hB1.alloc (by omega) _).grown hgr (by simp; omega) (fun g e => (hown1.lt g e).1)
                      have hown2 : w2.ownsRow (w.heap.size + 1) 35 2 v' (j + 1 + 1) (cells (acc ++ [(n, p)])) := by rw [cells_snoc]; exact hown'
                      clear hown' hown1 hgr hB1
                      go_wp2
                      go_roundw
                      case rel => exact ⟨j + 1 + 1, acc ++ [(n, p)], by omega, by rw [List.length_append, ← HK.out]; rfl, by omega, by go_num, hown2, hB2, hst.symm⟩
                      case measure => simp [intOf]; omega
      · obtain rfl : k = ls.length := by omega
        rw [List.drop_length] at hst
        rw [stepsG] at hst
        subst hst
        clear HL HH
        go_wp2
        go_ret3
        refine ⟨_, rfl, ?_, hbw.trans (hB.mono (by omega))⟩
        rw [hka] at hown
        exact own_base hown (by omega)
end Go.Proofs.YtkaejgpnhcdlnaaDoor
