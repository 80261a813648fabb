/- RulesLines, walked. -/
import Derived.Test.YtkaejgpnhcdlnaaDoorSp
import Derived.BigQuiet
namespace Go.Proofs.YtkaejgpnhcdlnaaDoor
open Go.RowKit
theorem mk_get (l : Bs) (q : Nat) (h : q < (mk l).size) : (mk l)[q] = l[q]'(by rw [← mk_size]; exact h) := by
  show (mk l).data[q]'_ = _
  simp [mk]
theorem mk_append (a b : Bs) : mk a ++ mk b = mk (a ++ b) := by
  have h : (mk a ++ mk b).data = (mk (a ++ b)).data := by rw [ByteArray.data_append]; simp [mk]
  exact ByteArray.ext h
set_option maxRecDepth 100000 in
set_option maxHeartbeats 1600000 in
theorem rulesLines_any (s : ByteArray) (m : Int) (w : World) (hs : s.size ≤ maxLen) (hm : w.cell? ⟨0, 0, none⟩ = some (.int .i64 m)) :
    Calls Tryd.prog 3 #[.string s] w fun e w' => e = .returned (.bool true) ∧ Below w.heap.size w w' := by
  unfold maxLen at hs
  have hsl : s.data.toList.length = s.size := (Lib.size_eq s).symm
  have hw0 : 0 < w.heap.size := by
    rcases Nat.eq_zero_or_pos w.heap.size with h | h
    · rw [World.cell?, Array.getElem?_eq_none (by simp [h])] at hm; cases hm
    · exact h
  by_cases hlong : 5000 < s.size
  · go_enter Tryd.func3, Tryd.ntmps3
    go_wp2_with fail
    refine (speaks_any m w hm).mono ?_
    rintro e w1 ⟨rfl, hb⟩
    go_wp2
    go_ret
    exact ⟨rfl, hb⟩
  · have hspl := spl_get s.data.toList
    have hcl := count_le_len s.data.toList
    have hll := line_le s.data.toList
    have hLcap := spl_le s.data.toList
    have hjoin := lines_join s.data.toList
    have hin := lines_in s.data.toList
    rw [hsl] at hcl hll
    obtain ⟨ls, hls⟩ : ∃ ls, lines s.data.toList = ls := ⟨_, rfl⟩
    obtain ⟨N, hN⟩ : ∃ N, (spl s.data.toList).length = N := ⟨_, rfl⟩
    have H := fun w hm => lines_any s m w (by omega) hm
    have hcell : ∀ (i : Nat) (h : i < ls.length), (strs (spl s.data.toList))[i]? = some (.string (mk ls[i])) := fun i h => by
      subst hls
      rw [strs_get, hspl i h]; rfl
    obtain ⟨cs, hcs⟩ : ∃ cs, strs (spl s.data.toList) = cs := ⟨_, rfl⟩
    simp only [hls, hN, hcs] at H hcell
    rw [hls] at hcl hll hLcap hjoin
    simp only [hls] at hin
    have hend : ∀ (i : Nat) (h : i < ls.length), i + 1 < ls.length → ls[i].getLast? = some 10 := by subst hls; exact lines_end _
    rw [hN] at hLcap
    have HJ := Lib.hid hjoin
    have HI := Lib.hid hin
    have HE := Lib.hid hend
    have HL := Lib.hid hll
    have HC := Lib.hid hcell
    clear hspl hcs hls hN hjoin hin hend hll hcell hsl
    go_enter Tryd.func3, Tryd.ntmps3
    go_wp2_with fail
    refine (speaks_any m w hm).mono ?_
    rintro e w1 ⟨rfl, hb⟩
    go_wp2_with fail
    refine (H w1 ((hb.cell (p := ⟨0, 0, none⟩) hw0).trans hm)).mono ?_
    rintro e w2 ⟨rfl, hw2⟩
    have hsz := hb.size
    have hx : w2.heap[w1.heap.size]? = some (.cells cs 9 (0, 0)) := by rw [← hw2]; exact heap_alloc_new w1 _
    have hb2 : Below w.heap.size w w2 := by rw [← hw2]; exact hb.alloc hsz _
    clear hw2 H hm hb
    go_wp2
    go_loopw [4, 5, 6] (fun t i _ wr => ∃ k : Nat, k ≤ ls.length ∧ i = .int .i64 k ∧ t = .string (mk (ls.take k).flatten) ∧ wr.heap[w1.heap.size]? = some (.cells cs 9 (0, 0)) ∧ Below w.heap.size w wr) (fun _ i _ _ => ls.length - (intOf i).toNat)
    case atStart => exact ⟨0, Nat.zero_le _, rfl, rfl, hx, hb2⟩
    case round =>
      clear hx hb2
      obtain ⟨k, hk, rfl, rfl, hx, hb2⟩ := hrel
      by_cases hlt : k < ls.length
      · have hc : wr.cell? ⟨w1.heap.size, k, none⟩ = some (.string (mk ls[k])) := (cell_at hx k).trans (HC.out k hlt)
        have hl1 := HI.out _ (List.getElem_mem hlt)
        have hl2 := HE.out k hlt
        have hl3 := HL.out _ (List.getElem_mem hlt)
        have hfl : (ls.take (k + 1)).flatten = (ls.take k).flatten ++ ls[k] := by
          rw [List.take_succ_eq_append_getElem hlt, List.flatten_append, List.flatten_cons, List.flatten_nil, List.append_nil]
        have hfs : (ls.take k).flatten.length ≤ 5000 := by
          have e : s.data.toList.length = ((ls.take k).flatten ++ (ls.drop k).flatten).length := by
            rw [← List.flatten_append, List.take_append_drop, HJ.out]
          rw [List.length_append, ← Lib.size_eq] at e
          omega
        obtain ⟨l, hl⟩ : ∃ l, ls[k] = l := ⟨_, rfl⟩
        rw [hl] at hc hl1 hl2 hl3 hfl
        obtain ⟨T, hT⟩ : ∃ T, (ls.take k).flatten = T := ⟨_, rfl⟩
        rw [hT] at hfl hfs ⊢
        obtain ⟨S, hS⟩ : ∃ S, mk l = S := ⟨_, rfl⟩
        have hinner : ∀ (q : Nat) (h : q < S.size), q + 1 < S.size → ((S[q].toNat : Int) == 10) = false := fun q h h1 => by
          subst hS
          have e := hl1.2 q (by rw [← mk_size]; exact h1)
          rw [List.getElem?_eq_getElem (by rw [← mk_size]; exact h)] at e
          rw [beq_eq_false_iff_ne]
          intro e2
          rw [mk_get] at e2
          exact e (congrArg some (UInt8.toNat_inj.1 (Int.ofNat_inj.1 e2)))
        have houter : ∀ (q : Nat) (h : q < S.size), k + 1 < ls.length → q + 1 = S.size → ((S[q].toNat : Int) != 10) = false := fun q h h1 h2 => by
          subst hS
          have e := hl2 h1
          rw [List.getLast?_eq_getElem?, ← mk_size, ← h2, Nat.add_sub_cancel, List.getElem?_eq_getElem (by rw [← mk_size]; exact h)] at e
          have e2 := Option.some.inj e
          rw [mk_get, e2]; rfl
        have hap : mk T ++ S = mk (ls.take (k + 1)).flatten := by rw [hfl, ← mk_append, hS]
        have ts : (mk T).size ≤ 5000 := by rw [mk_size]; exact hfs
        have lsz : S.size ≤ s.size := by rw [← hS, mk_size]; exact hl3
        have lpos : 0 < S.size := by rw [← hS, mk_size]; exact List.length_pos_iff.2 hl1.1
        have l0 : S.toList.isEmpty = false := by rw [← hS, mk_toList]; simpa using hl1.1
        have l0' : ¬ S.toList = [] := by rw [← hS, mk_toList]; exact hl1.1
        have HF := Lib.hid hap
        rw [hS] at hc
        clear hfl hl1 hap hl2 hl3 hT hfs hS hl
        obtain ⟨U, hU⟩ : ∃ U, mk T = U := ⟨_, rfl⟩
        rw [hU] at ts HF ⊢
        clear hU
        obtain ⟨n, hn⟩ : ∃ n, S.size = n + 1 := ⟨S.size - 1, by omega⟩
        have HI2 := Lib.hid hinner
        have houter' := fun h1 => houter n (by omega) h1 (by omega)
        clear hinner houter HI HE HL HC
        have hwr : IntKind.i64.wrap ((k : Int) + 1) = (k : Int) + 1 := by rw [Go.IntWalk.i64_left]; exact Go.IntWalk.wrap64_in _ (by omega)
        have hwr2 : IntKind.i64.wrap (n : Int) = (n : Int) := by rw [Go.IntWalk.i64_left, Go.IntWalk.wrap64_in _ (by omega)]
        by_cases hlast : k + 1 < ls.length
        · have hlast' : decide ((k : Int) + 1 < (ls.length : Int)) = true := by simp; omega
          have hb := houter' hlast
          have hb10 : ((S[n]'(by omega)).toNat : Int) = 10 := by simpa using hb
          have hix : ∀ w, (Instr.index 9 (.string S) (.int .i64 n)).run Tryd.prog w = .ok (.int .u8 10) w := fun w => by
            rw [run_index_string w 9 S .i64 n Tryd.underlying9, dif_pos ⟨by omega, by omega⟩]
            simp only [Int.toNat_natCast, hb10]
          clear houter' hb hb10
          go_wp2_with fail
          go_quiet (fail)
          have hx' : (wr.drewN nq).heap[w1.heap.size]? = some (.cells cs 9 (0, 0)) := hx
          have hb3 : Below w.heap.size w (wr.drewN nq) := hb2.trans (Go.Joins.below_draws _ _ _)
          have hc' : (wr.drewN nq).cell? ⟨w1.heap.size, k, none⟩ = some (.string S) := hc
          obtain ⟨w3, hw3⟩ : ∃ w3, wr.drewN nq = w3 := ⟨_, rfl⟩
          rw [hw3] at hx' hb3 hc' ⊢
          clear hx hb2 hc hw3
          go_wp2
          go_loop [6] (fun j => ∃ q : Nat, q ≤ n ∧ j = .int .i64 q) (fun j => S.size - (intOf j).toNat)
          case atStart => exact ⟨0, Nat.zero_le _, rfl⟩
          case round =>
            obtain ⟨q, hq, rfl⟩ := hrel
            by_cases hq1 : q < n
            · have hb2 := HI2.out q (by omega) (by omega)
              go_wp2
              go_round
              case rel => exact ⟨q + 1, by omega, by go_num⟩
              case measure => simp [intOf]; omega
            · obtain rfl : q = n := by omega
              go_wp2
              go_roundw
              case rel => exact ⟨k + 1, by omega, by go_num, by rw [HF.out], hx', hb3⟩
              case measure => simp [intOf]; omega
        · have hlast' : decide ((k : Int) + 1 < (ls.length : Int)) = false := by simp; omega
          clear houter'
          go_wp2_with fail
          go_quiet (fail)
          have hx' : (wr.drewN nq).heap[w1.heap.size]? = some (.cells cs 9 (0, 0)) := hx
          have hb3 : Below w.heap.size w (wr.drewN nq) := hb2.trans (Go.Joins.below_draws _ _ _)
          have hc' : (wr.drewN nq).cell? ⟨w1.heap.size, k, none⟩ = some (.string S) := hc
          obtain ⟨w3, hw3⟩ : ∃ w3, wr.drewN nq = w3 := ⟨_, rfl⟩
          rw [hw3] at hx' hb3 hc' ⊢
          clear hx hb2 hc hw3
          go_wp2
          go_loop [6] (fun j => ∃ q : Nat, q ≤ n ∧ j = .int .i64 q) (fun j => S.size - (intOf j).toNat)
          case atStart => exact ⟨0, Nat.zero_le _, rfl⟩
          case round =>
            obtain ⟨q, hq, rfl⟩ := hrel
            by_cases hq1 : q < n
            · have hb2 := HI2.out q (by omega) (by omega)
              go_wp2
              go_round
              case rel => exact ⟨q + 1, by omega, by go_num⟩
              case measure => simp [intOf]; omega
            · obtain rfl : q = n := by omega
              go_wp2
              go_roundw
              case rel => exact ⟨k + 1, by omega, by go_num, by rw [HF.out], hx', hb3⟩
              case measure => simp [intOf]; omega
      · obtain rfl : k = ls.length := by omega
        have e : (ls.take ls.length).flatten = s.data.toList := by rw [List.take_length]; exact HJ.out
        rw [e, mk_list]
        clear HE HL HC HI HJ e
        go_wp2
        go_ret
        exact ⟨by simp, hb2⟩
end Go.Proofs.YtkaejgpnhcdlnaaDoor
