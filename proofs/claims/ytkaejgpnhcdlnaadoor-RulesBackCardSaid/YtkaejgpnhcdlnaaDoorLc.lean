/- RulesBack, walked: the law's own loops. -/
import Derived.Test.YtkaejgpnhcdlnaaDoorLb
namespace Go.Proofs.YtkaejgpnhcdlnaaDoor
open Go.RowKit
set_option maxRecDepth 100000 in
set_option maxHeartbeats 4000000 in
theorem rulesBack_any (A0 A1 : Option Addr) (n0 n1 cap0 cap1 : Nat) (ps ns : List ByteArray) (m : Int) (w : World) (h0 : StrArg w A0 n0 ps) (h1 : StrArg w A1 n1 ns) (hm : w.cell? ⟨0, 0, none⟩ = some (.int .i64 m)) :
    Calls Tryd.prog 5 #[.slice A0 n0 cap0, .slice A1 n1 cap1] w fun e w' => e = .returned (.bool true) ∧ Below w.heap.size w w' := by
  have hw0 : 0 < w.heap.size := by
    rcases Nat.eq_zero_or_pos w.heap.size with h | h
    · rw [World.cell?, Array.getElem?_eq_none (by simp [h])] at hm; cases hm
    · exact h
  obtain ⟨i5, hi5, hz50, hz51, hz52⟩ := info_parts info5
  obtain ⟨i0, hi, hzz0, hzz1, hzz2⟩ := info_parts info35
  obtain ⟨l0, b0, c0, d0⟩ := h0
  obtain ⟨l1, b1, c1, d1⟩ := h1
  have HC0 := Lib.hid c0
  have HC1 := Lib.hid c1
  have HD0 := Lib.hid d0
  have HD1 := Lib.hid d1
  clear c0 c1 d0 d1
  go_enter Tryd.func5, Tryd.ntmps5
  go_wp2_with fail
  refine (speaks_any m w hm).mono ?_
  rintro e w1 ⟨rfl, hb1⟩
  go_wp2
  go_loopw [5, 6, 7, 8] (fun l i _ _ wr => ∃ (k : Nat) (acc : List Rl), k ≤ n1 ∧ k ≤ n0 ∧ k ≤ 40 ∧ acc.length ≤ k ∧ i = .int .i64 k ∧ wr.ownsRow w.heap.size 35 2 l acc.length (cells acc) ∧ Below w.heap.size w wr ∧ fits [] acc) (fun _ i _ _ _ => 40 - (intOf i).toNat)
  case atStart => exact ⟨0, [], Nat.zero_le _, Nat.zero_le _, Nat.zero_le _, Nat.le_refl _, rfl, World.ownsRow_nil _ _ _ _, hb1, trivial⟩
  case round =>
    obtain ⟨k, acc, hk1, hk0, hk4, hak, rfl, hown, hB, hfit⟩ := hrel
    have hsz := hB.size
    obtain ⟨A, cap, rfl⟩ := owns_form hown
    by_cases hin : k < n1 ∧ k < n0 ∧ k < 40
    · obtain ⟨hi1, hi0, hi4⟩ := hin
      obtain ⟨bk0, o0, rfl, hl0, hcs0⟩ := HC0.out (by omega)
      obtain ⟨bk1, o1, rfl, hl1, hcs1⟩ := HC1.out (by omega)
      have g0 := hcs0 k (by omega)
      have g1 := hcs1 k (by omega)
      have s0 := HD0.out _ (List.getElem_mem (show k < ps.length by omega))
      have s1 := HD1.out _ (List.getElem_mem (show k < ns.length by omega))
      obtain ⟨P, hP⟩ : ∃ P, ps[k]'(by omega) = P := ⟨_, rfl⟩
      obtain ⟨N, hN⟩ : ∃ P, ns[k]'(by omega) = P := ⟨_, rfl⟩
      rw [hP] at g0 s0
      rw [hN] at g1 s1
      have hk40 : decide ((k : Int) < 40) = true := by simp; omega
      clear hcs0 hcs1 hP hN HD0 HD1
      go_wp2
      go_loopw [7, 8] (fun p q wq => ∃ j : Nat, j ≤ P.size ∧ j ≤ 256 ∧ q = .int .i64 j ∧ wq.ownsRow w.heap.size 5 1 p j (Lib.byteCells ((pb P).take j)) ∧ wq.ownsRow w.heap.size 35 2 (.slice A acc.length cap) acc.length (cells acc) ∧ Below w.heap.size w wq) (fun _ q _ => 256 - (intOf q).toNat)
      case atStart => exact ⟨0, Nat.zero_le _, Nat.zero_le _, rfl, World.ownsRow_nil _ _ _ _, hown, hB⟩
      case round =>
        clear hown hB hsz
        obtain ⟨j, hj, hj2, rfl, hp, hown, hB⟩ := hrel
        have hsz := hB.size
        obtain ⟨Ap, capp, rfl⟩ := owns_form hp
        have q0 := (hB.cell (p := ⟨bk0, o0 + k, none⟩) hl0).trans g0
        by_cases hjn : j < P.size ∧ j < 256
        · obtain ⟨hjs, hj6⟩ := hjn
          have hvb := pb_byte P[j]
          have hpt := pb_take P j hjs
          have ht : P[j].toNat % 95 < 95 := Nat.mod_lt _ (by decide)
          have hv : (32 + (P[j].toNat : Int) % 95) = ((32 + P[j] % 95).toNat : Int) := by omega
          have hx : Lib.byteCells ((pb P).take j) ++ [.int .u8 (32 + (P[j].toNat : Int) % 95)] = Lib.byteCells ((pb P).take (j + 1)) := by
            rw [hpt, byteCells_append, hv]; rfl
          have HX := Lib.hid hx
          clear hv hpt hvb hx
          go_wp2_with (at_builtin; refine wpList_append_own _ rfl (.tmp 44) (.tmp 53) 38 rfl w.heap.size 5 i5 _ 1 1 Tryd.underlying38 hi5 hz50 hz51 hz52 rfl (by decide) _ _ _ rfl (hp.alloc _) ⟨wr.heap.size, 0, none⟩ 1 1 [.int .u8 (32 + (P[j].toNat : Int) % 95)] rfl rfl ?c1 ?c2 ?c3 ?c4 ?c5 ?_)
          case c1 => exact World.news_of_block (cs := #[.int .u8 (32 + (P[j].toNat : Int) % 95)]) (t := 5) (fr := (0, 0)) (heap_alloc_new _ _)
          case c2 => simp [Value.oneCell']
          case c3 => simp only [maxLen]; omega
          case c4 => omega
          case c5 => simp; omega
          intro v' w2 hp' hgr _
          rw [HX.out] at hp'
          have hown' := (hown.alloc (.cells #[.int .u8 (32 + (P[j].toNat : Int) % 95)] 5)).kept hgr ((own_apart hp hown (by decide)).imp id Ne.symm)
          have hB' : Below w.heap.size w w2 := (hB.alloc hsz _).grown hgr (by simp; omega) (fun g e => (hp.lt g e).1)
          clear HX hp hown hB hgr q0
          go_wp2
          go_roundw
          case rel => exact ⟨j + 1, by omega, by omega, by go_num, hp', hown', hB'⟩
          case measure => simp [intOf]; omega
        · have hjn' : j = P.size ∨ j = 256 := by omega
          have r1 := (hB.cell (p := ⟨bk1, o1 + k, none⟩) hl1).trans g1
          have K1 : ∀ w, Calls Tryd.prog 12 #[.string N] w fun e w' => e = .returned (.bool (good N.data.toList)) ∧ w' = w := fun w => (good_any N w s1).mono fun _ _ ⟨h1, h2⟩ => ⟨h1, h2.symm⟩
          have hj256 : decide ((j : Int) < 256) = false ∨ decide ((j : Int) < (P.size : Int)) = false := by
            rcases hjn' with h | h
            · exact .inr (by simp; omega)
            · exact .inl (by simp; omega)
          obtain ⟨L, hL⟩ : ∃ L, acc.length = L := ⟨_, rfl⟩
          obtain ⟨bn, hbn⟩ : ∃ b, good N.data.toList = b := ⟨_, rfl⟩
          rw [hbn] at K1
          rw [hL] at hown hak ⊢
          clear HC0 HC1
          have hjz : j = P.size ∨ (j < P.size ∧ j = 256) := by omega
          rcases hjz with rfl | ⟨hjz, rfl⟩
          · cases bn
            · go_wp2_with fail
              go_quiet ((go_at_call 12; exact Calls.quiet_of_same (K1 _)))
              have hown3 : (wr.drewN nq).ownsRow w.heap.size 35 2 (.slice A L cap) L (cells acc) := hown
              have hB3 : Below w.heap.size w (wr.drewN nq) := hB.trans (Go.Joins.below_draws _ _ _)
              clear hown hB
              go_wp2
              go_roundw
              case rel => exact ⟨k + 1, acc, by omega, by omega, by omega, by rw [hL]; omega, by go_num, by rw [hL]; exact hown3, hB3, hfit⟩
              case measure => simp [intOf]; omega
            · rcases Nat.eq_zero_or_pos (P.size) with hj0 | hj0
              · have hjd : decide ((0 : Int) < (P.size : Int)) = false := by rw [hj0]; rfl
                go_wp2_with fail
                go_quiet ((go_at_call 12; exact Calls.quiet_of_same (K1 _)))
                have hown3 : (wr.drewN nq).ownsRow w.heap.size 35 2 (.slice A L cap) L (cells acc) := hown
                have hB3 : Below w.heap.size w (wr.drewN nq) := hB.trans (Go.Joins.below_draws _ _ _)
                clear hown hB
                go_wp2
                go_roundw
                case rel => exact ⟨k + 1, acc, by omega, by omega, by omega, by rw [hL]; omega, by go_num, by rw [hL]; exact hown3, hB3, hfit⟩
                case measure => simp [intOf]; omega
              · rcases Nat.eq_zero_or_pos L with rfl | hL0
                · have hpat := pb_pat P P.size (by omega) (by omega) (by omega)
                  have hfit2 : fits [] (acc ++ [(N.data.toList, (pb P).take P.size)]) := (fits_append acc [_] []).2 ⟨hfit, fun h => absurd h (by rw [List.nil_append, hL]; omega), ⟨hbn, hpat⟩, trivial⟩
                  have hFit2 := Lib.hid hfit2
                  clear hpat hfit2 hfit
                  have hplen : ((pb P).take P.size).length = P.size := by rw [List.length_take, pb, List.length_map, ← Lib.size_eq]; omega
                  go_wp2_with fail
                  go_quiet ((go_at_call 12; exact Calls.quiet_of_same (K1 _)))
                  have hown3 : (wr.drewN nq).ownsRow w.heap.size 35 2 (.slice A 0 cap) 0 (cells acc) := hown
                  have hp3 : (wr.drewN nq).ownsRow w.heap.size 5 1 (.slice Ap P.size capp) P.size (Lib.byteCells ((pb P).take P.size)) := hp
                  have hB3 : Below w.heap.size w (wr.drewN nq) := hB.trans (Go.Joins.below_draws _ _ _)
                  have r3 : (wr.drewN nq).cell? ⟨bk1, o1 + k, none⟩ = some (.string N) := r1
                  have hsz3 := hB3.size
                  obtain ⟨w3, hw3⟩ : ∃ w3, wr.drewN nq = w3 := ⟨_, rfl⟩
                  rw [hw3] at hown3 hB3 hp3 r3 hsz3 ⊢
                  clear hown hB hp r1 hw3
                  obtain ⟨gp, rfl⟩ := own_addr hp3 (by omega)
                  have hcv : ∀ w' : World, (∀ i, i < P.size → w'.cell? ⟨gp, i, none⟩ = w3.cell? ⟨gp, i, none⟩) → (convert 38 9 (.slice (some ⟨gp, 0, none⟩) P.size capp)).run Tryd.prog w' = .ok (.string (mk ((pb P).take P.size))) w' := fun w' hw' => by
                    have := run_convert_bytes_back (P := Tryd.prog) w' 38 9 5 ⟨gp, 0, none⟩ capp ((pb P).take P.size) Tryd.underlying38 Tryd.underlying5 Tryd.underlying9 (fun i hi' => by
                      have hadd : (⟨gp, 0, none⟩ : Addr).add i = ⟨gp, i, none⟩ := by unfold Addr.add; split <;> simp_all
                      rw [hadd, hw' i (by omega), hp3.cellAt i (by omega)]
                      rw [Lib.byteCells, List.getElem?_map, List.getElem?_eq_getElem hi']; rfl)
                    rw [hplen] at this
                    exact this
                  have hgl := (hp3.lt gp rfl).2
                  have hne1 : some bk1 ≠ (Value.slice A 0 cap).ownBlock := fun e => by have := (hown3.lt bk1 e.symm).1; omega
                  have hne2 : some gp ≠ (Value.slice A 0 cap).ownBlock := fun e => by
                    rcases own_apart hp3 hown3 (by decide) with h | h
                    · rw [h] at e; cases e
                    · exact h e
                  have kA : ∀ o, ((w3.alloc o).drew).cell? ⟨bk1, o1 + k, none⟩ = some (.string N) := fun o => (((Below.refl w3.heap.size w3).alloc (Nat.le_refl _) o).cell (p := ⟨bk1, o1 + k, none⟩) (show bk1 < w3.heap.size by omega)).trans r3
                  have kG : ∀ o i, ((w3.alloc o).drew).cell? ⟨gp, i, none⟩ = w3.cell? ⟨gp, i, none⟩ := fun o i => ((Below.refl w3.heap.size w3).alloc (Nat.le_refl _) o).cell (p := ⟨gp, i, none⟩) hgl
                  go_wp2_with fail
                  go_region_held3 (fun w' => w'.cell? ⟨bk1, o1 + k, none⟩ = some (.string N) ∧ (convert 38 9 (.slice (some ⟨gp, 0, none⟩) P.size capp)).run Tryd.prog w' = .ok (.string (mk ((pb P).take P.size))) w')
                    (first
                      | exact ⟨r3, hcv _ (fun _ _ => rfl)⟩
                      | exact ⟨kA _, hcv _ (fun i _ => kG _ i)⟩
                      | exact ⟨(hgr4.cell_far _ (by simp; omega) hne1).trans (kA _), hcv _ (fun i _ => (hgr4.cell_far ⟨gp, i, none⟩ (by simp; omega) hne2).trans (kG _ i))⟩)
                    ((refine step_append_lies _ (by rfl) _ _ _ (by rfl) w.heap.size 35 i0 _ 2 32 Tryd.underlying26 hi hzz0 hzz1 hzz2 rfl (by omega) (.slice A 0 cap) 0 (cells acc) (by rfl) ((hown3.alloc _).drew)
                        ⟨w3.heap.size, 0, none⟩ 1 1 [.string N, .string (mk ((pb P).take P.size))] (by rfl) (by rfl) (World.news_of_block (cs := #[.string N, .string (mk ((pb P).take P.size))]) (t := 35) (fr := (0, 0)) (heap_alloc_new w3 _)) (by simp [Value.oneCell'])
                        (by omega) (by simp only [maxLen]; omega) (by omega) (by simp; omega) (w3.heap.size + 1) (by simp) ?_; intro g4 cap4 w4 hown4 hgr4 hat4 hlt4))
                  have hB4 : Below w.heap.size w w4 := ((hB3.alloc hsz3 _).drew).grown hgr4 (by simp; omega) (fun g e => (hown3.lt g e).1)
                  have hown5 : w4.ownsRow w.heap.size 35 2 (.slice (some ⟨g4, 0, none⟩) (0 + 1) cap4) (0 + 1) (cells (acc ++ [(N.data.toList, (pb P).take P.size)])) := by rw [cells_snoc]; exact hown4
                  clear hown4 hgr4 hat4 hown3 hB3
                  go_wp2
                  go_roundw
                  case rel => exact ⟨k + 1, acc ++ [(N.data.toList, (pb P).take P.size)], by omega, by omega, by omega, by rw [List.length_append, hL]; show 0 + 1 ≤ k + 1; omega, by go_num, by rw [List.length_append, hL]; exact hown5, hB4, hFit2.out⟩
                  case measure => simp [intOf]; omega
                · obtain ⟨L', rfl⟩ : ∃ L', L = L' + 1 := ⟨L - 1, by omega⟩
                  obtain ⟨g, rfl⟩ := own_addr hown (by omega)
                  have hla := lastN_at acc L' hL
                  have hcl2 := (hown.cellAt (L' * 2) (by omega)).trans (cells_at acc L' (by omega)).1
                  obtain ⟨pr, hpr⟩ : ∃ x, acc[L'].1 = x := ⟨_, rfl⟩
                  rw [hpr] at hla hcl2
                  have hz : ((L' : Int) + 1 == 0) = false := by simp; omega
                  have hwr : IntKind.i64.wrap (L' : Int) = (L' : Int) := by rw [Go.IntWalk.i64_left, Go.IntWalk.wrap64_in _ (by omega)]
                  rcases hle : leqB N.data.toList pr with _ | _
                  · have hle' : (Op.bytesLess N.toList (mk pr).toList || N.toList == (mk pr).toList) = false := by rw [mk_toList, bytes_list]; exact hle
                    have hpat := pb_pat P P.size (by omega) (by omega) (by omega)
                    have hfit2 : fits [] (acc ++ [(N.data.toList, (pb P).take P.size)]) := (fits_append acc [_] []).2 ⟨hfit, fun _ => by rw [List.nil_append, hla]; exact hle, ⟨hbn, hpat⟩, trivial⟩
                    have hFit2 := Lib.hid hfit2
                    clear hpat hfit2 hfit
                    have hplen : ((pb P).take P.size).length = P.size := by rw [List.length_take, pb, List.length_map, ← Lib.size_eq]; omega
                    go_wp2_with fail
                    go_quiet ((go_at_call 12; exact Calls.quiet_of_same (K1 _)))
                    have hown3 : (wr.drewN nq).ownsRow w.heap.size 35 2 (.slice (some ⟨g, 0, none⟩) (L' + 1) cap) (L' + 1) (cells acc) := hown
                    have hp3 : (wr.drewN nq).ownsRow w.heap.size 5 1 (.slice Ap P.size capp) P.size (Lib.byteCells ((pb P).take P.size)) := hp
                    have hB3 : Below w.heap.size w (wr.drewN nq) := hB.trans (Go.Joins.below_draws _ _ _)
                    have r3 : (wr.drewN nq).cell? ⟨bk1, o1 + k, none⟩ = some (.string N) := r1
                    have hsz3 := hB3.size
                    obtain ⟨w3, hw3⟩ : ∃ w3, wr.drewN nq = w3 := ⟨_, rfl⟩
                    rw [hw3] at hown3 hB3 hp3 r3 hsz3 ⊢
                    clear hown hB hp r1 hw3
                    obtain ⟨gp, rfl⟩ := own_addr hp3 (by omega)
                    have hcv : ∀ w' : World, (∀ i, i < P.size → w'.cell? ⟨gp, i, none⟩ = w3.cell? ⟨gp, i, none⟩) → (convert 38 9 (.slice (some ⟨gp, 0, none⟩) P.size capp)).run Tryd.prog w' = .ok (.string (mk ((pb P).take P.size))) w' := fun w' hw' => by
                      have := run_convert_bytes_back (P := Tryd.prog) w' 38 9 5 ⟨gp, 0, none⟩ capp ((pb P).take P.size) Tryd.underlying38 Tryd.underlying5 Tryd.underlying9 (fun i hi' => by
                        have hadd : (⟨gp, 0, none⟩ : Addr).add i = ⟨gp, i, none⟩ := by unfold Addr.add; split <;> simp_all
                        rw [hadd, hw' i (by omega), hp3.cellAt i (by omega)]
                        rw [Lib.byteCells, List.getElem?_map, List.getElem?_eq_getElem hi']; rfl)
                      rw [hplen] at this
                      exact this
                    have hgl := (hp3.lt gp rfl).2
                    have hne1 : some bk1 ≠ (Value.slice (some ⟨g, 0, none⟩) (L' + 1) cap).ownBlock := fun e => by have := (hown3.lt bk1 e.symm).1; omega
                    have hne2 : some gp ≠ (Value.slice (some ⟨g, 0, none⟩) (L' + 1) cap).ownBlock := fun e => by
                      rcases own_apart hp3 hown3 (by decide) with h | h
                      · rw [h] at e; cases e
                      · exact h e
                    have kA : ∀ o, ((w3.alloc o).drew).cell? ⟨bk1, o1 + k, none⟩ = some (.string N) := fun o => (((Below.refl w3.heap.size w3).alloc (Nat.le_refl _) o).cell (p := ⟨bk1, o1 + k, none⟩) (show bk1 < w3.heap.size by omega)).trans r3
                    have kG : ∀ o i, ((w3.alloc o).drew).cell? ⟨gp, i, none⟩ = w3.cell? ⟨gp, i, none⟩ := fun o i => ((Below.refl w3.heap.size w3).alloc (Nat.le_refl _) o).cell (p := ⟨gp, i, none⟩) hgl
                    go_wp2_with fail
                    go_region_held3 (fun w' => w'.cell? ⟨bk1, o1 + k, none⟩ = some (.string N) ∧ (convert 38 9 (.slice (some ⟨gp, 0, none⟩) P.size capp)).run Tryd.prog w' = .ok (.string (mk ((pb P).take P.size))) w')
                      (first
                        | exact ⟨r3, hcv _ (fun _ _ => rfl)⟩
                        | exact ⟨kA _, hcv _ (fun i _ => kG _ i)⟩
                        | exact ⟨(hgr4.cell_far _ (by simp; omega) hne1).trans (kA _), hcv _ (fun i _ => (hgr4.cell_far ⟨gp, i, none⟩ (by simp; omega) hne2).trans (kG _ i))⟩)
                      ((refine step_append_lies _ (by rfl) _ _ _ (by rfl) w.heap.size 35 i0 _ 2 32 Tryd.underlying26 hi hzz0 hzz1 hzz2 rfl (by omega) (.slice (some ⟨g, 0, none⟩) (L' + 1) cap) (L' + 1) (cells acc) (by rfl) ((hown3.alloc _).drew)
                          ⟨w3.heap.size, 0, none⟩ 1 1 [.string N, .string (mk ((pb P).take P.size))] (by rfl) (by rfl) (World.news_of_block (cs := #[.string N, .string (mk ((pb P).take P.size))]) (t := 35) (fr := (0, 0)) (heap_alloc_new w3 _)) (by simp [Value.oneCell'])
                          (by omega) (by simp only [maxLen]; omega) (by omega) (by simp; omega) (w3.heap.size + 1) (by simp) ?_; intro g4 cap4 w4 hown4 hgr4 hat4 hlt4))
                    have hB4 : Below w.heap.size w w4 := ((hB3.alloc hsz3 _).drew).grown hgr4 (by simp; omega) (fun g e => (hown3.lt g e).1)
                    have hown5 : w4.ownsRow w.heap.size 35 2 (.slice (some ⟨g4, 0, none⟩) ((L' + 1) + 1) cap4) ((L' + 1) + 1) (cells (acc ++ [(N.data.toList, (pb P).take P.size)])) := by rw [cells_snoc]; exact hown4
                    clear hown4 hgr4 hat4 hown3 hB3
                    go_wp2
                    go_roundw
                    case rel => exact ⟨k + 1, acc ++ [(N.data.toList, (pb P).take P.size)], by omega, by omega, by omega, by rw [List.length_append, hL]; show (L' + 1) + 1 ≤ k + 1; omega, by go_num, by rw [List.length_append, hL]; exact hown5, hB4, hFit2.out⟩
                    case measure => simp [intOf]; omega
                  · have hle' : (Op.bytesLess N.toList (mk pr).toList || N.toList == (mk pr).toList) = true := by rw [mk_toList, bytes_list]; exact hle
                    go_wp2_with fail
                    go_quiet ((go_at_call 12; exact Calls.quiet_of_same (K1 _)))
                    have hown3 : (wr.drewN nq).ownsRow w.heap.size 35 2 (.slice (some ⟨g, 0, none⟩) (L' + 1) cap) (L' + 1) (cells acc) := hown
                    have hB3 : Below w.heap.size w (wr.drewN nq) := hB.trans (Go.Joins.below_draws _ _ _)
                    clear hown hB
                    go_wp2
                    go_roundw
                    case rel => exact ⟨k + 1, acc, by omega, by omega, by omega, by rw [hL]; omega, by go_num, by rw [hL]; exact hown3, hB3, hfit⟩
                    case measure => simp [intOf]; omega
          · cases bn
            · go_wp2_with fail
              go_quiet ((go_at_call 12; exact Calls.quiet_of_same (K1 _)))
              have hown3 : (wr.drewN nq).ownsRow w.heap.size 35 2 (.slice A L cap) L (cells acc) := hown
              have hB3 : Below w.heap.size w (wr.drewN nq) := hB.trans (Go.Joins.below_draws _ _ _)
              clear hown hB
              go_wp2
              go_roundw
              case rel => exact ⟨k + 1, acc, by omega, by omega, by omega, by rw [hL]; omega, by go_num, by rw [hL]; exact hown3, hB3, hfit⟩
              case measure => simp [intOf]; omega
            · rcases Nat.eq_zero_or_pos 256 with hj0 | hj0
              · omega
              · rcases Nat.eq_zero_or_pos L with rfl | hL0
                · have hpat := pb_pat P 256 (by omega) (by omega) (by omega)
                  have hfit2 : fits [] (acc ++ [(N.data.toList, (pb P).take 256)]) := (fits_append acc [_] []).2 ⟨hfit, fun h => absurd h (by rw [List.nil_append, hL]; omega), ⟨hbn, hpat⟩, trivial⟩
                  have hFit2 := Lib.hid hfit2
                  clear hpat hfit2 hfit
                  have hplen : ((pb P).take 256).length = 256 := by rw [List.length_take, pb, List.length_map, ← Lib.size_eq]; omega
                  go_wp2_with fail
                  go_quiet ((go_at_call 12; exact Calls.quiet_of_same (K1 _)))
                  have hown3 : (wr.drewN nq).ownsRow w.heap.size 35 2 (.slice A 0 cap) 0 (cells acc) := hown
                  have hp3 : (wr.drewN nq).ownsRow w.heap.size 5 1 (.slice Ap 256 capp) 256 (Lib.byteCells ((pb P).take 256)) := hp
                  have hB3 : Below w.heap.size w (wr.drewN nq) := hB.trans (Go.Joins.below_draws _ _ _)
                  have r3 : (wr.drewN nq).cell? ⟨bk1, o1 + k, none⟩ = some (.string N) := r1
                  have hsz3 := hB3.size
                  obtain ⟨w3, hw3⟩ : ∃ w3, wr.drewN nq = w3 := ⟨_, rfl⟩
                  rw [hw3] at hown3 hB3 hp3 r3 hsz3 ⊢
                  clear hown hB hp r1 hw3
                  obtain ⟨gp, rfl⟩ := own_addr hp3 (by omega)
                  have hcv : ∀ w' : World, (∀ i, i < 256 → w'.cell? ⟨gp, i, none⟩ = w3.cell? ⟨gp, i, none⟩) → (convert 38 9 (.slice (some ⟨gp, 0, none⟩) 256 capp)).run Tryd.prog w' = .ok (.string (mk ((pb P).take 256))) w' := fun w' hw' => by
                    have := run_convert_bytes_back (P := Tryd.prog) w' 38 9 5 ⟨gp, 0, none⟩ capp ((pb P).take 256) Tryd.underlying38 Tryd.underlying5 Tryd.underlying9 (fun i hi' => by
                      have hadd : (⟨gp, 0, none⟩ : Addr).add i = ⟨gp, i, none⟩ := by unfold Addr.add; split <;> simp_all
                      rw [hadd, hw' i (by omega), hp3.cellAt i (by omega)]
                      rw [Lib.byteCells, List.getElem?_map, List.getElem?_eq_getElem hi']; rfl)
                    rw [hplen] at this
                    exact this
                  have hgl := (hp3.lt gp rfl).2
                  have hne1 : some bk1 ≠ (Value.slice A 0 cap).ownBlock := fun e => by have := (hown3.lt bk1 e.symm).1; omega
                  have hne2 : some gp ≠ (Value.slice A 0 cap).ownBlock := fun e => by
                    rcases own_apart hp3 hown3 (by decide) with h | h
                    · rw [h] at e; cases e
                    · exact h e
                  have kA : ∀ o, ((w3.alloc o).drew).cell? ⟨bk1, o1 + k, none⟩ = some (.string N) := fun o => (((Below.refl w3.heap.size w3).alloc (Nat.le_refl _) o).cell (p := ⟨bk1, o1 + k, none⟩) (show bk1 < w3.heap.size by omega)).trans r3
                  have kG : ∀ o i, ((w3.alloc o).drew).cell? ⟨gp, i, none⟩ = w3.cell? ⟨gp, i, none⟩ := fun o i => ((Below.refl w3.heap.size w3).alloc (Nat.le_refl _) o).cell (p := ⟨gp, i, none⟩) hgl
                  go_wp2_with fail
                  go_region_held3 (fun w' => w'.cell? ⟨bk1, o1 + k, none⟩ = some (.string N) ∧ (convert 38 9 (.slice (some ⟨gp, 0, none⟩) 256 capp)).run Tryd.prog w' = .ok (.string (mk ((pb P).take 256))) w')
                    (first
                      | exact ⟨r3, hcv _ (fun _ _ => rfl)⟩
                      | exact ⟨kA _, hcv _ (fun i _ => kG _ i)⟩
                      | exact ⟨(hgr4.cell_far _ (by simp; omega) hne1).trans (kA _), hcv _ (fun i _ => (hgr4.cell_far ⟨gp, i, none⟩ (by simp; omega) hne2).trans (kG _ i))⟩)
                    ((refine step_append_lies _ (by rfl) _ _ _ (by rfl) w.heap.size 35 i0 _ 2 32 Tryd.underlying26 hi hzz0 hzz1 hzz2 rfl (by omega) (.slice A 0 cap) 0 (cells acc) (by rfl) ((hown3.alloc _).drew)
                        ⟨w3.heap.size, 0, none⟩ 1 1 [.string N, .string (mk ((pb P).take 256))] (by rfl) (by rfl) (World.news_of_block (cs := #[.string N, .string (mk ((pb P).take 256))]) (t := 35) (fr := (0, 0)) (heap_alloc_new w3 _)) (by simp [Value.oneCell'])
                        (by omega) (by simp only [maxLen]; omega) (by omega) (by simp; omega) (w3.heap.size + 1) (by simp) ?_; intro g4 cap4 w4 hown4 hgr4 hat4 hlt4))
                  have hB4 : Below w.heap.size w w4 := ((hB3.alloc hsz3 _).drew).grown hgr4 (by simp; omega) (fun g e => (hown3.lt g e).1)
                  have hown5 : w4.ownsRow w.heap.size 35 2 (.slice (some ⟨g4, 0, none⟩) (0 + 1) cap4) (0 + 1) (cells (acc ++ [(N.data.toList, (pb P).take 256)])) := by rw [cells_snoc]; exact hown4
                  clear hown4 hgr4 hat4 hown3 hB3
                  go_wp2
                  go_roundw
                  case rel => exact ⟨k + 1, acc ++ [(N.data.toList, (pb P).take 256)], by omega, by omega, by omega, by rw [List.length_append, hL]; show 0 + 1 ≤ k + 1; omega, by go_num, by rw [List.length_append, hL]; exact hown5, hB4, hFit2.out⟩
                  case measure => simp [intOf]; omega
                · obtain ⟨L', rfl⟩ : ∃ L', L = L' + 1 := ⟨L - 1, by omega⟩
                  obtain ⟨g, rfl⟩ := own_addr hown (by omega)
                  have hla := lastN_at acc L' hL
                  have hcl2 := (hown.cellAt (L' * 2) (by omega)).trans (cells_at acc L' (by omega)).1
                  obtain ⟨pr, hpr⟩ : ∃ x, acc[L'].1 = x := ⟨_, rfl⟩
                  rw [hpr] at hla hcl2
                  have hz : ((L' : Int) + 1 == 0) = false := by simp; omega
                  have hwr : IntKind.i64.wrap (L' : Int) = (L' : Int) := by rw [Go.IntWalk.i64_left, Go.IntWalk.wrap64_in _ (by omega)]
                  rcases hle : leqB N.data.toList pr with _ | _
                  · have hle' : (Op.bytesLess N.toList (mk pr).toList || N.toList == (mk pr).toList) = false := by rw [mk_toList, bytes_list]; exact hle
                    have hpat := pb_pat P 256 (by omega) (by omega) (by omega)
                    have hfit2 : fits [] (acc ++ [(N.data.toList, (pb P).take 256)]) := (fits_append acc [_] []).2 ⟨hfit, fun _ => by rw [List.nil_append, hla]; exact hle, ⟨hbn, hpat⟩, trivial⟩
                    have hFit2 := Lib.hid hfit2
                    clear hpat hfit2 hfit
                    have hplen : ((pb P).take 256).length = 256 := by rw [List.length_take, pb, List.length_map, ← Lib.size_eq]; omega
                    go_wp2_with fail
                    go_quiet ((go_at_call 12; exact Calls.quiet_of_same (K1 _)))
                    have hown3 : (wr.drewN nq).ownsRow w.heap.size 35 2 (.slice (some ⟨g, 0, none⟩) (L' + 1) cap) (L' + 1) (cells acc) := hown
                    have hp3 : (wr.drewN nq).ownsRow w.heap.size 5 1 (.slice Ap 256 capp) 256 (Lib.byteCells ((pb P).take 256)) := hp
                    have hB3 : Below w.heap.size w (wr.drewN nq) := hB.trans (Go.Joins.below_draws _ _ _)
                    have r3 : (wr.drewN nq).cell? ⟨bk1, o1 + k, none⟩ = some (.string N) := r1
                    have hsz3 := hB3.size
                    obtain ⟨w3, hw3⟩ : ∃ w3, wr.drewN nq = w3 := ⟨_, rfl⟩
                    rw [hw3] at hown3 hB3 hp3 r3 hsz3 ⊢
                    clear hown hB hp r1 hw3
                    obtain ⟨gp, rfl⟩ := own_addr hp3 (by omega)
                    have hcv : ∀ w' : World, (∀ i, i < 256 → w'.cell? ⟨gp, i, none⟩ = w3.cell? ⟨gp, i, none⟩) → (convert 38 9 (.slice (some ⟨gp, 0, none⟩) 256 capp)).run Tryd.prog w' = .ok (.string (mk ((pb P).take 256))) w' := fun w' hw' => by
                      have := run_convert_bytes_back (P := Tryd.prog) w' 38 9 5 ⟨gp, 0, none⟩ capp ((pb P).take 256) Tryd.underlying38 Tryd.underlying5 Tryd.underlying9 (fun i hi' => by
                        have hadd : (⟨gp, 0, none⟩ : Addr).add i = ⟨gp, i, none⟩ := by unfold Addr.add; split <;> simp_all
                        rw [hadd, hw' i (by omega), hp3.cellAt i (by omega)]
                        rw [Lib.byteCells, List.getElem?_map, List.getElem?_eq_getElem hi']; rfl)
                      rw [hplen] at this
                      exact this
                    have hgl := (hp3.lt gp rfl).2
                    have hne1 : some bk1 ≠ (Value.slice (some ⟨g, 0, none⟩) (L' + 1) cap).ownBlock := fun e => by have := (hown3.lt bk1 e.symm).1; omega
                    have hne2 : some gp ≠ (Value.slice (some ⟨g, 0, none⟩) (L' + 1) cap).ownBlock := fun e => by
                      rcases own_apart hp3 hown3 (by decide) with h | h
                      · rw [h] at e; cases e
                      · exact h e
                    have kA : ∀ o, ((w3.alloc o).drew).cell? ⟨bk1, o1 + k, none⟩ = some (.string N) := fun o => (((Below.refl w3.heap.size w3).alloc (Nat.le_refl _) o).cell (p := ⟨bk1, o1 + k, none⟩) (show bk1 < w3.heap.size by omega)).trans r3
                    have kG : ∀ o i, ((w3.alloc o).drew).cell? ⟨gp, i, none⟩ = w3.cell? ⟨gp, i, none⟩ := fun o i => ((Below.refl w3.heap.size w3).alloc (Nat.le_refl _) o).cell (p := ⟨gp, i, none⟩) hgl
                    go_wp2_with fail
                    go_region_held3 (fun w' => w'.cell? ⟨bk1, o1 + k, none⟩ = some (.string N) ∧ (convert 38 9 (.slice (some ⟨gp, 0, none⟩) 256 capp)).run Tryd.prog w' = .ok (.string (mk ((pb P).take 256))) w')
                      (first
                        | exact ⟨r3, hcv _ (fun _ _ => rfl)⟩
                        | exact ⟨kA _, hcv _ (fun i _ => kG _ i)⟩
                        | exact ⟨(hgr4.cell_far _ (by simp; omega) hne1).trans (kA _), hcv _ (fun i _ => (hgr4.cell_far ⟨gp, i, none⟩ (by simp; omega) hne2).trans (kG _ i))⟩)
                      ((refine step_append_lies _ (by rfl) _ _ _ (by rfl) w.heap.size 35 i0 _ 2 32 Tryd.underlying26 hi hzz0 hzz1 hzz2 rfl (by omega) (.slice (some ⟨g, 0, none⟩) (L' + 1) cap) (L' + 1) (cells acc) (by rfl) ((hown3.alloc _).drew)
                          ⟨w3.heap.size, 0, none⟩ 1 1 [.string N, .string (mk ((pb P).take 256))] (by rfl) (by rfl) (World.news_of_block (cs := #[.string N, .string (mk ((pb P).take 256))]) (t := 35) (fr := (0, 0)) (heap_alloc_new w3 _)) (by simp [Value.oneCell'])
                          (by omega) (by simp only [maxLen]; omega) (by omega) (by simp; omega) (w3.heap.size + 1) (by simp) ?_; intro g4 cap4 w4 hown4 hgr4 hat4 hlt4))
                    have hB4 : Below w.heap.size w w4 := ((hB3.alloc hsz3 _).drew).grown hgr4 (by simp; omega) (fun g e => (hown3.lt g e).1)
                    have hown5 : w4.ownsRow w.heap.size 35 2 (.slice (some ⟨g4, 0, none⟩) ((L' + 1) + 1) cap4) ((L' + 1) + 1) (cells (acc ++ [(N.data.toList, (pb P).take 256)])) := by rw [cells_snoc]; exact hown4
                    clear hown4 hgr4 hat4 hown3 hB3
                    go_wp2
                    go_roundw
                    case rel => exact ⟨k + 1, acc ++ [(N.data.toList, (pb P).take 256)], by omega, by omega, by omega, by rw [List.length_append, hL]; show (L' + 1) + 1 ≤ k + 1; omega, by go_num, by rw [List.length_append, hL]; exact hown5, hB4, hFit2.out⟩
                    case measure => simp [intOf]; omega
                  · have hle' : (Op.bytesLess N.toList (mk pr).toList || N.toList == (mk pr).toList) = true := by rw [mk_toList, bytes_list]; exact hle
                    go_wp2_with fail
                    go_quiet ((go_at_call 12; exact Calls.quiet_of_same (K1 _)))
                    have hown3 : (wr.drewN nq).ownsRow w.heap.size 35 2 (.slice (some ⟨g, 0, none⟩) (L' + 1) cap) (L' + 1) (cells acc) := hown
                    have hB3 : Below w.heap.size w (wr.drewN nq) := hB.trans (Go.Joins.below_draws _ _ _)
                    clear hown hB
                    go_wp2
                    go_roundw
                    case rel => exact ⟨k + 1, acc, by omega, by omega, by omega, by rw [hL]; omega, by go_num, by rw [hL]; exact hown3, hB3, hfit⟩
                    case measure => simp [intOf]; omega
    · have hexit : k = n1 ∨ k = n0 ∨ k = 40 := by omega
      have hok := fits_ok acc [] hfit
      have hsl := show_len acc hok
      have hpp := show_parse acc (by omega) hfit (by omega)
      have K1 := show_any w.heap.size (.slice A acc.length cap) acc wr hown (by omega) (by omega)
      have K2 := fun w hm => parse_any (mk (showS acc)) m w (by rw [mk_size]; omega) hm
      rw [mk_data, hpp] at K2
      obtain ⟨L, hL⟩ : ∃ L, acc.length = L := ⟨_, rfl⟩
      rw [hL] at hown K1 hak ⊢
      have hat : ∀ i, i < L → ∃ a b : ByteArray, (cells acc)[i * 2]? = some (.string a) ∧ (cells acc)[i * 2 + 1]? = some (.string b) := fun i h => ⟨_, _, cells_at acc i (by omega)⟩
      obtain ⟨cl, hcl⟩ : ∃ c, cells acc = c := ⟨_, rfl⟩
      simp only [hL, hcl] at K2 hat hown
      have HAt := Lib.hid hat
      have HK1 := Lib.hid K1
      have HK2 := Lib.hid K2
      clear hok hsl hpp hat K1 K2 hfit HC0 HC1 HD0 HD1
      have hexit' : k = n1 ∨ (k < n1 ∧ k = n0) ∨ (k < n1 ∧ k < n0 ∧ k = 40) := by omega
      clear hexit
      rcases hexit' with rfl | ⟨hx1, rfl⟩ | ⟨hx1, hx2, rfl⟩
      · go_wp2_with fail
        refine HK1.out.mono ?_
        rintro e w2 ⟨rfl, hb2⟩
        have hB2 : Below w.heap.size w w2 := hB.trans (hb2.mono hsz)
        have hsz2 := hB2.size
        have hown2 := own_below hown hb2
        have hK2 := HK2.out w2 ((hB2.cell (p := ⟨0, 0, none⟩) hw0).trans hm)
        clear HK1 HK2 hown hb2 hB
        go_wp2_with fail
        refine hK2.mono ?_
        rintro e w3 ⟨v3, rfl, ho3, hb3⟩
        obtain ⟨A3, cap3, rfl⟩ := owns_form ho3
        have hB3 : Below w.heap.size w w3 := hB2.trans (hb3.mono hsz2)
        have hown3 := own_below hown2 hb3
        clear hown2 hb3 hB2 hK2
        go_wp2
        go_loopw [12] (fun i wq => ∃ j : Nat, j ≤ L ∧ i = .int .i64 j ∧ wq.ownsRow w.heap.size 35 2 (.slice A L cap) L cl ∧ wq.ownsRow w2.heap.size 35 2 (.slice A3 L cap3) L cl ∧ Below w.heap.size w wq) (fun i _ => L - (intOf i).toNat)
        case atStart => exact ⟨0, Nat.zero_le _, rfl, hown3, ho3, hB3⟩
        case round =>
          clear hown3 ho3 hB3
          obtain ⟨j, hj, rfl, ho1, ho2, hB⟩ := hrel
          by_cases hlt : j < L
          · obtain ⟨a, b, ha, hb⟩ := HAt.out j hlt
            obtain ⟨g1, rfl⟩ := own_addr ho1 (by omega)
            obtain ⟨g2, rfl⟩ := own_addr ho2 (by omega)
            have c1 := (ho1.cellAt (j * 2) (by omega)).trans ha
            have c2 := (ho1.cellAt (j * 2 + 1) (by omega)).trans hb
            have c3 := (ho2.cellAt (j * 2) (by omega)).trans ha
            have c4 := (ho2.cellAt (j * 2 + 1) (by omega)).trans hb
            clear ha hb HAt
            go_wp2_with fail
            go_quiet (fail)
            have ho1' : (wr.drewN nq).ownsRow w.heap.size 35 2 (.slice (some ⟨g1, 0, none⟩) L cap) L cl := ho1
            have ho2' : (wr.drewN nq).ownsRow w2.heap.size 35 2 (.slice (some ⟨g2, 0, none⟩) L cap3) L cl := ho2
            have hB' : Below w.heap.size w (wr.drewN nq) := hB.trans (Go.Joins.below_draws _ _ _)
            clear ho1 ho2 hB c1 c2 c3 c4
            go_wp2
            go_roundw
            case rel => exact ⟨j + 1, by omega, by go_num, ho1', ho2', hB'⟩
            case measure => simp [intOf]; omega
          · obtain rfl : j = L := by omega
            clear HAt
            go_wp2
            go_ret
            exact ⟨rfl, hB⟩
      · go_wp2_with fail
        refine HK1.out.mono ?_
        rintro e w2 ⟨rfl, hb2⟩
        have hB2 : Below w.heap.size w w2 := hB.trans (hb2.mono hsz)
        have hsz2 := hB2.size
        have hown2 := own_below hown hb2
        have hK2 := HK2.out w2 ((hB2.cell (p := ⟨0, 0, none⟩) hw0).trans hm)
        clear HK1 HK2 hown hb2 hB
        go_wp2_with fail
        refine hK2.mono ?_
        rintro e w3 ⟨v3, rfl, ho3, hb3⟩
        obtain ⟨A3, cap3, rfl⟩ := owns_form ho3
        have hB3 : Below w.heap.size w w3 := hB2.trans (hb3.mono hsz2)
        have hown3 := own_below hown2 hb3
        clear hown2 hb3 hB2 hK2
        go_wp2
        go_loopw [12] (fun i wq => ∃ j : Nat, j ≤ L ∧ i = .int .i64 j ∧ wq.ownsRow w.heap.size 35 2 (.slice A L cap) L cl ∧ wq.ownsRow w2.heap.size 35 2 (.slice A3 L cap3) L cl ∧ Below w.heap.size w wq) (fun i _ => L - (intOf i).toNat)
        case atStart => exact ⟨0, Nat.zero_le _, rfl, hown3, ho3, hB3⟩
        case round =>
          clear hown3 ho3 hB3
          obtain ⟨j, hj, rfl, ho1, ho2, hB⟩ := hrel
          by_cases hlt : j < L
          · obtain ⟨a, b, ha, hb⟩ := HAt.out j hlt
            obtain ⟨g1, rfl⟩ := own_addr ho1 (by omega)
            obtain ⟨g2, rfl⟩ := own_addr ho2 (by omega)
            have c1 := (ho1.cellAt (j * 2) (by omega)).trans ha
            have c2 := (ho1.cellAt (j * 2 + 1) (by omega)).trans hb
            have c3 := (ho2.cellAt (j * 2) (by omega)).trans ha
            have c4 := (ho2.cellAt (j * 2 + 1) (by omega)).trans hb
            clear ha hb HAt
            go_wp2_with fail
            go_quiet (fail)
            have ho1' : (wr.drewN nq).ownsRow w.heap.size 35 2 (.slice (some ⟨g1, 0, none⟩) L cap) L cl := ho1
            have ho2' : (wr.drewN nq).ownsRow w2.heap.size 35 2 (.slice (some ⟨g2, 0, none⟩) L cap3) L cl := ho2
            have hB' : Below w.heap.size w (wr.drewN nq) := hB.trans (Go.Joins.below_draws _ _ _)
            clear ho1 ho2 hB c1 c2 c3 c4
            go_wp2
            go_roundw
            case rel => exact ⟨j + 1, by omega, by go_num, ho1', ho2', hB'⟩
            case measure => simp [intOf]; omega
          · obtain rfl : j = L := by omega
            clear HAt
            go_wp2
            go_ret
            exact ⟨rfl, hB⟩
      · go_wp2_with fail
        refine HK1.out.mono ?_
        rintro e w2 ⟨rfl, hb2⟩
        have hB2 : Below w.heap.size w w2 := hB.trans (hb2.mono hsz)
        have hsz2 := hB2.size
        have hown2 := own_below hown hb2
        have hK2 := HK2.out w2 ((hB2.cell (p := ⟨0, 0, none⟩) hw0).trans hm)
        clear HK1 HK2 hown hb2 hB
        go_wp2_with fail
        refine hK2.mono ?_
        rintro e w3 ⟨v3, rfl, ho3, hb3⟩
        obtain ⟨A3, cap3, rfl⟩ := owns_form ho3
        have hB3 : Below w.heap.size w w3 := hB2.trans (hb3.mono hsz2)
        have hown3 := own_below hown2 hb3
        clear hown2 hb3 hB2 hK2
        go_wp2
        go_loopw [12] (fun i wq => ∃ j : Nat, j ≤ L ∧ i = .int .i64 j ∧ wq.ownsRow w.heap.size 35 2 (.slice A L cap) L cl ∧ wq.ownsRow w2.heap.size 35 2 (.slice A3 L cap3) L cl ∧ Below w.heap.size w wq) (fun i _ => L - (intOf i).toNat)
        case atStart => exact ⟨0, Nat.zero_le _, rfl, hown3, ho3, hB3⟩
        case round =>
          clear hown3 ho3 hB3
          obtain ⟨j, hj, rfl, ho1, ho2, hB⟩ := hrel
          by_cases hlt : j < L
          · obtain ⟨a, b, ha, hb⟩ := HAt.out j hlt
            obtain ⟨g1, rfl⟩ := own_addr ho1 (by omega)
            obtain ⟨g2, rfl⟩ := own_addr ho2 (by omega)
            have c1 := (ho1.cellAt (j * 2) (by omega)).trans ha
            have c2 := (ho1.cellAt (j * 2 + 1) (by omega)).trans hb
            have c3 := (ho2.cellAt (j * 2) (by omega)).trans ha
            have c4 := (ho2.cellAt (j * 2 + 1) (by omega)).trans hb
            clear ha hb HAt
            go_wp2_with fail
            go_quiet (fail)
            have ho1' : (wr.drewN nq).ownsRow w.heap.size 35 2 (.slice (some ⟨g1, 0, none⟩) L cap) L cl := ho1
            have ho2' : (wr.drewN nq).ownsRow w2.heap.size 35 2 (.slice (some ⟨g2, 0, none⟩) L cap3) L cl := ho2
            have hB' : Below w.heap.size w (wr.drewN nq) := hB.trans (Go.Joins.below_draws _ _ _)
            clear ho1 ho2 hB c1 c2 c3 c4
            go_wp2
            go_roundw
            case rel => exact ⟨j + 1, by omega, by go_num, ho1', ho2', hB'⟩
            case measure => simp [intOf]; omega
          · obtain rfl : j = L := by omega
            clear HAt
            go_wp2
            go_ret
            exact ⟨rfl, hB⟩
end Go.Proofs.YtkaejgpnhcdlnaaDoor
