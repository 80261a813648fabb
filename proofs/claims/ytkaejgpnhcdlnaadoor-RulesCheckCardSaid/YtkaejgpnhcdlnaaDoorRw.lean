/- The document's own parser, walked: it gives what rules.Parse gives. -/
import Derived.Test.YtkaejgpnhcdlnaaDoorPr
import Derived.Test.YtkaejgpnhcdlnaaDoorPw
import Derived.BigQuiet
import Derived.Deep.RegionHeld3
import Derived.Deep.AppendLies
namespace Go.Proofs.YtkaejgpnhcdlnaaDoor
open Go.RowKit
theorem info34 : (Tryd.prog.info? 34).map (fun i => (i.zero, i.size, i.bytes)) = some (some (.agg #[.string ⟨#[]⟩, .string ⟨#[]⟩]), 2, 32) := by kernel_rfl
theorem rgood_t (t : Bs) (w : World) (h : t.length ≤ 262144) : Calls Tryd.prog 13 #[.string (mk t)] w fun e w' => e = .returned (.bool (good t)) ∧ w = w' := by
  have H := rgood_any (mk t) w (by unfold maxLen; rw [mk_size]; omega)
  rw [mk_data] at H
  exact H
set_option maxRecDepth 100000 in
set_option maxHeartbeats 20000000 in
theorem ref_any (s : ByteArray) (w : World) (hs : s.size ≤ maxLen) :
    Calls Tryd.prog 11 #[.string s] w fun e w' => ∃ v, e = .returned (.tuple #[v, .int .i64 (parseS s.data.toList).2.1, .int .i64 (parseS s.data.toList).2.2]) ∧
      w'.ownsRow w.heap.size 34 2 v (parseS s.data.toList).1.length (cells (parseS s.data.toList).1) ∧ Below w.heap.size w w' := by
  unfold maxLen at hs
  obtain ⟨i0, hi, hz0, hz1, hz2⟩ := info_parts info34
  have hsl : s.data.toList.length = s.size := (Lib.size_eq s).symm
  obtain ⟨R, hR⟩ : ∃ R, parseS s.data.toList = R := ⟨_, rfl⟩
  rw [hR]
  by_cases hlong : 262144 < s.size
  · rw [parseS, if_pos (by omega)] at hR
    subst hR
    clear hsl
    go_enter Tryd.func11, Tryd.ntmps11
    go_wp2
    go_ret3
    exact ⟨_, rfl, World.ownsRow_nil _ _ _ _, Below.refl _ _⟩
  · rw [parseS, if_neg (by omega)] at hR
    have HR := Lib.hid hR
    clear hR
    go_enter Tryd.func11, Tryd.ntmps11
    go_wp2
    go_loopw [5, 6, 7, 8, 9, 10] (fun out fr n _ _ _ wr => ∃ (f : Nat) (acc : List Rl), f ≤ s.size ∧ acc.length ≤ 4096 ∧ fr = .int .i64 f ∧ n = .int .i64 ((acc.length : Int) + 1) ∧ wr.ownsRow w.heap.size 34 2 out acc.length (cells acc) ∧
        Below w.heap.size w wr ∧ stepsG (lines (s.data.toList.drop f)) acc = R) (fun _ fr _ _ _ _ _ => s.size - (intOf fr).toNat)
    case atStart => exact ⟨0, [], Nat.zero_le _, by simp, rfl, rfl, World.ownsRow_nil _ _ _ _, Below.refl _ _, HR.out⟩
    case round =>
      obtain ⟨f, acc, hf, hacc, rfl, rfl, hown, hB, hst⟩ := hrel
      have hsz := hB.size
      obtain ⟨A, cap, rfl⟩ := owns_form hown
      obtain ⟨k, hk⟩ : ∃ k, acc.length = k := ⟨_, rfl⟩
      by_cases hlt : f < s.size
      · obtain ⟨r, hr⟩ : ∃ r, s.data.toList.drop f = r := ⟨_, rfl⟩
        rw [hr] at hst
        have hrl : r.length = s.size - f := by rw [← hr, List.length_drop, hsl]
        have hr0 : r ≠ [] := by intro e; rw [e] at hrl; simp at hrl; omega
        rw [hk] at hacc hown ⊢
        by_cases h4 : k = 4096
        · obtain ⟨t, ls, e⟩ : ∃ t ls, lines r = t :: ls := by
            rcases Nat.lt_or_ge (qOf r) r.length with h | h
            · exact ⟨_, _, lines_body r h⟩
            · exact ⟨_, _, (lines_last r hr0 (by have := q_le r; omega)).1⟩
          rw [e, stepsG_long _ _ _ (by omega), hk, h4] at hst
          subst hst
          subst h4
          clear hk HR hr e
          go_wp2
          go_ret3
          exact ⟨_, rfl, World.ownsRow_nil _ _ _ _, hB⟩
        · have hk4 : k < 4096 := by omega
          have hq := q_le r
          have F1 : ∀ j (h : f + j < s.size), j < qOf r → ((s[f + j].toNat : Int) != 10) = true := fun j h hj => by
            have hg : s[f + j] = r[j]'(by omega) := by subst hr; show s.data[f + j] = _; simp
            have := q_ne r j hj (by omega)
            rw [hg, bne_iff_ne]
            intro e
            exact this (UInt8.toNat_inj.1 (Int.ofNat_inj.1 e))
          have F2 : ∀ (h : f + qOf r < s.size), ((s[f + qOf r].toNat : Int) != 10) = false := fun h => by
            have hg : s[f + qOf r] = r[qOf r]'(by omega) := by subst hr; show s.data[f + _] = _; simp
            rw [hg, q_at r (by omega)]; rfl
          have F3 : ∀ j (h : f + j < s.size), r.take (j + 1) = r.take j ++ [s[f + j]] := fun j h => by
            have hg : s[f + j] = r[j]'(by omega) := by subst hr; show s.data[f + j] = _; simp
            rw [hg, List.take_succ_eq_append_getElem (by omega)]
          have hrr := Lib.hid hr
          have G1 := Lib.hid F1
          have G2 := Lib.hid F2
          have G3 := Lib.hid F3
          have HSt := Lib.hid hst
          obtain ⟨q, hqe⟩ : ∃ q, qOf r = q := ⟨_, rfl⟩
          rw [hqe] at G1 G2 hq
          clear F1 F2 F3 hst hr HR hlong hr0
          go_wp2
          go_loop [8, 9, 10] (fun to bl ok => ∃ j : Nat, j ≤ q ∧ to = .int .i64 ((f : Int) + (j : Int)) ∧ bl = .int .i64 (bv f (r.take j)) ∧ ok = .bool ((r.take j).all patC)) (fun to _ _ => s.size - (intOf to).toNat)
          case atStart => exact ⟨0, Nat.zero_le _, by simp, by simp [bv, Lib.index], by simp⟩
          case round =>
            obtain ⟨j, hj, rfl, rfl, rfl⟩ := hrel
            by_cases hjl : f + j < s.size
            · by_cases hjq : j < q
              · have h10 := G1.out j hjl hjq
                have htk := G3.out j hjl
                have hbs := bv_snoc f (r.take j) s[f + j]
                have hal : (r.take (j + 1)).all patC = ((r.take j).all patC && patC s[f + j]) := by rw [htk, List.all_append]; simp
                have hln : (r.take j).length = j := by rw [List.length_take]; omega
                rw [hln, ← htk] at hbs
                have hbc := bv_cases f (r.take j)
                obtain ⟨b0, hb0⟩ : ∃ b, bv f (r.take j) = b := ⟨_, rfl⟩
                obtain ⟨o0, ho0⟩ : ∃ b, (r.take j).all patC = b := ⟨_, rfl⟩
                rw [hb0] at hbc hbs ⊢
                rw [ho0] at hal ⊢
                clear hln hb0 ho0 htk
                have hbl : (b0 = -1 ∧ ((s[f + j].toNat : Int) == 32) = true ∧ (s[f + j].toNat : Int) = 32 ∧ bv f (r.take (j + 1)) = ((f + j : Nat) : Int)) ∨ (b0 = -1 ∧ ((s[f + j].toNat : Int) == 32) = false ∧ (s[f + j].toNat : Int) ≠ 32 ∧ bv f (r.take (j + 1)) = -1) ∨
                    ∃ i : Nat, b0 = (i : Int) ∧ bv f (r.take (j + 1)) = (i : Int) := by
                  rcases hbc with ⟨_, h⟩ | ⟨i, _, h⟩
                  · subst h
                    by_cases h : s[f + j] = 32
                    · rw [if_pos (by omega), if_pos h] at hbs
                      exact .inl ⟨rfl, by rw [h]; rfl, by rw [h]; rfl, hbs⟩
                    · rw [if_pos (by omega), if_neg h] at hbs
                      have hn : (s[f + j].toNat : Int) ≠ 32 := fun e => h (UInt8.toNat_inj.1 (Int.ofNat_inj.1 e))
                      exact .inr (.inl ⟨rfl, by rw [beq_eq_false_iff_ne]; exact hn, hn, hbs⟩)
                  · rw [if_neg (by omega)] at hbs
                    exact .inr (.inr ⟨f + i, h, by rw [hbs, h]⟩)
                have hok : (o0 = false ∧ (r.take (j + 1)).all patC = false) ∨ (o0 = true ∧ (r.take (j + 1)).all patC = true ∧ 32 ≤ (s[f + j].toNat : Int) ∧ (s[f + j].toNat : Int) ≤ 126) ∨
                    (o0 = true ∧ (r.take (j + 1)).all patC = false ∧ (s[f + j].toNat : Int) < 32) ∨ (o0 = true ∧ (r.take (j + 1)).all patC = false ∧ 126 < (s[f + j].toNat : Int) ∧ decide ((s[f + j].toNat : Int) ≤ 126) = false) := by
                  cases o0
                  · exact .inl ⟨rfl, hal⟩
                  · rcases hc : patC s[f + j] with _ | _
                    · rw [hc] at hal
                      rcases (patC_false _).1 hc with h | h
                      · exact .inr (.inr (.inl ⟨rfl, hal, h⟩))
                      · exact .inr (.inr (.inr ⟨rfl, hal, h, by simp; omega⟩))
                    · rw [hc] at hal
                      exact .inr (.inl ⟨rfl, hal, (patC_int _).1 hc⟩)
                clear hbc hbs hal hacc hi hz0 hz1 hz2 hown hB hsz
                rcases hbl with ⟨rfl, h32, h33, hbs⟩ | ⟨rfl, h32, h33, hbs⟩ | ⟨i, rfl, hbs⟩
                all_goals have HB := Lib.hid hbs
                all_goals clear hbs
                all_goals rcases hok with ⟨rfl, hal⟩ | ⟨rfl, hal, hp1, hp2⟩ | ⟨rfl, hal, hp1⟩ | ⟨rfl, hal, hp1, hp3⟩
                all_goals have HA := Lib.hid hal
                all_goals clear hal
                all_goals first
                  | (exfalso; omega)
                  | (go_wp2
                     all_goals go_round
                     all_goals first
                       | exact ⟨j + 1, by omega, by go_num, congrArg (Value.int .i64) (by have h := HB.out; omega), congrArg Value.bool HA.out.symm⟩
                       | (simp [intOf]; omega))
              · obtain rfl : j = q := by omega
                have h10 := G2.out hjl
                clear G1 G3
                obtain ⟨x, hx⟩ : ∃ x, r.take j = x := ⟨_, rfl⟩
                have hbody : bodyOf r = x := by rw [← hx, ← hqe, body_take]
                have hlb := lines_body r (by omega)
                rw [hbody, hqe] at hlb
                have hst := HSt.out
                rw [hlb] at hst
                have hxl : x.length = j := by rw [← hx, List.length_take]; omega
                have hdr : r.drop (j + 1) = s.data.toList.drop (f + j + 1) := by rw [← hrr.out, List.drop_drop]; congr 1
                rw [hdr] at hst
                rw [hx]
                have L1 := stepsG_form (x ++ [10]) (lines (s.data.toList.drop (f + j + 1))) acc (by omega)
                have L2 := stepsG_order (x ++ [10]) (lines (s.data.toList.drop (f + j + 1))) acc (by omega)
                have L3 := stepsG_next (x ++ [10]) (lines (s.data.toList.drop (f + j + 1))) acc (by omega)
                rw [hst, hk] at L1 L2
                rw [hst, hk] at L3
                have hbc := bv_cases f x
                have hne : ((f : Int) + (j : Int) == (s.size : Int)) = false := by simp; omega
                clear hst hlb hbody hqe hdr HSt
                rcases hbc with ⟨hix, hbv⟩ | ⟨i, hix, hbv⟩
                · have hR := L1 (by rw [bad_nospace x hix]; simp)
                  clear L1 L2 L3 hix
                  subst hR
                  rw [hbv]
                  go_wp2
                  go_ret3
                  exact ⟨_, rfl, World.ownsRow_nil _ _ _ _, hB⟩
                · obtain ⟨hop, hnm, hpt, hil⟩ := ok_places x i hix
                  rw [hop] at L1 L2 L3
                  rw [hnm] at L2 L3
                  rw [hpt] at L3
                  rw [hbv]
                  have hb0 : (0 : Int) ≤ ((f + i : Nat) : Int) := by omega
                  have en : s.extract f (f + i) = mk (x.take i) := by rw [ext_mk, hrr.out, ← hx, List.take_take]; congr 2; omega
                  have ep : s.extract (f + i + 1) (f + j) = mk (x.drop (i + 1)) := by
                    rw [show f + j = (f + i + 1) + (j - (i + 1)) by omega, ext_mk, ← hx, ← hrr.out, List.drop_take, List.drop_drop]; congr 2
                  have K1 := rgood_t (x.take i) wr (by rw [List.length_take]; omega)
                  obtain ⟨n, hn⟩ : ∃ n, x.take i = n := ⟨_, rfl⟩
                  obtain ⟨p, hp⟩ : ∃ p, x.drop (i + 1) = p := ⟨_, rfl⟩
                  rw [hn] at L1 L2 L3 K1 en
                  rw [hp] at L3 ep
                  have T1 := Lib.hid L1
                  have T2 := Lib.hid L2
                  have T3 := Lib.hid L3
                  clear L1 L2 L3 hop hnm hpt hix hbv hn hp
                  have f1 : (0 : Int) ≤ (f : Int) := by omega
                  have f2 : (f : Int) ≤ ((f + i : Nat) : Int) := by omega
                  have f3 : ((f + i : Nat) : Int) ≤ (s.size : Int) := by omega
                  cases ho : x.all patC
                  · have hR := T1.out (by rw [ho]; rfl)
                    clear T1 T2 T3 ho
                    subst hR
                    go_wp2
                    go_ret3
                    exact ⟨_, rfl, World.ownsRow_nil _ _ _ _, hB⟩
                  · go_wp2_with fail
                    refine K1.mono ?_
                    rintro e w1 ⟨rfl, rfl⟩
                    cases hg : good n
                    · have hR := T1.out (by rw [ho, hg]; rfl)
                      clear T1 T2 T3 ho hg K1
                      subst hR
                      go_wp2
                      go_ret3
                      exact ⟨_, rfl, World.ownsRow_nil _ _ _ _, hB⟩
                    · by_cases h2 : j - i < 2
                      · have hR := T1.out (by rw [ho, hg, hxl]; simp; omega)
                        have h2' : (j : Int) - (i : Int) < 2 := by omega
                        clear T1 T2 T3 ho hg K1
                        subst hR
                        go_wp2
                        go_ret3
                        exact ⟨_, rfl, World.ownsRow_nil _ _ _ _, hB⟩
                      · by_cases h257 : 257 < j - i
                        · have hR := T1.out (by rw [ho, hg, hxl]; simp; omega)
                          clear T1 T2 T3 ho hg K1
                          subst hR
                          go_wp2
                          go_ret3
                          exact ⟨_, rfl, World.ownsRow_nil _ _ _ _, hB⟩
                        · have hT : (x.all patC && (good n && (decide (2 ≤ x.length - i) && decide (x.length - i ≤ 257)))) = true := by
                            rw [ho, hg, hxl]; simp; omega
                          have hk4' : k < 4096 := by omega
                          rcases Nat.eq_zero_or_pos k with rfl | hkp
                          · have hst := T3.out hT (fun h => absurd h (by omega))
                            clear T1 T2 T3 ho hg K1 hT
                            go_wp2_with fail
                            go_quiet (fail)
                            have hown3 : (wr.drewN nq).ownsRow w.heap.size 34 2 (.slice A (0) cap) (0) (cells acc) := hown
                            have hB3 : Below w.heap.size w (wr.drewN nq) := hB.trans (Go.Joins.below_draws _ _ _)
                            have hsz3 : w.heap.size ≤ (wr.drewN nq).heap.size := hsz
                            obtain ⟨w3, hw3⟩ : ∃ w3, wr.drewN nq = w3 := ⟨_, rfl⟩
                            rw [hw3] at hown3 hB3 hsz3 ⊢
                            clear hown hB hsz hw3
                            have wr1 : IntKind.i64.wrap ((f : Int) + (i : Int) + 1) = (f : Int) + (i : Int) + 1 := by rw [Go.IntWalk.i64_left, Go.IntWalk.wrap64_in _ (by omega)]
                            have b1 : (0 : Int) ≤ (f : Int) + (i : Int) + 1 := by omega
                            have b2 : (f : Int) + (i : Int) + 1 ≤ (f : Int) + (j : Int) := by omega
                            have b3 : (f : Int) + (j : Int) ≤ (s.size : Int) := by omega
                            have b4 : ((f : Int) + (i : Int) + 1).toNat = f + i + 1 := by omega
                            have b6 : ((f : Int) + (i : Int)).toNat = f + i := by omega
                            have b5 : ((f : Int) + (j : Int)).toNat = f + j := by omega
                            go_wp2_with fail
                            go_region_held3 (fun _ => True) (trivial)
                              ((refine step_append_lies _ (by rfl) _ _ _ (by rfl) w.heap.size 34 i0 _ 2 32 Tryd.underlying30 hi hz0 hz1 hz2 rfl (by omega) (.slice A (0) cap) (0) (cells acc) (by rfl) ((hown3.alloc _).drew)
                                  ⟨w3.heap.size, 0, none⟩ 1 1 [.string (mk n), .string (mk p)] (by rfl) (by rfl) (World.news_of_block (cs := #[.string (mk n), .string (mk p)]) (t := 34) (fr := (0, 0)) (heap_alloc_new w3 _)) (by simp [Value.oneCell'])
                                  (by omega) (by simp only [maxLen]; omega) (by omega) (by simp; omega) (w3.heap.size + 1) (by simp) ?_; intro g4 cap4 w4 hown4 hgr4 hat4 hlt4))
                            have hB4 : Below w.heap.size w w4 := ((hB3.alloc hsz3 _).drew).grown hgr4 (by simp; omega) (fun g e => (hown3.lt g e).1)
                            have hown5 : w4.ownsRow w.heap.size 34 2 (.slice (some ⟨g4, 0, none⟩) ((0) + 1) cap4) ((0) + 1) (cells (acc ++ [(n, p)])) := by rw [cells_snoc]; exact hown4
                            clear hown4 hgr4 hat4 hown3 hB3
                            go_wp2
                            go_roundw
                            case rel => exact ⟨f + j + 1, acc ++ [(n, p)], by omega, by rw [List.length_append, hk]; show _ + 1 ≤ 4096; omega, congrArg (Value.int .i64) (by omega), congrArg (Value.int .i64) (by rw [List.length_append, hk]; simp), by rw [List.length_append, hk]; exact hown5, hB4, hst.symm⟩
                            case measure => simp [intOf]; omega
                          · obtain ⟨k', rfl⟩ : ∃ k', k = k' + 1 := ⟨k - 1, by omega⟩
                            obtain ⟨g, cap', hg2⟩ := ownsRow_succ hown
                            injection hg2 with hg3 _ hg4
                            subst hg3
                            subst hg4
                            have hla := lastN_at acc k' hk
                            have hj' : k' < acc.length := by omega
                            have hcl2 := hown.cellAt (k' * 2) (by show k' * 2 < (k' + 1) * 2; omega)
                            rw [(cells_at acc k' hj').1] at hcl2
                            rw [hla] at T2 T3
                            obtain ⟨pr, hpr⟩ : ∃ x, acc[k'].1 = x := ⟨_, rfl⟩
                            rw [hpr] at T2 T3 hcl2
                            have hgt : decide ((1 : Int) < (k' : Int) + 1 + 1) = true := by simp; omega
                            have hwr : IntKind.i64.wrap ((k' : Int) + 1 + 1 - 2) = (k' : Int) := by rw [Go.IntWalk.i64_left, Go.IntWalk.wrap64_in _ (by omega)]; omega
                            cases hle : Op.bytesLess pr n
                            · have hR := T2.out hT (by omega) (by rw [leqB_not, hle]; rfl)
                              have hle' : Op.bytesLess (mk pr).toList (mk n).toList = false := by rw [mk_toList, mk_toList]; exact hle
                              clear T1 T2 T3 ho hg K1 hT hla hpr hj' hle
                              subst hR
                              go_wp2_with fail
                              go_quiet (fail)
                              go_wp2
                              go_ret3
                              exact ⟨_, rfl, World.ownsRow_nil _ _ _ _, hB.trans (Go.Joins.below_draws _ _ _)⟩
                            · have hst := T3.out hT (fun _ => by rw [leqB_not, hle]; rfl)
                              have hle' : Op.bytesLess (mk pr).toList (mk n).toList = true := by rw [mk_toList, mk_toList]; exact hle
                              clear T1 T2 T3 ho hg K1 hT hla hpr hj' hle
                              go_wp2_with fail
                              go_quiet (fail)
                              have hown3 : (wr.drewN nq).ownsRow w.heap.size 34 2 (.slice (some ⟨g, 0, none⟩) (k' + 1) cap) (k' + 1) (cells acc) := hown
                              have hB3 : Below w.heap.size w (wr.drewN nq) := hB.trans (Go.Joins.below_draws _ _ _)
                              have hsz3 : w.heap.size ≤ (wr.drewN nq).heap.size := hsz
                              obtain ⟨w3, hw3⟩ : ∃ w3, wr.drewN nq = w3 := ⟨_, rfl⟩
                              rw [hw3] at hown3 hB3 hsz3 ⊢
                              clear hown hB hsz hw3
                              have wr1 : IntKind.i64.wrap ((f : Int) + (i : Int) + 1) = (f : Int) + (i : Int) + 1 := by rw [Go.IntWalk.i64_left, Go.IntWalk.wrap64_in _ (by omega)]
                              have b1 : (0 : Int) ≤ (f : Int) + (i : Int) + 1 := by omega
                              have b2 : (f : Int) + (i : Int) + 1 ≤ (f : Int) + (j : Int) := by omega
                              have b3 : (f : Int) + (j : Int) ≤ (s.size : Int) := by omega
                              have b4 : ((f : Int) + (i : Int) + 1).toNat = f + i + 1 := by omega
                              have b6 : ((f : Int) + (i : Int)).toNat = f + i := by omega
                              have b5 : ((f : Int) + (j : Int)).toNat = f + j := by omega
                              go_wp2_with fail
                              go_region_held3 (fun _ => True) (trivial)
                                ((refine step_append_lies _ (by rfl) _ _ _ (by rfl) w.heap.size 34 i0 _ 2 32 Tryd.underlying30 hi hz0 hz1 hz2 rfl (by omega) (.slice (some ⟨g, 0, none⟩) (k' + 1) cap) (k' + 1) (cells acc) (by rfl) ((hown3.alloc _).drew)
                                    ⟨w3.heap.size, 0, none⟩ 1 1 [.string (mk n), .string (mk p)] (by rfl) (by rfl) (World.news_of_block (cs := #[.string (mk n), .string (mk p)]) (t := 34) (fr := (0, 0)) (heap_alloc_new w3 _)) (by simp [Value.oneCell'])
                                    (by omega) (by simp only [maxLen]; omega) (by omega) (by simp; omega) (w3.heap.size + 1) (by simp) ?_; intro g4 cap4 w4 hown4 hgr4 hat4 hlt4))
                              have hB4 : Below w.heap.size w w4 := ((hB3.alloc hsz3 _).drew).grown hgr4 (by simp; omega) (fun g e => (hown3.lt g e).1)
                              have hown5 : w4.ownsRow w.heap.size 34 2 (.slice (some ⟨g4, 0, none⟩) ((k' + 1) + 1) cap4) ((k' + 1) + 1) (cells (acc ++ [(n, p)])) := by rw [cells_snoc]; exact hown4
                              clear hown4 hgr4 hat4 hown3 hB3
                              go_wp2
                              go_roundw
                              case rel => exact ⟨f + j + 1, acc ++ [(n, p)], by omega, by rw [List.length_append, hk]; show _ + 1 ≤ 4096; omega, congrArg (Value.int .i64) (by omega), congrArg (Value.int .i64) (by rw [List.length_append, hk]; simp), by rw [List.length_append, hk]; exact hown5, hB4, hst.symm⟩
                              case measure => simp [intOf]; omega
            · have hjr : j = q := by omega
              subst hjr
              have hqr : qOf r = r.length := by omega
              obtain ⟨hl1, hl2⟩ := lines_last r (by intro e; rw [e] at hrl; simp at hrl; omega) hqr
              have hst := HSt.out
              rw [hl1, stepsG_form _ _ _ (by omega) (by rw [hl2]; rfl), hk] at hst
              subst hst
              have hne : ((f : Int) + (j : Int) == (s.size : Int)) = true := by simp; omega
              clear hl1 hl2 HSt G1 G2 G3
              go_wp2
              go_ret3
              exact ⟨_, rfl, World.ownsRow_nil _ _ _ _, hB⟩
      · obtain rfl : f = s.size := by omega
        have e : s.data.toList.drop s.size = [] := by rw [← hsl, List.drop_length]
        rw [e, lines, stepsG] at hst
        subst hst
        clear HR e
        go_wp2
        go_ret3
        rw [hk] at hown
        exact ⟨_, rfl, hown, hB⟩
end Go.Proofs.YtkaejgpnhcdlnaaDoor
