/- The runs of free units; space.free, the iterator. -/
import Derived.Test.YtcmcdddnckcpcaaGreatDoorSg
import Derived.Test.YtcmcdddnckcpcaaGreatDoorIt
namespace Go.Proofs.YtcmcdddnckcpcaaGreatDoor
open Go.RowKit Go.Shelf
attribute [local go_sem] Oper.semAt_some
/-- The runs of free units of a rest that begins at i, where c free units end. -/
def runs : List Bool → Nat → Nat → List (Nat × Nat)
  | [], i, c => if c = 0 then [] else [(i - c, c)]
  | true :: T, i, c => (if c = 0 then [] else [(i - c, c)]) ++ runs T (i + 1) 0
  | false :: T, i, c => runs T (i + 1) (c + 1)
theorem runs_stop (T : List Bool) (t c : Nat) (h : t = T.length ∨ T[t]? = some true) : runs (T.drop t) t c = (if c = 0 then [] else [(t - c, c)]) ++ runs (T.drop (t + 1)) (t + 1) 0 := by
  rcases h with rfl | h
  · rw [List.drop_eq_nil_of_le (Nat.le_refl _), List.drop_eq_nil_of_le (by omega), runs, runs]
    simp
  · obtain ⟨hl, ht⟩ := List.getElem?_eq_some_iff.1 h
    rw [List.drop_eq_getElem_cons hl, ht, runs]
theorem runs_step (T : List Bool) (t c : Nat) (h : T[t]? = some false) : runs (T.drop t) t c = runs (T.drop (t + 1)) (t + 1) (c + 1) := by
  obtain ⟨hl, ht⟩ := List.getElem?_eq_some_iff.1 h
  rw [List.drop_eq_getElem_cons hl, ht, runs]
abbrev encX (x : Nat × Nat) : Array Value := #[.agg #[.int .i64 x.1, .int .i64 x.2]]
theorem abides_below {β : Type} {B : Nat} {J : β → World → Prop} (hJ : AbidesFrom B J) {s : β} {W W' : World} (h : J s W) (hb : Below W.heap.size W W') : J s W' :=
  hJ s W W' none h ⟨hb.os, hb.tape, hb.output, hb.size, fun k hk _ => hb.block k hk⟩ (fun r e => by cases e)
set_option maxRecDepth 100000 in
set_option maxHeartbeats 1000000 in
theorem free_stops (T : List Bool) (w : World) (hn : T.length ≤ 4096) : Stops Fence.wide 5 Tryz.prog 77 #[spv T] #[] encX (KeepCells 76 w.heap.size) (fun pre x => pre ++ [x] <+: runs T 0 0) (fun xs => xs = runs T 0 0) (fun pre => pre <+: runs T 0 0) w := by
  intro l J Jx W hW hJ hJx hY h0
  have HASK := fun i hi w => has_sp T i w hi hn
  unfold spv at HASK ⊢
  obtain ⟨X, hX⟩ : ∃ X, mk (packB T) = X := ⟨_, rfl⟩
  obtain ⟨n, hn2⟩ : ∃ n, T.length = n := ⟨_, rfl⟩
  rw [hX, hn2] at HASK ⊢
  rw [hn2] at hn
  have HSZ := Lib.hid hW.size
  obtain ⟨RR, hRR⟩ : ∃ R, runs T 0 0 = R := ⟨_, rfl⟩
  rw [hRR]
  rw [hRR] at hY
  have HY := Lib.hid hY
  have HJ := Lib.hid hJ
  have HJX := Lib.hid hJx
  have HST := Lib.hid (fun t c h => runs_stop T t c h)
  have HSP := Lib.hid (fun t c h => runs_step T t c h)
  have H0 := Lib.hid h0
  have HN := Lib.hid hn2
  have HR := Lib.hid hRR
  clear hX hn2 hY hJ hJx h0 hRR hW
  refine callsIn_of_wp Tryz.func77 rfl trivial ?_ rfl
  simp only [Tryz.ntmps77, List.size_toArray, List.length_cons, List.length_nil, Nat.reduceAdd, Nat.reduceSub, Array.replicate_succ, Array.replicate_zero, List.push_toArray, List.append_toArray, List.nil_append, List.cons_append]
  gi_wp2
  obtain ⟨Z, hZ⟩ : ∃ Z, W.heap.size = Z := ⟨_, rfl⟩
  have hwz : w.heap.size ≤ Z := hZ ▸ HSZ.out
  simp only [hZ]
  gi_loopw [4] (fun fv wr => ∃ (f : Nat) (pre : List (Nat × Nat)), f ≤ n + 1 ∧ fv = .int .i64 f ∧ pre ++ runs (T.drop f) f 0 = RR ∧ J pre wr ∧ Blk wr Z #[.int .i64 n, .string X] 76) (fun fv _ => n + 1 - (intOf fv).toNat)
  case atStart => exact ⟨0, [], by omega, rfl, HR.out, abides_alloc HJ.out H0.out _, hZ ▸ Blk.new W _ 76⟩
  case round =>
    obtain ⟨f, pre, hf, rfl, hpre, hJs, hB⟩ := hrel
    have c0 := hB.cell 0
    have c1 := hB.cell 1
    have hl := hB.lt
    simp at c0 c1
    have f0 : (0 : Int) ≤ (f : Int) := by omega
    have HP1 := Lib.hid hpre
    have HJS := Lib.hid hJs
    have HB := Lib.hid hB
    clear hpre hJs hB
    by_cases hfn : f < n
    · have f1 : (f : Int) < (n : Int) := by omega
      gi_wp2
      gi_loopw [5] (fun tv wr => ∃ (t : Nat), f ≤ t ∧ t ≤ n ∧ tv = .int .i64 t ∧ runs (T.drop t) t (t - f) = runs (T.drop f) f 0 ∧ J pre wr ∧ Blk wr Z #[.int .i64 n, .string X] 76) (fun tv _ => n - (intOf tv).toNat)
      case atStart => exact ⟨f, by omega, by omega, rfl, by rw [Nat.sub_self], HJS.out, HB.out⟩
      case round =>
        clear HJS HB c0 c1 hl
        obtain ⟨t, ht, htn, rfl, hrt, hJs, hB⟩ := hrel
        have t0 : (0 : Int) ≤ (t : Int) := by omega
        have hpre := HP1.out
        rw [← hrt] at hpre
        have HRT := Lib.hid hrt
        clear hrt
        by_cases htl : t < n
        · have t1 : (t : Int) < (n : Int) := by omega
          have c0 := hB.cell 0
          have c1 := hB.cell 1
          have hl := hB.lt
          simp at c0 c1
          obtain ⟨b, hb⟩ : ∃ b, T.getD t false = b := ⟨_, rfl⟩
          have htT : T[t]? = some b := by
            rw [List.getD_eq_getElem?_getD, List.getElem?_eq_getElem (by rw [HN.out]; exact htl)] at hb
            rw [List.getElem?_eq_getElem (by rw [HN.out]; exact htl)]
            simpa using hb
          have KH := HASK t htl wr
          rw [hb] at KH
          have HTT := Lib.hid htT
          have HP := Lib.hid hpre
          have HJS := Lib.hid hJs
          have HB := Lib.hid hB
          clear hpre hJs hB hb htT
          gi_wp2_with fail
          refine ⟨trivial, ?_⟩
          refine (callsIn_wide.2 KH).mono ?_
          rintro e w1 ⟨rfl, hbw⟩
          have HJ1 := Lib.hid (abides_below HJ.out HJS.out hbw)
          have HB1 := Lib.hid (HB.out.below hbw)
          clear hbw HJS HB c0 c1 hl KH
          cases b with
          | false =>
            gi_wp2
            go_roundw
            case rel => exact ⟨t + 1, by omega, by omega, by simp, by rw [show t + 1 - f = t - f + 1 by omega, ← HSP.out t (t - f) HTT.out]; exact HRT.out, HJ1.out, HB1.out⟩
            case measure => simp [intOf]; omega
          | true =>
            have HP2 := Lib.hid (show pre ++ ((if t - f = 0 then [] else [(t - (t - f), t - f)]) ++ runs (T.drop (t + 1)) (t + 1) 0) = RR by rw [← HST.out t (t - f) (.inr HTT.out)]; exact HP.out)
            clear HP HTT
            by_cases hgt : f < t
            · obtain ⟨c, hc⟩ : ∃ c, t - f = c := ⟨_, rfl⟩
              have hc0 : c ≠ 0 := by omega
              have hpf : pre ++ [(f, c)] ++ runs (T.drop (t + 1)) (t + 1) 0 = RR := by
                have h := HP2.out
                rw [hc, if_neg hc0, show t - c = f by omega] at h
                rw [List.append_assoc]; exact h
              have HPF := Lib.hid hpf
              have hcd : (t : Int) - (f : Int) = (c : Int) := by omega
              have hft : (f : Int) < (t : Int) := by omega
              obtain ⟨fn, tmps, assign, body, hy, hR⟩ := HY.out pre (f, c) _ HJ1.out ⟨_, hpf⟩
              dsimp only [encX] at hy
              have HT1 := Lib.hid (And.intro ht htn)
              clear hpf hc0 hc HP2 ht htn
              gi_wp2
              refine hR.mono ?_
              rintro e W3 (⟨rfl, hJ3, hk3⟩ | ⟨rfl, hJx3⟩)
              · have hB3 : Hid (Blk W3 Z #[.int .i64 n, .string X] 76) := Lib.hid (hk3.2 Z _ _ hwz HB1.out)
                have HJ3 := Lib.hid hJ3
                clear hk3 hJ3 hy
                gi_wp2
                go_roundw
                case rel => exact ⟨t + 1, _, by have := HT1.out; omega, by simp, HPF.out, HJ3.out, hB3.out⟩
                case measure => have := HT1.out; simp [intOf]; omega
              · gi_wp2
                refine bodyPost_ret (results_none rfl _ _ _) rfl ?_
                exact ⟨⟨_, rfl⟩, .inr ⟨_, ⟨_, HPF.out⟩, hJx3⟩⟩
            · obtain rfl : f = t := by omega
              have HPF := Lib.hid (show pre ++ runs (T.drop (f + 1)) (f + 1) 0 = RR by
                have h := HP2.out
                rw [Nat.sub_self, if_pos rfl] at h
                exact h)
              have HT1 := Lib.hid htn
              clear HP2 ht htn
              gi_wp2
              refine ⟨fun _ h => (by cases h), ?_⟩
              gi_wp2
              go_roundw
              case rel => exact ⟨f + 1, pre, by have := HT1.out; omega, by simp, HPF.out, HJ1.out, HB1.out⟩
              case measure => have := HT1.out; simp [intOf]; omega
        · obtain rfl : t = n := by omega
          have HP2 := Lib.hid (show pre ++ ((if t - f = 0 then [] else [(t - (t - f), t - f)]) ++ runs (T.drop (t + 1)) (t + 1) 0) = RR by rw [← HST.out t (t - f) (.inl HN.out.symm)]; exact hpre)
          have HJ1 := Lib.hid hJs
          have HB1 := Lib.hid hB
          have c0 := hB.cell 0
          have c1 := hB.cell 1
          have hl := hB.lt
          simp at c0 c1
          have t1 : ¬ ((t : Int) < (t : Int)) := by omega
          clear hpre hJs hB HP1
          gi_wp2
          refine ⟨trivial, ?_⟩
          clear c0 c1
          by_cases hgt : f < t
          · obtain ⟨c, hc⟩ : ∃ c, t - f = c := ⟨_, rfl⟩
            have hc0 : c ≠ 0 := by omega
            have hpf : pre ++ [(f, c)] ++ runs (T.drop (t + 1)) (t + 1) 0 = RR := by
              have h := HP2.out
              rw [hc, if_neg hc0, show t - c = f by omega] at h
              rw [List.append_assoc]; exact h
            have HPF := Lib.hid hpf
            have hcd : (t : Int) - (f : Int) = (c : Int) := by omega
            have hft : (f : Int) < (t : Int) := by omega
            obtain ⟨fn, tmps, assign, body, hy, hR⟩ := HY.out pre (f, c) _ HJ1.out ⟨_, hpf⟩
            dsimp only [encX] at hy
            have HT1 := Lib.hid (And.intro ht htn)
            clear hpf hc0 hc HP2 ht htn
            gi_wp2
            refine hR.mono ?_
            rintro e W3 (⟨rfl, hJ3, hk3⟩ | ⟨rfl, hJx3⟩)
            · have hB3 : Hid (Blk W3 Z #[.int .i64 t, .string X] 76) := Lib.hid (hk3.2 Z _ _ hwz HB1.out)
              have HJ3 := Lib.hid hJ3
              clear hk3 hJ3 hy
              gi_wp2
              go_roundw
              case rel => exact ⟨t + 1, _, by have := HT1.out; omega, by simp, HPF.out, HJ3.out, hB3.out⟩
              case measure => have := HT1.out; simp [intOf]; omega
            · gi_wp2
              refine bodyPost_ret (results_none rfl _ _ _) rfl ?_
              exact ⟨⟨_, rfl⟩, .inr ⟨_, ⟨_, HPF.out⟩, hJx3⟩⟩
          · omega
    · obtain hfn' : n ≤ f := by omega
      have f1 : ¬ ((f : Int) < (n : Int)) := by omega
      have HPF := Lib.hid (show pre = RR by
        have h := HP1.out
        rw [List.drop_eq_nil_of_le (by rw [HN.out]; exact hfn'), runs, if_pos rfl, List.append_nil] at h
        exact h)
      clear HP1
      gi_wp2
      go_end0
      rw [← HPF.out]; exact ⟨⟨_, rfl⟩, .inl HJS.out⟩
end Go.Proofs.YtcmcdddnckcpcaaGreatDoor
