/- rules.Check and the document's own Check, walked: they give the same; RulesCheck says true. -/
import Derived.Test.YtkaejgpnhcdlnaaDoorKr
import Derived.Test.YtkaejgpnhcdlnaaDoorRw
import Derived.Test.YtkaejgpnhcdlnaaDoorVcIr
import Derived.Test.YtkaejgpnhcdlnaaDoorVcRp
namespace Go.Proofs.YtkaejgpnhcdlnaaDoor
open Go.RowKit
/-- What is wrong with any bytes of a kind. -/
def checkS (kind : Int) (s : Bs) : Int × Int :=
  if kind = 1 then
    (if (Vc.parseM s).2.2 = 0 then (if 0 ≤ Vc.invalidM (Vc.parseM s).1 then (Vc.invalidM (Vc.parseM s).1 + 1, 17) else (0, 0)) else ((Vc.parseM s).2.1, (Vc.parseM s).2.2))
  else if kind = 2 then ((Vc.parseV s).2.1, (Vc.parseV s).2.2)
  else if kind = 3 then ((parseS s).2.1, (parseS s).2.2)
  else (0, if 262144 < s.length then 6 else 0)
theorem goM_zero (m : Nat) : ∀ (r : Bs) (acc : List Vc.Pr), r.length ≤ m → (Vc.goM r acc).2.2 = 0 → (Vc.goM r acc).2.1 = 0 := by
  induction m with
  | zero =>
    intro r acc hm h
    obtain rfl : r = [] := List.eq_nil_of_length_eq_zero (by omega)
    rw [Vc.goM_nil]
  | succ m ih =>
    intro r acc hm h
    by_cases h0 : r = []
    · subst h0; rw [Vc.goM_nil]
    · by_cases h4 : 4096 ≤ acc.length
      · rw [Vc.goM_long r acc h0 h4] at h; simp at h
      · have hq := Vc.q_le r
        by_cases hqe : Vc.qOf r = r.length
        · rw [Vc.goM_open r acc h0 (by omega) hqe] at h; simp at h
        · cases hv : Vc.lineM (Vc.bodyOf r) with
          | none => rw [Vc.goM_form r acc h0 (by omega) hv] at h; simp at h
          | some x =>
            cases h2 : Vc.hasP acc x
            · rw [Vc.goM_next r acc x (by omega) (by omega) hv h2] at h ⊢
              exact ih _ _ (by rw [List.length_drop]; omega) h
            · rw [Vc.goM_known r acc x (by omega) (by omega) hv h2] at h; simp at h
theorem parseM_zero (s : Bs) (h : (Vc.parseM s).2.2 = 0) : (Vc.parseM s).2.1 = 0 := by
  unfold Vc.parseM at h ⊢
  split
  · rfl
  · rename_i hl
    rw [if_neg hl] at h
    exact goM_zero _ s [] (Nat.le_refl _) h
theorem invM_lt (l : List Vc.Pr) : ∀ (k i : Nat), Vc.invM l i k ≤ (i + k : Nat) ∧ -1 ≤ Vc.invM l i k := by
  intro k
  induction k with
  | zero => intro i; unfold Vc.invM; omega
  | succ k ih =>
    intro i
    rw [Vc.invM]
    split
    · omega
    · have := ih (i + 1); omega
set_option maxRecDepth 100000 in
set_option maxHeartbeats 4000000 in
theorem check_any (kind : Int) (s : ByteArray) (w : World) (hs : s.size ≤ 3000) (E : Vc.Envw w) :
    Calls Tryd.prog 15 #[.int .i64 kind, .string s] w fun e w' => e = .returned (.tuple #[.int .i64 (checkS kind s.data.toList).1, .int .i64 (checkS kind s.data.toList).2]) ∧ Below w.heap.size w w' := by
  have hsl : s.data.toList.length = s.size := by simp
  by_cases k1 : kind = 1
  · subst k1
    have hz := parseM_zero s.data.toList
    have hf := Vc.parseM_fine s.data.toList
    have KM := Vc.mparse_any s w (by omega) E
    have hcs : checkS 1 s.data.toList = (if (Vc.parseM s.data.toList).2.2 = 0 then (if 0 ≤ Vc.invalidM (Vc.parseM s.data.toList).1 then (Vc.invalidM (Vc.parseM s.data.toList).1 + 1, 17) else (0, 0)) else (((Vc.parseM s.data.toList).2.1 : Int), ((Vc.parseM s.data.toList).2.2 : Int))) := rfl
    obtain ⟨R, hR⟩ : ∃ R, Vc.parseM s.data.toList = R := ⟨_, rfl⟩
    rw [hR] at hz hf KM hcs
    obtain ⟨l, n, c⟩ := R
    simp only at hz hf KM hcs
    have HZ := Lib.hid hz
    have HF := Lib.hid hf
    have HCS := Lib.hid hcs
    obtain ⟨C, hC⟩ : ∃ C, checkS 1 s.data.toList = C := ⟨_, rfl⟩
    rw [hC] at hcs ⊢
    have HCS := Lib.hid hcs
    clear hz hf hcs hC hR E
    go_enter Tryd.func15, Tryd.ntmps15
    go_upto_region 8 with (go_at_call 25; refine KM.mono ?_; rintro e w1 ⟨v, rfl, hrow, hb1⟩; obtain ⟨A, cap, rfl⟩ := Vc.own_form hrow)
    clear KM
    by_cases hc : c = 0
    · subst hc
      have hn := HZ.out rfl
      subst hn
      have hla := invM_lt l l.length 0
      have hl4 := HF.out.1
      have KI := Vc.invalid_any A cap l w1 HF.out.1 HF.out.2 (Vc.parg_of hrow)
      have hCC := HCS.out
      simp only [if_true] at hCC
      have hdef : Vc.invalidM l = Vc.invM l 0 l.length := rfl
      rw [← hdef] at hla
      obtain ⟨I, hI⟩ : ∃ I, Vc.invalidM l = I := ⟨_, rfl⟩
      rw [hI] at KI hCC hla
      obtain ⟨hi1, hi2⟩ := hla
      have hi3 : I ≤ 4096 := by omega
      have H3 := Lib.hid hi3
      have HCC := Lib.hid hCC
      clear HCS HZ HF hCC hI hdef hi1 hl4 hrow hi3
      by_cases hI0 : 0 ≤ I
      · have hC2 : C = (I + 1, 17) := by rw [HCC.out, if_pos hI0]
        have HC2 := Lib.hid hC2
        have hi3 := H3.out
        clear hC2 HCC
        go_wp2_with (go_at_call 26; refine KI.mono ?_; rintro e w2 ⟨rfl, hb2⟩)
        go_ret2
        exact ⟨by rw [HC2.out]; rfl, hb1.trans (hb2.mono hb1.size)⟩
      · have hC2 : C = (0, 0) := by rw [HCC.out, if_neg hI0]
        have HC2 := Lib.hid hC2
        clear hC2 HCC
        go_wp2_with (go_at_call 26; refine KI.mono ?_; rintro e w2 ⟨rfl, hb2⟩)
        go_ret2
        exact ⟨by rw [HC2.out]; rfl, hb1.trans (hb2.mono hb1.size)⟩
    · have hc' : ((c : Int) == 0) = false := by simp; omega
      have hC2 : C = ((n : Int), (c : Int)) := by rw [HCS.out, if_neg hc]
      have HC2 := Lib.hid hC2
      clear hC2 HCS HZ HF hrow
      go_wp2
      go_ret2
      exact ⟨by rw [HC2.out]; rfl, hb1⟩
  · by_cases k2 : kind = 2
    · subst k2
      have KV := Vc.parse_any s w (by omega) E
      have hcs : checkS 2 s.data.toList = (((Vc.parseV s.data.toList).2.1 : Int), ((Vc.parseV s.data.toList).2.2 : Int)) := rfl
      rw [hcs]
      obtain ⟨R, hR⟩ : ∃ R, Vc.parseV s.data.toList = R := ⟨_, rfl⟩
      rw [hR] at KV ⊢
      clear hcs hR E
      go_enter Tryd.func15, Tryd.ntmps15
      go_wp2_with (go_at_call 27; refine KV.mono ?_; rintro e w1 ⟨v, rfl, hrow, hb1⟩)
      go_ret2
      exact ⟨rfl, hb1⟩
    · by_cases k3 : kind = 3
      · subst k3
        obtain ⟨m, hm⟩ := E.ml
        have KV := parse_any s m w (by omega) hm
        have hcs : checkS 3 s.data.toList = (((parseS s.data.toList).2.1 : Int), ((parseS s.data.toList).2.2 : Int)) := rfl
        rw [hcs]
        obtain ⟨R, hR⟩ : ∃ R, parseS s.data.toList = R := ⟨_, rfl⟩
        rw [hR] at KV ⊢
        clear hcs hR E hm
        go_enter Tryd.func15, Tryd.ntmps15
        go_wp2_with (go_at_call 10; refine KV.mono ?_; rintro e w1 ⟨v, rfl, hrow, hb1⟩)
        go_ret2
        exact ⟨rfl, hb1⟩
      · have hcs : checkS kind s.data.toList = (0, 0) := by
          unfold checkS
          rw [if_neg k1, if_neg k2, if_neg k3, if_neg (by rw [hsl]; omega)]
        rw [hcs]
        have e1 : (kind == 1) = false := by simpa using k1
        have e2 : (kind == 2) = false := by simpa using k2
        have e3 : (kind == 3) = false := by simpa using k3
        clear hcs hsl E k1 k2 k3
        go_enter Tryd.func15, Tryd.ntmps15
        go_wp2
        go_ret2
        exact ⟨rfl, Below.refl _ _⟩
set_option maxRecDepth 100000 in
set_option maxHeartbeats 4000000 in
theorem rcheck_any (kind : Int) (s : ByteArray) (w : World) (hs : s.size ≤ 3000) :
    Calls Tryd.prog 16 #[.int .i64 kind, .string s] w fun e w' => e = .returned (.tuple #[.int .i64 (checkS kind s.data.toList).1, .int .i64 (checkS kind s.data.toList).2]) ∧ Below w.heap.size w w' := by
  have hsl : s.data.toList.length = s.size := by simp
  have hsm : s.size ≤ maxLen := by unfold maxLen; omega
  by_cases k1 : kind = 1
  · subst k1
    have hf := Vc.parseM_fine s.data.toList
    have KM := Vc.rmparse_any s w hsm
    have hcs : checkS 1 s.data.toList = (if (Vc.parseM s.data.toList).2.2 = 0 then (if 0 ≤ Vc.invalidM (Vc.parseM s.data.toList).1 then (Vc.invalidM (Vc.parseM s.data.toList).1 + 1, 17) else (0, 0)) else (((Vc.parseM s.data.toList).2.1 : Int), ((Vc.parseM s.data.toList).2.2 : Int))) := rfl
    obtain ⟨R, hR⟩ : ∃ R, Vc.parseM s.data.toList = R := ⟨_, rfl⟩
    rw [hR] at hf KM hcs
    obtain ⟨l, n, c⟩ := R
    simp only at hf KM hcs
    have HF := Lib.hid hf
    have HCS := Lib.hid hcs
    obtain ⟨C, hC⟩ : ∃ C, checkS 1 s.data.toList = C := ⟨_, rfl⟩
    rw [hC] at hcs ⊢
    have HCS := Lib.hid hcs
    clear hf hcs hC hR
    go_enter Tryd.func16, Tryd.ntmps16
    go_upto_region 4 with (go_at_call 28; refine KM.mono ?_; rintro e w1 ⟨v, rfl, hrow, hb1⟩; obtain ⟨A, cap, rfl⟩ := Vc.own_form hrow)
    clear KM
    by_cases hc : c = 0
    · subst hc
      have hla := invM_lt l l.length 0
      have hl4 := HF.out.1
      have KI := Vc.rinvalid_any A cap l w1 HF.out.1 HF.out.2 (Vc.parg_of hrow)
      have hCC := HCS.out
      simp only [if_true] at hCC
      have hdef : Vc.invalidM l = Vc.invM l 0 l.length := rfl
      rw [← hdef] at hla
      obtain ⟨I, hI⟩ : ∃ I, Vc.invalidM l = I := ⟨_, rfl⟩
      rw [hI] at KI hCC hla
      obtain ⟨hi1, hi2⟩ := hla
      have hi3 : I ≤ 4096 := by omega
      have H3 := Lib.hid hi3
      have HCC := Lib.hid hCC
      clear HCS HF hCC hI hdef hi1 hl4 hrow hi3
      by_cases hI0 : 0 ≤ I
      · have hC2 : C = (I + 1, 17) := by rw [HCC.out, if_pos hI0]
        have HC2 := Lib.hid hC2
        have hi3 := H3.out
        clear hC2 HCC
        go_wp2_with (go_at_call 29; refine KI.mono ?_; rintro e w2 ⟨rfl, hb2⟩)
        go_ret2
        exact ⟨by rw [HC2.out]; rfl, hb1.trans (hb2.mono hb1.size)⟩
      · have hC2 : C = (0, 0) := by rw [HCC.out, if_neg hI0]
        have HC2 := Lib.hid hC2
        clear hC2 HCC
        go_wp2_with (go_at_call 29; refine KI.mono ?_; rintro e w2 ⟨rfl, hb2⟩)
        go_ret2
        exact ⟨by rw [HC2.out]; rfl, hb1.trans (hb2.mono hb1.size)⟩
    · have hc' : ((c : Int) == 0) = false := by simp; omega
      have hC2 : C = ((n : Int), (c : Int)) := by rw [HCS.out, if_neg hc]
      have HC2 := Lib.hid hC2
      clear hC2 HCS HF hrow
      go_wp2
      go_ret2
      exact ⟨by rw [HC2.out]; rfl, hb1⟩
  · by_cases k2 : kind = 2
    · subst k2
      have KV := Vc.rparse_any s w hsm
      have hcs : checkS 2 s.data.toList = (((Vc.parseV s.data.toList).2.1 : Int), ((Vc.parseV s.data.toList).2.2 : Int)) := rfl
      rw [hcs]
      obtain ⟨R, hR⟩ : ∃ R, Vc.parseV s.data.toList = R := ⟨_, rfl⟩
      rw [hR] at KV ⊢
      clear hcs hR
      go_enter Tryd.func16, Tryd.ntmps16
      go_wp2_with (go_at_call 30; refine KV.mono ?_; rintro e w1 ⟨v, rfl, hrow, hb1⟩)
      go_ret2
      exact ⟨rfl, hb1⟩
    · by_cases k3 : kind = 3
      · subst k3
        have KV := ref_any s w hsm
        have hcs : checkS 3 s.data.toList = (((parseS s.data.toList).2.1 : Int), ((parseS s.data.toList).2.2 : Int)) := rfl
        rw [hcs]
        obtain ⟨R, hR⟩ : ∃ R, parseS s.data.toList = R := ⟨_, rfl⟩
        rw [hR] at KV ⊢
        clear hcs hR
        go_enter Tryd.func16, Tryd.ntmps16
        go_wp2_with (go_at_call 11; refine KV.mono ?_; rintro e w1 ⟨v, rfl, hrow, hb1⟩)
        go_ret2
        exact ⟨rfl, hb1⟩
      · have hcs : checkS kind s.data.toList = (0, 0) := by
          unfold checkS
          rw [if_neg k1, if_neg k2, if_neg k3, if_neg (by rw [hsl]; omega)]
        rw [hcs]
        have e1 : (kind == 1) = false := by simpa using k1
        have e2 : (kind == 2) = false := by simpa using k2
        have e3 : (kind == 3) = false := by simpa using k3
        clear hcs hsl k1 k2 k3
        go_enter Tryd.func16, Tryd.ntmps16
        go_wp2
        go_ret2
        exact ⟨rfl, Below.refl _ _⟩
set_option maxRecDepth 100000 in
set_option maxHeartbeats 4000000 in
theorem rulesCheck_any (name s : ByteArray) (kind : Int) (w : World) (hn : name.size ≤ maxLen) (E : Vc.Envw w) :
    Calls Tryd.prog 7 #[.string name, .int .i64 kind, .string s] w fun e w' => e = .returned (.bool true) ∧ Below w.heap.size w w' := by
  obtain ⟨m, hm⟩ := E.ml
  have KS := speaks_any m w hm
  have HE := Lib.hid E
  clear E hm
  by_cases hl : 3000 < s.size
  · go_enter Tryd.func7, Tryd.ntmps7
    go_wp2_with (go_at_call 8; refine KS.mono ?_; rintro e w1 ⟨rfl, hb1⟩)
    go_ret
    exact ⟨rfl, hb1⟩
  · have KC := fun w1 (E1 : Vc.Envw w1) => check_any kind s w1 (by omega) E1
    have KR := fun w1 => rcheck_any kind s w1 (by omega)
    have KK := fun w1 => kind_any name w1 hn
    have KL := fun w1 => rkind_any name w1 hn
    obtain ⟨C, hC⟩ : ∃ C, checkS kind s.data.toList = C := ⟨_, rfl⟩
    obtain ⟨D, hD⟩ : ∃ D, kindS name.data.toList = D := ⟨_, rfl⟩
    rw [hC] at KC KR
    rw [hD] at KK KL
    have HKC := Lib.hid KC
    have HKR := Lib.hid KR
    have HKK := Lib.hid KK
    have HKL := Lib.hid KL
    clear hC hD KC KR KK KL
    go_enter Tryd.func7, Tryd.ntmps7
    go_wp2_with (first
      | (go_at_call 8; refine KS.mono ?_; rintro e w1 ⟨rfl, hb1⟩; have E1 := HE.out.below hb1; have KC1 := HKC.out w1 E1; clear E1)
      | (go_at_call 15; refine KC1.mono ?_; rintro e w2 ⟨rfl, hb2⟩; have KR1 := HKR.out w2)
      | (go_at_call 16; refine KR1.mono ?_; rintro e w3 ⟨rfl, hb3⟩; have KK1 := HKK.out w3)
      | (go_at_call 17; refine KK1.mono ?_; rintro e w4 ⟨rfl, rfl⟩; have KL1 := HKL.out w3)
      | (go_at_call 18; refine KL1.mono ?_; rintro e w5 ⟨rfl, hb5⟩))
    go_ret
    have hB3 : Below w.heap.size w w3 := (hb1.trans (hb2.mono hb1.size)).trans (hb3.mono (Nat.le_trans hb1.size hb2.size))
    exact ⟨rfl, hB3.trans (hb5.mono hB3.size)⟩
end Go.Proofs.YtkaejgpnhcdlnaaDoor
