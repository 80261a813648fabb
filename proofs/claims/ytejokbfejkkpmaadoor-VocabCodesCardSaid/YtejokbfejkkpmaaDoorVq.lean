/- stemmalaw09.same, walked at two slices of the same entries. -/
import Derived.Test.YtejokbfejkkpmaaDoorRp
import Derived.Test.YtejokbfejkkpmaaDoorSk
namespace Go.Proofs.YtejokbfejkkpmaaDoor
open Go.RowKit Go.Maps Go.WideMaps
theorem earg_of {w : World} {B n cap : Nat} {t : TypeId} {A : Option Addr} {es : List En} (h : w.ownsRow B t 2 (.slice A n cap) es.length (ecs es)) : EArg w A es := by
  intro h0
  obtain ⟨g, c, hv, hgb, hgl⟩ := h.form h0
  injection hv with hA hnn hc
  subst hA
  subst hnn
  refine ⟨g, 0, rfl, hgl, fun j hj => ?_⟩
  obtain ⟨e1, e2⟩ := ecs_at es j hj
  rw [Nat.zero_add]
  have x1 := h.cellAt (j * 2) (by have := ecs_length es; omega)
  have x2 := h.cellAt (j * 2 + 1) (by have := ecs_length es; omega)
  rw [e1] at x1
  rw [e2] at x2
  exact ⟨x1, x2⟩
set_option maxRecDepth 100000 in
set_option maxHeartbeats 4000000 in
theorem same_true (A A2 : Option Addr) (cap cap2 : Nat) (es : List En) (w : World) (hn : es.length ≤ 100000) (h1 : EArg w A es) (h2 : EArg w A2 es) :
    Calls Tryd.prog 25 #[.slice A es.length cap, .slice A2 es.length cap2] w fun e w' => e = .returned (.bool true) ∧ ∃ m, w' = w.drewN m := by
  obtain ⟨n, hl⟩ : ∃ n, es.length = n := ⟨_, rfl⟩
  rw [hl] at hn ⊢
  have H1 := Lib.hid h1
  have H2 := Lib.hid h2
  have Hl := Lib.hid hl
  clear h1 h2 hl
  go_enter Tryd.func25, Tryd.ntmps25
  go_wp2
  go_loopw [5] (fun i wr => ∃ k m : Nat, k ≤ n ∧ i = .int .i64 k ∧ wr = w.drewN m) (fun i _ => n - (intOf i).toNat)
  case atStart => exact ⟨0, 0, Nat.zero_le _, rfl, rfl⟩
  case round =>
    obtain ⟨k, m, hk, rfl, hwr⟩ := hrel
    rw [hwr]
    clear hwr
    by_cases hlt : k < n
    · have hke : k < es.length := by have := Hl.out; omega
      obtain ⟨g, o, rfl, hg, hc⟩ := H1.out (by omega)
      obtain ⟨g2, o2, rfl, hg2, hc2⟩ := H2.out (by omega)
      obtain ⟨a0, a1⟩ := hc k hke
      obtain ⟨b0, b1⟩ := hc2 k hke
      have a0' : (w.drewN m).cell? ⟨g, o + k * 2, none⟩ = some (.int .i64 es[k].1) := a0
      have a1' : (w.drewN m).cell? ⟨g, o + k * 2 + 1, none⟩ = some (.string (mk es[k].2)) := a1
      have b0' : (w.drewN m).cell? ⟨g2, o2 + k * 2, none⟩ = some (.int .i64 es[k].1) := b0
      have b1' : (w.drewN m).cell? ⟨g2, o2 + k * 2 + 1, none⟩ = some (.string (mk es[k].2)) := b1
      obtain ⟨x, hx⟩ : ∃ x, es[k].1 = x := ⟨_, rfl⟩
      obtain ⟨T, hT⟩ : ∃ T, mk es[k].2 = T := ⟨_, rfl⟩
      rw [hx] at a0' b0'
      rw [hT] at a1' b1'
      have hk0 : (0 : Int) ≤ (k : Int) := by omega
      have hk1 : (k : Int) < (n : Int) := by omega
      obtain ⟨w4, hw4⟩ : ∃ w4, w.drewN m = w4 := ⟨_, rfl⟩
      rw [hw4] at a0' a1' b0' b1' ⊢
      have HW4 := Lib.hid hw4
      clear hc hc2 a0 a1 b0 b1 hx hT hw4
      go_wp2_with fail
      go_quiet (fail)
      go_wp2
      go_roundw
      case rel => exact ⟨k + 1, m + nq, by omega, by go_num, by rw [← HW4.out, World.drewN_drewN]⟩
      case measure => simp [intOf]; omega
    · obtain rfl : k = n := by omega
      go_wp2
      go_ret
      exact ⟨rfl, m, rfl⟩
end Go.Proofs.YtejokbfejkkpmaaDoor
/- VocabParse, walked: it says true. -/
namespace Go.Proofs.YtejokbfejkkpmaaDoor
open Go.RowKit Go.Maps Go.WideMaps
theorem goV_len (m : Nat) : ∀ (r : Bs) (acc : List En), r.length ≤ m → acc.length ≤ 4096 → (goV r acc).1.length ≤ 4096 := by
  induction m with
  | zero =>
    intro r acc hm ha
    obtain rfl : r = [] := List.eq_nil_of_length_eq_zero (by omega)
    rw [goV_nil]; exact ha
  | succ m ih =>
    intro r acc hm ha
    by_cases h0 : r = []
    · subst h0; rw [goV_nil]; exact ha
    · by_cases h4 : 4096 ≤ acc.length
      · rw [goV_long r acc h0 h4]; simp
      · have hq := q_le r
        by_cases hqe : qOf r = r.length
        · rw [goV_open r acc h0 (by omega) hqe]; simp
        · cases hv : lineV (bodyOf r) with
          | none => rw [goV_form r acc h0 (by omega) hv]; simp
          | some x =>
            by_cases h1 : 0 < acc.length ∧ x.1 ≤ lastI acc
            · rw [goV_order r acc x (by omega) (by omega) hv h1.1 h1.2]; simp
            · cases h2 : hasT acc x.2
              · rw [goV_next r acc x (by omega) (by omega) hv (fun a b => h1 ⟨a, b⟩) h2]
                exact ih _ _ (by rw [List.length_drop]; omega) (by rw [List.length_append]; simp; omega)
              · rw [goV_known r acc x (by omega) (by omega) hv (fun a b => h1 ⟨a, b⟩) h2]; simp
theorem goV_show (m : Nat) : ∀ (r : Bs) (acc : List En), r.length ≤ m → (goV r acc).2.2 = 0 → showT Lib.decDigits (goV r acc).1 = showT Lib.decDigits acc ++ r := by
  induction m with
  | zero =>
    intro r acc hm h
    obtain rfl : r = [] := List.eq_nil_of_length_eq_zero (by omega)
    rw [goV_nil]; simp
  | succ m ih =>
    intro r acc hm h
    by_cases h0 : r = []
    · subst h0; rw [goV_nil]; simp
    · by_cases h4 : 4096 ≤ acc.length
      · rw [goV_long r acc h0 h4] at h; simp at h
      · have hq := q_le r
        by_cases hqe : qOf r = r.length
        · rw [goV_open r acc h0 (by omega) hqe] at h; simp at h
        · cases hv : lineV (bodyOf r) with
          | none => rw [goV_form r acc h0 (by omega) hv] at h; simp at h
          | some x =>
            by_cases h1 : 0 < acc.length ∧ x.1 ≤ lastI acc
            · rw [goV_order r acc x (by omega) (by omega) hv h1.1 h1.2] at h; simp at h
            · cases h2 : hasT acc x.2
              · rw [goV_next r acc x (by omega) (by omega) hv (fun a b => h1 ⟨a, b⟩) h2] at h ⊢
                rw [ih _ _ (by rw [List.length_drop]; omega) h, showT_snoc]
                have hb := body_split r (by omega)
                obtain ⟨_, _, hbd⟩ := (lineV_some (bodyOf r) x.1 x.2).1 hv
                conv => rhs; rw [hb, hbd]
                simp
              · rw [goV_known r acc x (by omega) (by omega) hv (fun a b => h1 ⟨a, b⟩) h2] at h; simp at h
theorem parseV_len (s : Bs) : (parseV s).1.length ≤ 4096 := by
  unfold parseV
  split
  · simp
  · exact goV_len _ s [] (Nat.le_refl _) (by simp)
theorem parseV_show (s : Bs) (h : (parseV s).2.2 = 0) : showT Lib.decDigits (parseV s).1 = s := by
  unfold parseV at h ⊢
  split
  · rename_i hl; rw [if_pos hl] at h; simp at h
  · rename_i hl
    rw [if_neg hl] at h
    rw [goV_show _ s [] (Nat.le_refl _) h]; rfl
theorem itoa_nat (n : Nat) : Lib.itoa (n : Int) = Lib.decDigits n := by
  unfold Lib.itoa
  rw [if_neg (by omega)]; simp
theorem goV_small (m : Nat) : ∀ (r : Bs) (acc : List En), r.length ≤ m → (∀ e ∈ acc, e.1 ≤ 1073741824) → ∀ e ∈ (goV r acc).1, e.1 ≤ 1073741824 := by
  induction m with
  | zero =>
    intro r acc hm ha
    obtain rfl : r = [] := List.eq_nil_of_length_eq_zero (by omega)
    rw [goV_nil]; exact ha
  | succ m ih =>
    intro r acc hm ha
    by_cases h0 : r = []
    · subst h0; rw [goV_nil]; exact ha
    · by_cases h4 : 4096 ≤ acc.length
      · rw [goV_long r acc h0 h4]; simp
      · have hq := q_le r
        by_cases hqe : qOf r = r.length
        · rw [goV_open r acc h0 (by omega) hqe]; simp
        · cases hv : lineV (bodyOf r) with
          | none => rw [goV_form r acc h0 (by omega) hv]; simp
          | some x =>
            by_cases h1 : 0 < acc.length ∧ x.1 ≤ lastI acc
            · rw [goV_order r acc x (by omega) (by omega) hv h1.1 h1.2]; simp
            · cases h2 : hasT acc x.2
              · rw [goV_next r acc x (by omega) (by omega) hv (fun a b => h1 ⟨a, b⟩) h2]
                refine ih _ _ (by rw [List.length_drop]; omega) (fun e he => ?_)
                rcases List.mem_append.1 he with h | h
                · exact ha e h
                · obtain rfl := List.mem_singleton.1 h
                  exact ((lineV_some _ _ _).1 hv).1
              · rw [goV_known r acc x (by omega) (by omega) hv (fun a b => h1 ⟨a, b⟩) h2]; simp
theorem parseV_small (s : Bs) : ∀ e ∈ (parseV s).1, e.1 ≤ 1073741824 := by
  unfold parseV
  split
  · simp
  · exact goV_small _ s [] (Nat.le_refl _) (by simp)
theorem earg_below {w w' : World} {A : Option Addr} {es : List En} (h : EArg w A es) (hb : Below w.heap.size w w') : EArg w' A es := by
  intro h0
  obtain ⟨g, off, rfl, hg, hc⟩ := h h0
  exact ⟨g, off, rfl, Nat.lt_of_lt_of_le hg hb.size, fun j hj => ⟨(hb.cell (p := ⟨g, off + j * 2, none⟩) hg).trans (hc j hj).1, (hb.cell (p := ⟨g, off + j * 2 + 1, none⟩) hg).trans (hc j hj).2⟩⟩
theorem show_parsed (A : Option Addr) (cap : Nat) (es : List En) (w : World) (he : EArg w A es) (hn : es.length ≤ 100000) (hsz : (showT Lib.decDigits es).length ≤ 140737488355328) (hsm : ∀ e ∈ es, e.1 ≤ 1073741824) (E : Envw w) :
    Calls Tryd.prog 26 #[.slice A es.length cap] w fun e w' => e = .returned (.string (mk (showT Lib.decDigits es))) ∧ Below w.heap.size w w' := by
  refine show_any Lib.decDigits A cap es w he hn hsz (fun w' _ hb j h => ?_)
  have hs := hsm _ (List.getElem_mem h)
  have K := itoa_any (es[j].1 : Int) (by omega) (by omega) w' (E.below hb)
  rw [itoa_nat] at K
  exact K
set_option maxRecDepth 100000 in
set_option maxHeartbeats 4000000 in
theorem vparse_any (s : ByteArray) (w : World) (E : Envw w) : Calls Tryd.prog 7 #[.string s] w fun e w' => e = .returned (.bool true) ∧ Below w.heap.size w w' := by
  have KS := speaks_any w
  have HE := Lib.hid E
  clear E
  by_cases hl : 3000 < s.size
  · go_enter Tryd.func7, Tryd.ntmps7
    go_wp2_with (go_at_call 9; refine KS.mono ?_; rintro e w1 ⟨rfl, hb1⟩)
    go_ret
    exact ⟨rfl, hb1⟩
  · have hlen := parseV_len s.data.toList
    have hshow := parseV_show s.data.toList
    have hsmall := parseV_small s.data.toList
    have KP := fun w1 (E1 : Envw w1) => parse_any s w1 (by omega) E1
    have KR := fun w1 => rparse_any s w1 (by unfold maxLen; omega)
    obtain ⟨R, hR⟩ : ∃ R, parseV s.data.toList = R := ⟨_, rfl⟩
    rw [hR] at hlen hshow hsmall KP KR
    obtain ⟨es, n, c⟩ := R
    simp only at hlen hshow hsmall KP KR
    have HL := Lib.hid hlen
    have HSh := Lib.hid hshow
    have HSm := Lib.hid hsmall
    have hsl : s.data.toList.length = s.size := by simp
    have Hsl := Lib.hid hsl
    have HKP := Lib.hid KP
    have HKR := Lib.hid KR
    clear hlen hshow hsmall hR hsl KP KR
    go_enter Tryd.func7, Tryd.ntmps7
    go_wp2_with (first | (go_at_call 9; refine KS.mono ?_; rintro e w1 ⟨rfl, hb1⟩; have E1 := HE.out.below hb1; have KP1 := HKP.out _ E1; clear E1) | (go_at_call 23; refine KP1.mono ?_; rintro e w2 ⟨v, rfl, hr2, hb2⟩; obtain ⟨A, cap, rfl⟩ := own_form hr2; have KR1 := HKR.out w2; have hr2' := Lib.hid hr2; clear hr2) | (go_at_call 24; refine KR1.mono ?_; rintro e w3 ⟨v, rfl, hr3, hb3⟩; obtain ⟨A2, cap2, rfl⟩ := own_form hr3; have hr3' := Lib.hid hr3; clear hr3))
    have hB3 : Below w.heap.size w w3 := (hb1.trans (hb2.mono hb1.size)).trans (hb3.mono (Nat.le_trans hb1.size hb2.size))
    have a1 := earg_below (earg_of hr2'.out) hb3
    have a2 := earg_of hr3'.out
    have KM := same_true A A2 cap cap2 es w3 (by have := HL.out; omega) a1 a2
    have E3 := HE.out.below hB3
    refine KM.mono ?_
    rintro e w4 ⟨rfl, m, rfl⟩
    have hB4 : Below w.heap.size w (w3.drewN m) := below_drewN hB3 m
    clear KS KM hb1 hb2 hb3 hB3 hr2' hr3' HKP HKR HE KP1 KR1 a2
    by_cases hc : c = 0
    · subst hc
      have hs := HSh.out rfl
      have KW := show_parsed A cap es (w3.drewN m) a1 (by have := HL.out; omega) (by rw [hs, Hsl.out]; omega) HSm.out (E3.below (below_drewN (Below.refl _ _) m))
      rw [hs, mk_list] at KW
      have he : (s.toList == s.toList) = true := by simp
      clear hs HSh HSm HL Hsl a1 E3
      go_wp2_with (go_at_call 26; refine KW.mono ?_; rintro e w5 ⟨rfl, hb5⟩)
      go_ret
      exact ⟨rfl, hB4.trans (hb5.mono hB4.size)⟩
    · have hc' : ((c : Int) == 0) = false := by simp; omega
      clear HSh HSm HL Hsl a1 E3
      go_wp2
      go_ret
      exact ⟨rfl, hB4⟩
end Go.Proofs.YtejokbfejkkpmaaDoor
