/- names.Table.may at any table and any updates, walked. -/
import Derived.Test.YtlkfnhcnfjdgbaaDoorCl
namespace Go.Proofs.YtlkfnhcnfjdgbaaDoor
open Go.RowKit Go.Maps Go.WideMaps
/-- May these updates be, with these names known before? -/
def okU : (Bs → Bool) → List Upd → Bool
  | _, [] => true
  | S, u :: us => !S u.name && (rightU u && okU (fun t => S t || t == u.name) us)
def freshU (R : Refs) (us : List Upd) : Bool := us.all fun u => (getR R u.name).getD [] == u.old
/-- The number of the first error of updates. -/
def mayE (R : Refs) (us : List Upd) (h : Bs) : Int :=
  if us = [] ∧ h = [] then 1
  else if (h ≠ [] ∧ branchB h = false) ∨ us.all (fun u => goodB u.name) = false then 11
  else if okU (fun _ => false) us = false then 1
  else if freshU R us = false then 13 else 0
theorem mk_eq_nil (h : Bs) : ((mk h).toList == []) = (h == []) := by rw [mk_toList']
set_option maxRecDepth 100000 in
set_option maxHeartbeats 8000000 in
/-- The two loops, as one contract would have them: from the map on. -/
theorem may_any (A : Option Addr) (cap : Nat) (R : Refs) (hd : ByteArray) (B : Option Addr) (nb cb : Nat) (A' : Option Addr) (cap' : Nat) (us : List Upd) (h : Bs) (m : Int) (w : World) (hs : Sorted R) (hn : R.length ≤ 1000000) (hR : RefsAt w A R)
    (hu : ∀ u ∈ us, u.name.length ≤ 2000000) (hul : us.length ≤ 1000000) (hU : Upds w A' us) (hh : h.length ≤ 2000000) (hm : w.cell? ⟨0, 0, none⟩ = some (.int .i64 m)) :
    Calls Tryd.prog 27 #[.agg #[.slice A R.length cap, .string hd, .slice B nb cb], .slice A' us.length cap', .string (mk h)] w fun e w' => e = .returned (.int .i64 (mayE R us h)) ∧ Below w.heap.size w w' := by
  by_cases hz : us = [] ∧ h = []
  · obtain ⟨rfl, rfl⟩ := hz
    have E := Lib.hid (show mayE R [] [] = 1 from by unfold mayE; rw [if_pos ⟨rfl, rfl⟩])
    have q : (mk []).toList = [] := mk_toList' []
    obtain ⟨L, hL⟩ : ∃ L, R.length = L := ⟨_, rfl⟩
    obtain ⟨z, hz⟩ : ∃ z, mk [] = z := ⟨_, rfl⟩
    rw [hL, hz, List.length_nil]
    rw [hz] at q
    have q2 : (z.toList == []) = true := by rw [q]; rfl
    clear hL hR hU hu hz hh hul q
    go_enter Tryd.func27, Tryd.ntmps27
    go_wp2
    go_ret
    exact ⟨by rw [E.out]; rfl, below_alloc _ _⟩
  have hmm := @run_makeMap Tryd.prog
  have hb1 := below_alloc w (.cells #[.slice A R.length cap, .string hd, .slice B nb cb] 31)
  have hs1 := hb1.size
  have hm1 := (hb1.cell (p := ⟨0, 0, none⟩) (cell_lt hm)).trans hm
  have hX : w.heap.size < (w.alloc (.cells #[.slice A R.length cap, .string hd, .slice B nb cb] 31)).heap.size := by simp
  have hn1 := heap_alloc_new w (.cells #[.slice A R.length cap, .string hd, .slice B nb cb] 31)
  have HT := Lib.hid (show ∀ w', Below (w.alloc (.cells #[.slice A R.length cap, .string hd, .slice B nb cb] 31)).heap.size (w.alloc (.cells #[.slice A R.length cap, .string hd, .slice B nb cb] 31)) w' →
      w'.cell? ⟨w.heap.size, 0, none⟩ = some (.slice A R.length cap) ∧ w'.cell? ⟨w.heap.size, 1, none⟩ = some (.string hd) ∧ w'.cell? ⟨w.heap.size, 2, none⟩ = some (.slice B nb cb) from fun w' hb => by
    refine ⟨(hb.cell (p := ⟨w.heap.size, 0, none⟩) hX).trans ?_, (hb.cell (p := ⟨w.heap.size, 1, none⟩) hX).trans ?_, (hb.cell (p := ⟨w.heap.size, 2, none⟩) hX).trans ?_⟩
    all_goals (unfold World.cell?; rw [hn1]; simp))
  have hR1 := hR.below (Nat.le_refl _) hb1
  have hU1 := hU.below (Nat.le_refl _) hb1
  have KG := fun (n : Bs) (w' : World) (hr : RefsAt w' A R) => get_any A cap R hd B nb cb n w' hs hn hr
  obtain ⟨W, hW⟩ : ∃ W, w.alloc (.cells #[.slice A R.length cap, .string hd, .slice B nb cb] 31) = W := ⟨_, rfl⟩
  rw [hW] at HT hb1 hs1 hX hm1 hR1 hU1
  have hW' := Lib.hid hW
  obtain ⟨L, hL⟩ : ∃ L, R.length = L := ⟨_, rfl⟩
  have KB := fun w' hm' => branch_any (mk h) m w' (by rw [mk_size]; exact hh) hm'
  rw [mk_data] at KB
  have KC := fun w' hm' hu' => contains_upd A' cap' us m w' hu (by omega) hm' hu'
  obtain ⟨n, hl⟩ : ∃ n, us.length = n := ⟨_, rfl⟩
  obtain ⟨ok, hok⟩ : ∃ ok, okU (fun _ => false) us = ok := ⟨_, rfl⟩
  obtain ⟨fr, hfr⟩ : ∃ fr, freshU R us = fr := ⟨_, rfl⟩
  have HF := Lib.hid hfr
  rw [hl] at KC hul
  rw [hL] at HT KG hW'
  rw [hL, hl]
  have hzb : (us.length = 0 → ¬ (h = [])) := fun e1 e2 => hz ⟨List.eq_nil_of_length_eq_zero e1, e2⟩
  rw [hl] at hzb
  have HU := Lib.hid hU1
  have HR := Lib.hid hR1
  have HN := Lib.hid hu
  have hq := mk_eq_nil h
  obtain ⟨hb0, hhb0⟩ : ∃ b, (h == []) = b := ⟨_, rfl⟩
  rw [hhb0] at hq
  obtain ⟨br, hbr⟩ : ∃ b, branchB h = b := ⟨_, rfl⟩
  obtain ⟨al, hal⟩ : ∃ b, us.all (fun u => goodB u.name) = b := ⟨_, rfl⟩
  simp only [hbr] at KB
  simp only [hal] at KC
  have E := Lib.hid (show mayE R us h = if (hb0 = false ∧ br = false) ∨ al = false then 11 else if ok = false then 1 else if fr = false then 13 else 0 from by
    unfold mayE
    rw [if_neg hz, hbr, hal, hok, hfr]
    have : (h ≠ [] ∧ br = false) ↔ (hb0 = false ∧ br = false) := by rw [← hhb0]; simp
    simp only [this])
  have hz2 : n = 0 → hb0 = false := fun e => by rw [← hhb0]; simpa using hzb e
  clear hbr hal hzb hz hhb0
  obtain ⟨z, hz⟩ : ∃ z, mk h = z := ⟨_, rfl⟩
  rw [hz] at KB hq
  rw [hz]
  have HL := Lib.hid hl
  have HO := Lib.hid hok
  clear hW hn1 hR hU hU1 hR1 hz hm hn hu hl hL hok hfr
  have hX2 := hX
  have start : (((n : Int) == 0) = false ∧ hb0 = true) ∨ (((n : Int) == 0) = true ∧ hb0 = false) ∨ (((n : Int) == 0) = false ∧ hb0 = false) := by
    by_cases e : n = 0
    · exact .inr (.inl ⟨by rw [e]; rfl, hz2 e⟩)
    · have : ((n : Int) == 0) = false := by rw [beq_eq_false_iff_ne]; omega
      cases hb0
      · exact .inr (.inr ⟨this, rfl⟩)
      · exact .inl ⟨this, rfl⟩
  clear hz2 hX
  rcases start with ⟨hn0, rfl⟩ | ⟨hn0, rfl⟩ | ⟨hn0, rfl⟩
  · have E1 : mayE R us h = if al = false then 11 else if ok = false then 1 else if fr = false then 13 else 0 := by rw [E.out]; simp
    obtain ⟨fin, hfin⟩ : ∃ v, mayE R us h = v := ⟨_, rfl⟩
    rw [hfin] at E1 ⊢
    have EX := Lib.hid E1
    clear E E1 hfin KB
    go_enter Tryd.func27, Tryd.ntmps27
    go_wp2_with (go_at_call 49; rw [hW'.out]; refine (KC _ hm1 HU.out).mono ?_)
    rintro e w2 ⟨rfl, hb2⟩
    clear KC
    have hs2 := hb2.size
    have hB2 : Below w.heap.size w w2 := hb1.trans (hb2.mono hs1)
    cases al
    · have E1 := EX.out
      simp only [if_true] at E1
      have E2 := Lib.hid E1
      clear EX E1
      go_wp2
      go_ret
      exact ⟨by rw [E2.out]; rfl, hB2⟩
    have E1 := EX.out
    rw [if_neg (by decide)] at E1
    have E2 := Lib.hid E1
    clear EX E1
    go_wp2
    go_loopw [35] (fun i wr => ∃ (k : Nat) (S : Bs → Bool), k ≤ n ∧ i = .int .i64 k ∧ Known wr w2.heap.size k S ∧ okU S (us.drop k) = ok ∧ Below W.heap.size W wr) (fun k _ => n - (intOf k).toNat)
    case atStart => exact ⟨0, _, Nat.zero_le _, rfl, Known.made w2, HO.out, (hb2.alloc hs2 _)⟩
    case round =>
      clear hb2
      obtain ⟨k, S, hk, rfl, hkn, hokk, hb⟩ := hrel
      have hsz := hb.size
      have hB : Below w.heap.size w wr := hb1.trans (hb.mono hs1)
      by_cases hlt : k < n
      · have hkl : k < us.length := by rw [HL.out]; exact hlt
        obtain ⟨g, rfl, hgl, hc⟩ := HU.out.below (Nat.le_refl _) hb (by omega)
        obtain ⟨o0, o1, o2⟩ := hc k hkl
        have hul0 := HN.out _ (List.getElem_mem hkl)
        have hdr : us.drop k = us[k] :: us.drop (k + 1) := (List.drop_eq_getElem_cons hkl)
        rw [hdr, okU] at hokk
        obtain ⟨t, ht⟩ : ∃ t, us[k] = t := ⟨_, rfl⟩
        rw [ht] at o0 o1 o2 hul0 hokk
        have KR := fun w => right_any t w
        unfold uval at KR
        have hkn1 := hkn.alloc (.cells #[.string (mk t.name), .string (mk t.old), .string (mk t.new)] 39)
        have hms : (mk t.name).size ≤ maxLen := by rw [mk_size]; simp only [maxLen]; omega
        have l1 := hkn1.look 93 Tryd.underlying93 (mk t.name) hms
        have hwX : wr.heap.size < (wr.alloc (.cells #[.string (mk t.name), .string (mk t.old), .string (mk t.new)] 39)).heap.size := by simp
        have hwn := heap_alloc_new wr (.cells #[.string (mk t.name), .string (mk t.old), .string (mk t.new)] 39)
        have hal := hb.alloc hsz (.cells #[.string (mk t.name), .string (mk t.old), .string (mk t.new)] 39)
        have k0 : (0 : Int) ≤ (k : Int) := by omega
        have k1 : (k : Int) < (n : Int) := by omega
        rw [mk_data] at l1
        have hdA := mk_data t.name
        obtain ⟨rt, hrt⟩ : ∃ b, rightU t = b := ⟨_, rfl⟩
        simp only [hrt] at KR
        rw [hrt] at hokk
        obtain ⟨nA, hnA⟩ : ∃ a, mk t.name = a := ⟨_, rfl⟩
        obtain ⟨nB, hnB⟩ : ∃ a, mk t.old = a := ⟨_, rfl⟩
        obtain ⟨nC, hnC⟩ : ∃ a, mk t.new = a := ⟨_, rfl⟩
        rw [hnA] at hms hdA
        simp only [hnA, hnB, hnC] at KR hkn1 l1 hwX hwn hal o0 o1 o2
        clear hnA hnB hnC hdr hc ht hkn hul0 hrt
        cases hS : S t.name
        · rw [hS] at l1 hokk
          cases rt
          · have E3 := E2.out
            rw [show ok = false by rw [← hokk]; rfl, if_pos rfl] at E3
            have E4 := Lib.hid E3
            clear E3 E2 hokk
            go_wp2_with (go_at_call 51; refine (KR _).mono ?_; rintro e w4 ⟨rfl, hb4⟩)
            go_wp2
            go_ret
            exact ⟨by rw [E4.out]; rfl, hb1.trans ((hal.trans (hb4.mono (by simp; omega))).mono hs1)⟩
          · have HOK := Lib.hid (show okU (fun x => S x || x == t.name) (us.drop (k + 1)) = ok by rw [← hokk]; rfl)
            clear hokk
            have GX := Lib.hid (show ∀ w4, Below (wr.alloc (.cells #[.string nA, .string nB, .string nC] 39)).heap.size (wr.alloc (.cells #[.string nA, .string nB, .string nC] 39)) w4 → w4.cell? ⟨wr.heap.size, 0, none⟩ = some (.string nA) from fun w4 hb4 => (hb4.cell (p := ⟨wr.heap.size, 0, none⟩) hwX).trans (by unfold World.cell?; rw [hwn]; simp))
            have GK := Lib.hid (show ∀ w4, Below (wr.alloc (.cells #[.string nA, .string nB, .string nC] 39)).heap.size (wr.alloc (.cells #[.string nA, .string nB, .string nC] 39)) w4 → Known w4 w2.heap.size k S from fun w4 hb4 => Known.below hkn1 hb4)
            have GB := Lib.hid (show ∀ w4, Below (wr.alloc (.cells #[.string nA, .string nB, .string nC] 39)).heap.size (wr.alloc (.cells #[.string nA, .string nB, .string nC] 39)) w4 → Below W.heap.size W w4 from fun w4 hb4 => hal.trans (hb4.mono (by simp; omega)))
            have hkm : k < maxLen := by simp only [maxLen]; omega
            clear hkn1 hwn hal
            go_wp2_with (first
              | (go_at_call 51; refine (KR _).mono ?_; rintro e w4 ⟨rfl, hb4⟩; have x0 := GX.out _ hb4; have hkn4 := GK.out _ hb4; have hB4 := GB.out _ hb4; clear hb4)
              | (at_mapUpdate; refine wpList_known rfl _ _ 93 rfl Tryd.underlying93 w2.heap.size k _ rfl hkn4 hkm nA hms rfl ?_))
            intro w5 hkn5 hg5
            have hB5 : Below W.heap.size W w5 := hB4.grown hg5 hB4.size (fun k e => by cases e; exact hs2)
            go_wp2
            go_roundw
            case rel => exact ⟨k + 1, _, by omega, by go_num, hkn5, HOK.out, hB5⟩
            case measure => simp [intOf]; omega
        · rw [hS] at l1 hokk
          have E3 := E2.out
          rw [show ok = false by rw [← hokk]; rfl, if_pos rfl] at E3
          have E4 := Lib.hid E3
          clear E3 E2 hokk KR
          go_wp2
          go_ret
          exact ⟨by rw [E4.out]; rfl, hb1.trans (hal.mono hs1)⟩
      · obtain rfl : k = n := by omega
        have hdn : us.drop k = [] := List.drop_of_length_le (by rw [HL.out]; exact Nat.le_refl _)
        rw [hdn] at hokk
        have E3 := E2.out
        rw [show ok = true by rw [← hokk]; rfl, if_neg (by decide)] at E3
        have E4 := Lib.hid E3
        clear E3 E2 hdn hokk HO hkn
        go_wp2
        go_loopw [54] (fun i wr => ∃ k' : Nat, k' ≤ k ∧ i = .int .i64 k' ∧ (us.take k').all (fun u => (getR R u.name).getD [] == u.old) = true ∧ Below W.heap.size W wr) (fun k' _ => k - (intOf k').toNat)
        case atStart => exact ⟨0, Nat.zero_le _, rfl, rfl, hb⟩
        case round =>
          clear hb hB hsz
          obtain ⟨j, hj, rfl, hall, hb⟩ := hrel
          have hsz := hb.size
          by_cases hjn : j < k
          · have hkl : j < us.length := by rw [HL.out]; exact hjn
            obtain ⟨g, rfl, hgl, hc⟩ := HU.out.below (Nat.le_refl _) hb (by omega)
            obtain ⟨o0, o1, o2⟩ := hc j hkl
            have H1 : (us.take (j + 1)).all (fun u => (getR R u.name).getD [] == u.old) = ((getR R us[j].name).getD [] == us[j].old) := by rw [List.take_succ_eq_append_getElem hkl, List.all_append, hall]; simp
            have H2 : ((getR R us[j].name).getD [] == us[j].old) = false → fr = false := fun h => by rw [← HF.out]; unfold freshU; rw [List.all_eq_false]; exact ⟨_, List.getElem_mem hkl, by simp [h]⟩
            obtain ⟨t, ht⟩ : ∃ t, us[j] = t := ⟨_, rfl⟩
            rw [ht] at o0 o1 o2 H1 H2
            have hal := hb.alloc hsz (.cells #[.string (mk t.name), .string (mk t.old), .string (mk t.new)] 39)
            obtain ⟨t0, t1, t2⟩ := HT.out _ hal
            have KG1 := KG t.name (wr.alloc (.cells #[.string (mk t.name), .string (mk t.old), .string (mk t.new)] 39)) (HR.out.below (Nat.le_refl _) hal)
            have hwX : wr.heap.size < (wr.alloc (.cells #[.string (mk t.name), .string (mk t.old), .string (mk t.new)] 39)).heap.size := by simp
            have hwn := heap_alloc_new wr (.cells #[.string (mk t.name), .string (mk t.old), .string (mk t.new)] 39)
            have k0 : (0 : Int) ≤ (j : Int) := by omega
            have k1 : (j : Int) < (k : Int) := by omega
            have hcmp : ((mk ((getR R t.name).getD [])).toList == (mk t.old).toList) = ((getR R t.name).getD [] == t.old) := by rw [mk_toList', mk_toList']
            obtain ⟨gv, hgv⟩ : ∃ v, mk ((getR R t.name).getD []) = v := ⟨_, rfl⟩
            obtain ⟨nA, hnA⟩ : ∃ a, mk t.name = a := ⟨_, rfl⟩
            obtain ⟨nB, hnB⟩ : ∃ a, mk t.old = a := ⟨_, rfl⟩
            obtain ⟨nC, hnC⟩ : ∃ a, mk t.new = a := ⟨_, rfl⟩
            rw [hgv, hnB] at hcmp
            simp only [hnA, hnB, hnC, hgv] at KG1 hwX hwn hal o0 o1 o2 t0 t1 t2
            obtain ⟨eqb, heqb⟩ : ∃ b, ((getR R t.name).getD [] == t.old) = b := ⟨_, rfl⟩
            rw [heqb] at hcmp H1 H2
            obtain ⟨isS, hisS⟩ : ∃ b, (getR R t.name).isSome = b := ⟨_, rfl⟩
            rw [hisS] at KG1
            clear hnA hnB hnC hgv hc ht hall heqb hisS KG
            cases eqb
            · have E5 := E4.out
              rw [H2 rfl, if_pos rfl] at E5
              have E6 := Lib.hid E5
              clear E5 E4 H1 H2
              go_wp2_with (go_at_call 21; refine KG1.mono ?_)
              rintro e w4 ⟨rfl, hb4⟩
              have x1 : w4.cell? ⟨wr.heap.size, 1, none⟩ = some (.string nB) := (hb4.cell (p := ⟨wr.heap.size, 1, none⟩) hwX).trans (by unfold World.cell?; rw [hwn]; simp)
              have hB4 := hal.trans (hb4.mono (by simp; omega))
              clear KG1 hwn hb4 hal o0 o1 o2 t0 t1 t2
              go_wp2
              go_ret
              exact ⟨by rw [E6.out]; rfl, hb1.trans (hB4.mono hs1)⟩
            · have HA := Lib.hid H1
              clear H1 H2
              go_wp2_with (go_at_call 21; refine KG1.mono ?_)
              rintro e w4 ⟨rfl, hb4⟩
              have x1 : w4.cell? ⟨wr.heap.size, 1, none⟩ = some (.string nB) := (hb4.cell (p := ⟨wr.heap.size, 1, none⟩) hwX).trans (by unfold World.cell?; rw [hwn]; simp)
              have hB4 := hal.trans (hb4.mono (by simp; omega))
              clear KG1 hwn hb4 hal o0 o1 o2 t0 t1 t2
              go_wp2
              go_roundw
              case rel => exact ⟨j + 1, by omega, by go_num, HA.out, hB4⟩
              case measure => simp [intOf]; omega
          · obtain rfl : j = k := by omega
            have e : us.take j = us := List.take_of_length_le (by rw [HL.out]; exact Nat.le_refl _)
            rw [e] at hall
            have E5 := E4.out
            rw [show fr = true by rw [← HF.out]; exact hall, if_neg (by decide)] at E5
            have E6 := Lib.hid E5
            clear E5 E4 e hall
            go_wp2
            go_ret
            exact ⟨by rw [E6.out]; rfl, hb1.trans (hb.mono hs1)⟩
  all_goals
    cases br
    · have E1 : mayE R us h = 11 := by rw [E.out]; simp
      obtain ⟨fin, hfin⟩ : ∃ v, mayE R us h = v := ⟨_, rfl⟩
      rw [hfin] at E1 ⊢
      have EX := Lib.hid E1
      clear E E1 hfin KC
      go_enter Tryd.func27, Tryd.ntmps27
      go_wp2_with (go_at_call 10; rw [hW'.out]; refine (KB _ hm1).mono ?_; rintro e w1 ⟨rfl, hb2⟩)
      go_wp2
      go_ret
      exact ⟨by rw [EX.out]; rfl, hb1.trans (hb2.mono hs1)⟩
    · have E1 : mayE R us h = if al = false then 11 else if ok = false then 1 else if fr = false then 13 else 0 := by rw [E.out]; simp
      obtain ⟨fin, hfin⟩ : ∃ v, mayE R us h = v := ⟨_, rfl⟩
      rw [hfin] at E1 ⊢
      have EX := Lib.hid E1
      clear E E1 hfin
      go_enter Tryd.func27, Tryd.ntmps27
      go_wp2_with (go_at_call 10; rw [hW'.out]; refine (KB _ hm1).mono ?_)
      rintro e w1 ⟨rfl, hb01⟩
      have K1 := KC w1 ((hb01.cell (p := ⟨0, 0, none⟩) (cell_lt hm1)).trans hm1) (HU.out.below (Nat.le_refl _) hb01)
      have hs01 := hb01.size
      go_wp2_with (go_at_call 49; refine K1.mono ?_)
      rintro e w2 ⟨rfl, hb12⟩
      have hb2 := hb01.trans (hb12.mono hs01)
      clear hb01 hb12 hs01 K1 KB
      clear KC
      have hs2 := hb2.size
      have hB2 : Below w.heap.size w w2 := hb1.trans (hb2.mono hs1)
      cases al
      · have E1 := EX.out
        simp only [if_true] at E1
        have E2 := Lib.hid E1
        clear EX E1
        go_wp2
        go_ret
        exact ⟨by rw [E2.out]; rfl, hB2⟩
      have E1 := EX.out
      rw [if_neg (by decide)] at E1
      have E2 := Lib.hid E1
      clear EX E1
      go_wp2
      go_loopw [35] (fun i wr => ∃ (k : Nat) (S : Bs → Bool), k ≤ n ∧ i = .int .i64 k ∧ Known wr w2.heap.size k S ∧ okU S (us.drop k) = ok ∧ Below W.heap.size W wr) (fun k _ => n - (intOf k).toNat)
      case atStart => exact ⟨0, _, Nat.zero_le _, rfl, Known.made w2, HO.out, (hb2.alloc hs2 _)⟩
      case round =>
        clear hb2
        obtain ⟨k, S, hk, rfl, hkn, hokk, hb⟩ := hrel
        have hsz := hb.size
        have hB : Below w.heap.size w wr := hb1.trans (hb.mono hs1)
        by_cases hlt : k < n
        · have hkl : k < us.length := by rw [HL.out]; exact hlt
          obtain ⟨g, rfl, hgl, hc⟩ := HU.out.below (Nat.le_refl _) hb (by omega)
          obtain ⟨o0, o1, o2⟩ := hc k hkl
          have hul0 := HN.out _ (List.getElem_mem hkl)
          have hdr : us.drop k = us[k] :: us.drop (k + 1) := (List.drop_eq_getElem_cons hkl)
          rw [hdr, okU] at hokk
          obtain ⟨t, ht⟩ : ∃ t, us[k] = t := ⟨_, rfl⟩
          rw [ht] at o0 o1 o2 hul0 hokk
          have KR := fun w => right_any t w
          unfold uval at KR
          have hkn1 := hkn.alloc (.cells #[.string (mk t.name), .string (mk t.old), .string (mk t.new)] 39)
          have hms : (mk t.name).size ≤ maxLen := by rw [mk_size]; simp only [maxLen]; omega
          have l1 := hkn1.look 93 Tryd.underlying93 (mk t.name) hms
          have hwX : wr.heap.size < (wr.alloc (.cells #[.string (mk t.name), .string (mk t.old), .string (mk t.new)] 39)).heap.size := by simp
          have hwn := heap_alloc_new wr (.cells #[.string (mk t.name), .string (mk t.old), .string (mk t.new)] 39)
          have hal := hb.alloc hsz (.cells #[.string (mk t.name), .string (mk t.old), .string (mk t.new)] 39)
          have k0 : (0 : Int) ≤ (k : Int) := by omega
          have k1 : (k : Int) < (n : Int) := by omega
          rw [mk_data] at l1
          have hdA := mk_data t.name
          obtain ⟨rt, hrt⟩ : ∃ b, rightU t = b := ⟨_, rfl⟩
          simp only [hrt] at KR
          rw [hrt] at hokk
          obtain ⟨nA, hnA⟩ : ∃ a, mk t.name = a := ⟨_, rfl⟩
          obtain ⟨nB, hnB⟩ : ∃ a, mk t.old = a := ⟨_, rfl⟩
          obtain ⟨nC, hnC⟩ : ∃ a, mk t.new = a := ⟨_, rfl⟩
          rw [hnA] at hms hdA
          simp only [hnA, hnB, hnC] at KR hkn1 l1 hwX hwn hal o0 o1 o2
          clear hnA hnB hnC hdr hc ht hkn hul0 hrt
          cases hS : S t.name
          · rw [hS] at l1 hokk
            cases rt
            · have E3 := E2.out
              rw [show ok = false by rw [← hokk]; rfl, if_pos rfl] at E3
              have E4 := Lib.hid E3
              clear E3 E2 hokk
              go_wp2_with (go_at_call 51; refine (KR _).mono ?_; rintro e w4 ⟨rfl, hb4⟩)
              go_wp2
              go_ret
              exact ⟨by rw [E4.out]; rfl, hb1.trans ((hal.trans (hb4.mono (by simp; omega))).mono hs1)⟩
            · have HOK := Lib.hid (show okU (fun x => S x || x == t.name) (us.drop (k + 1)) = ok by rw [← hokk]; rfl)
              clear hokk
              have GX := Lib.hid (show ∀ w4, Below (wr.alloc (.cells #[.string nA, .string nB, .string nC] 39)).heap.size (wr.alloc (.cells #[.string nA, .string nB, .string nC] 39)) w4 → w4.cell? ⟨wr.heap.size, 0, none⟩ = some (.string nA) from fun w4 hb4 => (hb4.cell (p := ⟨wr.heap.size, 0, none⟩) hwX).trans (by unfold World.cell?; rw [hwn]; simp))
              have GK := Lib.hid (show ∀ w4, Below (wr.alloc (.cells #[.string nA, .string nB, .string nC] 39)).heap.size (wr.alloc (.cells #[.string nA, .string nB, .string nC] 39)) w4 → Known w4 w2.heap.size k S from fun w4 hb4 => Known.below hkn1 hb4)
              have GB := Lib.hid (show ∀ w4, Below (wr.alloc (.cells #[.string nA, .string nB, .string nC] 39)).heap.size (wr.alloc (.cells #[.string nA, .string nB, .string nC] 39)) w4 → Below W.heap.size W w4 from fun w4 hb4 => hal.trans (hb4.mono (by simp; omega)))
              have hkm : k < maxLen := by simp only [maxLen]; omega
              clear hkn1 hwn hal
              go_wp2_with (first
                | (go_at_call 51; refine (KR _).mono ?_; rintro e w4 ⟨rfl, hb4⟩; have x0 := GX.out _ hb4; have hkn4 := GK.out _ hb4; have hB4 := GB.out _ hb4; clear hb4)
                | (at_mapUpdate; refine wpList_known rfl _ _ 93 rfl Tryd.underlying93 w2.heap.size k _ rfl hkn4 hkm nA hms rfl ?_))
              intro w5 hkn5 hg5
              have hB5 : Below W.heap.size W w5 := hB4.grown hg5 hB4.size (fun k e => by cases e; exact hs2)
              go_wp2
              go_roundw
              case rel => exact ⟨k + 1, _, by omega, by go_num, hkn5, HOK.out, hB5⟩
              case measure => simp [intOf]; omega
          · rw [hS] at l1 hokk
            have E3 := E2.out
            rw [show ok = false by rw [← hokk]; rfl, if_pos rfl] at E3
            have E4 := Lib.hid E3
            clear E3 E2 hokk KR
            go_wp2
            go_ret
            exact ⟨by rw [E4.out]; rfl, hb1.trans (hal.mono hs1)⟩
        · obtain rfl : k = n := by omega
          have hdn : us.drop k = [] := List.drop_of_length_le (by rw [HL.out]; exact Nat.le_refl _)
          rw [hdn] at hokk
          have E3 := E2.out
          rw [show ok = true by rw [← hokk]; rfl, if_neg (by decide)] at E3
          have E4 := Lib.hid E3
          clear E3 E2 hdn hokk HO hkn
          go_wp2
          go_loopw [54] (fun i wr => ∃ k' : Nat, k' ≤ k ∧ i = .int .i64 k' ∧ (us.take k').all (fun u => (getR R u.name).getD [] == u.old) = true ∧ Below W.heap.size W wr) (fun k' _ => k - (intOf k').toNat)
          case atStart => exact ⟨0, Nat.zero_le _, rfl, rfl, hb⟩
          case round =>
            clear hb hB hsz
            obtain ⟨j, hj, rfl, hall, hb⟩ := hrel
            have hsz := hb.size
            by_cases hjn : j < k
            · have hkl : j < us.length := by rw [HL.out]; exact hjn
              obtain ⟨g, rfl, hgl, hc⟩ := HU.out.below (Nat.le_refl _) hb (by omega)
              obtain ⟨o0, o1, o2⟩ := hc j hkl
              have H1 : (us.take (j + 1)).all (fun u => (getR R u.name).getD [] == u.old) = ((getR R us[j].name).getD [] == us[j].old) := by rw [List.take_succ_eq_append_getElem hkl, List.all_append, hall]; simp
              have H2 : ((getR R us[j].name).getD [] == us[j].old) = false → fr = false := fun h => by rw [← HF.out]; unfold freshU; rw [List.all_eq_false]; exact ⟨_, List.getElem_mem hkl, by simp [h]⟩
              obtain ⟨t, ht⟩ : ∃ t, us[j] = t := ⟨_, rfl⟩
              rw [ht] at o0 o1 o2 H1 H2
              have hal := hb.alloc hsz (.cells #[.string (mk t.name), .string (mk t.old), .string (mk t.new)] 39)
              obtain ⟨t0, t1, t2⟩ := HT.out _ hal
              have KG1 := KG t.name (wr.alloc (.cells #[.string (mk t.name), .string (mk t.old), .string (mk t.new)] 39)) (HR.out.below (Nat.le_refl _) hal)
              have hwX : wr.heap.size < (wr.alloc (.cells #[.string (mk t.name), .string (mk t.old), .string (mk t.new)] 39)).heap.size := by simp
              have hwn := heap_alloc_new wr (.cells #[.string (mk t.name), .string (mk t.old), .string (mk t.new)] 39)
              have k0 : (0 : Int) ≤ (j : Int) := by omega
              have k1 : (j : Int) < (k : Int) := by omega
              have hcmp : ((mk ((getR R t.name).getD [])).toList == (mk t.old).toList) = ((getR R t.name).getD [] == t.old) := by rw [mk_toList', mk_toList']
              obtain ⟨gv, hgv⟩ : ∃ v, mk ((getR R t.name).getD []) = v := ⟨_, rfl⟩
              obtain ⟨nA, hnA⟩ : ∃ a, mk t.name = a := ⟨_, rfl⟩
              obtain ⟨nB, hnB⟩ : ∃ a, mk t.old = a := ⟨_, rfl⟩
              obtain ⟨nC, hnC⟩ : ∃ a, mk t.new = a := ⟨_, rfl⟩
              rw [hgv, hnB] at hcmp
              simp only [hnA, hnB, hnC, hgv] at KG1 hwX hwn hal o0 o1 o2 t0 t1 t2
              obtain ⟨eqb, heqb⟩ : ∃ b, ((getR R t.name).getD [] == t.old) = b := ⟨_, rfl⟩
              rw [heqb] at hcmp H1 H2
              obtain ⟨isS, hisS⟩ : ∃ b, (getR R t.name).isSome = b := ⟨_, rfl⟩
              rw [hisS] at KG1
              clear hnA hnB hnC hgv hc ht hall heqb hisS KG
              cases eqb
              · have E5 := E4.out
                rw [H2 rfl, if_pos rfl] at E5
                have E6 := Lib.hid E5
                clear E5 E4 H1 H2
                go_wp2_with (go_at_call 21; refine KG1.mono ?_)
                rintro e w4 ⟨rfl, hb4⟩
                have x1 : w4.cell? ⟨wr.heap.size, 1, none⟩ = some (.string nB) := (hb4.cell (p := ⟨wr.heap.size, 1, none⟩) hwX).trans (by unfold World.cell?; rw [hwn]; simp)
                have hB4 := hal.trans (hb4.mono (by simp; omega))
                clear KG1 hwn hb4 hal o0 o1 o2 t0 t1 t2
                go_wp2
                go_ret
                exact ⟨by rw [E6.out]; rfl, hb1.trans (hB4.mono hs1)⟩
              · have HA := Lib.hid H1
                clear H1 H2
                go_wp2_with (go_at_call 21; refine KG1.mono ?_)
                rintro e w4 ⟨rfl, hb4⟩
                have x1 : w4.cell? ⟨wr.heap.size, 1, none⟩ = some (.string nB) := (hb4.cell (p := ⟨wr.heap.size, 1, none⟩) hwX).trans (by unfold World.cell?; rw [hwn]; simp)
                have hB4 := hal.trans (hb4.mono (by simp; omega))
                clear KG1 hwn hb4 hal o0 o1 o2 t0 t1 t2
                go_wp2
                go_roundw
                case rel => exact ⟨j + 1, by omega, by go_num, HA.out, hB4⟩
                case measure => simp [intOf]; omega
            · obtain rfl : j = k := by omega
              have e : us.take j = us := List.take_of_length_le (by rw [HL.out]; exact Nat.le_refl _)
              rw [e] at hall
              have E5 := E4.out
              rw [show fr = true by rw [← HF.out]; exact hall, if_neg (by decide)] at E5
              have E6 := Lib.hid E5
              clear E5 E4 e hall
              go_wp2
              go_ret
              exact ⟨by rw [E6.out]; rfl, hb1.trans (hb.mono hs1)⟩
end Go.Proofs.YtlkfnhcnfjdgbaaDoor
