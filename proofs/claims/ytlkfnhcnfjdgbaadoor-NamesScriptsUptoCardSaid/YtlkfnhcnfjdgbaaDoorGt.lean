/- slices.BinarySearchFunc over sorted references, walked; find and Get at any table. -/
import Derived.Test.YtlkfnhcnfjdgbaaDoorUg
namespace Go.Proofs.YtlkfnhcnfjdgbaaDoor
open Go.RowKit Go.Maps Go.WideMaps
/-- How many names lie ahead of n. -/
def posR : Refs → Bs → Nat
  | [], _ => 0
  | r :: R, n => if Lib.compareBytes r.1 n < 0 then posR R n + 1 else 0
theorem pos_le (R : Refs) (n : Bs) : posR R n ≤ R.length := by
  induction R with
  | nil => exact Nat.le_refl _
  | cons r R ih => rw [posR]; split <;> simp <;> omega
theorem pos_lt (R : Refs) (n : Bs) : ∀ j (h : j < R.length), j < posR R n → Lib.compareBytes R[j].1 n < 0 := by
  induction R with
  | nil => intro j h; simp at h
  | cons r R ih =>
    intro j h hp
    rw [posR] at hp
    split at hp
    · rename_i hc
      cases j with
      | zero => exact hc
      | succ j => simpa using ih j (by simpa using h) (by omega)
    · omega
theorem pos_ge (R : Refs) (n : Bs) (hs : Sorted R) : ∀ j (h : j < R.length), posR R n ≤ j → ¬ Lib.compareBytes R[j].1 n < 0 := by
  induction R with
  | nil => intro j h; simp at h
  | cons r R ih =>
    obtain ⟨h1, h2⟩ := List.pairwise_cons.1 hs
    intro j h hp
    rw [posR] at hp
    split at hp
    · cases j with
      | zero => omega
      | succ j => simpa using ih h2 j (by simpa using h) (by omega)
    · rename_i hc
      cases j with
      | zero => exact hc
      | succ j =>
        intro hl
        have hj : j < R.length := by simpa using h
        have hr := h1 R[j] (List.getElem_mem hj)
        have hl' : Lib.compareBytes R[j].1 n < 0 := by simpa using hl
        exact hc (lt_trans' _ _ _ hr hl')
theorem get_pos (R : Refs) (n : Bs) (hs : Sorted R) : (∃ h : posR R n < R.length, R[posR R n].1 = n ∧ getR R n = some R[posR R n].2) ∨ (getR R n = none ∧ ∀ h : posR R n < R.length, R[posR R n].1 ≠ n) := by
  induction R with
  | nil => exact .inr ⟨rfl, fun h => by simp at h⟩
  | cons r R ih =>
    obtain ⟨h1, h2⟩ := List.pairwise_cons.1 hs
    by_cases hc : Lib.compareBytes r.1 n < 0
    · have hne : r.1 ≠ n := by intro e; rw [e, cmp_self] at hc; omega
      have hp : posR (r :: R) n = posR R n + 1 := by rw [posR, if_pos hc]
      have hg : getR (r :: R) n = getR R n := by rw [getR, if_neg hne]
      rcases ih h2 with ⟨h, e1, e2⟩ | ⟨e1, e2⟩
      · refine .inl ⟨by rw [hp]; simpa using h, ?_, ?_⟩
        · simp only [hp, List.getElem_cons_succ]; exact e1
        · rw [hg]; simp only [hp, List.getElem_cons_succ]; exact e2
      · refine .inr ⟨by rw [hg]; exact e1, fun h => ?_⟩
        simp only [hp, List.getElem_cons_succ]
        exact e2 (by rw [hp] at h; simpa using h)
    · have hp : posR (r :: R) n = 0 := by rw [posR, if_neg hc]
      by_cases e : r.1 = n
      · refine .inl ⟨by rw [hp]; simp, ?_, ?_⟩
        · simp only [hp, List.getElem_cons_zero]; exact e
        · rw [getR, if_pos e]; simp only [hp, List.getElem_cons_zero]
      · refine .inr ⟨?_, fun h => by simp only [hp, List.getElem_cons_zero]; exact e⟩
        refine getR_below fun x hx => ?_
        have hnr : ltB n r.1 := by
          rcases lt_or r.1 n with y | y | y
          · exact absurd y hc
          · exact absurd y e
          · exact y
        rcases List.mem_cons.1 hx with rfl | hx
        · exact hnr
        · exact lt_trans' _ _ _ hnr (h1 x hx)
/-- References lie as a slice. -/
def RefsAt (w : World) (A : Option Addr) (R : Refs) : Prop :=
  0 < R.length → ∃ g, A = some ⟨g, 0, none⟩ ∧ g < w.heap.size ∧ ∀ j (h : j < R.length), w.cell? ⟨g, j * 2, none⟩ = some (.string (mk R[j].1)) ∧ w.cell? ⟨g, j * 2 + 1, none⟩ = some (.string (mk R[j].2))
theorem RefsAt.below {w w' : World} {A : Option Addr} {R : Refs} (h : RefsAt w A R) {B : Nat} (hB : w.heap.size ≤ B) (hb : Below B w w') : RefsAt w' A R := by
  intro h0
  obtain ⟨g, rfl, hl, hc⟩ := h h0
  have hl' := Nat.lt_of_lt_of_le hl hB
  refine ⟨g, rfl, Nat.lt_of_lt_of_le hl hb.size, fun j hj => ?_⟩
  obtain ⟨c0, c1⟩ := hc j hj
  exact ⟨(hb.cell (p := ⟨g, j * 2, none⟩) hl').trans c0, (hb.cell (p := ⟨g, j * 2 + 1, none⟩) hl').trans c1⟩
theorem cmp_mk (a i b : Bs) (w : World) : Calls Tryd.prog 53 #[.agg #[.string (mk a), .string (mk i)], .string (mk b)] w fun e w' => e = .returned (.int .i64 (Lib.compareBytes a b)) ∧ Below w.heap.size w w' := by
  have := cmp_any (mk a) (mk i) (mk b) w
  rw [mk_data, mk_data] at this
  exact this
set_option maxHeartbeats 1600000 in
theorem bsf_any (A : Option Addr) (cap : Nat) (R : Refs) (n : Bs) (w : World) (hs : Sorted R) (hn : R.length ≤ 1000000) (hR : RefsAt w A R) :
    Calls Tryd.prog 52 #[.slice A R.length cap, .string (mk n), .func (.func 53) #[] #[]] w fun e w' => e = .returned (.tuple #[.int .i64 (posR R n), .bool (getR R n).isSome]) ∧ Below w.heap.size w w' := by
  obtain ⟨L, hL⟩ : ∃ L, R.length = L := ⟨_, rfl⟩
  have hpl := pos_le R n
  rw [hL] at hn hpl ⊢
  have HR := Lib.hid hR
  have HS := Lib.hid hs
  obtain ⟨p, hp⟩ : ∃ p, posR R n = p := ⟨_, rfl⟩
  have HP1 := Lib.hid (fun j (h : j < R.length) => pos_lt R n j h)
  have HP2 := Lib.hid (fun j (h : j < R.length) => pos_ge R n hs j h)
  rw [hp] at hpl HP1 HP2 ⊢
  clear hR hs
  go_enter Tryd.func52, Tryd.ntmps52
  go_wp2
  go_loopw [9, 10, 11] (fun a b _ wr => ∃ i j : Nat, i ≤ p ∧ p ≤ j ∧ j ≤ L ∧ a = .int .i64 i ∧ b = .int .i64 j ∧ Below w.heap.size w wr) (fun a b _ _ => (intOf b).toNat - (intOf a).toNat)
  case atStart => exact ⟨0, L, Nat.zero_le _, hpl, Nat.le_refl _, rfl, rfl, Below.refl _ _⟩
  case round =>
    obtain ⟨i, j, hi, hj, hjL, rfl, rfl, hb⟩ := hrel
    by_cases hlt : i < j
    · have hml : (i + j) / 2 < R.length := by omega
      obtain ⟨g, rfl, hgl, hc⟩ := HR.out.below (Nat.le_refl _) hb (by omega)
      obtain ⟨c0, c1⟩ := hc ((i + j) / 2) hml
      have q1 := HP1.out _ hml
      have q2 := HP2.out _ hml
      have K := fun w => cmp_mk R[(i + j) / 2].1 R[(i + j) / 2].2 n w
      obtain ⟨r, hr⟩ : ∃ r, R[(i + j) / 2] = r := ⟨_, rfl⟩
      rw [hr] at c0 c1 q1 q2 K
      have hsz := hb.size
      clear hc hr
      obtain ⟨c, hcv⟩ : ∃ c, Lib.compareBytes r.1 n = c := ⟨_, rfl⟩
      rw [hcv] at K q1 q2
      clear hcv
      by_cases hneg : c < 0
      · have hmp : (i + j) / 2 + 1 ≤ p := by
          rcases Nat.lt_or_ge ((i + j) / 2) p with h | h
          · omega
          · have := q2 h; omega
        clear q1 q2 HP1 HP2
        go_wp2_with (go_at_call 53; refine (K _).mono ?_; rintro e w' ⟨rfl, hb'⟩)
        go_wp2
        go_roundw
        case rel => exact ⟨(i + j) / 2 + 1, j, hmp, hj, hjL, congrArg (Value.int .i64) (by omega), rfl, hb.trans (hb'.mono hsz)⟩
        case measure => simp [intOf]; omega
      · have hmp : p ≤ (i + j) / 2 := by
          rcases Nat.lt_or_ge ((i + j) / 2) p with h | h
          · have := q1 h; omega
          · exact h
        clear q1 q2 HP1 HP2
        go_wp2_with (go_at_call 53; refine (K _).mono ?_; rintro e w' ⟨rfl, hb'⟩)
        go_wp2
        go_roundw
        case rel => exact ⟨i, (i + j) / 2, hi, hmp, by omega, rfl, congrArg (Value.int .i64) (by omega), hb.trans (hb'.mono hsz)⟩
        case measure => simp [intOf]; omega
    · obtain rfl : i = p := by omega
      obtain rfl : j = i := by omega
      have hsz := hb.size
      clear HP1 HP2
      rcases get_pos R n HS.out with ⟨h, e1, e2⟩ | ⟨e1, e2⟩
      · have hpL : j < R.length := by rw [← hp]; exact h
        obtain ⟨g, rfl, hgl, hc⟩ := HR.out.below (Nat.le_refl _) hb (by omega)
        obtain ⟨c0, c1⟩ := hc j hpL
        have K := fun w => cmp_mk R[j].1 R[j].2 n w
        have en : R[j].1 = n := by simp only [hp] at e1; exact e1
        rw [en, cmp_self] at K
        rw [en] at c0
        have E := Lib.hid (show (getR R n).isSome = true by rw [e2]; rfl)
        have k1 : (j : Int) < (L : Int) := by omega
        have k0 : (0 : Int) ≤ (j : Int) := by omega
        obtain ⟨r, hr⟩ : ∃ r, mk R[j].2 = r := ⟨_, rfl⟩
        rw [hr] at c1 K
        clear hc e1 e2 hr
        go_wp2_with (go_at_call 53; refine (K _).mono ?_; rintro e w' ⟨rfl, hb'⟩)
        go_wp2
        go_ret2
        exact ⟨by rw [E.out]; rfl, hb.trans (hb'.mono hsz)⟩
      · have E := Lib.hid (show (getR R n).isSome = false by rw [e1]; rfl)
        by_cases hpL : j < R.length
        · obtain ⟨g, rfl, hgl, hc⟩ := HR.out.below (Nat.le_refl _) hb (by omega)
          obtain ⟨c0, c1⟩ := hc j hpL
          have K := fun w => cmp_mk R[j].1 R[j].2 n w
          have en : R[j].1 ≠ n := by have := e2 (by rw [hp]; exact hpL); simp only [hp] at this; exact this
          have hcn : (Lib.compareBytes R[j].1 n == 0) = false := by rw [beq_eq_false_iff_ne]; exact fun h => en (cmp_eq _ _ h)
          obtain ⟨c, hcv⟩ : ∃ c, Lib.compareBytes R[j].1 n = c := ⟨_, rfl⟩
          rw [hcv] at K hcn
          have k1 : (j : Int) < (L : Int) := by omega
          have k0 : (0 : Int) ≤ (j : Int) := by omega
          obtain ⟨r, hr⟩ : ∃ r, R[j] = r := ⟨_, rfl⟩
          rw [hr] at c0 c1 K
          clear hc e1 e2 hr hcv en
          go_wp2_with (go_at_call 53; refine (K _).mono ?_; rintro e w' ⟨rfl, hb'⟩)
          go_wp2
          go_ret2
          exact ⟨by rw [E.out]; rfl, hb.trans (hb'.mono hsz)⟩
        · have k1 : ¬ (j : Int) < (L : Int) := by omega
          clear e1 e2
          go_wp2
          go_ret2
          exact ⟨by rw [E.out]; rfl, hb⟩
end Go.Proofs.YtlkfnhcnfjdgbaaDoor
/- names.Table's find and Get at any table, walked. -/
namespace Go.Proofs.YtlkfnhcnfjdgbaaDoor
open Go.RowKit Go.Maps Go.WideMaps
theorem find_any (A : Option Addr) (cap : Nat) (R : Refs) (hd : ByteArray) (B : Option Addr) (nb cb : Nat) (n : Bs) (w : World) (hs : Sorted R) (hn : R.length ≤ 1000000) (hR : RefsAt w A R) :
    Calls Tryd.prog 30 #[.agg #[.slice A R.length cap, .string hd, .slice B nb cb], .string (mk n)] w fun e w' => e = .returned (.tuple #[.int .i64 (posR R n), .bool (getR R n).isSome]) ∧ Below w.heap.size w w' := by
  have hb := below_alloc w (.cells #[.slice A R.length cap, .string hd, .slice B nb cb] 31)
  have K := bsf_any A cap R n _ hs hn (hR.below (Nat.le_refl _) hb)
  obtain ⟨L, hL⟩ : ∃ L, R.length = L := ⟨_, rfl⟩
  rw [hL] at K hb ⊢
  have hsz := hb.size
  clear hL hR
  go_enter Tryd.func30, Tryd.ntmps30
  go_wp2_with (go_at_call 52; refine K.mono ?_; rintro e w' ⟨rfl, hb'⟩)
  go_wp2
  go_ret2
  exact ⟨rfl, hb.trans (hb'.mono hsz)⟩
theorem get_any (A : Option Addr) (cap : Nat) (R : Refs) (hd : ByteArray) (B : Option Addr) (nb cb : Nat) (n : Bs) (w : World) (hs : Sorted R) (hn : R.length ≤ 1000000) (hR : RefsAt w A R) :
    Calls Tryd.prog 21 #[.agg #[.slice A R.length cap, .string hd, .slice B nb cb], .string (mk n)] w fun e w' => e = .returned (.tuple #[.string (mk ((getR R n).getD [])), .bool (getR R n).isSome]) ∧ Below w.heap.size w w' := by
  have hb := below_alloc w (.cells #[.slice A R.length cap, .string hd, .slice B nb cb] 31)
  have K := find_any A cap R hd B nb cb n _ hs hn (hR.below (Nat.le_refl _) hb)
  have hX := alloc_lt w (.cells #[.slice A R.length cap, .string hd, .slice B nb cb] 31)
  have hVn := heap_alloc_new w (.cells #[.slice A R.length cap, .string hd, .slice B nb cb] 31)
  have hR1 := hR.below (Nat.le_refl _) hb
  have hsz := hb.size
  rcases get_pos R n hs with ⟨h, e1, e2⟩ | ⟨e1, e2⟩
  · obtain ⟨g, rfl, hgl, hc⟩ := hR1 (by omega)
    obtain ⟨_, c1⟩ := hc (posR R n) h
    have E := Lib.hid (show (getR R n).getD [] = R[posR R n].2 by rw [e2]; rfl)
    have E2 := Lib.hid e2
    rw [show (getR R n).isSome = true by rw [e2]; rfl] at K
    have k1 : (posR R n : Int) < (R.length : Int) := by omega
    have k0 : (0 : Int) ≤ (posR R n : Int) := by omega
    obtain ⟨v, hv⟩ : ∃ v, R[posR R n].2 = v := ⟨_, rfl⟩
    rw [hv] at c1 E
    obtain ⟨L, hL⟩ : ∃ L, R.length = L := ⟨_, rfl⟩
    obtain ⟨p, hp⟩ : ∃ p, posR R n = p := ⟨_, rfl⟩
    rw [hL] at K hb hX hVn hgl c1 k1 hsz ⊢
    rw [hp] at K c1 k1 k0
    have G : ∀ w', Below (w.alloc (.cells #[.slice (some ⟨g, 0, none⟩) L cap, .string hd, .slice B nb cb] 31)).heap.size (w.alloc (.cells #[.slice (some ⟨g, 0, none⟩) L cap, .string hd, .slice B nb cb] 31)) w' →
        w'.cell? ⟨w.heap.size, 0, none⟩ = some (.slice (some ⟨g, 0, none⟩) L cap) ∧ w'.cell? ⟨g, p * 2 + 1, none⟩ = some (.string (mk v)) := fun w' hb' =>
      ⟨(hb'.cell (p := ⟨w.heap.size, 0, none⟩) hX).trans (by unfold World.cell?; rw [hVn]; simp), (hb'.cell (p := ⟨g, p * 2 + 1, none⟩) hgl).trans c1⟩
    have hg := Lib.hid G
    clear hc e1 e2 hv hL hp hR hR1 hVn hX c1 G
    go_enter Tryd.func21, Tryd.ntmps21
    go_wp2_with (go_at_call 30; refine K.mono ?_; rintro e w' ⟨rfl, hb'⟩; obtain ⟨g0, g1⟩ := hg.out _ hb')
    go_wp2
    go_ret2
    exact ⟨by rw [E.out, E2.out]; rfl, hb.trans (hb'.mono hsz)⟩
  · have E2 := Lib.hid e1
    rw [show (getR R n).isSome = false by rw [e1]; rfl] at K
    obtain ⟨L, hL⟩ : ∃ L, R.length = L := ⟨_, rfl⟩
    obtain ⟨p, hp⟩ : ∃ p, posR R n = p := ⟨_, rfl⟩
    rw [hL] at K hb hsz ⊢
    rw [hp] at K
    clear e1 e2 hL hp hR hR1 hVn hX
    go_enter Tryd.func21, Tryd.ntmps21
    go_wp2_with (go_at_call 30; refine K.mono ?_; rintro e w' ⟨rfl, hb'⟩)
    go_wp2
    go_ret2
    exact ⟨by rw [E2.out]; rfl, hb.trans (hb'.mono hsz)⟩
end Go.Proofs.YtlkfnhcnfjdgbaaDoor
