/- merges.Invalid and its closure, walked: the first pair with a part that there isn't yet. -/
import Derived.Test.YtejokbfejkkpmaaDoorRk
import Derived.Test.YtejokbfejkkpmaaDoorVw
import Derived.Test.YtejokbfejkkpmaaDoorDk
import Derived.Test.YtejokbfejkkpmaaDoorVm
namespace Go.Proofs.YtejokbfejkkpmaaDoor
open Go.RowKit Go.Maps Go.WideMaps
def isT (done : List Bs) (s : Bs) : Bool := decide (s.length ≤ 1) || done.contains s
def joins (l : List Pr) : List Bs := l.map fun p => p.1 ++ p.2
def badM (l : List Pr) (i : Nat) : Bool := match l[i]? with
  | some p => !(isT (joins (l.take i)) p.1 && isT (joins (l.take i)) p.2)
  | none => false
/-- The first pair with a part that there isn't yet. -/
def invM (l : List Pr) : Nat → Nat → Int
  | _, 0 => -1
  | i, k + 1 => if badM l i then (i : Int) else invM l (i + 1) k
def invalidM (l : List Pr) : Int := invM l 0 l.length
theorem joins_snoc (l : List Pr) (p : Pr) : joins (l ++ [p]) = joins l ++ [p.1 ++ p.2] := by simp [joins]
theorem invM_at (l : List Pr) (m : Nat) (hm : badM l m = true) : ∀ (k i : Nat), i ≤ m → m < i + k → (∀ j, i ≤ j → j < m → badM l j = false) → invM l i k = (m : Int) := by
  intro k
  induction k with
  | zero => intro i h1 h2; omega
  | succ k ih =>
    intro i h1 h2 h3
    rw [invM]
    by_cases he : i = m
    · subst he; rw [if_pos hm]
    · rw [if_neg (by rw [h3 i (Nat.le_refl _) (by omega)]; simp)]
      exact ih (i + 1) (by omega) (by omega) (fun j h4 h5 => h3 j (by omega) h5)
theorem inv_at (l : List Pr) (m : Nat) (h : m < l.length) (hm : badM l m = true) (hno : ∀ j, j < m → badM l j = false) : invalidM l = (m : Int) :=
  invM_at l m hm l.length 0 (Nat.zero_le _) (by omega) (fun j _ h => hno j h)
theorem invM_none (l : List Pr) : ∀ (k i : Nat), (∀ j, i ≤ j → j < i + k → badM l j = false) → invM l i k = -1 := by
  intro k
  induction k with
  | zero => intro i _; rfl
  | succ k ih =>
    intro i h
    rw [invM, if_neg (by rw [h i (Nat.le_refl _) (by omega)]; simp)]
    exact ih (i + 1) (fun j h1 h2 => h j (by omega) (by omega))
theorem inv_none (l : List Pr) (h : ∀ j, j < l.length → badM l j = false) : invalidM l = -1 := invM_none l l.length 0 (fun j _ h2 => h j (by omega))
theorem badM_at (l : List Pr) (i : Nat) (h : i < l.length) : badM l i = !(isT (joins (l.take i)) l[i].1 && isT (joins (l.take i)) l[i].2) := by
  unfold badM; rw [List.getElem?_eq_getElem h]
theorem cont_snoc (D : List Bs) (P t : Bs) : (D ++ [P]).contains t = (decide (t ∈ D) || t == P) := by
  rw [Bool.eq_iff_iff]; simp
theorem known_like {w : World} {b n : Nat} {S S2 : Bs → Bool} (h : Known w b n S) (e : ∀ t, S2 t = S t) : Known w b n S2 := by
  obtain ⟨D, h1, h2⟩ := h
  exact ⟨D, h1, fun t => by rw [h2, e]⟩
set_option maxRecDepth 100000 in
set_option maxHeartbeats 1600000 in
theorem is_any (bm bk n : Nat) (D : List Bs) (s : ByteArray) (w : World) (hs : s.size ≤ maxLen) (hk : Boxed w bk 68 (.map (some bm))) (hn : Known w bm n (fun u => D.contains u)) (b : Bool) (hb : isT D s.data.toList = b) :
    Calls Tryd.prog 36 #[.string s, .pointer (some ⟨bk, 0, none⟩)] w fun e w' => e = .returned (.bool b) ∧ w = w' := by
  have c1 := hk.cell
  have l1 := hn.look 68 Tryd.underlying68 s hs
  have hsl : s.data.toList.length = s.size := by simp
  have hT : isT D s.data.toList = (decide (s.size ≤ 1) || D.contains s.data.toList) := by unfold isT; rw [hsl]
  rw [hb] at hT
  have HT := Lib.hid hT
  clear hk hn hT hb hsl
  by_cases h1 : s.size ≤ 1
  · go_enter Tryd.func36, Tryd.ntmps36
    go_wp2
    go_ret
    exact ⟨by rw [HT.out]; simp [h1] <;> omega, rfl⟩
  · cases hc : D.contains s.data.toList
    all_goals
      rw [hc] at l1
      have HC := Lib.hid hc
      clear hc
      go_enter Tryd.func36, Tryd.ntmps36
      go_wp2
      go_ret
      exact ⟨by rw [HT.out, HC.out]; simp [h1] <;> omega, rfl⟩
set_option maxRecDepth 100000 in
set_option maxHeartbeats 4000000 in
theorem invalid_any (A : Option Addr) (cap : Nat) (l : List Pr) (w : World) (hn : l.length ≤ 4096) (hs : ∀ p ∈ l, p.1.length ≤ 64 ∧ p.2.length ≤ 64) (hp : PairArg w A l.length l) :
    Calls Tryd.prog 22 #[.slice A l.length cap] w fun e w' => e = .returned (.int .i64 (invalidM l)) ∧ Below w.heap.size w w' := by
  have hmm := @run_makeMap Tryd.prog
  obtain ⟨n, hL⟩ : ∃ n, l.length = n := ⟨_, rfl⟩
  rw [hL] at hn hp ⊢
  have HP := Lib.hid hp
  have HS := Lib.hid hs
  have HL := Lib.hid hL
  obtain ⟨B, hB0⟩ : ∃ B, w.heap.size = B := ⟨_, rfl⟩
  have HB0 := Lib.hid hB0
  have k0 := (Known.made w).alloc (.cells #[.map (some w.heap.size)] 68)
  have b0 := Boxed.new (w.alloc (.map #[] 0)) 68 (.map (some w.heap.size))
  have bb0 := (below_alloc w (.map #[] 0)).alloc (by simp) (.cells #[.map (some w.heap.size)] 68)
  rw [show (w.alloc (.map #[] 0)).heap.size = w.heap.size + 1 by simp] at b0
  rw [hB0] at k0 b0 bb0 ⊢
  clear hp hs hL
  have HK0 := Lib.hid k0
  have Hb0 := Lib.hid b0
  have Hbb0 := Lib.hid bb0
  clear k0 b0 bb0
  go_enter Tryd.func22, Tryd.ntmps22
  go_wp2
  try simp only [hB0]
  go_loopw [5, 6, 11] (fun _ _ i wr => ∃ k : Nat, k ≤ n ∧ i = .int .i64 k ∧ Known wr B k (fun u => (joins (l.take k)).contains u) ∧ Boxed wr (B + 1) 68 (.map (some B)) ∧ Below B w wr ∧ ∀ j, j < k → badM l j = false) (fun _ _ i _ => n - (intOf i).toNat)
  case atStart => exact ⟨0, Nat.zero_le _, rfl, HK0.out, Hb0.out, Hbb0.out, fun j h => absurd h (by omega)⟩
  case round =>
    clear HK0 Hb0 Hbb0
    obtain ⟨k, hk, rfl, hkn, hbx, hBw, hno⟩ := hrel
    by_cases hlt : k < n
    · have hkl : k < l.length := by rw [HL.out]; exact hlt
      obtain ⟨g, o, rfl, hg, hc⟩ := HP.out.2.2.1 (by omega)
      rw [HB0.out] at hg
      obtain ⟨g0, g1⟩ := hc k hkl
      have d0 := (hBw.cell (p := ⟨g, o + k * 2, none⟩) hg).trans g0
      have d1 := (hBw.cell (p := ⟨g, o + k * 2 + 1, none⟩) hg).trans g1
      have hsm := HS.out _ (List.getElem_mem hkl)
      have hbad := badM_at l k hkl
      have hjs : joins (l.take (k + 1)) = joins (l.take k) ++ [l[k].1 ++ l[k].2] := by rw [List.take_succ_eq_append_getElem hkl, joins_snoc]
      have hat := inv_at l k hkl
      obtain ⟨p, hpe⟩ : ∃ p, l[k] = p := ⟨_, rfl⟩
      rw [hpe] at d0 d1 hsm hbad hjs
      obtain ⟨D, hD⟩ : ∃ D, joins (l.take k) = D := ⟨_, rfl⟩
      rw [hD] at hbad hjs hkn
      have hap := mk_append p.1 p.2
      have z0 : (mk p.1).size = p.1.length := mk_size _
      have z1 : (mk p.2).size = p.2.length := mk_size _
      have hPl : (p.1 ++ p.2).length ≤ 128 := by rw [List.length_append]; omega
      obtain ⟨P, hP⟩ : ∃ P, p.1 ++ p.2 = P := ⟨_, rfl⟩
      rw [hP] at hap hjs hPl
      have hsz : B ≤ wr.heap.size := HB0.out ▸ hBw.size
      have HKn := Lib.hid (hkn.alloc (.cells #[.string (mk p.1), .string (mk p.2)] 55))
      have HBx := Lib.hid (hbx.alloc (.cells #[.string (mk p.1), .string (mk p.2)] 55))
      have HBw := Lib.hid (hBw.alloc hsz (.cells #[.string (mk p.1), .string (mk p.2)] 55))
      have hX : B + 1 < wr.heap.size := hbx.lt
      have c1 := HBx.out.cell
      have HT1 : ∀ b, isT D p.1 = b → isT D (mk p.1).data.toList = b := fun b h => by rw [mk_data]; exact h
      have HT2 : ∀ b, isT D p.2 = b → isT D (mk p.2).data.toList = b := fun b h => by rw [mk_data]; exact h
      have HS1 := Lib.hid (show (mk p.1).size ≤ maxLen by unfold maxLen; omega)
      have HS2 := Lib.hid (show (mk p.2).size ≤ maxLen by unfold maxLen; omega)
      have HNO := Lib.hid hno
      have HJS := Lib.hid hjs
      have HAP := Lib.hid hap
      have HAT := Lib.hid hat
      have hk1 : (k : Int) < (n : Int) := by omega
      have HPL := Lib.hid hPl
      obtain ⟨a, ha⟩ : ∃ a, mk p.1 = a := ⟨_, rfl⟩
      obtain ⟨b, hb⟩ : ∃ a, mk p.2 = a := ⟨_, rfl⟩
      rw [ha] at d0 z0 HKn HBx HBw c1 HT1 HS1 HAP
      rw [hb] at d1 z1 HKn HBx HBw c1 HT2 HS2 HAP
      clear hc g0 g1 hap hjs hat hpe hD hP hno hkn hbx hBw hsz ha hb hPl
      have e0 := (Bl.new wr #[.string a, .string b] 55).cell 0
      have e1 := (Bl.new wr #[.string a, .string b] 55).cell 1
      have hX3 : wr.heap.size < (wr.alloc (.cells #[.string a, .string b] 55)).heap.size := by simp
      cases ht1 : isT D p.1
      · have hb1 : badM l k = true := by rw [hbad, ht1]; rfl
        have hv := HAT.out hb1 HNO.out
        have HV := Lib.hid hv
        have ht1' := HT1 _ ht1
        clear hbad hb1 hv HT1 HT2 ht1
        go_wp2_with (go_at_call 36; refine (is_any B (B + 1) k D _ _ (by first | exact HS1.out | exact HS2.out) HBx.out HKn.out _ ht1').mono ?_; rintro e w4 ⟨rfl, rfl⟩)
        go_ret
        exact ⟨by rw [HV.out]; rfl, HBw.out⟩
      · cases ht2 : isT D p.2
        · have hb1 : badM l k = true := by rw [hbad, ht1, ht2]; rfl
          have hv := HAT.out hb1 HNO.out
          have HV := Lib.hid hv
          have ht1' := HT1 _ ht1
          have ht2' := HT2 _ ht2
          clear hbad hb1 hv HT1 HT2 ht1 ht2
          go_wp2_with (go_at_call 36; refine (is_any B (B + 1) k D _ _ (by first | exact HS1.out | exact HS2.out) HBx.out HKn.out _ (by first | exact ht1' | exact ht2')).mono ?_; rintro e w4 ⟨rfl, rfl⟩)
          go_ret
          exact ⟨by rw [HV.out]; rfl, HBw.out⟩
        · have hb1 : badM l k = false := by rw [hbad, ht1, ht2]; rfl
          have hall : ∀ j, j < k + 1 → badM l j = false := fun j h => by
            by_cases hj : j = k
            · subst hj; exact hb1
            · exact HNO.out j (by omega)
          have HALL := Lib.hid hall
          have ht1' := HT1 _ ht1
          have ht2' := HT2 _ ht2
          clear hbad hb1 hall HT1 HT2 ht1 ht2 HNO HAT
          go_wp2_with (first
            | (go_at_call 36; refine (is_any B (B + 1) k D _ _ (by first | exact HS1.out | exact HS2.out) HBx.out HKn.out _ (by first | exact ht1' | exact ht2')).mono ?_; rintro e w4 ⟨rfl, rfl⟩)
            | (at_mapUpdate; refine wpList_known rfl _ _ 68 rfl Tryd.underlying68 B k _ rfl HKn.out (by unfold maxLen; omega) _ (by rw [HAP.out, mk_size]; have := HPL.out; unfold maxLen; omega) rfl ?_))
          intro w5 hkn5 hg5
          have hbx5 := HBx.out.kept hg5 (by simp)
          have hs5 : B ≤ _ := HB0.out ▸ HBw.out.size
          have hb5 := HBw.out.grown hg5 hs5 (fun g e => by cases e; exact Nat.le_refl _)
          clear HKn HBx HBw c1 e0 e1 hX3 hg5 d0 d1
          go_wp2
          go_roundw
          case rel => exact ⟨k + 1, by omega, by go_num, known_like hkn5 (fun t => by rw [HJS.out]; have hPd : a.data.toList ++ b.data.toList = P := (by have h := congrArg (fun s : ByteArray => s.data.toList) HAP.out; simpa [ByteArray.data_append, mk_data] using h); rw [hPd]; exact cont_snoc D P t), hbx5, hb5, HALL.out⟩
          case measure => simp [intOf]; omega
    · obtain rfl : k = n := by omega
      have hv := inv_none l (fun j h => hno j (by rw [HL.out] at h; exact h))
      have HV := Lib.hid hv
      clear hv hno hkn hbx
      go_wp2
      go_ret
      exact ⟨by rw [HV.out]; rfl, hBw⟩
end Go.Proofs.YtejokbfejkkpmaaDoor
/- (*vocab.Index).Asked, walked: how often it was asked. -/
namespace Go.Proofs.YtejokbfejkkpmaaDoor
open Go.RowKit Go.Maps Go.WideMaps
theorem load64_any (a : Addr) (n : Int) (w : World) (hc : w.cell? a = some (.int .i64 n)) :
    Calls Tryd.prog 35 #[.pointer (some a)] w fun e w' => e = .returned (.int .i64 n) ∧ w = w' := by
  have hld := run_call_load (P := Tryd.prog) Tryd.func50 (by kernel_rfl) (by kernel_rfl) (by kernel_rfl) .i64 (by kernel_rfl) (w := w) (a := a) (x := n) hc
  go_enter Tryd.func35, Tryd.ntmps35
  go_wp2
  go_ret
  exact ⟨rfl, rfl⟩
theorem asked_any (B b k : Nat) (ts : List Bs) (made : Bool) (w : World) (h : Idx B b ts made k w) :
    Calls Tryd.prog 21 #[.pointer (some ⟨b, 0, none⟩)] w fun e w' => e = .returned (.int .i64 k) ∧ w = w' := by
  obtain ⟨A, cap, c4, c5, _, hb, _⟩ := h
  have c6 : w.cell? ⟨b, 6, none⟩ = some (.int .i64 k) := by have := hb.cell 6; simpa using this
  have KL := load64_any ⟨b, 6, none⟩ k w c6
  clear hb c6
  go_enter Tryd.func21, Tryd.ntmps21
  go_wp2_with (go_at_call 35; (with_reducible refine KL.mono ?_); rintro e w' ⟨rfl, rfl⟩)
  go_ret
  exact ⟨rfl, rfl⟩
end Go.Proofs.YtejokbfejkkpmaaDoor
/- VocabBack: the plain law. By a list of pairs of tokens that together are tokens each word of signs is encoded, and decoded again. No program. -/
namespace Go.Proofs.YtejokbfejkkpmaaDoor
open Go.RowKit
/-- May a pair follow a list? -/
def goesOn (g : List Pr) (p : Pr) : Bool := tok p.1 && (tok p.2 && (decide (p.1.length + p.2.length ≤ 64) && decide (invalidM (g ++ [p]) = -1)))
def goodStep (g : List Pr) (p : Pr) : List Pr := if goesOn g p then g ++ [p] else g
def goodL (ps : List Pr) : List Pr := ps.foldl goodStep []
theorem goodL_snoc (ps : List Pr) (p : Pr) : goodL (ps ++ [p]) = goodStep (goodL ps) p := by simp [goodL]
def PairOk (p : Pr) : Prop := tok p.1 = true ∧ tok p.2 = true ∧ p.1.length + p.2.length ≤ 64
theorem goodStep_ok {g : List Pr} {p : Pr} (h : ∀ q ∈ g, PairOk q) : ∀ q ∈ goodStep g p, PairOk q := by
  intro q hq
  unfold goodStep at hq
  split at hq
  · rename_i hg
    rcases List.mem_append.1 hq with h1 | h1
    · exact h q h1
    · simp at h1
      subst h1
      unfold goesOn at hg
      simp only [Bool.and_eq_true, decide_eq_true_eq] at hg
      exact ⟨hg.1, hg.2.1, hg.2.2.1⟩
  · exact h q hq
theorem goodStep_len (g : List Pr) (p : Pr) : (goodStep g p).length ≤ g.length + 1 := by
  unfold goodStep; split <;> simp
theorem goodL_ok (ps : List Pr) : (∀ q ∈ goodL ps, PairOk q) ∧ (goodL ps).length ≤ ps.length := by
  unfold goodL
  have : ∀ (ps g : List Pr), (∀ q ∈ g, PairOk q) → (∀ q ∈ ps.foldl goodStep g, PairOk q) ∧ (ps.foldl goodStep g).length ≤ g.length + ps.length := by
    intro ps
    induction ps with
    | nil => intro g h; exact ⟨h, by simp⟩
    | cons p ps ih =>
      intro g h
      have h1 := ih (goodStep g p) (goodStep_ok h)
      have h2 := goodStep_len g p
      refine ⟨h1.1, ?_⟩
      have := h1.2
      simp only [List.foldl_cons, List.length_cons]; omega
  have := this ps [] (fun q h => by cases h)
  simpa using this
theorem pairOk_tok {p : Pr} (h : PairOk p) : tok (p.1 ++ p.2) = true := by
  obtain ⟨h1, h2, h3⟩ := h
  unfold tok at *
  simp only [Bool.and_eq_true, decide_eq_true_eq, List.all_append, List.length_append] at *
  exact ⟨⟨h1.1, h2.1⟩, by omega, h3⟩
/-- A part of a word of signs. -/
def PartOk (l : List Pr) (t : Tx) : Prop := (∃ c, signC c = true ∧ t = [c]) ∨ ∃ p ∈ l, t = p.1 ++ p.2
theorem rkL_mem (l : List Pr) (p : Pr) : ∀ n r, rkL n l p = some r → p ∈ l := by
  induction l with
  | nil => intro n r h; cases h
  | cons a l ih =>
    intro n r h
    unfold rkL at h
    split at h
    · rename_i e; rw [e]; simp
    · exact List.mem_cons_of_mem _ (ih _ _ h)
theorem scan_ok (l : List Pr) (A B : Tx) (hm : (A, B) ∈ l) : ∀ (n : Nat) (P : List Tx), P.length ≤ n → (∀ t ∈ P, PartOk l t) → ∀ t ∈ scan A B P, PartOk l t := by
  intro n
  induction n with
  | zero =>
    intro P hl h t ht
    have : P = [] := List.length_eq_zero_iff.1 (by omega)
    subst this
    simp [scan] at ht
  | succ n ih =>
    intro P hl h t ht
    match P with
    | [] => simp [scan] at ht
    | [x] => simp only [scan] at ht; exact h t ht
    | x :: y :: P =>
      rw [scan] at ht
      simp only [List.length_cons] at hl
      split at ht
      · rename_i e
        obtain ⟨rfl, rfl⟩ := e
        rcases List.mem_cons.1 ht with rfl | h1
        · exact .inr ⟨_, hm, rfl⟩
        · exact ih P (by omega) (fun u hu => h u (List.mem_cons_of_mem _ (List.mem_cons_of_mem _ hu))) t h1
      · rcases List.mem_cons.1 ht with rfl | h1
        · exact h t (by simp)
        · exact ih (y :: P) (by simp only [List.length_cons]; omega) (fun u hu => h u (List.mem_cons_of_mem _ hu)) t h1
theorem fin_ok {l : List Pr} {P Q : List Tx} (h : Fin2 (rkL 0 l) P Q) : (∀ t ∈ P, PartOk l t) → ∀ t ∈ Q, PartOk l t := by
  induction h with
  | done h => intro h; exact h
  | step r A B hb hf h ih => intro hp; exact ih (scan_ok l A B (rkL_mem l _ _ _ hf) _ _ (Nat.le_refl _) hp)
theorem idsL_some (ts : List Bs) (t : Bs) (h : t ∈ ts) : ∀ n, ∃ k, idsL n ts t = some k ∧ n ≤ k ∧ k < n + ts.length ∧ tokL n ts (k : Int) = some t := by
  induction ts with
  | nil => cases h
  | cons a ts ih =>
    intro n
    unfold idsL tokL
    by_cases e : t = a
    · subst e
      exact ⟨n, by simp, Nat.le_refl _, by simp, by simp⟩
    · have hm : t ∈ ts := by
        rcases List.mem_cons.1 h with h1 | h1
        · exact absurd h1 e
        · exact h1
      obtain ⟨k, h1, h2, h3, h4⟩ := ih hm (n + 1)
      refine ⟨k, by rw [if_neg e]; exact h1, by omega, by simp only [List.length_cons]; omega, ?_⟩
      rw [if_neg (by omega)]; exact h4
theorem sign_base (c : UInt8) (h : signC c = true) : [c] ∈ baseT := by
  have h1 := (signC_int c).1 h
  unfold baseT
  refine List.mem_map.2 ⟨c.toNat - 33, List.mem_range.2 (by omega), ?_⟩
  rw [show 33 + (c.toNat - 33) = c.toNat by omega]
  simp
theorem base_in (ps : List Pr) : ∀ t ∈ baseT, t ∈ ofT ps := by
  intro t ht
  have := (ofT_more [] ps).1
  simp only [List.nil_append] at this
  exact this.subset ht
theorem addT_has (ts : List Bs) (s : Bs) (h : tok s = true) : s ∈ addT ts s := by
  unfold addT
  split
  · rename_i hc
    rw [h] at hc
    simpa using hc
  · simp
theorem join_in (ps : List Pr) (p : Pr) (h : p ∈ ps) (ht : tok (p.1 ++ p.2) = true) : p.1 ++ p.2 ∈ ofT ps := by
  obtain ⟨a, b, rfl⟩ := List.append_of_mem h
  have h1 : p.1 ++ p.2 ∈ ofT (a ++ [p]) := by rw [ofT_snoc]; exact addT_has _ _ ht
  have h2 := (ofT_more (a ++ [p]) b).1
  rw [show a ++ p :: b = a ++ [p] ++ b by simp]
  exact h2.subset h1
theorem parts_in (l : List Pr) (hl : ∀ q ∈ l, PairOk q) (t : Tx) (h : PartOk l t) : t ∈ ofT l := by
  rcases h with ⟨c, hc, rfl⟩ | ⟨p, hp, rfl⟩
  · exact base_in l _ (sign_base c hc)
  · exact join_in l p hp (pairOk_tok (hl p hp))
/-- All parts have numbers; the numbers' texts are the word. -/
theorem back_law (l : List Pr) (hl : ∀ q ∈ l, PairOk q) (hn : l.length ≤ 1000) (wd : Bs) (hw : ∀ c ∈ wd, signC c = true) {Q : List Tx} (h : Fin2 (rkL 0 l) (singles wd) Q) :
    allIn (ofT l) Q = true ∧ allOk (ofT l) (idsOf (ofT l) Q) = true ∧ decT (ofT l) (idsOf (ofT l) Q) = wd ∧ ∀ i ∈ idsOf (ofT l) Q, -9223372036854775808 ≤ i ∧ i ≤ 9223372036854775807 := by
  have hok := fin_ok h (fun t ht => by
    unfold singles at ht
    obtain ⟨c, hc, rfl⟩ := List.mem_map.1 ht
    exact .inl ⟨c, hw c hc, rfl⟩)
  have hin : ∀ t ∈ Q, t ∈ ofT l := fun t ht => parts_in l hl t (hok t ht)
  have hfl := (fin_length h).2
  refine ⟨?_, ?_, ?_, ?_⟩
  · unfold allIn
    rw [List.all_eq_true]
    intro t ht
    obtain ⟨k, h1, _⟩ := idsL_some (ofT l) t (hin t ht) 0
    rw [h1]; rfl
  · unfold allOk idsOf
    rw [List.all_eq_true]
    intro i hi
    obtain ⟨t, ht, rfl⟩ := List.mem_map.1 hi
    obtain ⟨k, h1, _, _, h4⟩ := idsL_some (ofT l) t (hin t ht) 0
    rw [h1, Option.getD_some, h4]; rfl
  · rw [← hfl]
    clear hfl hok h
    unfold decT idsOf
    induction Q with
    | nil => rfl
    | cons t Q ih =>
      obtain ⟨k, h1, _, _, h4⟩ := idsL_some (ofT l) t (hin t (by simp)) 0
      simp only [List.map_cons, List.flatMap_cons, List.flatten_cons]
      rw [ih (fun u hu => hin u (List.mem_cons_of_mem _ hu)), h1, Option.getD_some, h4]; rfl
  · intro i hi
    obtain ⟨t, ht, rfl⟩ := List.mem_map.1 hi
    obtain ⟨k, h1, _, h3, _⟩ := idsL_some (ofT l) t (hin t ht) 0
    have := (ofT_len l).2
    rw [h1, Option.getD_some]
    omega
end Go.Proofs.YtejokbfejkkpmaaDoor
