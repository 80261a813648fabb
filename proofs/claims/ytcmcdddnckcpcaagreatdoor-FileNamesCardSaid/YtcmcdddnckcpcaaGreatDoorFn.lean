/- Plain: what commands leave on a disk whose power is on; a new store's sectors. -/
import Derived.Test.YtcmcdddnckcpcaaGreatDoorMo
import Derived.Test.YtcmcdddnckcpcaaGreatDoorDn
import Derived.Test.YtcmcdddnckcpcaaGreatDoorGr
namespace Go.Proofs.YtcmcdddnckcpcaaGreatDoor
def wrOf : List Cmd → List (Nat × Bs)
  | [] => []
  | .wr i b :: l => (i, b) :: wrOf l
  | .sy :: l => wrOf l
theorem wrOf_append (a b : List Cmd) : wrOf (a ++ b) = wrOf a ++ wrOf b := by
  induction a with
  | nil => rfl
  | cons c a ih => cases c <;> simp [wrOf, ih]
theorem wrOf_wrs (x : List (Nat × Bs)) : wrOf (wrs x) = x := by
  induction x with
  | nil => rfl
  | cons c x ih => show (c.1, c.2) :: wrOf (wrs x) = _; rw [ih]
theorem overlay_cons (L : List Bs) (c : Nat × Bs) (S : List (Nat × Bs)) : overlay L (c :: S) = overlay (L.set c.1 c.2) S := rfl
theorem run_on : ∀ (l : List Cmd) (d : DS), d.cut = none → d.off = false → (DS.run l d).1 = 0 ∧ (DS.run l d).2.cut = none ∧ (DS.run l d).2.off = false ∧ (DS.run l d).2.vis = overlay d.vis (fulls (wrOf l)) := by
  intro l
  induction l with
  | nil => intro d h1 h2; exact ⟨rfl, h1, h2, rfl⟩
  | cons c l ih =>
    intro d h1 h2
    obtain ⟨L, S, cut, off⟩ := d
    dsimp only at h1 h2
    subst h1 h2
    cases c with
    | wr i b =>
      rw [DS.run, show DS.cmd ⟨L, S, none, false⟩ (.wr i b) = (0, ⟨L, S ++ [(i, fullB b)], none, false⟩) from rfl, if_pos rfl]
      obtain ⟨a1, a2, a3, a4⟩ := ih ⟨L, S ++ [(i, fullB b)], none, false⟩ rfl rfl
      refine ⟨a1, a2, a3, a4.trans ?_⟩
      show overlay (overlay L (S ++ [(i, fullB b)])) _ = _
      rw [overlay_snoc]; rfl
    | sy =>
      rw [DS.run, show DS.cmd ⟨L, S, none, false⟩ .sy = (0, ⟨overlay L S, [], none, false⟩) from rfl, if_pos rfl]
      exact ih ⟨overlay L S, [], none, false⟩ rfl rfl
theorem run_sy (l : List Cmd) (d : DS) (h1 : d.cut = none) (h2 : d.off = false) : (DS.run (l ++ [.sy]) d).2.S = [] := by
  obtain ⟨a1, a2, a3, _⟩ := run_on l d h1 h2
  rw [run_append, if_pos a1]
  obtain ⟨⟨L, S, cut, off⟩, hd⟩ : ∃ q, (DS.run l d).2 = q := ⟨_, rfl⟩
  rw [hd] at a2 a3 ⊢
  dsimp only at a2 a3
  subst a2 a3
  rfl
theorem secAt_ne (W : List (Nat × Bs)) : ∀ (v : List Bs) (j : Nat), j ∉ W.map (·.1) → secAt (overlay v (fulls W)) j = secAt v j := by
  induction W with
  | nil => intro v j _; rfl
  | cons c W ih =>
    intro v j h
    rw [List.map_cons, List.mem_cons, not_or] at h
    show secAt (overlay (v.set c.1 (fullB c.2)) (fulls W)) j = _
    rw [ih _ j h.2]
    unfold secAt
    rw [List.getElem?_set, if_neg (fun e => h.1 e.symm)]
theorem secAt_set (v : List Bs) (i : Nat) (b : Bs) (h : i < v.length) : secAt (v.set i b) i = b := by
  unfold secAt; simp [h]
theorem secAt_set_ne (v : List Bs) (i j : Nat) (b : Bs) (h : i ≠ j) : secAt (v.set i b) j = secAt v j := by
  unfold secAt; rw [List.getElem?_set, if_neg h]
def freshL (n f : Nat) : List Bs := (List.replicate n zeroS).set 0 (headB n f)
theorem fmt_fresh (n f : Nat) : overlay (List.replicate n zeroS) (fulls (fmtX n f)) = freshL n f := by
  have key : ∀ k, k ≤ f + 2 → overlay (List.replicate n zeroS) (fulls ((fmtX n f).take (k + 1))) = freshL n f := by
    intro k
    induction k with
    | zero =>
      intro _
      have : (fmtX n f).take (0 + 1) = [(0, headB n f)] := by
        unfold fmtX
        rw [← List.map_take, List.take_range, show min (0 + 1) (f + 3) = 1 by omega]; rfl
      rw [this]
      show (List.replicate n zeroS).set 0 (fullB (headB n f)) = _
      rw [show fullB (headB n f) = headB n f by unfold fullB; rw [headB_len]; simp]
      rfl
    | succ k ih =>
      intro hk
      have hk2 : k + 1 < (fmtX n f).length := by simp [fmtX]; omega
      have e : fulls ((fmtX n f).take (k + 1 + 1)) = fulls ((fmtX n f).take (k + 1)) ++ [(k + 1, zeroS)] := by
        rw [List.take_succ_eq_append_getElem hk2]
        simp [fulls, fmtX, fullB_nil]
      rw [e, overlay_snoc, ih (by omega)]
      unfold freshL
      refine List.ext_getElem (by simp) fun j h1 h2 => ?_
      rw [List.getElem_set]
      split
      · rename_i hj
        subst hj
        rw [List.getElem_set, if_neg (by omega), List.getElem_replicate]
      · rfl
  have := key (f + 2) (Nat.le_refl _)
  rwa [List.take_of_length_le (by simp [fmtX])] at this
theorem fresh_len (n f : Nat) : (freshL n f).length = n := by simp [freshL]
theorem fresh_head (n f : Nat) (h : 0 < n) : secAt (freshL n f) 0 = headB n f := secAt_set _ _ _ (by simpa using h)
theorem fresh_zero (n f j : Nat) (h0 : j ≠ 0) (h : j < n) : secAt (freshL n f) j = zeroS := by
  unfold freshL
  rw [secAt_set_ne _ _ _ _ (Ne.symm h0)]
  unfold secAt; simp [h]
theorem pack_zero (u : Nat) (h : u ≤ 4096) : fullB (packB (List.replicate u false)) = zeroS := by
  rw [packB_zero]
  unfold fullB zeroS
  rw [List.length_replicate, List.replicate_append_replicate]
  congr 1; omega
theorem fresh_log (n f : Nat) (h : f + 8 ≤ n) : saidB (freshL n f) (2 + f) 5 = [] := by
  unfold saidB saidOk
  rw [fresh_zero n f (2 + f) (by omega) (by omega)]
  rw [show (zeroS.take 2 == [87, 76]) = false from by decide]
  rfl
end Go.Proofs.YtcmcdddnckcpcaaGreatDoor
/- stemmalaw07.made, walked. -/
namespace Go.Proofs.YtcmcdddnckcpcaaGreatDoor
open Go.RowKit Go.Maps
/-- Nothing of w has turned; what may turn is new. -/
structure Nw (w : World) (Y : List Nat) (w' : World) : Prop where
  below : Below w.heap.size w w'
  new : ∀ y ∈ Y, w.heap.size ≤ y
theorem Nw.mv {w w1 w2 : World} {Y Z : List Nat} (h : Nw w Y w1) (m : Mv Y Z w1 w2) : Nw w Z w2 :=
  ⟨h.below.trans (m.frm.below h.new h.below.size), fun z hz => (m.sub z hz).elim (h.new z) (fun hh => Nat.le_trans h.below.size hh)⟩
theorem Nw.step {w w1 w2 : World} {Y : List Nat} (h : Nw w Y w1) (k : Below w1.heap.size w1 w2) : Nw w Y w2 := h.mv (.of_below _ k)
theorem Nw.start (w : World) : Nw w [] w := ⟨Below.refl _ _, fun y hy => by cases hy⟩
def freshM (n f : Nat) : StoM := ⟨⟨freshL n f, [], none, false⟩, [], List.replicate (n - f - 7) false, f, false⟩
set_option maxRecDepth 100000 in
set_option maxHeartbeats 4000000 in
theorem made_any (n f : Nat) (w : World) (h1 : 1 ≤ f) (h2 : f ≤ 256) (h3 : f + 8 ≤ n) (h4 : n ≤ 4000) (hT : TB w) (hw : 0 < w.heap.size) :
    Calls Tryz.prog 13 #[.int .i64 n, .int .i64 f] w fun e w' => ∃ X D S Lg M, e = .returned (.tuple #[.pointer (some ⟨D, 0, none⟩), .pointer (some ⟨S, 0, none⟩), .bool true]) ∧ Sto w' X S D Lg M (freshM n f) ∧ Nw w (S :: M :: X) w' := by
  have KN := new_any n w (by omega) (by omega)
  have KF := fun (X : List Nat) (D : Nat) (w1 : World) (hd : Dsk w1 X D ⟨List.replicate n zeroS, [], none, false⟩) => format_ok X D (List.replicate n zeroS) f w1 hd h1 h2 (by rw [List.length_replicate]; exact h3)
  simp only [List.length_replicate, fmt_fresh] at KF
  have KM := fun (X : List Nat) (D : Nat) (w1 : World) (hd : Dsk w1 X D ⟨freshL n f, [], none, false⟩) (hT1 : TB w1) (hw1 : 0 < w1.heap.size) (hX : 0 ∉ X) =>
    mount0_any X D ⟨freshL n f, [], none, false⟩ f (n - f - 7) w1 hd rfl ⟨h1, h2⟩ (by rw [fresh_len]; omega) (by omega) (by omega) (by rw [fresh_len]; exact fresh_head n f (by omega)) (by rw [pack_zero _ (by omega)]; exact fresh_zero n f 1 (by omega) (by omega)) (fun i hi => fresh_zero n f (2 + i) (by omega) (by omega)) (fresh_log n f h3) (by simp) hT1 hw1 hX
  have HKF := Lib.hid KF
  have HKM := Lib.hid KM
  have HT := Lib.hid (And.intro hT hw)
  have HM0 := Lib.hid (show freshM n f = ⟨⟨freshL n f, [], none, false⟩, [], List.replicate (n - f - 7) false, f, false⟩ from rfl)
  obtain ⟨FM0, hFM0⟩ : ∃ q, freshM n f = q := ⟨_, rfl⟩
  rw [hFM0] at HM0 ⊢
  clear KF KM h1 h2 h3 h4 hT hw hFM0
  go_enter Tryz.func13, Tryz.ntmps13
  go_wp2_with (first
    | (go_at_call 26; refine KN.mono ?_; rintro e w1 ⟨X1, D, rfl, hd1, hm1⟩; have KF1 := HKF.out X1 D w1 hd1; have HM1 := Lib.hid hm1; clear hd1 hm1 KN)
    | (go_at_call 23; refine KF1.mono ?_; rintro e w2 ⟨rfl, X2, hd2, hm2⟩; have hm12 := HM1.out.trans hm2; have ht2 := HT.out.1.mv hm12 HT.out.2 (by simp); have KM2 := HKM.out X2 D w2 hd2 ht2.1 ht2.2.1 ht2.2.2; have HM2 := Lib.hid hm12; clear hd2 hm2 hm12 ht2 KF1)
    | (go_at_call 24; refine KM2.mono ?_; rintro e w3 ⟨X3, S, Lg, M, rfl, hst, hm3, hS, hM⟩; have H3 := Lib.hid (And.intro hst (And.intro hm3 (And.intro hS hM))); clear hst hm3 hS hM KM2))
  refine bodyPost_ret (v := .tuple #[.pointer (some ⟨D, 0, none⟩), .pointer (some ⟨S, 0, none⟩), .bool true]) ?_ rfl ?_
  · simp [results, Tryz.f13, go_sem]
  · refine ⟨X3, D, S, Lg, M, rfl, by rw [HM0.out]; exact H3.out.1, ?_⟩
    have hn := ((Nw.start w).mv HM2.out).mv H3.out.2.1
    have hz := HM2.out.size
    exact ⟨hn.below, fun y hy => by
      rcases List.mem_cons.1 hy with rfl | hy
      · exact Nat.le_trans hz H3.out.2.2.1
      · rcases List.mem_cons.1 hy with rfl | hy
        · exact Nat.le_trans hz H3.out.2.2.2
        · exact hn.new y hy⟩
end Go.Proofs.YtcmcdddnckcpcaaGreatDoor
/- stemmalaw07.speaks, walked: true. -/
namespace Go.Proofs.YtcmcdddnckcpcaaGreatDoor
open Go.RowKit Go.Maps
theorem freshB (n f : Nat) (h1 : 1 ≤ f) (h2 : f ≤ 256) (h3 : f + 8 ≤ n) (h4 : n ≤ 4000) : StoB (freshM n f) where
  ent := fun g hg => by cases hg
  nam := fun g hg => by cases hg
  siz := fun g hg => by cases hg
  exl := fun g hg => by cases hg
  exb := fun g hg => by cases hg
  len := by simp [freshM]
  mo := ⟨h1, h2⟩
  tl := by simp [freshM]; omega
  ll := by simp [freshM, fresh_len]; omega
  sl := by simp [freshM]
def spkF : FileM := ⟨[97], 0, 3, [(0, 1)]⟩
def spkT : List Bool := true :: List.replicate 8 false
theorem spk_pre : preW (freshM 20 4) [97] [120, 121, 122] = (0, some (spkT, spkF)) := by kernel_rfl
def spkC : List Cmd := putC 4 spkT (secL (4 + 7) [(0, 1)]) [120, 121, 122] spkF
def spkM (d : DS) : StoM := ⟨d, putF [] spkF, spkT, 4, false⟩
theorem spk_run : (DS.run spkC (freshM 20 4).ds).1 = 0 ∧ (DS.run spkC (freshM 20 4).ds).2.off = false ∧ StoB (spkM (DS.run spkC (freshM 20 4).ds).2) ∧ readW (spkM (DS.run spkC (freshM 20 4).ds).2) [97] = [120, 121, 122] := by
  obtain ⟨a1, a2, a3, a4⟩ := run_on spkC (freshM 20 4).ds rfl rfl
  obtain ⟨b1, b2⟩ := run_len spkC (freshM 20 4).ds
  have hF : ∀ f ∈ putF [] spkF, f = spkF := fun f hf => by
    rcases putF_mem hf with h | ⟨h, _⟩
    · exact h
    · cases h
  have b3 : spkC.length ≤ 100 := by decide
  obtain ⟨d, hd⟩ : ∃ q, (DS.run spkC (freshM 20 4).ds).2 = q := ⟨_, rfl⟩
  rw [hd] at a2 a3 a4 b1 b2
  rw [hd]
  refine ⟨a1, a3, ?_, ?_⟩
  · exact { ent := fun f hf => by rw [hF f hf]; exact (by decide : 0 < 4)
            nam := fun f hf => by rw [hF f hf]; decide
            siz := fun f hf => by rw [hF f hf]; decide
            exl := fun f hf => by rw [hF f hf]; decide
            exb := fun f hf => by rw [hF f hf]; intro x hx; have : x = (0, 1) := by simpa [spkF] using hx
                                  subst this; exact (by decide : 0 + 1 ≤ spkT.length)
            len := (by decide : (putF [] spkF).length ≤ 1000)
            mo := (by decide : 1 ≤ 4 ∧ 4 ≤ 256)
            tl := (by decide : spkT.length ≤ 4096)
            ll := by show spkT.length + 4 + 7 = d.L.length; rw [b1]; simp [freshM, fresh_len, spkT]
            sl := by
              have : (freshM 20 4).ds.S.length = 0 := rfl
              show d.S.length ≤ _; omega }
  · have h11 : secAt d.vis 11 = fullB [120, 121, 122] := by
      rw [a4]
      have e : wrOf spkC = (11, [120, 121, 122]) :: (wrOf spkC).tail := by rfl
      have e2 : (wrOf spkC).tail.map (·.1) = [7, 8, 6, 1, 2, 6] := by rfl
      rw [e]
      show secAt (overlay ((freshM 20 4).ds.vis.set 11 (fullB [120, 121, 122])) (fulls (wrOf spkC).tail)) 11 = _
      rw [secAt_ne _ _ _ (by rw [e2]; decide)]
      exact secAt_set _ _ _ (by show 11 < (freshL 20 4).length; rw [fresh_len]; decide)
    show (secsB d.vis [11]).take 3 = _
    unfold secsB
    rw [List.flatMap_cons, h11]
    rfl
set_option maxRecDepth 100000 in
set_option maxHeartbeats 4000000 in
theorem speaks_any (w : World) (hT : TB w) (hw : 0 < w.heap.size) : Calls Tryz.prog 10 #[] w fun e w' => e = .returned (.bool true) ∧ Below w.heap.size w w' := by
  have KM := made_any 20 4 w (by decide) (by decide) (by decide) (by decide) hT hw
  have KW := fun (X : List Nat) (S D Lg M : Nat) (w1 : World) (hs : Sto w1 X S D Lg M (freshM 20 4)) => fwrite_any X S D Lg M (freshM 20 4) [97] [120, 121, 122] w1 hs (freshB 20 4 (by decide) (by decide) (by decide) (by decide)) rfl rfl (by decide)
  rw [spk_pre] at KW
  obtain ⟨hr1, hr2, hr3, hr4⟩ := spk_run
  have HP := Lib.hid (fun (X : List Nat) (S D Lg M : Nat) (w1 : World) (e : Ending) (w2 : World) (h : WriteP X S D Lg M (freshM 20 4) (0, some (spkT, spkF)) [120, 121, 122] w1 e w2) => (show e = .returned (.int .i64 0) ∧ ∃ X', Mv (S :: M :: X) (S :: M :: X') w1 w2 ∧ Sto w2 X' S D Lg M (spkM (DS.run spkC (freshM 20 4).ds).2) from by
    obtain ⟨h1, X', h2, h3, _⟩ := h.2 spkT spkF rfl
    have hr : (DS.run (putC (freshM 20 4).most spkT (secL ((freshM 20 4).most + 7) spkF.ext) [120, 121, 122] spkF) (freshM 20 4).ds).1 = 0 := hr1
    refine ⟨?_, X', h2, h3 hr⟩
    rw [h1, hr]; rfl))
  have KR := fun (X : List Nat) (S D Lg M : Nat) (w1 : World) (hs : Sto w1 X S D Lg M (spkM (DS.run spkC (freshM 20 4).ds).2)) => fread_any X S D Lg M _ [97] w1 hs hr3 rfl hr2 (by decide) (fun f hf => by
    rcases putF_mem (show f ∈ putF [] spkF from hf) with rfl | ⟨h, _⟩
    · decide
    · cases h) (fun f hf => by
    rcases putF_mem (show f ∈ putF [] spkF from hf) with rfl | ⟨h, _⟩
    · decide
    · cases h)
  rw [hr4, show findE (spkM (DS.run spkC (freshM 20 4).ds).2).F [97] = 0 from by rfl] at KR
  have KF := fun (X : List Nat) (S D Lg M : Nat) (w1 : World) (hs : Sto w1 X S D Lg M (spkM (DS.run spkC (freshM 20 4).ds).2)) => ffree_any X S D Lg M _ w1 hs (by show spkT.length ≤ _; decide) (by show 4 ≤ 1000; decide) (by show (putF [] spkF).length ≤ _; decide)
  rw [show (spkM (DS.run spkC (freshM 20 4).ds).2).T.count false = 8 from by rfl, show ((spkM (DS.run spkC (freshM 20 4).ds).2).most : Int) - ((spkM (DS.run spkC (freshM 20 4).ds).2).F.length : Int) = 3 from by rfl] at KF
  obtain ⟨m1, hm1⟩ : ∃ q, spkM (DS.run spkC (freshM 20 4).ds).2 = q := ⟨_, rfl⟩
  simp only [hm1] at HP KR KF
  obtain ⟨m0, hm0⟩ : ∃ q, freshM 20 4 = q := ⟨_, rfl⟩
  simp only [hm0] at KM KW HP
  have KW2 := fun (X : List Nat) (S D Lg M : Nat) (w1 : World) (hs : Sto w1 X S D Lg M m0) => (KW X S D Lg M w1 hs).mono (fun e w2 h => HP.out X S D Lg M w1 e w2 h)
  have HKW := Lib.hid KW2
  have HKR := Lib.hid KR
  have HKF := Lib.hid KF
  clear hT hw KW KW2 HP KR KF hr1 hr2 hr3 hr4 hm1 hm0
  have hmk : (mk [120, 121, 122]).toList = [120, 121, 122] := mk_toList' _
  go_enter Tryz.func10, Tryz.ntmps10
  go_wp2_with (first
    | (go_at_call 13; refine KM.mono ?_; rintro e w1 ⟨X1, D, S, Lg, M, rfl, hst, hnw⟩; have KW1 := HKW.out X1 S D Lg M w1 hst; have HN1 := Lib.hid hnw; clear hst hnw KM)
    | (go_at_call 14; refine KW1.mono ?_; rintro e w2 ⟨rfl, X2, hm2, hst2⟩; have KR2 := HKR.out X2 S D Lg M w2 hst2; have HN2 := Lib.hid (And.intro (HN1.out.mv hm2) hst2); clear hst2 hm2 KW1)
    | (go_at_call 17; refine KR2.mono ?_; rintro e w3 ⟨rfl, hb3⟩; have KF3 := HKF.out X2 S D Lg M w3 (HN2.out.2.below hb3); have HN3 := Lib.hid (And.intro (HN2.out.1.step hb3) (HN2.out.2.below hb3)); clear hb3 KR2)
    | (go_at_call 19; refine KF3.mono ?_; rintro e w4 ⟨rfl, hb4⟩; have HN4 := Lib.hid (HN3.out.1.step hb4); clear hb4 KF3))
  go_ret
  exact ⟨rfl, HN4.out.below⟩
end Go.Proofs.YtcmcdddnckcpcaaGreatDoor
/- FileNames, walked: true. -/
namespace Go.Proofs.YtcmcdddnckcpcaaGreatDoor
open Go.RowKit Go.Maps
set_option maxRecDepth 100000 in
set_option maxHeartbeats 1000000 in
theorem fileNames_any (s : ByteArray) (w : World) (hs : s.size ≤ maxLen) (hT : TB w) (hw : 0 < w.heap.size) : Calls Tryz.prog 3 #[.string s] w fun e w' => e = .returned (.bool true) ∧ Below w.heap.size w w' := by
  have KS := speaks_any w hT hw
  have KG := fun w1 => good_any s.data.toList w1 (by have : s.data.toList.length = s.size := by rw [Array.length_toList]; rfl
                                                     unfold maxLen at hs; omega)
  have hmk : mk s.data.toList = s := by simp [mk]
  rw [hmk] at KG
  have KR := fun w1 => rgood_any s w1 hs
  obtain ⟨B, hB⟩ : ∃ q, goodF s.data.toList = q := ⟨_, rfl⟩
  rw [hB] at KG KR
  clear hs hT hw hmk hB
  go_enter Tryz.func3, Tryz.ntmps3
  go_wp2_with (first
    | (go_at_call 10; refine KS.mono ?_; rintro e w1 ⟨rfl, hb1⟩; have HB1 := Lib.hid hb1; have KG1 := KG w1; clear hb1 KS KG)
    | (go_at_call 11; refine KG1.mono ?_; rintro e w2 ⟨rfl, hb2⟩; have HB2 := Lib.hid hb2; have KR2 := KR w2; clear hb2 KG1 KR)
    | (go_at_call 12; refine KR2.mono ?_; rintro e w3 ⟨rfl, hw3⟩; obtain rfl := hw3; clear KR2))
  go_ret
  exact ⟨rfl, HB1.out.trans (HB2.out.mono HB1.out.size)⟩
end Go.Proofs.YtcmcdddnckcpcaaGreatDoor
