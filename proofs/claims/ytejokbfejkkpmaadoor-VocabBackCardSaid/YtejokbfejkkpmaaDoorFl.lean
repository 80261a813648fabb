/- vocab.(*Index).fill, walked. -/
import Derived.Test.YtejokbfejkkpmaaDoorMi
import Derived.StillTailTactics
namespace Go.Proofs.YtejokbfejkkpmaaDoor
open Go.RowKit Go.Maps Go.WideMaps
theorem ents_at (l : List Bs) : ∀ n j (h : j < l.length), (ents n l)[j * 2]? = some (.int .i64 ((n + j : Nat) : Int)) ∧ (ents n l)[j * 2 + 1]? = some (.string (mk l[j])) := by
  induction l with
  | nil => intro n j h; simp at h
  | cons a l ih =>
    intro n j h
    cases j with
    | zero => simp [ents]
    | succ j =>
      have := ih (n + 1) j (by simpa using h)
      rw [show (j + 1) * 2 = j * 2 + 2 from by omega]
      have e : n + 1 + j = n + (j + 1) := by omega
      rw [e] at this
      simpa [ents] using this
/-- The entries of a list of tokens lie in memory as a slice. -/
def Ents (w : World) (A : Option Addr) (ts : List Bs) : Prop :=
  (0 < ts.length → ∃ g, A = some ⟨g, 0, none⟩ ∧ g < w.heap.size ∧ ∀ j (h : j < ts.length), w.cell? ⟨g, j * 2, none⟩ = some (.int .i64 j) ∧ w.cell? ⟨g, j * 2 + 1, none⟩ = some (.string (mk ts[j]))) ∧ ∀ t ∈ ts, t.length ≤ maxLen
theorem Ents.kept {w w' : World} {A : Option Addr} {ts : List Bs} {b : Nat} (h : Ents w A ts) (hne : ∀ g, A = some ⟨g, 0, none⟩ → g ≠ b) (hg : w.grownBy w' (some b)) : Ents w' A ts := by
  refine ⟨fun h0 => ?_, h.2⟩
  obtain ⟨g, rfl, hl, hc⟩ := h.1 h0
  refine ⟨g, rfl, Nat.lt_of_lt_of_le hl hg.size, fun j hj => ?_⟩
  have e := hg.block g hl (by simpa using hne g rfl)
  exact ⟨(World.cell?_of_block (a := ⟨g, j * 2, none⟩) e).trans (hc j hj).1, (World.cell?_of_block (a := ⟨g, j * 2 + 1, none⟩) e).trans (hc j hj).2⟩
theorem grown_above {w w1 w2 : World} {row : Option Nat} {H : Nat} (h1 : w.grownBy w1 row) (h2 : w1.grownBy w2 (some H)) (hH : w.heap.size ≤ H) : w.grownBy w2 row :=
  ⟨h2.os.trans h1.os, h2.tape.trans h1.tape, h2.output.trans h1.output, Nat.le_trans h1.size h2.size, fun k hk hne => (h2.block k (Nat.lt_of_lt_of_le hk h1.size) (fun e => by cases e; omega)).trans (h1.block k hk hne)⟩
set_option maxRecDepth 100000 in
set_option maxHeartbeats 4000000 in
theorem fill_any (b : Nat) (A : Option Addr) (cap : Nat) (ts : List Bs) (c1 c2 c3 c4 c5 c6 : Value) (w : World) (hb : Blk w b #[.slice A ts.length cap, c1, c2, c3, c4, c5, c6]) (he : Ents w A ts) (hl : ts.length ≤ 1000)
    (hne : ∀ g, A = some ⟨g, 0, none⟩ → g ≠ b) :
    Calls Tryd.prog 43 #[.pointer (some ⟨b, 0, none⟩)] w fun e w' => e = .returned (.tuple #[]) ∧ ∃ bi bt, w.heap.size ≤ bi ∧ w.heap.size ≤ bt ∧ Blk w' b #[.slice A ts.length cap, c1, c2, c3, .map (some bi), .map (some bt), c6] ∧
      IdM w' bi ts.length (idsL 0 ts) ∧ TokM w' bt ts.length (tokL 0 ts) ∧ w.grownBy w' (some b) := by
  have hmm := @run_makeMap Tryd.prog
  obtain ⟨n, hn⟩ : ∃ n, ts.length = n := ⟨_, rfl⟩
  rw [hn] at hb hl ⊢
  have d0 := hb.cell 0
  have d4 := hb.cell 4
  have d5 := hb.cell 5
  have z4 := hb.frozen 4
  have z5 := hb.frozen 5
  have hbl := hb.lt
  simp at d0 d4 d5
  go_enter Tryd.func43, Tryd.ntmps43
  go_wp2
  obtain ⟨H, hH⟩ : ∃ H, w.heap.size = H := ⟨_, rfl⟩
  simp only [hH]
  go_loopw [2] (fun i wr => ∃ k : Nat, k ≤ n ∧ i = .int .i64 ((k : Int) - 1) ∧ Blk wr b #[.slice A n cap, c1, c2, c3, .map (some H), .map (some (H + 1)), c6] ∧ IdM wr H (n - k) (idsL k (ts.drop k)) ∧ TokM wr (H + 1) (n - k) (tokL k (ts.drop k)) ∧ w.grownBy wr (some b)) (fun i _ => (intOf i + 1).toNat)
  case atStart =>
    refine ⟨n, Nat.le_refl _, rfl, ?_⟩
    have hd : ts.drop n = [] := List.drop_eq_nil_of_le (by omega)
    rw [hd, Nat.sub_self]
    have B2 := (hb.set 4 (.map (some H))).set 5 (.map (some (H + 1)))
    obtain ⟨w2, hw2⟩ : ∃ x, (w.setCell ⟨b, 4, none⟩ (.map (some H))).setCell ⟨b, 5, none⟩ (.map (some (H + 1))) = x := ⟨_, rfl⟩
    have hg2 : w.grownBy w2 (some b) := by rw [← hw2]; exact grown_trans (grown_set _ _ _ _) (grown_set _ _ _ _)
    have hs2 : w2.heap.size = H := by rw [← hw2, ← hH]; simp
    rw [hw2] at B2 ⊢
    have g3 : w2.grownBy ((w2.alloc (.map #[] 0)).alloc (.map #[] 0)) none := grown_trans (World.grownBy_alloc _ _ _) (World.grownBy_alloc _ _ _)
    refine ⟨B2.kept g3 (by simp), ?_, ?_, grown_trans hg2 (grown_trans (World.grownBy_alloc _ _ _) (World.grownBy_alloc _ _ _))⟩
    · have := (IdM.made w2).kept (World.grownBy_alloc (w2.alloc (.map #[] 0)) (.map #[] 0) none) (by simp)
      rw [hs2] at this
      exact this
    · have := TokM.made (w2.alloc (.map #[] 0))
      rw [show (w2.alloc (.map #[] 0)).heap.size = H + 1 by simp [hs2]] at this
      exact this
  case round =>
    obtain ⟨k, hk, rfl, hbk, him, htm, hg⟩ := hrel
    have e0 := hbk.cell 0
    have e4 := hbk.cell 4
    have e5 := hbk.cell 5
    simp at e0 e4 e5
    rcases Nat.eq_zero_or_pos k with rfl | hkp
    · go_wp2
      go_end0
      exact ⟨rfl, H, H + 1, by omega, by omega, hbk, him, htm, hg⟩
    · obtain ⟨k, rfl⟩ : ∃ k', k = k' + 1 := ⟨k - 1, by omega⟩
      rw [show ((k + 1 : Nat) : Int) - 1 = (k : Int) by omega]
      obtain ⟨g, rfl, hgl, hcs⟩ := (he.kept hne hg).1 (by omega)
      obtain ⟨f0, f1⟩ := hcs k (by omega)
      have k0 : (0 : Int) ≤ (k : Int) := by omega
      have k1 : (k : Int) < (n : Int) := by omega
      have hkt : k < ts.length := by omega
      have htl := he.2 _ (List.getElem_mem hkt)
      have hdr : ts.drop k = ts[k] :: ts.drop (k + 1) := List.drop_eq_getElem_cons hkt
      obtain ⟨t, ht⟩ : ∃ t, ts[k] = t := ⟨_, rfl⟩
      rw [ht] at f1 htl hdr
      have hdr' := Lib.hid hdr
      have ht' := Lib.hid ht
      clear hcs ht hdr d0 d4 d5 z4 z5
      obtain ⟨l, hl'⟩ : ∃ l, ts.drop (k + 1) = l := ⟨_, rfl⟩
      rw [hl'] at him htm
      have hl'' := Lib.hid hl'
      clear hl'
      go_wp2_with fail
      go_still_tail 20, (by kernel_rfl)
      change wpList _ _ _ _ _ wr.drew
      refine wpList_idm (by rfl) (.tmp 24) (.tmp 32) (.tmp 40) (by rfl) H (n - (k + 1)) l t k (by rfl) (w := wr.drew) (him.kept (grown_drew wr none) (by simp)) (by unfold maxLen; omega) htl (by omega) (by rfl) (by rfl) ?_
      intro w1 him1 g1
      have hg1 : w.grownBy w1 (some b) := grown_above (grown_trans hg (grown_drew wr _)) g1 (by omega)
      have hbk1 := (hbk.drew).kept g1 (by simp; omega)
      have htm1 := (htm.kept (grown_drew wr none) (by simp)).kept g1 (by simp)
      obtain ⟨_, eg, hgl1, hcs1⟩ := (he.kept hne hg1).1 (by omega)
      cases eg
      obtain ⟨f0', f1'⟩ := hcs1 k (by omega)
      have e0' := hbk1.cell 0
      have e4' := hbk1.cell 4
      have e5' := hbk1.cell 5
      simp at e0' e4' e5'
      rw [ht'.out] at f1'
      clear hcs1 e0 e4 e5 f0 f1 him htm hbk hg g1 hgl
      go_wp2_with fail
      go_still_tail 20, (by kernel_rfl)
      change wpList _ _ _ _ _ w1.drew
      refine wpList_tokm (by rfl) (.tmp 44) (.tmp 52) (.tmp 60) (by rfl) (H + 1) (n - (k + 1)) l t k (by rfl) (w := w1.drew) (htm1.kept (grown_drew w1 none) (by simp)) (by unfold maxLen; omega) htl (by omega) (by rfl) (by rfl) ?_
      intro w2 htm2 g2
      have hg2 : w.grownBy w2 (some b) := grown_above (grown_trans hg1 (grown_drew w1 _)) g2 (by omega)
      have hbk2 := (hbk1.drew).kept g2 (by simp; omega)
      have him2 := (him1.kept (grown_drew w1 none) (by simp)).kept g2 (by simp)
      clear e0' e4' e5' f0' f1' him1 htm1 hbk1 hg1 g2 hgl1
      go_wp2
      go_roundw
      case rel =>
        refine ⟨k, by omega, congrArg (Value.int .i64) (by omega), hbk2, ?_, ?_, hg2⟩
        · rw [hdr'.out, hl''.out, show n - k = n - (k + 1) + 1 by omega]; exact him2
        · rw [hdr'.out, hl''.out, show n - k = n - (k + 1) + 1 by omega]; exact htm2
      case measure => (simp [intOf] <;> omega)
end Go.Proofs.YtejokbfejkkpmaaDoor
