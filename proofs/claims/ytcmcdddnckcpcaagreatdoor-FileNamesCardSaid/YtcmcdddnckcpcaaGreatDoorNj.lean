/- nums.Join and Split, walked. -/
import Derived.Test.YtcmcdddnckcpcaaGreatDoorNg
import Derived.Test.YtcmcdddnckcpcaaGreatDoorBu
import Derived.Deep.RegionHeld3
import Derived.Deep.AppendLies
import Derived.BigQuiet
namespace Go.Proofs.YtcmcdddnckcpcaaGreatDoor
open Go.RowKit
theorem joinB_take (l : List Bs) (k : Nat) : (joinB (l.take k)).length ≤ (joinB l).length := by
  have : joinB l = joinB (l.take k) ++ joinB (l.drop k) := by
    unfold joinB; rw [← List.flatMap_append, List.take_append_drop]
  rw [this, List.length_append]; omega
theorem isb_below {T e : TypeId} {B b : Nat} {bs : List Value} {w w' : World} (h : Lib.IsBuilder T e B b bs w) (hb : Below w.heap.size w w') : Lib.IsBuilder T e B b bs w' := by
  have hat : ∀ p, Lib.BuilderAt T e B b p bs w → Lib.BuilderAt T e B b p bs w' := fun p ⟨h1, v, h2, h3, h4⟩ => ⟨h1, v, (hb.block b (Array.getElem?_eq_some_iff.1 h2).1).trans h2, own_below h3 hb, h4⟩
  exact h.imp (hat _) (hat _)
set_option maxRecDepth 100000 in
set_option maxHeartbeats 4000000 in
theorem join_any (A : Option Addr) (cap : Nat) (l : List Bs) (w : World) (hA : Lies w A (txc l)) (hn : l.length ≤ 1000000) (hsz : (joinB l).length ≤ 1099511627776) :
    Calls Tryz.prog 83 #[.slice A l.length cap] w fun e w' => e = .returned (.string (mk (joinB l))) ∧ Below w.heap.size w w' := by
  obtain ⟨n, hl⟩ : ∃ n, l.length = n := ⟨_, rfl⟩
  rw [hl] at hn ⊢
  have HL := Lib.hid hA
  have HS := Lib.hid hsz
  have HN := Lib.hid hl
  clear hA hsz hl
  go_enter Tryz.func83, Tryz.ntmps83
  go_wp2
  go_loopw [5, 8] (fun _ i wr => ∃ k : Nat, k ≤ n ∧ i = .int .i64 k ∧ Lib.IsBuilder 93 5 w.heap.size w.heap.size (Lib.byteCells (joinB (l.take k))) wr ∧ Below w.heap.size w wr) (fun _ i _ => n - (intOf i).toNat)
  case atStart => exact ⟨0, Nat.zero_le _, rfl, Lib.fresh_isBuilder 93 5 w, (Below.refl _ w).alloc (Nat.le_refl _) _⟩
  case round =>
    obtain ⟨k, hk, rfl, hbu, hB⟩ := hrel
    have hsz := hB.size
    by_cases h : k < n
    · have hkl : k < l.length := by rw [HN.out]; exact h
      obtain ⟨g, off, rfl, hgl, hcs⟩ := HL.out (by simp [txc]; omega)
      have d0 := (hB.cell (p := ⟨g, off + k, none⟩) hgl).trans (hcs k _ (txc_at l k hkl))
      have hsn : joinB (l.take (k + 1)) = joinB (l.take k) ++ putB l[k].length ++ l[k] := by
        rw [List.take_succ_eq_append_getElem hkl, joinB_snoc]
      have hln := joinB_take l (k + 1)
      rw [hsn] at hln
      have hln2 := HS.out
      obtain ⟨x, hx⟩ : ∃ x, l[k] = x := ⟨_, rfl⟩
      rw [hx] at d0 hsn hln
      obtain ⟨T, hT⟩ : ∃ T, joinB (l.take k) = T := ⟨_, rfl⟩
      rw [hT] at hbu hsn hln
      have HSN := Lib.hid hsn
      have k0 : (0 : Int) ≤ (k : Int) := by omega
      have k1 : (k : Int) < (n : Int) := by omega
      simp only [List.length_append] at hln
      have KP := fun w' => put_any x.length w' (by omega)
      have s0 : (mk x).size = x.length := mk_size _
      have s1 : (mk (putB x.length)).size = (putB x.length).length := mk_size _
      obtain ⟨X, hX⟩ : ∃ X, mk x = X := ⟨_, rfl⟩
      obtain ⟨Y, hY⟩ : ∃ Y, mk (putB x.length) = Y := ⟨_, rfl⟩
      rw [hX] at d0 s0
      rw [hY] at s1 KP
      have HX := Lib.hid hX
      have HY := Lib.hid hY
      rw [← s0] at KP
      have HB := Lib.hid hB
      have HBU := Lib.hid hbu
      have KW := fun (w4 : World) (h4 : Below wr.heap.size wr w4) => bwrite_any w.heap.size w.heap.size (Lib.byteCells T) Y w4 (isb_below HBU.out h4) (by simp [Lib.byteCells]; omega) (Nat.le_trans hsz h4.size)
      have KW2 := fun (w5 : World) (h5 : Lib.BuilderAt 93 5 w.heap.size w.heap.size (.pointer (some ⟨w.heap.size, 0, none⟩)) (Lib.byteCells T ++ Lib.strCells Y) w5) (h6 : w.heap.size ≤ w5.heap.size) => bwrite_any w.heap.size w.heap.size (Lib.byteCells T ++ Lib.strCells Y) X w5 (.inr h5) (by simp [Lib.byteCells, Lib.strCells]; omega) h6
      have Hs0 := Lib.hid s0
      clear hcs hsn hx hT hX hY hB hbu hln hln2 s0 s1
      go_wp2_with (first
        | (go_at_call 84; refine (KP _).mono ?_; rintro e w4 ⟨rfl, hb4⟩; have K1 := KW w4 hb4; have H4 := Lib.hid hb4; clear hb4 KW KP)
        | (go_at_call 45; (with_reducible refine K1.mono ?_); rintro e w5 ⟨rfl, hbu5, hb5, _⟩; have K2 := KW2 w5 hbu5 (by have := hb5.size; have := H4.out.size; omega); have H5 := Lib.hid hb5; clear hb5 hbu5 K1 KW2)
        | (go_at_call 45; (with_reducible refine K2.mono ?_); rintro e w6 ⟨rfl, hbu6, hb6, _⟩; have H6 := Lib.hid hb6; have HU6 := Lib.hid hbu6; clear hb6 hbu6 K2))
      have hfin : Lib.byteCells T ++ Lib.strCells Y ++ Lib.strCells X = Lib.byteCells (joinB (l.take (k + 1))) := by
        rw [HSN.out, ← HX.out, ← HY.out]
        simp [Lib.byteCells, Lib.strCells, mk_data]
      have HF := Lib.hid hfin
      clear hfin
      go_roundw
      case rel => exact ⟨k + 1, by omega, by go_num, .inr (by rw [← HF.out]; exact HU6.out), (((HB.out.trans (H4.out.mono hsz)).trans H5.out).trans H6.out)⟩
      case measure => simp [intOf]; omega
    · obtain rfl : k = n := by omega
      have e : l.take k = l := List.take_of_length_le (by rw [HN.out]; exact Nat.le_refl _)
      rw [e] at hbu
      have KS := Tryz.Builder_String_any w.heap.size w.heap.size (joinB l) wr hbu hsz
      clear hbu
      go_wp2_with (go_at_call 46; refine KS.mono ?_; rintro e2 w2 ⟨rfl, hb2⟩)
      go_ret
      exact ⟨rfl, hB.trans hb2⟩
theorem nextB_bd (s : Bs) (h : (nextB s).2.2 = 0) : 1 ≤ (nextB s).2.1 ∧ (nextB s).2.1 ≤ s.length ∧ (nextB s).1.length ≤ 262144 := by
  revert h
  unfold nextB
  have hb := getB_bd s
  have hz : (getB s).2.2 = 0 → 1 ≤ (getB s).2.1 := by
    unfold getB
    cases s with
    | nil => simp
    | cons c r =>
      simp only
      split
      · simp
      · split
        · simp
        · split
          · simp
          · simp
  obtain ⟨n, k, e, hg⟩ : ∃ n k e, getB s = (n, k, e) := ⟨_, _, _, rfl⟩
  rw [hg] at hb hz ⊢
  simp only at hb hz ⊢
  split
  · intro h; exact absurd h (by assumption)
  · split
    · intro h; simp at h
    · split
      · intro h; simp at h
      · intro h
        simp only [List.length_take, List.length_drop]
        have := hz (by omega)
        omega
end Go.Proofs.YtcmcdddnckcpcaaGreatDoor
