/- file.Good, walked: which names are good. -/
import Derived.Test.YtcmcdddnckcpcaaGreatDoorKt
import Derived.Lib.OthersKept
import Derived.Laws.RangeAny
namespace Go.Proofs.YtcmcdddnckcpcaaGreatDoor
open Go.RowKit
def signC (c : UInt8) : Bool := 33 ≤ c && c ≤ 126
/-- May a file have this name? -/
def goodF (s : Bs) : Bool := decide (1 ≤ s.length) && decide (s.length ≤ 80) && s.all signC
theorem signC_nat (c : UInt8) : signC c = true ↔ 33 ≤ c.toNat ∧ c.toNat ≤ 126 := by
  unfold signC
  simp only [Bool.and_eq_true, decide_eq_true_eq, UInt8.le_iff_toNat_le]
  simp
theorem all_take_succ (p : UInt8 → Bool) (l : Bs) (k : Nat) (h : k < l.length) (h0 : (l.take k).all p = true) : (l.take (k + 1)).all p = p l[k] := by
  rw [List.take_succ_eq_append_getElem h, List.all_append, h0]
  simp
theorem all_false (p : UInt8 → Bool) (l : Bs) (k : Nat) (h : k < l.length) (h0 : p l[k] = false) : l.all p = false := by
  rw [List.all_eq_false]
  exact ⟨l[k], List.getElem_mem h, by simp [h0]⟩
theorem rune_good (r : Int) (w : World) (h0 : 33 ≤ r) (h1 : r ≤ 126) : Calls Tryz.prog 36 #[.int .i32 r] w fun e w' => e = .returned (.bool false) ∧ w' = w := by
  have h2 : ¬ r < 33 := by omega
  have h3 : ¬ 126 < r := by omega
  go_enter Tryz.func36, Tryz.ntmps36
  go_wp2
  go_ret
  exact ⟨rfl, rfl⟩
theorem rune_bad (r : Int) (w : World) (h : r < 33 ∨ 126 < r) : Calls Tryz.prog 36 #[.int .i32 r] w fun e w' => e = .returned (.bool true) ∧ w' = w := by
  by_cases h2 : r < 33
  · clear h
    go_enter Tryz.func36, Tryz.ntmps36
    go_wp2
    go_ret
    exact ⟨rfl, rfl⟩
  · have h3 : 126 < r := by omega
    clear h
    go_enter Tryz.func36, Tryz.ntmps36
    go_wp2
    go_ret
    exact ⟨rfl, rfl⟩
def IdxP (s : ByteArray) (w : World) (e : Ending) (w' : World) : Prop := (∃ i : Int, e = .returned (.int .i64 i) ∧ decide (i < 0) = s.data.toList.all signC ∧ -1 ≤ i) ∧ Below w.heap.size w w'
set_option maxHeartbeats 1000000 in
theorem idx_any (s : ByteArray) (w : World) (hs : s.size ≤ 9223372036854775807) : Calls Tryz.prog 75 #[.string s, .func (.func 36) #[] #[], .bool true] w (IdxP s w) := by
  have hsl : s.data.toList.length = s.size := by simp
  unfold IdxP
  go_enter Tryz.func75, Tryz.ntmps75
  go_wp2
  go_loopw [12] (fun _ wr => ∃ k : Nat, k ≤ s.size ∧ (s.data.toList.take k).all signC = true ∧ wr.heap[w.heap.size]? = some (.stringIter s k) ∧ Below w.heap.size w wr) (fun _ wr => match wr.heap[w.heap.size]? with | some (.stringIter _ k) => s.size - k | _ => 0)
  case atStart => exact ⟨0, Nat.zero_le _, rfl, heap_alloc_new _ _, below_alloc _ _⟩
  case round =>
    obtain ⟨k, hk, hall, hit, hb⟩ := hrel
    by_cases hlt : k < s.size
    · have hnx := fun ty => Lib.run_next_any_at (P := Tryz.prog) wr w.heap.size s k ty hit hlt
      have hlt' : k < s.data.toList.length := by rw [hsl]; exact hlt
      have H1 := Lib.hid (all_take_succ signC s.data.toList k hlt' hall)
      have H2 := Lib.hid (fun h => all_false signC s.data.toList k hlt' h)
      have hget : s.data.toList[k] = s[k] := rfl
      rw [hget] at H1 H2
      have hsg := signC_nat s[k]
      have hk63 : wrap64 (k : Int) = (k : Int) := Go.IntWalk.wrap64_in _ (by omega)
      by_cases hc : signC s[k] = true
      · obtain ⟨c1, c2⟩ := hsg.1 hc
        have hda := decode_ascii s k hlt (by omega)
        simp only [hda] at hnx
        have HI := Lib.hid (Lib.iterAt_heap wr w.heap.size s k (k + 1) hit)
        have HB := Lib.hid (Lib.below_iterAt hb (Nat.le_refl _) s (k + 1))
        have HA := Lib.hid (H1.out.trans hc)
        obtain ⟨r, hr⟩ : ∃ r, s[k].toNat = r := ⟨_, rfl⟩
        rw [hr] at hnx c1 c2
        have KG := rune_good (r : Int) (wr.iterAt w.heap.size s (k + 1)) (by omega) (by omega)
        obtain ⟨W1, hW1⟩ : ∃ q, wr.iterAt w.heap.size s (k + 1) = q := ⟨_, rfl⟩
        rw [hW1] at HI HB KG
        simp only [hW1] at hnx
        have HIT := Lib.hid hit
        clear hall hit hb hsl hsg hc hda hr hW1 hget hk63
        go_wp2_with (go_at_call 36; refine KG.mono ?_; rintro e w1 ⟨rfl, hw⟩; obtain rfl := hw.symm)
        go_roundw
        case rel => exact ⟨k + 1, by omega, HA.out, HI.out, HB.out⟩
        case measure => rw [HI.out, HIT.out]; simp; omega
      · have hc' : signC s[k] = false := by simpa using hc
        have HAF := Lib.hid (H2.out hc')
        have hbad : ∃ (r q : Nat), Utf8.decode s k = (r, q) ∧ ((r : Int) < 33 ∨ 126 < (r : Int)) := by
          by_cases h128 : s[k].toNat < 128
          · refine ⟨_, _, decode_ascii s k hlt h128, ?_⟩
            rcases Nat.lt_or_ge (s[k].toNat) 33 with h | h
            · exact .inl (by omega)
            · exact .inr (by
                have : ¬ (33 ≤ s[k].toNat ∧ s[k].toNat ≤ 126) := fun h => hc (hsg.2 h)
                omega)
          · have h1 := (decode_high s k hlt (Nat.le_of_not_lt h128)).1
            obtain ⟨d, hd⟩ : ∃ d, Utf8.decode s k = d := ⟨_, rfl⟩
            rw [hd] at h1
            obtain ⟨a, b⟩ := d
            exact ⟨a, b, hd, .inr (by have h1' : 128 ≤ a := h1; omega)⟩
        obtain ⟨r, q, hde, hrb⟩ := hbad
        simp only [hde] at hnx
        have HB := Lib.hid (Lib.below_iterAt hb (Nat.le_refl _) s (k + q))
        obtain ⟨W1, hW1⟩ : ∃ u, wr.iterAt w.heap.size s (k + q) = u := ⟨_, rfl⟩
        rw [hW1] at HB
        simp only [hW1] at hnx
        have KB := rune_bad (r : Int) W1 hrb
        have HN := Lib.hid (show decide ((k : Int) < 0) = s.data.toList.all signC by rw [HAF.out]; simp)
        clear hall hit hb hsl hsg hc hc' hW1 hget hde hrb hk63
        go_wp2_with (go_at_call 36; refine KB.mono ?_; rintro e w1 ⟨rfl, hw⟩; obtain rfl := hw.symm)
        go_ret
        exact ⟨⟨k, rfl, HN.out, by omega⟩, HB.out⟩
    · have hnx := fun ty => Lib.run_next_end_at (P := Tryz.prog) wr w.heap.size s k ty hit hlt
      obtain rfl : k = s.size := by omega
      have HA := Lib.hid (show decide ((-1 : Int) < 0) = s.data.toList.all signC by rw [List.take_of_length_le (by omega)] at hall; rw [hall]; rfl)
      have HB := Lib.hid hb
      clear hall hit hb hlt hsl
      go_wp2
      go_ret
      exact ⟨⟨-1, rfl, HA.out, by omega⟩, HB.out⟩
theorem idxf_any (s : ByteArray) (w : World) (hs : s.size ≤ 9223372036854775807) : Calls Tryz.prog 35 #[.string s, .func (.func 36) #[] #[]] w (IdxP s w) := by
  have K := idx_any s w hs
  unfold IdxP at K ⊢
  go_enter Tryz.func35, Tryz.ntmps35
  go_wp2_with (go_at_call 75; refine K.mono ?_; rintro e w1 ⟨⟨i, rfl, h1, h2⟩, hb⟩; have H1 := Lib.hid (And.intro h1 h2); clear h1 h2)
  go_ret
  exact ⟨⟨i, rfl, H1.out⟩, hb⟩
set_option maxHeartbeats 1000000 in
theorem good_any (s : Bs) (w : World) (hs : s.length ≤ 9223372036854775807) : Calls Tryz.prog 11 #[.string (mk s)] w fun e w' => e = .returned (.bool (goodF s)) ∧ Below w.heap.size w w' := by
  have hz := mk_size s
  have K := idxf_any (mk s) w (by omega)
  unfold IdxP at K
  rw [mk_data] at K
  have HG := Lib.hid (show goodF s = (decide (1 ≤ s.length) && decide (s.length ≤ 80) && s.all signC) from rfl)
  obtain ⟨X, hX⟩ : ∃ q, mk s = q := ⟨_, rfl⟩
  rw [hX] at hz K ⊢
  obtain ⟨n, hn⟩ : ∃ q, s.length = q := ⟨_, rfl⟩
  rw [hn] at hz HG hs
  obtain ⟨g, hg⟩ : ∃ q, goodF s = q := ⟨_, rfl⟩
  rw [hg] at HG ⊢
  clear hX hn hg
  by_cases h1 : 1 ≤ n
  · by_cases h2 : n ≤ 80
    · have i1 : (0 : Int) < (n : Int) := by omega
      have i1n : 0 < n := by omega
      have i2 : (n : Int) ≤ 80 := by omega
      have HG2 := Lib.hid (show g = s.all signC by rw [HG.out, decide_eq_true h1, decide_eq_true h2]; rfl)
      clear HG h1 hs
      go_enter Tryz.func11, Tryz.ntmps11
      go_wp2_with (go_at_call 35; refine K.mono ?_; rintro e w1 ⟨⟨i, rfl, h1, h2⟩, hb⟩; have H1 := Lib.hid h1; clear h1 h2)
      go_ret
      refine ⟨?_, hb⟩
      rw [HG2.out, ← H1.out]
      rfl
    · have i2 : ¬ ((n : Int) ≤ 80) := by omega
      have i1 : (0 : Int) < (n : Int) := by omega
      have i1n : 0 < n := by omega
      have HG2 := Lib.hid (show g = false by rw [HG.out, decide_eq_false h2]; simp)
      clear HG h1 K hs
      go_enter Tryz.func11, Tryz.ntmps11
      go_wp2
      go_ret
      obtain rfl := HG2.out
      exact ⟨rfl, Below.refl _ _⟩
  · have i1 : ¬ ((0 : Int) < (n : Int)) := by omega
    obtain rfl : n = 0 := by omega
    have HG2 := Lib.hid (show g = false by rw [HG.out]; simp)
    clear HG h1 K hs
    go_enter Tryz.func11, Tryz.ntmps11
    go_wp2
    go_ret
    obtain rfl := HG2.out
    exact ⟨rfl, Below.refl _ _⟩
end Go.Proofs.YtcmcdddnckcpcaaGreatDoor
