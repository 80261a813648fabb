/- names.Good and names.Branch, walked. -/
import Derived.Test.YtlkfnhcnfjdgbaaDoorGo
import Derived.Laws.NewBlocks
namespace Go.Proofs.YtlkfnhcnfjdgbaaDoor
open Go.RowKit
theorem notpart_any (t : Bs) (m : Int) (w : World) (hs : t.length < 4294967281) (hm : w.cell? ⟨0, 0, none⟩ = some (.int .i64 m)) :
    Calls Tryd.prog 24 #[.string (mk t)] w fun e w' => e = .returned (.bool (!okP 47 t)) ∧ w' = w := by
  have K := part_any (mk t) m w (by rw [mk_size]; exact hs) hm
  rw [mk_data] at K
  go_enter Tryd.func24, Tryd.ntmps24
  go_wp2_with (go_at_call 25; refine K.mono ?_; rintro e w' ⟨rfl, rfl⟩)
  go_wp2
  go_ret
  exact ⟨rfl, rfl⟩
/-- slices.IndexFunc over texts, the function being 'not a part'. -/
theorem index_any (g off cap : Nat) (ts : List Bs) (m : Int) (w : World) (hs : ∀ t ∈ ts, t.length < 4294967281) (hn : ts.length ≤ 4294967296) (hm : w.cell? ⟨0, 0, none⟩ = some (.int .i64 m))
    (hc : ∀ j (h : j < ts.length), w.cell? ⟨g, off + j, none⟩ = some (.string (mk ts[j]))) :
    Calls Tryd.prog 45 #[.slice (some ⟨g, off, none⟩) ts.length cap, .func (.func 24) #[] #[]] w fun e w' => (∃ v : Int, e = .returned (.int .i64 v) ∧ decide (0 ≤ v) = !ts.all (okP 47)) ∧ w' = w := by
  obtain ⟨n, hl⟩ : ∃ n, ts.length = n := ⟨_, rfl⟩
  rw [hl] at hn ⊢
  have HC := Lib.hid hc
  have HS := Lib.hid hs
  clear hc hs
  go_enter Tryd.func45, Tryd.ntmps45
  go_wp2
  go_loop [5, 8] (fun _ i => ∃ k : Nat, k ≤ n ∧ i = .int .i64 k ∧ (ts.take k).all (okP 47) = true) (fun _ i => n - (intOf i).toNat)
  case atStart => exact ⟨0, Nat.zero_le _, rfl, rfl⟩
  case round =>
    obtain ⟨k, hk, rfl, hall⟩ := hrel
    by_cases hlt : k < n
    · have hkl : k < ts.length := by omega
      have c0 := HC.out k hkl
      have K := notpart_any ts[k] m w (HS.out _ (List.getElem_mem hkl)) hm
      have H1 : (ts.take (k + 1)).all (okP 47) = okP 47 ts[k] := by rw [List.take_succ_eq_append_getElem hkl, List.all_append, hall]; simp
      have H2 : okP 47 ts[k] = false → ts.all (okP 47) = false := fun h => by rw [List.all_eq_false]; exact ⟨_, List.getElem_mem hkl, by simp [h]⟩
      have k0 : (0 : Int) ≤ (k : Int) := by omega
      have k1 : (k : Int) < (n : Int) := by omega
      obtain ⟨t, ht⟩ : ∃ t, ts[k] = t := ⟨_, rfl⟩
      rw [ht] at c0 K H1 H2
      clear hall ht
      cases ho : okP 47 t
      · rw [ho] at K
        have HA := Lib.hid (H2 ho)
        clear H1 H2 ho
        go_wp2_with (go_at_call 24; refine K.mono ?_; rintro e w' ⟨rfl, rfl⟩)
        go_wp2
        go_ret
        exact ⟨⟨_, rfl, by rw [HA.out]; simp⟩, rfl⟩
      · rw [ho] at K H1
        have HA := Lib.hid H1
        clear H1 H2 ho
        go_wp2_with (go_at_call 24; refine K.mono ?_; rintro e w' ⟨rfl, rfl⟩)
        go_wp2
        go_round
        case rel => exact ⟨k + 1, by omega, by go_num, HA.out⟩
        case measure => simp [intOf]; omega
    · obtain rfl : k = n := by omega
      have e : ts.take k = ts := List.take_of_length_le (by omega)
      rw [e] at hall
      have HA := Lib.hid hall
      clear hall e
      go_wp2
      go_ret
      exact ⟨⟨_, rfl, by rw [HA.out]; rfl⟩, rfl⟩
theorem contains_any (g off cap : Nat) (ts : List Bs) (m : Int) (w : World) (hs : ∀ t ∈ ts, t.length < 4294967281) (hn : ts.length ≤ 4294967296) (hm : w.cell? ⟨0, 0, none⟩ = some (.int .i64 m))
    (hc : ∀ j (h : j < ts.length), w.cell? ⟨g, off + j, none⟩ = some (.string (mk ts[j]))) :
    Calls Tryd.prog 23 #[.slice (some ⟨g, off, none⟩) ts.length cap, .func (.func 24) #[] #[]] w fun e w' => e = .returned (.bool (!ts.all (okP 47))) ∧ w' = w := by
  have K := index_any g off cap ts m w hs hn hm hc
  go_enter Tryd.func23, Tryd.ntmps23
  go_wp2_with (go_at_call 45; refine K.mono ?_; rintro e w' ⟨⟨v, rfl, hv⟩, rfl⟩)
  go_wp2
  go_ret
  exact ⟨ret_bool (by rw [← hv]), rfl⟩
end Go.Proofs.YtlkfnhcnfjdgbaaDoor
