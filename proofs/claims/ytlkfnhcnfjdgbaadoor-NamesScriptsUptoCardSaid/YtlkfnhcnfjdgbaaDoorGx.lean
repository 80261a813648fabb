/- names.Good and names.Branch, walked. -/
import Derived.Test.YtlkfnhcnfjdgbaaDoorGd
namespace Go.Proofs.YtlkfnhcnfjdgbaaDoor
open Go.RowKit
theorem cell_lt {w : World} {a : Addr} {v : Value} (h : w.cell? a = some v) : a.block < w.heap.size := by
  rcases Nat.lt_or_ge a.block w.heap.size with h' | h'
  · exact h'
  · simp [World.cell?, Array.getElem?_eq_none h'] at h
theorem below_alloc (w : World) (o : Obj) : Below w.heap.size w (w.alloc o) := (Below.refl _ w).alloc (Nat.le_refl _) o
def strs (l : List Bs) : Array Value := (l.map (fun t => Value.string (mk t))).toArray
theorem mk_toList (a : Bs) : (mk a).toList = a := by rw [ByteArray.toList_eq, mk_data]
set_option maxRecDepth 100000 in
set_option maxHeartbeats 1600000 in
theorem good_any (s : ByteArray) (m : Int) (w : World) (hs : s.size ≤ 2000000) (hm : w.cell? ⟨0, 0, none⟩ = some (.int .i64 m)) :
    Calls Tryd.prog 8 #[.string s] w fun e w' => e = .returned (.bool (goodB s.data.toList)) ∧ Below w.heap.size w w' := by
  have hsl : s.data.toList.length = s.size := by simp
  have KS := split_any s m w (by omega) hm
  have hb := below_alloc w (.cells (strs (sp s.data.toList)) 9)
  have hm1 : (w.alloc (.cells (strs (sp s.data.toList)) 9)).cell? ⟨0, 0, none⟩ = some (.int .i64 m) := (hb.cell (p := ⟨0, 0, none⟩) (cell_lt hm)).trans hm
  have hcs : ∀ j (h : j < (sp s.data.toList).length), (w.alloc (.cells (strs (sp s.data.toList)) 9)).cell? ⟨w.heap.size, j, none⟩ = some (.string (mk (sp s.data.toList)[j])) := by
    intro j h
    have := (heap_alloc_new w (.cells (strs (sp s.data.toList)) 9))
    unfold World.cell?
    rw [this]
    simp [strs, h]
  have hle := sp_le s.data.toList
  have hct := sp_length s.data.toList
  have hcn := List.count_le_length (a := (47 : UInt8)) (l := s.data.toList)
  change Calls Tryd.prog 22 _ _ (fun e w' => _ ∧ w' = w.alloc (.cells (strs (sp s.data.toList)) 9)) at KS
  have HG := Lib.hid (show goodB s.data.toList = (decide (s.size ≤ 64) && (match sp s.data.toList with | l0 :: l1 :: r => (l0 == headsB || l0 == tagsB) && (l1 :: r).all (okP 47) | _ => false)) by rw [← hsl]; rfl)
  obtain ⟨W, hW⟩ : ∃ W, w.alloc (.cells (strs (sp s.data.toList)) 9) = W := ⟨_, rfl⟩
  rw [hW] at KS hb hm1 hcs
  obtain ⟨P, hP⟩ : ∃ P, sp s.data.toList = P := ⟨_, rfl⟩
  rw [hP] at KS hcs hle hct HG
  obtain ⟨l0, r, e⟩ := sp_ne s.data.toList
  rw [hP] at e
  subst e
  have hPl : (l0 :: r).length ≤ 2000001 := by omega
  clear hct hcn
  have c0 := hcs 0 (by simp)
  have t0 := mk_toList l0
  simp only [List.getElem_cons_zero] at c0
  clear hm hW hP
  by_cases h64 : 64 < s.size
  · have HB := Lib.hid (show goodB s.data.toList = false by rw [HG.out, decide_eq_false (show ¬ s.size ≤ 64 by omega)]; rfl)
    clear HG hcs
    go_enter Tryd.func8, Tryd.ntmps8
    go_wp2_with (go_at_call 22; refine KS.mono ?_; rintro e w' ⟨rfl, rfl⟩)
    go_wp2
    go_ret
    exact ⟨ret_bool HB.out.symm, hb⟩
  · cases r with
    | nil =>
      have HB := Lib.hid (show goodB s.data.toList = false by rw [HG.out]; simp)
      clear HG hcs
      go_enter Tryd.func8, Tryd.ntmps8
      go_wp2_with (go_at_call 22; refine KS.mono ?_; rintro e w' ⟨rfl, rfl⟩)
      go_wp2
      go_ret
      exact ⟨ret_bool HB.out.symm, hb⟩
    | cons l1 r =>
      have hG := HG.out
      clear HG
      rw [decide_eq_true (show s.size ≤ 64 by omega), Bool.true_and] at hG
      have KC := contains_any w.heap.size 1 (r.length + 1) (l1 :: r) m W (fun t ht => by have := hle t (List.mem_cons_of_mem _ ht); omega) (by simp only [List.length_cons] at hPl ⊢; omega) hm1 (by
        intro j h
        have := hcs (j + 1) (by simpa using h)
        rw [Nat.add_comm 1 j]
        simpa using this)
      simp only [List.length_cons] at KC
      have hr1 : (r.length : Int) + 1 + 1 < 2 → False := by omega
      by_cases h0 : l0 = headsB
      · subst h0
        have HB := Lib.hid (show goodB s.data.toList = (l1 :: r).all (okP 47) by rw [hG]; simp only [beq_self_eq_true, Bool.true_or, Bool.true_and])
        rw [headsB] at t0 c0
        clear hG hcs
        go_enter Tryd.func8, Tryd.ntmps8
        go_wp2_with (first | (go_at_call 22; refine KS.mono ?_; rintro e w' ⟨rfl, rfl⟩) | (go_at_call 23; refine KC.mono ?_; rintro e w' ⟨rfl, rfl⟩))
        go_ret
        exact ⟨ret_bool (by rw [HB.out]; simp), hb⟩
      · by_cases h1 : l0 = tagsB
        · subst h1
          have HB := Lib.hid (show goodB s.data.toList = (l1 :: r).all (okP 47) by rw [hG]; simp only [beq_self_eq_true, Bool.or_true, Bool.true_and])
          rw [tagsB] at t0 c0
          have t1 : ¬ (mk [116, 97, 103, 115]).toList = [104, 101, 97, 100, 115] := by rw [t0]; decide
          clear hG hcs h0
          go_enter Tryd.func8, Tryd.ntmps8
          go_wp2_with (first | (go_at_call 22; refine KS.mono ?_; rintro e w' ⟨rfl, rfl⟩) | (go_at_call 23; refine KC.mono ?_; rintro e w' ⟨rfl, rfl⟩))
          go_ret
          exact ⟨ret_bool (by rw [HB.out]; simp), hb⟩
        · have HB := Lib.hid (show goodB s.data.toList = false by rw [hG]; show ((l0 == headsB || l0 == tagsB) && _) = false; rw [beq_eq_false_iff_ne.2 h0, beq_eq_false_iff_ne.2 h1]; rfl)
          have n0 : ¬ (mk l0).toList = [104, 101, 97, 100, 115] := by rw [t0]; exact h0
          have n1 : ¬ (mk l0).toList = [116, 97, 103, 115] := by rw [t0]; exact h1
          have q0 : ((mk l0).toList == [104, 101, 97, 100, 115]) = false := beq_eq_false_iff_ne.2 n0
          have q1 : ((mk l0).toList == [116, 97, 103, 115]) = false := beq_eq_false_iff_ne.2 n1
          clear hG hcs h0 h1 t0 KC
          go_enter Tryd.func8, Tryd.ntmps8
          go_wp2_with (go_at_call 22; refine KS.mono ?_; rintro e w' ⟨rfl, rfl⟩)
          go_wp2
          go_ret
          exact ⟨ret_bool HB.out.symm, hb⟩
/-- Is it a branch's? -/
def branchB (s : Bs) : Bool := goodB s && (headsB ++ [47]).isPrefixOf s
theorem branch_any (s : ByteArray) (m : Int) (w : World) (hs : s.size ≤ 2000000) (hm : w.cell? ⟨0, 0, none⟩ = some (.int .i64 m)) :
    Calls Tryd.prog 10 #[.string s] w fun e w' => e = .returned (.bool (branchB s.data.toList)) ∧ Below w.heap.size w w' := by
  have KG := good_any s m w hs hm
  have KH := fun w => Tryd.strings_HasPrefix s ⟨#[104, 101, 97, 100, 115, 47]⟩ w
  rw [show (⟨#[104, 101, 97, 100, 115, 47]⟩ : ByteArray).data.toList = headsB ++ [47] from rfl] at KH
  unfold branchB
  cases hg : goodB s.data.toList
  · rw [hg] at KG
    clear KH hg
    go_enter Tryd.func10, Tryd.ntmps10
    go_wp2_with (go_at_call 8; refine KG.mono ?_; rintro e w' ⟨rfl, hb⟩)
    go_wp2
    go_ret
    exact ⟨rfl, hb⟩
  · rw [hg] at KG
    have hh : Lib.hasPrefix s.data.toList (headsB ++ [47]) = (headsB ++ [47]).isPrefixOf s.data.toList := rfl
    rw [hh] at KH
    clear hg hh
    go_enter Tryd.func10, Tryd.ntmps10
    go_wp2_with (first | (go_at_call 8; refine KG.mono ?_; rintro e w' ⟨rfl, hb⟩) | (go_at_call 26; refine (KH _).mono ?_; rintro e w' ⟨rfl, rfl⟩))
    go_ret
    exact ⟨ret_bool (by simp), hb⟩
end Go.Proofs.YtlkfnhcnfjdgbaaDoor
