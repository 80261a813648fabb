/- file.entry, walked. -/
import Derived.Test.YtcmcdddnckcpcaaGreatDoorWh
import Derived.Test.YtcmcdddnckcpcaaGreatDoorSt
namespace Go.Proofs.YtcmcdddnckcpcaaGreatDoor
open Go.RowKit
def extB (l : List (Nat × Nat)) : Bs := l.flatMap fun x => putB x.1 ++ putB x.2
/-- A file's entry, ahead of its sum. -/
def bodyB (name : Bs) (size : Nat) (l : List (Nat × Nat)) : Bs := (joinB [name] ++ putB size ++ putB l.length) ++ extB l
/-- The entry of a file. -/
def entryB (name : Bs) (size : Nat) (l : List (Nat × Nat)) : Bs := fullB (bodyB name size l ++ sumB (crcI (bodyB name size l)))
theorem extB_snoc (l : List (Nat × Nat)) (x : Nat × Nat) : extB (l ++ [x]) = extB l ++ (putB x.1 ++ putB x.2) := by simp [extB]
theorem extB_take (l : List (Nat × Nat)) (k : Nat) : (extB (l.take k)).length ≤ (extB l).length := by
  have : extB l = extB (l.take k) ++ extB (l.drop k) := by unfold extB; rw [← List.flatMap_append, List.take_append_drop]
  rw [this, List.length_append]; omega
set_option maxRecDepth 100000 in
set_option maxHeartbeats 4000000 in
theorem entry_any (name : Bs) (en size : Nat) (A : Option Addr) (cap : Nat) (l : List (Nat × Nat)) (w : World) (hA : Lies w A (ecells l)) (hs : size ≤ 1099511627776) (hn : l.length ≤ 1000) (hl : ∀ x ∈ l, x.1 ≤ 1099511627776 ∧ x.2 ≤ 1099511627776) (hb : (bodyB name size l).length ≤ 508) (hT : TB w) (hw : 0 < w.heap.size) :
    Calls Tryz.prog 49 #[.string (mk name), .agg #[.int .i64 en, .int .i64 size, .slice A l.length cap]] w fun e w' => e = .returned (.string (mk (entryB name size l))) ∧ Below w.heap.size w w' := by
  have HBB := Lib.hid (show bodyB name size l = (joinB [name] ++ putB size ++ putB l.length) ++ extB l from rfl)
  have HEB := Lib.hid (show entryB name size l = fullB (bodyB name size l ++ sumB (crcI (bodyB name size l))) from rfl)
  have hlen := hb
  rw [HBB.out, List.length_append, List.length_append, List.length_append] at hlen
  have KJ := fun (B : Nat) (w : World) (hc : w.cell? ⟨B, 0, none⟩ = some (.string (mk name))) (hB : B < w.heap.size) => join_any (some ⟨B, 0, none⟩) 1 [name] w (fun _ => ⟨B, 0, rfl, hB, fun j u hj => by
    have : j = 0 := by
      have := (List.getElem?_eq_some_iff.1 hj).1
      simp [txc] at this
      exact this
    subst this
    simp [txc] at hj
    subst hj
    exact hc⟩) (by simp) (by omega)
  rw [show ([name] : List Bs).length = 1 from rfl] at KJ
  have KP1 := fun w => put_any size w hs
  have KP2 := fun w => put_any l.length w (by omega)
  have hs1 := run_sum (joinB [name]) (putB size) (by omega)
  have hs2 := run_sum (joinB [name] ++ putB size) (putB l.length) (by rw [List.length_append]; omega)
  obtain ⟨P, hP⟩ : ∃ q, joinB [name] ++ putB size ++ putB l.length = q := ⟨_, rfl⟩
  rw [hP] at hs2
  have HP := Lib.hid (And.intro hP (show P.length ≤ 508 by rw [← hP, List.length_append, List.length_append]; omega))
  have zP := mk_size P
  obtain ⟨X, hX⟩ : ∃ q, mk name = q := ⟨_, rfl⟩
  obtain ⟨J, hJ⟩ : ∃ q, mk (joinB [name]) = q := ⟨_, rfl⟩
  obtain ⟨P1, hP1⟩ : ∃ q, mk (putB size) = q := ⟨_, rfl⟩
  obtain ⟨P2, hP2⟩ : ∃ q, mk (putB l.length) = q := ⟨_, rfl⟩
  obtain ⟨Q, hQ⟩ : ∃ q, mk (joinB [name] ++ putB size) = q := ⟨_, rfl⟩
  obtain ⟨PP, hPP⟩ : ∃ q, mk P = q := ⟨_, rfl⟩
  simp only [hX, hJ] at KJ
  rw [hP1] at KP1
  rw [hP2] at KP2
  rw [hJ, hP1, hQ] at hs1
  rw [hQ, hP2, hPP] at hs2
  rw [hPP] at zP
  rw [hX]
  have HPP := Lib.hid hPP
  obtain ⟨R, hR⟩ : ∃ q, mk (entryB name size l) = q := ⟨_, rfl⟩
  rw [hR]
  have HR := Lib.hid hR
  obtain ⟨n, hnn⟩ : ∃ q, l.length = q := ⟨_, rfl⟩
  rw [hnn] at hn KP2 ⊢
  have HN := Lib.hid hnn
  have HL := Lib.hid hA
  have HLX := Lib.hid hl
  have HT := Lib.hid (And.intro hT hw)
  have HBL := Lib.hid hb
  obtain ⟨B, hBe⟩ : ∃ q, bodyB name size l = q := ⟨_, rfl⟩
  have HBL2 := Lib.hid (show B.length ≤ 508 by rw [← hBe]; exact HBL.out)
  have HBS := Lib.hid (show P ++ extB l = B by rw [← hBe, HBB.out, HP.out.1])
  have HEB2 := Lib.hid (show entryB name size l = fullB (B ++ sumB (crcI B)) by rw [← hBe]; exact HEB.out)
  clear hBe HEB
  have mixed : Tryz.prog.follows Departure.mixedOrders = true := by kernel_rfl
  clear hA hs hl hb hlen hP hX hJ hP1 hP2 hQ hPP hR hnn hT hw
  go_enter Tryz.func49, Tryz.ntmps49
  go_upto_region 2 with (fail)
  have hB0 := (Blk.new w #[.int .i64 en, .int .i64 size, .slice A n cap] 69).alloc (.cells #[.pointer none, .slice none 0 0] 93)
  have hBu0 := Lib.fresh_isBuilder 93 5 (w.alloc (.cells #[.int .i64 en, .int .i64 size, .slice A n cap] 69))
  rw [World.size_alloc] at hBu0
  have hbw0 := (below_alloc w (.cells #[.int .i64 en, .int .i64 size, .slice A n cap] 69)).alloc (by simp) (.cells #[.pointer none, .slice none 0 0] 93)
  refine wp_region_held (S := fun w' => Blk w' w.heap.size #[.int .i64 en, .int .i64 size, .slice A n cap] 69) mixed ?_
  change wpAnyH _ _ _ _ _ _ _ _ (World.alloc _ _).drew
  have hB1 : Blk ((w.alloc (.cells #[.int .i64 en, .int .i64 size, .slice A n cap] 69)).alloc (.cells #[.pointer none, .slice none 0 0] 93)).drew w.heap.size #[.int .i64 en, .int .i64 size, .slice A n cap] 69 := hB0
  have hBu1 : Lib.IsBuilder 93 5 (w.heap.size + 1) (w.heap.size + 1) [] ((w.alloc (.cells #[.int .i64 en, .int .i64 size, .slice A n cap] 69)).alloc (.cells #[.pointer none, .slice none 0 0] 93)).drew := hBu0
  have hbw1 : Below w.heap.size w ((w.alloc (.cells #[.int .i64 en, .int .i64 size, .slice A n cap] 69)).alloc (.cells #[.pointer none, .slice none 0 0] 93)).drew := hbw0.drew
  have hsz1 : ((w.alloc (.cells #[.int .i64 en, .int .i64 size, .slice A n cap] 69)).alloc (.cells #[.pointer none, .slice none 0 0] 93)).drew.heap.size = w.heap.size + 1 + 1 := by
    show ((w.alloc _).alloc _).heap.size = _
    simp
  obtain ⟨W0, hW0⟩ : ∃ q, ((w.alloc (.cells #[.int .i64 en, .int .i64 size, .slice A n cap] 69)).alloc (.cells #[.pointer none, .slice none 0 0] 93)).drew = q := ⟨_, rfl⟩
  rw [hW0] at hB1 hBu1 hbw1 hsz1 ⊢
  clear hW0 hB0 hBu0 hbw0
  obtain ⟨H, hH⟩ : ∃ q, w.heap.size = q := ⟨_, rfl⟩
  rw [hH] at hB1 hBu1 hbw1 hsz1
  have HSZ1 := Lib.hid hsz1
  have hge1 : H ≤ W0.heap.size := by omega
  clear hsz1
  have HH := Lib.hid hH
  try simp only [hH]
  clear hH
  refine wpAnyH_take (i := 0) (v := .string X) rfl (by kernel_rfl) (by kernel_rfl) (by kernel_rfl) (fun c a w h => h) (.inl ⟨by kernel_rfl, fun w' hS => ?_⟩) hB1 ?_
  · clear hS; go_simp
  try go_simp
  refine wpAnyH_take (i := 3) (v := .pointer (some ⟨H, 1, none⟩)) rfl (by kernel_rfl) (by kernel_rfl) (by kernel_rfl) (fun c a w h => h) (.inl ⟨by kernel_rfl, fun w' hS => ?_⟩) hB1 ?_
  · clear hS; go_simp
  try go_simp
  refine wpAnyH_take (i := 4) (v := .int .i64 (size : Int)) rfl (by kernel_rfl) (by kernel_rfl) (by kernel_rfl) (fun c a w h => h) (.inl ⟨by kernel_rfl, fun w' hS => ?_⟩) hB1 ?_
  · have q0 := hS.cell 1; simp at q0; go_simp
  try go_simp
  refine wpAnyH_take (i := 7) (v := .pointer (some ⟨H, 2, none⟩)) rfl (by kernel_rfl) (by kernel_rfl) (by kernel_rfl) (fun c a w h => h) (.inl ⟨by kernel_rfl, fun w' hS => ?_⟩) hB1 ?_
  · clear hS; go_simp
  try go_simp
  refine wpAnyH_take (i := 8) (v := .slice A n cap) rfl (by kernel_rfl) (by kernel_rfl) (by kernel_rfl) (fun c a w h => h) (.inl ⟨by kernel_rfl, fun w' hS => ?_⟩) hB1 ?_
  · have q0 := hS.cell 2; simp at q0; go_simp
  try go_simp
  refine wpAnyH_take (i := 9) (v := .int .i64 (n : Int)) rfl (by kernel_rfl) (by kernel_rfl) (by kernel_rfl) (fun c a w h => h) (.inl ⟨by kernel_rfl, fun w' hS => ?_⟩) hB1 ?_
  · clear hS; go_simp
  try go_simp
  refine wpAnyH_all (rs := [1]) (by kernel_rfl) (by simp) ?_
  intro i hi
  simp only [List.mem_cons, List.not_mem_nil, or_false] at hi
  subst hi
  unfold wpOp
  go_simp
  have hB2 := hB1.alloc (.cells #[.string X] 9)
  have hBu2 := isb_below hBu1 (below_alloc W0 (.cells #[.string X] 9))
  have hbw2 := hbw1.alloc hge1 (.cells #[.string X] 9)
  have hX2 : (W0.alloc (.cells #[.string X] 9)).cell? ⟨W0.heap.size, 0, none⟩ = some (.string X) := (Blk.new W0 #[.string X] 9).cell 0
  have hXl : W0.heap.size < (W0.alloc (.cells #[.string X] 9)).heap.size := by simp
  obtain ⟨Z, hZ⟩ : ∃ q, W0.heap.size = q := ⟨_, rfl⟩
  rw [hZ] at hX2 hXl
  try rw [hZ]
  obtain ⟨W1, hW1⟩ : ∃ q, W0.alloc (.cells #[.string X] 9) = q := ⟨_, rfl⟩
  rw [hW1] at hB2 hBu2 hbw2 hX2 hXl ⊢
  clear hW1 hB1 hBu1 hbw1
  first | refine .inl ⟨hB2, ?_⟩ | refine ⟨hB2, ?_⟩ | skip
  refine wpAnyH_all (rs := [2]) (by kernel_rfl) (by simp) ?_
  intro i hi
  simp only [List.mem_cons, List.not_mem_nil, or_false] at hi
  subst hi
  unfold wpOp
  go_simp
  refine .inl ?_
  go_at_call 83
  refine (KJ Z W1 hX2 hXl).mono ?_
  rintro e W2 ⟨rfl, hb2⟩
  have hB3 := hB2.below hb2
  have hBu3 := isb_below hBu2 hb2
  have hbw3 := hbw2.trans (hb2.mono (by rw [← HH.out]; exact hbw2.size))
  refine ⟨hB3, ?_⟩
  refine wpAnyH_all (rs := [5]) (by kernel_rfl) (by simp) ?_
  intro i hi
  simp only [List.mem_cons, List.not_mem_nil, or_false] at hi
  subst hi
  unfold wpOp
  go_simp
  refine .inl ?_
  go_at_call 84
  refine (KP1 W2).mono ?_
  rintro e W3 ⟨rfl, hb3⟩
  have hB4 := hB3.below hb3
  have hBu4 := isb_below hBu3 hb3
  have hbw4 := hbw3.trans (hb3.mono (by rw [← HH.out]; exact hbw3.size))
  refine ⟨hB4, ?_⟩
  refine wpAnyH_take (i := 6) (v := .string Q) rfl (by kernel_rfl) (by kernel_rfl) (by kernel_rfl) (fun c a w h => h) (.inl ⟨by kernel_rfl, fun w' hS => ?_⟩) hB4 ?_
  · clear hS; go_simp
  try go_simp
  refine wpAnyH_all (rs := [10]) (by kernel_rfl) (by simp) ?_
  intro i hi
  simp only [List.mem_cons, List.not_mem_nil, or_false] at hi
  subst hi
  unfold wpOp
  go_simp
  refine .inl ?_
  go_at_call 84
  refine (KP2 W3).mono ?_
  rintro e W4 ⟨rfl, hb4⟩
  have hB5 := hB4.below hb4
  have hBu5 := isb_below hBu4 hb4
  have hbw5 := hbw4.trans (hb4.mono (by rw [← HH.out]; exact hbw4.size))
  refine ⟨hB5, ?_⟩
  refine wpAnyH_take (i := 11) (v := .string PP) rfl (by kernel_rfl) (by kernel_rfl) (by kernel_rfl) (fun c a w h => h) (.inl ⟨by kernel_rfl, fun w' hS => ?_⟩) hB5 ?_
  · clear hS; go_simp
  try go_simp
  have hpl := HP.out.2
  have KW := bwrite_any (H + 1) (H + 1) [] PP W4 hBu5 (by rw [zP]; simp; omega) (by rcases hBu5 with h | h <;> exact Nat.le_of_lt h.lt)
  refine wpAnyH_all (rs := [12]) (by kernel_rfl) (by simp) ?_
  intro i hi
  simp only [List.mem_cons, List.not_mem_nil, or_false] at hi
  subst hi
  unfold wpOp
  go_simp
  refine .inl ?_
  go_at_call 45
  refine KW.mono ?_
  rintro e W5 ⟨rfl, hBu6, hb6, hoth⟩
  have hB6 : Blk W5 H #[.int .i64 en, .int .i64 size, .slice A n cap] 69 := hoth H _ _ _ (by decide) (by omega) hB5
  refine ⟨hB6, ?_⟩
  refine wpAnyH_done (by kernel_rfl) ?_ _
  have hbw6 := hbw5.trans (hb6.mono (by omega))
  have hsc : [] ++ Lib.strCells PP = Lib.byteCells P := by rw [← HPP.out]; simp [Lib.strCells, Lib.byteCells, mk_data]
  rw [hsc] at hBu6
  have HBU := Lib.hid hBu6
  have HBW := Lib.hid hbw6
  have HB := Lib.hid hB6
  have c2 := hB6.cell 2
  simp at c2
  clear KJ KP1 KP2 KW hs1 hs2 zP hB2 hBu2 hbw2 hX2 hXl hb2 hB3 hBu3 hbw3 hb3 hB4 hBu4 hbw4 hb4 hB5 hBu5 hbw5 hBu6 hb6 hoth hB6 hbw6 hsc hpl hZ hge1
  go_upto_region 3 with (fail)
  go_wp2
  clear c2
  go_loopw [27] (fun i wr => ∃ k : Nat, k ≤ n ∧ i = .int .i64 k ∧ Lib.IsBuilder 93 5 (H + 1) (H + 1) (Lib.byteCells (P ++ extB (l.take k))) wr ∧ Below H w wr) (fun i _ => n - (intOf i).toNat)
  case atStart => exact ⟨0, Nat.zero_le _, rfl, .inr (by simpa [extB] using HBU.out), HBW.out⟩
  case round =>
    obtain ⟨k, hk, rfl, hbu, hb⟩ := hrel
    have hsz2 : H ≤ wr.heap.size := by have := hb.size; rw [HH.out] at this; exact this
    by_cases hlt2 : k < n
    · have hkl : k < l.length := by rw [HN.out]; exact hlt2
      obtain ⟨g, off, rfl, hgl, hcs⟩ := HL.out (by rw [ecells_length]; omega)
      rw [HH.out] at hgl
      obtain ⟨s0, s1⟩ := ecells_at l k hkl
      have d0 := (hb.cell (p := ⟨g, off + k * 2, none⟩) hgl).trans (hcs _ _ s0)
      have d1 := (hb.cell (p := ⟨g, off + (k * 2 + 1), none⟩) hgl).trans (hcs _ _ s1)
      have hgr : g < wr.heap.size := by omega
      obtain ⟨hq1, hq2⟩ := HLX.out l[k] (List.getElem_mem hkl)
      have hsn : P ++ extB (l.take (k + 1)) = (P ++ extB (l.take k)) ++ (putB l[k].1 ++ putB l[k].2) := by
        rw [List.take_succ_eq_append_getElem hkl, extB_snoc, List.append_assoc]
      have hln : (P ++ extB (l.take (k + 1))).length ≤ 508 := by
        have h1 := extB_take l (k + 1)
        have h2 := HBL.out
        rw [HBB.out, List.length_append, HP.out.1] at h2
        rw [List.length_append]; omega
      rw [hsn, List.length_append, List.length_append, List.length_append] at hln
      obtain ⟨a, ha⟩ : ∃ z, l[k].1 = z := ⟨_, rfl⟩
      obtain ⟨c, hc⟩ : ∃ z, l[k].2 = z := ⟨_, rfl⟩
      rw [ha] at d0 hq1 hsn hln
      rw [hc, ← Nat.add_assoc] at d1
      rw [hc] at hq2 hsn hln
      have hsum := run_sum (putB a) (putB c) (by omega)
      have KA := fun w => put_any a w hq1
      have KC := fun w => put_any c w hq2
      obtain ⟨T, hT⟩ : ∃ q, P ++ extB (l.take k) = q := ⟨_, rfl⟩
      have hln := (by rw [← hT, List.length_append]; exact hln : T.length + ((putB a).length + (putB c).length) ≤ 508)
      rw [hT] at hbu hsn
      have zf := mk_size (putB a ++ putB c)
      obtain ⟨F, hF⟩ : ∃ q, mk (putB a ++ putB c) = q := ⟨_, rfl⟩
      obtain ⟨A1, hA1⟩ : ∃ q, mk (putB a) = q := ⟨_, rfl⟩
      obtain ⟨C1, hC1⟩ : ∃ q, mk (putB c) = q := ⟨_, rfl⟩
      rw [hA1, hC1, hF] at hsum
      rw [hA1] at KA
      rw [hC1] at KC
      rw [hF, List.length_append] at zf
      have hfz : T.length + F.size ≤ 508 := by omega
      have KW := fun (w4 : World) (h4 : Below wr.heap.size wr w4) => bwrite_any (H + 1) (H + 1) (Lib.byteCells T) F w4 (isb_below hbu h4) (by simp [Lib.byteCells]; omega) (Nat.le_trans (by rcases hbu with h | h <;> exact Nat.le_of_lt h.lt) h4.size)
      have HFC := Lib.hid (show Lib.byteCells T ++ Lib.strCells F = Lib.byteCells (P ++ extB (l.take (k + 1))) by
        rw [hsn, ← hF]; simp [Lib.byteCells, Lib.strCells, mk_data])
      have HZL := Lib.hid (show H + 1 < wr.heap.size from by rcases hbu with h | h <;> exact h.lt)
      have HB := Lib.hid hb
      have k0 : (0 : Int) ≤ (k : Int) := by omega
      have k1 : (k : Int) < (n : Int) := by omega
      clear hb hcs s0 s1 hsn hln ha hc hF hA1 hC1 hT hkl hbu zf hfz hq1 hq2
      go_wp2
      have hZ1 := Blk.new wr #[.int .i64 a, .int .i64 c] 90
      have hA2 := (below_alloc wr (.cells #[.int .i64 a, .int .i64 c] 90)).drew
      obtain ⟨V, hV⟩ : ∃ V, wr.heap.size = V := ⟨_, rfl⟩
      rw [hV] at hZ1
      simp only [hV]
      refine wp_region_held (S := fun w' => Blk w' V #[.int .i64 a, .int .i64 c] 90) mixed ?_
      change wpAnyH _ _ _ _ _ _ _ _ (wr.alloc (.cells #[.int .i64 a, .int .i64 c] 90)).drew
      have hZ2 : Blk (wr.alloc (.cells #[.int .i64 a, .int .i64 c] 90)).drew V _ 90 := hZ1
      obtain ⟨W, hW⟩ : ∃ u, (wr.alloc (.cells #[.int .i64 a, .int .i64 c] 90)).drew = u := ⟨_, rfl⟩
      rw [hW] at hZ2 hA2 ⊢
      have HV := Lib.hid hV
      clear hW hZ1 d0 d1 hV
      refine wpAnyH_take (i := 0) (v := .pointer (some ⟨V, 0, none⟩)) rfl (by kernel_rfl) (by kernel_rfl) (by kernel_rfl) (fun c a w h => h) (.inl ⟨by kernel_rfl, fun w' hS => ?_⟩) hZ2 ?_
      · clear hS; go_simp
      try go_simp
      refine wpAnyH_take (i := 1) (v := .int .i64 (a : Int)) rfl (by kernel_rfl) (by kernel_rfl) (by kernel_rfl) (fun c a w h => h) (.inl ⟨by kernel_rfl, fun w' hS => ?_⟩) hZ2 ?_
      · have q0 := hS.cell 0; simp at q0; go_simp
      try go_simp
      refine wpAnyH_take (i := 3) (v := .pointer (some ⟨V, 1, none⟩)) rfl (by kernel_rfl) (by kernel_rfl) (by kernel_rfl) (fun c a w h => h) (.inl ⟨by kernel_rfl, fun w' hS => ?_⟩) hZ2 ?_
      · clear hS; go_simp
      try go_simp
      refine wpAnyH_take (i := 4) (v := .int .i64 (c : Int)) rfl (by kernel_rfl) (by kernel_rfl) (by kernel_rfl) (fun c a w h => h) (.inl ⟨by kernel_rfl, fun w' hS => ?_⟩) hZ2 ?_
      · have q0 := hS.cell 1; simp at q0; go_simp
      try go_simp
      refine wpAnyH_all (rs := [2]) (by kernel_rfl) (by simp) ?_
      intro i hi
      simp only [List.mem_cons, List.not_mem_nil, or_false] at hi
      subst hi
      unfold wpOp
      go_simp
      refine .inl ?_
      go_at_call 84
      refine (KA _).mono ?_
      rintro e W1 ⟨rfl, hb1⟩
      have hZ3 := hZ2.below hb1
      have hA3 := hA2.trans (hb1.mono hA2.size)
      refine ⟨hZ3, ?_⟩
      refine wpAnyH_all (rs := [5]) (by kernel_rfl) (by simp) ?_
      intro i hi
      simp only [List.mem_cons, List.not_mem_nil, or_false] at hi
      subst hi
      unfold wpOp
      go_simp
      refine .inl ?_
      go_at_call 84
      refine (KC _).mono ?_
      rintro e W2 ⟨rfl, hb2⟩
      have hZ4 := hZ3.below hb2
      have hA4 := hA3.trans (hb2.mono hA3.size)
      refine ⟨hZ4, ?_⟩
      refine wpAnyH_take (i := 6) (v := .string F) rfl (by kernel_rfl) (by kernel_rfl) (by kernel_rfl) (fun c a w h => h) (.inl ⟨by kernel_rfl, fun w' hS => ?_⟩) hZ4 ?_
      · clear hS; go_simp
      try go_simp
      refine wpAnyH_all (rs := [7]) (by kernel_rfl) (by simp) ?_
      intro i hi
      simp only [List.mem_cons, List.not_mem_nil, or_false] at hi
      subst hi
      unfold wpOp
      go_simp
      refine .inl ?_
      go_at_call 45
      refine (KW _ hA4).mono ?_
      rintro e W3 ⟨rfl, hbu3, hb3, hoth⟩
      have hZ5 : Blk W3 V #[.int .i64 a, .int .i64 c] 90 := hoth V _ _ _ (by decide) (by have := HZL.out; have := HV.out; omega) hZ4
      refine ⟨hZ5, ?_⟩
      refine wpAnyH_done (by kernel_rfl) ?_ _
      rw [HFC.out] at hbu3
      have HBU3 := Lib.hid hbu3
      have HBF := Lib.hid ((HB.out.trans (hA4.mono hsz2)).trans (hb3.mono (by omega)))
      clear hZ2 hA2 hb1 hZ3 hA3 hb2 hZ4 hA4 hbu3 hb3 hoth hZ5 KA KC KW hsum
      go_wp2
      go_roundw
      case rel => exact ⟨k + 1, by omega, by go_num, .inr HBU3.out, HBF.out⟩
      case measure => simp [intOf]; omega
    · obtain rfl : n = k := by omega
      rw [List.take_of_length_le (by rw [HN.out]; exact Nat.le_refl _), HBS.out] at hbu
      have hzl : H + 1 ≤ wr.heap.size := by rcases hbu with h | h <;> exact Nat.le_of_lt h.lt
      have KS := Tryz.Builder_String_any (H + 1) (H + 1) B wr hbu hzl
      have KC := fun (w' : World) (hT' : TB w') => sum_any B w' hT' (by have := HBL2.out; omega)
      have hbd := crcI_bd B
      rw [show (⟨B.toArray⟩ : ByteArray) = mk B from rfl] at KS
      obtain ⟨C, hC⟩ : ∃ q, crcI B = q := ⟨_, rfl⟩
      rw [hC] at KC hbd HEB2
      obtain ⟨U, hU⟩ : ∃ q, mk B = q := ⟨_, rfl⟩
      rw [hU] at KS KC
      have hTw := HT.out.1.below (by rw [← HH.out]; exact HT.out.2) hb
      have HB := Lib.hid hb
      have HTW := Lib.hid hTw
      have HU := Lib.hid hU
      have hH0 : 0 < H := by rw [← HH.out]; exact HT.out.2
      obtain ⟨hc0, hc1⟩ := hbd
      clear hbu hb hTw hC hU
      go_wp2_with (first
        | (go_at_call 46; refine KS.mono ?_; rintro e w2 ⟨rfl, hb2⟩; have hT2 := HTW.out.below (by omega) hb2; have K2 := KC w2 hT2; have HB2 := Lib.hid (HB.out.trans (hb2.mono (by omega))); clear hb2 hT2)
        | (go_at_call 85; refine K2.mono ?_; rintro e w3 ⟨rfl, hw3⟩; obtain rfl := hw3.symm))
      go_loopw [8, 43] (fun sv i wr => ∃ k : Nat, k ≤ 4 ∧ i = .int .i64 k ∧ sv = .string (mk (B ++ (sumB C).take k)) ∧ Below H w wr) (fun _ i _ => 4 - (intOf i).toNat)
      case atStart => exact ⟨0, by omega, rfl, by rw [List.take_zero, List.append_nil, HU.out], HB2.out⟩
      case round =>
        obtain ⟨k, hk, rfl, rfl, hb⟩ := hrel
        obtain ⟨S1, hS1⟩ : ∃ q, mk (B ++ (sumB C).take k) = q := ⟨_, rfl⟩
        rw [hS1]
        have hk4 : k = 0 ∨ k = 1 ∨ k = 2 ∨ k = 3 ∨ k = 4 := by omega
        have HB := Lib.hid hb
        have hln : B.length ≤ 508 := HBL2.out
        have hszw : H ≤ wr.heap.size := by have := hb.size; rw [HH.out] at this; exact this
        rcases hk4 with rfl | rfl | rfl | rfl | rfl
        · have hcv := conv_one wr (UInt8.ofNat (C.toNat / 256 ^ 0)) (C % 256) (by rw [← byte_int]; omega)
          have hst : B ++ (sumB C).take 1 = (B ++ (sumB C).take 0) ++ [UInt8.ofNat (C.toNat / 256 ^ 0)] := by rw [List.append_assoc]; rfl
          have hsum := run_sum (B ++ (sumB C).take 0) [UInt8.ofNat (C.toNat / 256 ^ 0)] (by simp; omega)
          rw [← hst, hS1] at hsum
          obtain ⟨S2, hS2⟩ : ∃ q, mk (B ++ (sumB C).take 1) = q := ⟨_, rfl⟩
          obtain ⟨b1, hb1⟩ : ∃ q, mk [UInt8.ofNat (C.toNat / 256 ^ 0)] = q := ⟨_, rfl⟩
          rw [hb1] at hcv hsum
          rw [hS2] at hsum
          have HS2 := Lib.hid hS2
          clear hS1 hS2 hst hb1 hln hb
          go_wp2
          go_roundw
          case rel => exact ⟨1, by omega, rfl, by rw [HS2.out], HB.out.alloc hszw _⟩
          case measure => simp [intOf]
        · have hcv := conv_one wr (UInt8.ofNat (C.toNat / 256 ^ 1)) (C / 256 % 256) (by rw [← byte_int]; omega)
          have hst : B ++ (sumB C).take 2 = (B ++ (sumB C).take 1) ++ [UInt8.ofNat (C.toNat / 256 ^ 1)] := by rw [List.append_assoc]; rfl
          have hsum := run_sum (B ++ (sumB C).take 1) [UInt8.ofNat (C.toNat / 256 ^ 1)] (by simp; omega)
          rw [← hst, hS1] at hsum
          obtain ⟨S2, hS2⟩ : ∃ q, mk (B ++ (sumB C).take 2) = q := ⟨_, rfl⟩
          obtain ⟨b1, hb1⟩ : ∃ q, mk [UInt8.ofNat (C.toNat / 256 ^ 1)] = q := ⟨_, rfl⟩
          rw [hb1] at hcv hsum
          rw [hS2] at hsum
          have HS2 := Lib.hid hS2
          clear hS1 hS2 hst hb1 hln hb
          go_wp2
          go_roundw
          case rel => exact ⟨2, by omega, rfl, by rw [HS2.out], HB.out.alloc hszw _⟩
          case measure => simp [intOf]
        · have hcv := conv_one wr (UInt8.ofNat (C.toNat / 256 ^ 2)) (C / 65536 % 256) (by rw [← byte_int]; omega)
          have hst : B ++ (sumB C).take 3 = (B ++ (sumB C).take 2) ++ [UInt8.ofNat (C.toNat / 256 ^ 2)] := by rw [List.append_assoc]; rfl
          have hsum := run_sum (B ++ (sumB C).take 2) [UInt8.ofNat (C.toNat / 256 ^ 2)] (by simp; omega)
          rw [← hst, hS1] at hsum
          obtain ⟨S2, hS2⟩ : ∃ q, mk (B ++ (sumB C).take 3) = q := ⟨_, rfl⟩
          obtain ⟨b1, hb1⟩ : ∃ q, mk [UInt8.ofNat (C.toNat / 256 ^ 2)] = q := ⟨_, rfl⟩
          rw [hb1] at hcv hsum
          rw [hS2] at hsum
          have HS2 := Lib.hid hS2
          clear hS1 hS2 hst hb1 hln hb
          go_wp2
          go_roundw
          case rel => exact ⟨3, by omega, rfl, by rw [HS2.out], HB.out.alloc hszw _⟩
          case measure => simp [intOf]
        · have hcv := conv_one wr (UInt8.ofNat (C.toNat / 256 ^ 3)) (C / 16777216) (by rw [← byte_int]; omega)
          have hst : B ++ (sumB C).take 4 = (B ++ (sumB C).take 3) ++ [UInt8.ofNat (C.toNat / 256 ^ 3)] := by rw [List.append_assoc]; rfl
          have hsum := run_sum (B ++ (sumB C).take 3) [UInt8.ofNat (C.toNat / 256 ^ 3)] (by simp; omega)
          rw [← hst, hS1] at hsum
          obtain ⟨S2, hS2⟩ : ∃ q, mk (B ++ (sumB C).take 4) = q := ⟨_, rfl⟩
          obtain ⟨b1, hb1⟩ : ∃ q, mk [UInt8.ofNat (C.toNat / 256 ^ 3)] = q := ⟨_, rfl⟩
          rw [hb1] at hcv hsum
          rw [hS2] at hsum
          have HS2 := Lib.hid hS2
          clear hS1 hS2 hst hb1 hln hb
          go_wp2
          go_roundw
          case rel => exact ⟨4, by omega, rfl, by rw [HS2.out], HB.out.alloc hszw _⟩
          case measure => simp [intOf]
        · have KD := padded_any (B ++ sumB C) wr (by rw [List.length_append, sumB_length]; omega)
          rw [← HEB2.out, HR.out] at KD
          have HS1 := Lib.hid (show mk (B ++ sumB C) = S1 by rw [← hS1]; rfl)
          rw [HS1.out] at KD
          clear hS1 hln hb
          go_wp2_with (go_at_call 86; refine KD.mono ?_; rintro e w2 ⟨rfl, hb2⟩)
          go_ret
          refine ⟨rfl, ?_⟩
          rw [HH.out]
          exact HB.out.trans (hb2.mono hszw)
end Go.Proofs.YtcmcdddnckcpcaaGreatDoor
