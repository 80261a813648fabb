/- names.Decode of a table's bytes, walked. -/
import Derived.Test.YtlkfnhcnfjdgbaaDoorTi
import Derived.Test.YtlkfnhcnfjdgbaaDoorDq
import Derived.Test.YtlkfnhcnfjdgbaaDoorDt
import Derived.Test.YtlkfnhcnfjdgbaaDoorNj
import Derived.Deep.QuietTactic
import Derived.BigQuiet
import Derived.OrdersHeld
import Derived.Laws.ResultCell
import Derived.Deep.CutRange
namespace Go.Proofs.YtlkfnhcnfjdgbaaDoor
open Go.RowKit Go.Maps Go.WideMaps Go.Shelf
attribute [local go_sem] Oper.semAt_some
theorem wpOp_of {P : Program} {ops : Array Oper} {Q : Exit → Act → World → Prop} {i : Nat} {K : Act → World → Prop} {a : Act} {w : World} {o : Oper} (ho : ops[i]? = some o) (hg : o.guard = none) (h : o.wp P a w K Q) : wpOp P ops Q i K a w := by
  unfold wpOp
  simp only [ho]
  rw [if_pos (by simp [Region.wanted, hg])]
  exact .inl h
theorem split_at (S : Bs) (l : List Bs) (n : Nat) (w : World) (hS : S.length ≤ 1000000) (hl : l.length = n) (h : ∀ m e, SplitR S m e → m = l ∧ e = 0) :
    Calls Tryd.prog 36 #[.string (mk S)] w fun e w' => ∃ A c, e = .returned (.tuple #[.slice A n c, .int .i64 0]) ∧ w'.ownsRow w.heap.size 9 1 (.slice A n c) n (txc l) ∧ Below w.heap.size w w' := by
  refine (split_row S w hS).mono ?_
  rintro e w' ⟨m, er, A, c, hs, rfl, ho, _, hb⟩
  obtain ⟨rfl, rfl⟩ := h m er hs
  subst hl
  exact ⟨A, c, rfl, ho, hb⟩
theorem row_three {w : World} {B c : Nat} {A : Option Addr} {a b d : Bs} (h : w.ownsRow B 9 1 (.slice A 3 c) 3 (txc [a, b, d])) : ∃ g, A = some ⟨g, 0, none⟩ ∧ g < w.heap.size ∧ B ≤ g ∧ w.cell? ⟨g, 0, none⟩ = some (.string (mk a)) ∧ w.cell? ⟨g, 1, none⟩ = some (.string (mk b)) ∧ w.cell? ⟨g, 2, none⟩ = some (.string (mk d)) := by
  obtain ⟨g, cap, e, hB, hgl⟩ := h.form (by omega)
  injection e with e1 e2 e3
  subst e1 e3
  refine ⟨g, rfl, hgl, hB, ?_, ?_, ?_⟩
  · rw [h.cellAt 0 (by omega)]; rfl
  · rw [h.cellAt 1 (by omega)]; rfl
  · rw [h.cellAt 2 (by omega)]; rfl
theorem row_cap1 {w : World} {B c n : Nat} {A : Option Addr} {xs : List Value} (h : w.ownsRow B 9 1 (.slice A n c) n xs) : n ≤ c := by
  rcases h.2 with ⟨hv, h0⟩ | ⟨g, c, cur, hv, _, _, hc, _⟩
  · omega
  · injection hv with _ _ h3
    subst h3
    exact hc
set_option maxRecDepth 100000 in
set_option maxHeartbeats 8000000 in
theorem decode_ok (t : Tbl) (k : Nat) (hg : TG k t) (hk : k ≤ 120) (m : Int) (w : World) (hm : w.cell? ⟨0, 0, none⟩ = some (.int .i64 m)) :
    Calls Tryd.prog 17 #[.string (mk (encB t))] w fun e w' => ∃ v, e = .returned (.tuple #[v, .int .i64 0]) ∧ TblAt w' t v ∧ Below w.heap.size w w' := by
  obtain ⟨hz0, hz1, hz2, hz3⟩ := hg.sizes hk
  obtain ⟨i39, h390, h391, h392, h393⟩ := info_parts info39
  obtain ⟨i41, h410, h411, h412, h413⟩ := info_parts info41
  have K1 := fun w => split_at (encB t) _ 3 w (by omega) rfl (fun m e h => hg.split hk h)
  have K2 := fun w => split_at (joinB (rtx t.refs)) _ _ w (by omega) (rtx_len t.refs) (fun m e h => hg.split_refs h)
  have K3 := fun w => split_at (joinB (utx t.log)) _ _ w (by omega) (utx_len t.log) (fun m e h => hg.split_log h)
  have hR1 := hg.len
  have hL1 := hg.logl
  have HG := Lib.hid hg
  obtain ⟨M, hM⟩ : ∃ M, t.refs.length = M := ⟨_, rfl⟩
  obtain ⟨L, hL⟩ : ∃ M, t.log.length = M := ⟨_, rfl⟩
  obtain ⟨M2, hM2⟩ : ∃ n, M * 2 = n := ⟨_, rfl⟩
  obtain ⟨L3, hL3⟩ : ∃ n, L * 3 = n := ⟨_, rfl⟩
  rw [hM] at K2 hR1
  rw [hL] at K3 hL1
  rw [hM2] at K2
  rw [hL3] at K3
  have hm2 : (M2 : Int).tmod 2 = 0 := by rw [← hM2, Int.natCast_mul]; exact Int.mul_tmod_left _ _
  have hm3 : (L3 : Int).tmod 3 = 0 := by rw [← hL3, Int.natCast_mul]; exact Int.mul_tmod_left _ _
  have hHR := txc_rtx t.refs
  have hHL := txc_utx t.log
  rw [hHR] at K2
  rw [hHL] at K3
  obtain ⟨SE, hSE⟩ : ∃ s, mk (encB t) = s := ⟨_, rfl⟩
  obtain ⟨SR, hSR⟩ : ∃ s, mk (joinB (rtx t.refs)) = s := ⟨_, rfl⟩
  obtain ⟨SL, hSL⟩ : ∃ s, mk (joinB (utx t.log)) = s := ⟨_, rfl⟩
  obtain ⟨HD, hHD⟩ : ∃ s, mk t.head = s := ⟨_, rfl⟩
  have R3 := fun (w : World) (B c : Nat) (A : Option Addr) (h : w.ownsRow B 9 1 (.slice A 3 c) 3 (txc [t.head, joinB (rtx t.refs), joinB (utx t.log)])) => row_three h
  simp only [hSR, hSL, hHD] at R3
  rw [hSE] at K1 ⊢
  rw [hSR] at K2
  rw [hSL] at K3
  have R3 := Lib.hid R3
  have HM := Lib.hid hM
  have HL := Lib.hid hL
  have HM2 := Lib.hid hM2
  have HL3 := Lib.hid hL3
  have HHD := Lib.hid hHD
  clear hz0 hz1 hz2 hz3 hSE hSR hSL hHD hM hL hM2 hL3 hHR hHL hg
  refine (callsIn_wide (n := 6)).1 ?_
  refine callsIn_of_wp_marks Tryd.func17 rfl trivial ?_ rfl
  simp only [Tryd.ntmps17, List.size_toArray, List.length_cons, List.length_nil, Nat.reduceAdd, Nat.reduceSub, Array.replicate_succ, Array.replicate_zero, List.push_toArray, List.append_toArray, List.nil_append, List.cons_append]
  refine wpIn_wide.2 ?_
  go_upto_region 4 with (go_at_call 36; (with_reducible refine (K1 _).mono ?_); rintro e w1 ⟨A1, c1, rfl, ho1, hb1⟩)
  obtain ⟨g1, rfl, hg1, _, q0, q1, q2⟩ := R3.out _ _ _ _ ho1
  clear ho1 K1
  go_upto_region 7 with (go_at_call 36; (with_reducible refine (K2 _).mono ?_); rintro e w2 ⟨A2, c2, rfl, ho2, hb2⟩)
  have q0 := (hb2.cell (p := ⟨g1, 0, none⟩) hg1).trans q0
  have q2 := (hb2.cell (p := ⟨g1, 2, none⟩) hg1).trans q2
  clear q1 K2
  go_upto_region 10 with (go_at_call 36; (with_reducible refine (K3 _).mono ?_); rintro e w3 ⟨A3, c3, rfl, ho3, hb3⟩)
  have q0 := (hb3.cell (p := ⟨g1, 0, none⟩) (Nat.lt_of_lt_of_le hg1 hb2.size)).trans q0
  clear q2 K3
  go_wp2_with (go_at_call 37; (with_reducible refine (chunk_any _ _ _ 2 (by omega) _).mono ?_); rintro e w' ⟨rfl, rfl⟩)
  obtain ⟨H, hH⟩ : ∃ H, w.heap.size = H := ⟨_, rfl⟩
  have hR0 : Blk w1 H #[.slice none 0 0, .string ⟨#[]⟩, .slice none 0 0] 31 := by rw [← hH]; exact (Blk.new w _ 31).below hb1
  have hR3 := (hR0.below hb2).below hb3
  have hb03 : Below w.heap.size w w3 := ((((Below.refl _ w).alloc (Nat.le_refl _) _).trans (hb1.mono (by simp))).trans (hb2.mono (by have := hb1.size; simp at this; omega))).trans (hb3.mono (by have h1 := hb1.size; have h2 := hb2.size; simp at h1; omega))
  have hHX : H < w3.heap.size := hR3.lt
  obtain ⟨X, hX⟩ : ∃ X, w3.heap.size = X := ⟨_, rfl⟩
  have hb4 : Below X w3 (((w3.alloc (.cells #[.slice none 0 0, .string HD, .slice none 0 0] 31)).alloc (.cells #[.slice A2 M2 c2] 55)).alloc (.cells #[.int .i64 2] 3)) :=
    (((Below.refl X w3).alloc (by omega) _).alloc (by simp; omega) _).alloc (by simp; omega) _
  have hX4 : Blk (((w3.alloc (.cells #[.slice none 0 0, .string HD, .slice none 0 0] 31)).alloc (.cells #[.slice A2 M2 c2] 55)).alloc (.cells #[.int .i64 2] 3)) X #[.slice none 0 0, .string HD, .slice none 0 0] 31 := by
    rw [← hX]; exact ((Blk.new w3 _ 31).alloc _).alloc _
  have hY4 : Blk (((w3.alloc (.cells #[.slice none 0 0, .string HD, .slice none 0 0] 31)).alloc (.cells #[.slice A2 M2 c2] 55)).alloc (.cells #[.int .i64 2] 3)) (X + 1) #[.slice A2 M2 c2] 55 := by
    have := (Blk.new (w3.alloc (.cells #[.slice none 0 0, .string HD, .slice none 0 0] 31)) #[.slice A2 M2 c2] 55).alloc (.cells #[.int .i64 2] 3)
    rwa [World.size_alloc, hX] at this
  have hZ4 : Blk (((w3.alloc (.cells #[.slice none 0 0, .string HD, .slice none 0 0] 31)).alloc (.cells #[.slice A2 M2 c2] 55)).alloc (.cells #[.int .i64 2] 3)) (X + 2) #[.int .i64 2] 3 := by
    have := Blk.new ((w3.alloc (.cells #[.slice none 0 0, .string HD, .slice none 0 0] 31)).alloc (.cells #[.slice A2 M2 c2] 55)) #[.int .i64 2] 3
    rwa [World.size_alloc, World.size_alloc, hX] at this
  have hs4 : (((w3.alloc (.cells #[.slice none 0 0, .string HD, .slice none 0 0] 31)).alloc (.cells #[.slice A2 M2 c2] 55)).alloc (.cells #[.int .i64 2] 3)).heap.size = X + 3 := by simp [hX]
  simp only [hH, hX, Nat.add_assoc, Nat.reduceAdd]
  obtain ⟨W4, hW4⟩ : ∃ u, ((w3.alloc (.cells #[.slice none 0 0, .string HD, .slice none 0 0] 31)).alloc (.cells #[.slice A2 M2 c2] 55)).alloc (.cells #[.int .i64 2] 3) = u := ⟨_, rfl⟩
  rw [hW4] at hb4 hX4 hY4 hZ4 hs4 ⊢
  rw [hX] at hHX
  obtain ⟨N, hN⟩ : ∃ N, X + 3 = N := ⟨_, rfl⟩
  rw [hN] at hs4
  have hb0 : Below w.heap.size w W4 := hb03.trans (hb4.mono (by omega))
  have hy4 := hY4.cell 0
  have hz4 := hZ4.cell 0
  simp at hy4 hz4
  have hcp2 := row_cap1 ho2
  have HROW := Lib.hid (show 0 < M → ∃ g, A2 = some ⟨g, 0, none⟩ ∧ g < X ∧ ∀ W, KeepX N X W4 W → ∀ j u, (rcells t.refs)[j]? = some u → W.cell? ⟨g, j, none⟩ = some u from fun h0 => by
    have h2 := hb2.size
    have h3 := hb3.size
    obtain ⟨g, e, hgl, hc⟩ := row_later (W := W4) ho2 (fun k hkl => (hb4.block k (by omega)).trans (hb3.block k hkl)) (by have := HM2.out; omega)
    exact ⟨g, e, by omega, fun W hk j u hu => (hk.cell (p := ⟨g, j, none⟩) (by simp only; omega) (by simp only; omega)).trans (hc j u hu)⟩)
  have hwX : w.heap.size ≤ X := by omega
  have hwH : w.heap.size ≤ H := by omega
  have HX3 := Lib.hid hX
  clear hb1 hb2 hb03 hR0 hg1 q0 hW4 hY4 hZ4 hX hH
  refine (wpIn_wide (n := 6)).1 ?_
  refine wpIn_range_from (α := _root_.Fin M) (N := M) rfl (by decide) (gf := 61) (lb := #[.pointer (some ⟨X + 1, 0, none⟩), .pointer (some ⟨X + 2, 0, none⟩)]) rfl trivial (enters_of Tryd.func61 (by kernel_rfl) rfl) (encs := fun x => piece A2 2 x.1)
    (chunk_stops W4 N X (X + 1) 2 M c2 A2 (by omega) (by omega) (by omega) (by omega) (by rw [HM2.out]; exact hy4) hz4 (by omega) (by omega) (by omega) (by rw [HM2.out]; exact hcp2)) ?hKt ?hKb (Below.refl _ _) (fun _ => rfl)
    (fun pre W => LS w W4 N X 41 2 #[.slice none 0 0, .string HD, .slice none 0 0] 0 pre.length (rcells (pre.map fun x => t.refs.getD x.1 ([], []))) W)
    (fun _ _ _ => False) ?hI ?hIx ?h0 ?hround ?hdone ?hstop
  case hKt => exact fun h k => h.trans k
  case hKb => exact fun W y o o' hy ho hc hk => KeepX.putObj (by omega) W y o' hy
  case hI => exact fun pre W W' row h hg hr => h.kept (by omega) hg (fun r e => by have := hr r e; rw [hs4] at this; exact this)
  case hIx => exact fun c s W W' row h _ _ => h
  case h0 => exact ⟨hb0, KeepX.refl _ _ _, by omega, _, _, by simpa using hX4, World.ownsRow_nil _ _ _ _⟩
  case hround =>
    rintro y pre x W hIW hlt
    have hxl : x.1 < t.refs.length := by rw [HM.out]; exact x.2
    obtain ⟨g, rfl, hgX0, hcs⟩ := HROW.out (by omega)
    obtain ⟨k0, k1⟩ := rcells_at t.refs x.1 hxl
    have hmap : t.refs.getD x.1 ([], []) = t.refs[x.1] := by rw [List.getD_eq_getElem?_getD, List.getElem?_eq_getElem hxl]; rfl
    obtain ⟨q, hq⟩ : ∃ q, x.1 * 2 = q := ⟨_, rfl⟩
    obtain ⟨S0, hS0⟩ : ∃ s, mk t.refs[x.1].1 = s := ⟨_, rfl⟩
    obtain ⟨S1, hS1⟩ : ∃ s, mk t.refs[x.1].2 = s := ⟨_, rfl⟩
    have hsn : rcells ((pre ++ [x]).map fun x => t.refs.getD x.1 ([], [])) = rcells (pre.map fun x => t.refs.getD x.1 ([], [])) ++ [.string S0, .string S1] := by
      rw [List.map_append, List.map_singleton, hmap, rcells_snoc', hS0, hS1]
    rw [hq, hS0] at k0
    rw [hq, hS1] at k1
    dsimp only [piece]
    simp only [Option.map_some, add_lit', Nat.zero_add, hq]
    gi_wp2
    refine ⟨(KeepsOthers.refl _).from _, ?_⟩
    rintro l' o' hl' ⟨o, ho', hc', _⟩
    rw [hs4] at hl'
    have hKW : KeepX N X W (W.putObj l' o') := KeepX.putObj (w := W4) (by omega) W l' o' (by omega)
    have hI2 := hIW.kept (by omega) (grownBy_putObj' W l' o') (fun r e => by cases e; exact ⟨hl', o, ho', hc'⟩)
    obtain ⟨W2, hW2⟩ : ∃ u, W.putObj l' o' = u := ⟨_, rfl⟩
    rw [hW2] at hKW hI2 ⊢
    have d0 := hcs W2 hI2.keep _ _ k0
    have d1 := hcs W2 hI2.keep _ _ k1
    rw [hs4]
    have HFIN := Lib.hid (show ∀ W', KeepsFrom N W2 W' ∧ KeepX N X W2 W' ∧ LS w W4 N X 41 2 #[.slice none 0 0, .string HD, .slice none 0 0] 0 (pre.length + 1) (rcells (pre.map fun x => t.refs.getD x.1 ([], [])) ++ [.string S0, .string S1]) W' →
        KeepsFrom N W2 W' ∧ KeepX N X W W' ∧ LS w W4 N X 41 2 #[.slice none 0 0, .string HD, .slice none 0 0] 0 (pre ++ [x]).length (rcells ((pre ++ [x]).map fun x => t.refs.getD x.1 ([], []))) W' from
      fun W' h => ⟨h.1, hKW.trans h.2.1, by rw [hsn, List.length_append]; exact h.2.2⟩)
    have HFIN := Lib.hid (fun W' (h : KeepsFrom N W2.drew W' ∧ KeepX N X W2.drew W' ∧ LS w W4 N X 41 2 #[.slice none 0 0, .string HD, .slice none 0 0] 0 (pre.length + 1) (rcells (pre.map fun x => t.refs.getD x.1 ([], [])) ++ [.string S0, .string S1]) W') => HFIN.out W' ⟨⟨h.1.size, h.1.same⟩, h.2.1, h.2.2⟩)
    have hI2 := hI2.kept (W' := W2.drew) (row := none) (by omega) ⟨rfl, rfl, rfl, Nat.le_refl _, fun _ _ _ => rfl⟩ (fun r e => by cases e)
    have d0 : W2.drew.cell? ⟨g, q, none⟩ = some (.string S0) := d0
    have d1 : W2.drew.cell? ⟨g, q + 1, none⟩ = some (.string S1) := d1
    obtain ⟨W5, hW5⟩ : ∃ u, W2.drew = u := ⟨_, rfl⟩
    rw [hW5] at HFIN hI2 d0 d1
    obtain ⟨xs, hxs⟩ : ∃ xs, rcells (pre.map fun x => t.refs.getD x.1 ([], [])) = xs := ⟨_, rfl⟩
    obtain ⟨c0, hc0⟩ : ∃ n, pre.length = n := ⟨_, rfl⟩
    rw [hxs, hc0] at hI2
    rw [hxs, hc0] at HFIN
    rw [hc0] at hlt
    obtain ⟨A, cc, hB, ho⟩ := hI2.row
    have x0 := hB.cell 0
    simp at x0
    have hNW := hI2.size
    have hXl : X < W5.heap.size := by omega
    have hgl : g < W5.heap.size := by omega
    have hgX : g ≠ X := by omega
    have hgA : (Value.slice A c0 cc).ownBlock ≠ some g := fun e => by have := (ho.lt g e).1; omega
    have hXN : X < N := by omega
    obtain ⟨Z, hZ⟩ : ∃ Z, W5.heap.size = Z := ⟨_, rfl⟩
    clear hIW hW2 hKW hcs k0 k1 hsn hmap hq hS0 hS1 ho' hc' hl' hxs hc0 hxl
    gi_wp2
    refine wpIn_region_SR 12 (fun w' => w'.cell? ⟨g, q, none⟩ = some (.string S0) ∧ w'.cell? ⟨g, q + 1, none⟩ = some (.string S1)) (fun w' => w'.cell? ⟨X, 0, none⟩ = some (.slice A c0 cc)) (by kernel_rfl) (by kernel_rfl) (fun ⟨_, _, h⟩ => h) ?_
    change wpAnyS _ _ _ _ _ _ _ _ _ _ W2.drew
    rw [hW5]
    have HE : ∀ L : Array Bool, HeldS 12 (fun w' => w'.cell? ⟨g, q, none⟩ = some (.string S0) ∧ w'.cell? ⟨g, q + 1, none⟩ = some (.string S1)) (fun w' => w'.cell? ⟨X, 0, none⟩ = some (.slice A c0 cc)) L W5 := fun L => ⟨⟨d0, d1⟩, fun _ => x0⟩
    refine wpAnyS_take (i := 0) (v := .pointer (some ⟨X, 0, none⟩)) rfl (by decide) (by kernel_rfl) (by kernel_rfl) (by kernel_rfl) (fun c a w h => h) (.inl ⟨by kernel_rfl, fun w' hS => ?_⟩) (HE _) ?_
    · have hS0 := hS.1; have hS1 := hS.2; go_simp
    try go_simp
    refine wpAnyS_take2 (i := 1) (v := .slice A c0 cc) rfl (by decide) rfl (by kernel_rfl) (by kernel_rfl) (by kernel_rfl) (by kernel_rfl) (by kernel_rfl) (fun c a w h => h) (.inl ⟨by kernel_rfl, fun w' hS => ?_⟩) (HE _) ?_
    · have hS0 := hS.2; go_simp
    try go_simp
    refine wpAnyS_take (i := 2) (v := .slice (some ⟨g, q, none⟩) 2 2) rfl (by decide) (by kernel_rfl) (by kernel_rfl) (by kernel_rfl) (fun c a w h => h) (.inl ⟨by kernel_rfl, fun w' hS => ?_⟩) (HE _) ?_
    · have hS0 := hS.1; have hS1 := hS.2; go_simp
    try go_simp
    refine wpAnyS_take (i := 3) (v := .pointer (some ⟨g, q, none⟩)) rfl (by decide) (by kernel_rfl) (by kernel_rfl) (by kernel_rfl) (fun c a w h => h) (.inl ⟨by kernel_rfl, fun w' hS => ?_⟩) (HE _) ?_
    · have hS0 := hS.1; have hS1 := hS.2; go_simp
    try go_simp
    refine wpAnyS_take (i := 4) (v := .string S0) rfl (by decide) (by kernel_rfl) (by kernel_rfl) (by kernel_rfl) (fun c a w h => h) (.inl ⟨by kernel_rfl, fun w' hS => ?_⟩) (HE _) ?_
    · have hS0 := hS.1; have hS1 := hS.2; go_simp
    try go_simp
    refine wpAnyS_take (i := 5) (v := .slice (some ⟨g, q, none⟩) 2 2) rfl (by decide) (by kernel_rfl) (by kernel_rfl) (by kernel_rfl) (fun c a w h => h) (.inl ⟨by kernel_rfl, fun w' hS => ?_⟩) (HE _) ?_
    · have hS0 := hS.1; have hS1 := hS.2; go_simp
    try go_simp
    refine wpAnyS_take (i := 6) (v := .pointer (some ⟨g, q + 1, none⟩)) rfl (by decide) (by kernel_rfl) (by kernel_rfl) (by kernel_rfl) (fun c a w h => h) (.inl ⟨by kernel_rfl, fun w' hS => ?_⟩) (HE _) ?_
    · have hS0 := hS.1; have hS1 := hS.2; go_simp
    try go_simp
    refine wpAnyS_take (i := 7) (v := .string S1) rfl (by decide) (by kernel_rfl) (by kernel_rfl) (by kernel_rfl) (fun c a w h => h) (.inl ⟨by kernel_rfl, fun w' hS => ?_⟩) (HE _) ?_
    · have hS0 := hS.1; have hS1 := hS.2; go_simp
    try go_simp
    refine wpAnyS_take (i := 8) (v := .agg #[.string S0, .string S1]) rfl (by decide) (by kernel_rfl) (by kernel_rfl) (by kernel_rfl) (fun c a w h => h) (.inl ⟨by kernel_rfl, fun w' hS => ?_⟩) (HE _) ?_
    · have hS0 := hS.1; have hS1 := hS.2; go_simp
    try go_simp
    refine wpAnyS_all (rs := [9]) (by kernel_rfl) (by simp) ?_
    intro i hi
    simp only [List.mem_cons, List.not_mem_nil, or_false] at hi
    subst hi
    unfold wpOp
    go_simp
    have hN3 := World.news_of_block (cs := #[.string S0, .string S1]) (heap_alloc_new W5 (.cells #[.string S0, .string S1] 41))
    have ho3 : (W5.alloc (.cells #[.string S0, .string S1] 41)).ownsRow N 41 2 (.slice A c0 cc) c0 xs := World.ownsRow.alloc (w := W5) ho _
    have hg3 : W5.grownBy (W5.alloc (.cells #[.string S0, .string S1] 41)) none := World.grownBy_alloc W5 _ none
    have HE3 : ∀ L : Array Bool, HeldS 12 (fun w' => w'.cell? ⟨g, q, none⟩ = some (.string S0) ∧ w'.cell? ⟨g, q + 1, none⟩ = some (.string S1)) (fun w' => w'.cell? ⟨X, 0, none⟩ = some (.slice A c0 cc)) L (W5.alloc (.cells #[.string S0, .string S1] 41)) := fun L => ⟨⟨(cell_old W5 _ ⟨g, q, none⟩ hgl).trans d0, (cell_old W5 _ ⟨g, q + 1, none⟩ hgl).trans d1⟩, fun _ => (cell_old W5 _ ⟨X, 0, none⟩ hXl).trans x0⟩
    have d0' := (HE3 #[]).1.1
    have d1' := (HE3 #[]).1.2
    have hz3 : W5.heap.size = Z := hZ
    have hNz : N ≤ (W5.alloc (.cells #[.string S0, .string S1] 41)).heap.size := Nat.le_trans hNW hg3.size
    rw [hz3] at hN3
    obtain ⟨W3, hW3⟩ : ∃ u, W5.alloc (.cells #[.string S0, .string S1] 41) = u := ⟨_, rfl⟩
    rw [hW3] at hN3 ho3 hg3 HE3 hNz d0' d1'
    try rw [hz3]
    rw [hW3]
    clear hW3 hz3
    first | refine .inl ⟨HE3 _, ?_⟩ | refine ⟨HE3 _, ?_⟩
    refine wpAnyS_all (rs := [10]) (by kernel_rfl) (by simp) ?_
    intro i hi
    simp only [List.mem_cons, List.not_mem_nil, or_false] at hi
    subst hi
    refine wpOp_of rfl rfl (wp_append_lies (P := Tryd.prog) W3 (.tmp 65) (.tmp 73) 28 rfl N 41 i41 _ 2 32 Tryd.underlying28 h410 h411 h412 h413 (by rfl) (by decide) (.slice A c0 cc) c0 xs (by rfl) ho3 ⟨Z, 0, none⟩ 1 1 [.string S0, .string S1] (by rfl) (by rfl) hN3 (by simp [Value.oneCell']) (by omega) (by unfold maxLen; omega) (by omega) hNz W3.heap.size rfl ?_)
    intro g4 c4 W4x ho4 hg4 _ _
    have hR4 := LS.step hI2 hwX hXN (by decide) hB ho hg3 ho4 hg4
    have hB4 := LS.blk hB ho (by decide) hg3 hg4
    have x4 := hB4.cell 0
    have f4 := hB4.frozen 0
    simp at x4
    have hold : ∀ {p : Nat} {v : Value}, W3.cell? ⟨g, p, none⟩ = some v → W4x.cell? ⟨g, p, none⟩ = some v := fun {p v} hv => (World.cell?_of_block (hg4.block g (Nat.lt_of_lt_of_le hgl hg3.size) (fun e => hgA e.symm))).trans hv
    have HE4 : ∀ L : Array Bool, HeldS 12 (fun w' => w'.cell? ⟨g, q, none⟩ = some (.string S0) ∧ w'.cell? ⟨g, q + 1, none⟩ = some (.string S1)) (fun w' => w'.cell? ⟨X, 0, none⟩ = some (.slice A c0 cc)) L W4x := fun L => ⟨⟨hold d0', hold d1'⟩, fun _ => x4⟩
    clear HE HE3
    refine ⟨HE4 _, ?_⟩
    try go_simp
    refine wpAnyS_take (i := 11) (v := .pointer (some ⟨X, 0, none⟩)) rfl (by decide) (by kernel_rfl) (by kernel_rfl) (by kernel_rfl) (fun c a w h => h) (.inl ⟨by kernel_rfl, fun w' hS => ?_⟩) (HE4 _) ?_
    · have hS0 := hS.1; have hS1 := hS.2; go_simp
    try go_simp
    refine wpAnyS_all (rs := [12]) (by kernel_rfl) (by simp) ?_
    intro i hi
    simp only [List.mem_cons, List.not_mem_nil, or_false] at hi
    subst hi
    unfold wpOp
    go_simp
    have HE5 : ∀ L : Array Bool, L.getD 12 false = true → HeldS 12 (fun w' => w'.cell? ⟨g, q, none⟩ = some (.string S0) ∧ w'.cell? ⟨g, q + 1, none⟩ = some (.string S1)) (fun w' => w'.cell? ⟨X, 0, none⟩ = some (.slice A c0 cc)) L (W4x.setCell ⟨X, 0, none⟩ (.slice (some ⟨g4, 0, none⟩) (c0 + 1) c4)) := fun L hL => ⟨⟨(World.cell?_of_block (a := ⟨g, q, none⟩) (Below.heap_setCell W4x ⟨X, 0, none⟩ _ g hgX)).trans (hold d0'), (World.cell?_of_block (a := ⟨g, q + 1, none⟩) (Below.heap_setCell W4x ⟨X, 0, none⟩ _ g hgX)).trans (hold d1')⟩, fun e => by rw [hL] at e; cases e⟩
    first | refine .inl ⟨HE5 _ (by kernel_rfl), ?_⟩ | refine ⟨HE5 _ (by kernel_rfl), ?_⟩
    refine wpAnyS_done (by kernel_rfl) ?_ _
    exact HFIN.out _ hR4
  case hdone =>
    rintro D xs W hD rfl hI hK
    have hall : (List.finRange M).map (fun x => t.refs.getD x.1 ([], [])) = t.refs := by
      apply List.ext_getElem
      · rw [List.length_map, List.length_finRange, HM.out]
      · intro i h1 h2
        rw [List.getElem_map, List.getElem_finRange, List.getD_eq_getElem?_getD]
        simp [List.getElem?_eq_getElem h2]
    rw [hall, List.length_finRange] at hI
    rw [hs4] at hD
    obtain ⟨Ar, cr, hXr, hor⟩ := hI.row
    simp at hXr
    clear hall
    go_wp2_with (go_at_call 37; (with_reducible refine (chunk_any _ _ _ 3 (by omega) _).mono ?_); rintro e w' ⟨rfl, rfl⟩)
    have hbW := hI.below
    have hsW := hI.size
    have hXW : X < W.heap.size := hXr.lt
    have hRW : Blk W H #[.slice none 0 0, .string ⟨#[]⟩, .slice none 0 0] 31 := (hI.keep H (by omega) (by omega)).trans ((hb4.block H (by omega)).trans hR3)
    have hDW : D < W.heap.size := (Array.getElem?_eq_some_iff.1 hK).1
    have hL3W : 0 < L → ∃ g, A3 = some ⟨g, 0, none⟩ ∧ g < X ∧ ∀ j u, (ucells t.log)[j]? = some u → W.cell? ⟨g, j, none⟩ = some u := fun h0 => by
      have hX3 := HX3.out
      obtain ⟨g, e, hgl, hc⟩ := row_later (W := W) ho3 (fun k hkl => (hI.keep k (by omega) (by omega)).trans (hb4.block k (by omega))) (by have := HL3.out; omega)
      exact ⟨g, e, by omega, hc⟩
    have hcp3 := row_cap1 ho3
    clear hI
    obtain ⟨Y, hY⟩ : ∃ Y, W.heap.size = Y := ⟨_, rfl⟩
    have hb7 : Below Y W ((W.alloc (.cells #[.slice A3 L3 c3] 55)).alloc (.cells #[.int .i64 3] 3)) := ((Below.refl Y W).alloc (by omega) _).alloc (by simp; omega) _
    have hX7 := (hXr.alloc (.cells #[.slice A3 L3 c3] 55)).alloc (.cells #[.int .i64 3] 3)
    have hR7 := (hRW.alloc (.cells #[.slice A3 L3 c3] 55)).alloc (.cells #[.int .i64 3] 3)
    have ho7 := (hor.alloc (.cells #[.slice A3 L3 c3] 55)).alloc (.cells #[.int .i64 3] 3)
    have hy7 : Blk ((W.alloc (.cells #[.slice A3 L3 c3] 55)).alloc (.cells #[.int .i64 3] 3)) Y #[.slice A3 L3 c3] 55 := by
      have := (Blk.new W #[.slice A3 L3 c3] 55).alloc (.cells #[.int .i64 3] 3)
      rwa [hY] at this
    have hz7 : Blk ((W.alloc (.cells #[.slice A3 L3 c3] 55)).alloc (.cells #[.int .i64 3] 3)) (Y + 1) #[.int .i64 3] 3 := by
      have := Blk.new (W.alloc (.cells #[.slice A3 L3 c3] 55)) #[.int .i64 3] 3
      rwa [World.size_alloc, hY] at this
    have hs7 : ((W.alloc (.cells #[.slice A3 L3 c3] 55)).alloc (.cells #[.int .i64 3] 3)).heap.size = Y + 2 := by simp [hY]
    have hb07 : Below w.heap.size w ((W.alloc (.cells #[.slice A3 L3 c3] 55)).alloc (.cells #[.int .i64 3] 3)) := hbW.trans (hb7.mono (by omega))
    have hD7 : ((W.alloc (.cells #[.slice A3 L3 c3] 55)).alloc (.cells #[.int .i64 3] 3)).heap[D]? = some (.deferred (some [])) := (hb7.block D (by omega)).trans hK
    simp only [hY]
    obtain ⟨W7, hW7⟩ : ∃ u, (W.alloc (.cells #[.slice A3 L3 c3] 55)).alloc (.cells #[.int .i64 3] 3) = u := ⟨_, rfl⟩
    rw [hW7] at hb7 hX7 hR7 ho7 hy7 hz7 hs7 hb07 hD7 ⊢
    obtain ⟨N2, hN2⟩ : ∃ N, Y + 2 = N := ⟨_, rfl⟩
    rw [hN2] at hs7
    have hy7 := hy7.cell 0
    have hz7 := hz7.cell 0
    simp at hy7 hz7
    have HROL := Lib.hid (show 0 < L → ∃ g, A3 = some ⟨g, 0, none⟩ ∧ g < X ∧ ∀ W, KeepX N2 X W7 W → ∀ j u, (ucells t.log)[j]? = some u → W.cell? ⟨g, j, none⟩ = some u from fun h0 => by
      obtain ⟨g, e, hgl, hc⟩ := hL3W h0
      exact ⟨g, e, hgl, fun W' hk j u hu => (hk.cell (p := ⟨g, j, none⟩) (by simp only; omega) (by simp only; omega)).trans ((hb7.cell (p := ⟨g, j, none⟩) (by simp only; omega)).trans (hc j u hu))⟩)
    rw [hY] at hXW hDW hsW
    clear hL3W hb7 hXr hor hRW hK hbW hW7 hY hX4 hb4 hR3 hy4 hz4 hs4 hb0 HROW hcp2
    refine (wpIn_wide (n := 6)).1 ?_
    refine wpIn_range_from (α := _root_.Fin L) (N := L) rfl (by decide) (gf := 61) (lb := #[.pointer (some ⟨Y, 0, none⟩), .pointer (some ⟨Y + 1, 0, none⟩)]) rfl trivial (enters_of Tryd.func61 (by kernel_rfl) rfl) (encs := fun x => piece A3 3 x.1)
      (chunk_stops W7 N2 X Y 3 L c3 A3 (by omega) (by omega) (by omega) (by omega) (by rw [HL3.out]; exact hy7) hz7 (by omega) (by omega) (by omega) (by rw [HL3.out]; exact hcp3)) ?lKt ?lKb (Below.refl _ _) (fun _ => rfl)
      (fun pre W => LS w W7 N2 X 39 3 #[.slice Ar M cr, .string HD, .slice none 0 0] 2 pre.length (ucells (pre.map fun x => t.log.getD x.1 ⟨[], [], []⟩)) W)
      (fun _ _ _ => False) ?lI ?lIx ?l0 ?lround ?ldone ?lstop
    case lKt => exact fun h k => h.trans k
    case lKb => exact fun W y o o' hy ho hc hk => KeepX.putObj (by omega) W y o' hy
    case lI => exact fun pre W W' row h hg hr => h.kept (by omega) hg (fun r e => by have := hr r e; rw [hs7] at this; exact this)
    case lIx => exact fun c s W W' row h _ _ => h
    case l0 => exact ⟨hb07, KeepX.refl _ _ _, by omega, _, _, by simpa using hX7, World.ownsRow_nil _ _ _ _⟩
    case lround =>
      rintro y pre x W hIW hlt
      have hxl : x.1 < t.log.length := by rw [HL.out]; exact x.2
      obtain ⟨g, rfl, hgX0, hcs⟩ := HROL.out (by omega)
      obtain ⟨k0, k1, k2⟩ := ucells_at t.log x.1 hxl
      have hmap : t.log.getD x.1 ⟨[], [], []⟩ = t.log[x.1] := by rw [List.getD_eq_getElem?_getD, List.getElem?_eq_getElem hxl]; rfl
      obtain ⟨q, hq⟩ : ∃ q, x.1 * 3 = q := ⟨_, rfl⟩
      obtain ⟨S0, hS0⟩ : ∃ s, mk t.log[x.1].name = s := ⟨_, rfl⟩
      obtain ⟨S1, hS1⟩ : ∃ s, mk t.log[x.1].old = s := ⟨_, rfl⟩
      obtain ⟨S2, hS2⟩ : ∃ s, mk t.log[x.1].new = s := ⟨_, rfl⟩
      have hsn : ucells ((pre ++ [x]).map fun x => t.log.getD x.1 ⟨[], [], []⟩) = ucells (pre.map fun x => t.log.getD x.1 ⟨[], [], []⟩) ++ [.string S0, .string S1, .string S2] := by
        rw [List.map_append, List.map_singleton, hmap, ucells_snoc', hS0, hS1, hS2]
      rw [hq, hS0] at k0
      rw [hq, hS1] at k1
      rw [hq, hS2] at k2
      dsimp only [piece]
      simp only [Option.map_some, add_lit', Nat.zero_add, hq]
      gi_wp2
      refine ⟨(KeepsOthers.refl _).from _, ?_⟩
      rintro l' o' hl' ⟨o, ho', hc', _⟩
      rw [hs7] at hl'
      have hKW : KeepX N2 X W (W.putObj l' o') := KeepX.putObj (w := W7) (by omega) W l' o' (by omega)
      have hI2 := hIW.kept (by omega) (grownBy_putObj' W l' o') (fun r e => by cases e; exact ⟨hl', o, ho', hc'⟩)
      obtain ⟨W2, hW2⟩ : ∃ u, W.putObj l' o' = u := ⟨_, rfl⟩
      rw [hW2] at hKW hI2 ⊢
      have d0 := hcs W2 hI2.keep _ _ k0
      have d1 := hcs W2 hI2.keep _ _ k1
      have d2 := hcs W2 hI2.keep _ _ k2
      rw [hs7]
      have HFIN := Lib.hid (show ∀ W', KeepsFrom N2 W2.drew W' ∧ KeepX N2 X W2.drew W' ∧ LS w W7 N2 X 39 3 #[.slice Ar M cr, .string HD, .slice none 0 0] 2 (pre.length + 1) (ucells (pre.map fun x => t.log.getD x.1 ⟨[], [], []⟩) ++ [.string S0, .string S1, .string S2]) W' →
          KeepsFrom N2 W2 W' ∧ KeepX N2 X W W' ∧ LS w W7 N2 X 39 3 #[.slice Ar M cr, .string HD, .slice none 0 0] 2 (pre ++ [x]).length (ucells ((pre ++ [x]).map fun x => t.log.getD x.1 ⟨[], [], []⟩)) W' from
        fun W' h => ⟨⟨h.1.size, h.1.same⟩, hKW.trans h.2.1, by rw [hsn, List.length_append]; exact h.2.2⟩)
      have hI2 := hI2.kept (W' := W2.drew) (row := none) (by omega) ⟨rfl, rfl, rfl, Nat.le_refl _, fun _ _ _ => rfl⟩ (fun r e => by cases e)
      have d0 : W2.drew.cell? ⟨g, q, none⟩ = some (.string S0) := d0
      have d1 : W2.drew.cell? ⟨g, q + 1, none⟩ = some (.string S1) := d1
      have d2 : W2.drew.cell? ⟨g, q + 2, none⟩ = some (.string S2) := d2
      obtain ⟨W5, hW5⟩ : ∃ u, W2.drew = u := ⟨_, rfl⟩
      rw [hW5] at HFIN hI2 d0 d1 d2
      obtain ⟨xs, hxs⟩ : ∃ xs, ucells (pre.map fun x => t.log.getD x.1 ⟨[], [], []⟩) = xs := ⟨_, rfl⟩
      obtain ⟨c0, hc0⟩ : ∃ n, pre.length = n := ⟨_, rfl⟩
      rw [hxs, hc0] at hI2
      rw [hxs, hc0] at HFIN
      rw [hc0] at hlt
      obtain ⟨A, cc, hB, ho⟩ := hI2.row
      have x0 := hB.cell 2
      simp at x0
      have hNW := hI2.size
      have hXl : X < W5.heap.size := by omega
      have hgl : g < W5.heap.size := by omega
      have hgX : g ≠ X := by omega
      have hgA : (Value.slice A c0 cc).ownBlock ≠ some g := fun e => by have := (ho.lt g e).1; omega
      have hXN : X < N2 := by omega
      obtain ⟨Z, hZ⟩ : ∃ Z, W5.heap.size = Z := ⟨_, rfl⟩
      clear hsW hIW hW2 hKW hcs k0 k1 k2 hsn hmap hq hS0 hS1 hS2 ho' hc' hl' hxs hc0 hxl hX7 hR7 ho7 hy7 hz7 hs7 hb07 hD7
      gi_wp2
      refine wpIn_region_SR 15 (fun w' => w'.cell? ⟨g, q, none⟩ = some (.string S0) ∧ w'.cell? ⟨g, q + 1, none⟩ = some (.string S1) ∧ w'.cell? ⟨g, q + 2, none⟩ = some (.string S2)) (fun w' => w'.cell? ⟨X, 2, none⟩ = some (.slice A c0 cc)) (by kernel_rfl) (by kernel_rfl) (fun ⟨_, _, h⟩ => h) ?_
      change wpAnyS _ _ _ _ _ _ _ _ _ _ W2.drew
      rw [hW5]
      have HE : ∀ L : Array Bool, HeldS 15 (fun w' => w'.cell? ⟨g, q, none⟩ = some (.string S0) ∧ w'.cell? ⟨g, q + 1, none⟩ = some (.string S1) ∧ w'.cell? ⟨g, q + 2, none⟩ = some (.string S2)) (fun w' => w'.cell? ⟨X, 2, none⟩ = some (.slice A c0 cc)) L W5 := fun L => ⟨⟨d0, d1, d2⟩, fun _ => x0⟩
      refine wpAnyS_take (i := 0) (v := .pointer (some ⟨X, 2, none⟩)) rfl (by decide) (by kernel_rfl) (by kernel_rfl) (by kernel_rfl) (fun c a w h => h) (.inl ⟨by kernel_rfl, fun w' hS => ?_⟩) (HE _) ?_
      · have hS0 := hS.1; have hS1 := hS.2.1; have hS2 := hS.2.2; go_simp
      try go_simp
      refine wpAnyS_take2 (i := 1) (v := .slice A c0 cc) rfl (by decide) rfl (by kernel_rfl) (by kernel_rfl) (by kernel_rfl) (by kernel_rfl) (by kernel_rfl) (fun c a w h => h) (.inl ⟨by kernel_rfl, fun w' hS => ?_⟩) (HE _) ?_
      · have hS0 := hS.2; go_simp
      try go_simp
      refine wpAnyS_take (i := 2) (v := .slice (some ⟨g, q, none⟩) 3 3) rfl (by decide) (by kernel_rfl) (by kernel_rfl) (by kernel_rfl) (fun c a w h => h) (.inl ⟨by kernel_rfl, fun w' hS => ?_⟩) (HE _) ?_
      · have hS0 := hS.1; have hS1 := hS.2.1; have hS2 := hS.2.2; go_simp
      try go_simp
      refine wpAnyS_take (i := 3) (v := .pointer (some ⟨g, q, none⟩)) rfl (by decide) (by kernel_rfl) (by kernel_rfl) (by kernel_rfl) (fun c a w h => h) (.inl ⟨by kernel_rfl, fun w' hS => ?_⟩) (HE _) ?_
      · have hS0 := hS.1; have hS1 := hS.2.1; have hS2 := hS.2.2; go_simp
      try go_simp
      refine wpAnyS_take (i := 4) (v := .string S0) rfl (by decide) (by kernel_rfl) (by kernel_rfl) (by kernel_rfl) (fun c a w h => h) (.inl ⟨by kernel_rfl, fun w' hS => ?_⟩) (HE _) ?_
      · have hS0 := hS.1; have hS1 := hS.2.1; have hS2 := hS.2.2; go_simp
      try go_simp
      refine wpAnyS_take (i := 5) (v := .slice (some ⟨g, q, none⟩) 3 3) rfl (by decide) (by kernel_rfl) (by kernel_rfl) (by kernel_rfl) (fun c a w h => h) (.inl ⟨by kernel_rfl, fun w' hS => ?_⟩) (HE _) ?_
      · have hS0 := hS.1; have hS1 := hS.2.1; have hS2 := hS.2.2; go_simp
      try go_simp
      refine wpAnyS_take (i := 6) (v := .pointer (some ⟨g, q + 1, none⟩)) rfl (by decide) (by kernel_rfl) (by kernel_rfl) (by kernel_rfl) (fun c a w h => h) (.inl ⟨by kernel_rfl, fun w' hS => ?_⟩) (HE _) ?_
      · have hS0 := hS.1; have hS1 := hS.2.1; have hS2 := hS.2.2; go_simp
      try go_simp
      refine wpAnyS_take (i := 7) (v := .string S1) rfl (by decide) (by kernel_rfl) (by kernel_rfl) (by kernel_rfl) (fun c a w h => h) (.inl ⟨by kernel_rfl, fun w' hS => ?_⟩) (HE _) ?_
      · have hS0 := hS.1; have hS1 := hS.2.1; have hS2 := hS.2.2; go_simp
      try go_simp
      refine wpAnyS_take (i := 8) (v := .slice (some ⟨g, q, none⟩) 3 3) rfl (by decide) (by kernel_rfl) (by kernel_rfl) (by kernel_rfl) (fun c a w h => h) (.inl ⟨by kernel_rfl, fun w' hS => ?_⟩) (HE _) ?_
      · have hS0 := hS.1; have hS1 := hS.2.1; have hS2 := hS.2.2; go_simp
      try go_simp
      refine wpAnyS_take (i := 9) (v := .pointer (some ⟨g, q + 2, none⟩)) rfl (by decide) (by kernel_rfl) (by kernel_rfl) (by kernel_rfl) (fun c a w h => h) (.inl ⟨by kernel_rfl, fun w' hS => ?_⟩) (HE _) ?_
      · have hS0 := hS.1; have hS1 := hS.2.1; have hS2 := hS.2.2; go_simp
      try go_simp
      refine wpAnyS_take (i := 10) (v := .string S2) rfl (by decide) (by kernel_rfl) (by kernel_rfl) (by kernel_rfl) (fun c a w h => h) (.inl ⟨by kernel_rfl, fun w' hS => ?_⟩) (HE _) ?_
      · have hS0 := hS.1; have hS1 := hS.2.1; have hS2 := hS.2.2; go_simp
      try go_simp
      refine wpAnyS_take (i := 11) (v := .agg #[.string S0, .string S1, .string S2]) rfl (by decide) (by kernel_rfl) (by kernel_rfl) (by kernel_rfl) (fun c a w h => h) (.inl ⟨by kernel_rfl, fun w' hS => ?_⟩) (HE _) ?_
      · have hS0 := hS.1; have hS1 := hS.2.1; have hS2 := hS.2.2; go_simp
      try go_simp
      refine wpAnyS_all (rs := [12]) (by kernel_rfl) (by simp) ?_
      intro i hi
      simp only [List.mem_cons, List.not_mem_nil, or_false] at hi
      subst hi
      unfold wpOp
      go_simp
      have hN3 := World.news_of_block (cs := #[.string S0, .string S1, .string S2]) (heap_alloc_new W5 (.cells #[.string S0, .string S1, .string S2] 39))
      have ho3 : (W5.alloc (.cells #[.string S0, .string S1, .string S2] 39)).ownsRow N2 39 3 (.slice A c0 cc) c0 xs := World.ownsRow.alloc (w := W5) ho _
      have hg3 : W5.grownBy (W5.alloc (.cells #[.string S0, .string S1, .string S2] 39)) none := World.grownBy_alloc W5 _ none
      have HE3 : ∀ L : Array Bool, HeldS 15 (fun w' => w'.cell? ⟨g, q, none⟩ = some (.string S0) ∧ w'.cell? ⟨g, q + 1, none⟩ = some (.string S1) ∧ w'.cell? ⟨g, q + 2, none⟩ = some (.string S2)) (fun w' => w'.cell? ⟨X, 2, none⟩ = some (.slice A c0 cc)) L (W5.alloc (.cells #[.string S0, .string S1, .string S2] 39)) := fun L => ⟨⟨(cell_old W5 _ ⟨g, q, none⟩ hgl).trans d0, (cell_old W5 _ ⟨g, q + 1, none⟩ hgl).trans d1, (cell_old W5 _ ⟨g, q + 2, none⟩ hgl).trans d2⟩, fun _ => (cell_old W5 _ ⟨X, 2, none⟩ hXl).trans x0⟩
      have d0' := (HE3 #[]).1.1
      have d1' := (HE3 #[]).1.2.1
      have d2' := (HE3 #[]).1.2.2
      have hz3 : W5.heap.size = Z := hZ
      have hNz : N2 ≤ (W5.alloc (.cells #[.string S0, .string S1, .string S2] 39)).heap.size := Nat.le_trans hNW hg3.size
      rw [hz3] at hN3
      obtain ⟨W3, hW3⟩ : ∃ u, W5.alloc (.cells #[.string S0, .string S1, .string S2] 39) = u := ⟨_, rfl⟩
      rw [hW3] at hN3 ho3 hg3 HE3 hNz d0' d1' d2'
      try rw [hz3]
      rw [hW3]
      clear hW3 hz3
      first | refine .inl ⟨HE3 _, ?_⟩ | refine ⟨HE3 _, ?_⟩
      refine wpAnyS_all (rs := [13]) (by kernel_rfl) (by simp) ?_
      intro i hi
      simp only [List.mem_cons, List.not_mem_nil, or_false] at hi
      subst hi
      refine wpOp_of rfl rfl (wp_append_lies (P := Tryd.prog) W3 (.tmp 80) (.tmp 91) 29 rfl N2 39 i39 _ 3 48 Tryd.underlying29 h390 h391 h392 h393 (by rfl) (by decide) (.slice A c0 cc) c0 xs (by rfl) ho3 ⟨Z, 0, none⟩ 1 1 [.string S0, .string S1, .string S2] (by rfl) (by rfl) hN3 (by simp [Value.oneCell']) (by omega) (by unfold maxLen; omega) (by omega) hNz W3.heap.size rfl ?_)
      intro g4 c4 W4x ho4 hg4 _ _
      have hR4 := LS.step hI2 hwX hXN (by decide) hB ho hg3 ho4 hg4
      have hB4 := LS.blk hB ho (by decide) hg3 hg4
      have x4 := hB4.cell 2
      have f4 := hB4.frozen 2
      simp at x4
      have hold : ∀ {p : Nat} {v : Value}, W3.cell? ⟨g, p, none⟩ = some v → W4x.cell? ⟨g, p, none⟩ = some v := fun {p v} hv => (World.cell?_of_block (hg4.block g (Nat.lt_of_lt_of_le hgl hg3.size) (fun e => hgA e.symm))).trans hv
      have HE4 : ∀ L : Array Bool, HeldS 15 (fun w' => w'.cell? ⟨g, q, none⟩ = some (.string S0) ∧ w'.cell? ⟨g, q + 1, none⟩ = some (.string S1) ∧ w'.cell? ⟨g, q + 2, none⟩ = some (.string S2)) (fun w' => w'.cell? ⟨X, 2, none⟩ = some (.slice A c0 cc)) L W4x := fun L => ⟨⟨hold d0', hold d1', hold d2'⟩, fun _ => x4⟩
      clear HE HE3
      refine ⟨HE4 _, ?_⟩
      try go_simp
      refine wpAnyS_take (i := 14) (v := .pointer (some ⟨X, 2, none⟩)) rfl (by decide) (by kernel_rfl) (by kernel_rfl) (by kernel_rfl) (fun c a w h => h) (.inl ⟨by kernel_rfl, fun w' hS => ?_⟩) (HE4 _) ?_
      · have hS0 := hS.1; have hS1 := hS.2.1; have hS2 := hS.2.2; go_simp
      try go_simp
      refine wpAnyS_all (rs := [15]) (by kernel_rfl) (by simp) ?_
      intro i hi
      simp only [List.mem_cons, List.not_mem_nil, or_false] at hi
      subst hi
      unfold wpOp
      go_simp
      have HE5 : ∀ L : Array Bool, L.getD 15 false = true → HeldS 15 (fun w' => w'.cell? ⟨g, q, none⟩ = some (.string S0) ∧ w'.cell? ⟨g, q + 1, none⟩ = some (.string S1) ∧ w'.cell? ⟨g, q + 2, none⟩ = some (.string S2)) (fun w' => w'.cell? ⟨X, 2, none⟩ = some (.slice A c0 cc)) L (W4x.setCell ⟨X, 2, none⟩ (.slice (some ⟨g4, 0, none⟩) (c0 + 1) c4)) := fun L hL => ⟨⟨(World.cell?_of_block (a := ⟨g, q, none⟩) (Below.heap_setCell W4x ⟨X, 2, none⟩ _ g hgX)).trans (hold d0'), (World.cell?_of_block (a := ⟨g, q + 1, none⟩) (Below.heap_setCell W4x ⟨X, 2, none⟩ _ g hgX)).trans (hold d1'), (World.cell?_of_block (a := ⟨g, q + 2, none⟩) (Below.heap_setCell W4x ⟨X, 2, none⟩ _ g hgX)).trans (hold d2')⟩, fun e => by rw [hL] at e; cases e⟩
      first | refine .inl ⟨HE5 _ (by kernel_rfl), ?_⟩ | refine ⟨HE5 _ (by kernel_rfl), ?_⟩
      refine wpAnyS_done (by kernel_rfl) ?_ _
      exact HFIN.out _ hR4
    case lstop => exact fun D c pre W _ _ h _ => h.elim
    case ldone =>
      rintro D2 xs W9 hD2 rfl hI9 hK9
      have hall : (List.finRange L).map (fun x => t.log.getD x.1 ⟨[], [], []⟩) = t.log := by
        apply List.ext_getElem
        · rw [List.length_map, List.length_finRange, HL.out]
        · intro i h1 h2
          rw [List.getElem_map, List.getElem_finRange, List.getD_eq_getElem?_getD]
          simp [List.getElem?_eq_getElem h2]
      rw [hall, List.length_finRange] at hI9
      rw [hs7] at hD2
      obtain ⟨Al, cl, hX9, hol⟩ := hI9.row
      simp at hX9
      have hb9 := hI9.below
      have hs9 := hI9.size
      have hg79 : W7.grownBy W9 (some X) := ⟨hb9.os.trans hb07.os.symm, hb9.tape.trans hb07.tape.symm, hb9.output.trans hb07.output.symm, by omega, fun k hk hne => hI9.keep k (by omega) (fun e => hne (by rw [e]))⟩
      have hor9 := ho7.kept hg79 (.inr (own_ne_blk ho7 hX7 (by decide)))
      have hR9 : Blk W9 H #[.slice none 0 0, .string ⟨#[]⟩, .slice none 0 0] 31 := (hI9.keep H (by omega) (by omega)).trans hR7
      have hD9 : W9.heap[D]? = some (.deferred (some [])) := (hI9.keep D (by omega) (by omega)).trans hD7
      have hm9 := (hb9.cell (p := ⟨0, 0, none⟩) (cell_lt hm)).trans hm
      have hbh := HG.out.head
      have KR := fun (a : t.refs.length = M) (b : t.log.length = L) => tright_ok Ar cr t.refs t.head Al cl t.log m W9 HG.out.sorted (by omega) (fun r hr => ⟨by have := good_len (HG.out.refs r hr).1; omega, HG.out.refs r hr⟩) (RefsAt.of_row (by rw [a]; exact hor9)) (by have := good_len (branch_good hbh); omega) hbh (by omega)
        (fun u hu => ⟨by have := good_len (HG.out.log u hu).1; omega, HG.out.log u hu⟩) (Upds.of_row (by rw [b]; exact hol)) hm9
      have KR := KR HM.out HL.out
      rw [HM.out, HL.out, HHD.out] at KR
      have x0 := hX9.cell 0
      have x1 := hX9.cell 1
      have x2 := hX9.cell 2
      simp at x0 x1 x2
      have hHW9 : H < W9.heap.size := hR9.lt
      clear hbh hall hI9 hg79 ho7 hX7 hR7 hD7 hb07 hs7 hy7 hz7 HROL hs9
      go_wp2_with (go_at_call 38; (with_reducible refine KR.mono ?_); rintro e w10 ⟨rfl, hb10⟩; have x0' := (hX9.below hb10).cell 0; have x1' := (hX9.below hb10).cell 1; have x2' := (hX9.below hb10).cell 2; have r0' := (hR9.below hb10).cell 0; have r1' := (hR9.below hb10).cell 1; have r2' := (hR9.below hb10).cell 2; have f0' := (hR9.below hb10).frozen 0; have f1' := (hR9.below hb10).frozen 1; have f2' := (hR9.below hb10).frozen 2; simp at x0' x1' x2' r0' r1' r2')
      have hR10 := hR9.below hb10
      have hH1 := hR10.set 0 (.slice Ar M cr)
      have hH2 := hH1.set 1 (.string HD)
      have hH3 := hH2.set 2 (.slice Al L cl)
      have hT9 : TblAt W9 t (.agg #[.slice Ar M cr, .string HD, .slice Al L cl]) := by
        have e1 := HM.out
        have e2 := HL.out
        refine ⟨Ar, cr, Al, cl, by rw [e1, e2, HHD.out], fun e => by rw [e1]; exact (row_none' hor9 e).1, fun e => by rw [e2]; exact (row_none' hol e).1, RefsAt.of_row (by rw [e1]; exact hor9), Lies.of_row hol, Typed.of_row hor9, Typed.of_row hol⟩
      have hT11 := (((hT9.below hb10).set hR10 0 (.slice Ar M cr)).set hH1 1 (.string HD)).set hH2 2 (.slice Al L cl)
      have hB11 := (((hb9.trans (hb10.mono hb9.size)).setCell (p := ⟨H, 0, none⟩) hwH (.slice Ar M cr)).setCell (p := ⟨H, 1, none⟩) hwH (.string HD)).setCell (p := ⟨H, 2, none⟩) hwH (.slice Al L cl)
      have hne1 : D ≠ H := by omega
      have hne2 : D2 ≠ H := by omega
      have hD2l : D2 < W9.heap.size := (Array.getElem?_eq_some_iff.1 hK9).1
      have hDl : D < W9.heap.size := (Array.getElem?_eq_some_iff.1 hD9).1
      have hset : ∀ k, k ≠ H → (((w10.setCell ⟨H, 0, none⟩ (.slice Ar M cr)).setCell ⟨H, 1, none⟩ (.string HD)).setCell ⟨H, 2, none⟩ (.slice Al L cl)).heap[k]? = w10.heap[k]? := fun k hk =>
        (Below.heap_setCell _ _ _ k hk).trans ((Below.heap_setCell _ _ _ k hk).trans (Below.heap_setCell _ _ _ k hk))
      have hK11 := (hset D2 hne2).trans ((hb10.block D2 hD2l).trans hK9)
      have hD11 := (hset D hne1).trans ((hb10.block D hDl).trans hD9)
      obtain ⟨W11, hW11⟩ : ∃ u, ((w10.setCell ⟨H, 0, none⟩ (.slice Ar M cr)).setCell ⟨H, 1, none⟩ (.string HD)).setCell ⟨H, 2, none⟩ (.slice Al L cl) = u := ⟨_, rfl⟩
      rw [hW11] at hH3 hT11 hB11 hK11 hD11 ⊢
      have hDD : D ≠ D2 := by omega
      have hD12 : (W11.putObj D2 (.deferred none)).heap[D]? = some (.deferred (some [])) := (World.putObj_heap_other hDD).trans hD11
      have hH4 : Blk ((W11.putObj D2 (.deferred none)).putObj D (.deferred none)) H _ 31 := (World.putObj_heap_other (Ne.symm hne1)).trans ((World.putObj_heap_other (Ne.symm hne2)).trans hH3)
      have hB12 := (hB11.trans (belowK_b (w := w) (Nat.le_refl _) W11 D2 _ (.deferred none) (by omega) hK11 rfl rfl)).trans (belowK_b (w := w) (Nat.le_refl _) (W11.putObj D2 (.deferred none)) D _ (.deferred none) (by omega) hD12 rfl rfl)
      have hT12 := (hT11.putD (o' := .deferred none) hK11 rfl).putD (o' := .deferred none) hD12 rfl
      refine ⟨by simp, .inl ⟨_, _, rfl, run_takeDeferred hK11, ?_⟩⟩
      refine ⟨by simp, .inl ⟨_, _, rfl, run_takeDeferred hD12, ?_⟩⟩
      obtain ⟨W12, hW12⟩ : ∃ u, (W11.putObj D2 (.deferred none)).putObj D (.deferred none) = u := ⟨_, rfl⟩
      rw [hW12] at hH4 hB12 hT12 ⊢
      have z0 := hH4.cell 0
      have z1 := hH4.cell 1
      have z2 := hH4.cell 2
      simp at z0 z1 z2
      refine ⟨.tuple #[.agg #[.slice Ar M cr, .string HD, .slice Al L cl], .int .i64 0], ?_, _, rfl, hT12, hB12⟩
      rw [results_cell_tmp Tryd.results17]
      go_simp
  case hstop => exact fun D c pre W _ _ h _ => h.elim
end Go.Proofs.YtlkfnhcnfjdgbaaDoor
