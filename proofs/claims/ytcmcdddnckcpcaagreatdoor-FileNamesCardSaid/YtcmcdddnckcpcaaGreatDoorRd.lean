/- file.Size, Free, Names, walked. -/
import Derived.Test.YtcmcdddnckcpcaaGreatDoorWr
import Derived.Test.YtcmcdddnckcpcaaGreatDoorIk
import Derived.Test.YtcmcdddnckcpcaaGreatDoorSg
import Derived.BigQuiet
namespace Go.Proofs.YtcmcdddnckcpcaaGreatDoor
open Go.RowKit Go.Maps
def sizeW (F : List FileM) (name : Bs) : Nat := if goodF name then ((fileOf F name).map (·.size)).getD 0 else 0
theorem findV_form (ad : AdM) (F : List FileM) (name : Bs) : ∃ (a : Int) (A : Option Addr) (k c : Nat), findV ad F name = .agg #[.int .i64 a, .int .i64 (sizeW F name : Nat), .slice A k c] := by
  unfold findV sizeW
  split
  · cases hf : fileOf F name with
    | none => exact ⟨0, none, 0, 0, rfl⟩
    | some f => exact ⟨f.entry, _, _, _, rfl⟩
  · exact ⟨0, none, 0, 0, rfl⟩
set_option maxRecDepth 100000 in
set_option maxHeartbeats 2000000 in
theorem fsize_any (X : List Nat) (S D Lg M : Nat) (m : StoM) (name : Bs) (w : World) (h : Sto w X S D Lg M m) (h1 : m.off = false) (h2 : m.ds.off = false) (hn : name.length ≤ maxLen) :
    Calls Tryz.prog 18 #[.pointer (some ⟨S, 0, none⟩), .string (mk name)] w fun e w' => e = .returned (.tuple #[.int .i64 (sizeW m.F name : Nat), .int .i64 (findE m.F name : Nat)]) ∧ Below w.heap.size w w' := by
  obtain ⟨ad, hFM, hEX⟩ := h.map
  have KF := find_ok X S D Lg M m ad name w h hFM h1 h2 hn
  obtain ⟨a, A, k, c, hv⟩ := findV_form ad m.F name
  rw [hv] at KF
  obtain ⟨NM, hNM⟩ : ∃ q, mk name = q := ⟨_, rfl⟩
  obtain ⟨z, hz⟩ : ∃ q, sizeW m.F name = q := ⟨_, rfl⟩
  obtain ⟨N, hN⟩ : ∃ q, findE m.F name = q := ⟨_, rfl⟩
  rw [hNM, hz, hN] at KF
  rw [hNM, hz, hN]
  clear h h1 h2 hn hFM hEX hv hNM hz hN
  go_enter Tryz.func18, Tryz.ntmps18
  go_wp2_with (first | (go_at_call 37; refine KF.mono ?_; rintro e w1 ⟨rfl, hb1⟩; have HB1 := Lib.hid hb1; clear hb1))
  go_ret2
  exact ⟨rfl, HB1.out.alloc HB1.out.size _⟩
set_option maxRecDepth 100000 in
set_option maxHeartbeats 2000000 in
theorem ffree_any (X : List Nat) (S D Lg M : Nat) (m : StoM) (w : World) (h : Sto w X S D Lg M m) (hT : m.T.length ≤ 4096) (hm : m.most ≤ 1000) (hF : m.F.length ≤ 1000) :
    Calls Tryz.prog 19 #[.pointer (some ⟨S, 0, none⟩)] w fun e w' => e = .returned (.tuple #[.int .i64 (m.T.count false : Nat), .int .i64 ((m.most : Int) - (m.F.length : Int))]) ∧ Below w.heap.size w w' := by
  obtain ⟨ad, hFM, _⟩ := h.map
  have KS := fun w => sfree_any m.T w hT
  have x2 := h.blk.cell 2
  have x3 := h.blk.cell 3
  have x4 := h.blk.cell 4
  have x5 := h.blk.cell 5
  simp only [stoCells] at x2 x3 x4 x5
  simp at x2 x3 x4 x5
  have hl := fun (w' : World) (hb : Below w.heap.size w w') => FM.len (hFM.block (hb.block M hFM.lt))
  unfold spv at KS
  obtain ⟨tl, htl⟩ : ∃ q, m.T.length = q := ⟨_, rfl⟩
  obtain ⟨PB, hPB⟩ : ∃ q, mk (packB m.T) = q := ⟨_, rfl⟩
  obtain ⟨R, hR⟩ : ∃ q, m.T.count false = q := ⟨_, rfl⟩
  obtain ⟨fl, hfl⟩ : ∃ q, m.F.length = q := ⟨_, rfl⟩
  obtain ⟨mo, hmo⟩ : ∃ q, m.most = q := ⟨_, rfl⟩
  rw [htl, hPB, hR] at KS
  rw [htl] at x2
  rw [hPB] at x3
  rw [hmo] at x5 hm
  rw [hR, hfl, hmo]
  rw [hfl] at hF
  simp only [hfl] at hl
  have HX := Lib.hid (And.intro x2 (And.intro x3 (And.intro x4 x5)))
  have HL := Lib.hid hl
  have HWR := Lib.hid (show IntKind.i64.wrap ((mo : Int) - (fl : Int)) = (mo : Int) - (fl : Int) by rw [Go.IntWalk.i64_left, Go.IntWalk.wrap64_in _ (by omega)])
  have HSL := Lib.hid h.blk.lt
  have mixed : Tryz.prog.follows Departure.mixedOrders = true := by kernel_rfl
  clear h hT hFM x2 x3 x4 x5 hl htl hPB hR hfl hmo
  go_enter Tryz.func19, Tryz.ntmps19
  go_upto_region 3 with (fail)
  refine wp_region_held (S := fun w' => Below w.heap.size w w') mixed ?_
  change wpAnyH _ _ _ _ _ _ _ _ w.drew
  have hS0 : Below w.heap.size w w.drew := (Below.refl _ _).drew
  obtain ⟨W0, hW0⟩ : ∃ q, w.drew = q := ⟨_, rfl⟩
  rw [hW0] at hS0 ⊢
  clear hW0
  refine wpAnyH_take (i := 0) (v := .pointer (some ⟨S, 0, none⟩)) rfl (by kernel_rfl) (by kernel_rfl) (by kernel_rfl) (fun c a w h => h) (.inl ⟨by kernel_rfl, fun w' hS => ?_⟩) hS0 ?_
  · clear hS; go_simp
  try go_simp
  refine wpAnyH_take (i := 1) (v := .pointer (some ⟨S, 0, none⟩)) rfl (by kernel_rfl) (by kernel_rfl) (by kernel_rfl) (fun c a w h => h) (.inl ⟨by kernel_rfl, fun w' hS => ?_⟩) hS0 ?_
  · clear hS; go_simp
  try go_simp
  refine wpAnyH_take (i := 2) (v := .pointer (some ⟨S, 2, none⟩)) rfl (by kernel_rfl) (by kernel_rfl) (by kernel_rfl) (fun c a w h => h) (.inl ⟨by kernel_rfl, fun w' hS => ?_⟩) hS0 ?_
  · clear hS; go_simp
  try go_simp
  refine wpAnyH_take (i := 3) (v := .agg #[.int .i64 (tl : Int), .string PB]) rfl (by kernel_rfl) (by kernel_rfl) (by kernel_rfl) (fun c a w h => h) (.inl ⟨by kernel_rfl, fun w' hS => ?_⟩) hS0 ?_
  · have q0 := (hS.cell (p := ⟨S, 2, none⟩) HSL.out).trans HX.out.1; have q1 := (hS.cell (p := ⟨S, 3, none⟩) HSL.out).trans HX.out.2.1; go_simp
  try go_simp
  refine wpAnyH_take (i := 5) (v := .pointer (some ⟨S, 0, none⟩)) rfl (by kernel_rfl) (by kernel_rfl) (by kernel_rfl) (fun c a w h => h) (.inl ⟨by kernel_rfl, fun w' hS => ?_⟩) hS0 ?_
  · clear hS; go_simp
  try go_simp
  refine wpAnyH_take (i := 6) (v := .pointer (some ⟨S, 0, none⟩)) rfl (by kernel_rfl) (by kernel_rfl) (by kernel_rfl) (fun c a w h => h) (.inl ⟨by kernel_rfl, fun w' hS => ?_⟩) hS0 ?_
  · clear hS; go_simp
  try go_simp
  refine wpAnyH_take (i := 7) (v := .pointer (some ⟨S, 5, none⟩)) rfl (by kernel_rfl) (by kernel_rfl) (by kernel_rfl) (fun c a w h => h) (.inl ⟨by kernel_rfl, fun w' hS => ?_⟩) hS0 ?_
  · clear hS; go_simp
  try go_simp
  refine wpAnyH_take (i := 8) (v := .int .i64 (mo : Int)) rfl (by kernel_rfl) (by kernel_rfl) (by kernel_rfl) (fun c a w h => h) (.inl ⟨by kernel_rfl, fun w' hS => ?_⟩) hS0 ?_
  · have q0 := (hS.cell (p := ⟨S, 5, none⟩) HSL.out).trans HX.out.2.2.2; go_simp
  try go_simp
  refine wpAnyH_take (i := 9) (v := .pointer (some ⟨S, 0, none⟩)) rfl (by kernel_rfl) (by kernel_rfl) (by kernel_rfl) (fun c a w h => h) (.inl ⟨by kernel_rfl, fun w' hS => ?_⟩) hS0 ?_
  · clear hS; go_simp
  try go_simp
  refine wpAnyH_take (i := 10) (v := .pointer (some ⟨S, 0, none⟩)) rfl (by kernel_rfl) (by kernel_rfl) (by kernel_rfl) (fun c a w h => h) (.inl ⟨by kernel_rfl, fun w' hS => ?_⟩) hS0 ?_
  · clear hS; go_simp
  try go_simp
  refine wpAnyH_take (i := 11) (v := .pointer (some ⟨S, 4, none⟩)) rfl (by kernel_rfl) (by kernel_rfl) (by kernel_rfl) (fun c a w h => h) (.inl ⟨by kernel_rfl, fun w' hS => ?_⟩) hS0 ?_
  · clear hS; go_simp
  try go_simp
  refine wpAnyH_take (i := 12) (v := .map (some M)) rfl (by kernel_rfl) (by kernel_rfl) (by kernel_rfl) (fun c a w h => h) (.inl ⟨by kernel_rfl, fun w' hS => ?_⟩) hS0 ?_
  · have q0 := (hS.cell (p := ⟨S, 4, none⟩) HSL.out).trans HX.out.2.2.1; go_simp
  try go_simp
  refine wpAnyH_all (rs := [4]) (by kernel_rfl) (by simp) ?_
  intro i hi
  simp only [List.mem_cons, List.not_mem_nil, or_false] at hi
  subst hi
  unfold wpOp
  go_simp
  refine .inl ?_
  go_at_call 47
  refine (KS W0).mono ?_
  rintro e w1 ⟨rfl, hb1⟩
  have hS1 := hS0.trans (hb1.mono hS0.size)
  refine ⟨hS1, ?_⟩
  try go_simp
  clear hS0 hb1 KS
  refine wpAnyH_take (i := 13) (v := .int .i64 (fl : Int)) rfl (by kernel_rfl) (by kernel_rfl) (by kernel_rfl) (fun c a w h => h) (.inl ⟨by kernel_rfl, fun w' hS => ?_⟩) hS1 ?_
  · have q0 := HL.out w' hS; go_simp
  try go_simp
  refine wpAnyH_take (i := 14) (v := .int .i64 ((mo : Int) - (fl : Int))) rfl (by kernel_rfl) (by kernel_rfl) (by kernel_rfl) (fun c a w h => h) (.inl ⟨by kernel_rfl, fun w' hS => ?_⟩) hS1 ?_
  · have q0 := HWR.out; go_simp
  try go_simp
  refine wpAnyH_take (i := 15) (v := .int .i64 (R : Int)) rfl (by kernel_rfl) (by kernel_rfl) (by kernel_rfl) (fun c a w h => h) (.inl ⟨by kernel_rfl, fun w' hS => ?_⟩) hS1 ?_
  · clear hS; go_simp
  try go_simp
  refine wpAnyH_take (i := 16) (v := .int .i64 ((mo : Int) - (fl : Int))) rfl (by kernel_rfl) (by kernel_rfl) (by kernel_rfl) (fun c a w h => h) (.inl ⟨by kernel_rfl, fun w' hS => ?_⟩) hS1 ?_
  · clear hS; go_simp
  try go_simp
  refine wpAnyH_done (by kernel_rfl) ?_ _
  have HS1 := Lib.hid hS1
  clear hS1
  go_wp2
  go_ret2
  exact ⟨rfl, HS1.out⟩
theorem FM.keys {w : World} {M : Nat} {F : List FileM} {Dm : DataW Value} (hown : w.ownsMap Tryz.prog 9 rawE M F.length Dm) (hnd : (F.map (·.name)).Nodup) (hh : ∀ t : Bs, Maps.has Dm (.string t) = (fileOf F t).isSome) (ss : List Bs) (hs : ss.Perm (strKeys Dm)) :
    ss.mergeSort leB = (F.map (·.name)).mergeSort leB := by
  have hm : ∀ x, x ∈ F.map (·.name) ↔ (fileOf F x).isSome = true := fun x => by
    constructor
    · intro hx
      obtain ⟨f, hf, rfl⟩ := List.mem_map.1 hx
      cases hc : fileOf F f.name with
      | some g => rfl
      | none => exact absurd rfl (fileOf_none.1 hc f hf)
    · intro hx
      obtain ⟨f, hf⟩ := Option.isSome_iff_exists.1 hx
      exact List.mem_map.2 ⟨f, fileOf_mem hf, fileOf_name hf⟩
  have h1 : (F.map (·.name)).Perm (strKeys Dm) := Collected.perm (left := fun _ => false) ⟨hnd, fun x => by
    rw [hh x, hm x]; simp⟩ hown keyLaw9 Tryz.underlying9 (fun _ => rfl)
  exact mergeSort_of_perm (hs.trans h1.symm)
theorem own_low {w : World} {B B' e s n : Nat} {v : Value} {xs : List Value} (h : w.ownsRow B e s v n xs) (hB : B' ≤ B) : w.ownsRow B' e s v n xs := by
  refine ⟨h.1, h.2.imp id ?_⟩
  rintro ⟨g, cap, cur, h1, h2, h3⟩
  exact ⟨g, cap, cur, h1, by omega, h3⟩
def namesS (F : List FileM) : List Bs := (F.map (·.name)).mergeSort leB
set_option maxRecDepth 100000 in
set_option maxHeartbeats 2000000 in
theorem fnames_any (X : List Nat) (S D Lg M : Nat) (m : StoM) (w : World) (h : Sto w X S D Lg M m) (hF : m.F.length ≤ 1000) :
    Calls Tryz.prog 22 #[.pointer (some ⟨S, 0, none⟩)] w fun e w' => ∃ A c, e = .returned (.slice A (namesS m.F).length c) ∧ w'.ownsRow w.heap.size 9 1 (.slice A (namesS m.F).length c) (namesS m.F).length ((namesS m.F).map encStr) ∧ Below w.heap.size w w' := by
  obtain ⟨ad, ⟨Dm, hown, hnd, hsz, hat⟩, _⟩ := h.map
  have x4 := h.blk.cell 4
  simp only [stoCells] at x4
  simp at x4
  have hSl := h.blk.lt
  have KK := callsIn_wide.1 (Tryz.maps_Keys_52 (some M) w)
  have KS := callsIn_wide.1 (Tryz.slices_Sorted_keys_51_52 M m.F.length Dm rawE w hown (by rw [hsz]; unfold maxLen; omega) (by omega))
  have hk := fun ss hs => FM.keys hown hnd (fun t => (hat t).1) ss hs
  have HK := Lib.hid hk
  clear h hF hown hnd hsz hat hk
  go_enter Tryz.func22, Tryz.ntmps22
  go_wp2_with (first
    | (go_at_call 52; refine KK.mono ?_; rintro e w1 ⟨rfl, rfl⟩)
    | (go_at_call 51; refine KS.mono ?_; rintro e w2 ⟨v, ss, rfl, hp, hrow, _, hb⟩; have HR := Lib.hid (And.intro hp (And.intro hrow hb)); clear hp hrow hb))
  go_ret
  obtain ⟨hp, hrow, hb⟩ := HR.out
  have hkk := HK.out ss hp
  unfold leB at hkk
  have hlen : ss.length = (namesS m.F).length := by
    have := congrArg List.length hkk
    rw [List.length_mergeSort] at this
    rw [this]; rfl
  rw [hkk, hlen] at hrow
  obtain ⟨A, c, rfl⟩ := row_form hrow
  exact ⟨A, c, rfl, own_low hrow (by simp), (below_alloc w _).trans (hb.mono (by simp))⟩
end Go.Proofs.YtcmcdddnckcpcaaGreatDoor
