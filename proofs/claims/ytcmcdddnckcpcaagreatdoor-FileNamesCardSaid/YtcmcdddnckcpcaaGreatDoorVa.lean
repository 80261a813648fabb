/- file.vacant, walked. -/
import Derived.Test.YtcmcdddnckcpcaaGreatDoorSu
import Derived.Maps.RangeWalk
namespace Go.Proofs.YtcmcdddnckcpcaaGreatDoor
open Go.RowKit Go.Maps
/-- The least entry that is no file's; -1. -/
def vacN (F : List FileM) (most : Nat) : Option Nat := ((List.range most).map fun i => F.any fun f => f.entry == i).findIdx? (· == false)
def vacI (F : List FileM) (most : Nat) : Int := match vacN F most with
  | some i => i
  | none => -1
theorem wpList_next_files {w : World} {ops : Array Oper} {rest : List Oper} {o : Oper} {a : Act} {Q : Exit → Act → World → Prop} (hg : o.guard = none) (it : Operand) (hop : o.op = Op.next it false) (M r n : Nat) (Dm : DataW Value) (ad : AdM) (F : List FileM) (left : Lit → Bool) (cnt : Nat)
    (hit : a.eval it = .pointer (some ⟨r, 0, none⟩)) (h : w.ranges Tryz.prog 9 rawE M r n Dm left cnt) (hF : ∀ t : Bs, Maps.has Dm (.string t) = (fileOf F t).isSome ∧ ∀ z, Dm.atKey (.string t) z = ((fileOf F t).map fun f => DataW.held (inoV ad f)).getD z)
    (hDone : (∀ kl, left kl = false) → wpList Tryz.prog ops Q rest (a.put o.dst (.tuple #[.bool false])) w)
    (hMore : ∀ (f : FileM) (w' : World) (cnt' : Nat), f ∈ F → w'.ranges Tryz.prog 9 rawE M r n Dm (fun z => left z && !z.sameKey (.string f.name)) cnt' → cnt' < cnt → w.grownBy w' (some r) → w'.heap.size = w.heap.size →
      (Instr.entry (.pointer (some ⟨r, 0, none⟩))).run Tryz.prog w' = .ok (.tuple #[.string (mk f.name), inoV ad f]) w' → wpList Tryz.prog ops Q rest (a.put o.dst (.tuple #[.bool true, .string (mk f.name), inoV ad f])) w') :
    wpList Tryz.prog ops Q (o :: rest) a w := by
  refine wpList_plain hg fun K' hK' => ?_
  unfold Oper.wp
  rcases h.next keyLaw9 o.type with ⟨_, hl, hrun⟩ | ⟨key, v, kl, y, w', cnt', hkey, _, hv, hat, hrun, hrg, hlt, hgr, hsz, hen⟩
  · simp [execOp, hop, hit, hrun, Result.andThen]
    exact hK' _ _ (hDone hl)
  · obtain ⟨x, rfl, rfl, _⟩ := Maps.keyOf_str Tryz.underlying9 hkey
    have hhas : Maps.has Dm (.string x) = true := has_true_of_atKey hat
    rw [(hF x).1] at hhas
    obtain ⟨f, hf⟩ := Option.isSome_iff_exists.1 hhas
    have hx := fileOf_name hf
    subst hx
    have hv2 : y.1 = .held v := rawE_inv (ps := y.2) hv
    have h3 := hat (.held inoZ)
    rw [(hF f.name).2, hf, hv2] at h3
    simp only [Option.map_some, Option.getD_some, DataW.held.injEq] at h3
    subst h3
    have hms : (encStr f.name) = .string (mk f.name) := rfl
    rw [hms] at hrun hen
    simp [execOp, hop, hit, hrun, Result.andThen]
    exact hK' _ _ (hMore f w' cnt' (fileOf_mem hf) hrg hlt hgr hsz hen)
def tkB (F : List FileM) (left : Lit → Bool) (most : Nat) : List Value := (List.range most).map fun i => .bool (F.any fun f => f.entry == i && !left (.string f.name))
theorem tkB_length (F : List FileM) (left : Lit → Bool) (most : Nat) : (tkB F left most).length = most := by simp [tkB]
theorem tkB_start (F : List FileM) (left : Lit → Bool) (most : Nat) (h : ∀ f ∈ F, left (.string f.name) = true) : tkB F left most = List.replicate most (.bool false) := by
  unfold tkB
  rw [List.eq_replicate_iff]
  refine ⟨by simp, fun v hv => ?_⟩
  obtain ⟨i, _, rfl⟩ := List.mem_map.1 hv
  rw [List.any_eq_false.2 (fun f hf => by rw [h f hf]; simp)]
theorem name_inj : ∀ {F : List FileM}, (F.map (·.name)).Nodup → ∀ {f g : FileM}, f ∈ F → g ∈ F → f.name = g.name → f = g
  | [], _, _, _, h, _, _ => by cases h
  | a :: F, hnd, f, g, hf, hg, he => by
    rw [List.map_cons, List.nodup_cons] at hnd
    rcases List.mem_cons.1 hf with e1 | hf
    · rcases List.mem_cons.1 hg with e2 | hg
      · rw [e1, e2]
      · exact absurd (show a.name ∈ F.map (·.name) from List.mem_map.2 ⟨g, hg, by rw [← he, e1]⟩) hnd.1
    · rcases List.mem_cons.1 hg with e2 | hg
      · exact absurd (show a.name ∈ F.map (·.name) from List.mem_map.2 ⟨f, hf, by rw [he, e2]⟩) hnd.1
      · exact name_inj hnd.2 hf hg he
theorem tkB_step (F : List FileM) (left : Lit → Bool) (most : Nat) (f : FileM) (hf : f ∈ F) (hnd : (F.map (·.name)).Nodup) (he : f.entry < most) :
    tkB F (fun z => left z && !z.sameKey (.string f.name)) most = (tkB F left most).set f.entry (.bool true) := by
  unfold tkB
  refine List.ext_getElem (by simp) fun i h1 h2 => ?_
  simp only [List.length_map, List.length_range] at h1
  rw [List.getElem_set]
  simp only [List.getElem_map, List.getElem_range]
  by_cases hi : f.entry = i
  · subst hi
    rw [if_pos rfl, List.any_eq_true.2 ⟨f, hf, by simp [Lit.sameKey]⟩]
  · rw [if_neg hi]
    congr 1
    rw [Bool.eq_iff_iff, List.any_eq_true, List.any_eq_true]
    constructor
    · rintro ⟨g, hg, hc⟩
      refine ⟨g, hg, ?_⟩
      simp only [Bool.and_eq_true, Bool.not_eq_true', Bool.and_eq_false_iff, Bool.not_eq_false', beq_iff_eq] at hc ⊢
      obtain ⟨h3, h4⟩ := hc
      refine ⟨h3, h4.elim id fun h5 => ?_⟩
      exfalso
      have hn : g.name = f.name := by simpa [Lit.sameKey] using h5
      have : g = f := name_inj hnd hg hf hn
      subst this
      exact hi h3
    · rintro ⟨g, hg, hc⟩
      refine ⟨g, hg, ?_⟩
      simp only [Bool.and_eq_true, Bool.not_eq_true', beq_iff_eq] at hc ⊢
      exact ⟨hc.1, by rw [hc.2]; rfl⟩
theorem tkB_end (F : List FileM) (left : Lit → Bool) (most : Nat) (h : ∀ kl, left kl = false) : tkB F left most = (List.range most).map fun i => .bool (F.any fun f => f.entry == i) := by
  unfold tkB
  refine List.map_congr_left fun i _ => ?_
  congr 2
  funext f
  rw [h]; simp
theorem made_bool (m : Nat) : madeCells (Value.bool false).cells m = (List.replicate m (Value.bool false)).toArray := by
  refine Array.ext (by simp [madeCells]) fun i h1 h2 => ?_
  simp [madeCells, Value.cells, Nat.mod_one]
theorem info4 : (Tryz.prog.info? 4).map (fun i => (i.zero, i.size, i.bytes)) = some (some (.bool false), 1, 1) := by kernel_rfl
set_option maxHeartbeats 1000000 in
theorem index_any (G cap : Nat) (bs : List Bool) (w : World) (hrow : w.ownsRow 0 4 1 (.slice (some ⟨G, 0, none⟩) bs.length cap) bs.length (bs.map .bool)) :
    Calls Tryz.prog 76 #[.slice (some ⟨G, 0, none⟩) bs.length cap, .bool false] w fun e w' => e = .returned (.int .i64 (match bs.findIdx? (· == false) with | some i => (i : Int) | none => -1)) ∧ w' = w := by
  have hn63 := len63 hrow
  obtain ⟨n, hn⟩ : ∃ q, bs.length = q := ⟨_, rfl⟩
  rw [hn] at hrow hn63 ⊢
  have HN := Lib.hid hn
  have HR := Lib.hid hrow
  obtain ⟨R, hR⟩ : ∃ q, (match bs.findIdx? (· == false) with | some i => (i : Int) | none => -1) = q := ⟨_, rfl⟩
  rw [hR]
  have HRR := Lib.hid hR
  clear hn hrow hR
  go_enter Tryz.func76, Tryz.ntmps76
  go_wp2
  go_loopw [8] (fun i wr => ∃ k : Nat, k ≤ n ∧ i = .int .i64 k ∧ (∀ j (hj : j < bs.length), j < k → bs[j] = true) ∧ wr = w) (fun i _ => n - (intOf i).toNat)
  case atStart => exact ⟨0, Nat.zero_le _, rfl, fun j _ h => absurd h (by omega), rfl⟩
  case round =>
    obtain ⟨k, hk, rfl, hall, rfl⟩ := hrel
    by_cases hlt : k < n
    · have hkl : k < bs.length := by rw [HN.out]; exact hlt
      have d0 := HR.out.cellAt k (by omega)
      rw [List.getElem?_map, List.getElem?_eq_getElem hkl, Option.map_some] at d0
      have hgl := (HR.out.lt G rfl).2
      have k0 : (0 : Int) ≤ (k : Int) := by omega
      have k1 : (k : Int) < (n : Int) := by omega
      have HALL := Lib.hid hall
      cases hb : bs[k] with
      | true =>
        rw [hb] at d0
        have HB := Lib.hid hb
        clear hall hb
        go_wp2
        go_roundw
        case rel => exact ⟨k + 1, by omega, by go_num, fun j hj hjk => (by
          by_cases e : j = k
          · subst e; exact HB.out
          · exact HALL.out j hj (by omega)), trivial⟩
        case measure => simp [intOf]; omega
      | false =>
        rw [hb] at d0
        have HFN := Lib.hid (show R = (k : Int) by
          rw [← HRR.out, show bs.findIdx? (· == false) = some k from List.findIdx?_eq_some_iff_getElem.2 ⟨hkl, by rw [hb]; rfl, fun j hj => by rw [hall j (by omega) hj]; decide⟩])
        clear hall hb hkl
        go_wp2
        go_ret
        obtain rfl := HFN.out
        exact ⟨rfl, rfl⟩
    · obtain rfl : n = k := by omega
      have HFN := Lib.hid (show R = -1 by
        rw [← HRR.out, show bs.findIdx? (· == false) = none from List.findIdx?_eq_none_iff.2 fun b hb => by
          obtain ⟨j, hj, rfl⟩ := List.getElem_of_mem hb
          rw [hall j hj (by have := HN.out; omega)]; rfl])
      clear hall
      go_wp2
      go_ret
      obtain rfl := HFN.out
      exact ⟨rfl, rfl⟩
set_option maxRecDepth 100000 in
set_option maxHeartbeats 2000000 in
theorem vacant_any (X : List Nat) (S D Lg M : Nat) (m : StoM) (w : World) (h : Sto w X S D Lg M m) (hm : 1 ≤ m.most ∧ m.most ≤ 256) (he : ∀ f ∈ m.F, f.entry < m.most) :
    Calls Tryz.prog 38 #[.pointer (some ⟨S, 0, none⟩)] w fun e w' => e = .returned (.tuple #[.int .i64 (vacI m.F m.most), .bool (decide (0 ≤ vacI m.F m.most))]) ∧ Below w.heap.size w w' := by
  obtain ⟨i4, hi0, hi1, hi2, hi3⟩ := info_parts info4
  obtain ⟨ad, ⟨Dm, hown, hnd, hsz, hat⟩, hex⟩ := h.map
  have x4 := h.blk.cell 4
  have x5 := h.blk.cell 5
  simp at x4 x5
  have hSl := h.blk.lt
  obtain ⟨F, hF⟩ : ∃ q, m.F = q := ⟨_, rfl⟩
  obtain ⟨n, hn⟩ : ∃ q, m.most = q := ⟨_, rfl⟩
  rw [hF, hn] at he
  rw [hF] at hown hnd hsz hat
  rw [hn] at x5 hm
  rw [hF, hn]
  have hmk := fun (w : World) => run_make (P := Tryz.prog) w 125 4 i4 _ Tryz.underlying125 hi0 hi1 .i64 .i64 (n : Int) (n : Int) (by omega) (by omega) (by rw [hi3]; omega) (by omega)
  have hmc : madeCells (Value.cells (.bool false)) ((n : Int).toNat * i4.size) = (List.replicate n (Value.bool false)).toArray := by
    rw [hi2, Nat.mul_one, Int.toNat_natCast]
    exact made_bool n
  rw [hmc, Int.toNat_natCast] at hmk
  have HAT := Lib.hid hat
  have HND := Lib.hid hnd
  have HE := Lib.hid he
  have HOWN := Lib.hid hown
  have HB0 := Lib.hid (below_alloc w (.cells (List.replicate n (Value.bool false)).toArray 4))
  have hown1 : (w.alloc (.cells (List.replicate n (Value.bool false)).toArray 4)).ownsMap Tryz.prog 9 rawE M F.length Dm := hown.alloc _
  have HLFT := Lib.hid (show ∀ f ∈ F, Maps.has Dm (.string f.name) = true from fun f hf => by
    rw [(hat f.name).1]
    cases hc : fileOf F f.name with
    | some g => rfl
    | none => exact absurd rfl (fileOf_none.1 hc f hf))
  have hrow1 : (w.alloc (.cells (List.replicate n (Value.bool false)).toArray 4)).heap[w.heap.size]? = some (.cells (tkB F (Maps.has Dm) n).toArray 4 (0, 0)) := by
    rw [tkB_start F _ n HLFT.out]; exact heap_alloc_new w _
  have y4 := (cell_old w (.cells (List.replicate n (Value.bool false)).toArray 4) ⟨S, 4, none⟩ hSl).trans x4
  have hW1 : (w.alloc (.cells (List.replicate n (Value.bool false)).toArray 4)).heap.size = w.heap.size + 1 := by simp
  replace hmk := hmk w
  obtain ⟨G, hG⟩ : ∃ q, w.heap.size = q := ⟨_, rfl⟩
  have HG := Lib.hid hG
  rw [hG] at hmk hW1 hrow1
  obtain ⟨W1, hW⟩ : ∃ q, w.alloc (.cells (List.replicate n (Value.bool false)).toArray 4) = q := ⟨_, rfl⟩
  rw [hW] at hmk hW1 hrow1 y4 HB0 hown1
  have HRW := Lib.hid hrow1
  have HW1 := Lib.hid hW1
  have HB1 := Lib.hid (show Below G w W1 by rw [← hG]; exact HB0.out)
  have HSL := Lib.hid (show S < G by rw [← hG]; exact hSl)
  have HML := Lib.hid (show M < G by rw [← hG]; exact hown.lt)
  rw [hG]
  clear h he hown hnd hsz hat hex hF hn hmc hrow1 hW1 hG hW HB0 hSl
  obtain ⟨V, hV⟩ : ∃ q, vacI F n = q := ⟨_, rfl⟩
  have HV := Lib.hid (show (match ((List.range n).map fun i => F.any fun f => f.entry == i).findIdx? (· == false) with | some i => (i : Int) | none => -1) = V from hV)
  rw [hV]
  clear hV
  go_enter Tryz.func38, Tryz.ntmps38
  go_wp2_with (first | (at_range; refine wpList_range_own _ rfl _ 77 rfl 9 69 keyLaw9 Tryz.underlying77 rawE M F.length Dm rfl hown1 ?_; intro w0 hrg0 hg0 hs0; have hsz0 := hs0.trans (congrArg (· + 1) HW1.out); have hb0 := (hg0.block G (by rw [HW1.out]; omega) (by simp)).trans HRW.out; have HG0 := Lib.hid hg0; have HS0 := Lib.hid hsz0; have HB00 := Lib.hid hb0; rw [HW1.out] at hrg0 ⊢; clear hg0 hs0 hsz0 hb0) | go_in)
  go_frame
  go_loopw [18] (fun _ wr => ∃ left cnt, wr.ranges Tryz.prog 9 rawE M (G + 1) F.length Dm left cnt ∧ wr.heap[G]? = some (.cells (tkB F left n).toArray 4 (0, 0)) ∧ Below G w wr ∧ G + 2 ≤ wr.heap.size) (fun _ wr => wr.rangeLeft M (G + 1))
  case atStart => exact ⟨_, _, hrg0, HB00.out, HB1.out.trans ⟨HG0.out.os, HG0.out.tape, HG0.out.output, HG0.out.size, fun k hk => HG0.out.block k (by rw [HW1.out]; omega) (by simp)⟩, by rw [HS0.out]; omega⟩
  case round =>
    obtain ⟨left, cnt, hrg, hrow, hbl, hsz⟩ := hrel
    go_wp2_with (first | (at_next; refine wpList_next_files rfl _ rfl M (G + 1) F.length Dm ad F left cnt rfl hrg HAT.out ?_ ?_) | go_in)
    · intro hl0
      rw [tkB_end F left n hl0] at hrow
      have KI := index_any G n ((List.range n).map fun i => F.any fun f => f.entry == i) wr (by
        rw [List.length_map, List.length_range, List.map_map]
        refine own_new (cs := (List.range n).map (Value.bool ∘ fun i => F.any fun f => f.entry == i)) ?_ (Nat.zero_le _) (by simp) rfl (by omega)
        exact hrow)
      rw [List.length_map, List.length_range] at KI
      rw [HV.out] at KI
      have HBL := Lib.hid hbl
      clear hrow hbl
      go_wp2_with (first | (go_at_call 76; refine KI.mono ?_; rintro e w2 ⟨rfl, rfl⟩))
      go_ret2
      exact ⟨rfl, HBL.out⟩
    · intro f w1 cnt1 hfm hrg1 hlt hg1 hs1 hen
      unfold inoV at hen
      have hfe := HE.out f hfm
      have hst := tkB_step F left n f hfm HND.out hfe
      obtain ⟨c, hc⟩ : ∃ c, (tkB F left n)[f.entry]? = some c := ⟨_, List.getElem?_eq_getElem (by rw [tkB_length]; exact hfe)⟩
      have hrow1 := (hg1.block G (by omega) (by simp)).trans hrow
      have d0 : w1.cell? ⟨G, f.entry, none⟩ = some c := by rw [World.cell?, hrow1]; simpa using hc
      have q0 : w1.frozen? ⟨G, f.entry, none⟩ = false := by rw [World.frozen?, hrow1]; rfl
      obtain ⟨E, hE⟩ : ∃ q, f.entry = q := ⟨_, rfl⟩
      rw [hE] at hen d0 q0 hfe hst
      have k0 : (0 : Int) ≤ (E : Int) := by omega
      have k1 : (E : Int) < (n : Int) := by omega
      have HST := Lib.hid hst
      have HR1 := Lib.hid hrow1
      have HG1 := Lib.hid hg1
      clear hc hst hrow1 hE hg1
      have hl1 : G < w1.heap.size := by omega
      have q1 : ∀ o, (w1.alloc o).frozen? ⟨G, E, none⟩ = false := fun o => by rw [World.frozen?, Below.heap_alloc _ _ G hl1, HR1.out]; rfl
      have hl2 : G < wr.heap.size := by omega
      go_wp2
      go_roundw
      case rel =>
        have hg := HG1.out
        have hrgA : (w1.setCell ⟨G, E, none⟩ (.bool true)).ranges Tryz.prog 9 rawE M (G + 1) F.length Dm (fun z => left z && !z.sameKey (Lit.string f.name)) cnt1 := hrg1.kept (grown_set w1 G E _) (by have := HML.out; simp; omega) (by simp)
        refine ⟨_, _, hrgA.alloc _, ?_, ?_, ?_⟩
        · rw [Below.heap_alloc _ _ G (by simp; omega), HST.out]
          have := Blk.set (show Blk w1 G _ 4 from HR1.out) E (.bool true)
          rw [List.setIfInBounds_toArray] at this
          exact this
        · exact Below.alloc (below_set (hbl.trans ⟨hg.os, hg.tape, hg.output, hg.size, fun k hk => hg.block k (by omega) (by simp; omega)⟩) G E _ (Nat.le_refl _)) (by simp; omega) _
        · simp; omega
      case measure =>
        rw [hrg.left_eq, ((hrg1.kept (grown_set w1 G E (.bool true)) (by have := HML.out; simp; omega) (by simp)).alloc _).left_eq]
        exact hlt
end Go.Proofs.YtcmcdddnckcpcaaGreatDoor
