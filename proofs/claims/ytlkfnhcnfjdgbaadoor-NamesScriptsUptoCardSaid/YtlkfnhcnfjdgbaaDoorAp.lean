/- names.Table.Apply at one update of an empty table, walked. -/
import Derived.Test.YtlkfnhcnfjdgbaaDoorMy
import Derived.Deep.RegionHeld3
import Derived.Deep.AppendLies
import Derived.Deep.CutRange
import Derived.Laws.Cover3
import Derived.Laws.ResultCell
namespace Go.Proofs.YtlkfnhcnfjdgbaaDoor
open Go.RowKit Go.Maps Go.WideMaps
theorem info39 : (Tryd.prog.info? 39).map (fun i => (i.zero, i.size, i.bytes)) = some (some (.agg #[.string ⟨#[]⟩, .string ⟨#[]⟩, .string ⟨#[]⟩]), 3, 48) := by kernel_rfl
theorem info41 : (Tryd.prog.info? 41).map (fun i => (i.zero, i.size, i.bytes)) = some (some (.agg #[.string ⟨#[]⟩, .string ⟨#[]⟩]), 2, 32) := by kernel_rfl
theorem nil_nil (t e : TypeId) (h : Tryd.prog.underlying t = some (.slice e)) (w : World) : (binOp .eql t (.slice none 0 0) (.slice none 0 0)).run Tryd.prog w = .ok (.bool true) w := by
  have := run_equal_slice_nil (P := Tryd.prog) w t e none 0 0 h
  simp only [binOp, Sem.run_bind, this]
  rfl
theorem clone_refs (w : World) : Calls Tryd.prog 28 #[.slice none 0 0] w fun e w' => e = .returned (.slice none 0 0) ∧ w' = w := by
  have hn := fun w => nil_nil 28 41 Tryd.underlying28 w
  go_enter Tryd.func28, Tryd.ntmps28
  go_wp2
  go_ret
  exact ⟨rfl, rfl⟩
theorem clone_log (w : World) : Calls Tryd.prog 29 #[.slice none 0 0] w fun e w' => e = .returned (.slice none 0 0) ∧ w' = w := by
  have hn := fun w => nil_nil 29 39 Tryd.underlying29 w
  go_enter Tryd.func29, Tryd.ntmps29
  go_wp2
  go_ret
  exact ⟨rfl, rfl⟩
/-- Block b of w is a table variable's. -/
def Tab (w : World) (b : Nat) (cs : Array Value) : Prop := w.heap[b]? = some (.cells cs 31 (0, 0))
theorem Tab.cell {w : World} {b : Nat} {cs : Array Value} (h : Tab w b cs) (i : Nat) : w.cell? ⟨b, i, none⟩ = cs[i]? := by
  unfold Tab at h
  unfold World.cell?; rw [h]; simp
theorem Tab.frozen {w : World} {b : Nat} {cs : Array Value} (h : Tab w b cs) (i : Nat) : w.frozen? ⟨b, i, none⟩ = false := by
  unfold Tab at h
  unfold World.frozen?; rw [h]; simp
theorem Tab.set {w : World} {b : Nat} {cs : Array Value} (h : Tab w b cs) (i : Nat) (v : Value) : Tab (w.setCell ⟨b, i, none⟩ v) b (cs.setIfInBounds i v) := by
  unfold Tab at h ⊢
  show (w.heap.modify b _)[b]? = _
  rw [Array.getElem?_modify, if_pos rfl, h]; simp
theorem Tab.lt {w : World} {b : Nat} {cs : Array Value} (h : Tab w b cs) : b < w.heap.size := (Array.getElem?_eq_some_iff.1 h).1
theorem Tab.below {w w' : World} {b : Nat} {cs : Array Value} (h : Tab w b cs) {B : Nat} (hB : b < B) (hb : Below B w w') : Tab w' b cs := (hb.block b hB).trans h
theorem insert_one (x : Nat) (a i : ByteArray) (w : World) (h0 : w.cell? ⟨x, 0, none⟩ = some (.string a)) (h1 : w.cell? ⟨x, 1, none⟩ = some (.string i)) :
    Calls Tryd.prog 32 #[.slice none 0 0, .int .i64 0, .slice (some ⟨x, 0, none⟩) 1 1] w fun e w' => ∃ r c, e = .returned (.slice (some ⟨r, 0, none⟩) 1 c) ∧ w'.ownsRow w.heap.size 41 2 (.slice (some ⟨r, 0, none⟩) 1 c) 1 [.string a, .string i] ∧ Below w.heap.size w w' := by
  obtain ⟨i0, hi, hz0, hz1, hz2⟩ := info_parts info41
  go_enter Tryd.func32, Tryd.ntmps32
  go_wp2_with (at_builtin; refine wpList_append_lies _ rfl (.tmp 23) (.tmp 24) 28 rfl w.heap.size 41 i0 _ 2 32 Tryd.underlying28 hi hz0 hz1 hz2 rfl (by decide) (.slice none 0 0) 0 [] rfl (World.ownsRow_nil _ _ _ _) ⟨x, 0, none⟩ 1 1 [.string a, .string i] rfl rfl ?c1 ?c2 (by omega) ?c3 ?c4 (Nat.le_refl _) _ rfl ?_)
  case c1 =>
    intro j u hj
    match j, hj with
    | 0, hj => simp at hj; subst hj; exact h0
    | 1, hj => simp at hj; subst hj; exact h1
  case c2 => simp [Value.oneCell']
  case c3 => simp only [maxLen]; omega
  case c4 => omega
  intro g cap w1 hown hgr hat hlt
  go_wp2
  go_ret
  exact ⟨g, cap, rfl, hown, (Below.refl _ w).grown hgr (Nat.le_refl _) (fun k e => by simp [Value.ownBlock] at e)⟩
/-- The table that came in lies in block H. -/
def Held (H : Nat) (hd : ByteArray) (w : World) : Prop := w.cell? ⟨H, 0, none⟩ = some (.slice none 0 0) ∧ w.cell? ⟨H, 1, none⟩ = some (.string hd) ∧ w.cell? ⟨H, 2, none⟩ = some (.slice none 0 0)
theorem Held.lt {H : Nat} {hd : ByteArray} {w : World} (h : Held H hd w) : H < w.heap.size := cell_lt h.1
theorem Held.alloc {H : Nat} {hd : ByteArray} {w : World} (h : Held H hd w) (o : Obj) : Held H hd (w.alloc o) := by
  have hl := h.lt
  exact ⟨((below_alloc w o).cell (p := ⟨H, 0, none⟩) hl).trans h.1, ((below_alloc w o).cell (p := ⟨H, 1, none⟩) hl).trans h.2.1, ((below_alloc w o).cell (p := ⟨H, 2, none⟩) hl).trans h.2.2⟩
theorem Held.grown {H : Nat} {hd : ByteArray} {w w' : World} (h : Held H hd w) (hg : w.grownBy w' none) : Held H hd w' := by
  have e := hg.block H h.lt (by simp)
  exact ⟨(World.cell?_of_block (a := ⟨H, 0, none⟩) e).trans h.1, (World.cell?_of_block (a := ⟨H, 1, none⟩) e).trans h.2.1, (World.cell?_of_block (a := ⟨H, 2, none⟩) e).trans h.2.2⟩
theorem Held.set {H : Nat} {hd : ByteArray} {w : World} (h : Held H hd w) (b i : Nat) (v : Value) (hb : H ≠ b) : Held H hd (w.setCell ⟨b, i, none⟩ v) :=
  ⟨(World.cell?_setCell_other _ _ _ _ (fun e => hb (congrArg Addr.block e).symm)).trans h.1, (World.cell?_setCell_other _ _ _ _ (fun e => hb (congrArg Addr.block e).symm)).trans h.2.1, (World.cell?_setCell_other _ _ _ _ (fun e => hb (congrArg Addr.block e).symm)).trans h.2.2⟩
theorem One.drew {w : World} {g : Nat} {i : ByteArray} (h : One w g i) : One w.drew g i := h
theorem Held.drew {H : Nat} {hd : ByteArray} {w : World} (h : Held H hd w) : Held H hd w.drew := h
theorem below_grown {B : Nat} {w0 w w' : World} (h : Below B w0 w) (hg : w.grownBy w' none) (hB : B ≤ w.heap.size) : Below B w0 w' := h.grown hg hB (fun _ e => by cases e)
theorem row_cap {w : World} {B cap n size : Nat} {e : TypeId} {A : Option Addr} {xs : List Value} (h : w.ownsRow B e size (.slice A n cap) n xs) : n ≤ cap := by
  rcases h.2 with ⟨hv, h0⟩ | ⟨g, c, cur, hv, _, _, hc, _⟩
  · omega
  · injection hv with _ _ h3
    subst h3
    exact hc
theorem own_base {w : World} {b b' size : Nat} {e : TypeId} {v : Value} {n : Nat} {xs : List Value} (h : w.ownsRow b e size v n xs) (hb : b' ≤ b) : w.ownsRow b' e size v n xs := by
  refine ⟨h.1, h.2.imp id ?_⟩
  rintro ⟨g, cap, cur, h1, h2, h3⟩
  exact ⟨g, cap, cur, h1, Nat.le_trans hb h2, h3⟩
theorem grown_set (w : World) (b i : Nat) (v : Value) : w.grownBy (w.setCell ⟨b, i, none⟩ v) (some b) := by
  refine ⟨rfl, rfl, rfl, by simp [World.setCell], fun k hk hne => ?_⟩
  show (w.heap.modify b _)[k]? = _
  rw [Array.getElem?_modify, if_neg (fun e => hne (by rw [e]))]
theorem alloc_lt (w : World) (o : Obj) : w.heap.size < (w.alloc o).heap.size := by simp
theorem one_news {w : World} {g : Nat} {i : ByteArray} (h : One w g i) : ∀ j u, [Value.string (mk aB), .string ⟨#[]⟩, .string i][j]? = some u → w.cell? ((⟨g, 0, none⟩ : Addr).add j) = some u := by
  intro j u hj
  match j, hj with
  | 0, hj => simp at hj; subst hj; exact h.1
  | 1, hj => simp at hj; subst hj; exact h.2.1
  | 2, hj => simp at hj; subst hj; exact h.2.2
theorem find_nil (hd : ByteArray) (A : Option Addr) (n c : Nat) (b : ByteArray) (w : World) : Calls Tryd.prog 30 #[.agg #[.slice none 0 0, .string hd, .slice A n c], .string b] w fun e w' => e = .returned (.tuple #[.int .i64 0, .bool false]) ∧ Below w.heap.size w w' := by
  go_enter Tryd.func30, Tryd.ntmps30
  go_wp2_with (go_at_call 52; refine (bsf_zero _ _).mono ?_; rintro e w' ⟨rfl, rfl⟩)
  go_wp2
  go_ret2
  exact ⟨rfl, below_alloc _ _⟩
set_option maxRecDepth 100000 in
set_option maxHeartbeats 8000000 in
theorem apply_one (g cap : Nat) (hd i : ByteArray) (hi : i.size = 32) (m : Int) (w : World) (hm : w.cell? ⟨0, 0, none⟩ = some (.int .i64 m)) (h : One w g i) :
    Calls Tryd.prog 13 #[.agg #[.slice none 0 0, .string hd, .slice none 0 0], .slice (some ⟨g, 0, none⟩) 1 cap, .string ⟨#[]⟩] w fun e w' => ∃ r c A c', e = .returned (.tuple #[.agg #[.slice (some ⟨r, 0, none⟩) 1 c, .string hd, .slice A 1 c'], .int .i64 0]) ∧
      w'.cell? ⟨r, 0, none⟩ = some (.string (mk aB)) ∧ w'.cell? ⟨r, 1, none⟩ = some (.string i) ∧ Below w.heap.size w w' := by
  obtain ⟨iu, hiu, hu0, hu1, hu2⟩ := info_parts info39
  have hgl : g < w.heap.size := cell_lt h.1
  have hb0 : Below w.heap.size w ((w.alloc (.cells #[.slice none 0 0, .string hd, .slice none 0 0] 31)).alloc (.cells #[.slice none 0 0, .string ⟨#[]⟩, .slice none 0 0] 31)) := (below_alloc w _).alloc (by simp) _
  have KM := may_one g cap hd i hi m _ ((hb0.cell (p := ⟨0, 0, none⟩) (cell_lt hm)).trans hm) (h.below hgl hb0)
  have e3 : Tab ((w.alloc (.cells #[.slice none 0 0, .string hd, .slice none 0 0] 31)).alloc (.cells #[.slice none 0 0, .string ⟨#[]⟩, .slice none 0 0] 31)) w.heap.size #[.slice none 0 0, .string hd, .slice none 0 0] :=
    (heap_alloc_old _ _ (by simp)).trans (heap_alloc_new w _)
  have e6 : Tab ((w.alloc (.cells #[.slice none 0 0, .string hd, .slice none 0 0] 31)).alloc (.cells #[.slice none 0 0, .string ⟨#[]⟩, .slice none 0 0] 31)) (w.heap.size + 1) #[.slice none 0 0, .string ⟨#[]⟩, .slice none 0 0] := by
    have := heap_alloc_new (w.alloc (.cells #[.slice none 0 0, .string hd, .slice none 0 0] 31)) (.cells #[.slice none 0 0, .string ⟨#[]⟩, .slice none 0 0] 31)
    rw [show (w.alloc (.cells #[.slice none 0 0, .string hd, .slice none 0 0] 31)).heap.size = w.heap.size + 1 by simp] at this
    exact this
  have hWs : ((w.alloc (.cells #[.slice none 0 0, .string hd, .slice none 0 0] 31)).alloc (.cells #[.slice none 0 0, .string ⟨#[]⟩, .slice none 0 0] 31)).heap.size = w.heap.size + 2 := by simp
  obtain ⟨W, hW⟩ : ∃ W, (w.alloc (.cells #[.slice none 0 0, .string hd, .slice none 0 0] 31)).alloc (.cells #[.slice none 0 0, .string ⟨#[]⟩, .slice none 0 0] 31) = W := ⟨_, rfl⟩
  rw [hW] at hb0 KM e3 e6 hWs
  have hW' := Lib.hid hW
  have HO := Lib.hid h
  have HI := Lib.hid hi
  clear hW h hm hi
  go_enter Tryd.func13, Tryd.ntmps13
  go_wp2_with (go_at_call 27; rw [hW'.out]; refine KM.mono ?_)
  rintro e w2 ⟨rfl, hb2⟩
  clear KM
  have t3 := e3.below (by omega) hb2
  have t6 := e6.below (by omega) hb2
  have hs2 := hb2.size
  obtain ⟨H, hH⟩ : ∃ H, w.heap.size = H := ⟨_, rfl⟩
  rw [hH] at t3 t6 e3 e6 hWs
  simp only [hH]
  go_upto_region 4 with fail
  go_cut [9] from 22 to 32 (fun s9 wx => ∃ X ga c' : Nat, s9 = .pointer (some ⟨X, 0, none⟩) ∧ Tab wx X #[.slice none 0 0, .string hd, .slice (some ⟨ga, 0, none⟩) 1 c'] ∧ 1 ≤ c' ∧ W.heap.size ≤ X ∧ Below W.heap.size W wx)
  case first =>
    have O2 := HO.out.below hgl (hb0.trans (hb2.mono hb0.size))
    have hg2 : g < w2.heap.size := by have := hb0.size; omega
    have hX2 : H < w2.heap.size := by omega
    have k0 := t3.cell 0
    have k1 := t3.cell 1
    have k2 := t3.cell 2
    simp at k0 k1 k2
    have HS0 : Held H hd w2 := ⟨k0, k1, k2⟩
    clear t3 t6 e3 e6 hb0
    go_region_held3 (fun w' => w'.cell? ⟨H, 0, none⟩ = some (.slice none 0 0) ∧ w'.cell? ⟨H, 1, none⟩ = some (.string hd) ∧ w'.cell? ⟨H, 2, none⟩ = some (.slice none 0 0))
      (first | (go_keep) | (exact FA) | (exact FA.alloc _) | (exact ((FA.set _ _ _ (by have := hgr.size; simp at this; omega)).set _ _ _ (by have := hgr.size; simp at this; omega)).set _ _ _ (by have := hgr.size; simp at this; omega)))
      (first
        | (go_at_call 28; refine (clone_refs _).mono ?_; rintro e w' ⟨rfl, rfl⟩)
        | (go_at_call 29; refine (clone_log _).mono ?_; rintro e w' ⟨rfl, rfl⟩)
        | (refine step_append_lies _ (by rfl) (.tmp 29) (.tmp 30) 29 (by rfl) W.heap.size 39 iu _ 3 48 Tryd.underlying29 hiu hu0 hu1 hu2 (by rfl) (by omega) (.slice none 0 0) 0 [] (by rfl) (World.ownsRow_nil _ _ _ _)
            ⟨g, 0, none⟩ 1 cap [.string (mk aB), .string ⟨#[]⟩, .string i] (by rfl) (by rfl) (one_news (by first | exact O2 | exact (O2.below hg2 (below_alloc _ _)).drew | exact O2.below hg2 (below_alloc _ _))) (by simp [Value.oneCell'])
            (by omega) (by simp only [maxLen]; omega) (by omega) (by first | exact hs2 | exact Nat.le_trans hs2 (below_alloc _ _).size) _ (by rfl) ?_
           intro ga capa wa howna hgr hata hlta
           have FA : Held H hd wa := Held.grown (by first | exact HS0 | exact (HS0.alloc _).drew | exact HS0.alloc _) hgr
           first
             | (have HBa : Below W.heap.size W wa := below_grown hb2.drew hgr hs2)
             | (have HBa : Below W.heap.size W wa := below_grown (hb2.alloc hs2 _).drew hgr (Nat.le_trans hs2 (Nat.le_of_lt (alloc_lt w2 _))))
             | skip
           first
             | (have TX : Tab wa w2.heap.size #[.slice none 0 0, .string ⟨#[]⟩, .slice none 0 0] := (hgr.block w2.heap.size (alloc_lt w2 _) (Option.some_ne_none _)).trans (heap_alloc_new w2 _)
                have y0 : wa.cell? ⟨w2.heap.size, 0, none⟩ = some (.slice none 0 0) := TX.cell 0
                have y1 : wa.cell? ⟨w2.heap.size, 1, none⟩ = some (.string ⟨#[]⟩) := TX.cell 1
                have y2 : wa.cell? ⟨w2.heap.size, 2, none⟩ = some (.slice none 0 0) := TX.cell 2
                have f0 := TX.frozen 0
                have f1 := TX.frozen 1
                have f2 := TX.frozen 2)
             | skip)
        | (fail))
    all_goals clear HS0 FA k0 k1 k2
    all_goals go_wp2_with fail
    all_goals go_meet
    all_goals first
      | exact ⟨wa.heap.size, ga, capa, rfl, heap_alloc_new _ _, row_cap howna, HBa.size, HBa.alloc HBa.size _⟩
      | exact ⟨w2.heap.size, ga, capa, rfl, ((TX.set 0 _).set 1 _).set 2 _, row_cap howna, hs2, ((HBa.setCell (p := ⟨w2.heap.size, 0, none⟩) hs2 _).setCell (p := ⟨w2.heap.size, 1, none⟩) hs2 _).setCell (p := ⟨w2.heap.size, 2, none⟩) hs2 _⟩
  case rest =>
    obtain ⟨X, ga, c', rfl, hX, hc', hXW, hb⟩ := hcut
    clear t3 hb2
    have c0 := hX.cell 0
    have c1 := hX.cell 1
    have c2 := hX.cell 2
    have f2 := hX.frozen 2
    simp at c0 c1 c2
    have n0 : ¬ i.toList = [] := by
      intro e
      rw [ByteArray.toList_eq] at e
      have : i.data.toList.length = i.size := by simp
      rw [e] at this
      have := HI.out
      simp at *; omega
    have n1 : (i.toList == []) = false := beq_eq_false_iff_ne.2 n0
    have hmx : max (-255 : Int) 0 = 0 := by decide
    have hXs := hX.set 2 (.slice (some ⟨ga, 0, none⟩) 1 c')
    simp at hXs
    have hbs := hb.setCell (p := ⟨X, 2, none⟩) hXW (.slice (some ⟨ga, 0, none⟩) 1 c')
    have hgW : g < W.heap.size := by omega
    clear hX hb
    go_wp2
    clear c0 c1 c2 f2
    go_loopw [48] (fun k wr => (k = .int .i64 0 ∧ Tab wr X #[.slice none 0 0, .string hd, .slice (some ⟨ga, 0, none⟩) 1 c'] ∧ Below W.heap.size W wr) ∨
        (k = .int .i64 1 ∧ ∃ r c : Nat, Tab wr X #[.slice (some ⟨r, 0, none⟩) 1 c, .string hd, .slice (some ⟨ga, 0, none⟩) 1 c'] ∧ wr.ownsRow W.heap.size 41 2 (.slice (some ⟨r, 0, none⟩) 1 c) 1 [.string (mk aB), .string i] ∧ Below W.heap.size W wr)) (fun k _ => 1 - (intOf k).toNat)
    case atStart => exact .inl ⟨rfl, hXs, hbs⟩
    case round =>
      clear hXs hbs
      rcases hrel with ⟨rfl, hX, hb⟩ | ⟨rfl, r, c, hX, hr, hb⟩
      · have hsz := hb.size
        obtain ⟨o0, o1, o2⟩ := (HO.out.below hgl hb0).below hgW hb
        have hV := alloc_lt wr (.cells #[.string (mk aB), .string ⟨#[]⟩, .string i] 39)
        have hVn := heap_alloc_new wr (.cells #[.string (mk aB), .string ⟨#[]⟩, .string i] 39)
        have hal := hb.alloc hsz (.cells #[.string (mk aB), .string ⟨#[]⟩, .string i] 39)
        have hXa := hX.below hX.lt (below_alloc wr (.cells #[.string (mk aB), .string ⟨#[]⟩, .string i] 39))
        have hXl := hXa.lt
        have KF := find_nil hd (some ⟨ga, 0, none⟩) 1 c' (mk aB) (wr.alloc (.cells #[.string (mk aB), .string ⟨#[]⟩, .string i] 39))
        have d0 := hXa.cell 0
        have d1 := hXa.cell 1
        have d2 := hXa.cell 2
        simp at d0 d1 d2
        obtain ⟨A, hA⟩ : ∃ A, mk aB = A := ⟨_, rfl⟩
        rw [hA] at KF hV hVn hal hXa hXl o0 d0 d1 d2
        simp only [hA]
        have hVX : wr.heap.size ≠ X := by have := hX.lt; omega
        clear hX
        go_wp2_with (go_at_call 30; refine KF.mono ?_)
        rintro e w4 ⟨rfl, hb4⟩
        have x0 : w4.cell? ⟨wr.heap.size, 0, none⟩ = some (.string A) := (hb4.cell (p := ⟨wr.heap.size, 0, none⟩) hV).trans (by unfold World.cell?; rw [hVn]; simp)
        have x2 : w4.cell? ⟨wr.heap.size, 2, none⟩ = some (.string i) := (hb4.cell (p := ⟨wr.heap.size, 2, none⟩) hV).trans (by unfold World.cell?; rw [hVn]; simp)
        have hX4 := hXa.below hXl hb4
        have hB4 := hal.trans (hb4.mono (by simp; omega))
        have hs4 := hB4.size
        have g0 := hX4.cell 0
        have g1 := hX4.cell 1
        have g2 := hX4.cell 2
        simp at g0 g1 g2
        have hb5 := below_alloc w4 (.cells #[.string A, .string i] 41)
        have hn5 := heap_alloc_new w4 (.cells #[.string A, .string i] 41)
        have KI := insert_one w4.heap.size A i (w4.alloc (.cells #[.string A, .string i] 41)) (by unfold World.cell?; rw [hn5]; simp) (by unfold World.cell?; rw [hn5]; simp)
        have hX5 := hX4.below hX4.lt hb5
        have hB5 := hB4.alloc hs4 (.cells #[.string A, .string i] 41)
        clear KF hVn hb4 hal o0 o1 o2 d0 d1 d2 hXa hn5
        go_wp2_with (go_at_call 32; refine KI.mono ?_)
        rintro e w6 ⟨r, c, rfl, hr6, hb6⟩
        have hX6 := hX5.below hX5.lt hb6
        have hB6 := hB5.trans (hb6.mono (by simp; omega))
        have q0 := hX6.cell 0
        have fq := hX6.frozen 0
        simp at q0
        have hXf := hX6.set 0 (.slice (some ⟨r, 0, none⟩) 1 c)
        simp at hXf
        have hXr : X < r := by have := (hr6.lt r rfl).1; have := hX5.lt; omega
        have hrf := (own_base hr6 hB5.size).kept (grown_set w6 X 0 (.slice (some ⟨r, 0, none⟩) 1 c)) (.inr (by simp [Value.ownBlock]; omega))
        have hBf := hB6.setCell (p := ⟨X, 0, none⟩) hXW (.slice (some ⟨r, 0, none⟩) 1 c)
        clear KI hX4 hX5 hX6 hr6 hb6 hB5 hB6 hb5 hB4 x0 x2 g0 g1 g2 hV hXl
        go_wp2
        go_roundw
        case rel => exact .inr ⟨rfl, r, c, hXf, hrf, hBf⟩
        case measure => simp [intOf]
      · have hsz := hb.size
        have hT := e6.below (by omega) hb
        have d0 := hX.cell 0
        have d1 := hX.cell 1
        have d2 := hX.cell 2
        have y0 := hT.cell 0
        have y1 := hT.cell 1
        have y2 := hT.cell 2
        have f0 := hT.frozen 0
        have f1 := hT.frozen 1
        have f2 := hT.frozen 2
        simp at d0 d1 d2 y0 y1 y2
        have hr0 := hr.cellAt 0 (by omega)
        have hr1 := hr.cellAt 1 (by omega)
        simp at hr0 hr1
        have hrl := (hr.lt r rfl).1
        have hbw : Below w.heap.size w wr := hb0.trans (hb.mono hb0.size)
        have hTf := ((hT.set 0 (.slice (some ⟨r, 0, none⟩) 1 c)).set 1 (.string hd)).set 2 (.slice (some ⟨ga, 0, none⟩) 1 c')
        simp at hTf
        have hne : ∀ j : Nat, (⟨r, j, none⟩ : Addr).block ≠ H + 1 := fun j => by simp; omega
        clear hX hT hr
        go_wp2
        obtain ⟨Wf, hWf⟩ : ∃ u, ((wr.setCell ⟨H + 1, 0, none⟩ (.slice (some ⟨r, 0, none⟩) 1 c)).setCell ⟨H + 1, 1, none⟩ (.string hd)).setCell ⟨H + 1, 2, none⟩ (.slice (some ⟨ga, 0, none⟩) 1 c') = u := ⟨_, rfl⟩
        have p0 : Wf.cell? ⟨r, 0, none⟩ = some (.string (mk aB)) := by
          rw [← hWf]
          exact (World.cell?_setCell_other _ _ _ _ (fun e => hne 0 (congrArg Addr.block e).symm)).trans ((World.cell?_setCell_other _ _ _ _ (fun e => hne 0 (congrArg Addr.block e).symm)).trans ((World.cell?_setCell_other _ _ _ _ (fun e => hne 0 (congrArg Addr.block e).symm)).trans hr0))
        have p1 : Wf.cell? ⟨r, 1, none⟩ = some (.string i) := by
          rw [← hWf]
          exact (World.cell?_setCell_other _ _ _ _ (fun e => hne 1 (congrArg Addr.block e).symm)).trans ((World.cell?_setCell_other _ _ _ _ (fun e => hne 1 (congrArg Addr.block e).symm)).trans ((World.cell?_setCell_other _ _ _ _ (fun e => hne 1 (congrArg Addr.block e).symm)).trans hr1))
        have hBf : Below w.heap.size w Wf := by
          rw [← hWf]
          exact ((hbw.setCell (p := ⟨H + 1, 0, none⟩) (by simp; omega) _).setCell (p := ⟨H + 1, 1, none⟩) (by simp; omega) _).setCell (p := ⟨H + 1, 2, none⟩) (by simp; omega) _
        rw [hWf] at hTf ⊢
        have z0 := hTf.cell 0
        have z1 := hTf.cell 1
        have z2 := hTf.cell 2
        simp at z0 z1 z2
        refine bodyPost_ret (v := .tuple #[.agg #[.slice (some ⟨r, 0, none⟩) 1 c, .string hd, .slice (some ⟨ga, 0, none⟩) 1 c'], .int .i64 0]) ?_ rfl ?_
        · rw [results_cell_tmp Tryd.results13]
          go_simp
        · first
            | exact ⟨r, c, some ⟨ga, 0, none⟩, c', rfl, p0, p1, hBf⟩
            | exact ⟨r, ⟨c, some ⟨ga, 0, none⟩, c', rfl⟩, p0, p1, hBf⟩
            | exact ⟨r, ⟨c, some ⟨ga, 0, none⟩, c', rfl⟩, p0, p1, by rw [← hH]; exact hBf⟩
            | exact ⟨r, c, some ⟨ga, 0, none⟩, c', rfl, p0, p1, by rw [← hH]; exact hBf⟩
end Go.Proofs.YtlkfnhcnfjdgbaaDoor
