/- stemmaref16.Apply, walked. -/
import Derived.Test.YtlkfnhcnfjdgbaaDoorRr
import Derived.Test.YtlkfnhcnfjdgbaaDoorRb
import Derived.Test.YtlkfnhcnfjdgbaaDoorAu
import Derived.Test.YtlkfnhcnfjdgbaaDoorRi
import Derived.Deep.QuietTactic
import Derived.BigQuiet
import Derived.Deep.RegionHeld3
import Derived.Deep.CutRange
import Derived.Lib.SmallJoins
namespace Go.Proofs.YtlkfnhcnfjdgbaaDoor
open Go.RowKit Go.Maps Go.WideMaps
theorem okU_iff (us : List Upd) : ∀ S : Bs → Bool, okU S us = true ↔ (∀ u ∈ us, S u.name = false ∧ rightU u = true) ∧ us.Pairwise (fun a b => a.name ≠ b.name) := by
  induction us with
  | nil => intro S; simp [okU]
  | cons u us ih =>
    intro S
    rw [okU]
    simp only [Bool.and_eq_true, Bool.not_eq_true', ih, List.pairwise_cons, List.mem_cons, forall_eq_or_imp, Bool.or_eq_false_iff, beq_eq_false_iff_ne]
    constructor
    · rintro ⟨h1, h2, h3, h4⟩
      exact ⟨⟨⟨h1, h2⟩, fun a ha => ⟨(h3 a ha).1.1, (h3 a ha).2⟩⟩, fun a ha => ((h3 a ha).1.2).symm, h4⟩
    · rintro ⟨⟨⟨h1, h2⟩, h3⟩, h4, h5⟩
      exact ⟨h1, h2, fun a ha => ⟨⟨(h3 a ha).1, (h4 a ha).symm⟩, (h3 a ha).2⟩, h5⟩
theorem row_cap' {w : World} {B cap n size : Nat} {e : TypeId} {A : Option Addr} {xs : List Value} (h : w.ownsRow B e size (.slice A n cap) n xs) : n ≤ cap := by
  rcases h.2 with ⟨hv, h0⟩ | ⟨g, c, cur, hv, _, _, hc, _⟩
  · omega
  · injection hv with _ _ h3
    subst h3
    exact hc
theorem typed_ne {w : World} {A : Option Addr} {e e' : TypeId} {N : Nat} {cs : Array Value} (ht : Typed w A e) (hb : Blk w N cs e') (hne : e ≠ e') (a : Addr) (ha : A = some a) : a.block ≠ N := by
  intro h
  obtain ⟨cs', fr, hc⟩ := ht a ha
  rw [h] at hc
  unfold Blk at hb
  rw [hb] at hc
  simp only [Option.some.injEq, Obj.cells.injEq] at hc
  exact hne hc.2.1.symm
theorem typed_set {w : World} {A : Option Addr} {e e' : TypeId} {N : Nat} {cs : Array Value} (ht : Typed w A e) (hb : Blk w N cs e') (hne : e ≠ e') (i : Nat) (v : Value) : Typed (w.setCell ⟨N, i, none⟩ v) A e := by
  intro a ha
  have h1 := typed_ne ht hb hne a ha
  obtain ⟨cs', fr, hc⟩ := ht a ha
  exact ⟨cs', fr, (Below.heap_setCell w ⟨N, i, none⟩ v a.block h1).trans hc⟩
theorem lies_set {w : World} {A : Option Addr} {e e' : TypeId} {N : Nat} {cs : Array Value} {xs : List Value} (h : Lies w A xs) (ht : Typed w A e) (hb : Blk w N cs e') (hne : e ≠ e') (i : Nat) (v : Value) : Lies (w.setCell ⟨N, i, none⟩ v) A xs := by
  intro h0
  obtain ⟨g, o, hA, hg, hc⟩ := h h0
  have h1 := typed_ne ht hb hne _ hA
  refine ⟨g, o, hA, by simpa using hg, fun j u hj => ?_⟩
  exact (World.cell?_of_block (Below.heap_setCell w ⟨N, i, none⟩ v g h1)).trans (hc j u hj)
theorem grown_below3 {w w' : World} {b B : Nat} (h : w.grownBy w' (some b)) (hb : B ≤ b) (hw : B ≤ w.heap.size) : Below B w w' := ⟨h.os, h.tape, h.output, h.size, fun k hk => h.block k (by omega) (by intro e; injection e; omega)⟩
theorem grown_draws {w w' : World} {r : Option Nat} (h : w.grownBy w' r) (n : Nat) : w.grownBy (w'.drewN n) r := ⟨h.os, h.tape, h.output, h.size, h.block⟩
theorem grown_set2 {w w' : World} {X : Nat} (h : w.grownBy w' (some X)) (i : Nat) (v : Value) : w.grownBy (w'.setCell ⟨X, i, none⟩ v) (some X) :=
  ⟨h.os, h.tape, h.output, by simpa using h.size, fun k hk hne => (Below.heap_setCell w' ⟨X, i, none⟩ v k (fun e => hne (by rw [e]))).trans (h.block k hk hne)⟩
theorem grown_then {w w1 w2 : World} {N : Nat} {r : Option Nat} (h : w.grownBy w1 (some N)) (h2 : w1.grownBy w2 r) (hr : ∀ k, r = some k → w.heap.size ≤ k) : w.grownBy w2 (some N) :=
  ⟨h2.os.trans h.os, h2.tape.trans h.tape, h2.output.trans h.output, Nat.le_trans h.size h2.size, fun k hk hne => (h2.block k (Nat.lt_of_lt_of_le hk h.size) (fun e => by have := hr k e.symm; omega)).trans (h.block k hk hne)⟩
theorem grown_below4 {w w1 w2 : World} {N : Nat} (h : w.grownBy w1 (some N)) (h2 : Below w1.heap.size w1 w2) : w.grownBy w2 (some N) :=
  ⟨h2.os.trans h.os, h2.tape.trans h.tape, h2.output.trans h.output, Nat.le_trans h.size h2.size, fun k hk hne => (h2.block k (Nat.lt_of_lt_of_le hk h.size)).trans (h.block k hk hne)⟩
theorem lies_new (w : World) (cs : List Value) (t : TypeId) : Lies (w.alloc (.cells cs.toArray t)) (some ⟨w.heap.size, 0, none⟩) cs := fun _ =>
  ⟨w.heap.size, 0, rfl, by simp, fun j u hu => by
    have := World.news_of_block (cs := cs.toArray) (heap_alloc_new w (.cells cs.toArray t)) j u (by simpa using hu)
    rw [add_lit'] at this
    exact this⟩
theorem less_cmp (a : Bs) : ∀ b, Op.bytesLess a b = decide (Lib.compareBytes a b < 0) := by
  induction a with
  | nil => intro b; cases b <;> simp [Op.bytesLess, Lib.compareBytes]
  | cons c a ih =>
    intro b
    cases b with
    | nil => simp [Op.bytesLess, Lib.compareBytes]
    | cons d b =>
      rw [Lib.compareBytes, Op.bytesLess]
      have := ih b
      by_cases h1 : c < d
      · simp [h1]
      · by_cases h2 : d < c
        · simp only [h1, h2, if_false, if_true, decide_false, Bool.false_or]
          have : (c == d) = false := beq_eq_false_iff_ne.2 (fun e => by subst e; exact h1 h2)
          simp [this]
        · have : c = d := UInt8.le_antisymm (UInt8.not_lt.1 h2) (UInt8.not_lt.1 h1)
          subst this
          simp [h1, ih b]
theorem lies_grown {w w' : World} {A : Option Addr} {xs : List Value} {e e' : TypeId} {N : Nat} {cs : Array Value} (h : Lies w A xs) (ht : Typed w A e) (hb : Blk w N cs e') (hne : e ≠ e') (hg : w.grownBy w' (some N)) : Lies w' A xs := by
  intro h0
  obtain ⟨g, o, hA, hl, hc⟩ := h h0
  have h1 : g ≠ N := typed_ne ht hb hne _ hA
  refine ⟨g, o, hA, Nat.lt_of_lt_of_le hl hg.size, fun j u hj => ?_⟩
  exact (World.cell?_of_block (hg.block g hl (by intro e; injection e; omega))).trans (hc j u hj)
theorem typed_grown {w w' : World} {A : Option Addr} {e e' : TypeId} {N : Nat} {cs : Array Value} (ht : Typed w A e) (hb : Blk w N cs e') (hne : e ≠ e') (hg : w.grownBy w' (some N)) : Typed w' A e := by
  intro a ha
  have h1 := typed_ne ht hb hne a ha
  obtain ⟨cs', fr, hc⟩ := ht a ha
  exact ⟨cs', fr, (hg.block a.block (Array.getElem?_eq_some_iff.1 hc).1 (by intro e; injection e; omega)).trans hc⟩
theorem keepR_len (R : Refs) (us : List Upd) : (keepR R us).length ≤ R.length := List.length_filterMap_le _ _
def zeroT : Array Value := #[.slice none 0 0, .string ⟨#[]⟩, .slice none 0 0]
def RAppOut (t : Tbl) (us : List Upd) (h : Bs) (w : World) (e : Ending) (w' : World) : Prop :=
  ∃ v, e = .returned (.tuple #[v, .int .i64 (mayE t.refs us h)]) ∧ RTblAt w' (t.res us h) v ∧ Below w.heap.size w w'
theorem rapp_err {t : Tbl} {us : List Upd} {h : Bs} {w w' : World} {E : Int} (hE : mayE t.refs us h = E) (hne : E ≠ 0) (hb : Below w.heap.size w w') : RAppOut t us h w (.returned (.tuple #[noTbl, .int .i64 E])) w' := by
  refine ⟨noTbl, by rw [hE], ?_, hb⟩
  unfold Tbl.res
  rw [if_neg (by rw [hE]; exact hne)]
  exact ⟨_, 0, _, 0, rfl, fun h => by simp [rcells] at h, fun h => by simp [ucells] at h⟩
theorem mayE_11 {R : Refs} {us : List Upd} {h : Bs} (h0 : ¬ (us = [] ∧ h = [])) (h1 : (h ≠ [] ∧ branchB h = false) ∨ us.all (fun u => goodB u.name) = false) : mayE R us h = 11 := by
  unfold mayE; rw [if_neg h0, if_pos h1]
set_option maxRecDepth 100000 in
set_option maxHeartbeats 16000000 in
theorem rapply_any (t : Tbl) (v : Value) (us : List Upd) (A' : Option Addr) (cap' : Nat) (h : Bs) (w : World) (hv : RTblAt w t v) (hs : Sorted t.refs) (hne : NEr t.refs) (hrl : t.refs.length ≤ 100000) (hll : t.log.length ≤ 100000) (hu : ∀ u ∈ us, u.name.length ≤ 2000000) (hul : us.length ≤ 1000) (hU : Lies w A' (ucells us)) (hh : h.length ≤ 2000000) :
    Calls Tryd.prog 14 #[v, .slice A' us.length cap', .string (mk h)] w (RAppOut t us h w) := by
  obtain ⟨i66, hi66, hz660, hz661, hz662⟩ := info_parts info66r
  obtain ⟨i76, hi76, hz760, hz761, hz762⟩ := info_parts info76r
  obtain ⟨A, cA, B, cB, rfl, hR, hL⟩ := hv
  have HRE : Hid (∀ (w' : World) (E : Int), mayE t.refs us h = E → E ≠ 0 → Below w.heap.size w w' → RAppOut t us h w (.returned (.tuple #[noTbl, .int .i64 E])) w') := Lib.hid fun w' E a b c => rapp_err a b c
  obtain ⟨nR, hnR⟩ : ∃ n, t.refs.length = n := ⟨_, rfl⟩
  obtain ⟨nL, hnL⟩ : ∃ n, t.log.length = n := ⟨_, rfl⟩
  obtain ⟨nU, hnU⟩ : ∃ n, us.length = n := ⟨_, rfl⟩
  obtain ⟨hd, hhd⟩ : ∃ n, mk t.head = n := ⟨_, rfl⟩
  rw [hnR, hhd, hnL, hnU]
  rw [hnR] at hrl
  rw [hnL] at hll
  rw [hnU] at hul
  have HNR := Lib.hid hnR
  have HNL := Lib.hid hnL
  have HNU := Lib.hid hnU
  have HHD := Lib.hid hhd
  have HS := Lib.hid hs
  have HNE := Lib.hid hne
  have HU := Lib.hid hu
  have hbx := Blk.new w #[.slice A nR cA, .string hd, .slice B nL cB] 45
  have hb0 := below_alloc w (.cells #[.slice A nR cA, .string hd, .slice B nL cB] 45)
  have hby := Blk.new (w.alloc (.cells #[.slice A nR cA, .string hd, .slice B nL cB] 45)) #[.slice none 0 0, .string ⟨#[]⟩, .slice none 0 0] 45
  have hb1 := hb0.alloc hb0.size (.cells #[.slice none 0 0, .string ⟨#[]⟩, .slice none 0 0] 45)
  have hbx1 := hbx.alloc (.cells #[.slice none 0 0, .string ⟨#[]⟩, .slice none 0 0] 45)
  rw [show (w.alloc (.cells #[.slice A nR cA, .string hd, .slice B nL cB] 45)).heap.size = w.heap.size + 1 by simp] at hby
  obtain ⟨H, hH⟩ : ∃ H, w.heap.size = H := ⟨_, rfl⟩
  obtain ⟨W, hW⟩ : ∃ W, (w.alloc (.cells #[.slice A nR cA, .string hd, .slice B nL cB] 45)).alloc (.cells #[.slice none 0 0, .string ⟨#[]⟩, .slice none 0 0] 45) = W := ⟨_, rfl⟩
  have HR := Lib.hid (hR.below (Nat.le_refl _) hb1)
  have HL := Lib.hid (hL.below (Nat.le_refl _) hb1)
  have HUU := Lib.hid (hU.below (Nat.le_refl _) hb1)
  rw [hW] at hbx1 hby hb1 HR HL HUU
  rw [hH] at hbx1 hby hb1
  have HBX := Lib.hid hbx1
  have HBY := Lib.hid hby
  have Hb1 := Lib.hid hb1
  have HH := Lib.hid hH
  have hHl := hbx1.lt
  have hHl' := hby.lt
  have KB := rbranch_any (mk h) W (by rw [mk_size]; exact hh)
  rw [mk_data] at KB
  have het := mk_toList' h
  have hsl := mk_size h
  -- an error: the result's variable is as it was
  have GF := Lib.hid (show ∀ w2, Below W.heap.size W w2 → Blk (((w2.setCell ⟨H + 1, 0, none⟩ (.slice none 0 0)).setCell ⟨H + 1, 1, none⟩ (.string ⟨#[]⟩)).setCell ⟨H + 1, 2, none⟩ (.slice none 0 0)) (H + 1) #[.slice none 0 0, .string ⟨#[]⟩, .slice none 0 0] 45 ∧
      Below w.heap.size w (((w2.setCell ⟨H + 1, 0, none⟩ (.slice none 0 0)).setCell ⟨H + 1, 1, none⟩ (.string ⟨#[]⟩)).setCell ⟨H + 1, 2, none⟩ (.slice none 0 0)) from fun w2 hb2 => by
    refine ⟨by simpa using (((HBY.out.below hb2).set 0 (.slice none 0 0)).set 1 (.string ⟨#[]⟩)).set 2 (.slice none 0 0), ?_⟩
    have hh0 := HH.out
    have hs0 : w.heap.size ≤ W.heap.size := by omega
    exact ((((HH.out ▸ Hb1.out : Below w.heap.size w W).trans (hb2.mono hs0)).setCell (p := ⟨H + 1, 0, none⟩) (by simp; omega) (.slice none 0 0)).setCell (p := ⟨H + 1, 1, none⟩) (by simp; omega) (.string ⟨#[]⟩)).setCell (p := ⟨H + 1, 2, none⟩) (by simp; omega) (.slice none 0 0))
  have GT := Lib.hid (show ∀ w2, Below W.heap.size W w2 → (w2.cell? ⟨H + 1, 0, none⟩ = some (.slice none 0 0) ∧ w2.cell? ⟨H + 1, 1, none⟩ = some (.string ⟨#[]⟩) ∧ w2.cell? ⟨H + 1, 2, none⟩ = some (.slice none 0 0) ∧ w2.frozen? ⟨H + 1, 0, none⟩ = false ∧ w2.frozen? ⟨H + 1, 1, none⟩ = false ∧ w2.frozen? ⟨H + 1, 2, none⟩ = false) from fun w2 hb2 => by
    have t6 := HBY.out.below hb2
    exact ⟨t6.cell 0, t6.cell 1, t6.cell 2, t6.frozen 0, t6.frozen 1, t6.frozen 2⟩)
  obtain ⟨y0, y1, y2, f0, f1, f2⟩ := GT.out _ (Below.refl _ W)
  obtain ⟨HB, hHB⟩ : ∃ X, mk h = X := ⟨_, rfl⟩
  rw [hHB] at KB het hsl ⊢
  have HHB := Lib.hid hHB
  have HET := Lib.hid het
  clear hnR hnL hnU hhd hs hne hu hbx hb0 hby hb1 hbx1 hR hL hU hHB hsl
  by_cases h00 : us = [] ∧ h = []
  · have HE : Hid (mayE t.refs us h = 1) := Lib.hid (by unfold mayE; rw [if_pos h00])
    have hn0 : nU = 0 := by rw [← HNU.out, h00.1]; rfl
    have he0 : HB.toList = [] := by rw [HET.out, h00.2]
    have hn0' : ((nU : Int) == 0) = true := by simp [hn0]
    subst hn0
    clear h00 het hrl hll hul hh KB
    go_enter Tryd.func14, Tryd.ntmps14
    go_wp2
    obtain ⟨tf, hBf⟩ := GF.out _ (Below.refl _ W)
    have z0 := tf.cell 0
    have z1 := tf.cell 1
    have z2 := tf.cell 2
    simp at z0 z1 z2
    refine bodyPost_ret (v := .tuple #[noTbl, .int .i64 1]) ?_ rfl (HRE.out _ 1 HE.out (by decide) hBf)
    rw [results_cell_tmp Tryd.results14]
    unfold noTbl
    go_simp
  · have H00 := Lib.hid h00
    have HMAY := Lib.hid (fun (h1 : (h ≠ [] ∧ branchB h = false) ∨ us.all (fun u => goodB u.name) = false) => mayE_11 (R := t.refs) h00 h1)
    go_enter Tryd.func14, Tryd.ntmps14
    go_upto_region 1 with fail
    go_cut [25] from 19 to 25 (fun s25 wx => s25 = .bool false ∧ W = wx)
    case first =>
      rcases Nat.eq_zero_or_pos nU with hz | hp
      · have hn0' : ((nU : Int) == 0) = true := by simp [hz]
        have hne : (HB.toList == []) = false := beq_eq_false_iff_ne.2 (fun e => h00 ⟨List.length_eq_zero_iff.1 (by rw [HNU.out, hz]), by rw [← HET.out, e]⟩)
        clear h00 het hz
        go_wp2_with fail
        go_meet
        case rel => exact ⟨rfl, rfl⟩
      · have hn0' : ((nU : Int) == 0) = false := by simp; omega
        clear h00 het
        go_wp2_with fail
        go_meet
        case rel => exact ⟨rfl, rfl⟩
    case rest =>
      obtain ⟨rfl, rfl⟩ := hcut
      by_cases hbad : h ≠ [] ∧ branchB h = false
      · have HE : Hid (mayE t.refs us h = 11) := Lib.hid (HMAY.out (.inl hbad))
        have hne : (HB.toList != []) = true := by
          have : HB.toList ≠ [] := by rw [HET.out]; exact hbad.1
          simpa using this
        have hne1 : (!HB.toList.isEmpty) = true := by
          have : HB.toList ≠ [] := by rw [HET.out]; exact hbad.1
          simpa using this
        rw [hbad.2] at KB
        clear hbad h00 het hW hH hrl hll hul
        go_wp2_with (go_at_call 11; refine KB.mono ?_; rintro e w' ⟨rfl, rfl⟩)
        obtain ⟨tf, hBf⟩ := GF.out _ (Below.refl _ _)
        have z0 := tf.cell 0
        have z1 := tf.cell 1
        have z2 := tf.cell 2
        simp at z0 z1 z2
        refine bodyPost_ret (v := .tuple #[noTbl, .int .i64 11]) ?_ rfl (HRE.out _ 11 HE.out (by decide) hBf)
        rw [results_cell_tmp Tryd.results14]
        unfold noTbl
        go_simp
      · go_upto_region 3 with fail
        go_cut [33] from 27 to 33 (fun s33 wx => s33 = .bool false ∧ W = wx)
        case first =>
          by_cases hh0 : h = []
          · have hne : HB.toList = [] := by rw [HET.out, hh0]
            clear h00 het hbad hh0
            go_wp2_with fail
            go_meet
            case rel => exact ⟨rfl, rfl⟩
          · have hbr : branchB h = true := by
              cases hq : branchB h with
              | true => rfl
              | false => exact absurd ⟨hh0, hq⟩ hbad
            have hne1 : (!HB.toList.isEmpty) = true := by
              have : HB.toList ≠ [] := by rw [HET.out]; exact hh0
              simpa using this
            rw [hbr] at KB
            clear hbad h00 het hW hH hrl hll hul hbr hh0
            go_wp2_with (go_at_call 11; refine (KB.mono fun e w'' h => (⟨h.1, h.2.symm⟩ : e = .returned (.bool true) ∧ W = w'')).mono ?_; rintro e w' ⟨rfl, rfl⟩)
            go_meet
            case rel => exact ⟨rfl, rfl⟩
        case rest =>
          obtain ⟨rfl, rfl⟩ := hcut
          have HBAD := Lib.hid hbad
          clear hbad h00 het KB
          have hcell : Hid (∀ j (hj : j < us.length), ∃ g o, A' = some ⟨g, o, none⟩ ∧ g < W.heap.size ∧ W.cell? ⟨g, o + j * 3, none⟩ = some (.string (mk us[j].name)) ∧ W.cell? ⟨g, o + j * 3 + 1, none⟩ = some (.string (mk us[j].old)) ∧ W.cell? ⟨g, o + j * 3 + 2, none⟩ = some (.string (mk us[j].new))) := Lib.hid fun j hj => by
            obtain ⟨g, o, hA, hg, hc⟩ := HUU.out (by rw [ucells_length]; omega)
            obtain ⟨q0, q1, q2⟩ := ucells_at us j hj
            exact ⟨g, o, hA, hg, hc _ _ q0, hc _ _ q1, hc _ _ q2⟩
          go_wp2
          clear hW hH
          go_loop [8] (fun iv => ∃ k : Nat, k ≤ nU ∧ iv = .int .i64 k ∧ Hid (∀ u ∈ us.take k, goodB u.name = true)) (fun iv => nU - (intOf iv).toNat)
          case atStart => exact ⟨0, by omega, rfl, Lib.hid (fun u hu => by simp at hu)⟩
          case round =>
            obtain ⟨k, hk, rfl, HK⟩ := hrel
            have k0 : (0 : Int) ≤ (k : Int) := by omega
            have k9 : (k : Int) ≤ 1000 := by omega
            rcases Nat.lt_or_ge k nU with hlt | hge
            · have k1 : (k : Int) < (nU : Int) := by omega
              have hkl : k < us.length := by rw [HNU.out]; exact hlt
              obtain ⟨g, o, rfl, hg, d0, _, _⟩ := hcell.out k hkl
              have KG := ref_any (mk us[k].name) W (by rw [mk_size]; exact HU.out _ (List.getElem_mem hkl))
              rw [mk_data] at KG
              have hmem := List.getElem_mem hkl
              have htk : us.take (k + 1) = us.take k ++ [us[k]] := List.take_succ_eq_append_getElem hkl
              obtain ⟨u, hu⟩ : ∃ u, us[k] = u := ⟨_, rfl⟩
              rw [hu] at d0 KG hmem htk
              obtain ⟨X, hX⟩ : ∃ X, mk u.name = X := ⟨_, rfl⟩
              rw [hX] at d0 KG
              have HM := Lib.hid hmem
              have HTK := Lib.hid htk
              clear hmem htk hu hX
              cases hg : goodB u.name with
              | false =>
                rw [hg] at KG
                have HE : Hid (mayE t.refs us h = 11) := Lib.hid (HMAY.out (.inr (by
                  rw [List.all_eq_false]; exact ⟨u, HM.out, by simp [hg]⟩)))
                clear hg
                go_wp2_with (go_at_call 9; refine (KG.mono fun e w'' h => (⟨h.1, h.2.symm⟩ : e = .returned (.bool false) ∧ W = w'')).mono ?_; rintro e w' ⟨rfl, rfl⟩)
                obtain ⟨tf, hBf⟩ := GF.out _ (Below.refl _ _)
                have z0 := tf.cell 0
                have z1 := tf.cell 1
                have z2 := tf.cell 2
                simp at z0 z1 z2
                refine bodyPost_ret (v := .tuple #[noTbl, .int .i64 11]) ?_ rfl (HRE.out _ 11 HE.out (by decide) hBf)
                rw [results_cell_tmp Tryd.results14]
                unfold noTbl
                go_simp
              | true =>
                rw [hg] at KG
                have HG := Lib.hid hg
                clear hg
                go_wp2_with (go_at_call 9; refine (KG.mono fun e w'' h => (⟨h.1, h.2.symm⟩ : e = .returned (.bool true) ∧ W = w'')).mono ?_; rintro e w' ⟨rfl, rfl⟩)
                go_round
                case rel => exact ⟨k + 1, by omega, by go_num, Lib.hid (fun x hx => by
                  rw [HTK.out] at hx
                  rcases List.mem_append.1 hx with h1 | h1
                  · exact HK.out x h1
                  · simp at h1; subst h1; exact HG.out)⟩
                case measure => simp [intOf]; omega
            · obtain rfl : k = nU := by omega
              have HGOOD : Hid (us.all (fun u => goodB u.name) = true) := Lib.hid (by
                rw [List.all_eq_true]; intro u hu
                exact HK.out u (by rw [List.take_of_length_le (by rw [HNU.out]; exact Nat.le_refl _)]; exact hu))
              have HM2 : Hid (mayE t.refs us h = if okU (fun _ => false) us = false then 1 else if freshU t.refs us = false then 13 else 0) := Lib.hid (by
                unfold mayE
                rw [if_neg H00.out, if_neg (by
                  rintro (h1 | h1)
                  · exact HBAD.out h1
                  · rw [HGOOD.out] at h1; cases h1)])
              clear HK
              go_wp2
              clear y0 y1 y2 f0 f1 f2
              go_loopw [9, 10] (fun iv _ wr => ∃ i : Nat, i ≤ k ∧ iv = .int .i64 i ∧ Below W.heap.size W wr ∧ Hid (∀ j (hj : j < us.length), j < i → rightU us[j] = true ∧ ∀ p (hp : p < us.length), p < j → us[p].name ≠ us[j].name)) (fun iv _ _ => k - (intOf iv).toNat)
              case atStart => exact ⟨0, by omega, rfl, Below.refl _ _, Lib.hid (fun j _ h => by omega)⟩
              case round =>
                obtain ⟨i, hi, rfl, hb, HI⟩ := hrel
                rename World => wA
                have i0 : (0 : Int) ≤ (i : Int) := by omega
                have i9 : (i : Int) ≤ 1000 := by omega
                have HBA := Lib.hid hb
                clear hb
                rcases Nat.lt_or_ge i k with hlt | hge
                · have i1 : (i : Int) < (k : Int) := by omega
                  have hil : i < us.length := by rw [HNU.out]; exact hlt
                  obtain ⟨g, o, rfl, hg, d0, d1, d2⟩ := hcell.out i hil
                  obtain ⟨u, hu⟩ : ∃ u, us[i] = u := ⟨_, rfl⟩
                  rw [hu] at d0 d1 d2
                  have HUi := Lib.hid hu
                  have t0 := mk_toList' u.name
                  obtain ⟨X, hX⟩ : ∃ X, mk u.name = X := ⟨_, rfl⟩
                  obtain ⟨Y, hY⟩ : ∃ X, mk u.old = X := ⟨_, rfl⟩
                  obtain ⟨Z, hZ⟩ : ∃ X, mk u.new = X := ⟨_, rfl⟩
                  rw [hX] at d0 t0
                  rw [hY] at d1
                  rw [hZ] at d2
                  have D0 := Lib.hid d0
                  have D1 := Lib.hid d1
                  have D2 := Lib.hid d2
                  have HT0 := Lib.hid t0
                  have KR := fun w' => rright_any u w'
                  unfold uval at KR
                  rw [hX, hY, hZ] at KR
                  have HKR := Lib.hid KR
                  clear hu hX hY hZ d0 d1 d2 t0 KR
                  go_wp2
                  go_loopw [10] (fun pv wr => ∃ p : Nat, p ≤ i ∧ pv = .int .i64 p ∧ Below W.heap.size W wr ∧ Hid (∀ q (hq : q < us.length), q < p → us[q].name ≠ u.name)) (fun pv _ => i - (intOf pv).toNat)
                  case atStart => exact ⟨0, by omega, rfl, HBA.out, Lib.hid (fun q _ h => by omega)⟩
                  case round =>
                    obtain ⟨p, hp, rfl, hb, HP⟩ := hrel
                    have p0 : (0 : Int) ≤ (p : Int) := by omega
                    have p9 : (p : Int) ≤ 1000 := by omega
                    have d0 := (hb.cell (p := ⟨g, o + i * 3, none⟩) hg).trans D0.out
                    rcases Nat.lt_or_ge p i with hlp | hgp
                    · have p1 : (p : Int) < (i : Int) := by omega
                      have p2 : (p : Int) < (k : Int) := by omega
                      have hpl : p < us.length := by rw [HNU.out]; omega
                      obtain ⟨g2, o2, hgg, _, c0, _, _⟩ := hcell.out p hpl
                      injection hgg with hgg
                      injection hgg with hg1 hg2 _
                      subst hg1
                      subst hg2
                      have b0 := (hb.cell (p := ⟨g, o + p * 3, none⟩) hg).trans c0
                      have t1 := mk_toList' us[p].name
                      obtain ⟨V, hV⟩ : ∃ X, mk us[p].name = X := ⟨_, rfl⟩
                      rw [hV] at b0 t1
                      have HB0 := Lib.hid hb
                      have t0 := HT0.out
                      by_cases he : us[p].name = u.name
                      · have hee : (V.toList == X.toList) = true := by rw [t1, t0, he]; simp
                        have HE : Hid (mayE t.refs us h = 1) := Lib.hid (by
                          rw [HM2.out, if_pos]
                          cases hq : okU (fun _ => false) us with
                          | false => rfl
                          | true =>
                            have h2 := ((okU_iff us _).1 hq).2
                            rw [List.pairwise_iff_getElem] at h2
                            exact absurd (he.trans (by rw [HUi.out])) (h2 p i hpl hil hlp))
                        clear he t0 t1 hV c0 hb
                        go_wp2_with fail
                        go_quiet (fail)
                        obtain ⟨y0, y1, y2, f0, f1, f2⟩ := GT.out _ (HB0.out.trans (Go.Joins.below_draws _ wr nq))
                        go_wp2
                        obtain ⟨tf, hBf⟩ := GF.out _ (HB0.out.trans (Go.Joins.below_draws _ wr nq))
                        have z0 := tf.cell 0
                        have z1 := tf.cell 1
                        have z2 := tf.cell 2
                        simp at z0 z1 z2
                        refine bodyPost_ret (v := .tuple #[noTbl, .int .i64 1]) ?_ rfl (HRE.out _ 1 HE.out (by decide) hBf)
                        rw [results_cell_tmp Tryd.results14]
                        unfold noTbl
                        go_simp
                      · have hee : (V.toList == X.toList) = false := by rw [t1, t0]; simpa using he
                        have HE := Lib.hid he
                        clear he t0 t1 hV c0 hb
                        go_wp2_with fail
                        go_quiet (fail)
                        go_wp2
                        go_roundw
                        case rel => exact ⟨p + 1, by omega, by go_num, HB0.out.trans (Go.Joins.below_draws _ _ _), Lib.hid (fun q hq hqp => by
                          rcases Nat.lt_or_ge q p with h1 | h1
                          · exact HP.out q hq h1
                          · obtain rfl : q = p := by omega
                            exact HE.out)⟩
                        case measure => simp [intOf]; omega
                    · obtain rfl : p = i := by omega
                      have d1 := (hb.cell (p := ⟨g, o + p * 3 + 1, none⟩) hg).trans D1.out
                      have d2 := (hb.cell (p := ⟨g, o + p * 3 + 2, none⟩) hg).trans D2.out
                      have KR := HKR.out wr
                      have HB0 := Lib.hid hb
                      clear hb
                      cases hr : rightU u with
                      | false =>
                        rw [hr] at KR
                        have HE : Hid (mayE t.refs us h = 1) := Lib.hid (by
                          rw [HM2.out, if_pos]
                          cases hq : okU (fun _ => false) us with
                          | false => rfl
                          | true =>
                            have h2 := (((okU_iff us _).1 hq).1 us[p] (List.getElem_mem hil)).2
                            rw [HUi.out, hr] at h2; cases h2)
                        clear hr
                        go_wp2_with (go_at_call 33; refine KR.mono ?_; rintro e w' ⟨rfl, hb'⟩; have HB' := Lib.hid (below_step HB0.out hb'); clear hb'; obtain ⟨y0, y1, y2, f0, f1, f2⟩ := GT.out _ HB'.out)
                        obtain ⟨tf, hBf⟩ := GF.out _ HB'.out
                        have z0 := tf.cell 0
                        have z1 := tf.cell 1
                        have z2 := tf.cell 2
                        simp at z0 z1 z2
                        refine bodyPost_ret (v := .tuple #[noTbl, .int .i64 1]) ?_ rfl (HRE.out _ 1 HE.out (by decide) hBf)
                        rw [results_cell_tmp Tryd.results14]
                        unfold noTbl
                        go_simp
                      | true =>
                        rw [hr] at KR
                        have HR2 := Lib.hid hr
                        clear hr
                        go_wp2_with (go_at_call 33; refine KR.mono ?_; rintro e w' ⟨rfl, hb'⟩; have HB' := Lib.hid (below_step HB0.out hb'); clear hb')
                        go_roundw
                        case rel => exact ⟨p + 1, by omega, by go_num, HB'.out, Lib.hid (fun j hj hjp => by
                          rcases Nat.lt_or_ge j p with h1 | h1
                          · exact HI.out j hj h1
                          · obtain rfl : j = p := by omega
                            rw [HUi.out]
                            exact ⟨HR2.out, fun q hq hqj => HP.out q hq hqj⟩)⟩
                        case measure => simp [intOf]; omega
                · obtain rfl : i = k := by omega
                  have hpw : us.Pairwise (fun a b => a.name ≠ b.name) := by
                    rw [List.pairwise_iff_getElem]
                    intro p q hp hq hpq
                    exact (HI.out q hq (by have := HNU.out; omega)).2 p hp hpq
                  have HPW := Lib.hid hpw
                  have HRT : Hid (∀ u ∈ us, rightU u = true) := Lib.hid fun u hu => by
                    obtain ⟨q, hq, rfl⟩ := List.getElem_of_mem hu
                    exact (HI.out q hq (by have := HNU.out; omega)).1
                  have HM3 : Hid (mayE t.refs us h = if freshU t.refs us = false then 13 else 0) := Lib.hid (by
                    rw [HM2.out, if_neg]
                    rw [Bool.not_eq_false]
                    exact (okU_iff us _).2 ⟨fun u hu => ⟨rfl, HRT.out u hu⟩, HPW.out⟩)
                  clear hpw HI
                  go_wp2
                  go_loopw [11] (fun iv wr => ∃ j : Nat, j ≤ i ∧ iv = .int .i64 j ∧ Below W.heap.size W wr ∧ Hid (∀ q (hq : q < us.length), q < j → (getR t.refs us[q].name).getD [] = us[q].old)) (fun iv _ => i - (intOf iv).toNat)
                  case atStart => exact ⟨0, by omega, rfl, HBA.out, Lib.hid (fun q _ h => by omega)⟩
                  case round =>
                    obtain ⟨j, hj, rfl, hb, HF⟩ := hrel
                    have j0 : (0 : Int) ≤ (j : Int) := by omega
                    have j9 : (j : Int) ≤ 1000 := by omega
                    rcases Nat.lt_or_ge j i with hlt2 | hge2
                    · have j1 : (j : Int) < (i : Int) := by omega
                      have hjl : j < us.length := by rw [HNU.out]; exact hlt2
                      obtain ⟨g, o, rfl, hg, d0, d1, d2⟩ := hcell.out j hjl
                      have b0 := (hb.cell (p := ⟨g, o + j * 3, none⟩) hg).trans d0
                      have b1 := (hb.cell (p := ⟨g, o + j * 3 + 1, none⟩) hg).trans d1
                      have x0 := (HBX.out.below hb).cell 0
                      have x1 := (HBX.out.below hb).cell 1
                      have x2 := (HBX.out.below hb).cell 2
                      simp at x0 x1 x2
                      have KG := fun (ww : World) (h2 : Below wr.heap.size wr ww) => by
                        have hbw := hb.trans (h2.mono hb.size)
                        have hT : RTblAt ww t (.agg #[.slice A nR cA, .string hd, .slice B nL cB]) := ⟨A, cA, B, cB, by rw [HNR.out, HNL.out, HHD.out], HR.out.below (Nat.le_refl _) hbw, HL.out.below (Nat.le_refl _) hbw⟩
                        exact rget_any t _ us[j].name ww hT (by rw [HNR.out]; exact hrl)
                      have t1 := mk_toList' us[j].old
                      have t2 := mk_toList' ((getR t.refs us[j].name).getD [])
                      obtain ⟨u, hu⟩ : ∃ u, us[j] = u := ⟨_, rfl⟩
                      rw [hu] at b0 b1 t1 t2 KG
                      have HUj := Lib.hid hu
                      obtain ⟨X, hX⟩ : ∃ X, mk u.name = X := ⟨_, rfl⟩
                      obtain ⟨Y, hY⟩ : ∃ X, mk u.old = X := ⟨_, rfl⟩
                      obtain ⟨V, hV⟩ : ∃ X, mk ((getR t.refs u.name).getD []) = X := ⟨_, rfl⟩
                      rw [hX, hV] at KG
                      rw [hX] at b0
                      rw [hY] at b1 t1
                      rw [hV] at t2
                      have HB0 := Lib.hid hb
                      have hgw : g < wr.heap.size := Nat.lt_of_lt_of_le hg hb.size
                      have hHw : H < wr.heap.size := Nat.lt_of_lt_of_le hHl hb.size
                      obtain ⟨eq, heq⟩ : ∃ b, (V.toList == Y.toList) = b := ⟨_, rfl⟩
                      have HEQ := Lib.hid heq
                      have HT1 := Lib.hid t1
                      have HT2 := Lib.hid t2
                      clear d0 d1 d2 t1 t2 hu hX hY hV hb
                      go_wp2_with fail
                      go_region_held3 (fun w' => w'.cell? ⟨H, 0, none⟩ = some (.slice A nR cA) ∧ w'.cell? ⟨H, 1, none⟩ = some (.string hd) ∧ w'.cell? ⟨H, 2, none⟩ = some (.slice B nL cB) ∧ w'.cell? ⟨g, o + j * 3, none⟩ = some (.string X) ∧ w'.cell? ⟨g, o + j * 3 + 1, none⟩ = some (.string Y))
                        (first | (go_keep) | (exact ⟨(h1.cell (p := ⟨H, 0, none⟩) hHw).trans x0, (h1.cell (p := ⟨H, 1, none⟩) hHw).trans x1, (h1.cell (p := ⟨H, 2, none⟩) hHw).trans x2, (h1.cell (p := ⟨g, o + j * 3, none⟩) hgw).trans b0, (h1.cell (p := ⟨g, o + j * 3 + 1, none⟩) hgw).trans b1⟩))
                        (first
                          | (go_at_call 34; (with_reducible refine (KG _ (by first | exact Below.refl _ _ | exact (Below.refl _ _).drew)).mono ?_); rintro e wx ⟨rfl, h10⟩; first | (have h1 := below_step (Below.refl _ wr).drew h10) | (have h1 := h10))
                          | fail)
                      all_goals
                        have H1 := Lib.hid (below_step HB0.out h1)
                        clear h1 KG h10 x0 x1 x2 b0 b1 heq
                        have heq := HEQ.out
                        obtain ⟨y0, y1, y2, f0, f1, f2⟩ := GT.out _ H1.out
                        cases eq with
                        | false =>
                          have HE : Hid (mayE t.refs us h = 13) := Lib.hid (by
                            rw [HM3.out, if_pos]
                            unfold freshU
                            rw [List.all_eq_false]
                            refine ⟨u, by rw [← HUj.out]; exact List.getElem_mem hjl, ?_⟩
                            have := HEQ.out
                            rw [HT1.out, HT2.out] at this
                            simpa using this)
                          go_wp2
                          obtain ⟨tf, hBf⟩ := GF.out _ H1.out
                          have z0 := tf.cell 0
                          have z1 := tf.cell 1
                          have z2 := tf.cell 2
                          simp at z0 z1 z2
                          refine bodyPost_ret (v := .tuple #[noTbl, .int .i64 13]) ?_ rfl (HRE.out _ 13 HE.out (by decide) hBf)
                          rw [results_cell_tmp Tryd.results14]
                          unfold noTbl
                          go_simp
                        | true =>
                          go_wp2
                          go_roundw
                          case rel => exact ⟨j + 1, by omega, by go_num, H1.out, Lib.hid (fun q hq hqj => by
                            rcases Nat.lt_or_ge q j with h2 | h2
                            · exact HF.out q hq h2
                            · obtain rfl : q = j := by omega
                              rw [HUj.out]
                              have := HEQ.out
                              rw [HT1.out, HT2.out] at this
                              simpa using this)⟩
                          case measure => simp [intOf]; omega
                    · obtain rfl : j = i := by omega
                      have HE0 : Hid (mayE t.refs us h = 0) := Lib.hid (by
                        rw [HM3.out, if_neg]
                        rw [Bool.not_eq_false]
                        unfold freshU
                        rw [List.all_eq_true]
                        intro u hu
                        obtain ⟨q, hq, rfl⟩ := List.getElem_of_mem hu
                        simpa using HF.out q hq (by have := HNU.out; omega))
                      have HFR : Hid (∀ u ∈ us, (getR t.refs u.name).getD [] = u.old) := Lib.hid fun u hu => by
                        obtain ⟨q, hq, rfl⟩ := List.getElem_of_mem hu
                        exact HF.out q hq (by have := HNU.out; omega)
                      have x0 := (HBX.out.below hb).cell 0
                      have x1 := (HBX.out.below hb).cell 1
                      have x2 := (HBX.out.below hb).cell 2
                      simp at x0 x1 x2
                      have HB0 := Lib.hid hb
                      have hHw : H < wr.heap.size := Nat.lt_of_lt_of_le hHl hb.size
                      clear HF hb HM3 HM2 HMAY HBAD
                      go_upto_if 103 with fail
                      obtain ⟨HD2, hHD2⟩ : ∃ X, mk (if h = [] then t.head else h) = X := ⟨_, rfl⟩
                      have HHD2 := Lib.hid hHD2
                      clear hHD2
                      have hbn := Blk.new wr #[.slice none 0 0, .string hd, .slice none 0 0] 45
                      have hbw := below_alloc wr (.cells #[.slice none 0 0, .string hd, .slice none 0 0] 45)
                      have HBN := Lib.hid hbn
                      have HBWN := Lib.hid hbw
                      obtain ⟨N, hN⟩ : ∃ N, wr.heap.size = N := ⟨_, rfl⟩
                      have HNN := Lib.hid hN
                      rw [hN]
                      clear hN hbn hbw
                      go_cut [103] from 104 to 105 (fun _ wx => Blk wx N #[.slice none 0 0, .string HD2, .slice none 0 0] 45 ∧ Below N wr wx)
                      case first =>
                        have hn0 := HNN.out ▸ HBN.out
                        have n1 := hn0.cell 1
                        have nf := hn0.frozen 1
                        simp at n1
                        by_cases hh0 : h = []
                        · have hne : HB.toList = [] := by rw [HET.out, hh0]
                          have HD : Hid (HD2 = hd) := Lib.hid (by rw [← HHD2.out, if_pos hh0, HHD.out])
                          rw [show (!HB.toList.isEmpty) = false by rw [hne]; rfl]
                          clear hh0 hn0 hne
                          go_wp2_with fail
                          go_meet
                          case rel => exact ⟨by rw [HD.out]; exact HNN.out ▸ HBN.out, HNN.out ▸ HBWN.out⟩
                        · have hne1 : (!HB.toList.isEmpty) = true := by
                            have : HB.toList ≠ [] := by rw [HET.out]; exact hh0
                            simpa using this
                          have HD : Hid (HD2 = HB) := Lib.hid (by rw [← HHD2.out, if_neg hh0, HHB.out])
                          rw [hne1]
                          clear hh0 hn0
                          go_wp2_with fail
                          go_meet
                          case rel =>
                            refine ⟨?_, (HNN.out ▸ HBWN.out).setCell (p := ⟨N, 1, none⟩) (Nat.le_refl _) _⟩
                            have := (HNN.out ▸ HBN.out).set 1 (.string HB)
                            rw [HD.out]
                            simpa using this
                      case rest =>
                        rename World => w1
                        obtain ⟨hn1, hb1⟩ := hcut
                        have hb1' : Below wr.heap.size wr w1 := by rw [HNN.out]; exact hb1
                        have n2 := hn1.cell 2
                        have nf := hn1.frozen 2
                        have hNl := hn1.lt
                        simp at n2
                        have hHw1 : H < w1.heap.size := by have := hb1'.size; omega
                        have hHN : H < N := by rw [← HNN.out]; exact hHw
                        have z2 := (hb1'.cell (p := ⟨H, 2, none⟩) hHw).trans x2
                        have HB1 := Lib.hid (HB0.out.trans (hb1'.mono HB0.out.size))
                        have HN1 := Lib.hid hn1
                        have LB := HL.out.below (Nat.le_refl _) HB1.out
                        have LU := Lib.hid (HUU.out.below (Nat.le_refl _) HB1.out)
                        have hWN : W.heap.size ≤ N := by rw [← HNN.out]; exact HB0.out.size
                        clear x0 x1 x2 hn1 hb1
                        go_upto_region 28 with fail
                        go_wp2_with (at_builtin; refine wpList_app rfl (.tmp 107) (.tmp 109) 32 66 rfl i66 _ 3 48 Tryd.underlying32 hi66 hz660 hz661 hz662 rfl (by decide) w1.heap.size (.slice none 0 0) rfl 0 [] (World.ownsRow_nil _ _ _ _) B nL cB rfl (ucells t.log) (by rw [ucells_length, HNL.out]) LB (ucells_one _) (by omega) (by decide) (Nat.le_refl _) ?_)
                        intro A5 c5 w2 ho2 hg2
                        have hn2' := HN1.out.grown hg2 (by simp [Value.ownBlock])
                        have hb2 : Below w1.heap.size w1 w2 := (Below.refl _ w1).grown hg2 (Nat.le_refl _) (by simp [Value.ownBlock])
                        have HO2 := Lib.hid ho2
                        have HB2 := Lib.hid hb2
                        have HN2 := Lib.hid hn2'
                        have q2 := hn2'.cell 2
                        have qf := hn2'.frozen 2
                        have hN2 := hn2'.lt
                        simp at q2
                        clear ho2 hg2 hn2' hb2 n2 nf z2 LB
                        go_upto_region 29 with fail
                        have r2 : Blk (w2.setCell ⟨N, 2, none⟩ (.slice A5 nL c5)) N #[.slice none 0 0, .string HD2, .slice A5 nL c5] 45 := by simpa using HN2.out.set 2 (.slice A5 nL c5)
                        have ho3 : (w2.setCell ⟨N, 2, none⟩ (.slice A5 nL c5)).ownsRow w1.heap.size 66 3 (.slice A5 nL c5) nL (ucells t.log) := own_set HO2.out HN2.out (by decide) 2 _
                        obtain ⟨w3, hw3⟩ : ∃ x, w2.setCell ⟨N, 2, none⟩ (.slice A5 nL c5) = x := ⟨_, rfl⟩
                        rw [hw3] at r2 ho3 ⊢
                        have hNw1 : N < w1.heap.size := HN1.out.lt
                        have hb3 : Below N w1 w3 := by
                          rw [← hw3]; exact (HB2.out.mono (Nat.le_of_lt hNw1)).setCell (p := ⟨N, 2, none⟩) (Nat.le_refl _) _
                        have hbW3 := HB1.out.trans (hb3.mono hWN)
                        have LU3 := HUU.out.below (Nat.le_refl _) hbW3
                        have q2 := r2.cell 2
                        have qf := r2.frozen 2
                        have hN3 := r2.lt
                        simp at q2
                        have HR2 := Lib.hid r2
                        have HO3 := Lib.hid ho3
                        have Hb3 := Lib.hid hb3
                        clear r2 hw3 hbW3
                        go_wp2_with (at_builtin; refine wpList_app rfl (.tmp 113) (.tmp 114) 32 66 rfl i66 _ 3 48 Tryd.underlying32 hi66 hz660 hz661 hz662 rfl (by decide) w1.heap.size (.slice A5 nL c5) rfl nL (ucells t.log) HO3.out A' j cap' rfl (ucells us) (by rw [ucells_length, HNU.out]) LU3 (ucells_one _) (by omega) (by decide) (by have := Hb3.out.size; omega) ?_)
                        intro A6 c6 w4 ho4 hg4
                        have hne4 := own_ne_blk HO3.out HR2.out (by decide)
                        have hb4 : Below N w1 w4 := Hb3.out.grown hg4 (by omega) (fun b e => by have := (HO3.out.lt b e).1; omega)
                        have hn4 := HR2.out.grown hg4 hne4
                        have hlen4 : (ucells t.log ++ ucells us) = ucells (t.log ++ us) := (ucells_app _ _).symm
                        rw [hlen4] at ho4
                        have hcap6 : nL + j ≤ c6 := row_cap' ho4
                        have r4 : Blk (w4.setCell ⟨N, 2, none⟩ (.slice A6 (nL + j) c6)) N #[.slice none 0 0, .string HD2, .slice A6 (nL + j) c6] 45 := by simpa using hn4.set 2 (.slice A6 (nL + j) c6)
                        have l4 : Lies (w4.setCell ⟨N, 2, none⟩ (.slice A6 (nL + j) c6)) A6 (ucells (t.log ++ us)) := Lies.of_row (own_set ho4 hn4 (by decide) 2 _)
                        have t4 : Typed (w4.setCell ⟨N, 2, none⟩ (.slice A6 (nL + j) c6)) A6 66 := Typed.of_row (own_set ho4 hn4 (by decide) 2 _)
                        have hb5 : Below N w1 (w4.setCell ⟨N, 2, none⟩ (.slice A6 (nL + j) c6)) := hb4.setCell (p := ⟨N, 2, none⟩) (Nat.le_refl _) _
                        have q4 := hn4.cell 2
                        have qf4 := hn4.frozen 2
                        have hN4 := hn4.lt
                        simp at q4
                        obtain ⟨LL, hLL⟩ : ∃ x, nL + j = x := ⟨_, rfl⟩
                        have HLL := Lib.hid hLL
                        have hLb : LL ≤ 101000 := by omega
                        rw [hLL] at r4 l4 t4 hb5 hcap6 ⊢
                        have HR4 := Lib.hid r4
                        have HL4 := Lib.hid l4
                        have HT4 := Lib.hid t4
                        have Hb5 := Lib.hid hb5
                        have HC6 := Lib.hid hcap6
                        clear hLL r4 l4 t4 hb5 hb4 hn4 ho4 hg4 hlen4 hne4 LU3 q2 qf hb3 ho3 hcap6
                        go_wp2
                        clear q4 qf4
                        go_loopw [117, 118, 119, 120] (fun _ _ _ _ wr => ∃ (d : Nat) (Ad : Option Addr) (cd : Nat), d ≤ LL ∧ (d = 0 ∨ 256 ≤ LL - d) ∧ LL - d ≤ cd ∧ Blk wr N #[.slice none 0 0, .string HD2, .slice Ad (LL - d) cd] 45 ∧ Lies wr Ad (ucells ((t.log ++ us).drop d)) ∧ Typed wr Ad 66 ∧ Below N w1 wr) (fun _ _ _ _ wr => match wr.cell? ⟨N, 2, none⟩ with | some (.slice _ n _) => n | _ => 0)
                        case atStart => exact ⟨0, A6, c6, by omega, .inl rfl, HC6.out, HR4.out, HL4.out, HT4.out, Hb5.out⟩
                        case round =>
                          obtain ⟨d, Ad, cd, hd, hd2, hcd, hbl, hli, hty, hbw⟩ := hrel
                          obtain ⟨M, hM⟩ : ∃ x, LL - d = x := ⟨_, rfl⟩
                          rw [hM] at hd2 hcd hbl
                          have v2 := hbl.cell 2
                          have vf := hbl.frozen 2
                          have vN := hbl.lt
                          simp at v2
                          have hMb : M ≤ 101000 := by omega
                          have m0 : (0 : Int) ≤ (M : Int) := by omega
                          have HM' := Lib.hid hM
                          clear hM
                          rcases Nat.lt_or_ge 256 M with hgt | hle
                          · have hgt' : (256 : Int) < (M : Int) := by omega
                            have hsl : ∀ w' : World, (Instr.slice 32 (.slice Ad M cd) (some (.int .i64 1)) none none).run Tryd.prog w' = .ok (.slice (if cd = 1 then Ad else Ad.map (·.add (1 * 3))) (M - 1) (cd - 1)) w' := fun w' => cut_log32 Ad M cd 1 w' (by omega)
                            have hdl : ((t.log ++ us).drop d).length = M := by
                              have h1 := HNL.out
                              have h2 := HNU.out
                              have h3 := HLL.out
                              have h4 := HM'.out
                              rw [List.length_drop, List.length_append]; omega
                            have hcut := hli.cut (c := cd) (lo := 1) (by rw [hdl]; exact hcd) (by rw [hdl]; omega)
                            rw [List.drop_drop] at hcut
                            obtain ⟨A7, hA7⟩ : ∃ x, (if cd = 1 then Ad else Ad.map (·.add (1 * 3))) = x := ⟨_, rfl⟩
                            rw [hA7] at hcut
                            simp only [hA7] at hsl
                            have hb' := hbl.set 2 (.slice A7 (M - 1) (cd - 1))
                            have ht7 : Typed wr A7 66 := by rw [← hA7]; exact hty.cut _ _ _
                            have hl' := lies_set hcut ht7 hbl (by decide) 2 (.slice A7 (M - 1) (cd - 1))
                            have ht' := typed_set ht7 hbl (by decide) 2 (.slice A7 (M - 1) (cd - 1))
                            have hw' := hbw.setCell (p := ⟨N, 2, none⟩) (Nat.le_refl _) (.slice A7 (M - 1) (cd - 1))
                            have hc' := hb'.cell 2
                            simp at hb' hc'
                            have HR5 := Lib.hid (And.intro hb' (And.intro hl' (And.intro ht' hw')))
                            have HCC := Lib.hid (And.intro hc' v2)
                            clear hb' hl' ht' hw' hc' hbl hli hty hbw hcut hdl hA7 ht7
                            go_wp2
                            go_roundw
                            case rel =>
                              have hm := HM'.out
                              refine ⟨d + 1, A7, cd - 1, by omega, .inr (by omega), by omega, ?_, HR5.out.2.1, HR5.out.2.2.1, HR5.out.2.2.2⟩
                              rw [show LL - (d + 1) = M - 1 by omega]
                              exact HR5.out.1
                            case measure =>
                              rw [HCC.out.1, HCC.out.2]
                              simp; omega
                          · have HR6 := Lib.hid (And.intro hbl (And.intro hli (And.intro hty hbw)))
                            clear hbl hli hty hbw
                            rename World => W5
                            have hlog : Hid ((t.log ++ us).drop d = (t.log ++ us).drop ((t.log ++ us).length - 256) ∧ ((t.log ++ us).drop d).length = M) := Lib.hid (by
                              have h1 := HNL.out
                              have h2 := HNU.out
                              have h3 := HLL.out
                              have h4 := HM'.out
                              refine ⟨?_, by rw [List.length_drop, List.length_append]; omega⟩
                              congr 1
                              rw [List.length_append]; omega)
                            have hx0 : Hid (∀ w', Below N W5 w' → w'.cell? ⟨H, 0, none⟩ = some (.slice A nR cA) ∧ ∀ j (hj : j < us.length), ∃ g o, A' = some ⟨g, o, none⟩ ∧ g < N ∧ w'.cell? ⟨g, o + j * 3, none⟩ = some (.string (mk us[j].name)) ∧ w'.cell? ⟨g, o + j * 3 + 1, none⟩ = some (.string (mk us[j].old)) ∧ w'.cell? ⟨g, o + j * 3 + 2, none⟩ = some (.string (mk us[j].new))) := Lib.hid fun w' hb => by
                              have hbW : Below W.heap.size W w' := (HB1.out.trans (HR6.out.2.2.2.mono hWN)).trans (hb.mono hWN)
                              refine ⟨(HBX.out.below hbW).cell 0, fun j hj => ?_⟩
                              obtain ⟨g, o, hA, hg, c0, c1, c2⟩ := hcell.out j hj
                              exact ⟨g, o, hA, Nat.lt_of_lt_of_le hg hWN, (hbW.cell (p := ⟨g, o + j * 3, none⟩) hg).trans c0, (hbW.cell (p := ⟨g, o + j * 3 + 1, none⟩) hg).trans c1, (hbW.cell (p := ⟨g, o + j * 3 + 2, none⟩) hg).trans c2⟩
                            have hxr : Hid (∀ w', Below N W5 w' → ∀ j (hj : j < t.refs.length), ∃ g o, A = some ⟨g, o, none⟩ ∧ g < N ∧ w'.cell? ⟨g, o + j * 2, none⟩ = some (.string (mk t.refs[j].1)) ∧ w'.cell? ⟨g, o + j * 2 + 1, none⟩ = some (.string (mk t.refs[j].2))) := Lib.hid fun w' hb j hj => by
                              have hbW : Below W.heap.size W w' := (HB1.out.trans (HR6.out.2.2.2.mono hWN)).trans (hb.mono hWN)
                              obtain ⟨g, o, hA, hg, hc⟩ := HR.out (by rw [rcells_length]; omega)
                              obtain ⟨q0, q1⟩ := rcells_at t.refs j hj
                              exact ⟨g, o, hA, Nat.lt_of_lt_of_le hg hWN, (hbW.cell (p := ⟨g, o + j * 2, none⟩) hg).trans (hc _ _ q0), (hbW.cell (p := ⟨g, o + j * 2 + 1, none⟩) hg).trans (hc _ _ q1)⟩
                            have hN5 : N < W5.heap.size := HR6.out.1.lt
                            go_wp2
                            clear v2 vf
                            go_loopw [13, 14, 15] (fun iv _ _ wr => ∃ (i nr : Nat) (Ar : Option Addr) (cr : Nat), i ≤ nR ∧ iv = .int .i64 i ∧ nr ≤ i ∧ wr.ownsRow W5.heap.size 76 2 (.slice Ar nr cr) nr (rcells (keepR (t.refs.take i) us)) ∧ Blk wr N #[.slice Ar nr cr, .string HD2, .slice Ad M cd] 45 ∧ W5.grownBy wr (some N)) (fun iv _ _ _ => nR - (intOf iv).toNat)
                            case atStart => exact ⟨0, 0, none, 0, by omega, rfl, by omega, World.ownsRow_nil _ _ _ _, HR6.out.1, World.grownBy.refl _ _⟩
                            case round =>
                              obtain ⟨i, nr, Ar, cr, hi, rfl, hnr, hrow, hbk, hgw⟩ := hrel
                              rename World => wA
                              have i0 : (0 : Int) ≤ (i : Int) := by omega
                              have i9 : (i : Int) ≤ 100000 := by omega
                              have hbN : Below N W5 wA := grown_below3 hgw (Nat.le_refl _) (Nat.le_of_lt hN5)
                              have x0 := (hx0.out _ hbN).1
                              have HROW := Lib.hid hrow
                              have HBK := Lib.hid hbk
                              have HGW := Lib.hid hgw
                              have HbN := Lib.hid hbN
                              have hs5 := hgw.size
                              clear hrow hbk hgw
                              rcases Nat.lt_or_ge i nR with hlt | hge
                              · have i1 : (i : Int) < (nR : Int) := by omega
                                have hil : i < t.refs.length := by rw [HNR.out]; exact hlt
                                obtain ⟨g, o, rfl, hg, d0, d1⟩ := hxr.out _ hbN i hil
                                have hkp : keepR (t.refs.take (i + 1)) us = keepR (t.refs.take i) us ++ (match keepO us t.refs[i] with | none => [] | some x => [x]) := by
                                  rw [List.take_succ_eq_append_getElem hil]; unfold keepR; rw [List.filterMap_append, List.filterMap_cons]
                                  cases keepO us t.refs[i] <;> rfl
                                obtain ⟨r, hr⟩ : ∃ r, t.refs[i] = r := ⟨_, rfl⟩
                                rw [hr] at d0 d1 hkp
                                have HKP := Lib.hid hkp
                                have t1 := mk_toList' r.1
                                obtain ⟨X1, hX1⟩ : ∃ X, mk r.1 = X := ⟨_, rfl⟩
                                obtain ⟨X2, hX2⟩ : ∃ X, mk r.2 = X := ⟨_, rfl⟩
                                rw [hX1] at d0 t1
                                rw [hX2] at d1
                                have HX1 := Lib.hid hX1
                                have HX2 := Lib.hid hX2
                                have HT1 := Lib.hid t1
                                have hbX := Blk.new wA #[.string X1, .string X2] 76
                                have hbA := below_alloc wA (.cells #[.string X1, .string X2] 76)
                                have hNA : N < wA.heap.size := by omega
                                obtain ⟨X, hX⟩ : ∃ X, wA.heap.size = X := ⟨_, rfl⟩
                                obtain ⟨WX, hWX⟩ : ∃ x, wA.alloc (.cells #[.string X1, .string X2] 76) = x := ⟨_, rfl⟩
                                rw [hX, hWX] at hbX
                                rw [hWX] at hbA
                                have HbX := Lib.hid hbX
                                have HbA := Lib.hid hbA
                                have HX := Lib.hid hX
                                clear hr hkp t1 hX1 hX2 hbN hbX hbA
                                go_wp2
                                clear hX hWX d0 d1 x0
                                go_loopw [15] (fun kv wr => ∃ k : Nat, k ≤ j ∧ kv = .int .i64 k ∧ Blk wr X #[.string X1, .string (mk (updId (us.take k) r.1 r.2))] 76 ∧ WX.grownBy wr (some X)) (fun kv _ => j - (intOf kv).toNat)
                                case atStart => exact ⟨0, by omega, rfl, by have := HbX.out; rw [← HX2.out] at this; exact this, World.grownBy.refl _ _⟩
                                case round =>
                                  obtain ⟨k, hk, rfl, hbk, hgw⟩ := hrel
                                  have k0 : (0 : Int) ≤ (k : Int) := by omega
                                  have k9 : (k : Int) ≤ 1000 := by omega
                                  have hX0 := HX.out
                                  have hNX : N < X := by omega
                                  have hbNX : Below N WX wr := grown_below3 hgw (Nat.le_of_lt hNX) (by have := HbA.out.size; omega)
                                  have hbN : Below N W5 wr := (HbN.out.trans (HbA.out.mono (by omega))).trans hbNX
                                  have v0 := hbk.cell 0
                                  have v1 := hbk.cell 1
                                  have vf := hbk.frozen 1
                                  have vl := hbk.lt
                                  simp at v0 v1
                                  rcases Nat.lt_or_ge k j with hlk | hgk
                                  · have k1 : (k : Int) < (j : Int) := by omega
                                    have hkl : k < us.length := by rw [HNU.out]; exact hlk
                                    obtain ⟨gu, ou, rfl, hgu, c0, c1, c2⟩ := (hx0.out _ hbN).2 k hkl
                                    have htk : updId (us.take (k + 1)) r.1 r.2 = if us[k].name = r.1 then us[k].new else updId (us.take k) r.1 r.2 := by
                                      rw [List.take_succ_eq_append_getElem hkl]; unfold updId; rw [List.foldl_append]; rfl
                                    obtain ⟨u, hu⟩ : ∃ u, us[k] = u := ⟨_, rfl⟩
                                    rw [hu] at c0 c1 c2 htk
                                    have t2 := mk_toList' u.name
                                    obtain ⟨V0, hV0⟩ : ∃ X, mk u.name = X := ⟨_, rfl⟩
                                    obtain ⟨V2, hV2⟩ : ∃ X, mk u.new = X := ⟨_, rfl⟩
                                    rw [hV0] at c0 t2
                                    rw [hV2] at c2
                                    obtain ⟨ID, hID⟩ : ∃ X, mk (updId (us.take k) r.1 r.2) = X := ⟨_, rfl⟩
                                    rw [hID] at v1 hbk
                                    have hXg : X ≠ gu := by omega
                                    have HBK2 := Lib.hid hbk
                                    have HG2 := Lib.hid hgw
                                    by_cases he : u.name = r.1
                                    · have hee : (V0.toList == X1.toList) = true := by rw [t2, HT1.out, he]; simp
                                      rw [if_pos he] at htk
                                      have HTK := Lib.hid htk
                                      have HV2 := Lib.hid hV2
                                      clear he t2 htk hu hV0 hV2 hID hbk hgw hbNX hbN
                                      go_wp2_with fail
                                      go_quiet (fail)
                                      go_wp2
                                      go_roundw
                                      case rel => exact ⟨k + 1, by omega, by go_num, by have := ((show Blk (wr.drewN nq) X _ 76 from HBK2.out).set 1 (.string V2)); rw [HTK.out, HV2.out]; simpa using this, grown_set2 (grown_draws HG2.out nq) 1 _⟩
                                      case measure => simp [intOf]; omega
                                    · have hee : (V0.toList == X1.toList) = false := by rw [t2, HT1.out]; simpa using he
                                      rw [if_neg he] at htk
                                      have HTK := Lib.hid htk
                                      have HID := Lib.hid hID
                                      clear he t2 htk hu hV0 hV2 hID hbk hgw hbNX hbN
                                      go_wp2_with fail
                                      go_quiet (fail)
                                      go_wp2
                                      go_roundw
                                      case rel => exact ⟨k + 1, by omega, by go_num, by rw [HTK.out, HID.out]; exact HBK2.out, grown_draws HG2.out nq⟩
                                      case measure => simp [intOf]; omega
                                  · obtain rfl : k = j := by omega
                                    rw [List.take_of_length_le (by rw [HNU.out]; exact Nat.le_refl _)] at v1 hbk
                                    have hbA2 : Below wA.heap.size wA wr := HbA.out.trans (grown_below3 hgw (Nat.le_of_eq hX0) HbA.out.size)
                                    have hrow2 := own_below HROW.out hbA2
                                    have hbk2 := HBK.out.below hbA2
                                    have hg2 := grown_below4 HGW.out hbA2
                                    have t4 := mk_toList' (updId us r.1 r.2)
                                    obtain ⟨ID, hID⟩ : ∃ X, mk (updId us r.1 r.2) = X := ⟨_, rfl⟩
                                    rw [hID] at v1 hbk t4
                                    by_cases he : updId us r.1 r.2 = []
                                    · have hkp : Hid (keepR (t.refs.take (i + 1)) us = keepR (t.refs.take i) us) := Lib.hid (by
                                        rw [HKP.out]; unfold keepO; rw [if_pos he]; simp)
                                      have hie : ID.toList = [] := by rw [t4, he]
                                      have HF := Lib.hid (And.intro hrow2 (And.intro hbk2 hg2))
                                      clear he t4 hID hbk hgw hrow2 hbk2 hg2 hbNX hbN hbA2
                                      go_wp2
                                      go_roundw
                                      case rel => exact ⟨i + 1, nr, Ar, cr, by omega, by go_num, by omega, by rw [hkp.out]; exact HF.out.1, HF.out.2.1, HF.out.2.2⟩
                                      case measure => simp [intOf]; omega
                                    · have hkp : Hid (rcells (keepR (t.refs.take (i + 1)) us) = rcells (keepR (t.refs.take i) us) ++ [.string X1, .string ID]) := Lib.hid (by
                                        rw [HKP.out]; unfold keepO; rw [if_neg he, rcells_app]; simp [rcells, HX1.out, hID])
                                      have hie1 : (!ID.toList.isEmpty) = true := by rw [t4]; simpa using he
                                      have hie2 : ¬ ID.toList = [] := by rw [t4]; exact he
                                      have n0 := hbk2.cell 0
                                      have nf := hbk2.frozen 0
                                      have nl := hbk2.lt
                                      simp at n0
                                      have hs7 := hbA2.size
                                      have HF := Lib.hid (And.intro hrow2 (And.intro hbk2 hg2))
                                      clear he t4 hID hbk hgw hrow2 hbk2 hg2 hbNX hbN hbA2
                                      go_wp2_with (at_builtin; refine wpList_app rfl (.tmp 161) (.tmp 163) 43 76 rfl i76 _ 2 32 Tryd.underlying43 hi76 hz760 hz761 hz762 rfl (by decide) W5.heap.size (.slice Ar nr cr) rfl nr (rcells (keepR (t.refs.take i) us)) (HF.out.1.alloc _) (some ⟨wr.heap.size, 0, none⟩) 1 1 rfl [.string X1, .string ID] rfl (lies_new wr _ _) (by simp [Value.oneCell']) (by omega) (by decide) (by simp; omega) ?_)
                                      intro A8 c8 w8 ho8 hg8
                                      have hb8 := (HF.out.2.1.alloc (.cells #[.string X1, .string ID] 76)).grown hg8 (own_ne_blk HF.out.1 HF.out.2.1 (by decide))
                                      have hgg8 := grown_then (grown_below4 HF.out.2.2 (below_alloc wr (.cells #[.string X1, .string ID] 76))) hg8 (fun k e => (HF.out.1.lt k e).1)
                                      have m0 := hb8.cell 0
                                      have mf := hb8.frozen 0
                                      have ml := hb8.lt
                                      simp at m0
                                      have hb9 := hb8.set 0 (.slice A8 (nr + 1) c8)
                                      simp at hb9
                                      have ho9 := own_set ho8 hb8 (by decide) 0 (.slice A8 (nr + 1) c8)
                                      have hg9 := grown_set2 hgg8 0 (.slice A8 (nr + 1) c8)
                                      have HF9 := Lib.hid (And.intro ho9 (And.intro hb9 hg9))
                                      clear ho8 hg8 hb8 hgg8 hb9 ho9 hg9 n0 nf nl v0 v1 vf
                                      go_wp2
                                      go_roundw
                                      case rel => exact ⟨i + 1, nr + 1, A8, c8, by omega, by go_num, by omega, by rw [hkp.out]; exact HF9.out.1, HF9.out.2.1, HF9.out.2.2⟩
                                      case measure => simp [intOf]; omega
                              · obtain rfl : i = nR := by omega
                                rename World => W6
                                have hR0 : Sorted (keepR t.refs us) := keep_sorted us HS.out
                                have HR0 := Lib.hid hR0
                                rw [List.take_of_length_le (by rw [HNR.out]; exact Nat.le_refl _)] at HROW
                                clear hR0
                                go_wp2
                                go_loopw [16, 17, 18] (fun qv _ _ wr => ∃ (q nr : Nat) (Ar : Option Addr) (cr : Nat), q ≤ j ∧ qv = .int .i64 q ∧ nr ≤ i + q ∧ wr.ownsRow W5.heap.size 76 2 (.slice Ar nr cr) nr (rcells (addR (keepR t.refs us) (us.take q))) ∧ Blk wr N #[.slice Ar nr cr, .string HD2, .slice Ad M cd] 45 ∧ W5.grownBy wr (some N)) (fun qv _ _ _ => j - (intOf qv).toNat)
                                case atStart => exact ⟨0, nr, Ar, cr, by omega, rfl, by omega, HROW.out, HBK.out, HGW.out⟩
                                case round =>
                                  clear HROW HBK HGW hs5 x0 HbN
                                  obtain ⟨q, nr, Ar, cr, hq, rfl, hnr, hrow, hbk, hgw⟩ := hrel
                                  rename World => wB
                                  have q0 : (0 : Int) ≤ (q : Int) := by omega
                                  have q9 : (q : Int) ≤ 1000 := by omega
                                  have hbN : Below N W5 wB := grown_below3 hgw (Nat.le_refl _) (Nat.le_of_lt hN5)
                                  have HROW := Lib.hid hrow
                                  have HBK := Lib.hid hbk
                                  have HGW := Lib.hid hgw
                                  have hs5 := hgw.size
                                  have n0 := hbk.cell 0
                                  have nf := hbk.frozen 0
                                  have nl := hbk.lt
                                  simp at n0
                                  clear hrow hbk hgw
                                  rcases Nat.lt_or_ge q j with hlt | hge
                                  · have q1 : (q : Int) < (j : Int) := by omega
                                    have hql : q < us.length := by rw [HNU.out]; exact hlt
                                    obtain ⟨gu, ou, rfl, hgu, c0, c1, c2⟩ := (hx0.out _ hbN).2 q hql
                                    have had : addR (keepR t.refs us) (us.take (q + 1)) = if us[q].old = [] then setR (addR (keepR t.refs us) (us.take q)) us[q].name us[q].new else addR (keepR t.refs us) (us.take q) := by
                                      rw [List.take_succ_eq_append_getElem hql]; unfold addR; rw [List.foldl_append]; rfl
                                    have hsorted := add_sorted (us.take q) _ HR0.out
                                    have hpw := HPW.out
                                    have hnone : us[q].old = [] → getR (addR (keepR t.refs us) (us.take q)) us[q].name = none := fun ho => by
                                      have hp2 := hpw.sublist (List.take_sublist q us)
                                      have hno : ∀ u ∈ us.take q, u.name ≠ us[q].name := fun u hu => by
                                        obtain ⟨p, hp, rfl⟩ := List.getElem_of_mem hu
                                        rw [List.getElem_take]
                                        rw [List.length_take] at hp
                                        exact (List.pairwise_iff_getElem.1 hpw) p q (by omega) hql (by omega)
                                      rw [(add_get (us.take q) _ HR0.out hp2 us[q].name).2 hno, keep_get us HS.out]
                                      have hf := HFR.out us[q] (List.getElem_mem hql)
                                      rw [ho] at hf
                                      cases hg : getR t.refs us[q].name with
                                      | none => rfl
                                      | some v => rw [hg] at hf; exact absurd (by simpa using hf) (getR_ne HNE.out hg)
                                    have hnew : us[q].old = [] → us[q].new ≠ [] := fun ho hn => by
                                      have hr := HRT.out us[q] (List.getElem_mem hql)
                                      unfold rightU at hr
                                      rw [ho, hn] at hr
                                      simp at hr
                                    obtain ⟨u, hu⟩ : ∃ u, us[q] = u := ⟨_, rfl⟩
                                    rw [hu] at c0 c1 c2 had hnone hnew
                                    obtain ⟨RQ, hRQ⟩ : ∃ x, addR (keepR t.refs us) (us.take q) = x := ⟨_, rfl⟩
                                    rw [hRQ] at had hnone hsorted HROW
                                    have t3 := mk_toList' u.old
                                    have t2 := mk_toList' u.name
                                    obtain ⟨U0, hU0⟩ : ∃ X, mk u.name = X := ⟨_, rfl⟩
                                    obtain ⟨U1, hU1⟩ : ∃ X, mk u.old = X := ⟨_, rfl⟩
                                    obtain ⟨U2, hU2⟩ : ∃ X, mk u.new = X := ⟨_, rfl⟩
                                    rw [hU0] at c0 t2
                                    rw [hU1] at c1 t3
                                    rw [hU2] at c2
                                    by_cases ho : u.old = []
                                    · rw [if_pos ho] at had
                                      have hins := set_ins u.name u.new (hnew ho) RQ hsorted (by rw [hnone ho]; rfl)
                                      have hie : U1.toList = [] := by rw [t3, ho]
                                      have hlenR : RQ.length = nr := by have := HROW.out.1; rw [rcells_length] at this; omega
                                      have hpl := pos_le RQ u.name
                                      have hplt := pos_lt RQ u.name
                                      have hpge := pos_ge RQ u.name hsorted
                                      obtain ⟨P, hP⟩ : ∃ P, posR RQ u.name = P := ⟨_, rfl⟩
                                      rw [hP] at hpl hplt hpge hins
                                      rw [hlenR] at hpl
                                      have HIN : Hid (rcells (addR (keepR t.refs us) (us.take (q + 1))) = rcells (RQ.take P) ++ [.string U0, .string U2] ++ rcells (RQ.drop P)) := Lib.hid (by
                                        rw [had, hins.2, rcells_take, rcells_drop, hU0, hU2])
                                      have HPLT := Lib.hid hplt
                                      have HPGE := Lib.hid hpge
                                      have HLR := Lib.hid hlenR
                                      have HT2 := Lib.hid t2
                                      have hcapr := row_cap' HROW.out
                                      have HC0 := Lib.hid c0
                                      have HNR2 := Lib.hid hnr
                                      clear had hsorted hnone hnew ho t2 t3 hu hRQ hU0 hU1 hU2 hbN hpw hins hplt hpge hP hlenR
                                      go_wp2
                                      go_loopw [17] (fun pv wr => ∃ p : Nat, p ≤ P ∧ pv = .int .i64 p ∧ wB.grownBy wr none) (fun pv _ => P - (intOf pv).toNat)
                                      case atStart => exact ⟨0, by omega, rfl, World.grownBy.refl _ _⟩
                                      case round =>
                                        obtain ⟨p, hp, rfl, hgw⟩ := hrel
                                        have p0 : (0 : Int) ≤ (p : Int) := by omega
                                        have p9 : (p : Int) ≤ 200000 := by omega
                                        have hgul : gu < wB.heap.size := by omega
                                        have hk0 : ∀ b, b < wB.heap.size → ∀ o, wr.cell? ⟨b, o, none⟩ = wB.cell? ⟨b, o, none⟩ := fun b hb o => World.cell?_of_block (hgw.block b hb (by simp))
                                        have m0 := (hk0 N nl 0).trans n0
                                        have b0 := (hk0 gu hgul _).trans c0
                                        have HG := Lib.hid hgw
                                        have elem : Hid (∀ (hpn : p < nr), ∃ ga V, Ar = some ⟨ga, 0, none⟩ ∧ wr.cell? ⟨ga, p * 2, none⟩ = some (.string V) ∧ V.toList = (RQ[p]'(by have := HLR.out; omega)).1) := Lib.hid fun hpn => by
                                          have hpl2 : p < RQ.length := by have := HLR.out; omega
                                          obtain ⟨ga, cc, hv, hga, hgl⟩ := HROW.out.form (by omega)
                                          injection hv with hA _ _
                                          refine ⟨ga, mk RQ[p].1, hA, (hk0 ga hgl _).trans ?_, mk_toList' _⟩
                                          have hro := HROW.out
                                          rw [hA] at hro
                                          rw [hro.cellAt (p * 2) (by omega)]
                                          exact (rcells_at RQ p hpl2).1
                                        clear hgw hk0 n0 c0
                                        rcases Nat.lt_or_ge p P with hlp | hgp
                                        · have hpn : p < nr := by omega
                                          have p1 : (p : Int) < (nr : Int) := by omega
                                          obtain ⟨ga, V, rfl, e0, hV⟩ := elem.out hpn
                                          have hless : Op.bytesLess V.toList U0.toList = true := by
                                            rw [hV, HT2.out, less_cmp]
                                            simpa using HPLT.out p (by have := HLR.out; omega) hlp
                                          clear hV elem
                                          go_wp2_with fail
                                          go_quiet (fail)
                                          go_wp2
                                          go_roundw
                                          case rel => exact ⟨p + 1, by omega, by go_num, grown_draws HG.out nq⟩
                                          case measure => simp [intOf]; omega
                                        · obtain rfl : p = P := by omega
                                          go_upto_region 48 with fail
                                          go_cut [196] from 178 to 196 (fun s196 wx => s196 = .bool false ∧ wB.grownBy wx none)
                                          case first =>
                                            rcases Nat.lt_or_ge p nr with hpn | hpn
                                            · have p1 : (p : Int) < (nr : Int) := by omega
                                              obtain ⟨ga, V, rfl, e0, hV⟩ := elem.out hpn
                                              have hless : Op.bytesLess V.toList U0.toList = false := by
                                                rw [hV, HT2.out, less_cmp]
                                                simpa using HPGE.out p (by have := HLR.out; omega) (Nat.le_refl _)
                                              clear hV elem
                                              go_wp2_with fail
                                              go_quiet (fail)
                                              go_wp2_with fail
                                              go_meet
                                              case rel => exact ⟨rfl, grown_draws HG.out nq⟩
                                            · have p1 : ¬ (p : Int) < (nr : Int) := by omega
                                              have p2 : decide (p < nr) = false := by simpa using hpn
                                              clear elem
                                              go_wp2_with fail
                                              go_quiet (fail)
                                              go_wp2_with fail
                                              go_meet
                                              case rel => exact ⟨rfl, grown_draws HG.out nq⟩
                                          case rest =>
                        
                                            obtain ⟨rfl, hgx⟩ := hcut
                                            rename World => wC
                                            have hbk := HBK.out.grown hgx (by simp)
                                            have hbB := (Below.refl wB.heap.size wB).grown hgx (Nat.le_refl _) (by simp)
                                            have hrow := own_below HROW.out hbB
                                            have hg5 := grown_below4 HGW.out hbB
                                            have hgul : gu < wB.heap.size := by omega
                                            have hgul2 : gu < wC.heap.size := Nat.lt_of_lt_of_le hgul hbB.size
                                            have d0 := (hbB.cell (p := ⟨gu, ou + q * 3, none⟩) hgul).trans HC0.out
                                            have d2 := (hbB.cell (p := ⟨gu, ou + q * 3 + 2, none⟩) hgul).trans c2
                                            have k0 := hbk.cell 0
                                            simp at k0
                                            have HBKC := Lib.hid hbk
                                            have HROWC := Lib.hid hrow
                                            have HG5 := Lib.hid hg5
                                            have hcut1 := fun (w' : World) => cut_ref43_h Ar nr cr p w' (by omega)
                                            have hs7 : W5.heap.size ≤ wC.heap.size := hg5.size
                                            clear hbk hrow hg5 hbB hgx b0 m0
                                            go_wp2_with (at_builtin; refine wpList_app rfl (.tmp 199) (.tmp 203) 43 76 rfl i76 _ 2 32 Tryd.underlying43 hi76 hz760 hz761 hz762 rfl (by decide) wC.heap.size (.slice none 0 0) rfl 0 [] (World.ownsRow_nil _ _ _ _) Ar p cr rfl (rcells (RQ.take p)) (by rw [rcells_length, List.length_take, HLR.out, Nat.min_eq_left hpl]) (lies_take p (Lies.of_row HROWC.out)) (rcells_one _) (by omega) (by decide) (Nat.le_refl _) ?_)
                                            intro A10 c10 w10 ho10 hg10
                                            have hb10 : Below wC.heap.size wC w10 := (Below.refl _ wC).grown hg10 (Nat.le_refl _) (by simp [Value.ownBlock])
                                            have e0 := (hb10.cell (p := ⟨gu, ou + q * 3, none⟩) hgul2).trans d0
                                            have e2 := (hb10.cell (p := ⟨gu, ou + q * 3 + 2, none⟩) hgul2).trans d2
                                            have hgul3 : gu < w10.heap.size := Nat.lt_of_lt_of_le hgul2 hb10.size
                                            have Hb10 := Lib.hid hb10
                                            have HO10 := Lib.hid ho10
                                            have hs10 := hb10.size
                                            clear hb10 ho10 hg10 k0 hcut1
                                            go_wp2_with fail
                                            go_region_held3 (fun w' => w'.cell? ⟨gu, ou + q * 3, none⟩ = some (.string U0) ∧ w'.cell? ⟨gu, ou + q * 3 + 2, none⟩ = some (.string U2)) (first | (go_keep) | trivial | (exact ⟨(hb11.cell (p := ⟨gu, ou + q * 3, none⟩) hgul2).trans d0, (hb11.cell (p := ⟨gu, ou + q * 3 + 2, none⟩) hgul2).trans d2⟩))
                                              (first
                                                | (refine step_app (by rfl) (.tmp 205) (.tmp 217) 43 76 (by rfl) i76 _ 2 32 Tryd.underlying43 hi76 hz760 hz761 hz762 (by rfl) (by decide) wC.heap.size (.slice A10 p c10) (by rfl) p (rcells (RQ.take p))
                                                    (by first | exact (HO10.out.alloc _).drew | exact HO10.out.alloc _) (some ⟨w10.heap.size, 0, none⟩) 1 1 (by rfl) [.string U0, .string U2] (by rfl) (by first | exact lies_new w10 _ _) (by simp [Value.oneCell']) (by omega) (by decide) (by first | (simp; omega)) ?_
                                                   intro A11 c11 w11 ho11 hg11
                                                   first
                                                     | (have hb11 : Below wC.heap.size wC w11 := (((Hb10.out).alloc hs10 _).drew).grown hg11 (by simp; omega) (fun k e => (HO10.out.lt k e).1))
                                                     | (have hb11 : Below wC.heap.size wC w11 := ((Hb10.out).alloc hs10 _).grown hg11 (by simp; omega) (fun k e => (HO10.out.lt k e).1)))
                                                | fail)
                                            all_goals
                                              have HO11 := Lib.hid ho11
                                              have Hb11 := Lib.hid hb11
                                              have hbk11 := HBKC.out.below hb11
                                              have k0 := hbk11.cell 0
                                              simp at k0
                                              have hs11 := hb11.size
                                              have hli := lies_drop (c := cr) (lo := p) ((Lies.of_row HROWC.out).below (Nat.le_refl _) hb11) (by rw [HLR.out]; exact hcapr) (by rw [HLR.out]; exact hpl)
                                              have hsl := fun (w' : World) => cut_ref43 Ar nr cr p w' hpl
                                              obtain ⟨A12, hA12⟩ : ∃ x, (if cr = p then Ar else Ar.map (·.add (p * 2))) = x := ⟨_, rfl⟩
                                              simp only [hA12] at hsl
                                              rw [hA12] at hli
                                              clear hA12 ho11 hb11 hg11 hbk11 d0 d2 e0 e2
                                              go_wp2_with (at_builtin; refine wpList_app rfl (.tmp 219) (.tmp 223) 43 76 rfl i76 _ 2 32 Tryd.underlying43 hi76 hz760 hz761 hz762 rfl (by decide) wC.heap.size (.slice A11 (p + 1) c11) rfl (p + 1) (rcells (RQ.take p) ++ [.string U0, .string U2]) HO11.out A12 (nr - p) (cr - p) rfl (rcells (RQ.drop p)) (by rw [rcells_length, List.length_drop, HLR.out]) hli (rcells_one _) (by omega) (by decide) hs11 ?_)
                                              intro A13 c13 w13 ho13 hg13
                                              have hb13 : Below wC.heap.size wC w13 := Hb11.out.grown hg13 hs11 (fun k e => (HO11.out.lt k e).1)
                                              have hbk13 := HBKC.out.below hb13
                                              have k0 := hbk13.cell 0
                                              have kf := hbk13.frozen 0
                                              have kl := hbk13.lt
                                              simp at k0
                                              have hb9 := hbk13.set 0 (.slice A13 (p + 1 + (nr - p)) c13)
                                              simp at hb9
                                              have ho9 := own_weaken (own_set ho13 hbk13 (by decide) 0 (.slice A13 (p + 1 + (nr - p)) c13)) hs7
                                              have hg9 := grown_set2 (grown_below4 HG5.out hb13) 0 (.slice A13 (p + 1 + (nr - p)) c13)
                                              have HF9 := Lib.hid (And.intro ho9 (And.intro hb9 hg9))
                                              clear ho13 hg13 hb13 hbk13 hb9 ho9 hg9 hli hsl
                                              go_wp2
                                              go_roundw
                                              case rel =>
                                                have hnr2 := HNR2.out
                                                refine ⟨q + 1, p + 1 + (nr - p), A13, c13, ?_, ?_, ?_, ?_, ?_, ?_⟩
                                                · omega
                                                · go_num
                                                · omega
                                                · rw [HIN.out, List.append_assoc]
                                                  exact HF9.out.1
                                                · exact HF9.out.2.1
                                                · exact HF9.out.2.2
                                              case measure => simp [intOf]; omega
                                    · rw [if_neg ho] at had
                                      have hie1 : (!U1.toList.isEmpty) = true := by rw [t3]; simpa using ho
                                      have hie2 : ¬ U1.toList = [] := by rw [t3]; exact ho
                                      have HAD := Lib.hid had
                                      clear had hsorted hnone hnew ho t2 t3 hu hRQ hU0 hU1 hU2 hbN hpw
                                      go_wp2
                                      go_roundw
                                      case rel => exact ⟨q + 1, nr, Ar, cr, by omega, by go_num, by omega, by rw [HAD.out]; exact HROW.out, HBK.out, HGW.out⟩
                                      case measure => simp [intOf]; omega
                                  · obtain rfl : q = j := by omega
                                    rw [List.take_of_length_le (by rw [HNU.out]; exact Nat.le_refl _), ref_fold t.refs us HS.out HNE.out HPW.out HFR.out] at HROW
                                    have n1 := HBK.out.cell 1
                                    have n2 := HBK.out.cell 2
                                    simp at n1 n2
                                    have hbWB : Below W.heap.size W wB := (HB1.out.trans (HR6.out.2.2.2.mono hWN)).trans (hbN.mono hWN)
                                    have hby := HBY.out.below hbWB
                                    obtain ⟨y0, y1, y2, f0, f1, f2⟩ := GT.out _ hbWB
                                    have hyl := hby.lt
                                    have hHN1 : H + 1 < N := by omega
                                    have HY := Lib.hid hby
                                    have HWB := Lib.hid hbWB
                                    clear hby hbWB hbN
                                    go_wp2
                                    have s1 := HY.out.set 0 (.slice Ar nr cr)
                                    have s2 := s1.set 1 (.string HD2)
                                    have tf := s2.set 2 (.slice Ad M cd)
                                    have z0 := tf.cell 0
                                    have z1 := tf.cell 1
                                    have z2 := tf.cell 2
                                    simp at z0 z1 z2
                                    refine bodyPost_ret (v := .tuple #[.agg #[.slice Ar nr cr, .string HD2, .slice Ad M cd], .int .i64 0]) ?_ rfl ⟨_, by rw [HE0.out], ?_, ?_⟩
                                    · rw [results_cell_tmp Tryd.results14]
                                      go_simp
                                    · unfold Tbl.res
                                      rw [if_pos HE0.out]
                                      refine ⟨Ar, cr, Ad, cd, ?_, ?_, ?_⟩
                                      · have e1 : (foldR t.refs us).length = nr := by have := HROW.out.1; rw [rcells_length] at this; omega
                                        unfold Tbl.put
                                        simp only [e1, HHD2.out, ← hlog.out.1, hlog.out.2]
                                      · exact Lies.of_row (own_set (own_set (own_set HROW.out HY.out (by decide) 0 _) s1 (by decide) 1 _) s2 (by decide) 2 _)
                                      · have q0 := lies_grown HR6.out.2.1 HR6.out.2.2.1 HR6.out.1 (by decide) HGW.out
                                        have p0 := typed_grown HR6.out.2.2.1 HR6.out.1 (by decide) HGW.out
                                        have q1 := lies_set q0 p0 HY.out (by decide) 0 (.slice Ar nr cr)
                                        have p1 := typed_set p0 HY.out (by decide) 0 (.slice Ar nr cr)
                                        have q2 := lies_set q1 p1 s1 (by decide) 1 (.string HD2)
                                        have p2 := typed_set p1 s1 (by decide) 1 (.string HD2)
                                        have q3 := lies_set q2 p2 s2 (by decide) 2 (.slice Ad M cd)
                                        rw [hlog.out.1] at q3
                                        exact q3
                                    · have hh0 := HH.out
                                      have hs0 : w.heap.size ≤ W.heap.size := by omega
                                      exact ((((HH.out ▸ Hb1.out : Below w.heap.size w W).trans (HWB.out.mono hs0)).setCell (p := ⟨H + 1, 0, none⟩) (by simp; omega) (.slice Ar nr cr)).setCell (p := ⟨H + 1, 1, none⟩) (by simp; omega) (.string HD2)).setCell (p := ⟨H + 1, 2, none⟩) (by simp; omega) (.slice Ad M cd)
end Go.Proofs.YtlkfnhcnfjdgbaaDoor
