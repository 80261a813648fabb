/- Plain laws for the document's Split. -/
import Derived.Test.YtejokbfejkkpmaaDoorRn
import Derived.Test.YtejokbfejkkpmaaDoorRt
import Derived.StillTailTactics
import Derived.Deep.LoopGhost
import Derived.Deep.CutBlock
import Derived.Deep.RegionHeld3
import Derived.Deep.AppendLies
import Derived.IntWalk
namespace Go.Proofs.YtejokbfejkkpmaaDoor
open Go.RowKit Go.Maps Go.WideMaps
theorem info9s : (Tryd.prog.info? 9).map (fun i => (i.zero, i.size, i.bytes)) = some (some (.string ⟨#[]⟩), 1, 16) := by kernel_rfl
theorem rkL_get (l : List Pr) : ∀ (n r : Nat) (p : Pr), rkL n l p = some r → n ≤ r ∧ l[r - n]? = some p := by
  induction l with
  | nil => intro n r p h; cases h
  | cons a l ih =>
    intro n r p h
    unfold rkL at h
    split at h
    · rename_i e
      simp at h; subst h; simp [e]
    · obtain ⟨h1, h2⟩ := ih _ _ _ h
      refine ⟨by omega, ?_⟩
      rw [show r - n = (r - (n + 1)) + 1 by omega]; simpa using h2
theorem own_base {w : World} {B B' e size n : Nat} {v : Value} {xs : List Value} (h : w.ownsRow B e size v n xs) (hb : B' ≤ B) : w.ownsRow B' e size v n xs := by
  refine ⟨h.1, ?_⟩
  rcases h.2 with h1 | ⟨g, c, cur, h1, h2, h3⟩
  · exact .inl h1
  · exact .inr ⟨g, c, cur, h1, Nat.le_trans hb h2, h3⟩
theorem own_bel {w w' : World} {B C e size n : Nat} {v : Value} {xs : List Value} (h : w.ownsRow B e size v n xs) (hv : ∀ g, v.ownBlock = some g → g < C) (hb : Below C w w') : w'.ownsRow B e size v n xs :=
  own_same h fun g hg => hb.block g (hv g hg)
theorem sing_at9 (wd : Bs) (k : Nat) (h : k < wd.length) : tcells (singles (wd.take (k + 1))) = tcells (singles (wd.take k)) ++ [.string (mk [wd[k]])] := by
  rw [List.take_succ_eq_append_getElem h, singles, List.map_append, tcells, List.map_append]; rfl
theorem ext_one9 (wd : Bs) (k : Nat) (h : k < wd.length) : (mk wd).extract k (k + 1) = mk [wd[k]] := by
  have e : ((mk wd).extract k (k + 1)).data.toList = [wd[k]] := by
    simp only [ByteArray.data_extract, Array.toList_extract]
    rw [List.extract_eq_take_drop, Nat.add_sub_cancel_left, mk_data, List.drop_eq_getElem_cons h]; rfl
  rw [← mk_list ((mk wd).extract k (k + 1)), e]
/-- The least rank among the first pairs. -/
def BestTo (f : Tx × Tx → Option Nat) (P : List Tx) (i : Nat) : Option Nat → Prop
  | none => ∀ j x y, j < i → P[j]? = some x → P[j + 1]? = some y → f (x, y) = none
  | some r => (∃ j x y, j < i ∧ P[j]? = some x ∧ P[j + 1]? = some y ∧ f (x, y) = some r) ∧ ∀ j x y r', j < i → P[j]? = some x → P[j + 1]? = some y → f (x, y) = some r' → r ≤ r'
def bI : Option Nat → Int
  | none => -1
  | some r => r
def better (b c : Option Nat) : Option Nat := match c, b with
  | none, b => b
  | some r, none => some r
  | some r, some q => if r < q then some r else some q
theorem BestTo.step {f : Tx × Tx → Option Nat} {P : List Tx} {i : Nat} {b : Option Nat} (h : BestTo f P i b) {x y : Tx} (hx : P[i]? = some x) (hy : P[i + 1]? = some y) : BestTo f P (i + 1) (better b (f (x, y))) := by
  have key : ∀ j x' y', j < i + 1 → P[j]? = some x' → P[j + 1]? = some y' → j < i ∨ (x', y') = (x, y) := fun j x' y' hj h1 h2 => by
    rcases Nat.lt_or_ge j i with h3 | h3
    · exact .inl h3
    · have : j = i := by omega
      subst this
      rw [hx] at h1
      rw [hy] at h2
      cases h1; cases h2
      exact .inr rfl
  cases hf : f (x, y) with
  | none =>
    cases b with
    | none =>
      intro j x' y' hj h1 h2
      rcases key j x' y' hj h1 h2 with h3 | h3
      · exact h j x' y' h3 h1 h2
      · rw [h3]; exact hf
    | some q =>
      obtain ⟨⟨j, x', y', hj, h1, h2, h3⟩, hm⟩ := h
      refine ⟨⟨j, x', y', by omega, h1, h2, h3⟩, fun j x' y' r' hj h1 h2 h3 => ?_⟩
      rcases key j x' y' hj h1 h2 with h4 | h4
      · exact hm j x' y' r' h4 h1 h2 h3
      · rw [h4, hf] at h3; cases h3
  | some r =>
    cases b with
    | none =>
      refine ⟨⟨i, x, y, by omega, hx, hy, hf⟩, fun j x' y' r' hj h1 h2 h3 => ?_⟩
      rcases key j x' y' hj h1 h2 with h4 | h4
      · rw [h j x' y' h4 h1 h2] at h3; cases h3
      · rw [h4, hf] at h3; cases h3; exact Nat.le_refl _
    | some q =>
      obtain ⟨⟨j0, x0, y0, hj0, g1, g2, g3⟩, hm⟩ := h
      unfold better
      by_cases hrq : r < q
      · simp only [hrq, if_true]
        refine ⟨⟨i, x, y, by omega, hx, hy, hf⟩, fun j x' y' r' hj h1 h2 h3 => ?_⟩
        rcases key j x' y' hj h1 h2 with h4 | h4
        · have := hm j x' y' r' h4 h1 h2 h3; omega
        · rw [h4, hf] at h3; cases h3; exact Nat.le_refl _
      · simp only [hrq, if_false]
        refine ⟨⟨j0, x0, y0, by omega, g1, g2, g3⟩, fun j x' y' r' hj h1 h2 h3 => ?_⟩
        rcases key j x' y' hj h1 h2 with h4 | h4
        · exact hm j x' y' r' h4 h1 h2 h3
        · rw [h4, hf] at h3; cases h3; omega
theorem scan_flat (A B : Tx) (P : List Tx) : (scan A B P).flatten = P.flatten := by
  induction P using scan.induct (A := A) (B := B) with
  | case1 x y P h ih => rw [scan, if_pos h]; simp [ih]
  | case2 x y P h ih => rw [scan, if_neg h]; simp only [List.flatten_cons] at ih ⊢; rw [ih]
  | case3 P h => rw [scan]; exact h
theorem scan_ne (A B : Tx) (P : List Tx) (hn : NE P) : NE (scan A B P) := by
  induction P using scan.induct (A := A) (B := B) with
  | case1 x y P h ih =>
    rw [scan, if_pos h]
    intro t ht
    rcases List.mem_cons.1 ht with rfl | ht
    · have := hn x (by simp); simp [this]
    · exact ih (fun t ht => hn t (by simp [ht])) t ht
  | case2 x y P h ih =>
    rw [scan, if_neg h]
    intro t ht
    rcases List.mem_cons.1 ht with rfl | ht
    · exact hn t (by simp)
    · exact ih (fun t ht => hn t (List.mem_cons_of_mem _ ht)) t ht
  | case3 P h => rw [scan]; exact hn; exact h
theorem scan_length (A B : Tx) (P : List Tx) : (scan A B P).length ≤ P.length := by
  induction P using scan.induct (A := A) (B := B) with
  | case1 x y P h ih => rw [scan, if_pos h]; simp; omega
  | case2 x y P h ih => rw [scan, if_neg h]; simp at ih ⊢; omega
  | case3 P h => rw [scan]; exact Nat.le_refl _; exact h
theorem scan_less (A B : Tx) (P : List Tx) {i : Nat} (hx : P[i]? = some A) (hy : P[i + 1]? = some B) : (scan A B P).length < P.length := by
  induction P using scan.induct (A := A) (B := B) generalizing i with
  | case1 x y P h ih => rw [scan, if_pos h]; have := scan_length A B P; simp; omega
  | case2 x y P h ih =>
    rw [scan, if_neg h]
    cases i with
    | zero => simp at hx hy; exact absurd ⟨hx, hy⟩ h
    | succ i => have := ih (i := i) (by simpa using hx) (by simpa using hy); simp at this ⊢; omega
  | case3 P h =>
    exfalso
    cases P with
    | nil => simp at hx
    | cons a P =>
      cases P with
      | nil => simp at hy
      | cons b P => exact h a b P rfl
theorem ne_length {P : List Tx} (h : NE P) : P.length ≤ P.flatten.length := by
  induction P with
  | nil => simp
  | cons a P ih =>
    have h1 : 0 < a.length := List.length_pos_iff.2 (h a (by simp))
    have h2 := ih (fun t ht => h t (List.mem_cons_of_mem _ ht))
    simp only [List.length_cons, List.flatten_cons, List.length_append]; omega
theorem part_flat {P : List Tx} {i : Nat} {x : Tx} (h : P[i]? = some x) : x.length ≤ P.flatten.length := by
  induction P generalizing i with
  | nil => simp at h
  | cons a P ih =>
    simp only [List.flatten_cons, List.length_append]
    cases i with
    | zero => simp at h; subst h; omega
    | succ i => have := ih (i := i) (by simpa using h); omega
end Go.Proofs.YtejokbfejkkpmaaDoor
/- The document's Split, walked: it ends where the rounds end. -/
namespace Go.Proofs.YtejokbfejkkpmaaDoor
open Go.RowKit Go.Maps Go.WideMaps
def RefOut (B : Nat) (l : List Pr) (wd : Bs) (w : World) (e : Ending) (w' : World) : Prop := ∃ v T, e = .returned v ∧ w'.ownsRow B 9 1 v T.length (tcells T) ∧ Fin2 (rkL 0 l) (singles wd) T ∧ Below B w w'
theorem row_at_s {w : World} {B e n : Nat} {v : Value} {xs : List Value} (h : w.ownsRow B e 1 v n xs) {k : Nat} {u : Value} (hu : xs[k]? = some u) : ∃ g cap, v = .slice (some ⟨g, 0, none⟩) n cap ∧ w.cell? ⟨g, k, none⟩ = some u ∧ g < w.heap.size ∧ k < n := by
  have hk : k < xs.length := by
    rcases Nat.lt_or_ge k xs.length with h4 | h4
    · exact h4
    · rw [List.getElem?_eq_none h4] at hu; cases hu
  have hl := h.1
  obtain ⟨g, c, hv, _, hg⟩ := h.form (by omega)
  subst hv
  have := h.cellAt k (by omega)
  rw [hu] at this
  exact ⟨g, c, rfl, this, hg, by omega⟩
theorem row_cell_s {w : World} {B e n n' cap g : Nat} {xs : List Value} (h : w.ownsRow B e 1 (.slice (some ⟨g, 0, none⟩) n cap) n' xs) {k : Nat} {u : Value} (hu : xs[k]? = some u) : w.cell? ⟨g, k, none⟩ = some u ∧ k < n' := by
  obtain ⟨g', cap', hv, h1, h2, h3⟩ := row_at_s h hu
  injection hv with hv _ _
  injection hv with hv
  injection hv with hv
  subst hv
  exact ⟨h1, by omega⟩
theorem scan_merge {P : List Tx} {i : Nat} {x y : Tx} (hx : P[i]? = some x) (hy : P[i + 1]? = some y) : scan x y (P.drop i) = (x ++ y) :: scan x y (P.drop (i + 2)) := by
  have h1 : i + 1 < P.length := by
    rcases Nat.lt_or_ge (i + 1) P.length with h4 | h4
    · exact h4
    · rw [List.getElem?_eq_none h4] at hy; cases hy
  rw [List.getElem?_eq_getElem (by omega)] at hx
  rw [List.getElem?_eq_getElem h1] at hy
  have e1 := Option.some.inj hx
  have e2 := Option.some.inj hy
  rw [List.drop_eq_getElem_cons (by omega : i < P.length), List.drop_eq_getElem_cons h1, e1, e2, scan, if_pos ⟨rfl, rfl⟩]
theorem scan_keep {P : List Tx} {i : Nat} {x A C : Tx} (hx : P[i]? = some x) (hno : x = A → P[i + 1]? ≠ some C) : scan A C (P.drop i) = x :: scan A C (P.drop (i + 1)) := by
  have h1 : i < P.length := by
    rcases Nat.lt_or_ge i P.length with h4 | h4
    · exact h4
    · rw [List.getElem?_eq_none h4] at hx; cases hx
  rw [List.getElem?_eq_getElem h1] at hx
  have e1 := Option.some.inj hx
  rw [List.drop_eq_getElem_cons h1, e1]
  rcases Nat.lt_or_ge (i + 1) P.length with h4 | h4
  · rw [List.drop_eq_getElem_cons h4, scan, if_neg]
    rintro ⟨rfl, h2⟩
    exact hno rfl (by rw [List.getElem?_eq_getElem h4, h2])
  · rw [List.drop_eq_nil_of_le h4]; simp [scan]
theorem own_alloc {w : World} {B e size n : Nat} {v : Value} {xs : List Value} (h : w.ownsRow B e size v n xs) (o : Obj) : (w.alloc o).ownsRow B e size v n xs := h.alloc o
theorem own_drewN9 {w : World} {B e size n : Nat} {v : Value} {xs : List Value} (h : w.ownsRow B e size v n xs) (m : Nat) : (w.drewN m).ownsRow B e size v n xs := h
theorem below_drewN9 (B : Nat) (w : World) (m : Nat) : Below B w (w.drewN m) := ⟨rfl, rfl, rfl, Nat.le_refl _, fun _ _ => rfl⟩
theorem old_cell {w : World} {a : Addr} {v : Value} {o : Obj} (h : w.cell? a = some v) : (w.alloc o).drew.cell? a = some v := (World.cell?_of_block ((World.grownBy_alloc w o none).block a.block (World.block_lt_of_cell? w a h) (by simp))).trans h
theorem best_all {f : Tx × Tx → Option Nat} {P : List Tx} {i : Nat} {b : Option Nat} (h : BestTo f P i b) (hi : P.length ≤ i + 1) : BestTo f P P.length b := by
  have key : ∀ j y, P[j + 1]? = some y → j < i := fun j y hy => by
    rcases Nat.lt_or_ge (j + 1) P.length with h4 | h4
    · omega
    · rw [List.getElem?_eq_none h4] at hy; cases hy
  cases b with
  | none => exact fun j x y _ hx hy => h j x y (key j y hy) hx hy
  | some r =>
    obtain ⟨⟨j, x, y, hj, h1, h2, h3⟩, hm⟩ := h
    have hjl : j < P.length := by
      rcases Nat.lt_or_ge j P.length with h4 | h4
      · exact h4
      · rw [List.getElem?_eq_none h4] at h1; cases h1
    exact ⟨⟨j, x, y, hjl, h1, h2, h3⟩, fun j x y r' _ hx hy hr => hm j x y r' (key j y hy) hx hy hr⟩
theorem rankI_bI (l : List Pr) (p : Pr) : rankI l p = bI (rkL 0 l p) := by unfold rankI; cases rkL 0 l p <;> rfl
def LoopB (B : Nat) (l : List Pr) (wd : Bs) (w : World) (k : Nat) (v : Value) (wr : World) : Prop :=
  ∃ P : List Tx, wr.ownsRow B 9 1 v P.length (tcells P) ∧ NE P ∧ P.flatten.length = wd.length ∧ (∀ T, Fin2 (rkL 0 l) P T → Fin2 (rkL 0 l) (singles wd) T) ∧ Below B w wr ∧ P.length = k
set_option maxRecDepth 100000 in
set_option maxHeartbeats 8000000 in
theorem rsplit_any (A : Option Addr) (n cap : Nat) (l : List Pr) (wd : Bs) (w : World) (hp : PairArg w A n l) (hn : n ≤ 1000) (hwd : wd.length ≤ 4096) :
    Calls Tryd.prog 16 #[.slice A n cap, .string (mk wd)] w (RefOut w.heap.size l wd w) := by
  obtain ⟨i9, hi9, hz0, hz1, hz2⟩ := info_parts info9s
  have hws := mk_size wd
  have d0 : decide ((4096 : Int) < (wd.length : Int)) = false := by simp; omega
  obtain ⟨B, hB⟩ : ∃ B, w.heap.size = B := ⟨_, rfl⟩
  have HB := Lib.hid hB
  rw [hB]
  clear hB
  have HPA := Lib.hid hp
  clear hp
  go_enter Tryd.func16, Tryd.ntmps16
  go_wp2
  go_loopw [5, 6] (fun v i wr => ∃ k : Nat, k ≤ wd.length ∧ i = .int .i64 k ∧ wr.ownsRow B 9 1 v k (tcells (singles (wd.take k))) ∧ Below B w wr) (fun _ i _ => wd.length - (intOf i).toNat)
  case atStart => exact ⟨0, Nat.zero_le _, rfl, World.ownsRow_nil _ _ _ _, Below.refl _ _⟩
  case round =>
    obtain ⟨k, hk, rfl, hown, hbl⟩ := hrel
    have hsB : B ≤ wr.heap.size := by have := hbl.size; have := HB.out; omega
    rcases Nat.lt_or_ge k wd.length with hlt | hge
    · have k0 : (0 : Int) ≤ (k : Int) := by omega
      have k1 : (k : Int) < (wd.length : Int) := by omega
      have k2 : (k : Int) ≤ 4096 := by omega
      have hext := ext_one9 wd k hlt
      have hsl := fun (w : World) => run_slice_string (P := Tryd.prog) (w := w) 9 (mk wd) .i64 .i64 (k : Int) ((k : Int) + 1) Tryd.underlying9 (by omega) (by omega) (by rw [hws]; omega)
      rw [show ((k : Int) + 1).toNat = k + 1 by omega, show ((k : Int)).toNat = k by omega, hext] at hsl
      have hsn := sing_at9 wd k hlt
      obtain ⟨S1, hS1⟩ : ∃ S1, mk [wd[k]] = S1 := ⟨_, rfl⟩
      rw [hS1] at hsl hsn
      obtain ⟨xs, hxs⟩ : ∃ x, tcells (singles (wd.take k)) = x := ⟨_, rfl⟩
      rw [hxs] at hown hsn
      have HSN := Lib.hid hsn
      clear hext hsn hxs
      go_wp2_with (at_builtin; refine wpList_append_own _ rfl _ _ 41 rfl B 9 i9 _ 1 16 Tryd.underlying41 hi9 hz0 hz1 hz2 rfl (by decide) _ _ _ rfl (hown.alloc _) ⟨wr.heap.size, 0, none⟩ 1 1 [.string S1] rfl rfl ?c1 ?c2 ?c3 ?c4 ?c5 ?_)
      case c1 => exact World.news_of_block (cs := #[.string S1]) (heap_alloc_new wr _)
      case c2 => intro u hu; simp at hu; subst hu; rfl
      case c3 => unfold maxLen; omega
      case c4 => omega
      case c5 => simp; omega
      intro v' w1 hown1 hg1 _
      have hbl1 := (hbl.alloc hsB (.cells #[.string S1] 9)).grown hg1 (by simp; omega) (fun j e => (hown.lt j e).1)
      clear hown hg1
      go_wp2_with fail
      go_roundw
      case rel => exact ⟨k + 1, by omega, by go_num, by rw [HSN.out]; exact hown1, hbl1⟩
      case measure => simp [intOf]; omega
    · obtain rfl : k = wd.length := by omega
      rw [List.take_length] at hown
      have hR0 : Hid (LoopB B l wd w wd.length u5 wr) :=
        Lib.hid ⟨singles wd, by rw [singles_length]; exact hown, singles_ne wd, by rw [singles_flat], fun T h => h, hbl, singles_length wd⟩
      clear hown hbl hsB
      go_wp2_with fail
      go_loopg [5] wd.length (fun k v wr => LoopB B l wd w k v wr)
      case atStart => exact hR0.out
      case round =>
        obtain ⟨P, hown, hne, hfl, hfin, hbl, hk⟩ := hrel
        have hPl : P.length ≤ 4096 := by have := ne_length hne; omega
        have HOWN := Lib.hid hown
        have HFIN := Lib.hid hfin
        have HNE := Lib.hid hne
        have HFL := Lib.hid hfl
        have HKK := Lib.hid hk
        obtain ⟨A5, c5, rfl⟩ := own_form hown
        obtain ⟨W, hW⟩ : ∃ W, wr = W := ⟨_, rfl⟩
        subst hW
        rename World => W
        have hsB : B ≤ W.heap.size := by have := hbl.size; have := HB.out; omega
        obtain ⟨L, hL⟩ : ∃ L, P.length = L := ⟨_, rfl⟩
        have HL := Lib.hid hL
        rw [hL] at hPl ⊢
        clear hown hne hfl hfin hk hL
        go_upto_block 4 with fail
        go_cut [7, 8, 9] from 29 to 59 (fun b _ _ wx => ∃ bb, b = .int .i64 (bI bb) ∧ BestTo (rkL 0 l) P P.length bb ∧ Below W.heap.size W wx)
        case first =>
          go_wp2_with fail
          go_loopw [7, 8, 9] (fun b iv _ wx => ∃ (i : Nat) (bb : Option Nat), i ≤ L ∧ iv = .int .i64 i ∧ b = .int .i64 (bI bb) ∧ BestTo (rkL 0 l) P i bb ∧ Below W.heap.size W wx) (fun _ iv _ _ => L - (intOf iv).toNat)
          case atStart => exact ⟨0, none, Nat.zero_le _, rfl, rfl, fun j x y hj => absurd hj (by omega), Below.refl _ _⟩
          case round =>
            obtain ⟨i, bb, hil, rfl, rfl, hbt, hbx⟩ := hrel
            have i0 : (0 : Int) ≤ (i : Int) := by omega
            have i1 : (i : Int) ≤ 4096 := by omega
            rcases Nat.lt_or_ge (i + 1) L with hlt | hge
            · have i2 : (i : Int) < (L : Int) := by omega
              have i3 : (i : Int) + 1 < (L : Int) := by omega
              have hPi : i + 1 < P.length := by rw [HL.out]; exact hlt
              have hx : P[i]? = some P[i] := by have : i < P.length := by omega
                                                simp [this]
              have hy : P[i + 1]? = some P[i + 1] := by simp [hPi]
              have hown' := own_bel HOWN.out (fun g hg => (HOWN.out.lt g hg).2) hbx
              obtain ⟨g, cg, hv, hcx, _, _⟩ := row_at_s hown' (tcells_at P i _ hx)
              obtain ⟨hcy, _⟩ := row_cell_s (hv ▸ hown') (tcells_at P (i + 1) _ hy)
              rw [HL.out] at hv
              injection hv with hA _ hc
              subst hA
              subst hc
              obtain ⟨x, hxx⟩ : ∃ x, P[i] = x := ⟨_, rfl⟩
              obtain ⟨y, hyy⟩ : ∃ x, P[i + 1] = x := ⟨_, rfl⟩
              rw [hxx] at hcx hx
              rw [hyy] at hcy hy
              have hpw : PairArg wr.drew A n l := (HPA.out.belowK (B := B) (by have := HB.out; omega) ((hbl.trans (hbx.mono hsB)).drew))
              have KR := rank_any A n cap l x y wr.drew hpw hn
              rw [rankI_bI] at KR
              have hst := Lib.hid (hbt.step hx hy)
              have HBT := Lib.hid hbt
              have HBX := Lib.hid hbx
              have hw1 : IntKind.i64.wrap ((i : Int) + 1) = (i : Int) + 1 := IntWalk.i64_in _ (by omega)
              have hw2 : ((i : Int) + 1).toNat = i + 1 := by omega
              have hw3 : (0 : Int) ≤ (i : Int) + 1 := by omega
              obtain ⟨cI, hcI⟩ : ∃ c, bI (rkL 0 l (x, y)) = c := ⟨_, rfl⟩
              obtain ⟨qI, hqI⟩ : ∃ c, bI bb = c := ⟨_, rfl⟩
              rw [hcI] at KR
              rw [hqI]
              have hbd : -1 ≤ cI ∧ -1 ≤ qI := by
                rw [← hcI, ← hqI]
                constructor
                · cases rkL 0 l (x, y) <;> (simp [bI] <;> omega)
                · cases bb <;> (simp [bI] <;> omega)
              obtain ⟨hb1, hb2⟩ := hbd
              have hbet : Hid (bI (better bb (rkL 0 l (x, y))) = if 0 ≤ cI ∧ (qI < 0 ∨ cI < qI) then cI else qI) := Lib.hid (by
                rw [← hcI, ← hqI]
                cases rkL 0 l (x, y) with
                | none => simp [better, bI]
                | some r =>
                  cases bb with
                  | none => simp [better, bI]
                  | some q =>
                    by_cases hrq : r < q
                    · simp [better, bI, hrq]
                    · simp [better, bI, hrq]
                      intro h; omega)
              clear hown' hx hy hxx hyy hpw hbt hbx hPi hcI hqI
              go_wp2_with fail
              go_still_tail 11, (by kernel_rfl)
              change wpList _ _ _ _ _ wr.drew
              go_wp2_with (go_at_call 31; (with_reducible refine KR.mono ?_); rintro e w4 ⟨rfl, hb4⟩)
              all_goals go_roundw
              all_goals first
                | exact ⟨i + 1, better bb (rkL 0 l (x, y)), by omega, by go_num, congrArg (Value.int .i64) (by rw [hbet.out]; split <;> omega), hst.out, (HBX.out.drew).trans (hb4.mono (by have := HBX.out.size; simp; omega))⟩
                | (simp [intOf]; omega)
            · have hal := Lib.hid (best_all hbt (by rw [HL.out]; exact hge))
              have d1 : decide (L ≤ i + 1) = true := by simpa using hge
              have i3 : ¬ (i : Int) + 1 < (L : Int) := by omega
              clear hbt
              go_wp2_with fail
              go_meet
              case rel => exact ⟨bb, rfl, hal.out, hbx⟩
        case rest =>
          obtain ⟨bb, rfl, hal, hbx⟩ := hcut
          rcases bb with _ | r
          · have hF := Lib.hid (HFIN.out P (.done fun i x y hx hy => hal i x y (by
              rcases Nat.lt_or_ge i P.length with h4 | h4
              · exact h4
              · rw [List.getElem?_eq_none h4] at hx; cases hx) hx hy))
            have ho : Hid (wc.ownsRow B 9 1 (.slice A5 L c5) P.length (tcells P)) := Lib.hid (by
              have := own_bel HOWN.out (fun g hg => (HOWN.out.lt g hg).2) hbx
              rw [HL.out] at this ⊢
              exact this)
            simp only [bI]
            clear hal
            go_wp2
            go_ret
            exact ⟨_, P, rfl, ho.out, hF.out, hbl.trans (hbx.mono hsB)⟩
          · simp only [bI]
            obtain ⟨⟨j0, x0, y0, hj0, hx0, hy0, hf0⟩, hmin⟩ := hal
            have hlr := (rkL_get l 0 r (x0, y0) hf0).2
            rw [Nat.sub_zero] at hlr
            have hrn : r < n := by
              have := HPA.out.1
              rcases Nat.lt_or_ge r l.length with h4 | h4
              · omega
              · rw [List.getElem?_eq_none h4] at hlr; cases hlr
            have HBEST : Hid (IsBest (rkL 0 l) P r) := Lib.hid ⟨⟨j0, x0, y0, hx0, hy0, hf0⟩, fun i x y r' hx hy hr => hmin i x y r' (by
              rcases Nat.lt_or_ge i P.length with h4 | h4
              · exact h4
              · rw [List.getElem?_eq_none h4] at hx; cases hx) hx hy hr⟩
            have HLESS := Lib.hid (scan_less x0 y0 P hx0 hy0)
            have HF0 := Lib.hid hf0
            obtain ⟨gl, ol, hA, hgl, hcl⟩ := HPA.out.2.2.1 (by omega)
            subst hA
            have hrl : r < l.length := by have := HPA.out.1; omega
            have hle : l[r] = (x0, y0) := by
              rw [List.getElem?_eq_getElem hrl] at hlr
              exact Option.some.inj hlr
            obtain ⟨l0, l1⟩ := hcl r hrl
            rw [hle] at l0 l1
            simp only at l0 l1
            have HL0 := Lib.hid l0
            have HL1 := Lib.hid l1
            have r0 : (0 : Int) ≤ (r : Int) := by omega
            have r1 : (r : Int) < (n : Int) := by omega
            have r2 : (r : Int) ≤ 1000 := by omega
            have hbl2 := hbl.trans (hbx.mono hsB)
            have HBX := Lib.hid hbx
            clear hx0 hy0 hj0 hf0 hmin hlr hcl hle l0 l1 hbx
            go_wp2_with fail
            go_loopw [10, 11] (fun acc iv wx => ∃ (i : Nat) (Ac : List Tx), i ≤ L ∧ iv = .int .i64 i ∧ wx.ownsRow W.heap.size 9 1 acc Ac.length (tcells Ac) ∧ Ac ++ scan x0 y0 (P.drop i) = scan x0 y0 P ∧ Below W.heap.size W wx ∧ Ac.length ≤ i) (fun _ iv _ => L - (intOf iv).toNat)
            case atStart => exact ⟨0, [], Nat.zero_le _, rfl, World.ownsRow_nil _ _ _ _, by simp, HBX.out, Nat.le_refl _⟩
            case round =>
              obtain ⟨i, Ac, hil, rfl, hacc, hsc, hbx, hai⟩ := hrel
              have i0 : (0 : Int) ≤ (i : Int) := by omega
              have i1 : (i : Int) ≤ 4096 := by omega
              rcases Nat.lt_or_ge i L with hlt | hge
              · have i2 : (i : Int) < (L : Int) := by omega
                have hPi : i < P.length := by rw [HL.out]; exact hlt
                have hx : P[i]? = some P[i] := by simp [hPi]
                have hown' := own_bel HOWN.out (fun g hg => (HOWN.out.lt g hg).2) hbx
                obtain ⟨g, cg, hv, hcx, _, _⟩ := row_at_s hown' (tcells_at P i _ hx)
                rw [HL.out] at hv
                injection hv with hA _ hc
                subst hA
                subst hc
                obtain ⟨x, hxx⟩ : ∃ x, P[i] = x := ⟨_, rfl⟩
                rw [hxx] at hcx hx
                have hbw := hbl.trans (hbx.mono hsB)
                have e0 := (hbw.cell (p := ⟨gl, ol + r * 2, none⟩) (by have := HB.out; simp only; omega)).trans HL0.out
                have e1 := (hbw.cell (p := ⟨gl, ol + r * 2 + 1, none⟩) (by have := HB.out; simp only; omega)).trans HL1.out
                have hw1 : IntKind.i64.wrap ((i : Int) + 1) = (i : Int) + 1 := IntWalk.i64_in _ (by omega)
                have hw2 : ((i : Int) + 1).toNat = i + 1 := by omega
                have hw3 : (0 : Int) ≤ (i : Int) + 1 := by omega
                have HACC := Lib.hid hacc
                have HSC := Lib.hid hsc
                have HBW := Lib.hid hbx
                have hxl := part_flat hx
                rw [HFL.out] at hxl
                obtain ⟨AA, cA, hAcc⟩ := own_form hacc
                subst hAcc
                obtain ⟨X, hX⟩ : ∃ X, mk x = X := ⟨_, rfl⟩
                obtain ⟨U, hU⟩ : ∃ X, mk x0 = X := ⟨_, rfl⟩
                obtain ⟨V, hV⟩ : ∃ X, mk y0 = X := ⟨_, rfl⟩
                rw [hX] at hcx
                rw [hU] at e0
                rw [hV] at e1
                have HX := Lib.hid hX
                have hAl : Ac.length ≤ 4096 := by omega
                rcases Nat.lt_or_ge (i + 1) L with hlt2 | hge2
                · have hPi2 : i + 1 < P.length := by rw [HL.out]; exact hlt2
                  have hy : P[i + 1]? = some P[i + 1] := by simp [hPi2]
                  obtain ⟨hcy, _⟩ := row_cell_s hown' (tcells_at P (i + 1) _ hy)
                  obtain ⟨y, hyy⟩ : ∃ x, P[i + 1] = x := ⟨_, rfl⟩
                  rw [hyy] at hcy hy
                  obtain ⟨Y, hY⟩ : ∃ X, mk y = X := ⟨_, rfl⟩
                  rw [hY] at hcy
                  have i3 : (i : Int) + 1 < (L : Int) := by omega
                  have hyl := part_flat hy
                  rw [HFL.out] at hyl
                  by_cases hxe : x = x0
                  · have he1 : (X.toList == U.toList) = true := by rw [← hX, ← hU, hxe]; simp
                    by_cases hye : y = y0
                    · have he2 : (Y.toList == V.toList) = true := by rw [← hY, ← hV, hye]; simp
                      have hmg := scan_merge hx hy
                      rw [hxe, hye] at hmg
                      have HMG := Lib.hid hmg
                      have hno : ¬ 9223372036854775807 < X.size + Y.size := by rw [← hX, ← hY, mk_size, mk_size]; omega
                      have hcat : Hid (X ++ Y = mk (x0 ++ y0)) := Lib.hid (by rw [← hX, ← hY, mk_append, hxe, hye])
                      clear hx hy hxx hyy hown' hbw hacc hsc hbx hX hU hV hY hxe hye hmg hPi hPi2 hxl hyl
                      go_wp2_with fail
                      go_quiet (fail)
                      go_wp2_with fail
                      have hx4 : (wr.drewN nq).cell? ⟨g, i, none⟩ = some (.string X) := hcx
                      have hy4 : (wr.drewN nq).cell? ⟨g, i + 1, none⟩ = some (.string Y) := hcy
                      have ha4 := own_drewN9 HACC.out nq
                      have hb4 := HBW.out.trans (below_drewN9 W.heap.size wr nq)
                      have hgW : g < W.heap.size := (HOWN.out.lt g rfl).2
                      obtain ⟨w4, hw4⟩ : ∃ w4, wr.drewN nq = w4 := ⟨_, rfl⟩
                      rw [hw4] at hx4 hy4 ha4 hb4 ⊢
                      have hs4 := hb4.size
                      have hgl4 : g < w4.heap.size := by omega
                      have hane : ∀ k, (Value.slice AA Ac.length cA).ownBlock = some k → k ≠ g := fun k e e2 => by have := (ha4.lt k e).1; omega
                      have T4 : w4.ownsRow W.heap.size 9 1 (.slice AA Ac.length cA) Ac.length (tcells Ac) ∧ Below W.heap.size W w4 := ⟨ha4, hb4⟩
                      clear hw4 hcx hcy e0 e1 he1 he2 ha4 hb4
                      go_region_held3 (fun w' => w'.cell? ⟨g, i, none⟩ = some (.string X) ∧ w'.cell? ⟨g, i + 1, none⟩ = some (.string Y)) (first | go_keep | exact KP5)
                        (first
                          | (refine step_append_lies _ (by rfl) (.tmp 99) (.tmp 110) 41 (by rfl) W.heap.size 9 i9 _ 1 16 Tryd.underlying41 hi9 hz0 hz1 hz2 (by rfl) (by omega) (.slice AA Ac.length cA) Ac.length (tcells Ac) (by rfl)
                              (by first | exact T4.1.alloc _ | exact (T4.1.alloc _).drew) ⟨w4.heap.size, 0, none⟩ 1 1 [.string (X ++ Y)] (by rfl) rfl
                              (World.news_of_block (cs := #[.string (X ++ Y)]) (heap_new _ _ _ (by first | rfl | (simp; done)))) (by simp [Value.oneCell']) (by omega) (by unfold maxLen; omega) (by omega) (by simp; omega) (w4.heap.size + 1) (by simp) ?_
                             intro g2 c2 w5 ho5 hg5 hat5 hlt5
                             have KP5 : w5.cell? ⟨g, i, none⟩ = some (.string X) ∧ w5.cell? ⟨g, i + 1, none⟩ = some (.string Y) := ⟨(World.cell?_of_block (a := ⟨g, i, none⟩) (hg5.block g (by simp; omega) (fun e => hane g e.symm rfl))).trans (old_cell hx4), (World.cell?_of_block (a := ⟨g, i + 1, none⟩) (hg5.block g (by simp; omega) (fun e => hane g e.symm rfl))).trans (old_cell hy4)⟩)
                          | (fail))
                      have hb5 : Below W.heap.size W w5 := ((T4.2.alloc T4.2.size (.cells #[.string (X ++ Y)] 9)).drew).grown hg5 (by simp; omega) (fun j e => (T4.1.lt j e).1)
                      rw [hcat.out] at ho5
                      clear hg5 hat5 hlt5 KP5 T4 hx4 hy4 hno hane
                      go_wp2_with fail
                      go_roundw
                      case rel =>
                        refine ⟨i + 2, Ac ++ [x0 ++ y0], by omega, congrArg (Value.int .i64) (by omega), ?_, ?_, hb5, by simp; omega⟩
                        · rw [List.length_append, tcells, List.map_append]; exact ho5
                        · rw [List.append_assoc, List.singleton_append, ← HMG.out]; exact HSC.out
                      case measure => simp [intOf]; omega
                    · have he2 : (Y.toList == V.toList) = false := by rw [← hY, ← hV]; exact tl_ne' hye
                      have HKEEP := Lib.hid (scan_keep (A := x0) (C := y0) hx (fun _ h => hye (by rw [hy] at h; exact Option.some.inj h)))
                      clear hx hy hxx hyy hown' hbw hacc hsc hbx hX hU hV hY hxe hye hPi hPi2 hxl hyl
                      go_wp2_with fail
                      go_quiet (fail)
                      go_wp2_with (at_builtin; refine wpList_append_own _ rfl _ _ 41 rfl W.heap.size 9 i9 _ 1 16 Tryd.underlying41 hi9 hz0 hz1 hz2 rfl (by decide) _ _ _ rfl (own_alloc (own_drewN9 HACC.out nq) _) ⟨(wr.drewN nq).heap.size, 0, none⟩ 1 1 [.string X] rfl rfl ?c1 ?c2 ?c3 ?c4 ?c5 ?_)
                      case c1 => exact World.news_of_block (cs := #[.string X]) (heap_alloc_new (wr.drewN nq) _)
                      case c2 => intro u hu; simp at hu; subst hu; rfl
                      case c3 => unfold maxLen; omega
                      case c4 => omega
                      case c5 => have := HBW.out.size; simp; omega
                      intro v' w1 hown1 hg1 _
                      have hb1 := ((HBW.out.trans (below_drewN9 _ wr nq)).alloc (HBW.out.trans (below_drewN9 W.heap.size wr nq)).size (.cells #[.string X] 9)).grown hg1 (by have := HBW.out.size; simp; omega) (fun j e => (HACC.out.lt j e).1)
                      clear hg1
                      go_wp2_with fail
                      go_roundw
                      case rel =>
                        refine ⟨i + 1, Ac ++ [x], by omega, by go_num, ?_, ?_, hb1, by simp; omega⟩
                        · rw [List.length_append, tcells, List.map_append]
                          show w1.ownsRow W.heap.size 9 1 v' (Ac.length + 1) (tcells Ac ++ [.string (mk x)])
                          rw [HX.out]; exact hown1
                        · rw [List.append_assoc]
                          show Ac ++ ([x] ++ scan x0 y0 (P.drop (i + 1))) = scan x0 y0 P
                          rw [List.singleton_append, ← HKEEP.out]; exact HSC.out
                      case measure => simp [intOf]; omega
                  · have he1 : (X.toList == U.toList) = false := by rw [← hX, ← hU]; exact tl_ne' hxe
                    have HKEEP := Lib.hid (scan_keep (A := x0) (C := y0) hx (fun h _ => hxe h))
                    clear hx hy hxx hyy hown' hbw hacc hsc hbx hX hU hV hY hxe hPi hPi2 hxl hyl
                    go_wp2_with fail
                    go_quiet (fail)
                    go_wp2_with (at_builtin; refine wpList_append_own _ rfl _ _ 41 rfl W.heap.size 9 i9 _ 1 16 Tryd.underlying41 hi9 hz0 hz1 hz2 rfl (by decide) _ _ _ rfl (own_alloc (own_drewN9 HACC.out nq) _) ⟨(wr.drewN nq).heap.size, 0, none⟩ 1 1 [.string X] rfl rfl ?c1 ?c2 ?c3 ?c4 ?c5 ?_)
                    case c1 => exact World.news_of_block (cs := #[.string X]) (heap_alloc_new (wr.drewN nq) _)
                    case c2 => intro u hu; simp at hu; subst hu; rfl
                    case c3 => unfold maxLen; omega
                    case c4 => omega
                    case c5 => have := HBW.out.size; simp; omega
                    intro v' w1 hown1 hg1 _
                    have hb1 := ((HBW.out.trans (below_drewN9 _ wr nq)).alloc (HBW.out.trans (below_drewN9 W.heap.size wr nq)).size (.cells #[.string X] 9)).grown hg1 (by have := HBW.out.size; simp; omega) (fun j e => (HACC.out.lt j e).1)
                    clear hg1
                    go_wp2_with fail
                    go_roundw
                    case rel =>
                      refine ⟨i + 1, Ac ++ [x], by omega, by go_num, ?_, ?_, hb1, by simp; omega⟩
                      · rw [List.length_append, tcells, List.map_append]
                        show w1.ownsRow W.heap.size 9 1 v' (Ac.length + 1) (tcells Ac ++ [.string (mk x)])
                        rw [HX.out]; exact hown1
                      · rw [List.append_assoc]
                        show Ac ++ ([x] ++ scan x0 y0 (P.drop (i + 1))) = scan x0 y0 P
                        rw [List.singleton_append, ← HKEEP.out]; exact HSC.out
                    case measure => simp [intOf]; omega
                · have i3 : decide ((i : Int) + 1 < (L : Int)) = false := by simp; omega
                  have HKEEP := Lib.hid (scan_keep (A := x0) (C := y0) hx (fun _ h => by rw [List.getElem?_eq_none (by rw [HL.out]; exact hge2)] at h; cases h))
                  clear hx hxx hown' hbw hacc hsc hbx hX hU hV hPi hxl
                  go_wp2_with fail
                  go_quiet (fail)
                  go_wp2_with (at_builtin; refine wpList_append_own _ rfl _ _ 41 rfl W.heap.size 9 i9 _ 1 16 Tryd.underlying41 hi9 hz0 hz1 hz2 rfl (by decide) _ _ _ rfl (own_alloc (own_drewN9 HACC.out nq) _) ⟨(wr.drewN nq).heap.size, 0, none⟩ 1 1 [.string X] rfl rfl ?c1 ?c2 ?c3 ?c4 ?c5 ?_)
                  case c1 => exact World.news_of_block (cs := #[.string X]) (heap_alloc_new (wr.drewN nq) _)
                  case c2 => intro u hu; simp at hu; subst hu; rfl
                  case c3 => unfold maxLen; omega
                  case c4 => omega
                  case c5 => have := HBW.out.size; simp; omega
                  intro v' w1 hown1 hg1 _
                  have hb1 := ((HBW.out.trans (below_drewN9 _ wr nq)).alloc (HBW.out.trans (below_drewN9 W.heap.size wr nq)).size (.cells #[.string X] 9)).grown hg1 (by have := HBW.out.size; simp; omega) (fun j e => (HACC.out.lt j e).1)
                  clear hg1
                  go_wp2_with fail
                  go_roundw
                  case rel =>
                    refine ⟨i + 1, Ac ++ [x], by omega, by go_num, ?_, ?_, hb1, by simp; omega⟩
                    · rw [List.length_append, tcells, List.map_append]
                      show w1.ownsRow W.heap.size 9 1 v' (Ac.length + 1) (tcells Ac ++ [.string (mk x)])
                      rw [HX.out]; exact hown1
                    · rw [List.append_assoc]
                      show Ac ++ ([x] ++ scan x0 y0 (P.drop (i + 1))) = scan x0 y0 P
                      rw [List.singleton_append, ← HKEEP.out]; exact HSC.out
                  case measure => simp [intOf]; omega
              · obtain rfl : i = L := by omega
                rw [List.drop_eq_nil_of_le (by rw [HL.out]; exact Nat.le_refl _)] at hsc
                have hse : Ac = scan x0 y0 P := by simpa [scan] using hsc
                have hres : Hid (LoopB B l wd w (scan x0 y0 P).length u10 wr) := Lib.hid ⟨scan x0 y0 P, by rw [← hse]; exact own_base hacc hsB, scan_ne _ _ _ HNE.out, by rw [scan_flat]; exact HFL.out, fun T h => HFIN.out T (.step r x0 y0 HBEST.out HF0.out h), hbl.trans (hbx.mono hsB), rfl⟩
                clear hsc hse hacc hbx
                go_wp2_with fail
                go_roundg (scan x0 y0 P).length
                case rel => exact hres.out
                case measure => have := HLESS.out; have := HKK.out; omega
end Go.Proofs.YtejokbfejkkpmaaDoor
