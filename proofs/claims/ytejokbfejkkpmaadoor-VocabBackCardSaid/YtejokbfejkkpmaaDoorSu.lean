/- merges.Split, walked: it ends where the rounds end. -/
import Derived.Test.YtejokbfejkkpmaaDoorBd
import Derived.Test.YtejokbfejkkpmaaDoorDl
import Derived.Deep.CutBlock
import Derived.Deep.CutRange
import Derived.Shelf.RegionOpen
import Derived.Outline
namespace Go.Proofs.YtejokbfejkkpmaaDoor
open Go.RowKit Go.Maps Go.WideMaps
attribute [local go_sem] Oper.semAt_some
/-- The row while its parts are laid: j of them. -/
def Row1 (w wS : World) (R X H cnt : Nat) (f : Pr → Option Nat) (wd : Bs) (j : Nat) (W : World) : Prop :=
  ∃ vP vN vQ, Bd w wS R X H cnt f W #[vP, vN, vQ, .map (some H), .slice none 0 0] vP j (tcells (singles (wd.take j))) vN j (icells ((List.range j).map fun (i : Nat) => (i : Int) + 1)) vQ j (icells ((List.range j).map fun (i : Nat) => (i : Int) - 1))
def nx0 (wd : Bs) : List Int := (List.range wd.length).map fun (i : Nat) => (i : Int) + 1
def pv0 (wd : Bs) : List Int := (List.range wd.length).map fun (i : Nat) => (i : Int) - 1
theorem sing_rep (wd : Bs) : RepP (singles wd) (nx0 wd) (pv0 wd) (singles wd) := by
  have hl := singles_length wd
  refine ⟨singles_ne wd, (singles_parts wd).symm, by rw [hl]; simp [nx0], by rw [hl]; simp [pv0], fun i hi => ?_, fun i hi => ?_⟩
  · rw [hl] at hi
    rw [singles_off wd i (by omega), singles_off wd (i + 1) (by omega), nx0, List.getElem?_map, List.getElem?_range hi]
    simp
  · rw [hl] at hi
    rw [singles_off wd i (by omega), pv0, List.getElem?_map, List.getElem?_range hi]
    by_cases h0 : i = 0
    · subst h0; simp
    · rw [if_neg h0, singles_off wd (i - 1) (by omega)]
      simp only [Option.map_some, Option.some.injEq]
      omega
theorem rkL_ge (l : List Pr) : ∀ k p r, rkL k l p = some r → k ≤ r := by
  induction l with
  | nil => intro k p r h; cases h
  | cons a l ih =>
    intro k p r h
    unfold rkL at h
    split at h
    · simp at h; omega
    · have := ih _ _ _ h; omega
theorem rkL_inj (l : List Pr) : ∀ k p q r, rkL k l p = some r → rkL k l q = some r → p = q := by
  induction l with
  | nil => intro k p q r h; cases h
  | cons a l ih =>
    intro k p q r h1 h2
    unfold rkL at h1 h2
    split at h1
    · rename_i e1
      split at h2
      · rename_i e2
        rw [e1, e2]
      · simp at h1; have := rkL_ge _ _ _ _ h2; omega
    · split at h2
      · simp at h2; have := rkL_ge _ _ _ _ h1; omega
      · exact ih _ _ _ _ h1 h2
def Row2 (w W : World) (R X H n : Nat) (l : List Pr) (wd : Bs) (Pv N Q : Value) (wr : World) (k : Nat) : Prop :=
  ∃ Z S, RS w.heap.size wr R (rkL 0 l) n Pv N Q Z H (singles wd) (nx0 wd) (pv0 wd) S ∧ HeapTo S S.length ∧ S.Perm ((List.range k).flatMap (spotAt (rkL 0 l) (singles wd))) ∧ Boxed wr X 109 (.pointer (some ⟨R, 0, none⟩)) ∧ K9 W wr ∧ Below w.heap.size w wr
def Row3 (w W : World) (R X H n : Nat) (l : List Pr) (wd : Bs) (Pv N Q : Value) (wr : World) (k : Nat) : Prop :=
  ∃ Z ps nx pv P S, RS w.heap.size wr R (rkL 0 l) n Pv N Q Z H ps nx pv S ∧ RepP ps nx pv P ∧ HeapTo S S.length ∧ MI (rkL 0 l) ps.length P S [] ∧ ps.length = wd.length ∧ (∀ T, Fin2 (rkL 0 l) P T → Fin2 (rkL 0 l) (singles wd) T) ∧ S.length + 3 * P.length = k ∧ k ≤ 90000 ∧
    Boxed wr X 109 (.pointer (some ⟨R, 0, none⟩)) ∧ K9 W wr ∧ Below w.heap.size w wr
theorem box9 {w w' : World} {X : Nat} {v : Value} (h : Boxed w X 109 v) (k : K9 w w') : Boxed w' X 109 v := k X _ h (.inr ⟨_, _, rfl⟩)
theorem flat_len (f : Tx × Tx → Option Nat) (P : List Tx) : ∀ k, ((List.range k).flatMap (spotAt f P)).length ≤ k := by
  intro k
  induction k with
  | zero => simp
  | succ k ih =>
    rw [List.range_succ, List.flatMap_append, List.length_append]
    have := spotAt_length f P k
    simp only [List.flatMap_cons, List.flatMap_nil, List.append_nil]
    omega
def DelOut (B : Nat) (P : List Tx) (w : World) (e : Ending) (w' : World) : Prop := ∃ v, e = .returned v ∧ w'.ownsRow B 9 1 v P.length (tcells P) ∧ K9 w w' ∧ Below B w w'
theorem filter_parts {P : List Tx} (h : NE P) : ((partsOf P).filter fun x => !(x == [])) = P := by
  have e : (fun x : Tx => !(x == [])) = fun x => !x.isEmpty := by funext x; cases x <;> rfl
  rw [e, partsOf_filter h]
theorem delete_parts (B : Nat) (A : Option Addr) (n c : Nat) (ps P : List Tx) (w : World) (hn : ps.length = n) (hl : n ≤ 4096) (hne : NE P) (he : ps = partsOf P) (h : w.ownsRow B 9 1 (.slice A n c) n (tcells ps)) (hB : B ≤ w.heap.size) :
    Calls Tryd.prog 47 #[.slice A n c, .func (.func 48) #[] #[]] w (DelOut B P w) := by
  subst hn
  rcases Nat.eq_zero_or_pos ps.length with h0 | h0
  · have hP : P = [] := by
      cases P with
      | nil => rfl
      | cons a P => rw [he] at h0; simp [partsOf] at h0
    rw [h0] at h ⊢
    refine (delete_none A c w).mono ?_
    rintro e w' ⟨rfl, rfl⟩
    subst hP
    have hps : ps = [] := List.eq_nil_of_length_eq_zero h0
    rw [hps] at h
    exact ⟨_, rfl, h, K9.refl _, Below.refl _ _⟩
  · obtain ⟨g, c', hv, hBg, hgl⟩ := h.form h0
    injection hv with hA _ hc
    subst hA
    refine (delete_own g c B ps w (by omega) h).mono ?_
    rintro e w' ⟨rfl, ho, hg⟩
    have hf : (ps.filter fun x => !(x == [])) = P := by rw [he]; exact filter_parts hne
    rw [hf] at ho ⊢
    exact ⟨_, rfl, ho, k9_grown h (by decide) hg, (Below.refl B w).grown hg hB (fun k e => by cases e; exact hBg)⟩
theorem info41r : (Tryd.prog.info? 9).map (fun i => (i.zero, i.size, i.bytes)) = some (some (.string ⟨#[]⟩), 1, 16) := by kernel_rfl
theorem sing_at (wd : Bs) (k : Nat) (h : k < wd.length) : tcells (singles (wd.take (k + 1))) = tcells (singles (wd.take k)) ++ [.string (mk [wd[k]])] := by
  rw [List.take_succ_eq_append_getElem h, singles, List.map_append, tcells, List.map_append]; rfl
theorem ext_one (wd : Bs) (k : Nat) (h : k < wd.length) : (mk wd).extract k (k + 1) = mk [wd[k]] := by
  have e : ((mk wd).extract k (k + 1)).data.toList = [wd[k]] := by
    simp only [ByteArray.data_extract, Array.toList_extract]
    rw [List.extract_eq_take_drop, Nat.add_sub_cancel_left, mk_data, List.drop_eq_getElem_cons h]; rfl
  rw [← mk_list ((mk wd).extract k (k + 1)), e]
theorem rank_update {w : World} {b n : Nat} {f : Pr → Option Nat} (h : RankM w b n f) (p : Pr) (k : Nat) (hn : n < maxLen) (h1 : p.1.length ≤ maxLen) (h2 : p.2.length ≤ maxLen) (hk : k ≤ 1000000) :
    ∃ w', (Instr.mapUpdate 110 (.map (some b)) (.agg #[.string (mk p.1), .string (mk p.2)]) (.int .i64 k)).run Tryd.prog w = .ok () w' ∧ RankM w' b (n + 1) (updR f (k, p)) ∧ w.grownBy w' (some b) := by
  obtain ⟨D, hD, hS⟩ := h
  have hkk := keyOf_pair (mk p.1) (mk p.2) (by rw [mk_size]; exact h1) (by rw [mk_size]; exact h2)
  rw [mk_data, mk_data] at hkk
  obtain ⟨w', hrun, r1, r2⟩ := hD.update keyLawP Tryd.underlying110 hn hkk (plainElem_int Tryd.underlying3 (wf64 k (by omega) (by omega)))
  refine ⟨w', hrun, ⟨_, r1, fun u hu1 hu2 => ?_⟩, r2⟩
  by_cases hu : u = p
  · subst hu
    rw [has_put_same (k := .string (pk u)) hD.isMap trivial, atKey_put_same (k := .string (pk u)) hD.isMap trivial]
    simp [updR]
  · have hne : Lit.string (pk u) ≠ .string (pk p) := by intro e; exact hu (pk_inj _ _ hu1 hu2 h1 h2 (by injection e))
    rw [has_put_other hne, atKey_put_other hne, (hS u hu1 hu2).1, (hS u hu1 hu2).2]
    simp [updR, hu]
set_option maxRecDepth 100000 in
set_option maxHeartbeats 4000000 in
theorem split_any (A : Option Addr) (n cap : Nat) (l : List Pr) (wd : Bs) (w : World) (hp : PairArg w A n l) (hn : n ≤ 1000) (hwd : wd.length ≤ 4096) :
    Calls Tryd.prog 30 #[.slice A n cap, .string (mk wd)] w fun e w' => ∃ v T, e = .returned v ∧ w'.ownsRow w.heap.size 9 1 v T.length (tcells T) ∧ Fin2 (rkL 0 l) (singles wd) T ∧ Below w.heap.size w w' := by
  have hmm := @run_makeMap Tryd.prog
  have hws := mk_size wd
  have d0 : decide ((4096 : Int) < ((mk wd).size : Int)) = false := by simp [hws]; omega
  refine (callsIn_wide (n := 6)).1 ?_
  refine callsIn_of_wp_marks Tryd.func30 rfl trivial ?_ rfl
  simp only [Tryd.ntmps30, List.size_toArray, List.length_cons, List.length_nil, Nat.reduceAdd, Nat.reduceSub, Array.replicate_succ, Array.replicate_zero, List.push_toArray, List.append_toArray, List.nil_append, List.cons_append]
  refine wpIn_wide.2 ?_
  go_wp2_with (go_at_call 44; (with_reducible refine (backward_any _ _ _ _).mono ?_); rintro e w' ⟨rfl, rfl⟩)
  have hB0 : Below w.heap.size w ((((w.alloc (.map #[] 0)).alloc (.cells #[.slice none 0 0, .slice none 0 0, .slice none 0 0, .map (some w.heap.size), .slice none 0 0] 114)).alloc (.cells #[.pointer (some ⟨w.heap.size + 1, 0, none⟩)] 109)).alloc (.cells #[.slice A n cap] 24)) :=
    ((((Below.refl _ w).alloc (Nat.le_refl _) _).alloc (by simp) _).alloc (by simp; omega) _).alloc (by simp; omega) _
  have hM0 : RankM ((((w.alloc (.map #[] 0)).alloc (.cells #[.slice none 0 0, .slice none 0 0, .slice none 0 0, .map (some w.heap.size), .slice none 0 0] 114)).alloc (.cells #[.pointer (some ⟨w.heap.size + 1, 0, none⟩)] 109)).alloc (.cells #[.slice A n cap] 24)) w.heap.size 0 (fun _ => none) :=
    (((RankM.made w).alloc _).alloc _).alloc _
  have hR0 : RBlk ((((w.alloc (.map #[] 0)).alloc (.cells #[.slice none 0 0, .slice none 0 0, .slice none 0 0, .map (some w.heap.size), .slice none 0 0] 114)).alloc (.cells #[.pointer (some ⟨w.heap.size + 1, 0, none⟩)] 109)).alloc (.cells #[.slice A n cap] 24)) (w.heap.size + 1) #[.slice none 0 0, .slice none 0 0, .slice none 0 0, .map (some w.heap.size), .slice none 0 0] :=
    RBlk.old (RBlk.old (heap_new _ _ _ (by simp)) _) _
  have hX0 : Boxed ((((w.alloc (.map #[] 0)).alloc (.cells #[.slice none 0 0, .slice none 0 0, .slice none 0 0, .map (some w.heap.size), .slice none 0 0] 114)).alloc (.cells #[.pointer (some ⟨w.heap.size + 1, 0, none⟩)] 109)).alloc (.cells #[.slice A n cap] 24)) (w.heap.size + 2) 109 (.pointer (some ⟨w.heap.size + 1, 0, none⟩)) :=
    Boxed.alloc (heap_new _ _ _ (by simp)) _
  have hC0 : ((((w.alloc (.map #[] 0)).alloc (.cells #[.slice none 0 0, .slice none 0 0, .slice none 0 0, .map (some w.heap.size), .slice none 0 0] 114)).alloc (.cells #[.pointer (some ⟨w.heap.size + 1, 0, none⟩)] 109)).alloc (.cells #[.slice A n cap] 24)).cell? ⟨w.heap.size + 3, 0, none⟩ = some (.slice A n cap) := by
    rw [cell_of_row _ _ 0 _ _ _ (heap_new _ _ _ (by simp))]; rfl
  have hS0 : ((((w.alloc (.map #[] 0)).alloc (.cells #[.slice none 0 0, .slice none 0 0, .slice none 0 0, .map (some w.heap.size), .slice none 0 0] 114)).alloc (.cells #[.pointer (some ⟨w.heap.size + 1, 0, none⟩)] 109)).alloc (.cells #[.slice A n cap] 24)).heap.size = w.heap.size + 4 := by simp
  obtain ⟨w1, hw1⟩ : ∃ w1, (((w.alloc (.map #[] 0)).alloc (.cells #[.slice none 0 0, .slice none 0 0, .slice none 0 0, .map (some w.heap.size), .slice none 0 0] 114)).alloc (.cells #[.pointer (some ⟨w.heap.size + 1, 0, none⟩)] 109)).alloc (.cells #[.slice A n cap] 24) = w1 := ⟨_, rfl⟩
  rw [hw1] at hB0 hM0 hR0 hX0 hC0 hS0 ⊢
  obtain ⟨H, hH⟩ : ∃ H, w.heap.size = H := ⟨_, rfl⟩
  simp only [hH, Nat.add_assoc, Nat.reduceAdd] at hB0 hM0 hR0 hX0 hC0 hS0 ⊢
  clear hw1 hmm d0
  have HI : OwnFrom w1.heap.size (fun (pre : List Yl) W => RankM W H pre.length (foldR (pre.map Subtype.val)) ∧ RBlk W (H + 1) #[.slice none 0 0, .slice none 0 0, .slice none 0 0, .map (some H), .slice none 0 0] ∧ Boxed W (H + 2) 109 (.pointer (some ⟨H + 1, 0, none⟩)) ∧ Below H w W ∧ H + 4 ≤ W.heap.size) := by
    rintro s W W' row ⟨h1, h2, h3, h4, h5⟩ hg hr
    refine ⟨h1.kept hg (fun e => by have := (hr _ e.symm).1; omega), (grownBy_keeps_cells hg (fun r e => (hr r e).2) h2 rfl).trans h2, (grownBy_keeps_cells hg (fun r e => (hr r e).2) h3 rfl).trans h3, h4.grown hg (by have := h4.size; omega) (fun k e => ?_), by have := hg.size; omega⟩
    have := (hr k e).1
    omega
  refine (wpIn_wide (n := 6)).1 ?_
  refine wpIn_range_from (N := n) rfl (by decide) (gf := 58) (lb := #[.pointer (some ⟨H + 3, 0, none⟩)]) rfl trivial (enters_of Tryd.func58 (by kernel_rfl) rfl) (encs := encB)
    (backward_stops w1 w H (H + 3) cap n A l (by omega) hC0 hp hH hB0 hn) ?hKt ?hKb (Below.refl _ _) (fun _ => rfl)
    (fun pre W => RankM W H pre.length (foldR (pre.map Subtype.val)) ∧ RBlk W (H + 1) #[.slice none 0 0, .slice none 0 0, .slice none 0 0, .map (some H), .slice none 0 0] ∧ Boxed W (H + 2) 109 (.pointer (some ⟨H + 1, 0, none⟩)) ∧ Below H w W ∧ H + 4 ≤ W.heap.size)
    (fun _ _ _ => False) ?hI ?hIx ⟨hM0, hR0, hX0, hB0, by omega⟩ ?hround ?hdone ?hstop
  case hKt => exact fun h k => ⟨h.1.trans k.1, k.2.trans h.2⟩
  case hKb =>
    intro W y o o' hy ho hc hk
    exact ⟨belowK_b (by omega) W y o o' hy ho hc hk, World.cell?_of_block (World.putObj_heap_other (by simp only; omega))⟩
  case hI => exact HI
  case hIx => exact fun c s W W' row h _ _ => h
  case hround =>
    rintro y pre x W hIW hlt
    gi_wp2
    refine ⟨(KeepsOthers.alloc _ _).from _, ?_⟩
    rintro l' o' hl' ⟨o, ho, hc, _⟩
    have hI2 := HI.putObj o' (HI.alloc (.cells #[.string (mk x.1.2.1), .string (mk x.1.2.2)] 55) hIW) hl' ho hc
    have hx : ((W.alloc (.cells #[.string (mk x.1.2.1), .string (mk x.1.2.2)] 55)).putObj l' o').heap[W.heap.size]? = some (.cells #[.string (mk x.1.2.1), .string (mk x.1.2.2)] 55 (0, 0)) := by
      have hne : l' ≠ W.heap.size := by rintro rfl; rw [heap_alloc_new] at ho; cases ho; cases hc
      exact (World.putObj_heap_other (by omega)).trans (heap_alloc_new _ _)
    have hkp : Below H W ((W.alloc (.cells #[.string (mk x.1.2.1), .string (mk x.1.2.2)] 55)).putObj l' o') := ((Below.refl H W).alloc (by have := hIW.2.2.2.2; omega) _).trans (belowK_b (by omega) _ l' o o' hl' ho hc (by cases o <;> simp_all))
    have hcl : ((W.alloc (.cells #[.string (mk x.1.2.1), .string (mk x.1.2.2)] 55)).putObj l' o').cell? ⟨H + 3, 0, none⟩ = W.cell? ⟨H + 3, 0, none⟩ := by
      have hlt3 : H + 3 < W.heap.size := by have := hIW.2.2.2.2; omega
      rw [World.cell?_of_block (a := ⟨H + 3, 0, none⟩) (World.putObj_heap_other (by simp only; omega)), World.cell?_of_block (a := ⟨H + 3, 0, none⟩) (Below.heap_alloc _ _ _ hlt3)]
    obtain ⟨W2, hW2⟩ : ∃ W2, (W.alloc (.cells #[.string (mk x.1.2.1), .string (mk x.1.2.2)] 55)).putObj l' o' = W2 := ⟨_, rfl⟩
    rw [hW2] at hI2 hx hkp hcl ⊢
    obtain ⟨h1, h2, h3, h4, h5⟩ := hI2
    obtain ⟨W3, hrun, hm3, hg3⟩ := rank_update (h1.kept (grown_drew W2 none) (by simp)) x.1.2 x.1.1 (by unfold maxLen; omega) x.2.2.1 x.2.2.2 (by have := x.2.1; omega)
    have q1 := h3.cell
    have q2 := h2.cell 3
    have q3 := cell_of_row W2 _ 0 _ _ _ hx
    have q4 := cell_of_row W2 _ 1 _ _ _ hx
    simp at q2 q3 q4
    have hg4 : W2.grownBy W3 (some H) := grown_trans (grown_drew W2 _) hg3
    have hfin : Hid (KeepsFrom w1.heap.size W2 W3 ∧ (Below H W W3 ∧ W3.cell? ⟨H + 3, 0, none⟩ = W.cell? ⟨H + 3, 0, none⟩) ∧ RankM W3 H (pre ++ [x]).length (foldR ((pre ++ [x]).map Subtype.val)) ∧ RBlk W3 (H + 1) #[.slice none 0 0, .slice none 0 0, .slice none 0 0, .map (some H), .slice none 0 0] ∧ Boxed W3 (H + 2) 109 (.pointer (some ⟨H + 1, 0, none⟩)) ∧ Below H w W3 ∧ H + 4 ≤ W3.heap.size) := by
      refine Lib.hid ⟨KeepsFrom.of_grownBy hg4 (fun j e => by cases e; omega), ⟨hkp.grown hg4 (by omega) (fun k e => by cases e; exact Nat.le_refl _), ?_⟩, ?_, h2.kept hg4 (by simp), h3.kept hg4 (by simp), h4.grown hg4 (by omega) (fun k e => by cases e; exact Nat.le_refl _), by have := hg4.size; omega⟩
      · rw [World.cell?_of_block (a := ⟨H + 3, 0, none⟩) (hg4.block (H + 3) (by omega) (by simp)), hcl]
      · rw [List.map_append, List.map_singleton, foldR_snoc, List.length_append, List.length_singleton]; exact hm3
    clear hIW ho hc hW2 hx hg3 hl' hg4 hm3 h1 h2 h3 h4 h5 hkp hcl
    gi_wp2
    gi_region
    all_goals exact hfin.out
  case hdone =>
    rintro D xs W hD hxs ⟨h1, h2, h3, h4, h5⟩ hK
    have hf0 : foldR (xs.map Subtype.val) = rkL 0 l := by rw [hxs, foldR_bw]
    have hxl : xs.length = n := by rw [← List.length_map (f := Subtype.val), hxs, bw_length]; exact hp.1
    rw [hf0, hxl] at h1
    have hrow0 : Hid (Row1 w W (H + 1) (H + 2) H n (rkL 0 l) wd 0 W) := Lib.hid ⟨_, _, _, ⟨h2, h3, h1, by rw [hH]; exact World.ownsRow_nil _ _ _ _, by rw [hH]; exact World.ownsRow_nil _ _ _ _, by rw [hH]; exact World.ownsRow_nil _ _ _ _, fun g e => by simp [Value.ownBlock] at e, by rw [hH]; exact h4, by omega, K9.refl _⟩⟩
    have HK := Lib.hid hK
    have HD := Lib.hid hD
    have HS := Lib.hid hS0
    obtain ⟨i3, h30, h31, h32, h33⟩ := info_parts info3r
    obtain ⟨i9, h90, h91, h92, h93⟩ := info_parts info41r
    clear h1 h2 h3 h4 h5 hxs hf0 hxl HI hM0 hR0 hX0 hC0 hS0 hB0 hK hD
    obtain ⟨R, hR⟩ : ∃ R, H + 1 = R := ⟨_, rfl⟩
    obtain ⟨X, hX⟩ : ∃ X, H + 2 = X := ⟨_, rfl⟩
    rw [hR, hX] at hrow0
    simp only [hR, hX]
    clear hR hX
    have mixed : Tryd.prog.follows Departure.mixedOrders = true := by kernel_rfl
    go_upto_block 2 with fail
    go_cut [] from 28 to 67 (fun wx => Row1 w W R X H n (rkL 0 l) wd wd.length wx)
    case first =>
      go_wp2_with fail
      go_loopw [28] (fun i wr => ∃ k : Nat, k ≤ wd.length ∧ i = .int .i64 k ∧ Row1 w W R X H n (rkL 0 l) wd k wr) (fun i _ => wd.length - (intOf i).toNat)
      case atStart => exact ⟨0, Nat.zero_le _, rfl, hrow0.out⟩
      case round =>
        obtain ⟨k, hk, rfl, hrow⟩ := hrel
        have HROW := Lib.hid hrow
        clear hrow
        rcases Nat.lt_or_ge k wd.length with hlt | hge
        · have k0 : (0 : Int) ≤ (k : Int) := by omega
          have k1 : (k : Int) < (wd.length : Int) := by omega
          have k2 : (k : Int) ≤ 4096 := by omega
          go_upto_region 11 with fail
          obtain ⟨vP, vN, vQ, hbd⟩ := HROW.out
          have hext := ext_one wd k hlt
          have hw1 : IntKind.i64.wrap ((k : Int) + 1) = (k : Int) + 1 := IntWalk.i64_in _ (by omega)
          have hw2 : IntKind.i64.wrap ((k : Int) - 1) = (k : Int) - 1 := IntWalk.i64_in _ (by omega)
          have hsl := fun (w : World) => run_slice_string (P := Tryd.prog) (w := w) 9 (mk wd) .i64 .i64 (k : Int) ((k : Int) + 1) Tryd.underlying9 (by omega) (by omega) (by rw [hws]; omega)
          rw [show ((k : Int) + 1).toNat = k + 1 by omega, show ((k : Int)).toNat = k by omega, hext] at hsl
          obtain ⟨S1, hS1⟩ : ∃ S1, mk [wd[k]] = S1 := ⟨_, rfl⟩
          rw [hS1] at hsl
          clear hext
          have HLEAF : ∀ {W' : World} {vP vN vQ : Value}, Bd w W R X H n (rkL 0 l) W' #[vP, vN, vQ, .map (some H), .slice none 0 0] vP (k + 1) (tcells (singles (wd.take k)) ++ [.string S1]) vN (k + 1) (icells ((List.range k).map fun (i : Nat) => (i : Int) + 1) ++ [.int .i64 ((k : Int) + 1)]) vQ (k + 1) (icells ((List.range k).map fun (i : Nat) => (i : Int) - 1) ++ [.int .i64 ((k : Int) - 1)]) → Row1 w W R X H n (rkL 0 l) wd (k + 1) W' := fun {W' vP vN vQ} h => ⟨vP, vN, vQ, by
            rw [sing_at wd k hlt, List.range_succ, List.map_append, List.map_append, hS1]
            simpa [icells] using h⟩
          have B0 := bd_drew hbd
          have HE : ∀ {W' : World} {nP : Nat} {xP : List Value} {uP : Value} {nN : Nat} {xN : List Value} {uN : Value} {nQ : Nat} {xQ : List Value} {uQ : Value}, Bd w W R X H n (rkL 0 l) W' #[vP, vN, vQ, .map (some H), .slice none 0 0] uP nP xP uN nN xN uQ nQ xQ → ∀ L : Array Bool, Held 32 (fun w' => w'.cell? ⟨X, 0, none⟩ = some (.pointer (some ⟨R, 0, none⟩))) (fun w' => w'.cell? ⟨R, 0, none⟩ = some vP ∧ w'.cell? ⟨R, 1, none⟩ = some vN ∧ w'.cell? ⟨R, 2, none⟩ = some vQ) L W' :=
            fun h L => ⟨h.hx.cell, fun _ => ⟨h.hb.cell 0, h.hb.cell 1, h.hb.cell 2⟩⟩
          have HT : ∀ {W' : World} {cs : Array Value} {nP : Nat} {xP : List Value} {uP : Value} {nN : Nat} {xN : List Value} {uN : Value} {nQ : Nat} {xQ : List Value} {uQ : Value}, Bd w W R X H n (rkL 0 l) W' cs uP nP xP uN nN xN uQ nQ xQ → ∀ L : Array Bool, L.getD 32 false = true → Held 32 (fun w' => w'.cell? ⟨X, 0, none⟩ = some (.pointer (some ⟨R, 0, none⟩))) (fun w' => w'.cell? ⟨R, 0, none⟩ = some vP ∧ w'.cell? ⟨R, 1, none⟩ = some vN ∧ w'.cell? ⟨R, 2, none⟩ = some vQ) L W' :=
            fun h L e => ⟨h.hx.cell, fun e2 => by rw [e] at e2; cases e2⟩
          obtain ⟨xP, hxP⟩ : ∃ x, tcells (singles (wd.take k)) = x := ⟨_, rfl⟩
          obtain ⟨xN, hxN⟩ : ∃ x, icells ((List.range k).map fun (i : Nat) => (i : Int) + 1) = x := ⟨_, rfl⟩
          obtain ⟨xQ, hxQ⟩ : ∃ x, icells ((List.range k).map fun (i : Nat) => (i : Int) - 1) = x := ⟨_, rfl⟩
          rw [hxP, hxN, hxQ] at B0
          simp only [hxP, hxN, hxQ] at HLEAF
          clear hxP hxN hxQ hbd hS1 HROW
          refine wp_region_noPanic ?_
          refine wp_region_S 32 (fun w' => w'.cell? ⟨X, 0, none⟩ = some (.pointer (some ⟨R, 0, none⟩))) (fun w' => w'.cell? ⟨R, 0, none⟩ = some vP ∧ w'.cell? ⟨R, 1, none⟩ = some vN ∧ w'.cell? ⟨R, 2, none⟩ = some vQ) mixed ?_
          change wpAnyS _ _ _ _ _ _ _ _ _ _ wr.drew
          obtain ⟨w0, hw0⟩ : ∃ u, wr.drew = u := ⟨_, rfl⟩
          rw [hw0] at B0
          rw [hw0]
          clear hw0
          refine wpAnyS_take (i := 0) (v := .pointer (some ⟨R, 0, none⟩)) rfl (by decide) (by kernel_rfl) (by kernel_rfl) (by kernel_rfl) (fun c a w h => h) (.inl ⟨by kernel_rfl, fun w' hS => ?_⟩) (HE B0 _) ?_
          · go_simp
          try go_simp
          refine wpAnyS_take (i := 1) (v := .pointer (some ⟨R, 0, none⟩)) rfl (by decide) (by kernel_rfl) (by kernel_rfl) (by kernel_rfl) (fun c a w h => h) (.inl ⟨by kernel_rfl, fun w' hS => ?_⟩) (HE B0 _) ?_
          · go_simp
          try go_simp
          refine wpAnyS_take (i := 2) (v := .pointer (some ⟨R, 0, none⟩)) rfl (by decide) (by kernel_rfl) (by kernel_rfl) (by kernel_rfl) (fun c a w h => h) (.inl ⟨by kernel_rfl, fun w' hS => ?_⟩) (HE B0 _) ?_
          · go_simp
          try go_simp
          refine wpAnyS_take (i := 3) (v := .pointer (some ⟨R, 0, none⟩)) rfl (by decide) (by kernel_rfl) (by kernel_rfl) (by kernel_rfl) (fun c a w h => h) (.inl ⟨by kernel_rfl, fun w' hS => ?_⟩) (HE B0 _) ?_
          · go_simp
          try go_simp
          refine wpAnyS_take (i := 4) (v := .pointer (some ⟨R, 0, none⟩)) rfl (by decide) (by kernel_rfl) (by kernel_rfl) (by kernel_rfl) (fun c a w h => h) (.inl ⟨by kernel_rfl, fun w' hS => ?_⟩) (HE B0 _) ?_
          · go_simp
          try go_simp
          refine wpAnyS_take (i := 5) (v := .pointer (some ⟨R, 0, none⟩)) rfl (by decide) (by kernel_rfl) (by kernel_rfl) (by kernel_rfl) (fun c a w h => h) (.inl ⟨by kernel_rfl, fun w' hS => ?_⟩) (HE B0 _) ?_
          · go_simp
          try go_simp
          refine wpAnyS_take2 (i := 6) (v := vP) rfl (by decide) rfl (by kernel_rfl) (by kernel_rfl) (by kernel_rfl) (by kernel_rfl) (by kernel_rfl) (fun c a w h => h) (.inl ⟨by kernel_rfl, fun w' hS => ?_⟩) (HE B0 _) ?_
          · have h2 := hS.2.1; go_simp
          try go_simp
          refine wpAnyS_take (i := 7) (v := .string (mk wd)) rfl (by decide) (by kernel_rfl) (by kernel_rfl) (by kernel_rfl) (fun c a w h => h) (.inl ⟨by kernel_rfl, fun w' hS => ?_⟩) (HE B0 _) ?_
          · go_simp
          try go_simp
          refine wpAnyS_take (i := 8) (v := .int .i64 (k : Int)) rfl (by decide) (by kernel_rfl) (by kernel_rfl) (by kernel_rfl) (fun c a w h => h) (.inl ⟨by kernel_rfl, fun w' hS => ?_⟩) (HE B0 _) ?_
          · go_simp
          try go_simp
          refine wpAnyS_take (i := 9) (v := .int .i64 (k : Int)) rfl (by decide) (by kernel_rfl) (by kernel_rfl) (by kernel_rfl) (fun c a w h => h) (.inl ⟨by kernel_rfl, fun w' hS => ?_⟩) (HE B0 _) ?_
          · go_simp
          try go_simp
          refine wpAnyS_take (i := 10) (v := .int .i64 ((k : Int) + 1)) rfl (by decide) (by kernel_rfl) (by kernel_rfl) (by kernel_rfl) (fun c a w h => h) (.inl ⟨by kernel_rfl, fun w' hS => ?_⟩) (HE B0 _) ?_
          · go_simp
          try go_simp
          refine wpAnyS_take (i := 11) (v := .string S1) rfl (by decide) (by kernel_rfl) (by kernel_rfl) (by kernel_rfl) (fun c a w h => h) (.inl ⟨by kernel_rfl, fun w' hS => ?_⟩) (HE B0 _) ?_
          · go_simp
          try go_simp
          refine wpAnyS_take (i := 14) (v := .pointer (some ⟨R, 0, none⟩)) rfl (by decide) (by kernel_rfl) (by kernel_rfl) (by kernel_rfl) (fun c a w h => h) (.inl ⟨by kernel_rfl, fun w' hS => ?_⟩) (HE B0 _) ?_
          · go_simp
          try go_simp
          refine wpAnyS_take (i := 15) (v := .pointer (some ⟨R, 0, none⟩)) rfl (by decide) (by kernel_rfl) (by kernel_rfl) (by kernel_rfl) (fun c a w h => h) (.inl ⟨by kernel_rfl, fun w' hS => ?_⟩) (HE B0 _) ?_
          · go_simp
          try go_simp
          refine wpAnyS_take (i := 16) (v := .pointer (some ⟨R, 1, none⟩)) rfl (by decide) (by kernel_rfl) (by kernel_rfl) (by kernel_rfl) (fun c a w h => h) (.inl ⟨by kernel_rfl, fun w' hS => ?_⟩) (HE B0 _) ?_
          · go_simp
          try go_simp
          refine wpAnyS_take2 (i := 17) (v := vN) rfl (by decide) rfl (by kernel_rfl) (by kernel_rfl) (by kernel_rfl) (by kernel_rfl) (by kernel_rfl) (fun c a w h => h) (.inl ⟨by kernel_rfl, fun w' hS => ?_⟩) (HE B0 _) ?_
          · have h2 := hS.2.2.1; go_simp
          try go_simp
          refine wpAnyS_take (i := 18) (v := .int .i64 (k : Int)) rfl (by decide) (by kernel_rfl) (by kernel_rfl) (by kernel_rfl) (fun c a w h => h) (.inl ⟨by kernel_rfl, fun w' hS => ?_⟩) (HE B0 _) ?_
          · go_simp
          try go_simp
          refine wpAnyS_take (i := 19) (v := .int .i64 ((k : Int) + 1)) rfl (by decide) (by kernel_rfl) (by kernel_rfl) (by kernel_rfl) (fun c a w h => h) (.inl ⟨by kernel_rfl, fun w' hS => ?_⟩) (HE B0 _) ?_
          · go_simp
          try go_simp
          refine wpAnyS_take (i := 22) (v := .pointer (some ⟨R, 0, none⟩)) rfl (by decide) (by kernel_rfl) (by kernel_rfl) (by kernel_rfl) (fun c a w h => h) (.inl ⟨by kernel_rfl, fun w' hS => ?_⟩) (HE B0 _) ?_
          · go_simp
          try go_simp
          refine wpAnyS_take (i := 23) (v := .pointer (some ⟨R, 0, none⟩)) rfl (by decide) (by kernel_rfl) (by kernel_rfl) (by kernel_rfl) (fun c a w h => h) (.inl ⟨by kernel_rfl, fun w' hS => ?_⟩) (HE B0 _) ?_
          · go_simp
          try go_simp
          refine wpAnyS_take (i := 24) (v := .pointer (some ⟨R, 2, none⟩)) rfl (by decide) (by kernel_rfl) (by kernel_rfl) (by kernel_rfl) (fun c a w h => h) (.inl ⟨by kernel_rfl, fun w' hS => ?_⟩) (HE B0 _) ?_
          · go_simp
          try go_simp
          refine wpAnyS_take2 (i := 25) (v := vQ) rfl (by decide) rfl (by kernel_rfl) (by kernel_rfl) (by kernel_rfl) (by kernel_rfl) (by kernel_rfl) (fun c a w h => h) (.inl ⟨by kernel_rfl, fun w' hS => ?_⟩) (HE B0 _) ?_
          · have h2 := hS.2.2.2; go_simp
          try go_simp
          refine wpAnyS_take (i := 26) (v := .int .i64 (k : Int)) rfl (by decide) (by kernel_rfl) (by kernel_rfl) (by kernel_rfl) (fun c a w h => h) (.inl ⟨by kernel_rfl, fun w' hS => ?_⟩) (HE B0 _) ?_
          · go_simp
          try go_simp
          refine wpAnyS_take (i := 27) (v := .int .i64 ((k : Int) - 1)) rfl (by decide) (by kernel_rfl) (by kernel_rfl) (by kernel_rfl) (fun c a w h => h) (.inl ⟨by kernel_rfl, fun w' hS => ?_⟩) (HE B0 _) ?_
          · go_simp
          try go_simp
          refine wpAnyS_all (rs := [12, 20, 28]) (by kernel_rfl) (by simp) ?_
          intro i hi
          simp only [List.mem_cons, List.not_mem_nil, or_false] at hi
          rcases hi with rfl | rfl | rfl
          · unfold wpOp
            go_simp
            have B1 := bd_alloc B0 (.cells #[.string S1] 9)
            have N4 := New1.new w0 (.string S1) 9
            obtain ⟨b3, hb⟩ : ∃ b, w0.heap.size = b := ⟨_, rfl⟩
            obtain ⟨wz2, hw⟩ : ∃ u, w0.alloc (.cells #[.string S1] 9) = u := ⟨_, rfl⟩
            rw [hb] at N4
            rw [hw] at B1 N4
            try rw [hb]
            rw [hw]
            clear hb hw
            first | refine .inl ⟨HE B1 _, ?_⟩ | refine ⟨HE B1 _, ?_⟩
            refine wpAnyS_all (rs := [13, 20, 28]) (by kernel_rfl) (by simp) ?_
            intro i hi
            simp only [List.mem_cons, List.not_mem_nil, or_false] at hi
            rcases hi with rfl | rfl | rfl
            · refine wpOp_append1 (i := 13) rfl rfl (.tmp 37) (.tmp 43) 41 rfl w.heap.size 9 i9 _ 16 Tryd.underlying41 h90 h91 h92 h93 (by rfl) (by omega) _ k _ (by rfl) B1.oP b3 (.string S1) (by rfl) N4 (by rfl) (by omega) B1.bel.size ?_
              intro g7 c8 wz6 ho hg hat
              have B5 := bd_appP B1 hg ho
              clear ho hg hat
              refine ⟨HE B5 _, ?_⟩
              try go_simp
              refine wpAnyS_all (rs := [20, 28]) (by kernel_rfl) (by simp) ?_
              intro i hi
              simp only [List.mem_cons, List.not_mem_nil, or_false] at hi
              rcases hi with rfl | rfl
              · unfold wpOp
                go_simp
                have B9 := bd_alloc B5 (.cells #[.int .i64 ((k : Int) + 1)] 3)
                have N12 := New1.new wz6 (.int .i64 ((k : Int) + 1)) 3
                obtain ⟨b11, hb⟩ : ∃ b, wz6.heap.size = b := ⟨_, rfl⟩
                obtain ⟨wz10, hw⟩ : ∃ u, wz6.alloc (.cells #[.int .i64 ((k : Int) + 1)] 3) = u := ⟨_, rfl⟩
                rw [hb] at N12
                rw [hw] at B9 N12
                try rw [hb]
                rw [hw]
                clear hb hw
                first | refine .inl ⟨HE B9 _, ?_⟩ | refine ⟨HE B9 _, ?_⟩
                refine wpAnyS_all (rs := [21, 28]) (by kernel_rfl) (by simp) ?_
                intro i hi
                simp only [List.mem_cons, List.not_mem_nil, or_false] at hi
                rcases hi with rfl | rfl
                · refine wpOp_append1 (i := 21) rfl rfl (.tmp 48) (.tmp 51) 34 rfl w.heap.size 3 i3 _ 8 Tryd.underlying34 h30 h31 h32 h33 (by rfl) (by omega) _ k _ (by rfl) B9.oN b11 (.int .i64 ((k : Int) + 1)) (by rfl) N12 (by rfl) (by omega) B9.bel.size ?_
                  intro g15 c16 wz14 ho hg hat
                  have B13 := bd_appN B9 hg ho hat
                  clear ho hg hat
                  refine ⟨HE B13 _, ?_⟩
                  try go_simp
                  refine wpAnyS_all (rs := [28]) (by kernel_rfl) (by simp) ?_
                  intro i hi
                  simp only [List.mem_cons, List.not_mem_nil, or_false] at hi
                  subst hi
                  unfold wpOp
                  go_simp
                  have B17 := bd_alloc B13 (.cells #[.int .i64 ((k : Int) - 1)] 3)
                  have N20 := New1.new wz14 (.int .i64 ((k : Int) - 1)) 3
                  obtain ⟨b19, hb⟩ : ∃ b, wz14.heap.size = b := ⟨_, rfl⟩
                  obtain ⟨wz18, hw⟩ : ∃ u, wz14.alloc (.cells #[.int .i64 ((k : Int) - 1)] 3) = u := ⟨_, rfl⟩
                  rw [hb] at N20
                  rw [hw] at B17 N20
                  try rw [hb]
                  rw [hw]
                  clear hb hw
                  first | refine .inl ⟨HE B17 _, ?_⟩ | refine ⟨HE B17 _, ?_⟩
                  refine wpAnyS_all (rs := [29]) (by kernel_rfl) (by simp) ?_
                  intro i hi
                  simp only [List.mem_cons, List.not_mem_nil, or_false] at hi
                  subst hi
                  refine wpOp_append1 (i := 29) rfl rfl (.tmp 56) (.tmp 59) 34 rfl w.heap.size 3 i3 _ 8 Tryd.underlying34 h30 h31 h32 h33 (by rfl) (by omega) _ k _ (by rfl) B17.oQ b19 (.int .i64 ((k : Int) - 1)) (by rfl) N20 (by rfl) (by omega) B17.bel.size ?_
                  intro g23 c24 wz22 ho hg hat
                  have B21 := bd_appQ B17 hg ho hat
                  clear ho hg hat
                  refine ⟨HE B21 _, ?_⟩
                  try go_simp
                  refine wpAnyS_take (i := 30) (v := .pointer (some ⟨R, 0, none⟩)) rfl (by decide) (by kernel_rfl) (by kernel_rfl) (by kernel_rfl) (fun c a w h => h) (.inl ⟨by kernel_rfl, fun w' hS => ?_⟩) (HE B21 _) ?_
                  · go_simp
                  try go_simp
                  refine wpAnyS_take (i := 31) (v := .pointer (some ⟨R, 0, none⟩)) rfl (by decide) (by kernel_rfl) (by kernel_rfl) (by kernel_rfl) (fun c a w h => h) (.inl ⟨by kernel_rfl, fun w' hS => ?_⟩) (HE B21 _) ?_
                  · go_simp
                  try go_simp
                  refine wpAnyS_all (rs := [32]) (by kernel_rfl) (by simp) ?_
                  intro i hi
                  simp only [List.mem_cons, List.not_mem_nil, or_false] at hi
                  subst hi
                  unfold wpOp
                  have y0 := B21.hb.cell 0
                  have y1 := B21.hb.frozen 0
                  simp at y0
                  go_simp
                  have B25 := bd_set B21 0 (.slice (some ⟨g7, 0, none⟩) (k + 1) c8)
                  obtain ⟨wz26, hw⟩ : ∃ u, wz22.setCell ⟨R, 0, none⟩ (.slice (some ⟨g7, 0, none⟩) (k + 1) c8) = u := ⟨_, rfl⟩
                  rw [hw] at B25
                  rw [hw]
                  clear y0 y1 hw
                  first | refine .inl ⟨HT B25 _ (by kernel_rfl), ?_⟩ | refine ⟨HT B25 _ (by kernel_rfl), ?_⟩
                  refine wpAnyS_take (i := 33) (v := .pointer (some ⟨R, 0, none⟩)) rfl (by decide) (by kernel_rfl) (by kernel_rfl) (by kernel_rfl) (fun c a w h => h) (.inl ⟨by kernel_rfl, fun w' hS => ?_⟩) (HT B25 _ (by kernel_rfl)) ?_
                  · go_simp
                  try go_simp
                  refine wpAnyS_take (i := 34) (v := .pointer (some ⟨R, 1, none⟩)) rfl (by decide) (by kernel_rfl) (by kernel_rfl) (by kernel_rfl) (fun c a w h => h) (.inl ⟨by kernel_rfl, fun w' hS => ?_⟩) (HT B25 _ (by kernel_rfl)) ?_
                  · go_simp
                  try go_simp
                  refine wpAnyS_all (rs := [35]) (by kernel_rfl) (by simp) ?_
                  intro i hi
                  simp only [List.mem_cons, List.not_mem_nil, or_false] at hi
                  subst hi
                  unfold wpOp
                  have y0 := B25.hb.cell 1
                  have y1 := B25.hb.frozen 1
                  simp at y0
                  go_simp
                  have B27 := bd_set B25 1 (.slice (some ⟨g15, 0, none⟩) (k + 1) c16)
                  obtain ⟨wz28, hw⟩ : ∃ u, wz26.setCell ⟨R, 1, none⟩ (.slice (some ⟨g15, 0, none⟩) (k + 1) c16) = u := ⟨_, rfl⟩
                  rw [hw] at B27
                  rw [hw]
                  clear y0 y1 hw
                  first | refine .inl ⟨HT B27 _ (by kernel_rfl), ?_⟩ | refine ⟨HT B27 _ (by kernel_rfl), ?_⟩
                  refine wpAnyS_take (i := 36) (v := .pointer (some ⟨R, 0, none⟩)) rfl (by decide) (by kernel_rfl) (by kernel_rfl) (by kernel_rfl) (fun c a w h => h) (.inl ⟨by kernel_rfl, fun w' hS => ?_⟩) (HT B27 _ (by kernel_rfl)) ?_
                  · go_simp
                  try go_simp
                  refine wpAnyS_take (i := 37) (v := .pointer (some ⟨R, 2, none⟩)) rfl (by decide) (by kernel_rfl) (by kernel_rfl) (by kernel_rfl) (fun c a w h => h) (.inl ⟨by kernel_rfl, fun w' hS => ?_⟩) (HT B27 _ (by kernel_rfl)) ?_
                  · go_simp
                  try go_simp
                  refine wpAnyS_all (rs := [38]) (by kernel_rfl) (by simp) ?_
                  intro i hi
                  simp only [List.mem_cons, List.not_mem_nil, or_false] at hi
                  subst hi
                  unfold wpOp
                  have y0 := B27.hb.cell 2
                  have y1 := B27.hb.frozen 2
                  simp at y0
                  go_simp
                  have B29 := bd_set B27 2 (.slice (some ⟨g23, 0, none⟩) (k + 1) c24)
                  obtain ⟨wz30, hw⟩ : ∃ u, wz28.setCell ⟨R, 2, none⟩ (.slice (some ⟨g23, 0, none⟩) (k + 1) c24) = u := ⟨_, rfl⟩
                  rw [hw] at B29
                  rw [hw]
                  clear y0 y1 hw
                  first | refine .inl ⟨HT B29 _ (by kernel_rfl), ?_⟩ | refine ⟨HT B29 _ (by kernel_rfl), ?_⟩
                  refine wpAnyS_done (by kernel_rfl) ?_ _
                  have HL := HLEAF B29
                  clear B29
                  refine NoPanic.normal ?_
                  go_wp2_with fail
                  go_roundw
                  case rel => exact ⟨k + 1, by omega, by go_num, HL⟩
                  case measure => simp [intOf]; omega
                · unfold wpOp
                  go_simp
                  have B31 := bd_alloc B9 (.cells #[.int .i64 ((k : Int) - 1)] 3)
                  have N34 := New1.new wz10 (.int .i64 ((k : Int) - 1)) 3
                  have N35 := N12.alloc (.cells #[.int .i64 ((k : Int) - 1)] 3)
                  obtain ⟨b33, hb⟩ : ∃ b, wz10.heap.size = b := ⟨_, rfl⟩
                  have ap36 : vN.ownBlock ≠ some b33 := fun e => by have := (B9.oN.lt _ e).2; omega
                  obtain ⟨wz32, hw⟩ : ∃ u, wz10.alloc (.cells #[.int .i64 ((k : Int) - 1)] 3) = u := ⟨_, rfl⟩
                  rw [hb] at N34
                  rw [hw] at B31 N34 N35
                  try rw [hb]
                  rw [hw]
                  clear hb hw
                  first | refine .inl ⟨HE B31 _, ?_⟩ | refine ⟨HE B31 _, ?_⟩
                  refine wpAnyS_all (rs := [21]) (by kernel_rfl) (by simp) ?_
                  intro i hi
                  simp only [List.mem_cons, List.not_mem_nil, or_false] at hi
                  subst hi
                  refine wpOp_append1 (i := 21) rfl rfl (.tmp 48) (.tmp 51) 34 rfl w.heap.size 3 i3 _ 8 Tryd.underlying34 h30 h31 h32 h33 (by rfl) (by omega) _ k _ (by rfl) B31.oN b11 (.int .i64 ((k : Int) + 1)) (by rfl) N35 (by rfl) (by omega) B31.bel.size ?_
                  intro g39 c40 wz38 ho hg hat
                  have B37 := bd_appN B31 hg ho hat
                  have N41 := N34.kept hg (ap36)
                  clear ho hg hat
                  refine ⟨HE B37 _, ?_⟩
                  try go_simp
                  refine wpAnyS_all (rs := [29]) (by kernel_rfl) (by simp) ?_
                  intro i hi
                  simp only [List.mem_cons, List.not_mem_nil, or_false] at hi
                  subst hi
                  refine wpOp_append1 (i := 29) rfl rfl (.tmp 56) (.tmp 59) 34 rfl w.heap.size 3 i3 _ 8 Tryd.underlying34 h30 h31 h32 h33 (by rfl) (by omega) _ k _ (by rfl) B37.oQ b33 (.int .i64 ((k : Int) - 1)) (by rfl) N41 (by rfl) (by omega) B37.bel.size ?_
                  intro g44 c45 wz43 ho hg hat
                  have B42 := bd_appQ B37 hg ho hat
                  clear ho hg hat
                  refine ⟨HE B42 _, ?_⟩
                  try go_simp
                  refine wpAnyS_take (i := 30) (v := .pointer (some ⟨R, 0, none⟩)) rfl (by decide) (by kernel_rfl) (by kernel_rfl) (by kernel_rfl) (fun c a w h => h) (.inl ⟨by kernel_rfl, fun w' hS => ?_⟩) (HE B42 _) ?_
                  · go_simp
                  try go_simp
                  refine wpAnyS_take (i := 31) (v := .pointer (some ⟨R, 0, none⟩)) rfl (by decide) (by kernel_rfl) (by kernel_rfl) (by kernel_rfl) (fun c a w h => h) (.inl ⟨by kernel_rfl, fun w' hS => ?_⟩) (HE B42 _) ?_
                  · go_simp
                  try go_simp
                  refine wpAnyS_all (rs := [32]) (by kernel_rfl) (by simp) ?_
                  intro i hi
                  simp only [List.mem_cons, List.not_mem_nil, or_false] at hi
                  subst hi
                  unfold wpOp
                  have y0 := B42.hb.cell 0
                  have y1 := B42.hb.frozen 0
                  simp at y0
                  go_simp
                  have B46 := bd_set B42 0 (.slice (some ⟨g7, 0, none⟩) (k + 1) c8)
                  obtain ⟨wz47, hw⟩ : ∃ u, wz43.setCell ⟨R, 0, none⟩ (.slice (some ⟨g7, 0, none⟩) (k + 1) c8) = u := ⟨_, rfl⟩
                  rw [hw] at B46
                  rw [hw]
                  clear y0 y1 hw
                  first | refine .inl ⟨HT B46 _ (by kernel_rfl), ?_⟩ | refine ⟨HT B46 _ (by kernel_rfl), ?_⟩
                  refine wpAnyS_take (i := 33) (v := .pointer (some ⟨R, 0, none⟩)) rfl (by decide) (by kernel_rfl) (by kernel_rfl) (by kernel_rfl) (fun c a w h => h) (.inl ⟨by kernel_rfl, fun w' hS => ?_⟩) (HT B46 _ (by kernel_rfl)) ?_
                  · go_simp
                  try go_simp
                  refine wpAnyS_take (i := 34) (v := .pointer (some ⟨R, 1, none⟩)) rfl (by decide) (by kernel_rfl) (by kernel_rfl) (by kernel_rfl) (fun c a w h => h) (.inl ⟨by kernel_rfl, fun w' hS => ?_⟩) (HT B46 _ (by kernel_rfl)) ?_
                  · go_simp
                  try go_simp
                  refine wpAnyS_all (rs := [35]) (by kernel_rfl) (by simp) ?_
                  intro i hi
                  simp only [List.mem_cons, List.not_mem_nil, or_false] at hi
                  subst hi
                  unfold wpOp
                  have y0 := B46.hb.cell 1
                  have y1 := B46.hb.frozen 1
                  simp at y0
                  go_simp
                  have B48 := bd_set B46 1 (.slice (some ⟨g39, 0, none⟩) (k + 1) c40)
                  obtain ⟨wz49, hw⟩ : ∃ u, wz47.setCell ⟨R, 1, none⟩ (.slice (some ⟨g39, 0, none⟩) (k + 1) c40) = u := ⟨_, rfl⟩
                  rw [hw] at B48
                  rw [hw]
                  clear y0 y1 hw
                  first | refine .inl ⟨HT B48 _ (by kernel_rfl), ?_⟩ | refine ⟨HT B48 _ (by kernel_rfl), ?_⟩
                  refine wpAnyS_take (i := 36) (v := .pointer (some ⟨R, 0, none⟩)) rfl (by decide) (by kernel_rfl) (by kernel_rfl) (by kernel_rfl) (fun c a w h => h) (.inl ⟨by kernel_rfl, fun w' hS => ?_⟩) (HT B48 _ (by kernel_rfl)) ?_
                  · go_simp
                  try go_simp
                  refine wpAnyS_take (i := 37) (v := .pointer (some ⟨R, 2, none⟩)) rfl (by decide) (by kernel_rfl) (by kernel_rfl) (by kernel_rfl) (fun c a w h => h) (.inl ⟨by kernel_rfl, fun w' hS => ?_⟩) (HT B48 _ (by kernel_rfl)) ?_
                  · go_simp
                  try go_simp
                  refine wpAnyS_all (rs := [38]) (by kernel_rfl) (by simp) ?_
                  intro i hi
                  simp only [List.mem_cons, List.not_mem_nil, or_false] at hi
                  subst hi
                  unfold wpOp
                  have y0 := B48.hb.cell 2
                  have y1 := B48.hb.frozen 2
                  simp at y0
                  go_simp
                  have B50 := bd_set B48 2 (.slice (some ⟨g44, 0, none⟩) (k + 1) c45)
                  obtain ⟨wz51, hw⟩ : ∃ u, wz49.setCell ⟨R, 2, none⟩ (.slice (some ⟨g44, 0, none⟩) (k + 1) c45) = u := ⟨_, rfl⟩
                  rw [hw] at B50
                  rw [hw]
                  clear y0 y1 hw
                  first | refine .inl ⟨HT B50 _ (by kernel_rfl), ?_⟩ | refine ⟨HT B50 _ (by kernel_rfl), ?_⟩
                  refine wpAnyS_done (by kernel_rfl) ?_ _
                  have HL := HLEAF B50
                  clear B50
                  refine NoPanic.normal ?_
                  go_wp2_with fail
                  go_roundw
                  case rel => exact ⟨k + 1, by omega, by go_num, HL⟩
                  case measure => simp [intOf]; omega
              · unfold wpOp
                go_simp
                have B52 := bd_alloc B5 (.cells #[.int .i64 ((k : Int) - 1)] 3)
                have N55 := New1.new wz6 (.int .i64 ((k : Int) - 1)) 3
                obtain ⟨b54, hb⟩ : ∃ b, wz6.heap.size = b := ⟨_, rfl⟩
                have ap56 : vN.ownBlock ≠ some b54 := fun e => by have := (B5.oN.lt _ e).2; omega
                obtain ⟨wz53, hw⟩ : ∃ u, wz6.alloc (.cells #[.int .i64 ((k : Int) - 1)] 3) = u := ⟨_, rfl⟩
                rw [hb] at N55
                rw [hw] at B52 N55
                try rw [hb]
                rw [hw]
                clear hb hw
                first | refine .inl ⟨HE B52 _, ?_⟩ | refine ⟨HE B52 _, ?_⟩
                refine wpAnyS_all (rs := [20]) (by kernel_rfl) (by simp) ?_
                intro i hi
                simp only [List.mem_cons, List.not_mem_nil, or_false] at hi
                subst hi
                unfold wpOp
                go_simp
                have B57 := bd_alloc B52 (.cells #[.int .i64 ((k : Int) + 1)] 3)
                have N60 := New1.new wz53 (.int .i64 ((k : Int) + 1)) 3
                have N61 := N55.alloc (.cells #[.int .i64 ((k : Int) + 1)] 3)
                obtain ⟨b59, hb⟩ : ∃ b, wz53.heap.size = b := ⟨_, rfl⟩
                obtain ⟨wz58, hw⟩ : ∃ u, wz53.alloc (.cells #[.int .i64 ((k : Int) + 1)] 3) = u := ⟨_, rfl⟩
                rw [hb] at N60
                rw [hw] at B57 N60 N61
                try rw [hb]
                rw [hw]
                clear hb hw
                first | refine .inl ⟨HE B57 _, ?_⟩ | refine ⟨HE B57 _, ?_⟩
                refine wpAnyS_all (rs := [21]) (by kernel_rfl) (by simp) ?_
                intro i hi
                simp only [List.mem_cons, List.not_mem_nil, or_false] at hi
                subst hi
                refine wpOp_append1 (i := 21) rfl rfl (.tmp 48) (.tmp 51) 34 rfl w.heap.size 3 i3 _ 8 Tryd.underlying34 h30 h31 h32 h33 (by rfl) (by omega) _ k _ (by rfl) B57.oN b59 (.int .i64 ((k : Int) + 1)) (by rfl) N60 (by rfl) (by omega) B57.bel.size ?_
                intro g64 c65 wz63 ho hg hat
                have B62 := bd_appN B57 hg ho hat
                have N66 := N61.kept hg (ap56)
                clear ho hg hat
                refine ⟨HE B62 _, ?_⟩
                try go_simp
                refine wpAnyS_all (rs := [29]) (by kernel_rfl) (by simp) ?_
                intro i hi
                simp only [List.mem_cons, List.not_mem_nil, or_false] at hi
                subst hi
                refine wpOp_append1 (i := 29) rfl rfl (.tmp 56) (.tmp 59) 34 rfl w.heap.size 3 i3 _ 8 Tryd.underlying34 h30 h31 h32 h33 (by rfl) (by omega) _ k _ (by rfl) B62.oQ b54 (.int .i64 ((k : Int) - 1)) (by rfl) N66 (by rfl) (by omega) B62.bel.size ?_
                intro g69 c70 wz68 ho hg hat
                have B67 := bd_appQ B62 hg ho hat
                clear ho hg hat
                refine ⟨HE B67 _, ?_⟩
                try go_simp
                refine wpAnyS_take (i := 30) (v := .pointer (some ⟨R, 0, none⟩)) rfl (by decide) (by kernel_rfl) (by kernel_rfl) (by kernel_rfl) (fun c a w h => h) (.inl ⟨by kernel_rfl, fun w' hS => ?_⟩) (HE B67 _) ?_
                · go_simp
                try go_simp
                refine wpAnyS_take (i := 31) (v := .pointer (some ⟨R, 0, none⟩)) rfl (by decide) (by kernel_rfl) (by kernel_rfl) (by kernel_rfl) (fun c a w h => h) (.inl ⟨by kernel_rfl, fun w' hS => ?_⟩) (HE B67 _) ?_
                · go_simp
                try go_simp
                refine wpAnyS_all (rs := [32]) (by kernel_rfl) (by simp) ?_
                intro i hi
                simp only [List.mem_cons, List.not_mem_nil, or_false] at hi
                subst hi
                unfold wpOp
                have y0 := B67.hb.cell 0
                have y1 := B67.hb.frozen 0
                simp at y0
                go_simp
                have B71 := bd_set B67 0 (.slice (some ⟨g7, 0, none⟩) (k + 1) c8)
                obtain ⟨wz72, hw⟩ : ∃ u, wz68.setCell ⟨R, 0, none⟩ (.slice (some ⟨g7, 0, none⟩) (k + 1) c8) = u := ⟨_, rfl⟩
                rw [hw] at B71
                rw [hw]
                clear y0 y1 hw
                first | refine .inl ⟨HT B71 _ (by kernel_rfl), ?_⟩ | refine ⟨HT B71 _ (by kernel_rfl), ?_⟩
                refine wpAnyS_take (i := 33) (v := .pointer (some ⟨R, 0, none⟩)) rfl (by decide) (by kernel_rfl) (by kernel_rfl) (by kernel_rfl) (fun c a w h => h) (.inl ⟨by kernel_rfl, fun w' hS => ?_⟩) (HT B71 _ (by kernel_rfl)) ?_
                · go_simp
                try go_simp
                refine wpAnyS_take (i := 34) (v := .pointer (some ⟨R, 1, none⟩)) rfl (by decide) (by kernel_rfl) (by kernel_rfl) (by kernel_rfl) (fun c a w h => h) (.inl ⟨by kernel_rfl, fun w' hS => ?_⟩) (HT B71 _ (by kernel_rfl)) ?_
                · go_simp
                try go_simp
                refine wpAnyS_all (rs := [35]) (by kernel_rfl) (by simp) ?_
                intro i hi
                simp only [List.mem_cons, List.not_mem_nil, or_false] at hi
                subst hi
                unfold wpOp
                have y0 := B71.hb.cell 1
                have y1 := B71.hb.frozen 1
                simp at y0
                go_simp
                have B73 := bd_set B71 1 (.slice (some ⟨g64, 0, none⟩) (k + 1) c65)
                obtain ⟨wz74, hw⟩ : ∃ u, wz72.setCell ⟨R, 1, none⟩ (.slice (some ⟨g64, 0, none⟩) (k + 1) c65) = u := ⟨_, rfl⟩
                rw [hw] at B73
                rw [hw]
                clear y0 y1 hw
                first | refine .inl ⟨HT B73 _ (by kernel_rfl), ?_⟩ | refine ⟨HT B73 _ (by kernel_rfl), ?_⟩
                refine wpAnyS_take (i := 36) (v := .pointer (some ⟨R, 0, none⟩)) rfl (by decide) (by kernel_rfl) (by kernel_rfl) (by kernel_rfl) (fun c a w h => h) (.inl ⟨by kernel_rfl, fun w' hS => ?_⟩) (HT B73 _ (by kernel_rfl)) ?_
                · go_simp
                try go_simp
                refine wpAnyS_take (i := 37) (v := .pointer (some ⟨R, 2, none⟩)) rfl (by decide) (by kernel_rfl) (by kernel_rfl) (by kernel_rfl) (fun c a w h => h) (.inl ⟨by kernel_rfl, fun w' hS => ?_⟩) (HT B73 _ (by kernel_rfl)) ?_
                · go_simp
                try go_simp
                refine wpAnyS_all (rs := [38]) (by kernel_rfl) (by simp) ?_
                intro i hi
                simp only [List.mem_cons, List.not_mem_nil, or_false] at hi
                subst hi
                unfold wpOp
                have y0 := B73.hb.cell 2
                have y1 := B73.hb.frozen 2
                simp at y0
                go_simp
                have B75 := bd_set B73 2 (.slice (some ⟨g69, 0, none⟩) (k + 1) c70)
                obtain ⟨wz76, hw⟩ : ∃ u, wz74.setCell ⟨R, 2, none⟩ (.slice (some ⟨g69, 0, none⟩) (k + 1) c70) = u := ⟨_, rfl⟩
                rw [hw] at B75
                rw [hw]
                clear y0 y1 hw
                first | refine .inl ⟨HT B75 _ (by kernel_rfl), ?_⟩ | refine ⟨HT B75 _ (by kernel_rfl), ?_⟩
                refine wpAnyS_done (by kernel_rfl) ?_ _
                have HL := HLEAF B75
                clear B75
                refine NoPanic.normal ?_
                go_wp2_with fail
                go_roundw
                case rel => exact ⟨k + 1, by omega, by go_num, HL⟩
                case measure => simp [intOf]; omega
            · unfold wpOp
              go_simp
              have B77 := bd_alloc B1 (.cells #[.int .i64 ((k : Int) + 1)] 3)
              have N80 := New1.new wz2 (.int .i64 ((k : Int) + 1)) 3
              have N81 := N4.alloc (.cells #[.int .i64 ((k : Int) + 1)] 3)
              obtain ⟨b79, hb⟩ : ∃ b, wz2.heap.size = b := ⟨_, rfl⟩
              obtain ⟨wz78, hw⟩ : ∃ u, wz2.alloc (.cells #[.int .i64 ((k : Int) + 1)] 3) = u := ⟨_, rfl⟩
              rw [hb] at N80
              rw [hw] at B77 N80 N81
              try rw [hb]
              rw [hw]
              clear hb hw
              first | refine .inl ⟨HE B77 _, ?_⟩ | refine ⟨HE B77 _, ?_⟩
              refine wpAnyS_all (rs := [13, 28]) (by kernel_rfl) (by simp) ?_
              intro i hi
              simp only [List.mem_cons, List.not_mem_nil, or_false] at hi
              rcases hi with rfl | rfl
              · refine wpOp_append1 (i := 13) rfl rfl (.tmp 37) (.tmp 43) 41 rfl w.heap.size 9 i9 _ 16 Tryd.underlying41 h90 h91 h92 h93 (by rfl) (by omega) _ k _ (by rfl) B77.oP b3 (.string S1) (by rfl) N81 (by rfl) (by omega) B77.bel.size ?_
                intro g84 c85 wz83 ho hg hat
                have B82 := bd_appP B77 hg ho
                have N86 := N80.kept hg (own_ne_cells B77.oP N80 (by decide))
                clear ho hg hat
                refine ⟨HE B82 _, ?_⟩
                try go_simp
                refine wpAnyS_all (rs := [21, 28]) (by kernel_rfl) (by simp) ?_
                intro i hi
                simp only [List.mem_cons, List.not_mem_nil, or_false] at hi
                rcases hi with rfl | rfl
                · refine wpOp_append1 (i := 21) rfl rfl (.tmp 48) (.tmp 51) 34 rfl w.heap.size 3 i3 _ 8 Tryd.underlying34 h30 h31 h32 h33 (by rfl) (by omega) _ k _ (by rfl) B82.oN b79 (.int .i64 ((k : Int) + 1)) (by rfl) N86 (by rfl) (by omega) B82.bel.size ?_
                  intro g89 c90 wz88 ho hg hat
                  have B87 := bd_appN B82 hg ho hat
                  clear ho hg hat
                  refine ⟨HE B87 _, ?_⟩
                  try go_simp
                  refine wpAnyS_all (rs := [28]) (by kernel_rfl) (by simp) ?_
                  intro i hi
                  simp only [List.mem_cons, List.not_mem_nil, or_false] at hi
                  subst hi
                  unfold wpOp
                  go_simp
                  have B91 := bd_alloc B87 (.cells #[.int .i64 ((k : Int) - 1)] 3)
                  have N94 := New1.new wz88 (.int .i64 ((k : Int) - 1)) 3
                  obtain ⟨b93, hb⟩ : ∃ b, wz88.heap.size = b := ⟨_, rfl⟩
                  obtain ⟨wz92, hw⟩ : ∃ u, wz88.alloc (.cells #[.int .i64 ((k : Int) - 1)] 3) = u := ⟨_, rfl⟩
                  rw [hb] at N94
                  rw [hw] at B91 N94
                  try rw [hb]
                  rw [hw]
                  clear hb hw
                  first | refine .inl ⟨HE B91 _, ?_⟩ | refine ⟨HE B91 _, ?_⟩
                  refine wpAnyS_all (rs := [29]) (by kernel_rfl) (by simp) ?_
                  intro i hi
                  simp only [List.mem_cons, List.not_mem_nil, or_false] at hi
                  subst hi
                  refine wpOp_append1 (i := 29) rfl rfl (.tmp 56) (.tmp 59) 34 rfl w.heap.size 3 i3 _ 8 Tryd.underlying34 h30 h31 h32 h33 (by rfl) (by omega) _ k _ (by rfl) B91.oQ b93 (.int .i64 ((k : Int) - 1)) (by rfl) N94 (by rfl) (by omega) B91.bel.size ?_
                  intro g97 c98 wz96 ho hg hat
                  have B95 := bd_appQ B91 hg ho hat
                  clear ho hg hat
                  refine ⟨HE B95 _, ?_⟩
                  try go_simp
                  refine wpAnyS_take (i := 30) (v := .pointer (some ⟨R, 0, none⟩)) rfl (by decide) (by kernel_rfl) (by kernel_rfl) (by kernel_rfl) (fun c a w h => h) (.inl ⟨by kernel_rfl, fun w' hS => ?_⟩) (HE B95 _) ?_
                  · go_simp
                  try go_simp
                  refine wpAnyS_take (i := 31) (v := .pointer (some ⟨R, 0, none⟩)) rfl (by decide) (by kernel_rfl) (by kernel_rfl) (by kernel_rfl) (fun c a w h => h) (.inl ⟨by kernel_rfl, fun w' hS => ?_⟩) (HE B95 _) ?_
                  · go_simp
                  try go_simp
                  refine wpAnyS_all (rs := [32]) (by kernel_rfl) (by simp) ?_
                  intro i hi
                  simp only [List.mem_cons, List.not_mem_nil, or_false] at hi
                  subst hi
                  unfold wpOp
                  have y0 := B95.hb.cell 0
                  have y1 := B95.hb.frozen 0
                  simp at y0
                  go_simp
                  have B99 := bd_set B95 0 (.slice (some ⟨g84, 0, none⟩) (k + 1) c85)
                  obtain ⟨wz100, hw⟩ : ∃ u, wz96.setCell ⟨R, 0, none⟩ (.slice (some ⟨g84, 0, none⟩) (k + 1) c85) = u := ⟨_, rfl⟩
                  rw [hw] at B99
                  rw [hw]
                  clear y0 y1 hw
                  first | refine .inl ⟨HT B99 _ (by kernel_rfl), ?_⟩ | refine ⟨HT B99 _ (by kernel_rfl), ?_⟩
                  refine wpAnyS_take (i := 33) (v := .pointer (some ⟨R, 0, none⟩)) rfl (by decide) (by kernel_rfl) (by kernel_rfl) (by kernel_rfl) (fun c a w h => h) (.inl ⟨by kernel_rfl, fun w' hS => ?_⟩) (HT B99 _ (by kernel_rfl)) ?_
                  · go_simp
                  try go_simp
                  refine wpAnyS_take (i := 34) (v := .pointer (some ⟨R, 1, none⟩)) rfl (by decide) (by kernel_rfl) (by kernel_rfl) (by kernel_rfl) (fun c a w h => h) (.inl ⟨by kernel_rfl, fun w' hS => ?_⟩) (HT B99 _ (by kernel_rfl)) ?_
                  · go_simp
                  try go_simp
                  refine wpAnyS_all (rs := [35]) (by kernel_rfl) (by simp) ?_
                  intro i hi
                  simp only [List.mem_cons, List.not_mem_nil, or_false] at hi
                  subst hi
                  unfold wpOp
                  have y0 := B99.hb.cell 1
                  have y1 := B99.hb.frozen 1
                  simp at y0
                  go_simp
                  have B101 := bd_set B99 1 (.slice (some ⟨g89, 0, none⟩) (k + 1) c90)
                  obtain ⟨wz102, hw⟩ : ∃ u, wz100.setCell ⟨R, 1, none⟩ (.slice (some ⟨g89, 0, none⟩) (k + 1) c90) = u := ⟨_, rfl⟩
                  rw [hw] at B101
                  rw [hw]
                  clear y0 y1 hw
                  first | refine .inl ⟨HT B101 _ (by kernel_rfl), ?_⟩ | refine ⟨HT B101 _ (by kernel_rfl), ?_⟩
                  refine wpAnyS_take (i := 36) (v := .pointer (some ⟨R, 0, none⟩)) rfl (by decide) (by kernel_rfl) (by kernel_rfl) (by kernel_rfl) (fun c a w h => h) (.inl ⟨by kernel_rfl, fun w' hS => ?_⟩) (HT B101 _ (by kernel_rfl)) ?_
                  · go_simp
                  try go_simp
                  refine wpAnyS_take (i := 37) (v := .pointer (some ⟨R, 2, none⟩)) rfl (by decide) (by kernel_rfl) (by kernel_rfl) (by kernel_rfl) (fun c a w h => h) (.inl ⟨by kernel_rfl, fun w' hS => ?_⟩) (HT B101 _ (by kernel_rfl)) ?_
                  · go_simp
                  try go_simp
                  refine wpAnyS_all (rs := [38]) (by kernel_rfl) (by simp) ?_
                  intro i hi
                  simp only [List.mem_cons, List.not_mem_nil, or_false] at hi
                  subst hi
                  unfold wpOp
                  have y0 := B101.hb.cell 2
                  have y1 := B101.hb.frozen 2
                  simp at y0
                  go_simp
                  have B103 := bd_set B101 2 (.slice (some ⟨g97, 0, none⟩) (k + 1) c98)
                  obtain ⟨wz104, hw⟩ : ∃ u, wz102.setCell ⟨R, 2, none⟩ (.slice (some ⟨g97, 0, none⟩) (k + 1) c98) = u := ⟨_, rfl⟩
                  rw [hw] at B103
                  rw [hw]
                  clear y0 y1 hw
                  first | refine .inl ⟨HT B103 _ (by kernel_rfl), ?_⟩ | refine ⟨HT B103 _ (by kernel_rfl), ?_⟩
                  refine wpAnyS_done (by kernel_rfl) ?_ _
                  have HL := HLEAF B103
                  clear B103
                  refine NoPanic.normal ?_
                  go_wp2_with fail
                  go_roundw
                  case rel => exact ⟨k + 1, by omega, by go_num, HL⟩
                  case measure => simp [intOf]; omega
                · unfold wpOp
                  go_simp
                  have B105 := bd_alloc B82 (.cells #[.int .i64 ((k : Int) - 1)] 3)
                  have N108 := New1.new wz83 (.int .i64 ((k : Int) - 1)) 3
                  have N109 := N86.alloc (.cells #[.int .i64 ((k : Int) - 1)] 3)
                  obtain ⟨b107, hb⟩ : ∃ b, wz83.heap.size = b := ⟨_, rfl⟩
                  have ap110 : vN.ownBlock ≠ some b107 := fun e => by have := (B82.oN.lt _ e).2; omega
                  obtain ⟨wz106, hw⟩ : ∃ u, wz83.alloc (.cells #[.int .i64 ((k : Int) - 1)] 3) = u := ⟨_, rfl⟩
                  rw [hb] at N108
                  rw [hw] at B105 N108 N109
                  try rw [hb]
                  rw [hw]
                  clear hb hw
                  first | refine .inl ⟨HE B105 _, ?_⟩ | refine ⟨HE B105 _, ?_⟩
                  refine wpAnyS_all (rs := [21]) (by kernel_rfl) (by simp) ?_
                  intro i hi
                  simp only [List.mem_cons, List.not_mem_nil, or_false] at hi
                  subst hi
                  refine wpOp_append1 (i := 21) rfl rfl (.tmp 48) (.tmp 51) 34 rfl w.heap.size 3 i3 _ 8 Tryd.underlying34 h30 h31 h32 h33 (by rfl) (by omega) _ k _ (by rfl) B105.oN b79 (.int .i64 ((k : Int) + 1)) (by rfl) N109 (by rfl) (by omega) B105.bel.size ?_
                  intro g113 c114 wz112 ho hg hat
                  have B111 := bd_appN B105 hg ho hat
                  have N115 := N108.kept hg (ap110)
                  clear ho hg hat
                  refine ⟨HE B111 _, ?_⟩
                  try go_simp
                  refine wpAnyS_all (rs := [29]) (by kernel_rfl) (by simp) ?_
                  intro i hi
                  simp only [List.mem_cons, List.not_mem_nil, or_false] at hi
                  subst hi
                  refine wpOp_append1 (i := 29) rfl rfl (.tmp 56) (.tmp 59) 34 rfl w.heap.size 3 i3 _ 8 Tryd.underlying34 h30 h31 h32 h33 (by rfl) (by omega) _ k _ (by rfl) B111.oQ b107 (.int .i64 ((k : Int) - 1)) (by rfl) N115 (by rfl) (by omega) B111.bel.size ?_
                  intro g118 c119 wz117 ho hg hat
                  have B116 := bd_appQ B111 hg ho hat
                  clear ho hg hat
                  refine ⟨HE B116 _, ?_⟩
                  try go_simp
                  refine wpAnyS_take (i := 30) (v := .pointer (some ⟨R, 0, none⟩)) rfl (by decide) (by kernel_rfl) (by kernel_rfl) (by kernel_rfl) (fun c a w h => h) (.inl ⟨by kernel_rfl, fun w' hS => ?_⟩) (HE B116 _) ?_
                  · go_simp
                  try go_simp
                  refine wpAnyS_take (i := 31) (v := .pointer (some ⟨R, 0, none⟩)) rfl (by decide) (by kernel_rfl) (by kernel_rfl) (by kernel_rfl) (fun c a w h => h) (.inl ⟨by kernel_rfl, fun w' hS => ?_⟩) (HE B116 _) ?_
                  · go_simp
                  try go_simp
                  refine wpAnyS_all (rs := [32]) (by kernel_rfl) (by simp) ?_
                  intro i hi
                  simp only [List.mem_cons, List.not_mem_nil, or_false] at hi
                  subst hi
                  unfold wpOp
                  have y0 := B116.hb.cell 0
                  have y1 := B116.hb.frozen 0
                  simp at y0
                  go_simp
                  have B120 := bd_set B116 0 (.slice (some ⟨g84, 0, none⟩) (k + 1) c85)
                  obtain ⟨wz121, hw⟩ : ∃ u, wz117.setCell ⟨R, 0, none⟩ (.slice (some ⟨g84, 0, none⟩) (k + 1) c85) = u := ⟨_, rfl⟩
                  rw [hw] at B120
                  rw [hw]
                  clear y0 y1 hw
                  first | refine .inl ⟨HT B120 _ (by kernel_rfl), ?_⟩ | refine ⟨HT B120 _ (by kernel_rfl), ?_⟩
                  refine wpAnyS_take (i := 33) (v := .pointer (some ⟨R, 0, none⟩)) rfl (by decide) (by kernel_rfl) (by kernel_rfl) (by kernel_rfl) (fun c a w h => h) (.inl ⟨by kernel_rfl, fun w' hS => ?_⟩) (HT B120 _ (by kernel_rfl)) ?_
                  · go_simp
                  try go_simp
                  refine wpAnyS_take (i := 34) (v := .pointer (some ⟨R, 1, none⟩)) rfl (by decide) (by kernel_rfl) (by kernel_rfl) (by kernel_rfl) (fun c a w h => h) (.inl ⟨by kernel_rfl, fun w' hS => ?_⟩) (HT B120 _ (by kernel_rfl)) ?_
                  · go_simp
                  try go_simp
                  refine wpAnyS_all (rs := [35]) (by kernel_rfl) (by simp) ?_
                  intro i hi
                  simp only [List.mem_cons, List.not_mem_nil, or_false] at hi
                  subst hi
                  unfold wpOp
                  have y0 := B120.hb.cell 1
                  have y1 := B120.hb.frozen 1
                  simp at y0
                  go_simp
                  have B122 := bd_set B120 1 (.slice (some ⟨g113, 0, none⟩) (k + 1) c114)
                  obtain ⟨wz123, hw⟩ : ∃ u, wz121.setCell ⟨R, 1, none⟩ (.slice (some ⟨g113, 0, none⟩) (k + 1) c114) = u := ⟨_, rfl⟩
                  rw [hw] at B122
                  rw [hw]
                  clear y0 y1 hw
                  first | refine .inl ⟨HT B122 _ (by kernel_rfl), ?_⟩ | refine ⟨HT B122 _ (by kernel_rfl), ?_⟩
                  refine wpAnyS_take (i := 36) (v := .pointer (some ⟨R, 0, none⟩)) rfl (by decide) (by kernel_rfl) (by kernel_rfl) (by kernel_rfl) (fun c a w h => h) (.inl ⟨by kernel_rfl, fun w' hS => ?_⟩) (HT B122 _ (by kernel_rfl)) ?_
                  · go_simp
                  try go_simp
                  refine wpAnyS_take (i := 37) (v := .pointer (some ⟨R, 2, none⟩)) rfl (by decide) (by kernel_rfl) (by kernel_rfl) (by kernel_rfl) (fun c a w h => h) (.inl ⟨by kernel_rfl, fun w' hS => ?_⟩) (HT B122 _ (by kernel_rfl)) ?_
                  · go_simp
                  try go_simp
                  refine wpAnyS_all (rs := [38]) (by kernel_rfl) (by simp) ?_
                  intro i hi
                  simp only [List.mem_cons, List.not_mem_nil, or_false] at hi
                  subst hi
                  unfold wpOp
                  have y0 := B122.hb.cell 2
                  have y1 := B122.hb.frozen 2
                  simp at y0
                  go_simp
                  have B124 := bd_set B122 2 (.slice (some ⟨g118, 0, none⟩) (k + 1) c119)
                  obtain ⟨wz125, hw⟩ : ∃ u, wz123.setCell ⟨R, 2, none⟩ (.slice (some ⟨g118, 0, none⟩) (k + 1) c119) = u := ⟨_, rfl⟩
                  rw [hw] at B124
                  rw [hw]
                  clear y0 y1 hw
                  first | refine .inl ⟨HT B124 _ (by kernel_rfl), ?_⟩ | refine ⟨HT B124 _ (by kernel_rfl), ?_⟩
                  refine wpAnyS_done (by kernel_rfl) ?_ _
                  have HL := HLEAF B124
                  clear B124
                  refine NoPanic.normal ?_
                  go_wp2_with fail
                  go_roundw
                  case rel => exact ⟨k + 1, by omega, by go_num, HL⟩
                  case measure => simp [intOf]; omega
              · unfold wpOp
                go_simp
                have B126 := bd_alloc B77 (.cells #[.int .i64 ((k : Int) - 1)] 3)
                have N129 := New1.new wz78 (.int .i64 ((k : Int) - 1)) 3
                have N130 := N81.alloc (.cells #[.int .i64 ((k : Int) - 1)] 3)
                have N131 := N80.alloc (.cells #[.int .i64 ((k : Int) - 1)] 3)
                obtain ⟨b128, hb⟩ : ∃ b, wz78.heap.size = b := ⟨_, rfl⟩
                have ap132 : vN.ownBlock ≠ some b128 := fun e => by have := (B77.oN.lt _ e).2; omega
                obtain ⟨wz127, hw⟩ : ∃ u, wz78.alloc (.cells #[.int .i64 ((k : Int) - 1)] 3) = u := ⟨_, rfl⟩
                rw [hb] at N129
                rw [hw] at B126 N129 N130 N131
                try rw [hb]
                rw [hw]
                clear hb hw
                first | refine .inl ⟨HE B126 _, ?_⟩ | refine ⟨HE B126 _, ?_⟩
                refine wpAnyS_all (rs := [13]) (by kernel_rfl) (by simp) ?_
                intro i hi
                simp only [List.mem_cons, List.not_mem_nil, or_false] at hi
                subst hi
                refine wpOp_append1 (i := 13) rfl rfl (.tmp 37) (.tmp 43) 41 rfl w.heap.size 9 i9 _ 16 Tryd.underlying41 h90 h91 h92 h93 (by rfl) (by omega) _ k _ (by rfl) B126.oP b3 (.string S1) (by rfl) N130 (by rfl) (by omega) B126.bel.size ?_
                intro g135 c136 wz134 ho hg hat
                have B133 := bd_appP B126 hg ho
                have N137 := N131.kept hg (own_ne_cells B126.oP N131 (by decide))
                have N138 := N129.kept hg (own_ne_cells B126.oP N129 (by decide))
                clear ho hg hat
                refine ⟨HE B133 _, ?_⟩
                try go_simp
                refine wpAnyS_all (rs := [21]) (by kernel_rfl) (by simp) ?_
                intro i hi
                simp only [List.mem_cons, List.not_mem_nil, or_false] at hi
                subst hi
                refine wpOp_append1 (i := 21) rfl rfl (.tmp 48) (.tmp 51) 34 rfl w.heap.size 3 i3 _ 8 Tryd.underlying34 h30 h31 h32 h33 (by rfl) (by omega) _ k _ (by rfl) B133.oN b79 (.int .i64 ((k : Int) + 1)) (by rfl) N137 (by rfl) (by omega) B133.bel.size ?_
                intro g141 c142 wz140 ho hg hat
                have B139 := bd_appN B133 hg ho hat
                have N143 := N138.kept hg (ap132)
                clear ho hg hat
                refine ⟨HE B139 _, ?_⟩
                try go_simp
                refine wpAnyS_all (rs := [29]) (by kernel_rfl) (by simp) ?_
                intro i hi
                simp only [List.mem_cons, List.not_mem_nil, or_false] at hi
                subst hi
                refine wpOp_append1 (i := 29) rfl rfl (.tmp 56) (.tmp 59) 34 rfl w.heap.size 3 i3 _ 8 Tryd.underlying34 h30 h31 h32 h33 (by rfl) (by omega) _ k _ (by rfl) B139.oQ b128 (.int .i64 ((k : Int) - 1)) (by rfl) N143 (by rfl) (by omega) B139.bel.size ?_
                intro g146 c147 wz145 ho hg hat
                have B144 := bd_appQ B139 hg ho hat
                clear ho hg hat
                refine ⟨HE B144 _, ?_⟩
                try go_simp
                refine wpAnyS_take (i := 30) (v := .pointer (some ⟨R, 0, none⟩)) rfl (by decide) (by kernel_rfl) (by kernel_rfl) (by kernel_rfl) (fun c a w h => h) (.inl ⟨by kernel_rfl, fun w' hS => ?_⟩) (HE B144 _) ?_
                · go_simp
                try go_simp
                refine wpAnyS_take (i := 31) (v := .pointer (some ⟨R, 0, none⟩)) rfl (by decide) (by kernel_rfl) (by kernel_rfl) (by kernel_rfl) (fun c a w h => h) (.inl ⟨by kernel_rfl, fun w' hS => ?_⟩) (HE B144 _) ?_
                · go_simp
                try go_simp
                refine wpAnyS_all (rs := [32]) (by kernel_rfl) (by simp) ?_
                intro i hi
                simp only [List.mem_cons, List.not_mem_nil, or_false] at hi
                subst hi
                unfold wpOp
                have y0 := B144.hb.cell 0
                have y1 := B144.hb.frozen 0
                simp at y0
                go_simp
                have B148 := bd_set B144 0 (.slice (some ⟨g135, 0, none⟩) (k + 1) c136)
                obtain ⟨wz149, hw⟩ : ∃ u, wz145.setCell ⟨R, 0, none⟩ (.slice (some ⟨g135, 0, none⟩) (k + 1) c136) = u := ⟨_, rfl⟩
                rw [hw] at B148
                rw [hw]
                clear y0 y1 hw
                first | refine .inl ⟨HT B148 _ (by kernel_rfl), ?_⟩ | refine ⟨HT B148 _ (by kernel_rfl), ?_⟩
                refine wpAnyS_take (i := 33) (v := .pointer (some ⟨R, 0, none⟩)) rfl (by decide) (by kernel_rfl) (by kernel_rfl) (by kernel_rfl) (fun c a w h => h) (.inl ⟨by kernel_rfl, fun w' hS => ?_⟩) (HT B148 _ (by kernel_rfl)) ?_
                · go_simp
                try go_simp
                refine wpAnyS_take (i := 34) (v := .pointer (some ⟨R, 1, none⟩)) rfl (by decide) (by kernel_rfl) (by kernel_rfl) (by kernel_rfl) (fun c a w h => h) (.inl ⟨by kernel_rfl, fun w' hS => ?_⟩) (HT B148 _ (by kernel_rfl)) ?_
                · go_simp
                try go_simp
                refine wpAnyS_all (rs := [35]) (by kernel_rfl) (by simp) ?_
                intro i hi
                simp only [List.mem_cons, List.not_mem_nil, or_false] at hi
                subst hi
                unfold wpOp
                have y0 := B148.hb.cell 1
                have y1 := B148.hb.frozen 1
                simp at y0
                go_simp
                have B150 := bd_set B148 1 (.slice (some ⟨g141, 0, none⟩) (k + 1) c142)
                obtain ⟨wz151, hw⟩ : ∃ u, wz149.setCell ⟨R, 1, none⟩ (.slice (some ⟨g141, 0, none⟩) (k + 1) c142) = u := ⟨_, rfl⟩
                rw [hw] at B150
                rw [hw]
                clear y0 y1 hw
                first | refine .inl ⟨HT B150 _ (by kernel_rfl), ?_⟩ | refine ⟨HT B150 _ (by kernel_rfl), ?_⟩
                refine wpAnyS_take (i := 36) (v := .pointer (some ⟨R, 0, none⟩)) rfl (by decide) (by kernel_rfl) (by kernel_rfl) (by kernel_rfl) (fun c a w h => h) (.inl ⟨by kernel_rfl, fun w' hS => ?_⟩) (HT B150 _ (by kernel_rfl)) ?_
                · go_simp
                try go_simp
                refine wpAnyS_take (i := 37) (v := .pointer (some ⟨R, 2, none⟩)) rfl (by decide) (by kernel_rfl) (by kernel_rfl) (by kernel_rfl) (fun c a w h => h) (.inl ⟨by kernel_rfl, fun w' hS => ?_⟩) (HT B150 _ (by kernel_rfl)) ?_
                · go_simp
                try go_simp
                refine wpAnyS_all (rs := [38]) (by kernel_rfl) (by simp) ?_
                intro i hi
                simp only [List.mem_cons, List.not_mem_nil, or_false] at hi
                subst hi
                unfold wpOp
                have y0 := B150.hb.cell 2
                have y1 := B150.hb.frozen 2
                simp at y0
                go_simp
                have B152 := bd_set B150 2 (.slice (some ⟨g146, 0, none⟩) (k + 1) c147)
                obtain ⟨wz153, hw⟩ : ∃ u, wz151.setCell ⟨R, 2, none⟩ (.slice (some ⟨g146, 0, none⟩) (k + 1) c147) = u := ⟨_, rfl⟩
                rw [hw] at B152
                rw [hw]
                clear y0 y1 hw
                first | refine .inl ⟨HT B152 _ (by kernel_rfl), ?_⟩ | refine ⟨HT B152 _ (by kernel_rfl), ?_⟩
                refine wpAnyS_done (by kernel_rfl) ?_ _
                have HL := HLEAF B152
                clear B152
                refine NoPanic.normal ?_
                go_wp2_with fail
                go_roundw
                case rel => exact ⟨k + 1, by omega, by go_num, HL⟩
                case measure => simp [intOf]; omega
            · unfold wpOp
              go_simp
              have B154 := bd_alloc B1 (.cells #[.int .i64 ((k : Int) - 1)] 3)
              have N157 := New1.new wz2 (.int .i64 ((k : Int) - 1)) 3
              have N158 := N4.alloc (.cells #[.int .i64 ((k : Int) - 1)] 3)
              obtain ⟨b156, hb⟩ : ∃ b, wz2.heap.size = b := ⟨_, rfl⟩
              have ap159 : vN.ownBlock ≠ some b156 := fun e => by have := (B1.oN.lt _ e).2; omega
              obtain ⟨wz155, hw⟩ : ∃ u, wz2.alloc (.cells #[.int .i64 ((k : Int) - 1)] 3) = u := ⟨_, rfl⟩
              rw [hb] at N157
              rw [hw] at B154 N157 N158
              try rw [hb]
              rw [hw]
              clear hb hw
              first | refine .inl ⟨HE B154 _, ?_⟩ | refine ⟨HE B154 _, ?_⟩
              refine wpAnyS_all (rs := [13, 20]) (by kernel_rfl) (by simp) ?_
              intro i hi
              simp only [List.mem_cons, List.not_mem_nil, or_false] at hi
              rcases hi with rfl | rfl
              · refine wpOp_append1 (i := 13) rfl rfl (.tmp 37) (.tmp 43) 41 rfl w.heap.size 9 i9 _ 16 Tryd.underlying41 h90 h91 h92 h93 (by rfl) (by omega) _ k _ (by rfl) B154.oP b3 (.string S1) (by rfl) N158 (by rfl) (by omega) B154.bel.size ?_
                intro g162 c163 wz161 ho hg hat
                have B160 := bd_appP B154 hg ho
                have N164 := N157.kept hg (own_ne_cells B154.oP N157 (by decide))
                clear ho hg hat
                refine ⟨HE B160 _, ?_⟩
                try go_simp
                refine wpAnyS_all (rs := [20]) (by kernel_rfl) (by simp) ?_
                intro i hi
                simp only [List.mem_cons, List.not_mem_nil, or_false] at hi
                subst hi
                unfold wpOp
                go_simp
                have B165 := bd_alloc B160 (.cells #[.int .i64 ((k : Int) + 1)] 3)
                have N168 := New1.new wz161 (.int .i64 ((k : Int) + 1)) 3
                have N169 := N164.alloc (.cells #[.int .i64 ((k : Int) + 1)] 3)
                obtain ⟨b167, hb⟩ : ∃ b, wz161.heap.size = b := ⟨_, rfl⟩
                obtain ⟨wz166, hw⟩ : ∃ u, wz161.alloc (.cells #[.int .i64 ((k : Int) + 1)] 3) = u := ⟨_, rfl⟩
                rw [hb] at N168
                rw [hw] at B165 N168 N169
                try rw [hb]
                rw [hw]
                clear hb hw
                first | refine .inl ⟨HE B165 _, ?_⟩ | refine ⟨HE B165 _, ?_⟩
                refine wpAnyS_all (rs := [21]) (by kernel_rfl) (by simp) ?_
                intro i hi
                simp only [List.mem_cons, List.not_mem_nil, or_false] at hi
                subst hi
                refine wpOp_append1 (i := 21) rfl rfl (.tmp 48) (.tmp 51) 34 rfl w.heap.size 3 i3 _ 8 Tryd.underlying34 h30 h31 h32 h33 (by rfl) (by omega) _ k _ (by rfl) B165.oN b167 (.int .i64 ((k : Int) + 1)) (by rfl) N168 (by rfl) (by omega) B165.bel.size ?_
                intro g172 c173 wz171 ho hg hat
                have B170 := bd_appN B165 hg ho hat
                have N174 := N169.kept hg (ap159)
                clear ho hg hat
                refine ⟨HE B170 _, ?_⟩
                try go_simp
                refine wpAnyS_all (rs := [29]) (by kernel_rfl) (by simp) ?_
                intro i hi
                simp only [List.mem_cons, List.not_mem_nil, or_false] at hi
                subst hi
                refine wpOp_append1 (i := 29) rfl rfl (.tmp 56) (.tmp 59) 34 rfl w.heap.size 3 i3 _ 8 Tryd.underlying34 h30 h31 h32 h33 (by rfl) (by omega) _ k _ (by rfl) B170.oQ b156 (.int .i64 ((k : Int) - 1)) (by rfl) N174 (by rfl) (by omega) B170.bel.size ?_
                intro g177 c178 wz176 ho hg hat
                have B175 := bd_appQ B170 hg ho hat
                clear ho hg hat
                refine ⟨HE B175 _, ?_⟩
                try go_simp
                refine wpAnyS_take (i := 30) (v := .pointer (some ⟨R, 0, none⟩)) rfl (by decide) (by kernel_rfl) (by kernel_rfl) (by kernel_rfl) (fun c a w h => h) (.inl ⟨by kernel_rfl, fun w' hS => ?_⟩) (HE B175 _) ?_
                · go_simp
                try go_simp
                refine wpAnyS_take (i := 31) (v := .pointer (some ⟨R, 0, none⟩)) rfl (by decide) (by kernel_rfl) (by kernel_rfl) (by kernel_rfl) (fun c a w h => h) (.inl ⟨by kernel_rfl, fun w' hS => ?_⟩) (HE B175 _) ?_
                · go_simp
                try go_simp
                refine wpAnyS_all (rs := [32]) (by kernel_rfl) (by simp) ?_
                intro i hi
                simp only [List.mem_cons, List.not_mem_nil, or_false] at hi
                subst hi
                unfold wpOp
                have y0 := B175.hb.cell 0
                have y1 := B175.hb.frozen 0
                simp at y0
                go_simp
                have B179 := bd_set B175 0 (.slice (some ⟨g162, 0, none⟩) (k + 1) c163)
                obtain ⟨wz180, hw⟩ : ∃ u, wz176.setCell ⟨R, 0, none⟩ (.slice (some ⟨g162, 0, none⟩) (k + 1) c163) = u := ⟨_, rfl⟩
                rw [hw] at B179
                rw [hw]
                clear y0 y1 hw
                first | refine .inl ⟨HT B179 _ (by kernel_rfl), ?_⟩ | refine ⟨HT B179 _ (by kernel_rfl), ?_⟩
                refine wpAnyS_take (i := 33) (v := .pointer (some ⟨R, 0, none⟩)) rfl (by decide) (by kernel_rfl) (by kernel_rfl) (by kernel_rfl) (fun c a w h => h) (.inl ⟨by kernel_rfl, fun w' hS => ?_⟩) (HT B179 _ (by kernel_rfl)) ?_
                · go_simp
                try go_simp
                refine wpAnyS_take (i := 34) (v := .pointer (some ⟨R, 1, none⟩)) rfl (by decide) (by kernel_rfl) (by kernel_rfl) (by kernel_rfl) (fun c a w h => h) (.inl ⟨by kernel_rfl, fun w' hS => ?_⟩) (HT B179 _ (by kernel_rfl)) ?_
                · go_simp
                try go_simp
                refine wpAnyS_all (rs := [35]) (by kernel_rfl) (by simp) ?_
                intro i hi
                simp only [List.mem_cons, List.not_mem_nil, or_false] at hi
                subst hi
                unfold wpOp
                have y0 := B179.hb.cell 1
                have y1 := B179.hb.frozen 1
                simp at y0
                go_simp
                have B181 := bd_set B179 1 (.slice (some ⟨g172, 0, none⟩) (k + 1) c173)
                obtain ⟨wz182, hw⟩ : ∃ u, wz180.setCell ⟨R, 1, none⟩ (.slice (some ⟨g172, 0, none⟩) (k + 1) c173) = u := ⟨_, rfl⟩
                rw [hw] at B181
                rw [hw]
                clear y0 y1 hw
                first | refine .inl ⟨HT B181 _ (by kernel_rfl), ?_⟩ | refine ⟨HT B181 _ (by kernel_rfl), ?_⟩
                refine wpAnyS_take (i := 36) (v := .pointer (some ⟨R, 0, none⟩)) rfl (by decide) (by kernel_rfl) (by kernel_rfl) (by kernel_rfl) (fun c a w h => h) (.inl ⟨by kernel_rfl, fun w' hS => ?_⟩) (HT B181 _ (by kernel_rfl)) ?_
                · go_simp
                try go_simp
                refine wpAnyS_take (i := 37) (v := .pointer (some ⟨R, 2, none⟩)) rfl (by decide) (by kernel_rfl) (by kernel_rfl) (by kernel_rfl) (fun c a w h => h) (.inl ⟨by kernel_rfl, fun w' hS => ?_⟩) (HT B181 _ (by kernel_rfl)) ?_
                · go_simp
                try go_simp
                refine wpAnyS_all (rs := [38]) (by kernel_rfl) (by simp) ?_
                intro i hi
                simp only [List.mem_cons, List.not_mem_nil, or_false] at hi
                subst hi
                unfold wpOp
                have y0 := B181.hb.cell 2
                have y1 := B181.hb.frozen 2
                simp at y0
                go_simp
                have B183 := bd_set B181 2 (.slice (some ⟨g177, 0, none⟩) (k + 1) c178)
                obtain ⟨wz184, hw⟩ : ∃ u, wz182.setCell ⟨R, 2, none⟩ (.slice (some ⟨g177, 0, none⟩) (k + 1) c178) = u := ⟨_, rfl⟩
                rw [hw] at B183
                rw [hw]
                clear y0 y1 hw
                first | refine .inl ⟨HT B183 _ (by kernel_rfl), ?_⟩ | refine ⟨HT B183 _ (by kernel_rfl), ?_⟩
                refine wpAnyS_done (by kernel_rfl) ?_ _
                have HL := HLEAF B183
                clear B183
                refine NoPanic.normal ?_
                go_wp2_with fail
                go_roundw
                case rel => exact ⟨k + 1, by omega, by go_num, HL⟩
                case measure => simp [intOf]; omega
              · unfold wpOp
                go_simp
                have B185 := bd_alloc B154 (.cells #[.int .i64 ((k : Int) + 1)] 3)
                have N188 := New1.new wz155 (.int .i64 ((k : Int) + 1)) 3
                have N189 := N158.alloc (.cells #[.int .i64 ((k : Int) + 1)] 3)
                have N190 := N157.alloc (.cells #[.int .i64 ((k : Int) + 1)] 3)
                obtain ⟨b187, hb⟩ : ∃ b, wz155.heap.size = b := ⟨_, rfl⟩
                obtain ⟨wz186, hw⟩ : ∃ u, wz155.alloc (.cells #[.int .i64 ((k : Int) + 1)] 3) = u := ⟨_, rfl⟩
                rw [hb] at N188
                rw [hw] at B185 N188 N189 N190
                try rw [hb]
                rw [hw]
                clear hb hw
                first | refine .inl ⟨HE B185 _, ?_⟩ | refine ⟨HE B185 _, ?_⟩
                refine wpAnyS_all (rs := [13]) (by kernel_rfl) (by simp) ?_
                intro i hi
                simp only [List.mem_cons, List.not_mem_nil, or_false] at hi
                subst hi
                refine wpOp_append1 (i := 13) rfl rfl (.tmp 37) (.tmp 43) 41 rfl w.heap.size 9 i9 _ 16 Tryd.underlying41 h90 h91 h92 h93 (by rfl) (by omega) _ k _ (by rfl) B185.oP b3 (.string S1) (by rfl) N189 (by rfl) (by omega) B185.bel.size ?_
                intro g193 c194 wz192 ho hg hat
                have B191 := bd_appP B185 hg ho
                have N195 := N190.kept hg (own_ne_cells B185.oP N190 (by decide))
                have N196 := N188.kept hg (own_ne_cells B185.oP N188 (by decide))
                clear ho hg hat
                refine ⟨HE B191 _, ?_⟩
                try go_simp
                refine wpAnyS_all (rs := [21]) (by kernel_rfl) (by simp) ?_
                intro i hi
                simp only [List.mem_cons, List.not_mem_nil, or_false] at hi
                subst hi
                refine wpOp_append1 (i := 21) rfl rfl (.tmp 48) (.tmp 51) 34 rfl w.heap.size 3 i3 _ 8 Tryd.underlying34 h30 h31 h32 h33 (by rfl) (by omega) _ k _ (by rfl) B191.oN b187 (.int .i64 ((k : Int) + 1)) (by rfl) N196 (by rfl) (by omega) B191.bel.size ?_
                intro g199 c200 wz198 ho hg hat
                have B197 := bd_appN B191 hg ho hat
                have N201 := N195.kept hg (ap159)
                clear ho hg hat
                refine ⟨HE B197 _, ?_⟩
                try go_simp
                refine wpAnyS_all (rs := [29]) (by kernel_rfl) (by simp) ?_
                intro i hi
                simp only [List.mem_cons, List.not_mem_nil, or_false] at hi
                subst hi
                refine wpOp_append1 (i := 29) rfl rfl (.tmp 56) (.tmp 59) 34 rfl w.heap.size 3 i3 _ 8 Tryd.underlying34 h30 h31 h32 h33 (by rfl) (by omega) _ k _ (by rfl) B197.oQ b156 (.int .i64 ((k : Int) - 1)) (by rfl) N201 (by rfl) (by omega) B197.bel.size ?_
                intro g204 c205 wz203 ho hg hat
                have B202 := bd_appQ B197 hg ho hat
                clear ho hg hat
                refine ⟨HE B202 _, ?_⟩
                try go_simp
                refine wpAnyS_take (i := 30) (v := .pointer (some ⟨R, 0, none⟩)) rfl (by decide) (by kernel_rfl) (by kernel_rfl) (by kernel_rfl) (fun c a w h => h) (.inl ⟨by kernel_rfl, fun w' hS => ?_⟩) (HE B202 _) ?_
                · go_simp
                try go_simp
                refine wpAnyS_take (i := 31) (v := .pointer (some ⟨R, 0, none⟩)) rfl (by decide) (by kernel_rfl) (by kernel_rfl) (by kernel_rfl) (fun c a w h => h) (.inl ⟨by kernel_rfl, fun w' hS => ?_⟩) (HE B202 _) ?_
                · go_simp
                try go_simp
                refine wpAnyS_all (rs := [32]) (by kernel_rfl) (by simp) ?_
                intro i hi
                simp only [List.mem_cons, List.not_mem_nil, or_false] at hi
                subst hi
                unfold wpOp
                have y0 := B202.hb.cell 0
                have y1 := B202.hb.frozen 0
                simp at y0
                go_simp
                have B206 := bd_set B202 0 (.slice (some ⟨g193, 0, none⟩) (k + 1) c194)
                obtain ⟨wz207, hw⟩ : ∃ u, wz203.setCell ⟨R, 0, none⟩ (.slice (some ⟨g193, 0, none⟩) (k + 1) c194) = u := ⟨_, rfl⟩
                rw [hw] at B206
                rw [hw]
                clear y0 y1 hw
                first | refine .inl ⟨HT B206 _ (by kernel_rfl), ?_⟩ | refine ⟨HT B206 _ (by kernel_rfl), ?_⟩
                refine wpAnyS_take (i := 33) (v := .pointer (some ⟨R, 0, none⟩)) rfl (by decide) (by kernel_rfl) (by kernel_rfl) (by kernel_rfl) (fun c a w h => h) (.inl ⟨by kernel_rfl, fun w' hS => ?_⟩) (HT B206 _ (by kernel_rfl)) ?_
                · go_simp
                try go_simp
                refine wpAnyS_take (i := 34) (v := .pointer (some ⟨R, 1, none⟩)) rfl (by decide) (by kernel_rfl) (by kernel_rfl) (by kernel_rfl) (fun c a w h => h) (.inl ⟨by kernel_rfl, fun w' hS => ?_⟩) (HT B206 _ (by kernel_rfl)) ?_
                · go_simp
                try go_simp
                refine wpAnyS_all (rs := [35]) (by kernel_rfl) (by simp) ?_
                intro i hi
                simp only [List.mem_cons, List.not_mem_nil, or_false] at hi
                subst hi
                unfold wpOp
                have y0 := B206.hb.cell 1
                have y1 := B206.hb.frozen 1
                simp at y0
                go_simp
                have B208 := bd_set B206 1 (.slice (some ⟨g199, 0, none⟩) (k + 1) c200)
                obtain ⟨wz209, hw⟩ : ∃ u, wz207.setCell ⟨R, 1, none⟩ (.slice (some ⟨g199, 0, none⟩) (k + 1) c200) = u := ⟨_, rfl⟩
                rw [hw] at B208
                rw [hw]
                clear y0 y1 hw
                first | refine .inl ⟨HT B208 _ (by kernel_rfl), ?_⟩ | refine ⟨HT B208 _ (by kernel_rfl), ?_⟩
                refine wpAnyS_take (i := 36) (v := .pointer (some ⟨R, 0, none⟩)) rfl (by decide) (by kernel_rfl) (by kernel_rfl) (by kernel_rfl) (fun c a w h => h) (.inl ⟨by kernel_rfl, fun w' hS => ?_⟩) (HT B208 _ (by kernel_rfl)) ?_
                · go_simp
                try go_simp
                refine wpAnyS_take (i := 37) (v := .pointer (some ⟨R, 2, none⟩)) rfl (by decide) (by kernel_rfl) (by kernel_rfl) (by kernel_rfl) (fun c a w h => h) (.inl ⟨by kernel_rfl, fun w' hS => ?_⟩) (HT B208 _ (by kernel_rfl)) ?_
                · go_simp
                try go_simp
                refine wpAnyS_all (rs := [38]) (by kernel_rfl) (by simp) ?_
                intro i hi
                simp only [List.mem_cons, List.not_mem_nil, or_false] at hi
                subst hi
                unfold wpOp
                have y0 := B208.hb.cell 2
                have y1 := B208.hb.frozen 2
                simp at y0
                go_simp
                have B210 := bd_set B208 2 (.slice (some ⟨g204, 0, none⟩) (k + 1) c205)
                obtain ⟨wz211, hw⟩ : ∃ u, wz209.setCell ⟨R, 2, none⟩ (.slice (some ⟨g204, 0, none⟩) (k + 1) c205) = u := ⟨_, rfl⟩
                rw [hw] at B210
                rw [hw]
                clear y0 y1 hw
                first | refine .inl ⟨HT B210 _ (by kernel_rfl), ?_⟩ | refine ⟨HT B210 _ (by kernel_rfl), ?_⟩
                refine wpAnyS_done (by kernel_rfl) ?_ _
                have HL := HLEAF B210
                clear B210
                refine NoPanic.normal ?_
                go_wp2_with fail
                go_roundw
                case rel => exact ⟨k + 1, by omega, by go_num, HL⟩
                case measure => simp [intOf]; omega
          · unfold wpOp
            go_simp
            have B212 := bd_alloc B0 (.cells #[.int .i64 ((k : Int) + 1)] 3)
            have N215 := New1.new w0 (.int .i64 ((k : Int) + 1)) 3
            obtain ⟨b214, hb⟩ : ∃ b, w0.heap.size = b := ⟨_, rfl⟩
            obtain ⟨wz213, hw⟩ : ∃ u, w0.alloc (.cells #[.int .i64 ((k : Int) + 1)] 3) = u := ⟨_, rfl⟩
            rw [hb] at N215
            rw [hw] at B212 N215
            try rw [hb]
            rw [hw]
            clear hb hw
            first | refine .inl ⟨HE B212 _, ?_⟩ | refine ⟨HE B212 _, ?_⟩
            refine wpAnyS_all (rs := [12, 28]) (by kernel_rfl) (by simp) ?_
            intro i hi
            simp only [List.mem_cons, List.not_mem_nil, or_false] at hi
            rcases hi with rfl | rfl
            · unfold wpOp
              go_simp
              have B216 := bd_alloc B212 (.cells #[.string S1] 9)
              have N219 := New1.new wz213 (.string S1) 9
              have N220 := N215.alloc (.cells #[.string S1] 9)
              obtain ⟨b218, hb⟩ : ∃ b, wz213.heap.size = b := ⟨_, rfl⟩
              obtain ⟨wz217, hw⟩ : ∃ u, wz213.alloc (.cells #[.string S1] 9) = u := ⟨_, rfl⟩
              rw [hb] at N219
              rw [hw] at B216 N219 N220
              try rw [hb]
              rw [hw]
              clear hb hw
              first | refine .inl ⟨HE B216 _, ?_⟩ | refine ⟨HE B216 _, ?_⟩
              refine wpAnyS_all (rs := [13, 28]) (by kernel_rfl) (by simp) ?_
              intro i hi
              simp only [List.mem_cons, List.not_mem_nil, or_false] at hi
              rcases hi with rfl | rfl
              · refine wpOp_append1 (i := 13) rfl rfl (.tmp 37) (.tmp 43) 41 rfl w.heap.size 9 i9 _ 16 Tryd.underlying41 h90 h91 h92 h93 (by rfl) (by omega) _ k _ (by rfl) B216.oP b218 (.string S1) (by rfl) N219 (by rfl) (by omega) B216.bel.size ?_
                intro g223 c224 wz222 ho hg hat
                have B221 := bd_appP B216 hg ho
                have N225 := N220.kept hg (own_ne_cells B216.oP N220 (by decide))
                clear ho hg hat
                refine ⟨HE B221 _, ?_⟩
                try go_simp
                refine wpAnyS_all (rs := [21, 28]) (by kernel_rfl) (by simp) ?_
                intro i hi
                simp only [List.mem_cons, List.not_mem_nil, or_false] at hi
                rcases hi with rfl | rfl
                · refine wpOp_append1 (i := 21) rfl rfl (.tmp 48) (.tmp 51) 34 rfl w.heap.size 3 i3 _ 8 Tryd.underlying34 h30 h31 h32 h33 (by rfl) (by omega) _ k _ (by rfl) B221.oN b214 (.int .i64 ((k : Int) + 1)) (by rfl) N225 (by rfl) (by omega) B221.bel.size ?_
                  intro g228 c229 wz227 ho hg hat
                  have B226 := bd_appN B221 hg ho hat
                  clear ho hg hat
                  refine ⟨HE B226 _, ?_⟩
                  try go_simp
                  refine wpAnyS_all (rs := [28]) (by kernel_rfl) (by simp) ?_
                  intro i hi
                  simp only [List.mem_cons, List.not_mem_nil, or_false] at hi
                  subst hi
                  unfold wpOp
                  go_simp
                  have B230 := bd_alloc B226 (.cells #[.int .i64 ((k : Int) - 1)] 3)
                  have N233 := New1.new wz227 (.int .i64 ((k : Int) - 1)) 3
                  obtain ⟨b232, hb⟩ : ∃ b, wz227.heap.size = b := ⟨_, rfl⟩
                  obtain ⟨wz231, hw⟩ : ∃ u, wz227.alloc (.cells #[.int .i64 ((k : Int) - 1)] 3) = u := ⟨_, rfl⟩
                  rw [hb] at N233
                  rw [hw] at B230 N233
                  try rw [hb]
                  rw [hw]
                  clear hb hw
                  first | refine .inl ⟨HE B230 _, ?_⟩ | refine ⟨HE B230 _, ?_⟩
                  refine wpAnyS_all (rs := [29]) (by kernel_rfl) (by simp) ?_
                  intro i hi
                  simp only [List.mem_cons, List.not_mem_nil, or_false] at hi
                  subst hi
                  refine wpOp_append1 (i := 29) rfl rfl (.tmp 56) (.tmp 59) 34 rfl w.heap.size 3 i3 _ 8 Tryd.underlying34 h30 h31 h32 h33 (by rfl) (by omega) _ k _ (by rfl) B230.oQ b232 (.int .i64 ((k : Int) - 1)) (by rfl) N233 (by rfl) (by omega) B230.bel.size ?_
                  intro g236 c237 wz235 ho hg hat
                  have B234 := bd_appQ B230 hg ho hat
                  clear ho hg hat
                  refine ⟨HE B234 _, ?_⟩
                  try go_simp
                  refine wpAnyS_take (i := 30) (v := .pointer (some ⟨R, 0, none⟩)) rfl (by decide) (by kernel_rfl) (by kernel_rfl) (by kernel_rfl) (fun c a w h => h) (.inl ⟨by kernel_rfl, fun w' hS => ?_⟩) (HE B234 _) ?_
                  · go_simp
                  try go_simp
                  refine wpAnyS_take (i := 31) (v := .pointer (some ⟨R, 0, none⟩)) rfl (by decide) (by kernel_rfl) (by kernel_rfl) (by kernel_rfl) (fun c a w h => h) (.inl ⟨by kernel_rfl, fun w' hS => ?_⟩) (HE B234 _) ?_
                  · go_simp
                  try go_simp
                  refine wpAnyS_all (rs := [32]) (by kernel_rfl) (by simp) ?_
                  intro i hi
                  simp only [List.mem_cons, List.not_mem_nil, or_false] at hi
                  subst hi
                  unfold wpOp
                  have y0 := B234.hb.cell 0
                  have y1 := B234.hb.frozen 0
                  simp at y0
                  go_simp
                  have B238 := bd_set B234 0 (.slice (some ⟨g223, 0, none⟩) (k + 1) c224)
                  obtain ⟨wz239, hw⟩ : ∃ u, wz235.setCell ⟨R, 0, none⟩ (.slice (some ⟨g223, 0, none⟩) (k + 1) c224) = u := ⟨_, rfl⟩
                  rw [hw] at B238
                  rw [hw]
                  clear y0 y1 hw
                  first | refine .inl ⟨HT B238 _ (by kernel_rfl), ?_⟩ | refine ⟨HT B238 _ (by kernel_rfl), ?_⟩
                  refine wpAnyS_take (i := 33) (v := .pointer (some ⟨R, 0, none⟩)) rfl (by decide) (by kernel_rfl) (by kernel_rfl) (by kernel_rfl) (fun c a w h => h) (.inl ⟨by kernel_rfl, fun w' hS => ?_⟩) (HT B238 _ (by kernel_rfl)) ?_
                  · go_simp
                  try go_simp
                  refine wpAnyS_take (i := 34) (v := .pointer (some ⟨R, 1, none⟩)) rfl (by decide) (by kernel_rfl) (by kernel_rfl) (by kernel_rfl) (fun c a w h => h) (.inl ⟨by kernel_rfl, fun w' hS => ?_⟩) (HT B238 _ (by kernel_rfl)) ?_
                  · go_simp
                  try go_simp
                  refine wpAnyS_all (rs := [35]) (by kernel_rfl) (by simp) ?_
                  intro i hi
                  simp only [List.mem_cons, List.not_mem_nil, or_false] at hi
                  subst hi
                  unfold wpOp
                  have y0 := B238.hb.cell 1
                  have y1 := B238.hb.frozen 1
                  simp at y0
                  go_simp
                  have B240 := bd_set B238 1 (.slice (some ⟨g228, 0, none⟩) (k + 1) c229)
                  obtain ⟨wz241, hw⟩ : ∃ u, wz239.setCell ⟨R, 1, none⟩ (.slice (some ⟨g228, 0, none⟩) (k + 1) c229) = u := ⟨_, rfl⟩
                  rw [hw] at B240
                  rw [hw]
                  clear y0 y1 hw
                  first | refine .inl ⟨HT B240 _ (by kernel_rfl), ?_⟩ | refine ⟨HT B240 _ (by kernel_rfl), ?_⟩
                  refine wpAnyS_take (i := 36) (v := .pointer (some ⟨R, 0, none⟩)) rfl (by decide) (by kernel_rfl) (by kernel_rfl) (by kernel_rfl) (fun c a w h => h) (.inl ⟨by kernel_rfl, fun w' hS => ?_⟩) (HT B240 _ (by kernel_rfl)) ?_
                  · go_simp
                  try go_simp
                  refine wpAnyS_take (i := 37) (v := .pointer (some ⟨R, 2, none⟩)) rfl (by decide) (by kernel_rfl) (by kernel_rfl) (by kernel_rfl) (fun c a w h => h) (.inl ⟨by kernel_rfl, fun w' hS => ?_⟩) (HT B240 _ (by kernel_rfl)) ?_
                  · go_simp
                  try go_simp
                  refine wpAnyS_all (rs := [38]) (by kernel_rfl) (by simp) ?_
                  intro i hi
                  simp only [List.mem_cons, List.not_mem_nil, or_false] at hi
                  subst hi
                  unfold wpOp
                  have y0 := B240.hb.cell 2
                  have y1 := B240.hb.frozen 2
                  simp at y0
                  go_simp
                  have B242 := bd_set B240 2 (.slice (some ⟨g236, 0, none⟩) (k + 1) c237)
                  obtain ⟨wz243, hw⟩ : ∃ u, wz241.setCell ⟨R, 2, none⟩ (.slice (some ⟨g236, 0, none⟩) (k + 1) c237) = u := ⟨_, rfl⟩
                  rw [hw] at B242
                  rw [hw]
                  clear y0 y1 hw
                  first | refine .inl ⟨HT B242 _ (by kernel_rfl), ?_⟩ | refine ⟨HT B242 _ (by kernel_rfl), ?_⟩
                  refine wpAnyS_done (by kernel_rfl) ?_ _
                  have HL := HLEAF B242
                  clear B242
                  refine NoPanic.normal ?_
                  go_wp2_with fail
                  go_roundw
                  case rel => exact ⟨k + 1, by omega, by go_num, HL⟩
                  case measure => simp [intOf]; omega
                · unfold wpOp
                  go_simp
                  have B244 := bd_alloc B221 (.cells #[.int .i64 ((k : Int) - 1)] 3)
                  have N247 := New1.new wz222 (.int .i64 ((k : Int) - 1)) 3
                  have N248 := N225.alloc (.cells #[.int .i64 ((k : Int) - 1)] 3)
                  obtain ⟨b246, hb⟩ : ∃ b, wz222.heap.size = b := ⟨_, rfl⟩
                  have ap249 : vN.ownBlock ≠ some b246 := fun e => by have := (B221.oN.lt _ e).2; omega
                  obtain ⟨wz245, hw⟩ : ∃ u, wz222.alloc (.cells #[.int .i64 ((k : Int) - 1)] 3) = u := ⟨_, rfl⟩
                  rw [hb] at N247
                  rw [hw] at B244 N247 N248
                  try rw [hb]
                  rw [hw]
                  clear hb hw
                  first | refine .inl ⟨HE B244 _, ?_⟩ | refine ⟨HE B244 _, ?_⟩
                  refine wpAnyS_all (rs := [21]) (by kernel_rfl) (by simp) ?_
                  intro i hi
                  simp only [List.mem_cons, List.not_mem_nil, or_false] at hi
                  subst hi
                  refine wpOp_append1 (i := 21) rfl rfl (.tmp 48) (.tmp 51) 34 rfl w.heap.size 3 i3 _ 8 Tryd.underlying34 h30 h31 h32 h33 (by rfl) (by omega) _ k _ (by rfl) B244.oN b214 (.int .i64 ((k : Int) + 1)) (by rfl) N248 (by rfl) (by omega) B244.bel.size ?_
                  intro g252 c253 wz251 ho hg hat
                  have B250 := bd_appN B244 hg ho hat
                  have N254 := N247.kept hg (ap249)
                  clear ho hg hat
                  refine ⟨HE B250 _, ?_⟩
                  try go_simp
                  refine wpAnyS_all (rs := [29]) (by kernel_rfl) (by simp) ?_
                  intro i hi
                  simp only [List.mem_cons, List.not_mem_nil, or_false] at hi
                  subst hi
                  refine wpOp_append1 (i := 29) rfl rfl (.tmp 56) (.tmp 59) 34 rfl w.heap.size 3 i3 _ 8 Tryd.underlying34 h30 h31 h32 h33 (by rfl) (by omega) _ k _ (by rfl) B250.oQ b246 (.int .i64 ((k : Int) - 1)) (by rfl) N254 (by rfl) (by omega) B250.bel.size ?_
                  intro g257 c258 wz256 ho hg hat
                  have B255 := bd_appQ B250 hg ho hat
                  clear ho hg hat
                  refine ⟨HE B255 _, ?_⟩
                  try go_simp
                  refine wpAnyS_take (i := 30) (v := .pointer (some ⟨R, 0, none⟩)) rfl (by decide) (by kernel_rfl) (by kernel_rfl) (by kernel_rfl) (fun c a w h => h) (.inl ⟨by kernel_rfl, fun w' hS => ?_⟩) (HE B255 _) ?_
                  · go_simp
                  try go_simp
                  refine wpAnyS_take (i := 31) (v := .pointer (some ⟨R, 0, none⟩)) rfl (by decide) (by kernel_rfl) (by kernel_rfl) (by kernel_rfl) (fun c a w h => h) (.inl ⟨by kernel_rfl, fun w' hS => ?_⟩) (HE B255 _) ?_
                  · go_simp
                  try go_simp
                  refine wpAnyS_all (rs := [32]) (by kernel_rfl) (by simp) ?_
                  intro i hi
                  simp only [List.mem_cons, List.not_mem_nil, or_false] at hi
                  subst hi
                  unfold wpOp
                  have y0 := B255.hb.cell 0
                  have y1 := B255.hb.frozen 0
                  simp at y0
                  go_simp
                  have B259 := bd_set B255 0 (.slice (some ⟨g223, 0, none⟩) (k + 1) c224)
                  obtain ⟨wz260, hw⟩ : ∃ u, wz256.setCell ⟨R, 0, none⟩ (.slice (some ⟨g223, 0, none⟩) (k + 1) c224) = u := ⟨_, rfl⟩
                  rw [hw] at B259
                  rw [hw]
                  clear y0 y1 hw
                  first | refine .inl ⟨HT B259 _ (by kernel_rfl), ?_⟩ | refine ⟨HT B259 _ (by kernel_rfl), ?_⟩
                  refine wpAnyS_take (i := 33) (v := .pointer (some ⟨R, 0, none⟩)) rfl (by decide) (by kernel_rfl) (by kernel_rfl) (by kernel_rfl) (fun c a w h => h) (.inl ⟨by kernel_rfl, fun w' hS => ?_⟩) (HT B259 _ (by kernel_rfl)) ?_
                  · go_simp
                  try go_simp
                  refine wpAnyS_take (i := 34) (v := .pointer (some ⟨R, 1, none⟩)) rfl (by decide) (by kernel_rfl) (by kernel_rfl) (by kernel_rfl) (fun c a w h => h) (.inl ⟨by kernel_rfl, fun w' hS => ?_⟩) (HT B259 _ (by kernel_rfl)) ?_
                  · go_simp
                  try go_simp
                  refine wpAnyS_all (rs := [35]) (by kernel_rfl) (by simp) ?_
                  intro i hi
                  simp only [List.mem_cons, List.not_mem_nil, or_false] at hi
                  subst hi
                  unfold wpOp
                  have y0 := B259.hb.cell 1
                  have y1 := B259.hb.frozen 1
                  simp at y0
                  go_simp
                  have B261 := bd_set B259 1 (.slice (some ⟨g252, 0, none⟩) (k + 1) c253)
                  obtain ⟨wz262, hw⟩ : ∃ u, wz260.setCell ⟨R, 1, none⟩ (.slice (some ⟨g252, 0, none⟩) (k + 1) c253) = u := ⟨_, rfl⟩
                  rw [hw] at B261
                  rw [hw]
                  clear y0 y1 hw
                  first | refine .inl ⟨HT B261 _ (by kernel_rfl), ?_⟩ | refine ⟨HT B261 _ (by kernel_rfl), ?_⟩
                  refine wpAnyS_take (i := 36) (v := .pointer (some ⟨R, 0, none⟩)) rfl (by decide) (by kernel_rfl) (by kernel_rfl) (by kernel_rfl) (fun c a w h => h) (.inl ⟨by kernel_rfl, fun w' hS => ?_⟩) (HT B261 _ (by kernel_rfl)) ?_
                  · go_simp
                  try go_simp
                  refine wpAnyS_take (i := 37) (v := .pointer (some ⟨R, 2, none⟩)) rfl (by decide) (by kernel_rfl) (by kernel_rfl) (by kernel_rfl) (fun c a w h => h) (.inl ⟨by kernel_rfl, fun w' hS => ?_⟩) (HT B261 _ (by kernel_rfl)) ?_
                  · go_simp
                  try go_simp
                  refine wpAnyS_all (rs := [38]) (by kernel_rfl) (by simp) ?_
                  intro i hi
                  simp only [List.mem_cons, List.not_mem_nil, or_false] at hi
                  subst hi
                  unfold wpOp
                  have y0 := B261.hb.cell 2
                  have y1 := B261.hb.frozen 2
                  simp at y0
                  go_simp
                  have B263 := bd_set B261 2 (.slice (some ⟨g257, 0, none⟩) (k + 1) c258)
                  obtain ⟨wz264, hw⟩ : ∃ u, wz262.setCell ⟨R, 2, none⟩ (.slice (some ⟨g257, 0, none⟩) (k + 1) c258) = u := ⟨_, rfl⟩
                  rw [hw] at B263
                  rw [hw]
                  clear y0 y1 hw
                  first | refine .inl ⟨HT B263 _ (by kernel_rfl), ?_⟩ | refine ⟨HT B263 _ (by kernel_rfl), ?_⟩
                  refine wpAnyS_done (by kernel_rfl) ?_ _
                  have HL := HLEAF B263
                  clear B263
                  refine NoPanic.normal ?_
                  go_wp2_with fail
                  go_roundw
                  case rel => exact ⟨k + 1, by omega, by go_num, HL⟩
                  case measure => simp [intOf]; omega
              · unfold wpOp
                go_simp
                have B265 := bd_alloc B216 (.cells #[.int .i64 ((k : Int) - 1)] 3)
                have N268 := New1.new wz217 (.int .i64 ((k : Int) - 1)) 3
                have N269 := N220.alloc (.cells #[.int .i64 ((k : Int) - 1)] 3)
                have N270 := N219.alloc (.cells #[.int .i64 ((k : Int) - 1)] 3)
                obtain ⟨b267, hb⟩ : ∃ b, wz217.heap.size = b := ⟨_, rfl⟩
                have ap271 : vN.ownBlock ≠ some b267 := fun e => by have := (B216.oN.lt _ e).2; omega
                obtain ⟨wz266, hw⟩ : ∃ u, wz217.alloc (.cells #[.int .i64 ((k : Int) - 1)] 3) = u := ⟨_, rfl⟩
                rw [hb] at N268
                rw [hw] at B265 N268 N269 N270
                try rw [hb]
                rw [hw]
                clear hb hw
                first | refine .inl ⟨HE B265 _, ?_⟩ | refine ⟨HE B265 _, ?_⟩
                refine wpAnyS_all (rs := [13]) (by kernel_rfl) (by simp) ?_
                intro i hi
                simp only [List.mem_cons, List.not_mem_nil, or_false] at hi
                subst hi
                refine wpOp_append1 (i := 13) rfl rfl (.tmp 37) (.tmp 43) 41 rfl w.heap.size 9 i9 _ 16 Tryd.underlying41 h90 h91 h92 h93 (by rfl) (by omega) _ k _ (by rfl) B265.oP b218 (.string S1) (by rfl) N270 (by rfl) (by omega) B265.bel.size ?_
                intro g274 c275 wz273 ho hg hat
                have B272 := bd_appP B265 hg ho
                have N276 := N269.kept hg (own_ne_cells B265.oP N269 (by decide))
                have N277 := N268.kept hg (own_ne_cells B265.oP N268 (by decide))
                clear ho hg hat
                refine ⟨HE B272 _, ?_⟩
                try go_simp
                refine wpAnyS_all (rs := [21]) (by kernel_rfl) (by simp) ?_
                intro i hi
                simp only [List.mem_cons, List.not_mem_nil, or_false] at hi
                subst hi
                refine wpOp_append1 (i := 21) rfl rfl (.tmp 48) (.tmp 51) 34 rfl w.heap.size 3 i3 _ 8 Tryd.underlying34 h30 h31 h32 h33 (by rfl) (by omega) _ k _ (by rfl) B272.oN b214 (.int .i64 ((k : Int) + 1)) (by rfl) N276 (by rfl) (by omega) B272.bel.size ?_
                intro g280 c281 wz279 ho hg hat
                have B278 := bd_appN B272 hg ho hat
                have N282 := N277.kept hg (ap271)
                clear ho hg hat
                refine ⟨HE B278 _, ?_⟩
                try go_simp
                refine wpAnyS_all (rs := [29]) (by kernel_rfl) (by simp) ?_
                intro i hi
                simp only [List.mem_cons, List.not_mem_nil, or_false] at hi
                subst hi
                refine wpOp_append1 (i := 29) rfl rfl (.tmp 56) (.tmp 59) 34 rfl w.heap.size 3 i3 _ 8 Tryd.underlying34 h30 h31 h32 h33 (by rfl) (by omega) _ k _ (by rfl) B278.oQ b267 (.int .i64 ((k : Int) - 1)) (by rfl) N282 (by rfl) (by omega) B278.bel.size ?_
                intro g285 c286 wz284 ho hg hat
                have B283 := bd_appQ B278 hg ho hat
                clear ho hg hat
                refine ⟨HE B283 _, ?_⟩
                try go_simp
                refine wpAnyS_take (i := 30) (v := .pointer (some ⟨R, 0, none⟩)) rfl (by decide) (by kernel_rfl) (by kernel_rfl) (by kernel_rfl) (fun c a w h => h) (.inl ⟨by kernel_rfl, fun w' hS => ?_⟩) (HE B283 _) ?_
                · go_simp
                try go_simp
                refine wpAnyS_take (i := 31) (v := .pointer (some ⟨R, 0, none⟩)) rfl (by decide) (by kernel_rfl) (by kernel_rfl) (by kernel_rfl) (fun c a w h => h) (.inl ⟨by kernel_rfl, fun w' hS => ?_⟩) (HE B283 _) ?_
                · go_simp
                try go_simp
                refine wpAnyS_all (rs := [32]) (by kernel_rfl) (by simp) ?_
                intro i hi
                simp only [List.mem_cons, List.not_mem_nil, or_false] at hi
                subst hi
                unfold wpOp
                have y0 := B283.hb.cell 0
                have y1 := B283.hb.frozen 0
                simp at y0
                go_simp
                have B287 := bd_set B283 0 (.slice (some ⟨g274, 0, none⟩) (k + 1) c275)
                obtain ⟨wz288, hw⟩ : ∃ u, wz284.setCell ⟨R, 0, none⟩ (.slice (some ⟨g274, 0, none⟩) (k + 1) c275) = u := ⟨_, rfl⟩
                rw [hw] at B287
                rw [hw]
                clear y0 y1 hw
                first | refine .inl ⟨HT B287 _ (by kernel_rfl), ?_⟩ | refine ⟨HT B287 _ (by kernel_rfl), ?_⟩
                refine wpAnyS_take (i := 33) (v := .pointer (some ⟨R, 0, none⟩)) rfl (by decide) (by kernel_rfl) (by kernel_rfl) (by kernel_rfl) (fun c a w h => h) (.inl ⟨by kernel_rfl, fun w' hS => ?_⟩) (HT B287 _ (by kernel_rfl)) ?_
                · go_simp
                try go_simp
                refine wpAnyS_take (i := 34) (v := .pointer (some ⟨R, 1, none⟩)) rfl (by decide) (by kernel_rfl) (by kernel_rfl) (by kernel_rfl) (fun c a w h => h) (.inl ⟨by kernel_rfl, fun w' hS => ?_⟩) (HT B287 _ (by kernel_rfl)) ?_
                · go_simp
                try go_simp
                refine wpAnyS_all (rs := [35]) (by kernel_rfl) (by simp) ?_
                intro i hi
                simp only [List.mem_cons, List.not_mem_nil, or_false] at hi
                subst hi
                unfold wpOp
                have y0 := B287.hb.cell 1
                have y1 := B287.hb.frozen 1
                simp at y0
                go_simp
                have B289 := bd_set B287 1 (.slice (some ⟨g280, 0, none⟩) (k + 1) c281)
                obtain ⟨wz290, hw⟩ : ∃ u, wz288.setCell ⟨R, 1, none⟩ (.slice (some ⟨g280, 0, none⟩) (k + 1) c281) = u := ⟨_, rfl⟩
                rw [hw] at B289
                rw [hw]
                clear y0 y1 hw
                first | refine .inl ⟨HT B289 _ (by kernel_rfl), ?_⟩ | refine ⟨HT B289 _ (by kernel_rfl), ?_⟩
                refine wpAnyS_take (i := 36) (v := .pointer (some ⟨R, 0, none⟩)) rfl (by decide) (by kernel_rfl) (by kernel_rfl) (by kernel_rfl) (fun c a w h => h) (.inl ⟨by kernel_rfl, fun w' hS => ?_⟩) (HT B289 _ (by kernel_rfl)) ?_
                · go_simp
                try go_simp
                refine wpAnyS_take (i := 37) (v := .pointer (some ⟨R, 2, none⟩)) rfl (by decide) (by kernel_rfl) (by kernel_rfl) (by kernel_rfl) (fun c a w h => h) (.inl ⟨by kernel_rfl, fun w' hS => ?_⟩) (HT B289 _ (by kernel_rfl)) ?_
                · go_simp
                try go_simp
                refine wpAnyS_all (rs := [38]) (by kernel_rfl) (by simp) ?_
                intro i hi
                simp only [List.mem_cons, List.not_mem_nil, or_false] at hi
                subst hi
                unfold wpOp
                have y0 := B289.hb.cell 2
                have y1 := B289.hb.frozen 2
                simp at y0
                go_simp
                have B291 := bd_set B289 2 (.slice (some ⟨g285, 0, none⟩) (k + 1) c286)
                obtain ⟨wz292, hw⟩ : ∃ u, wz290.setCell ⟨R, 2, none⟩ (.slice (some ⟨g285, 0, none⟩) (k + 1) c286) = u := ⟨_, rfl⟩
                rw [hw] at B291
                rw [hw]
                clear y0 y1 hw
                first | refine .inl ⟨HT B291 _ (by kernel_rfl), ?_⟩ | refine ⟨HT B291 _ (by kernel_rfl), ?_⟩
                refine wpAnyS_done (by kernel_rfl) ?_ _
                have HL := HLEAF B291
                clear B291
                refine NoPanic.normal ?_
                go_wp2_with fail
                go_roundw
                case rel => exact ⟨k + 1, by omega, by go_num, HL⟩
                case measure => simp [intOf]; omega
            · unfold wpOp
              go_simp
              have B293 := bd_alloc B212 (.cells #[.int .i64 ((k : Int) - 1)] 3)
              have N296 := New1.new wz213 (.int .i64 ((k : Int) - 1)) 3
              have N297 := N215.alloc (.cells #[.int .i64 ((k : Int) - 1)] 3)
              obtain ⟨b295, hb⟩ : ∃ b, wz213.heap.size = b := ⟨_, rfl⟩
              have ap298 : vN.ownBlock ≠ some b295 := fun e => by have := (B212.oN.lt _ e).2; omega
              obtain ⟨wz294, hw⟩ : ∃ u, wz213.alloc (.cells #[.int .i64 ((k : Int) - 1)] 3) = u := ⟨_, rfl⟩
              rw [hb] at N296
              rw [hw] at B293 N296 N297
              try rw [hb]
              rw [hw]
              clear hb hw
              first | refine .inl ⟨HE B293 _, ?_⟩ | refine ⟨HE B293 _, ?_⟩
              refine wpAnyS_all (rs := [12]) (by kernel_rfl) (by simp) ?_
              intro i hi
              simp only [List.mem_cons, List.not_mem_nil, or_false] at hi
              subst hi
              unfold wpOp
              go_simp
              have B299 := bd_alloc B293 (.cells #[.string S1] 9)
              have N302 := New1.new wz294 (.string S1) 9
              have N303 := N297.alloc (.cells #[.string S1] 9)
              have N304 := N296.alloc (.cells #[.string S1] 9)
              obtain ⟨b301, hb⟩ : ∃ b, wz294.heap.size = b := ⟨_, rfl⟩
              obtain ⟨wz300, hw⟩ : ∃ u, wz294.alloc (.cells #[.string S1] 9) = u := ⟨_, rfl⟩
              rw [hb] at N302
              rw [hw] at B299 N302 N303 N304
              try rw [hb]
              rw [hw]
              clear hb hw
              first | refine .inl ⟨HE B299 _, ?_⟩ | refine ⟨HE B299 _, ?_⟩
              refine wpAnyS_all (rs := [13]) (by kernel_rfl) (by simp) ?_
              intro i hi
              simp only [List.mem_cons, List.not_mem_nil, or_false] at hi
              subst hi
              refine wpOp_append1 (i := 13) rfl rfl (.tmp 37) (.tmp 43) 41 rfl w.heap.size 9 i9 _ 16 Tryd.underlying41 h90 h91 h92 h93 (by rfl) (by omega) _ k _ (by rfl) B299.oP b301 (.string S1) (by rfl) N302 (by rfl) (by omega) B299.bel.size ?_
              intro g307 c308 wz306 ho hg hat
              have B305 := bd_appP B299 hg ho
              have N309 := N303.kept hg (own_ne_cells B299.oP N303 (by decide))
              have N310 := N304.kept hg (own_ne_cells B299.oP N304 (by decide))
              clear ho hg hat
              refine ⟨HE B305 _, ?_⟩
              try go_simp
              refine wpAnyS_all (rs := [21]) (by kernel_rfl) (by simp) ?_
              intro i hi
              simp only [List.mem_cons, List.not_mem_nil, or_false] at hi
              subst hi
              refine wpOp_append1 (i := 21) rfl rfl (.tmp 48) (.tmp 51) 34 rfl w.heap.size 3 i3 _ 8 Tryd.underlying34 h30 h31 h32 h33 (by rfl) (by omega) _ k _ (by rfl) B305.oN b214 (.int .i64 ((k : Int) + 1)) (by rfl) N309 (by rfl) (by omega) B305.bel.size ?_
              intro g313 c314 wz312 ho hg hat
              have B311 := bd_appN B305 hg ho hat
              have N315 := N310.kept hg (ap298)
              clear ho hg hat
              refine ⟨HE B311 _, ?_⟩
              try go_simp
              refine wpAnyS_all (rs := [29]) (by kernel_rfl) (by simp) ?_
              intro i hi
              simp only [List.mem_cons, List.not_mem_nil, or_false] at hi
              subst hi
              refine wpOp_append1 (i := 29) rfl rfl (.tmp 56) (.tmp 59) 34 rfl w.heap.size 3 i3 _ 8 Tryd.underlying34 h30 h31 h32 h33 (by rfl) (by omega) _ k _ (by rfl) B311.oQ b295 (.int .i64 ((k : Int) - 1)) (by rfl) N315 (by rfl) (by omega) B311.bel.size ?_
              intro g318 c319 wz317 ho hg hat
              have B316 := bd_appQ B311 hg ho hat
              clear ho hg hat
              refine ⟨HE B316 _, ?_⟩
              try go_simp
              refine wpAnyS_take (i := 30) (v := .pointer (some ⟨R, 0, none⟩)) rfl (by decide) (by kernel_rfl) (by kernel_rfl) (by kernel_rfl) (fun c a w h => h) (.inl ⟨by kernel_rfl, fun w' hS => ?_⟩) (HE B316 _) ?_
              · go_simp
              try go_simp
              refine wpAnyS_take (i := 31) (v := .pointer (some ⟨R, 0, none⟩)) rfl (by decide) (by kernel_rfl) (by kernel_rfl) (by kernel_rfl) (fun c a w h => h) (.inl ⟨by kernel_rfl, fun w' hS => ?_⟩) (HE B316 _) ?_
              · go_simp
              try go_simp
              refine wpAnyS_all (rs := [32]) (by kernel_rfl) (by simp) ?_
              intro i hi
              simp only [List.mem_cons, List.not_mem_nil, or_false] at hi
              subst hi
              unfold wpOp
              have y0 := B316.hb.cell 0
              have y1 := B316.hb.frozen 0
              simp at y0
              go_simp
              have B320 := bd_set B316 0 (.slice (some ⟨g307, 0, none⟩) (k + 1) c308)
              obtain ⟨wz321, hw⟩ : ∃ u, wz317.setCell ⟨R, 0, none⟩ (.slice (some ⟨g307, 0, none⟩) (k + 1) c308) = u := ⟨_, rfl⟩
              rw [hw] at B320
              rw [hw]
              clear y0 y1 hw
              first | refine .inl ⟨HT B320 _ (by kernel_rfl), ?_⟩ | refine ⟨HT B320 _ (by kernel_rfl), ?_⟩
              refine wpAnyS_take (i := 33) (v := .pointer (some ⟨R, 0, none⟩)) rfl (by decide) (by kernel_rfl) (by kernel_rfl) (by kernel_rfl) (fun c a w h => h) (.inl ⟨by kernel_rfl, fun w' hS => ?_⟩) (HT B320 _ (by kernel_rfl)) ?_
              · go_simp
              try go_simp
              refine wpAnyS_take (i := 34) (v := .pointer (some ⟨R, 1, none⟩)) rfl (by decide) (by kernel_rfl) (by kernel_rfl) (by kernel_rfl) (fun c a w h => h) (.inl ⟨by kernel_rfl, fun w' hS => ?_⟩) (HT B320 _ (by kernel_rfl)) ?_
              · go_simp
              try go_simp
              refine wpAnyS_all (rs := [35]) (by kernel_rfl) (by simp) ?_
              intro i hi
              simp only [List.mem_cons, List.not_mem_nil, or_false] at hi
              subst hi
              unfold wpOp
              have y0 := B320.hb.cell 1
              have y1 := B320.hb.frozen 1
              simp at y0
              go_simp
              have B322 := bd_set B320 1 (.slice (some ⟨g313, 0, none⟩) (k + 1) c314)
              obtain ⟨wz323, hw⟩ : ∃ u, wz321.setCell ⟨R, 1, none⟩ (.slice (some ⟨g313, 0, none⟩) (k + 1) c314) = u := ⟨_, rfl⟩
              rw [hw] at B322
              rw [hw]
              clear y0 y1 hw
              first | refine .inl ⟨HT B322 _ (by kernel_rfl), ?_⟩ | refine ⟨HT B322 _ (by kernel_rfl), ?_⟩
              refine wpAnyS_take (i := 36) (v := .pointer (some ⟨R, 0, none⟩)) rfl (by decide) (by kernel_rfl) (by kernel_rfl) (by kernel_rfl) (fun c a w h => h) (.inl ⟨by kernel_rfl, fun w' hS => ?_⟩) (HT B322 _ (by kernel_rfl)) ?_
              · go_simp
              try go_simp
              refine wpAnyS_take (i := 37) (v := .pointer (some ⟨R, 2, none⟩)) rfl (by decide) (by kernel_rfl) (by kernel_rfl) (by kernel_rfl) (fun c a w h => h) (.inl ⟨by kernel_rfl, fun w' hS => ?_⟩) (HT B322 _ (by kernel_rfl)) ?_
              · go_simp
              try go_simp
              refine wpAnyS_all (rs := [38]) (by kernel_rfl) (by simp) ?_
              intro i hi
              simp only [List.mem_cons, List.not_mem_nil, or_false] at hi
              subst hi
              unfold wpOp
              have y0 := B322.hb.cell 2
              have y1 := B322.hb.frozen 2
              simp at y0
              go_simp
              have B324 := bd_set B322 2 (.slice (some ⟨g318, 0, none⟩) (k + 1) c319)
              obtain ⟨wz325, hw⟩ : ∃ u, wz323.setCell ⟨R, 2, none⟩ (.slice (some ⟨g318, 0, none⟩) (k + 1) c319) = u := ⟨_, rfl⟩
              rw [hw] at B324
              rw [hw]
              clear y0 y1 hw
              first | refine .inl ⟨HT B324 _ (by kernel_rfl), ?_⟩ | refine ⟨HT B324 _ (by kernel_rfl), ?_⟩
              refine wpAnyS_done (by kernel_rfl) ?_ _
              have HL := HLEAF B324
              clear B324
              refine NoPanic.normal ?_
              go_wp2_with fail
              go_roundw
              case rel => exact ⟨k + 1, by omega, by go_num, HL⟩
              case measure => simp [intOf]; omega
          · unfold wpOp
            go_simp
            have B326 := bd_alloc B0 (.cells #[.int .i64 ((k : Int) - 1)] 3)
            have N329 := New1.new w0 (.int .i64 ((k : Int) - 1)) 3
            obtain ⟨b328, hb⟩ : ∃ b, w0.heap.size = b := ⟨_, rfl⟩
            have ap330 : vN.ownBlock ≠ some b328 := fun e => by have := (B0.oN.lt _ e).2; omega
            obtain ⟨wz327, hw⟩ : ∃ u, w0.alloc (.cells #[.int .i64 ((k : Int) - 1)] 3) = u := ⟨_, rfl⟩
            rw [hb] at N329
            rw [hw] at B326 N329
            try rw [hb]
            rw [hw]
            clear hb hw
            first | refine .inl ⟨HE B326 _, ?_⟩ | refine ⟨HE B326 _, ?_⟩
            refine wpAnyS_all (rs := [12, 20]) (by kernel_rfl) (by simp) ?_
            intro i hi
            simp only [List.mem_cons, List.not_mem_nil, or_false] at hi
            rcases hi with rfl | rfl
            · unfold wpOp
              go_simp
              have B331 := bd_alloc B326 (.cells #[.string S1] 9)
              have N334 := New1.new wz327 (.string S1) 9
              have N335 := N329.alloc (.cells #[.string S1] 9)
              obtain ⟨b333, hb⟩ : ∃ b, wz327.heap.size = b := ⟨_, rfl⟩
              obtain ⟨wz332, hw⟩ : ∃ u, wz327.alloc (.cells #[.string S1] 9) = u := ⟨_, rfl⟩
              rw [hb] at N334
              rw [hw] at B331 N334 N335
              try rw [hb]
              rw [hw]
              clear hb hw
              first | refine .inl ⟨HE B331 _, ?_⟩ | refine ⟨HE B331 _, ?_⟩
              refine wpAnyS_all (rs := [13, 20]) (by kernel_rfl) (by simp) ?_
              intro i hi
              simp only [List.mem_cons, List.not_mem_nil, or_false] at hi
              rcases hi with rfl | rfl
              · refine wpOp_append1 (i := 13) rfl rfl (.tmp 37) (.tmp 43) 41 rfl w.heap.size 9 i9 _ 16 Tryd.underlying41 h90 h91 h92 h93 (by rfl) (by omega) _ k _ (by rfl) B331.oP b333 (.string S1) (by rfl) N334 (by rfl) (by omega) B331.bel.size ?_
                intro g338 c339 wz337 ho hg hat
                have B336 := bd_appP B331 hg ho
                have N340 := N335.kept hg (own_ne_cells B331.oP N335 (by decide))
                clear ho hg hat
                refine ⟨HE B336 _, ?_⟩
                try go_simp
                refine wpAnyS_all (rs := [20]) (by kernel_rfl) (by simp) ?_
                intro i hi
                simp only [List.mem_cons, List.not_mem_nil, or_false] at hi
                subst hi
                unfold wpOp
                go_simp
                have B341 := bd_alloc B336 (.cells #[.int .i64 ((k : Int) + 1)] 3)
                have N344 := New1.new wz337 (.int .i64 ((k : Int) + 1)) 3
                have N345 := N340.alloc (.cells #[.int .i64 ((k : Int) + 1)] 3)
                obtain ⟨b343, hb⟩ : ∃ b, wz337.heap.size = b := ⟨_, rfl⟩
                obtain ⟨wz342, hw⟩ : ∃ u, wz337.alloc (.cells #[.int .i64 ((k : Int) + 1)] 3) = u := ⟨_, rfl⟩
                rw [hb] at N344
                rw [hw] at B341 N344 N345
                try rw [hb]
                rw [hw]
                clear hb hw
                first | refine .inl ⟨HE B341 _, ?_⟩ | refine ⟨HE B341 _, ?_⟩
                refine wpAnyS_all (rs := [21]) (by kernel_rfl) (by simp) ?_
                intro i hi
                simp only [List.mem_cons, List.not_mem_nil, or_false] at hi
                subst hi
                refine wpOp_append1 (i := 21) rfl rfl (.tmp 48) (.tmp 51) 34 rfl w.heap.size 3 i3 _ 8 Tryd.underlying34 h30 h31 h32 h33 (by rfl) (by omega) _ k _ (by rfl) B341.oN b343 (.int .i64 ((k : Int) + 1)) (by rfl) N344 (by rfl) (by omega) B341.bel.size ?_
                intro g348 c349 wz347 ho hg hat
                have B346 := bd_appN B341 hg ho hat
                have N350 := N345.kept hg (ap330)
                clear ho hg hat
                refine ⟨HE B346 _, ?_⟩
                try go_simp
                refine wpAnyS_all (rs := [29]) (by kernel_rfl) (by simp) ?_
                intro i hi
                simp only [List.mem_cons, List.not_mem_nil, or_false] at hi
                subst hi
                refine wpOp_append1 (i := 29) rfl rfl (.tmp 56) (.tmp 59) 34 rfl w.heap.size 3 i3 _ 8 Tryd.underlying34 h30 h31 h32 h33 (by rfl) (by omega) _ k _ (by rfl) B346.oQ b328 (.int .i64 ((k : Int) - 1)) (by rfl) N350 (by rfl) (by omega) B346.bel.size ?_
                intro g353 c354 wz352 ho hg hat
                have B351 := bd_appQ B346 hg ho hat
                clear ho hg hat
                refine ⟨HE B351 _, ?_⟩
                try go_simp
                refine wpAnyS_take (i := 30) (v := .pointer (some ⟨R, 0, none⟩)) rfl (by decide) (by kernel_rfl) (by kernel_rfl) (by kernel_rfl) (fun c a w h => h) (.inl ⟨by kernel_rfl, fun w' hS => ?_⟩) (HE B351 _) ?_
                · go_simp
                try go_simp
                refine wpAnyS_take (i := 31) (v := .pointer (some ⟨R, 0, none⟩)) rfl (by decide) (by kernel_rfl) (by kernel_rfl) (by kernel_rfl) (fun c a w h => h) (.inl ⟨by kernel_rfl, fun w' hS => ?_⟩) (HE B351 _) ?_
                · go_simp
                try go_simp
                refine wpAnyS_all (rs := [32]) (by kernel_rfl) (by simp) ?_
                intro i hi
                simp only [List.mem_cons, List.not_mem_nil, or_false] at hi
                subst hi
                unfold wpOp
                have y0 := B351.hb.cell 0
                have y1 := B351.hb.frozen 0
                simp at y0
                go_simp
                have B355 := bd_set B351 0 (.slice (some ⟨g338, 0, none⟩) (k + 1) c339)
                obtain ⟨wz356, hw⟩ : ∃ u, wz352.setCell ⟨R, 0, none⟩ (.slice (some ⟨g338, 0, none⟩) (k + 1) c339) = u := ⟨_, rfl⟩
                rw [hw] at B355
                rw [hw]
                clear y0 y1 hw
                first | refine .inl ⟨HT B355 _ (by kernel_rfl), ?_⟩ | refine ⟨HT B355 _ (by kernel_rfl), ?_⟩
                refine wpAnyS_take (i := 33) (v := .pointer (some ⟨R, 0, none⟩)) rfl (by decide) (by kernel_rfl) (by kernel_rfl) (by kernel_rfl) (fun c a w h => h) (.inl ⟨by kernel_rfl, fun w' hS => ?_⟩) (HT B355 _ (by kernel_rfl)) ?_
                · go_simp
                try go_simp
                refine wpAnyS_take (i := 34) (v := .pointer (some ⟨R, 1, none⟩)) rfl (by decide) (by kernel_rfl) (by kernel_rfl) (by kernel_rfl) (fun c a w h => h) (.inl ⟨by kernel_rfl, fun w' hS => ?_⟩) (HT B355 _ (by kernel_rfl)) ?_
                · go_simp
                try go_simp
                refine wpAnyS_all (rs := [35]) (by kernel_rfl) (by simp) ?_
                intro i hi
                simp only [List.mem_cons, List.not_mem_nil, or_false] at hi
                subst hi
                unfold wpOp
                have y0 := B355.hb.cell 1
                have y1 := B355.hb.frozen 1
                simp at y0
                go_simp
                have B357 := bd_set B355 1 (.slice (some ⟨g348, 0, none⟩) (k + 1) c349)
                obtain ⟨wz358, hw⟩ : ∃ u, wz356.setCell ⟨R, 1, none⟩ (.slice (some ⟨g348, 0, none⟩) (k + 1) c349) = u := ⟨_, rfl⟩
                rw [hw] at B357
                rw [hw]
                clear y0 y1 hw
                first | refine .inl ⟨HT B357 _ (by kernel_rfl), ?_⟩ | refine ⟨HT B357 _ (by kernel_rfl), ?_⟩
                refine wpAnyS_take (i := 36) (v := .pointer (some ⟨R, 0, none⟩)) rfl (by decide) (by kernel_rfl) (by kernel_rfl) (by kernel_rfl) (fun c a w h => h) (.inl ⟨by kernel_rfl, fun w' hS => ?_⟩) (HT B357 _ (by kernel_rfl)) ?_
                · go_simp
                try go_simp
                refine wpAnyS_take (i := 37) (v := .pointer (some ⟨R, 2, none⟩)) rfl (by decide) (by kernel_rfl) (by kernel_rfl) (by kernel_rfl) (fun c a w h => h) (.inl ⟨by kernel_rfl, fun w' hS => ?_⟩) (HT B357 _ (by kernel_rfl)) ?_
                · go_simp
                try go_simp
                refine wpAnyS_all (rs := [38]) (by kernel_rfl) (by simp) ?_
                intro i hi
                simp only [List.mem_cons, List.not_mem_nil, or_false] at hi
                subst hi
                unfold wpOp
                have y0 := B357.hb.cell 2
                have y1 := B357.hb.frozen 2
                simp at y0
                go_simp
                have B359 := bd_set B357 2 (.slice (some ⟨g353, 0, none⟩) (k + 1) c354)
                obtain ⟨wz360, hw⟩ : ∃ u, wz358.setCell ⟨R, 2, none⟩ (.slice (some ⟨g353, 0, none⟩) (k + 1) c354) = u := ⟨_, rfl⟩
                rw [hw] at B359
                rw [hw]
                clear y0 y1 hw
                first | refine .inl ⟨HT B359 _ (by kernel_rfl), ?_⟩ | refine ⟨HT B359 _ (by kernel_rfl), ?_⟩
                refine wpAnyS_done (by kernel_rfl) ?_ _
                have HL := HLEAF B359
                clear B359
                refine NoPanic.normal ?_
                go_wp2_with fail
                go_roundw
                case rel => exact ⟨k + 1, by omega, by go_num, HL⟩
                case measure => simp [intOf]; omega
              · unfold wpOp
                go_simp
                have B361 := bd_alloc B331 (.cells #[.int .i64 ((k : Int) + 1)] 3)
                have N364 := New1.new wz332 (.int .i64 ((k : Int) + 1)) 3
                have N365 := N335.alloc (.cells #[.int .i64 ((k : Int) + 1)] 3)
                have N366 := N334.alloc (.cells #[.int .i64 ((k : Int) + 1)] 3)
                obtain ⟨b363, hb⟩ : ∃ b, wz332.heap.size = b := ⟨_, rfl⟩
                obtain ⟨wz362, hw⟩ : ∃ u, wz332.alloc (.cells #[.int .i64 ((k : Int) + 1)] 3) = u := ⟨_, rfl⟩
                rw [hb] at N364
                rw [hw] at B361 N364 N365 N366
                try rw [hb]
                rw [hw]
                clear hb hw
                first | refine .inl ⟨HE B361 _, ?_⟩ | refine ⟨HE B361 _, ?_⟩
                refine wpAnyS_all (rs := [13]) (by kernel_rfl) (by simp) ?_
                intro i hi
                simp only [List.mem_cons, List.not_mem_nil, or_false] at hi
                subst hi
                refine wpOp_append1 (i := 13) rfl rfl (.tmp 37) (.tmp 43) 41 rfl w.heap.size 9 i9 _ 16 Tryd.underlying41 h90 h91 h92 h93 (by rfl) (by omega) _ k _ (by rfl) B361.oP b333 (.string S1) (by rfl) N366 (by rfl) (by omega) B361.bel.size ?_
                intro g369 c370 wz368 ho hg hat
                have B367 := bd_appP B361 hg ho
                have N371 := N365.kept hg (own_ne_cells B361.oP N365 (by decide))
                have N372 := N364.kept hg (own_ne_cells B361.oP N364 (by decide))
                clear ho hg hat
                refine ⟨HE B367 _, ?_⟩
                try go_simp
                refine wpAnyS_all (rs := [21]) (by kernel_rfl) (by simp) ?_
                intro i hi
                simp only [List.mem_cons, List.not_mem_nil, or_false] at hi
                subst hi
                refine wpOp_append1 (i := 21) rfl rfl (.tmp 48) (.tmp 51) 34 rfl w.heap.size 3 i3 _ 8 Tryd.underlying34 h30 h31 h32 h33 (by rfl) (by omega) _ k _ (by rfl) B367.oN b363 (.int .i64 ((k : Int) + 1)) (by rfl) N372 (by rfl) (by omega) B367.bel.size ?_
                intro g375 c376 wz374 ho hg hat
                have B373 := bd_appN B367 hg ho hat
                have N377 := N371.kept hg (ap330)
                clear ho hg hat
                refine ⟨HE B373 _, ?_⟩
                try go_simp
                refine wpAnyS_all (rs := [29]) (by kernel_rfl) (by simp) ?_
                intro i hi
                simp only [List.mem_cons, List.not_mem_nil, or_false] at hi
                subst hi
                refine wpOp_append1 (i := 29) rfl rfl (.tmp 56) (.tmp 59) 34 rfl w.heap.size 3 i3 _ 8 Tryd.underlying34 h30 h31 h32 h33 (by rfl) (by omega) _ k _ (by rfl) B373.oQ b328 (.int .i64 ((k : Int) - 1)) (by rfl) N377 (by rfl) (by omega) B373.bel.size ?_
                intro g380 c381 wz379 ho hg hat
                have B378 := bd_appQ B373 hg ho hat
                clear ho hg hat
                refine ⟨HE B378 _, ?_⟩
                try go_simp
                refine wpAnyS_take (i := 30) (v := .pointer (some ⟨R, 0, none⟩)) rfl (by decide) (by kernel_rfl) (by kernel_rfl) (by kernel_rfl) (fun c a w h => h) (.inl ⟨by kernel_rfl, fun w' hS => ?_⟩) (HE B378 _) ?_
                · go_simp
                try go_simp
                refine wpAnyS_take (i := 31) (v := .pointer (some ⟨R, 0, none⟩)) rfl (by decide) (by kernel_rfl) (by kernel_rfl) (by kernel_rfl) (fun c a w h => h) (.inl ⟨by kernel_rfl, fun w' hS => ?_⟩) (HE B378 _) ?_
                · go_simp
                try go_simp
                refine wpAnyS_all (rs := [32]) (by kernel_rfl) (by simp) ?_
                intro i hi
                simp only [List.mem_cons, List.not_mem_nil, or_false] at hi
                subst hi
                unfold wpOp
                have y0 := B378.hb.cell 0
                have y1 := B378.hb.frozen 0
                simp at y0
                go_simp
                have B382 := bd_set B378 0 (.slice (some ⟨g369, 0, none⟩) (k + 1) c370)
                obtain ⟨wz383, hw⟩ : ∃ u, wz379.setCell ⟨R, 0, none⟩ (.slice (some ⟨g369, 0, none⟩) (k + 1) c370) = u := ⟨_, rfl⟩
                rw [hw] at B382
                rw [hw]
                clear y0 y1 hw
                first | refine .inl ⟨HT B382 _ (by kernel_rfl), ?_⟩ | refine ⟨HT B382 _ (by kernel_rfl), ?_⟩
                refine wpAnyS_take (i := 33) (v := .pointer (some ⟨R, 0, none⟩)) rfl (by decide) (by kernel_rfl) (by kernel_rfl) (by kernel_rfl) (fun c a w h => h) (.inl ⟨by kernel_rfl, fun w' hS => ?_⟩) (HT B382 _ (by kernel_rfl)) ?_
                · go_simp
                try go_simp
                refine wpAnyS_take (i := 34) (v := .pointer (some ⟨R, 1, none⟩)) rfl (by decide) (by kernel_rfl) (by kernel_rfl) (by kernel_rfl) (fun c a w h => h) (.inl ⟨by kernel_rfl, fun w' hS => ?_⟩) (HT B382 _ (by kernel_rfl)) ?_
                · go_simp
                try go_simp
                refine wpAnyS_all (rs := [35]) (by kernel_rfl) (by simp) ?_
                intro i hi
                simp only [List.mem_cons, List.not_mem_nil, or_false] at hi
                subst hi
                unfold wpOp
                have y0 := B382.hb.cell 1
                have y1 := B382.hb.frozen 1
                simp at y0
                go_simp
                have B384 := bd_set B382 1 (.slice (some ⟨g375, 0, none⟩) (k + 1) c376)
                obtain ⟨wz385, hw⟩ : ∃ u, wz383.setCell ⟨R, 1, none⟩ (.slice (some ⟨g375, 0, none⟩) (k + 1) c376) = u := ⟨_, rfl⟩
                rw [hw] at B384
                rw [hw]
                clear y0 y1 hw
                first | refine .inl ⟨HT B384 _ (by kernel_rfl), ?_⟩ | refine ⟨HT B384 _ (by kernel_rfl), ?_⟩
                refine wpAnyS_take (i := 36) (v := .pointer (some ⟨R, 0, none⟩)) rfl (by decide) (by kernel_rfl) (by kernel_rfl) (by kernel_rfl) (fun c a w h => h) (.inl ⟨by kernel_rfl, fun w' hS => ?_⟩) (HT B384 _ (by kernel_rfl)) ?_
                · go_simp
                try go_simp
                refine wpAnyS_take (i := 37) (v := .pointer (some ⟨R, 2, none⟩)) rfl (by decide) (by kernel_rfl) (by kernel_rfl) (by kernel_rfl) (fun c a w h => h) (.inl ⟨by kernel_rfl, fun w' hS => ?_⟩) (HT B384 _ (by kernel_rfl)) ?_
                · go_simp
                try go_simp
                refine wpAnyS_all (rs := [38]) (by kernel_rfl) (by simp) ?_
                intro i hi
                simp only [List.mem_cons, List.not_mem_nil, or_false] at hi
                subst hi
                unfold wpOp
                have y0 := B384.hb.cell 2
                have y1 := B384.hb.frozen 2
                simp at y0
                go_simp
                have B386 := bd_set B384 2 (.slice (some ⟨g380, 0, none⟩) (k + 1) c381)
                obtain ⟨wz387, hw⟩ : ∃ u, wz385.setCell ⟨R, 2, none⟩ (.slice (some ⟨g380, 0, none⟩) (k + 1) c381) = u := ⟨_, rfl⟩
                rw [hw] at B386
                rw [hw]
                clear y0 y1 hw
                first | refine .inl ⟨HT B386 _ (by kernel_rfl), ?_⟩ | refine ⟨HT B386 _ (by kernel_rfl), ?_⟩
                refine wpAnyS_done (by kernel_rfl) ?_ _
                have HL := HLEAF B386
                clear B386
                refine NoPanic.normal ?_
                go_wp2_with fail
                go_roundw
                case rel => exact ⟨k + 1, by omega, by go_num, HL⟩
                case measure => simp [intOf]; omega
            · unfold wpOp
              go_simp
              have B388 := bd_alloc B326 (.cells #[.int .i64 ((k : Int) + 1)] 3)
              have N391 := New1.new wz327 (.int .i64 ((k : Int) + 1)) 3
              have N392 := N329.alloc (.cells #[.int .i64 ((k : Int) + 1)] 3)
              obtain ⟨b390, hb⟩ : ∃ b, wz327.heap.size = b := ⟨_, rfl⟩
              obtain ⟨wz389, hw⟩ : ∃ u, wz327.alloc (.cells #[.int .i64 ((k : Int) + 1)] 3) = u := ⟨_, rfl⟩
              rw [hb] at N391
              rw [hw] at B388 N391 N392
              try rw [hb]
              rw [hw]
              clear hb hw
              first | refine .inl ⟨HE B388 _, ?_⟩ | refine ⟨HE B388 _, ?_⟩
              refine wpAnyS_all (rs := [12]) (by kernel_rfl) (by simp) ?_
              intro i hi
              simp only [List.mem_cons, List.not_mem_nil, or_false] at hi
              subst hi
              unfold wpOp
              go_simp
              have B393 := bd_alloc B388 (.cells #[.string S1] 9)
              have N396 := New1.new wz389 (.string S1) 9
              have N397 := N392.alloc (.cells #[.string S1] 9)
              have N398 := N391.alloc (.cells #[.string S1] 9)
              obtain ⟨b395, hb⟩ : ∃ b, wz389.heap.size = b := ⟨_, rfl⟩
              obtain ⟨wz394, hw⟩ : ∃ u, wz389.alloc (.cells #[.string S1] 9) = u := ⟨_, rfl⟩
              rw [hb] at N396
              rw [hw] at B393 N396 N397 N398
              try rw [hb]
              rw [hw]
              clear hb hw
              first | refine .inl ⟨HE B393 _, ?_⟩ | refine ⟨HE B393 _, ?_⟩
              refine wpAnyS_all (rs := [13]) (by kernel_rfl) (by simp) ?_
              intro i hi
              simp only [List.mem_cons, List.not_mem_nil, or_false] at hi
              subst hi
              refine wpOp_append1 (i := 13) rfl rfl (.tmp 37) (.tmp 43) 41 rfl w.heap.size 9 i9 _ 16 Tryd.underlying41 h90 h91 h92 h93 (by rfl) (by omega) _ k _ (by rfl) B393.oP b395 (.string S1) (by rfl) N396 (by rfl) (by omega) B393.bel.size ?_
              intro g401 c402 wz400 ho hg hat
              have B399 := bd_appP B393 hg ho
              have N403 := N397.kept hg (own_ne_cells B393.oP N397 (by decide))
              have N404 := N398.kept hg (own_ne_cells B393.oP N398 (by decide))
              clear ho hg hat
              refine ⟨HE B399 _, ?_⟩
              try go_simp
              refine wpAnyS_all (rs := [21]) (by kernel_rfl) (by simp) ?_
              intro i hi
              simp only [List.mem_cons, List.not_mem_nil, or_false] at hi
              subst hi
              refine wpOp_append1 (i := 21) rfl rfl (.tmp 48) (.tmp 51) 34 rfl w.heap.size 3 i3 _ 8 Tryd.underlying34 h30 h31 h32 h33 (by rfl) (by omega) _ k _ (by rfl) B399.oN b390 (.int .i64 ((k : Int) + 1)) (by rfl) N404 (by rfl) (by omega) B399.bel.size ?_
              intro g407 c408 wz406 ho hg hat
              have B405 := bd_appN B399 hg ho hat
              have N409 := N403.kept hg (ap330)
              clear ho hg hat
              refine ⟨HE B405 _, ?_⟩
              try go_simp
              refine wpAnyS_all (rs := [29]) (by kernel_rfl) (by simp) ?_
              intro i hi
              simp only [List.mem_cons, List.not_mem_nil, or_false] at hi
              subst hi
              refine wpOp_append1 (i := 29) rfl rfl (.tmp 56) (.tmp 59) 34 rfl w.heap.size 3 i3 _ 8 Tryd.underlying34 h30 h31 h32 h33 (by rfl) (by omega) _ k _ (by rfl) B405.oQ b328 (.int .i64 ((k : Int) - 1)) (by rfl) N409 (by rfl) (by omega) B405.bel.size ?_
              intro g412 c413 wz411 ho hg hat
              have B410 := bd_appQ B405 hg ho hat
              clear ho hg hat
              refine ⟨HE B410 _, ?_⟩
              try go_simp
              refine wpAnyS_take (i := 30) (v := .pointer (some ⟨R, 0, none⟩)) rfl (by decide) (by kernel_rfl) (by kernel_rfl) (by kernel_rfl) (fun c a w h => h) (.inl ⟨by kernel_rfl, fun w' hS => ?_⟩) (HE B410 _) ?_
              · go_simp
              try go_simp
              refine wpAnyS_take (i := 31) (v := .pointer (some ⟨R, 0, none⟩)) rfl (by decide) (by kernel_rfl) (by kernel_rfl) (by kernel_rfl) (fun c a w h => h) (.inl ⟨by kernel_rfl, fun w' hS => ?_⟩) (HE B410 _) ?_
              · go_simp
              try go_simp
              refine wpAnyS_all (rs := [32]) (by kernel_rfl) (by simp) ?_
              intro i hi
              simp only [List.mem_cons, List.not_mem_nil, or_false] at hi
              subst hi
              unfold wpOp
              have y0 := B410.hb.cell 0
              have y1 := B410.hb.frozen 0
              simp at y0
              go_simp
              have B414 := bd_set B410 0 (.slice (some ⟨g401, 0, none⟩) (k + 1) c402)
              obtain ⟨wz415, hw⟩ : ∃ u, wz411.setCell ⟨R, 0, none⟩ (.slice (some ⟨g401, 0, none⟩) (k + 1) c402) = u := ⟨_, rfl⟩
              rw [hw] at B414
              rw [hw]
              clear y0 y1 hw
              first | refine .inl ⟨HT B414 _ (by kernel_rfl), ?_⟩ | refine ⟨HT B414 _ (by kernel_rfl), ?_⟩
              refine wpAnyS_take (i := 33) (v := .pointer (some ⟨R, 0, none⟩)) rfl (by decide) (by kernel_rfl) (by kernel_rfl) (by kernel_rfl) (fun c a w h => h) (.inl ⟨by kernel_rfl, fun w' hS => ?_⟩) (HT B414 _ (by kernel_rfl)) ?_
              · go_simp
              try go_simp
              refine wpAnyS_take (i := 34) (v := .pointer (some ⟨R, 1, none⟩)) rfl (by decide) (by kernel_rfl) (by kernel_rfl) (by kernel_rfl) (fun c a w h => h) (.inl ⟨by kernel_rfl, fun w' hS => ?_⟩) (HT B414 _ (by kernel_rfl)) ?_
              · go_simp
              try go_simp
              refine wpAnyS_all (rs := [35]) (by kernel_rfl) (by simp) ?_
              intro i hi
              simp only [List.mem_cons, List.not_mem_nil, or_false] at hi
              subst hi
              unfold wpOp
              have y0 := B414.hb.cell 1
              have y1 := B414.hb.frozen 1
              simp at y0
              go_simp
              have B416 := bd_set B414 1 (.slice (some ⟨g407, 0, none⟩) (k + 1) c408)
              obtain ⟨wz417, hw⟩ : ∃ u, wz415.setCell ⟨R, 1, none⟩ (.slice (some ⟨g407, 0, none⟩) (k + 1) c408) = u := ⟨_, rfl⟩
              rw [hw] at B416
              rw [hw]
              clear y0 y1 hw
              first | refine .inl ⟨HT B416 _ (by kernel_rfl), ?_⟩ | refine ⟨HT B416 _ (by kernel_rfl), ?_⟩
              refine wpAnyS_take (i := 36) (v := .pointer (some ⟨R, 0, none⟩)) rfl (by decide) (by kernel_rfl) (by kernel_rfl) (by kernel_rfl) (fun c a w h => h) (.inl ⟨by kernel_rfl, fun w' hS => ?_⟩) (HT B416 _ (by kernel_rfl)) ?_
              · go_simp
              try go_simp
              refine wpAnyS_take (i := 37) (v := .pointer (some ⟨R, 2, none⟩)) rfl (by decide) (by kernel_rfl) (by kernel_rfl) (by kernel_rfl) (fun c a w h => h) (.inl ⟨by kernel_rfl, fun w' hS => ?_⟩) (HT B416 _ (by kernel_rfl)) ?_
              · go_simp
              try go_simp
              refine wpAnyS_all (rs := [38]) (by kernel_rfl) (by simp) ?_
              intro i hi
              simp only [List.mem_cons, List.not_mem_nil, or_false] at hi
              subst hi
              unfold wpOp
              have y0 := B416.hb.cell 2
              have y1 := B416.hb.frozen 2
              simp at y0
              go_simp
              have B418 := bd_set B416 2 (.slice (some ⟨g412, 0, none⟩) (k + 1) c413)
              obtain ⟨wz419, hw⟩ : ∃ u, wz417.setCell ⟨R, 2, none⟩ (.slice (some ⟨g412, 0, none⟩) (k + 1) c413) = u := ⟨_, rfl⟩
              rw [hw] at B418
              rw [hw]
              clear y0 y1 hw
              first | refine .inl ⟨HT B418 _ (by kernel_rfl), ?_⟩ | refine ⟨HT B418 _ (by kernel_rfl), ?_⟩
              refine wpAnyS_done (by kernel_rfl) ?_ _
              have HL := HLEAF B418
              clear B418
              refine NoPanic.normal ?_
              go_wp2_with fail
              go_roundw
              case rel => exact ⟨k + 1, by omega, by go_num, HL⟩
              case measure => simp [intOf]; omega
        · obtain rfl : k = wd.length := by omega
          go_wp2_with fail
          go_meet
          case rel => exact HROW.out
    case rest =>
      obtain ⟨vP, vN, vQ, hbd⟩ := hcut
      rw [List.take_length] at hbd
      have hsl := singles_length wd
      have hRS : RS w.heap.size wc R (rkL 0 l) n vP vN vQ (.slice none 0 0) H (singles wd) (nx0 wd) (pv0 wd) [] := by
        refine ⟨hbd.hb, by rw [hsl]; exact hbd.oP, ?_, ?_, World.ownsRow_nil _ _ _ _, hbd.hM, hbd.nq, hbd.hR, by omega⟩
        · have := hbd.oN
          rw [show (nx0 wd).length = wd.length by simp [nx0]]; exact this
        · have := hbd.oQ
          rw [show (pv0 wd).length = wd.length by simp [pv0]]; exact this
      obtain ⟨A1, c1, rfl⟩ := own_form hRS.hP
      have hR0 : Hid (Row2 w W R X H n l wd _ vN vQ wc 0) := Lib.hid ⟨_, _, hRS, fun k k0 kl => by simp at kl, by simp, hbd.hx, hbd.k9, hbd.bel⟩
      have hxc := hbd.hx.cell
      have hc0 := hRS.hb.cell 0
      simp at hc0
      rw [hsl] at hc0
      have HRS0 := Lib.hid hbd
      clear hbd hRS hrow0
      go_wp2_with fail
      go_loopw [73] (fun i wr => ∃ k : Nat, k ≤ wd.length ∧ i = .int .i64 k ∧ Row2 w W R X H n l wd (.slice A1 (singles wd).length c1) vN vQ wr k) (fun i _ => wd.length - (intOf i).toNat)
      case atStart => exact ⟨0, Nat.zero_le _, rfl, hR0.out⟩
      case round =>
        obtain ⟨k, hk, rfl, Z, S, hrs, hh, hperm, hxr, hk9, hbel⟩ := hrel
        clear hxc hc0
        have hxc := hxr.cell
        rcases Nat.lt_or_ge k wd.length with hlt | hge
        · have hSl : S.length ≤ k := by rw [hperm.length_eq]; exact flat_len _ _ _
          have KM := meet_at w.heap.size R n H (rkL 0 l) _ _ _ _ _ _ _ (singles wd) S wr hrs (sing_rep wd) hh (by omega) (by rw [hsl]; exact hwd) k (by rw [hsl]; exact hlt)
          rw [singles_off wd k (by omega)] at KM
          have k0 : (0 : Int) ≤ (k : Int) := by omega
          have k1 : (k : Int) < (wd.length : Int) := by omega
          have k2 : (k : Int) ≤ 4096 := by omega
          have HRS := Lib.hid (And.intro hrs hperm)
          clear hrs hh hSl
          go_wp2_with (go_at_call 45; (with_reducible refine KM.mono ?_); rintro e w4 ⟨rfl, Z4, S4, hp4, hh4, hr4, hf4⟩)
          go_roundw
          case rel =>
            refine ⟨k + 1, by omega, by go_num, Z4, S4, hr4, hh4, ?_, box9 hxr (k9_fr HRS.out.1 hf4), hk9.trans (k9_fr HRS.out.1 hf4), hbel.trans (HRS.out.1.below hf4)⟩
            rw [List.range_succ, List.flatMap_append]
            simp only [List.flatMap_cons, List.flatMap_nil, List.append_nil]
            exact hp4.trans (HRS.out.2.append_right _)
          case measure => simp [intOf]; omega
        · obtain rfl : k = wd.length := by omega
          have hSl : S.length ≤ wd.length := by rw [hperm.length_eq]; exact flat_len _ _ _
          have hR3 : Hid (Row3 w W R X H n l wd (.slice A1 (singles wd).length c1) vN vQ wr (S.length + 3 * (singles wd).length)) :=
            Lib.hid ⟨Z, _, _, _, singles wd, S, hrs, sing_rep wd, hh, by rw [hsl]; exact MI.begin _ wd hperm, hsl, fun T h => h, rfl, by omega, hxr, hk9, hbel⟩
          obtain ⟨kk, hkk⟩ : ∃ kk, S.length + 3 * (singles wd).length = kk := ⟨_, rfl⟩
          rw [hkk] at hR3
          clear hrs hh hperm hSl hkk hk9 hbel hxr hxc
          go_wp2_with fail
          go_loopg [] kk (fun k wr => Row3 w W R X H n l wd (.slice A1 (singles wd).length c1) vN vQ wr k)
          case atStart => exact hR3.out
          case round =>
            obtain ⟨Z, ps, nx, pv, P, S, hrs, hrep, hh, hmi, hpl, hfin, hkk, hkb, hxr, hk9, hbel⟩ := hrel
            have hxc := hxr.cell
            obtain ⟨A4, c4, rfl⟩ := own_form hrs.hZ
            have hc4 := hrs.hb.cell 4
            have hc0 := hrs.hb.cell 0
            simp at hc4 hc0
            rcases Nat.eq_zero_or_pos S.length with h0 | h0
            · obtain rfl : S = [] := List.eq_nil_of_length_eq_zero h0
              have hFF := Lib.hid (hfin P hmi.last)
              have hP := hrs.hP
              have hn1 : ps.length = (singles wd).length := by rw [hpl, hsl]
              rw [hn1] at hP
              have KD := delete_parts w.heap.size A1 (singles wd).length c1 ps P wr hn1 (by rw [hsl]; exact hwd) hrep.ne hrep.ps_eq hP hbel.size
              have hsl' := hsl
              obtain ⟨LL, hLL⟩ : ∃ n, (singles wd).length = n := ⟨_, rfl⟩
              rw [hLL] at hc0 KD
              clear hrs hrep hh hmi h0 hfin hpl hkk hP hn1 hsl' hsl hLL
              simp only [List.length_nil] at hc4
              go_wp2_with (go_at_call 47; (with_reducible refine KD.mono ?_); rintro e w5 ⟨v, rfl, ho5, hk5, hb5⟩)
              have hd5 := (hk9.trans hk5) D _ HK.out (.inl rfl)
              have hg5 := grownBy_putObj' w5 D (.deferred none)
              have ho6 : (w5.putObj D (.deferred none)).ownsRow w.heap.size 9 1 v P.length (tcells P) := by
                refine ho5.kept hg5 (.inr (fun e => ?_))
                rcases ho5.2 with ⟨rfl, _⟩ | ⟨g', c', cur, rfl, _, hg', _⟩
                · simp [Value.ownBlock] at e
                · simp only [Value.ownBlock, Option.some.injEq] at e
                  subst e
                  rw [hd5] at hg'
                  cases hg'
              have hb6 : Below w.heap.size w (w5.putObj D (.deferred none)) := (hbel.trans hb5).trans (belowK_b (w := w) (Nat.le_refl _) w5 D _ _ (by have := HD.out; have := HS.out; omega) hd5 rfl rfl)
              clear KD hc0 hc4 hxc
              go_wp2
              refine ⟨by simp, .inl ⟨_, _, rfl, run_takeDeferred hd5, ?_⟩⟩
              exact ⟨_, results_tmp rfl _ _ _, v, P, rfl, ho6, hFF.out, hb6⟩
            · have KR := round_any (rkL 0 l) (rkL_inj l 0) w.heap.size R n H _ _ _ _ ps nx pv P S wr hrs hrep hh hmi h0 (by omega) (by rw [hpl]; exact hwd)
              rw [hkk] at KR
              obtain ⟨ns, hns⟩ : ∃ n, S.length = n := ⟨_, rfl⟩
              rw [hns] at hc4
              have z1 : (0 : Int) < (ns : Int) := by omega
              have HFIN := Lib.hid hfin
              have HPL := Lib.hid hpl
              clear hrs hrep hh hmi h0 hfin hpl hkk hns
              go_wp2_with (go_at_call 46; (with_reducible refine KR.mono ?_); rintro e w4 ⟨rfl, Z', ps', nx', pv', P', S', hrs', hrep', hh', hmi', hpl', hfin', hlt', hbel', hk9'⟩)
              go_roundg (S'.length + 3 * P'.length)
              case rel => exact ⟨Z', ps', nx', pv', P', S', hrs', hrep', hh', hmi', by rw [hpl']; exact HPL.out, fun T h => HFIN.out T (hfin' T h), rfl, by omega, box9 hxr hk9', hk9.trans hk9', hbel.trans hbel'⟩
              case measure => omega
  case hstop => exact fun D c pre W _ _ h _ => h.elim
end Go.Proofs.YtejokbfejkkpmaaDoor
