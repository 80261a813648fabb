/- A disk in memory; sector.blank, Size, has, Off, step, full, Read, walked. -/
import Derived.Test.YtcmcdddnckcpcaaGreatDoorKt
namespace Go.Proofs.YtcmcdddnckcpcaaGreatDoor
open Go.RowKit
/-- A sector of noughts. -/
def zeroS : Bs := List.replicate 512 0
/-- Data with noughts behind it. -/
def fullB (d : Bs) : Bs := d ++ List.replicate (512 - d.length) 0
/-- What is written, in order, over what lasts. -/
def overlay (L : List Bs) (S : List (Nat × Bs)) : List Bs := S.foldl (fun L x => L.set x.1 x.2) L
def scells (S : List (Nat × Bs)) : List Value := S.flatMap fun x => [.int .i64 x.1, .string (mk x.2)]
theorem overlay_length (S : List (Nat × Bs)) : ∀ L, (overlay L S).length = L.length := by
  induction S with
  | nil => intro L; rfl
  | cons x S ih => intro L; unfold overlay at ih ⊢; rw [List.foldl_cons, ih, List.length_set]
theorem overlay_snoc (L : List Bs) (S : List (Nat × Bs)) (x : Nat × Bs) : overlay L (S ++ [x]) = (overlay L S).set x.1 x.2 := by simp [overlay]
theorem scells_length (S : List (Nat × Bs)) : (scells S).length = S.length * 2 := by
  induction S with
  | nil => rfl
  | cons x S ih => unfold scells at ih ⊢; rw [List.flatMap_cons, List.length_append, ih]; simp; omega
theorem scells_at (S : List (Nat × Bs)) : ∀ j (h : j < S.length), (scells S)[j * 2]? = some (.int .i64 S[j].1) ∧ (scells S)[j * 2 + 1]? = some (.string (mk S[j].2)) := by
  induction S with
  | nil => intro j h; simp at h
  | cons x S ih =>
    intro j h
    have e : scells (x :: S) = .int .i64 x.1 :: .string (mk x.2) :: scells S := by unfold scells; rfl
    rw [e]
    cases j with
    | zero => exact ⟨rfl, rfl⟩
    | succ j =>
      have := ih j (by simpa using h)
      rw [show (j + 1) * 2 = j * 2 + 1 + 1 by omega]
      simpa using this
theorem scells_snoc (S : List (Nat × Bs)) (x : Nat × Bs) : scells (S ++ [x]) = scells S ++ [.int .i64 x.1, .string (mk x.2)] := by simp [scells]
/-- All is as it was but for blocks of X and new ones; what is in X' was in X, or is new. -/
structure Mv (X X' : List Nat) (w w' : World) : Prop where
  frm : Frm X w w'
  sub : ∀ x ∈ X', x ∈ X ∨ w.heap.size ≤ x
theorem Mv.of_frm {X : List Nat} {w w' : World} (h : Frm X w w') : Mv X X w w' := ⟨h, fun _ h => .inl h⟩
theorem Mv.refl (X : List Nat) (w : World) : Mv X X w w := .of_frm (Frm.refl X w)
theorem Mv.of_below (X : List Nat) {w w' : World} (h : Below w.heap.size w w') : Mv X X w w' := .of_frm (Frm.of_below X h)
theorem Mv.trans {X Y Z : List Nat} {a b c : World} (h : Mv X Y a b) (k : Mv Y Z b c) : Mv X Z a c :=
  ⟨h.frm.trans k.frm h.sub, fun z hz => (k.sub z hz).elim (h.sub z) (fun hh => .inr (Nat.le_trans h.frm.size hh))⟩
theorem Mv.drew {X Y : List Nat} {a b : World} (h : Mv X Y a b) : Mv X Y a b.drew := ⟨h.frm.drew, h.sub⟩
theorem Mv.alloc {X Y : List Nat} {a b : World} (h : Mv X Y a b) (o : Obj) : Mv X Y a (b.alloc o) := ⟨h.frm.alloc o, h.sub⟩
theorem Mv.below {X Y : List Nat} {a b c : World} (h : Mv X Y a b) (k : Below b.heap.size b c) : Mv X Y a c := h.trans (.of_below _ k)
theorem Mv.size {X Y : List Nat} {a b : World} (h : Mv X Y a b) : a.heap.size ≤ b.heap.size := h.frm.size
theorem Mv.blk {X Y : List Nat} {w w' : World} (h : Mv X Y w w') {b : Nat} {cs : Array Value} {e : TypeId} (hb : Blk w b cs e) (hx : b ∉ X) : Blk w' b cs e := h.frm.blk hb hx
/-- A disk: what lasts, what was written since; the loss of power that is set (how many commands are left, what is kept); is its power off? -/
structure DS where
  L : List Bs
  S : List (Nat × Bs)
  cut : Option (Nat × List Int)
  off : Bool
def keptI (keep : List Int) (k : Nat) : Bool := decide (0 < keep.length) && (bits .and .i64 (keep.getD (k % keep.length) 0) 1 == 1)
/-- Of what was written just that with p lasts. -/
def overK (p : Nat → Bool) : Nat → List Bs → List (Nat × Bs) → List Bs
  | _, L, [] => L
  | k, L, x :: S => overK p (k + 1) (if p k then L.set x.1 x.2 else L) S
theorem overK_snoc (p : Nat → Bool) (x : Nat × Bs) : ∀ (S : List (Nat × Bs)) (k : Nat) (L : List Bs), overK p k L (S ++ [x]) = if p (k + S.length) then (overK p k L S).set x.1 x.2 else overK p k L S := by
  intro S
  induction S with
  | nil => intro k L; simp [overK]
  | cons y S ih => intro k L; rw [List.cons_append, overK, ih, List.length_cons, show k + 1 + S.length = k + (S.length + 1) by omega]; rfl
theorem overK_length (p : Nat → Bool) : ∀ (S : List (Nat × Bs)) (k : Nat) (L : List Bs), (overK p k L S).length = L.length := by
  intro S
  induction S with
  | nil => intro k L; rfl
  | cons x S ih => intro k L; rw [overK, ih]; split <;> simp
theorem overK_good (p : Nat → Bool) (n : Nat) : ∀ (S : List (Nat × Bs)) (k : Nat) (L : List Bs), (∀ x ∈ L, x.length = 512) → (∀ x ∈ S, x.1 < n ∧ x.2.length = 512) → ∀ x ∈ overK p k L S, x.length = 512 := by
  intro S
  induction S with
  | nil => intro k L h _; exact h
  | cons y S ih =>
    intro k L h hS
    rw [overK]
    refine ih _ _ (fun x hx => ?_) (fun z hz => hS z (List.mem_cons_of_mem _ hz))
    split at hx
    · rcases List.mem_or_eq_of_mem_set hx with hx | rfl
      · exact h x hx
      · exact (hS y (List.mem_cons_self ..)).2
    · exact h x hx
def DS.fail (d : DS) (keep : List Int) : DS := ⟨overK (keptI keep) 0 d.L d.S, [], none, true⟩
/-- A command: the error's number, and the disk. -/
def DS.step (d : DS) : Nat × DS :=
  if d.off then (7, d) else match d.cut with
  | none => (0, d)
  | some (n, keep) => if n = 1 then (7, d.fail keep) else (0, ⟨d.L, d.S, some (n - 1, keep), false⟩)
def DS.write (d : DS) (i : Nat) (b : Bs) : Nat × DS := if d.step.1 = 0 then (0, ⟨d.step.2.L, d.step.2.S ++ [(i, fullB b)], d.step.2.cut, d.step.2.off⟩) else d.step
def DS.sync (d : DS) : Nat × DS := if d.step.1 = 0 then (0, ⟨overlay d.step.2.L d.step.2.S, [], d.step.2.cut, d.step.2.off⟩) else d.step
/-- What is read. -/
def DS.vis (d : DS) : List Bs := overlay d.L d.S
structure DGood (d : DS) : Prop where
  lasts : ∀ x ∈ d.L, x.length = 512
  wrote : ∀ x ∈ d.S, x.1 < d.L.length ∧ x.2.length = 512
  small : d.L.length ≤ 4096
def icells (l : List Int) : List Value := l.map fun i => .int .i64 i
/-- The loss of power that is set. -/
def CutAt (w : World) (X : List Nat) (v : Value) : Option (Nat × List Int) → Prop
  | none => v = .pointer none
  | some (n, keep) => 1 ≤ n ∧ n ≤ 9223372036854775807 ∧ keep.length ≤ 9223372036854775807 ∧ ∃ C A c, v = .pointer (some ⟨C, 0, none⟩) ∧ C ∈ X ∧ Blk w C #[.int .i64 n, .slice A keep.length c] 115 ∧ Lies w A (icells keep) ∧ Typed w A 3 ∧ ∀ a, A = some a → a.block ∈ X
/-- The disk of block D, over blocks of X. -/
structure Dsk (w : World) (X : List Nat) (D : Nat) (d : DS) : Prop where
  blk : ∃ gL cL vS vC cnt, Blk w D #[.slice (some ⟨gL, 0, none⟩) d.L.length cL, vS, vC, .bool d.off, .int .i64 cnt] 123 ∧ w.ownsRow 0 9 1 (.slice (some ⟨gL, 0, none⟩) d.L.length cL) d.L.length (txc d.L) ∧
    w.ownsRow 0 141 2 vS d.S.length (scells d.S) ∧ CutAt w X vC d.cut ∧ gL ∈ X ∧ ∀ g, vS.ownBlock = some g → g ∈ X
  good : DGood d
  mem : D ∈ X
  lt : ∀ x ∈ X, x < w.heap.size
theorem Typed.frm {X : List Nat} {w w' : World} (h : Frm X w w') {A : Option Addr} {e : TypeId} (ht : Typed w A e) (hx : ∀ a, A = some a → a.block ∉ X) : Typed w' A e := by
  intro a ha
  obtain ⟨cs, fr, hc⟩ := ht a ha
  exact ⟨cs, fr, (h.block _ (Array.getElem?_eq_some_iff.1 hc).1 (hx a ha)).trans hc⟩
theorem CutAt.frm {X Y : List Nat} {w w' : World} (h : Frm Y w w') {v : Value} {o : Option (Nat × List Int)} (hc : CutAt w X v o) (hx : ∀ x ∈ X, x ∉ Y) : CutAt w' X v o := by
  cases o with
  | none => exact hc
  | some p =>
    obtain ⟨n, keep⟩ := p
    obtain ⟨h1, h2, h3, C, A, c, h4, h5, h6, h7, h8, h9⟩ := hc
    exact ⟨h1, h2, h3, C, A, c, h4, h5, h.blk h6 (hx _ h5), h.lies h7 (fun a ha => hx _ (h9 a ha)), h8.frm h (fun a ha => hx _ (h9 a ha)), h9⟩
/-- The disk stays as it is where other blocks change. -/
theorem Dsk.frm {X Y : List Nat} {w w' : World} {D : Nat} {d : DS} (h : Dsk w X D d) (hf : Frm Y w w') (hx : ∀ x ∈ X, x ∉ Y) : Dsk w' X D d := by
  obtain ⟨gL, cL, vS, vC, cnt, hB, hL, hS, hC, hg, hv⟩ := h.blk
  exact ⟨⟨gL, cL, vS, vC, cnt, hf.blk hB (hx _ h.mem), hf.row hL (fun g e => by simp only [Value.ownBlock, Option.some.injEq] at e; subst e; exact hx _ hg), hf.row hS (fun g e => hx _ (hv g e)), hC.frm hf hx, hg, hv⟩, h.good, h.mem, fun x hx => Nat.lt_of_lt_of_le (h.lt x hx) hf.size⟩
theorem Dsk.below {X : List Nat} {w w' : World} {D : Nat} {d : DS} (h : Dsk w X D d) (hb : Below w.heap.size w w') : Dsk w' X D d := h.frm (Frm.of_below [] hb) (fun _ _ => by simp)
/-- Blocks that are apart from the disk stay apart. -/
theorem Mv.apart {X X' : List Nat} {w w' : World} (h : Mv X X' w w') {b : Nat} (hb : b ∉ X) (hl : b < w.heap.size) : b ∉ X' := fun hx => (h.sub b hx).elim hb (fun hh => by omega)
theorem mk_app (a b : Bs) : mk a ++ mk b = mk (a ++ b) := by
  rw [← mk_list (mk a ++ mk b)]
  congr 1
theorem run_sum (a b : Bs) (h : a.length + b.length ≤ 1099511627776) (w : World) : (Op.stringOp .add (mk a) (mk b)).run Tryz.prog w = .ok (.string (mk (a ++ b))) w := by
  have h1 : (mk a).size = a.length := mk_size _
  have h2 : (mk b).size = b.length := mk_size _
  have h3 := mk_app a b
  obtain ⟨X, hX⟩ : ∃ X, mk a = X := ⟨_, rfl⟩
  obtain ⟨Y, hY⟩ : ∃ X, mk b = X := ⟨_, rfl⟩
  rw [hX] at h1 h3 ⊢
  rw [hY] at h2 h3 ⊢
  rw [← h3]
  have h4 : X.size + Y.size ≤ 9223372036854775807 := by omega
  clear hX hY h1 h2 h3
  go_simp
theorem ext_mk' (s : ByteArray) (a b : Nat) : s.extract a (a + b) = mk ((s.data.toList.drop a).take b) := by
  apply ByteArray.ext
  rw [ByteArray.data_extract]
  apply Array.toList_inj.1
  simp [mk, List.extract_eq_take_drop]
theorem repeat_zero : ∀ n, Lib.repeatL [0] n = List.replicate n 0
  | 0 => rfl
  | n + 1 => by rw [Lib.repeatL, repeat_zero n, List.replicate_succ]; rfl
theorem blank_any (w : World) : Calls Tryz.prog 62 #[] w fun e w' => e = .returned (.string (mk zeroS)) ∧ Below w.heap.size w w' := by
  have hr : (⟨(Lib.repeatL (ByteArray.data ⟨#[0]⟩).toList 512).toArray⟩ : ByteArray) = mk zeroS := by
    rw [show (ByteArray.data ⟨#[0]⟩).toList = [0] from rfl, repeat_zero]; rfl
  have K := fun w => Tryz.strings_Repeat ⟨#[0]⟩ 512 w (by decide) (by decide)
  rw [hr] at K
  go_enter Tryz.func62, Tryz.ntmps62
  go_wp2_with (go_at_call 103; refine (K _).mono ?_; rintro e w1 ⟨rfl, hb⟩)
  go_wp2
  go_ret
  exact ⟨rfl, hb⟩
theorem drop_zero (k : Nat) : zeroS.drop k = List.replicate (512 - k) 0 := by unfold zeroS; rw [List.drop_replicate]
theorem full_any (d : Bs) (w : World) (h : d.length ≤ 512) : Calls Tryz.prog 72 #[.string (mk d)] w fun e w' => e = .returned (.string (mk (fullB d))) ∧ Below w.heap.size w w' := by
  have K := blank_any w
  have zr : (mk zeroS).size = 512 := by rw [mk_size]; unfold zeroS; rw [List.length_replicate]
  have zd : (mk d).size = d.length := mk_size d
  have hsl := fun (w : World) => run_slice_string_l (P := Tryz.prog) (w := w) (t := 9) (s := mk zeroS) Tryz.underlying9 .i64 (d.length : Int) (by omega) (by rw [zr]; omega)
  rw [show ((d.length : Int)).toNat = d.length by omega, show (mk zeroS).extract d.length (mk zeroS).size = mk (List.replicate (512 - d.length) 0) by
    have := ext_mk' (mk zeroS) d.length (512 - d.length)
    rw [show d.length + (512 - d.length) = (mk zeroS).size by rw [zr]; omega, mk_data, drop_zero, List.take_of_length_le (by simp)] at this
    exact this] at hsl
  have hsum := run_sum d (List.replicate (512 - d.length) 0) (by simp; omega)
  have hf : d ++ List.replicate (512 - d.length) 0 = fullB d := rfl
  rw [hf] at hsum
  obtain ⟨X, hX⟩ : ∃ X, mk d = X := ⟨_, rfl⟩
  obtain ⟨Z, hZ⟩ : ∃ X, mk zeroS = X := ⟨_, rfl⟩
  obtain ⟨Y, hY⟩ : ∃ X, mk (List.replicate (512 - d.length) 0) = X := ⟨_, rfl⟩
  obtain ⟨R, hR⟩ : ∃ X, mk (fullB d) = X := ⟨_, rfl⟩
  obtain ⟨k, hk⟩ : ∃ k, d.length = k := ⟨_, rfl⟩
  rw [hX, hk] at zd
  rw [hZ, hY, hk] at hsl
  rw [hX, hY, hR] at hsum
  rw [hZ] at K
  rw [hX, hR]
  clear hX hZ hY hR hk hf zr h
  go_enter Tryz.func72, Tryz.ntmps72
  go_wp2_with (go_at_call 62; refine K.mono ?_; rintro e w1 ⟨rfl, hb⟩)
  go_wp2
  go_ret
  exact ⟨rfl, hb⟩
/-- The row of what was written, cell by cell. -/
theorem since_at {w : World} {B m : Nat} {v : Value} {S : List (Nat × Bs)} (h : w.ownsRow B 141 2 v m (scells S)) (hm : S.length = m) (j : Nat) (hj : j < S.length) : ∃ g c, v = .slice (some ⟨g, 0, none⟩) m c ∧ w.cell? ⟨g, j * 2, none⟩ = some (.int .i64 S[j].1) ∧ w.cell? ⟨g, j * 2 + 1, none⟩ = some (.string (mk S[j].2)) := by
  obtain ⟨g, cap, rfl, _, _⟩ := h.form (by omega)
  obtain ⟨h0, h1⟩ := scells_at S j hj
  refine ⟨g, cap, rfl, ?_, ?_⟩
  · rw [h.cellAt (j * 2) (by omega)]; exact h0
  · rw [h.cellAt (j * 2 + 1) (by omega)]; exact h1
theorem over_drop (L : List Bs) (S : List (Nat × Bs)) (i : Nat) (h : ∀ x ∈ S, x.1 ≠ i) : (overlay L S)[i]? = L[i]? := by
  induction S generalizing L with
  | nil => rfl
  | cons x S ih =>
    unfold overlay at ih ⊢
    rw [List.foldl_cons, ih _ (fun y hy => h y (List.mem_cons_of_mem _ hy)), List.getElem?_set_ne (h x (List.mem_cons_self ..))]
theorem over_hit (L : List Bs) (S : List (Nat × Bs)) (i j : Nat) (hj : j < S.length) (he : S[j].1 = i) (h : ∀ k (hk : k < S.length), j < k → S[k].1 ≠ i) (hi : i < L.length) : (overlay L S)[i]? = some S[j].2 := by
  have e : S = S.take j ++ S[j] :: S.drop (j + 1) := by rw [← List.drop_eq_getElem_cons hj, List.take_append_drop]
  have e2 : overlay L S = overlay ((overlay L (S.take j)).set i S[j].2) (S.drop (j + 1)) := by
    conv => lhs; rw [e]
    unfold overlay
    rw [List.foldl_append, List.foldl_cons, he]
  rw [e2, over_drop _ _ _ (fun x hx => ?_), List.getElem?_set_self (by rw [overlay_length]; exact hi)]
  obtain ⟨k, hk, rfl⟩ := List.getElem_of_mem hx
  rw [List.getElem_drop]
  exact h _ _ (by omega)
theorem add_any (a : Addr) (n : Int) (w : World) (hc : w.cell? a = some (.int .i64 n)) (hz : w.frozen? a = false) :
    Calls Tryz.prog 121 #[.pointer (some a), .int .i64 1] w fun e w' => (∃ v, e = .returned v) ∧ w' = w.setCell a (.int .i64 (wrap64 (n + 1))) := by
  have hadd := run_call_add (P := Tryz.prog) Tryz.func146 (by kernel_rfl) (by kernel_rfl) (by kernel_rfl) .i64 (by kernel_rfl) (y := 1) (s := wrap64 (n + 1)) hc hz (by simp [go_sem]; exact Go.IntWalk.i64_left _)
  go_enter Tryz.func121, Tryz.ntmps121
  go_wp2
  go_ret
  exact ⟨⟨_, rfl⟩, rfl⟩
theorem size_any (X : List Nat) (D : Nat) (d : DS) (w : World) (h : Dsk w X D d) : Calls Tryz.prog 53 #[.pointer (some ⟨D, 0, none⟩)] w fun e w' => e = .returned (.int .i64 (d.L.length : Nat)) ∧ w' = w := by
  obtain ⟨gL, cL, vS, vC, cnt, hB, _⟩ := h.blk
  have x0 := hB.cell 0
  simp at x0
  obtain ⟨n, hn⟩ : ∃ n, d.L.length = n := ⟨_, rfl⟩
  rw [hn] at x0 ⊢
  clear h hB hn
  go_enter Tryz.func53, Tryz.ntmps53
  go_wp2
  go_ret
  exact ⟨rfl, rfl⟩
theorem has_any (X : List Nat) (D : Nat) (d : DS) (i : Int) (w : World) (h : Dsk w X D d) : Calls Tryz.prog 71 #[.pointer (some ⟨D, 0, none⟩), .int .i64 i] w fun e w' => e = .returned (.bool (decide (0 ≤ i ∧ i < d.L.length))) ∧ w' = w := by
  have K := size_any X D d w h
  obtain ⟨n, hn⟩ : ∃ n, d.L.length = n := ⟨_, rfl⟩
  rw [hn] at K ⊢
  clear h hn
  by_cases h0 : 0 ≤ i
  · go_enter Tryz.func71, Tryz.ntmps71
    go_wp2_with (go_at_call 53; refine K.mono ?_; rintro e w1 ⟨rfl, rfl⟩)
    go_wp2
    go_ret
    exact ⟨by simp [h0], rfl⟩
  · go_enter Tryz.func71, Tryz.ntmps71
    go_wp2
    go_ret
    exact ⟨by simp; omega, rfl⟩
theorem off_any (X : List Nat) (D : Nat) (d : DS) (w : World) (h : Dsk w X D d) : Calls Tryz.prog 82 #[.pointer (some ⟨D, 0, none⟩)] w fun e w' => e = .returned (.bool d.off) ∧ w' = w := by
  obtain ⟨gL, cL, vS, vC, cnt, hB, _⟩ := h.blk
  have x0 := hB.cell 3
  simp at x0
  obtain ⟨o, ho⟩ : ∃ o, d.off = o := ⟨_, rfl⟩
  rw [ho] at x0 ⊢
  clear h hB ho
  go_enter Tryz.func82, Tryz.ntmps82
  go_wp2
  go_ret
  exact ⟨rfl, rfl⟩
theorem len63 {w : World} {B e size n : Nat} {v : Value} {xs : List Value} (h : w.ownsRow B e size v n xs) : n ≤ 9223372036854775807 := by
  rcases h.2 with ⟨_, e⟩ | ⟨g, c', cur, _, _, _, e, e2, _⟩
  · omega
  · unfold maxLen at e2; omega
set_option maxHeartbeats 1000000 in
theorem read_any (X : List Nat) (D : Nat) (d : DS) (i : Nat) (w : World) (h : Dsk w X D d) (hi : i < d.L.length) (hoff : d.off = false) :
    Calls Tryz.prog 33 #[.pointer (some ⟨D, 0, none⟩), .int .i64 i] w fun e w' => e = .returned (.tuple #[.string (mk (d.vis[i]?.getD [])), .int .i64 0]) ∧ w' = w := by
  have K := has_any X D d i w h
  rw [show decide (0 ≤ (i : Int) ∧ (i : Int) < d.L.length) = true by simp; omega] at K
  obtain ⟨gL, cL, vS, vC, cnt, hB, hL, hSr, _⟩ := h.blk
  have x0 := hB.cell 0
  have x1 := hB.cell 1
  have x3 := hB.cell 3
  simp at x0 x1 x3
  rw [hoff] at x3
  unfold DS.vis
  obtain ⟨L, hLe⟩ : ∃ L, d.L = L := ⟨_, rfl⟩
  obtain ⟨S, hSe⟩ : ∃ L, d.S = L := ⟨_, rfl⟩
  rw [hLe] at hi hL x0
  rw [hSe] at hSr
  rw [hLe, hSe]
  obtain ⟨n, hn⟩ : ∃ n, L.length = n := ⟨_, rfl⟩
  rw [hn] at hi hL x0
  have hl : w.cell? ⟨gL, i, none⟩ = some (.string (mk (L[i]?.getD []))) := by
    rw [hL.cellAt i (by omega), txc_at L i (by omega), List.getElem?_eq_getElem (by omega)]; rfl
  have HOV := Lib.hid (over_drop L S i)
  have HOH := Lib.hid (fun j hj he hk => over_hit L S i j hj he hk (by omega))
  obtain ⟨m, hm⟩ : ∃ m, S.length = m := ⟨_, rfl⟩
  rw [hm] at hSr
  obtain ⟨A, c, hvS⟩ : ∃ A c, vS = .slice A m c := row_form hSr
  rw [hvS] at x1 hSr
  have hm63 : m ≤ 9223372036854775807 := len63 hSr
  have HR := Lib.hid hSr
  have HM := Lib.hid hm
  obtain ⟨V, hV⟩ : ∃ V, mk ((overlay L S)[i]?.getD []) = V := ⟨_, rfl⟩
  rw [hV]
  have HV := Lib.hid hV
  clear h hB hL hvS hm hV hSr hLe hSe hn hoff
  have i0 : (0 : Int) ≤ (i : Int) := by omega
  have i1 : (i : Int) < (n : Int) := by omega
  go_enter Tryz.func33, Tryz.ntmps33
  go_wp2_with (go_at_call 71; refine K.mono ?_; rintro e w1 ⟨rfl, hw⟩; obtain rfl := hw.symm)
  go_loopw [6] (fun kv wr => ∃ k : Nat, k ≤ m ∧ kv = .int .i64 ((k : Int) - 1) ∧ (∀ j (hj : j < S.length), k ≤ j → S[j].1 ≠ i) ∧ wr = w) (fun kv _ => (intOf kv + 1).toNat)
  case atStart => exact ⟨m, Nat.le_refl _, rfl, fun j hj hk => by have := HM.out; omega, rfl⟩
  case round =>
    obtain ⟨k, hk, rfl, hno, rfl⟩ := hrel
    have HNO := Lib.hid hno
    clear hno
    cases k with
    | zero =>
      have hv : (overlay L S)[i]?.getD [] = L[i]?.getD [] := by rw [HOV.out (fun x hx => by obtain ⟨j, hj, rfl⟩ := List.getElem_of_mem hx; exact HNO.out j hj (by omega))]
      rw [← hv, HV.out] at hl
      clear hv
      go_wp2
      go_ret2
      exact ⟨rfl, rfl⟩
    | succ k =>
      have hkl : k < S.length := by have := HM.out; omega
      obtain ⟨g, c', hA, s0, s1⟩ := since_at HR.out HM.out k hkl
      injection hA with hA1 _ hA3
      subst hA1 hA3
      have e1 : ((k + 1 : Nat) : Int) - 1 = (k : Int) := by omega
      rw [e1]
      have k0 : (0 : Int) ≤ (k : Int) := by omega
      have k1 : (k : Int) < (m : Int) := by omega
      by_cases he : S[k].1 = i
      · have hv : (overlay L S)[i]?.getD [] = S[k].2 := by rw [HOH.out k hkl he (fun j hj hjk => HNO.out j hj (by omega))]; rfl
        rw [he] at s0
        rw [← hv, HV.out] at s1
        clear hv e1 he
        go_wp2
        go_ret2
        exact ⟨rfl, rfl⟩
      · have hne : ¬ ((S[k].1 : Int) = (i : Int)) := by omega
        have hne2 : ((S[k].1 : Int) == (i : Int)) = false := beq_eq_false_iff_ne.2 hne
        have HNO2 := Lib.hid (show ∀ j (hj : j < S.length), k ≤ j → S[j].1 ≠ i from fun j hj hkj => by
          by_cases e : j = k
          · subst e; exact he
          · exact HNO.out j hj (by omega))
        obtain ⟨z, hz⟩ : ∃ z, S[k].1 = z := ⟨_, rfl⟩
        rw [hz] at s0 hne hne2
        clear he hz e1 s1
        go_wp2
        go_roundw
        case rel => exact ⟨k, by omega, rfl, HNO2.out, trivial⟩
        case measure => simp [intOf]
end Go.Proofs.YtcmcdddnckcpcaaGreatDoor
