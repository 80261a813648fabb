/- A store of files in memory; ready, find, walked. -/
import Derived.Test.YtcmcdddnckcpcaaGreatDoorFm
import Derived.Test.YtcmcdddnckcpcaaGreatDoorTk
namespace Go.Proofs.YtcmcdddnckcpcaaGreatDoor
open Go.RowKit Go.Maps
/-- A store: its disk, its files, which units are taken, how many files there may be; is it off? -/
structure StoM where
  ds : DS
  F : List FileM
  T : List Bool
  most : Nat
  off : Bool
/-- A file's extents lie where ad says, in blocks that are not of X. -/
def Exts (w : World) (X : List Nat) (ad : AdM) (F : List FileM) : Prop := ∀ f ∈ F, Lies w (ad f.name).1 (ecells f.ext) ∧ Typed w (ad f.name).1 90 ∧ ∀ a, (ad f.name).1 = some a → a.block ∉ X
abbrev stoCells (D Lg M : Nat) (T : List Bool) (most : Nat) (off : Bool) : Array Value := #[.pointer (some ⟨D, 0, none⟩), .pointer (some ⟨Lg, 0, none⟩), .int .i64 T.length, .string (mk (packB T)), .map (some M), .int .i64 most, .bool off]
/-- The store of block S: its disk D over blocks of X, its log Lg, its map M. -/
structure Sto (w : World) (X : List Nat) (S D Lg M : Nat) (m : StoM) : Prop where
  blk : Blk w S (stoCells D Lg M m.T m.most m.off) 79
  dsk : Dsk w X D m.ds
  log : WLog w Lg D (2 + m.most) 5
  map : ∃ ad, FM w M ad m.F ∧ Exts w X ad m.F
  apart : S ∉ X ∧ Lg ∉ X ∧ M ∉ X ∧ 0 ∉ X
  tb : TB w
  pos : 0 < w.heap.size
theorem Exts.mv {w w' : World} {X X' : List Nat} {ad : AdM} {F : List FileM} (h : Exts w X ad F) (hm : Mv X X' w w') : Exts w' X' ad F := by
  intro f hf
  obtain ⟨h1, h2, h3⟩ := h f hf
  refine ⟨hm.lies h1 h3, h2.frm hm.frm h3, fun a ha => ?_⟩
  obtain ⟨cs, fr, hc⟩ := h2 a ha
  exact hm.apart (h3 a ha) (Array.getElem?_eq_some_iff.1 hc).1
/-- A block of other cells is written. -/
theorem Exts.grown {w w' : World} {X : List Nat} {ad : AdM} {F : List FileM} {r : Option Nat} (h : Exts w X ad F) (hg : w.grownBy w' r) (hr : ∀ g, r = some g → ∀ c fr, w.heap[g]? ≠ some (.cells c 90 fr)) : Exts w' X ad F := by
  intro f hf
  obtain ⟨h1, h2, h3⟩ := h f hf
  have hne : ∀ a, (ad f.name).1 = some a → some a.block ≠ r := fun a ha he => by
    obtain ⟨cs, fr, hc⟩ := h2 a ha
    exact hr a.block he.symm cs fr hc
  refine ⟨fun h0 => ?_, fun a ha => ?_, h3⟩
  · obtain ⟨g, o, hA, hl, hc⟩ := h1 h0
    have := hg.block g hl (hne _ hA)
    exact ⟨g, o, hA, Nat.lt_of_lt_of_le hl hg.size, fun j u hu => (World.cell?_of_block (a := ⟨g, o + j, none⟩) this).trans (hc j u hu)⟩
  · obtain ⟨cs, fr, hc⟩ := h2 a ha
    exact ⟨cs, fr, (hg.block _ (Array.getElem?_eq_some_iff.1 hc).1 (hne a ha)).trans hc⟩
/-- The store stays as it is where its disk alone changes. -/
theorem Sto.disk {w w' : World} {X X' : List Nat} {S D Lg M : Nat} {m : StoM} {d : DS} (h : Sto w X S D Lg M m) (hd : Dsk w' X' D d) (hm : Mv X X' w w') : Sto w' X' S D Lg M ⟨d, m.F, m.T, m.most, m.off⟩ := by
  obtain ⟨ad, h1, h2⟩ := h.map
  obtain ⟨a1, a2, a3, a4⟩ := h.apart
  exact ⟨hm.blk h.blk a1, hd, hm.blk h.log a2, ⟨ad, h1.block (hm.frm.block M h1.lt a3), h2.mv hm⟩, ⟨hm.apart a1 (Blk.lt h.blk), hm.apart a2 (Blk.lt h.log), hm.apart a3 h1.lt, hm.apart a4 h.pos⟩, (h.tb.mv hm h.pos a4).1, Nat.lt_of_lt_of_le h.pos hm.size⟩
theorem Sto.below {w w' : World} {X : List Nat} {S D Lg M : Nat} {m : StoM} (h : Sto w X S D Lg M m) (hb : Below w.heap.size w w') : Sto w' X S D Lg M m := h.disk (h.dsk.below hb) (.of_below X hb)
/-- The store's own block and its map. -/
theorem Sto.ne {w : World} {X : List Nat} {S D Lg M : Nat} {m : StoM} (h : Sto w X S D Lg M m) : Lg ≠ S ∧ M ≠ S ∧ M ≠ Lg := by
  obtain ⟨ad, h1, h2⟩ := h.map
  refine ⟨fun e => ?_, fun e => (h1.not_cells h.blk) e.symm, fun e => (h1.not_cells h.log) e.symm⟩
  have a := h.blk
  have b := h.log
  unfold WLog Blk at b
  unfold Blk at a
  rw [e] at b
  rw [a] at b
  simp at b
/-- Cell 5 or cells 2, 3 of the store's block are set. -/
theorem Sto.own {w : World} {X : List Nat} {S D Lg M : Nat} {m : StoM} (h : Sto w X S D Lg M m) {w' : World} {T : List Bool} {off : Bool} (hg : w.grownBy w' (some S)) (hB : Blk w' S (stoCells D Lg M T m.most off) 79) : Sto w' X S D Lg M ⟨m.ds, m.F, T, m.most, off⟩ := by
  obtain ⟨ad, h1, h2⟩ := h.map
  obtain ⟨a1, a2, a3, a4⟩ := h.apart
  obtain ⟨n1, n2, _⟩ := h.ne
  have hfr : Frm [S] w w' := ⟨hg.os, hg.tape, hg.output, hg.size, fun k hk hx => hg.block k hk (by simpa using hx)⟩
  refine ⟨hB, h.dsk.frm hfr (fun x hx e => a1 (by simp at e; rwa [← e])), hfr.blk h.log (by simpa using n1), ⟨ad, h1.kept hg (by simpa using n2), h2.grown hg (fun g e c fr hc => ?_)⟩, ⟨a1, a2, a3, a4⟩, fun k hk => ?_, Nat.lt_of_lt_of_le h.pos hg.size⟩
  · cases e
    have a := h.blk
    unfold Blk at a
    rw [a] at hc
    simp at hc
  · refine (hfr.cell (p := ⟨0, k, none⟩) h.pos ?_).trans (h.tb k hk)
    intro e
    simp at e
    subst e
    have a := h.blk.cell k
    rw [h.tb k hk] at a
    have hl := List.getElem?_eq_some_iff.1 (by simpa using a.symm : (stoCells D Lg M m.T m.most m.off).toList[k]? = some _)
    obtain ⟨hk7, he⟩ := hl
    simp at hk7
    match k, hk7 with
    | 0, _ => simp at he
    | 1, _ => simp at he
    | 2, _ => simp at he
    | 3, _ => simp at he
    | 4, _ => simp at he
    | 5, _ => simp at he
    | 6, _ => simp at he
set_option maxHeartbeats 1000000 in
theorem ready_ok (X : List Nat) (S D Lg M : Nat) (m : StoM) (w : World) (h : Sto w X S D Lg M m) (h1 : m.off = false) (h2 : m.ds.off = false) :
    Calls Tryz.prog 48 #[.pointer (some ⟨S, 0, none⟩)] w fun e w' => e = .returned (.int .i64 0) ∧ w' = w := by
  have KO := off_any X D m.ds w h.dsk
  rw [h2] at KO
  have x0 := h.blk.cell 0
  have x6 := h.blk.cell 6
  simp at x0 x6
  rw [h1] at x6
  clear h h1 h2
  go_enter Tryz.func48, Tryz.ntmps48
  go_wp2_with (go_at_call 82; refine KO.mono ?_; rintro e w1 ⟨rfl, hw⟩; obtain rfl := hw.symm)
  go_ret
  exact ⟨rfl, rfl⟩
theorem grown_set2 (w : World) (b i j : Nat) (u v : Value) : w.grownBy ((w.setCell ⟨b, i, none⟩ u).setCell ⟨b, j, none⟩ v) (some b) := grown_trans (grown_set w b i u) (grown_set _ b j v)
theorem Mv.of_grown {w w' : World} {b : Nat} {X : List Nat} (hg : w.grownBy w' (some b)) (hb : b ∈ X) : Mv X X w w' :=
  .of_frm ⟨hg.os, hg.tape, hg.output, hg.size, fun k _ hx => hg.block k (by assumption) (fun e => hx (by cases e; exact hb))⟩
set_option maxHeartbeats 1000000 in
theorem ready_dark (X : List Nat) (S D Lg M : Nat) (m : StoM) (w : World) (h : Sto w X S D Lg M m) (h1 : (m.off || m.ds.off) = true) :
    Calls Tryz.prog 48 #[.pointer (some ⟨S, 0, none⟩)] w fun e w' => e = .returned (.int .i64 7) ∧ Sto w' X S D Lg M ⟨m.ds, m.F, m.T, m.most, true⟩ ∧ w.grownBy w' (some S) := by
  have KO := off_any X D m.ds w h.dsk
  have x0 := h.blk.cell 0
  have x6 := h.blk.cell 6
  have f6 := h.blk.frozen 6
  simp at x0 x6
  have hs := h.blk.set 6 (.bool true)
  have HF := Lib.hid (And.intro (h.own (grown_set w S 6 (.bool true)) (off := true) (T := m.T) (by simpa using hs)) (grown_set w S 6 (.bool true)))
  cases ho : m.off with
  | true =>
    rw [ho] at x6
    clear h h1 hs KO ho
    go_enter Tryz.func48, Tryz.ntmps48
    go_wp2
    go_ret
    exact ⟨rfl, HF.out.1, HF.out.2⟩
  | false =>
    rw [ho] at x6 h1
    rw [Bool.false_or] at h1
    rw [h1] at KO
    clear h h1 hs ho
    go_enter Tryz.func48, Tryz.ntmps48
    go_wp2_with (go_at_call 82; refine KO.mono ?_; rintro e w1 ⟨rfl, hw⟩; obtain rfl := hw.symm)
    go_ret
    exact ⟨rfl, HF.out.1, HF.out.2⟩
/-- What find gives. -/
def findV (ad : AdM) (F : List FileM) (name : Bs) : Value := if goodF name then ((fileOf F name).map (inoV ad)).getD inoZ else inoZ
def findE (F : List FileM) (name : Bs) : Nat := if goodF name then (if (fileOf F name).isSome then 0 else 9) else 11
theorem inoV_form (ad : AdM) (o : Option FileM) : ∃ (a b : Int) (A : Option Addr) (k c : Nat), ((o.map (inoV ad)).getD inoZ) = .agg #[.int .i64 a, .int .i64 b, .slice A k c] := by
  cases o with
  | none => exact ⟨_, _, _, _, _, rfl⟩
  | some f => exact ⟨_, _, _, _, _, rfl⟩
set_option maxRecDepth 100000 in
set_option maxHeartbeats 2000000 in
theorem find_ok (X : List Nat) (S D Lg M : Nat) (m : StoM) (ad : AdM) (name : Bs) (w : World) (h : Sto w X S D Lg M m) (hm : FM w M ad m.F) (h1 : m.off = false) (h2 : m.ds.off = false) (hn : name.length ≤ maxLen) :
    Calls Tryz.prog 37 #[.pointer (some ⟨S, 0, none⟩), .string (mk name)] w fun e w' => e = .returned (.tuple #[findV ad m.F name, .int .i64 (findE m.F name : Nat)]) ∧ Below w.heap.size w w' := by
  have KR := ready_ok X S D Lg M m (w.alloc (.cells #[.int .i64 0, .int .i64 0, .slice none 0 0] 69)) (h.below (below_alloc _ _)) h1 h2
  have KG := good_any name (w.alloc (.cells #[.int .i64 0, .int .i64 0, .slice none 0 0] 69)) (by unfold maxLen at hn; omega)
  have x4 := h.blk.cell 4
  simp at x4
  have hSl := Blk.lt h.blk
  cases hg : goodF name with
  | false =>
    rw [hg] at KG
    have HV := Lib.hid (show findV ad m.F name = .agg #[.int .i64 0, .int .i64 0, .slice none 0 0] ∧ findE m.F name = 11 by unfold findV findE; rw [hg]; exact ⟨rfl, rfl⟩)
    obtain ⟨X1, hX⟩ : ∃ q, mk name = q := ⟨_, rfl⟩
    rw [hX] at KG ⊢
    obtain ⟨V, hV⟩ : ∃ q, findV ad m.F name = q := ⟨_, rfl⟩
    obtain ⟨N, hN⟩ : ∃ q, findE m.F name = q := ⟨_, rfl⟩
    rw [hV, hN] at HV ⊢
    clear h hm h1 h2 hn hg hX hV hN
    obtain ⟨rfl, rfl⟩ := HV.out
    go_enter Tryz.func37, Tryz.ntmps37
    go_wp2_with (first
      | (go_at_call 48; refine KR.mono ?_; rintro e w1 ⟨rfl, hw⟩; obtain rfl := hw.symm)
      | (go_at_call 11; refine KG.mono ?_; rintro e w2 ⟨rfl, hb⟩; have hR := Blk.below (Blk.new w #[.int .i64 0, .int .i64 0, .slice none 0 0] 69) hb; have q0 := hR.frozen 0; have q1 := hR.frozen 1; have q2 := hR.frozen 2; have c0 := hR.cell 0; have c1 := hR.cell 1; have c2 := hR.cell 2; simp at c0 c1 c2; have hl := hR.lt; have HR := Lib.hid hR; have HB := Lib.hid hb; clear hb hR))
    have hR2 := ((HR.out.set 0 (.int .i64 0)).set 1 (.int .i64 0)).set 2 (.slice none 0 0)
    have p0 := hR2.cell 0
    have p1 := hR2.cell 1
    have p2 := hR2.cell 2
    simp at p0 p1 p2
    refine bodyPost_ret (v := .tuple #[.agg #[.int .i64 0, .int .i64 0, .slice none 0 0], .int .i64 11]) ?_ rfl ?_
    · simp [results, Tryz.f37, go_sem, p0, p1, p2]
    · exact ⟨rfl, below_set (below_set (below_set ((below_alloc w _).trans (HB.out.mono (by simp))) _ 0 _ (Nat.le_refl _)) _ 1 _ (Nat.le_refl _)) _ 2 _ (Nat.le_refl _)⟩
  | true =>
    rw [hg] at KG
    have hlk := fun (w2 : World) (hb : Below (w.alloc (.cells #[.int .i64 0, .int .i64 0, .slice none 0 0] 69)).heap.size (w.alloc (.cells #[.int .i64 0, .int .i64 0, .slice none 0 0] 69)) w2) => (hm.block ((hb.block M (by have := hm.lt; simp; omega)).trans (Below.heap_alloc _ _ M hm.lt))).look name hn
    have HV := Lib.hid (show findV ad m.F name = ((fileOf m.F name).map (inoV ad)).getD inoZ ∧ findE m.F name = if (fileOf m.F name).isSome then 0 else 9 by unfold findV findE; rw [hg]; exact ⟨rfl, rfl⟩)
    obtain ⟨a, b, A, k, c, hf⟩ := inoV_form ad (fileOf m.F name)
    have hz := fun (h0 : (fileOf m.F name).isSome = false) => (show ((fileOf m.F name).map (inoV ad)).getD inoZ = inoZ by rw [show fileOf m.F name = none by simpa using h0]; rfl)
    rw [hf] at HV hlk hz
    obtain ⟨o, ho⟩ : ∃ q, (fileOf m.F name).isSome = q := ⟨_, rfl⟩
    rw [ho] at HV hlk hz
    obtain ⟨X1, hX⟩ : ∃ q, mk name = q := ⟨_, rfl⟩
    rw [hX] at KG hlk ⊢
    obtain ⟨V, hV⟩ : ∃ q, findV ad m.F name = q := ⟨_, rfl⟩
    obtain ⟨N, hN⟩ : ∃ q, findE m.F name = q := ⟨_, rfl⟩
    rw [hV, hN] at HV ⊢
    clear h hm h1 h2 hn hg hX hV hN hf ho
    obtain ⟨rfl, rfl⟩ := HV.out
    cases o with
    | true =>
      clear HV hz
      go_enter Tryz.func37, Tryz.ntmps37
      go_wp2_with (first
        | (go_at_call 48; refine KR.mono ?_; rintro e w1 ⟨rfl, hw⟩; obtain rfl := hw.symm)
        | (go_at_call 11; refine KG.mono ?_; rintro e w2 ⟨rfl, hb⟩; have hR := Blk.below (Blk.new w #[.int .i64 0, .int .i64 0, .slice none 0 0] 69) hb; have q0 := hR.frozen 0; have q1 := hR.frozen 1; have q2 := hR.frozen 2; have c0 := hR.cell 0; have c1 := hR.cell 1; have c2 := hR.cell 2; simp at c0 c1 c2; have hl := hR.lt; have HR := Lib.hid hR; have hs4 := (hb.cell (p := ⟨S, 4, none⟩) (by simp; omega)).trans ((cell_old w _ ⟨S, 4, none⟩ hSl).trans x4); have hSl2 : S < w2.heap.size := (by have := hb.size; simp at this; omega); have hlk2 := hlk w2 hb; have HB := Lib.hid hb; clear hb hR))
      have hR2 := ((((HR.out.set 0 (.int .i64 a)).set 1 (.int .i64 b)).set 2 (.slice A k c)).alloc (.cells #[.int .i64 a, .int .i64 b, .slice A k c] 69))
      have p0 := hR2.cell 0
      have p1 := hR2.cell 1
      have p2 := hR2.cell 2
      simp at p0 p1 p2
      have hsz2 := HB.out.size
      refine bodyPost_ret (v := .tuple #[.agg #[.int .i64 a, .int .i64 b, .slice A k c], .int .i64 0]) ?_ rfl ?_
      · simp [results, Tryz.f37, go_sem, p0, p1, p2]
      · exact ⟨rfl, Below.alloc (below_set (below_set (below_set ((below_alloc w _).trans (HB.out.mono (by simp))) _ 0 _ (Nat.le_refl _)) _ 1 _ (Nat.le_refl _)) _ 2 _ (Nat.le_refl _)) (by simp at hsz2 ⊢; omega) _⟩
    | false =>
      have hz1 := hz rfl
      unfold inoZ at hz1
      simp only [Value.agg.injEq, Array.mk.injEq, List.cons.injEq, Value.int.injEq, Value.slice.injEq, true_and, and_true] at hz1
      obtain ⟨rfl, rfl, rfl, rfl, rfl⟩ := hz1
      clear HV hz
      go_enter Tryz.func37, Tryz.ntmps37
      go_wp2_with (first
        | (go_at_call 48; refine KR.mono ?_; rintro e w1 ⟨rfl, hw⟩; obtain rfl := hw.symm)
        | (go_at_call 11; refine KG.mono ?_; rintro e w2 ⟨rfl, hb⟩; have hR := Blk.below (Blk.new w #[.int .i64 0, .int .i64 0, .slice none 0 0] 69) hb; have q0 := hR.frozen 0; have q1 := hR.frozen 1; have q2 := hR.frozen 2; have c0 := hR.cell 0; have c1 := hR.cell 1; have c2 := hR.cell 2; simp at c0 c1 c2; have hl := hR.lt; have HR := Lib.hid hR; have hs4 := (hb.cell (p := ⟨S, 4, none⟩) (by simp; omega)).trans ((cell_old w _ ⟨S, 4, none⟩ hSl).trans x4); have hSl2 : S < w2.heap.size := (by have := hb.size; simp at this; omega); have hlk2 := hlk w2 hb; have HB := Lib.hid hb; clear hb hR))
      have hR2 := ((((HR.out.set 0 (.int .i64 0)).set 1 (.int .i64 0)).set 2 (.slice none 0 0)).alloc (.cells #[.int .i64 0, .int .i64 0, .slice none 0 0] 69))
      have p0 := hR2.cell 0
      have p1 := hR2.cell 1
      have p2 := hR2.cell 2
      simp at p0 p1 p2
      have hsz2 := HB.out.size
      refine bodyPost_ret (v := .tuple #[.agg #[.int .i64 0, .int .i64 0, .slice none 0 0], .int .i64 9]) ?_ rfl ?_
      · simp [results, Tryz.f37, go_sem, p0, p1, p2]
      · exact ⟨rfl, Below.alloc (below_set (below_set (below_set ((below_alloc w _).trans (HB.out.mono (by simp))) _ 0 _ (Nat.le_refl _)) _ 1 _ (Nat.le_refl _)) _ 2 _ (Nat.le_refl _)) (by simp at hsz2 ⊢; omega) _⟩
end Go.Proofs.YtcmcdddnckcpcaaGreatDoor
