/- FileRots: the row and its tied card. -/
import Derived.Test.YtcmcdddnckcpcaaGreatDoorPD1
import Derived.Test.YtcmcdddnckcpcaaGreatDoorPD7
import Derived.Test.YtcmcdddnckcpcaaGreatDoorPD6
import Derived.Test.YtcmcdddnckcpcaaGreatDoorPD4
import Derived.Laws.Cover1
import Derived.Deep.CutBlock
import Derived.Test.YtcmcdddnckcpcaaGreatDoorRows
import Derived.ProofKit
import Derived.LaidMore
import Derived.OpenShut
import Derived.ShutString
import Derived.Deep.DeepHandedRow
import Derived.Shelf.Vars
import Derived.MakeChecks
import Derived.Lib.LaidTab
import Derived.Deep.Slices
import Derived.SizedLaws
import Derived.SliceStrings
import Derived.Test.YtcmcdddnckcpcaaGreatDoorCards
import Derived.Test.YtcmcdddnckcpcaaGreatDoorTie
namespace Go.Proofs.YtcmcdddnckcpcaaGreatDoor
open Go.RowKit
theorem Sto.frm {w w' : World} {X Z : List Nat} {S D Lg M : Nat} {m : StoM} (h : Sto w X S D Lg M m) (hf : Frm Z w w') (hS : S ∉ Z) (hL : Lg ∉ Z) (hM : M ∉ Z) (h0 : 0 ∉ Z) (hX : ∀ x ∈ X, x ∉ Z) (hE : ∀ z ∈ Z, ∀ cs fr, w.heap[z]? ≠ some (.cells cs 90 fr)) : Sto w' X S D Lg M m := by
 obtain ⟨ad, h1, h2⟩ := h.map
 refine ⟨hf.blk h.blk hS, h.dsk.frm hf hX, hf.blk h.log hL, ⟨ad, h1.block (hf.block M h1.lt hM), fun f hfm => ?_⟩, h.apart, fun k hk => (hf.cell (p := ⟨0, k, none⟩) h.pos h0).trans (h.tb k hk), Nat.lt_of_lt_of_le h.pos hf.size⟩
 obtain ⟨a1, a2, a3⟩ := h2 f hfm
 have hk : ∀ a, (ad f.name).1 = some a → w'.heap[a.block]? = w.heap[a.block]? := fun a ha => by
  obtain ⟨cs, fr, hc⟩ := a2 a ha
  exact hf.block _ (Array.getElem?_eq_some_iff.1 hc).1 (fun hz => hE _ hz cs fr hc)
 exact ⟨lies_block a1 hk, typed_block a2 hk, a3⟩
theorem RSt.lt {w : World} {Y : List Nat} {R : Nat} {F : List PF} {T : List Bool} {most : Nat} (h : RSt w Y R F T most) : ∀ y ∈ R :: Y, y < w.heap.size := by
 obtain ⟨_, _, _, _, _, h⟩ := h
 exact h.lt
theorem RSt.frm {w w' : World} {Y Z : List Nat} {R : Nat} {F : List PF} {T : List Bool} {most : Nat} (h : RSt w Y R F T most) (hf : Frm Z w w') (hz : ∀ y ∈ R :: Y, y ∉ Z) : RSt w' Y R F T most := by
 have hl := h.lt
 obtain ⟨a, b, c, d, e, h⟩ := h
 exact ⟨a, b, c, d, e, h.keep fun y hy => hf.block y (hl y hy) (hz y hy)⟩
theorem RSt.kinds {w : World} {Y : List Nat} {R : Nat} {F : List PF} {T : List Bool} {most : Nat} (h : RSt w Y R F T most) : ∀ y ∈ R :: Y, ∃ cs t fr, w.heap[y]? = some (.cells cs t fr) ∧ okT t := by
 obtain ⟨_, _, _, _, _, h⟩ := h
 intro y hy
 rcases List.mem_cons.1 hy with rfl | hy
 ·exact ⟨_, 130, _, h.blk, .inl rfl⟩
 ·exact h.typ y hy
structure Two (w : World) (X : List Nat) (S D Lg M : Nat) (m : StoM) (Y : List Nat) (R : Nat) (F : List PF) (T : List Bool) (most : Nat) : Prop where
 sto : Sto w X S D Lg M m
 rst : RSt w Y R F T most
 ap : ∀ y ∈ R :: Y, y ≠ S ∧ y ≠ Lg ∧ y ≠ M ∧ y ∉ X ∧ y ≠ 0
theorem Two.below {w w' : World} {X : List Nat} {S D Lg M : Nat} {m : StoM} {Y : List Nat} {R : Nat} {F : List PF} {T : List Bool} {most : Nat} (h : Two w X S D Lg M m Y R F T most) (hb : Below w.heap.size w w') : Two w' X S D Lg M m Y R F T most :=
 ⟨h.sto.below hb, h.rst.below hb, h.ap⟩
theorem Two.real {w w' : World} {X X' : List Nat} {S D Lg M : Nat} {m m' : StoM} {Y : List Nat} {R : Nat} {F : List PF} {T : List Bool} {most : Nat} (h : Two w X S D Lg M m Y R F T most) (hm : Mv (S :: M :: X) (S :: M :: X') w w') (hs : Sto w' X' S D Lg M m') : Two w' X' S D Lg M m' Y R F T most := by
 have hl := h.rst.lt
 refine ⟨hs, h.rst.frm hm.frm (fun y hy hz => ?_), fun y hy => ?_⟩
 ·obtain ⟨a1, _, a3, a4, _⟩ := h.ap y hy
  rcases List.mem_cons.1 hz with e | hz
  ·exact a1 e
  ·rcases List.mem_cons.1 hz with e | hz
   ·exact a3 e
   ·exact a4 hz
 ·obtain ⟨a1, a2, a3, a4, a5⟩ := h.ap y hy
  refine ⟨a1, a2, a3, fun hx => ?_, a5⟩
  rcases hm.sub y (List.mem_cons_of_mem _ (List.mem_cons_of_mem _ hx)) with hz | hz
  ·rcases List.mem_cons.1 hz with e | hz
   ·exact a1 e
   ·rcases List.mem_cons.1 hz with e | hz
    ·exact a3 e
    ·exact a4 hz
  ·have := hl y hy; omega
theorem Two.ref {w w' : World} {X : List Nat} {S D Lg M : Nat} {m : StoM} {Y Y' : List Nat} {R : Nat} {F F' : List PF} {T T' : List Bool} {most : Nat} (h : Two w X S D Lg M m Y R F T most) (hm : Mv (R :: Y) (R :: Y') w w') (hs : RSt w' Y' R F' T' most) : Two w' X S D Lg M m Y' R F' T' most := by
 have hk := h.rst.kinds
 refine ⟨h.sto.frm hm.frm (fun hz => (h.ap _ hz).1 rfl) (fun hz => (h.ap _ hz).2.1 rfl) (fun hz => (h.ap _ hz).2.2.1 rfl) (fun hz => (h.ap _ hz).2.2.2.2 rfl) (fun x hx hz => (h.ap _ hz).2.2.2.1 hx) (fun z hz cs fr hc => ?_), hs, fun y hy => ?_⟩
 ·obtain ⟨cs2, t, fr2, hc2, ho⟩ := hk z hz
  rw [hc] at hc2
  simp only [Option.some.injEq, Obj.cells.injEq] at hc2
  rcases ho with e | e | e | e <;> rw [← hc2.2.1] at e <;> exact absurd e (by decide)
 ·rcases hm.sub y hy with hz | hz
  ·exact h.ap y hz
  ·have h1 := h.sto.blk.lt
   have h2 := Blk.lt h.sto.log
   obtain ⟨ad, h3, _⟩ := h.sto.map
   have h3 := h3.lt
   have h4 := h.sto.dsk.lt
   have h5 := h.sto.pos
   exact ⟨by omega, by omega, by omega, fun hx => by have := h4 y hx; omega, by omega⟩
structure Rdy (m : StoM) : Prop where
 b : StoB m
 up : m.off = false
 on : m.ds.off = false
 sum : ∀ f ∈ m.F, sumN f.ext = needsN f.size
 ent : (m.F.map (·.entry)).Nodup
theorem Inv.rdy {m : StoM} (h : Inv m) : Rdy m := ⟨h.b, h.up, h.on, h.sum, h.entries⟩
def finW (r : Nat × DS) (F : List FileM) (T : List Bool) (m : StoM) : Nat × StoM := if r.1 = 0 then (0, ⟨r.2, F, T, m.most, m.off⟩) else (r.1, ⟨r.2, m.F, m.T, m.most, true⟩)
def opW (m : StoM) (n d : Bs) : Nat × StoM := match (preW m n d).2 with
 | none => ((preW m n d).1, m)
 | some (T2, f) => finW (DS.run (putC m.most T2 (secL (m.most + 7) f.ext) d f) m.ds) (putF m.F f) T2 m
def opA (m : StoM) (n d : Bs) : Nat × StoM := match (preA m n d).2 with
 | none => ((preA m n d).1, m)
 | some (T2, L, dt, f) => finW (DS.run (putC m.most T2 L dt f) m.ds) (putF m.F f) T2 m
def opN (m : StoM) (a b : Bs) : Nat × StoM := match (preN m a b).2 with
 | none => ((preN m a b).1, m)
 | some (T2, C, F2) => finW (DS.run (settleC m.most T2 C) m.ds) F2 T2 m
def opR (m : StoM) (n : Bs) : Nat × StoM := match (preR m n).2 with
 | none => ((preR m n).1, m)
 | some (T2, f) => finW (DS.run (settleC m.most T2 [(f.entry, [])]) m.ds) (delF m.F f.name) T2 m
def OpP (X : List Nat) (S D Lg M : Nat) (r : Nat × StoM) (w : World) (e : Ending) (w' : World) : Prop :=
 e = .returned (.int .i64 ((r.1 : Nat) : Int)) ∧ ∃ X', Mv (S :: M :: X) (S :: M :: X') w w' ∧ Sto w' X' S D Lg M r.2
theorem opP_fin {X : List Nat} {S D Lg M : Nat} {m : StoM} {w w' : World} {e : Ending} {r : Nat × DS} {F : List FileM} {T : List Bool}
  (h : e = .returned (.int .i64 (r.1 : Nat)) ∧ ∃ X', Mv (S :: M :: X) (S :: M :: X') w w' ∧ (r.1 = 0 → Sto w' X' S D Lg M ⟨r.2, F, T, m.most, m.off⟩) ∧ (r.1 ≠ 0 → Sto w' X' S D Lg M ⟨r.2, m.F, m.T, m.most, true⟩)) : OpP X S D Lg M (finW r F T m) w e w' := by
 obtain ⟨rfl, X', h1, h2, h3⟩ := h
 unfold finW
 by_cases h0 : r.1 = 0
 ·rw [if_pos h0]; exact ⟨by rw [h0], X', h1, h2 h0⟩
 ·rw [if_neg h0]; exact ⟨rfl, X', h1, h3 h0⟩
theorem opW_any (X : List Nat) (S D Lg M : Nat) (m : StoM) (name data : Bs) (w : World) (h : Sto w X S D Lg M m) (hi : Rdy m) (hn : name.length ≤ maxLen) :
  Calls Tryz.prog 14 #[.pointer (some ⟨S, 0, none⟩), .string (mk name), .string (mk data)] w (OpP X S D Lg M (opW m name data) w) := by
 refine (fwrite_any X S D Lg M m name data w h hi.b hi.up hi.on hn).mono ?_
 intro e w' hp
 unfold opW
 cases hq : (preW m name data).2 with
 | none => obtain ⟨rfl, h2, h3⟩ := hp.1 hq; exact ⟨rfl, X, Mv.of_below _ h2, h3⟩
 | some q => obtain ⟨T2, f⟩ := q; exact opP_fin (hp.2 T2 f hq)
theorem opA_any (X : List Nat) (S D Lg M : Nat) (m : StoM) (name data : Bs) (w : World) (h : Sto w X S D Lg M m) (hi : Rdy m) (hn : name.length ≤ maxLen) (hd : data.length ≤ 1099511627776) :
  Calls Tryz.prog 16 #[.pointer (some ⟨S, 0, none⟩), .string (mk name), .string (mk data)] w (OpP X S D Lg M (opA m name data) w) := by
 refine (fappend_any X S D Lg M m name data w h hi.b hi.up hi.on hn hd hi.sum).mono ?_
 intro e w' hp
 unfold opA
 cases hq : (preA m name data).2 with
 | none => obtain ⟨rfl, h2, h3⟩ := hp.1 hq; exact ⟨rfl, X, Mv.of_below _ h2, h3⟩
 | some q => obtain ⟨T2, L, dt, f⟩ := q; exact opP_fin (hp.2 T2 L dt f hq)
theorem opN_any (X : List Nat) (S D Lg M : Nat) (m : StoM) (name dest : Bs) (w : World) (h : Sto w X S D Lg M m) (hi : Rdy m) (hn : name.length ≤ maxLen) (hn2 : dest.length ≤ maxLen) :
  Calls Tryz.prog 20 #[.pointer (some ⟨S, 0, none⟩), .string (mk name), .string (mk dest)] w (OpP X S D Lg M (opN m name dest) w) := by
 refine (frename_any X S D Lg M m name dest w h hi.b hi.up hi.on hn hn2 hi.ent).mono ?_
 intro e w' hp
 unfold opN
 cases hq : (preN m name dest).2 with
 | none => obtain ⟨rfl, h2, h3⟩ := hp.1 hq; exact ⟨rfl, X, Mv.of_below _ h2, h3⟩
 | some q => obtain ⟨T2, C, F2⟩ := q; exact opP_fin (hp.2 T2 C F2 hq)
theorem opR_any (X : List Nat) (S D Lg M : Nat) (m : StoM) (name : Bs) (w : World) (h : Sto w X S D Lg M m) (hi : Rdy m) (hn : name.length ≤ maxLen) :
  Calls Tryz.prog 21 #[.pointer (some ⟨S, 0, none⟩), .string (mk name)] w (OpP X S D Lg M (opR m name) w) := by
 refine (fremove_any X S D Lg M m name w h hi.b hi.up hi.on hn).mono ?_
 intro e w' hp
 unfold opR
 cases hq : (preR m name).2 with
 | none => obtain ⟨rfl, h2, h3⟩ := hp.1 hq; exact ⟨rfl, X, Mv.of_below _ h2, h3⟩
 | some q => obtain ⟨T2, f⟩ := q; exact opP_fin (hp.2 T2 f hq)
theorem opS_any (X : List Nat) (S D Lg M : Nat) (m : StoM) (name : Bs) (w : World) (h : Sto w X S D Lg M m) (hi : Rdy m) (hn : name.length ≤ maxLen) :
  Calls Tryz.prog 17 #[.pointer (some ⟨S, 0, none⟩), .string (mk name)] w fun e w' => e = .returned (.tuple #[.string (mk (readW m name)), .int .i64 (findE m.F name : Nat)]) ∧ Below w.heap.size w w' :=
 fread_any X S D Lg M m name w h hi.b hi.up hi.on hn (fun f hf => by rw [hi.sum f hf]; unfold needsN; omega) (fun f hf => by rw [hi.sum f hf]; have := hi.b.siz f hf; unfold needsN; omega)
theorem rappend_any (Y : List Nat) (R : Nat) (F F' : List PF) (T T' : List Bool) (most r : Nat) (name data : Bs) (w : World) (h : RSt w Y R F T most) (hF : F.length ≤ 1000) (hT : T.length ≤ 100000) (hnm : name.length ≤ maxLen) (hdn : data.length ≤ 1000000000)
  (hl : ∀ f ∈ F, f.ext.length ≤ 64 ∧ f.data.length ≤ 1048576) (hp : appS F T name data = some (r, F', T')) :
  Calls Tryz.prog 65 #[.pointer (some ⟨R, 0, none⟩), .string (mk name), .string (mk data)] w fun e w' => e = .returned (.int .i64 (r : Nat)) ∧ ∃ Y', RSt w' Y' R F' T' most ∧ Mv (R :: Y) (R :: Y') w w' := by
 unfold appS at hp
 cases hg : goodF name with
 | false =>
  rw [if_pos hg] at hp
  simp only [Option.some.injEq, Prod.mk.injEq] at hp
  obtain ⟨rfl, rfl, rfl⟩ := hp
  exact rappend_bad Y R F T most name data w h hnm hg
 | true =>
  rw [if_neg (by rw [hg]; decide)] at hp
  cases hf : idxF F name with
  | none =>
   rw [hf] at hp
   simp only [Option.some.injEq, Prod.mk.injEq] at hp
   obtain ⟨rfl, rfl, rfl⟩ := hp
   exact rappend_none Y R F T most name data w h hF hnm hg hf
  | some i =>
   rw [hf] at hp
   obtain ⟨hil, _, _⟩ := idxF_some hf
   simp only at hp
   obtain ⟨f, hfe⟩ : ∃ f, F[i] = f := ⟨_, rfl⟩
   have hfe2 : F[i]? = some f := by rw [List.getElem?_eq_getElem hil, hfe]
   obtain ⟨b1, b2⟩ := hl f (by rw [← hfe]; exact List.getElem_mem hil)
   rw [hfe2] at hp
   simp only at hp
   by_cases hlong : 1048576 < f.data.length + data.length
   ·rw [if_pos hlong] at hp
    simp only [Option.some.injEq, Prod.mk.injEq] at hp
    obtain ⟨rfl, rfl, rfl⟩ := hp
    exact rappend_long Y R F T most i f name data w h hF hnm hdn hg hf hfe2 b2 hlong
   ·rw [if_neg hlong] at hp
    have K := rappend_at Y R F T most i f name data w h hF hT hnm hg hf hfe2 b1 (by omega)
    cases ht : takeS T (needsN (f.data.length + data.length) - needsN f.data.length) (64 - f.ext.length) with
    | none =>
     rw [ht] at hp
     simp only [ht] at K
     simp only [Option.some.injEq, Prod.mk.injEq] at hp
     obtain ⟨rfl, rfl, rfl⟩ := hp
     exact K
    | some p =>
     obtain ⟨l, T1⟩ := p
     rw [ht] at hp
     simp only [ht] at K
     simp only [Option.some.injEq, Prod.mk.injEq] at hp
     obtain ⟨rfl, rfl, rfl⟩ := hp
     exact K
def RefP (Y : List Nat) (R : Nat) (most : Nat) (r : Nat) (F' : List PF) (T' : List Bool) (w : World) (e : Ending) (w' : World) : Prop :=
 e = .returned (.int .i64 ((r : Nat) : Int)) ∧ ∃ Y', RSt w' Y' R F' T' most ∧ Mv (R :: Y) (R :: Y') w w'
theorem rbound {F : List PF} {T : List Bool} {most : Nat} (h : Inv (refM F T most)) : F.length ≤ 1000 ∧ T.length ≤ 100000 ∧ most ≤ 1000 ∧ ∀ f ∈ F, f.ext.length ≤ 64 ∧ f.data.length ≤ 1048576 ∧ f.entry ≤ 1000 := by
 have h1 : (F.map toM).length ≤ 1000 := h.b.len
 have h2 : T.length ≤ 4096 := h.b.tl
 have h3 : most ≤ 256 := h.b.mo.2
 refine ⟨by simpa using h1, by omega, by omega, fun f hf => ?_⟩
 have hm : toM f ∈ (refM F T most).F := List.mem_map.2 ⟨f, hf, rfl⟩
 have a := h.b.exl _ hm
 have b := h.b.siz _ hm
 have c := h.b.ent _ hm
 have c' : f.entry < most := c
 exact ⟨a, b, by omega⟩
theorem refW_any (Y : List Nat) (R : Nat) {F F' : List PF} {T T' : List Bool} {most r : Nat} (name data : Bs) (w : World) (h : RSt w Y R F T most) (hi : Inv (refM F T most)) (hn : name.length ≤ maxLen) (hp : wriS F T most (enF F most) name data = some (r, F', T')) :
  Calls Tryz.prog 64 #[.pointer (some ⟨R, 0, none⟩), .string (mk name), .string (mk data)] w (RefP Y R most r F' T' w) := by
 obtain ⟨b1, b2, b3, b4⟩ := rbound hi
 obtain ⟨e1, e2, e3, _⟩ := enF_facts hi
 exact rwrite_any Y R F F' T T' most (enF F most) r name data w h b1 b2 b3 hn (fun f hf => ⟨by have := (b4 f hf).1; omega, (b4 f hf).2.2⟩) e1 e2 e3 hp
theorem refA_any (Y : List Nat) (R : Nat) {F F' : List PF} {T T' : List Bool} {most r : Nat} (name data : Bs) (w : World) (h : RSt w Y R F T most) (hi : Inv (refM F T most)) (hn : name.length ≤ maxLen) (hd : data.length ≤ 1000000000) (hp : appS F T name data = some (r, F', T')) :
  Calls Tryz.prog 65 #[.pointer (some ⟨R, 0, none⟩), .string (mk name), .string (mk data)] w (RefP Y R most r F' T' w) := by
 obtain ⟨b1, b2, b3, b4⟩ := rbound hi
 exact rappend_any Y R F F' T T' most r name data w h b1 b2 hn hd (fun f hf => ⟨(b4 f hf).1, (b4 f hf).2.1⟩) hp
theorem refN_any (Y : List Nat) (R : Nat) {F F' : List PF} {T T' : List Bool} {most r : Nat} (a b : Bs) (w : World) (h : RSt w Y R F T most) (hi : Inv (refM F T most)) (hn : a.length ≤ maxLen) (hn2 : b.length ≤ maxLen) (hp : renS F T a b = some (r, F', T')) :
  Calls Tryz.prog 66 #[.pointer (some ⟨R, 0, none⟩), .string (mk a), .string (mk b)] w (RefP Y R most r F' T' w) := by
 obtain ⟨b1, b2, b3, b4⟩ := rbound hi
 exact rrename_any Y R F F' T T' most r a b w h b1 b2 (fun f hf => by have := (b4 f hf).1; omega) hn hn2 hp
theorem refR_any (Y : List Nat) (R : Nat) {F F' : List PF} {T T' : List Bool} {most r : Nat} (name : Bs) (w : World) (h : RSt w Y R F T most) (hi : Inv (refM F T most)) (hn : name.length ≤ maxLen) (hp : remS F T name = some (r, F', T')) :
  Calls Tryz.prog 67 #[.pointer (some ⟨R, 0, none⟩), .string (mk name)] w (RefP Y R most r F' T' w) := by
 obtain ⟨b1, b2, b3, b4⟩ := rbound hi
 exact rremove_any Y R F F' T T' most r name w h b1 b2 (fun f hf => by have := (b4 f hf).1; omega) hn hp
end Go.Proofs.YtcmcdddnckcpcaaGreatDoor
namespace Go.Proofs.YtcmcdddnckcpcaaGreatDoor
open Go.RowKit
theorem Mv.wideR {A B Z : List Nat} {w w' : World} (h : Mv A B w w') : Mv (A ++ Z) (B ++ Z) w w' :=
 ⟨h.frm.mono (fun x hx => List.mem_append_left _ hx), fun x hx => by
  rcases List.mem_append.1 hx with h1 | h1
  ·rcases h.sub x h1 with h2 | h2
   ·exact .inl (List.mem_append_left _ h2)
   ·exact .inr h2
  ·exact .inl (List.mem_append_right _ h1)⟩
theorem Mv.wideL {A B Z : List Nat} {w w' : World} (h : Mv A B w w') : Mv (Z ++ A) (Z ++ B) w w' :=
 ⟨h.frm.mono (fun x hx => List.mem_append_right _ hx), fun x hx => by
  rcases List.mem_append.1 hx with h1 | h1
  ·exact .inl (List.mem_append_left _ h1)
  ·rcases h.sub x h1 with h2 | h2
   ·exact .inl (List.mem_append_right _ h2)
   ·exact .inr h2⟩
def findR (F : List PF) (name : Bs) : Nat := if goodF name = false then 11 else match idxF F name with
 | none => 9
 | some _ => 0
def actS (F : List PF) (T : List Bool) (most : Nat) (a : ActM) (i : Nat) : Option (Nat × List PF × List Bool) :=
 if whatN a.what 8 < 2 then wriS F T most (enF F most) a.name (textB a.n a.b i) else if whatN a.what 8 < 4 then appS F T a.name (textB a.n a.b i) else
 if whatN a.what 8 = 4 then renS F T a.name a.dest else if whatN a.what 8 = 5 then remS F T a.name else some (findR F a.name, F, T)
def actO (m : StoM) (a : ActM) (i : Nat) : Nat × StoM :=
 if whatN a.what 8 < 2 then opW m a.name (textB a.n a.b i) else if whatN a.what 8 < 4 then opA m a.name (textB a.n a.b i) else
 if whatN a.what 8 = 4 then opN m a.name a.dest else if whatN a.what 8 = 5 then opR m a.name else (findE m.F a.name, m)
def DoP (X : List Nat) (S D Lg M : Nat) (Y : List Nat) (R most : Nat) (o : Nat × StoM) (r : Nat) (F' : List PF) (T' : List Bool) (w : World) (e : Ending) (w' : World) : Prop :=
 e = .returned (.tuple #[.int .i64 ((o.1 : Nat) : Int), .int .i64 ((r : Nat) : Int)]) ∧ ∃ X' Y', Two w' X' S D Lg M o.2 Y' R F' T' most ∧ Mv ((S :: M :: X) ++ (R :: Y)) ((S :: M :: X') ++ (R :: Y')) w w'
set_option maxRecDepth 100000 in
set_option maxHeartbeats 8000000 in
theorem do_any (X : List Nat) (S D Lg M : Nat) (m : StoM) (Y : List Nat) (R : Nat) (F F' : List PF) (T T' : List Bool) (most r i : Nat) (a : ActM) (w : World) (h : Two w X S D Lg M m Y R F T most) (hr : Rdy m) (hi : Inv (refM F T most)) (hok : ActOk a) (hii : i ≤ 1000) (hp : actS F T most a i = some (r, F', T')) :
  Calls Tryz.prog 29 #[.pointer (some ⟨S, 0, none⟩), .pointer (some ⟨R, 0, none⟩), .agg (actV a).toArray, .int .i64 i] w (DoP X S D Lg M Y R most (actO m a i) r F' T' w) := by
 obtain ⟨wh, nm, ds, nn, bb⟩ := a
 have hn : nm.length ≤ maxLen := hok.name
 have hn2 : ds.length ≤ maxLen := hok.dest
 have hrb := rem_bounds wh 8 (by omega)
 have hwb := what_bounds wh 8 (by omega)
 obtain ⟨O, hO⟩ : ∃ q, actO m ⟨wh, nm, ds, nn, bb⟩ i = q := ⟨_, rfl⟩
 rw [hO]
 unfold actO at hO
 unfold actS at hp
 dsimp only at hO hp
 have htl : (textB nn bb i).length ≤ 6000 := by rw [textB_length]; exact textL_le nn
 have KT0 := fun (w1 : World) => text_any wh (mk nm) (mk ds) nn bb i w1 hii
 have KW := fun (w1 : World) (hb : Below w.heap.size w w1) => opW_any X S D Lg M m nm (textB nn bb i) w1 (h.sto.below hb) hr hn
 have KA := fun (w1 : World) (hb : Below w.heap.size w w1) => opA_any X S D Lg M m nm (textB nn bb i) w1 (h.sto.below hb) hr hn (by omega)
 have KN := fun (w1 : World) (hb : Below w.heap.size w w1) => opN_any X S D Lg M m nm ds w1 (h.sto.below hb) hr hn hn2
 have KR := fun (w1 : World) (hb : Below w.heap.size w w1) => opR_any X S D Lg M m nm w1 (h.sto.below hb) hr hn
 have KS := fun (w1 : World) (hb : Below w.heap.size w w1) => opS_any X S D Lg M m nm w1 (h.sto.below hb) hr hn
 have KZ := fun (w1 : World) (hb : Below w.heap.size w w1) => fsize_any X S D Lg M m nm w1 (h.sto.below hb) hr.up hr.on hn
 have RW := fun (hq : wriS F T most (enF F most) nm (textB nn bb i) = some (r, F', T')) (w1 : World) (h1 : RSt w1 Y R F T most) => refW_any Y R nm (textB nn bb i) w1 h1 hi hn hq
 have RA := fun (hq : appS F T nm (textB nn bb i) = some (r, F', T')) (w1 : World) (h1 : RSt w1 Y R F T most) => refA_any Y R nm (textB nn bb i) w1 h1 hi hn (by omega) hq
 have RN := fun (hq : renS F T nm ds = some (r, F', T')) (w1 : World) (h1 : RSt w1 Y R F T most) => refN_any Y R nm ds w1 h1 hi hn hn2 hq
 have RR := fun (hq : remS F T nm = some (r, F', T')) (w1 : World) (h1 : RSt w1 Y R F T most) => refR_any Y R nm w1 h1 hi hn hq
 have RG := fun (w1 : World) => rgood_any (mk nm) w1 (by rw [mk_size]; exact hn)
 have RF := fun (w1 : World) (h1 : RSt w1 Y R F T most) => rfind_any Y R F T most nm w1 h1 (rbound hi).1
 rw [mk_data] at RG
 obtain ⟨NM, hNM⟩ : ∃ q, mk nm = q := ⟨_, rfl⟩
 obtain ⟨DM, hDM⟩ : ∃ q, mk ds = q := ⟨_, rfl⟩
 obtain ⟨TX, hTX⟩ : ∃ q, mk (textB nn bb i) = q := ⟨_, rfl⟩
 rw [show (actV ⟨wh, nm, ds, nn, bb⟩).toArray = #[.int .i64 wh, .string NM, .string DM, .int .i64 nn, .int .u8 bb] by rw [← hNM, ← hDM]; rfl]
 simp only [hNM, hDM, hTX] at KT0 KW KA KN KR KS KZ RW RA RN RR RG RF
 have hH := below_alloc w (.cells #[.int .i64 wh, .string NM, .string DM, .int .i64 nn, .int .u8 bb] 26)
 have hB := Blk.new w #[.int .i64 wh, .string NM, .string DM, .int .i64 nn, .int .u8 bb] 26
 have hap : w.heap.size ∉ S :: M :: X := fun hm => by
  have h1 := h.sto.blk.lt
  obtain ⟨ad, h3, _⟩ := h.sto.map
  have h3 := h3.lt
  rcases List.mem_cons.1 hm with e | hm
  ·omega
  ·rcases List.mem_cons.1 hm with e | hm
   ·omega
   ·have := h.sto.dsk.lt _ hm; omega
 have hapR : w.heap.size ∉ R :: Y := fun hm => by have := h.rst.lt _ hm; omega
 obtain ⟨H, hHe⟩ : ∃ q, w.heap.size = q := ⟨_, rfl⟩
 obtain ⟨W0, hW0⟩ : ∃ q, w.alloc (.cells #[.int .i64 wh, .string NM, .string DM, .int .i64 nn, .int .u8 bb] 26) = q := ⟨_, rfl⟩
 have hs0 : W0.heap.size = H + 1 := by rw [← hW0]; simp [hHe]
 rw [hHe] at hB hap hapR
 rw [hW0] at hB hH
 have HW := Lib.hid (And.intro hW0 (And.intro hHe hs0))
 have HH := Lib.hid (And.intro hH (And.intro hap hapR))
 have H2 := Lib.hid h
 have HK := Lib.hid (And.intro KW (And.intro KA (And.intro KN (And.intro KR (And.intro KS KZ)))))
 have HR := Lib.hid (And.intro RW (And.intro RA (And.intro RN (And.intro RR (And.intro RG RF)))))
 have KT := KT0 W0
 have HO := Lib.hid hO
 have HPP := Lib.hid hp
 have y0 := hB.cell 0
 have y1 := hB.cell 1
 have y2 := hB.cell 2
 have y3 := hB.cell 3
 have y4 := hB.cell 4
 have yl := hB.lt
 simp at y0 y1 y2 y3 y4
 have HB := Lib.hid hB
 have mixed : Tryz.prog.follows Departure.mixedOrders = true := by kernel_rfl
 unfold whatN at hwb
 obtain ⟨q, hq⟩ : ∃ q, (wh.tmod 8 + 8).tmod 8 = q := ⟨_, rfl⟩
 rw [hq] at hwb
 have HQ := Lib.hid (show whatN wh 8 = q from hq)
 have hq8 : q = 0 ∨ q = 1 ∨ q = 2 ∨ q = 3 ∨ q = 4 ∨ q = 5 ∨ q = 6 ∨ q = 7 := by omega
 clear h hr hi hok hp hO KT0 KW KA KN KR KS KZ RW RA RN RR RG RF hH hB hap hapR hW0 hHe hs0 hn hn2 htl hNM hDM hTX hwb
 go_enter Tryz.func29, Tryz.ntmps29
 go_upto_region 1 with (fail)
 try rw [HW.out.1, HW.out.2.1]
 try simp only [HW.out.1, HW.out.2.1]
 go_upto_region 2 with (first
  | (go_at_call 15; refine KT.mono ?_; rintro e w4 ⟨rfl, hb4⟩; have hB4 := HB.out.below hb4; have H4 := Lib.hid (And.intro (HH.out.1.trans (hb4.mono HH.out.1.size)) (And.intro hB4 hb4)); clear hb4 hB4 KT))
 clear y0 y1 y2 y3 y4 yl
 have y0 := H4.out.2.1.cell 0
 have yl := H4.out.2.1.lt
 simp at y0
 rcases hq8 with rfl | rfl | rfl | rfl | rfl | rfl | rfl | rfl
 ·skip
  go_upto_region 5 with (fail)
  have HO2 := Lib.hid (show opW m nm (textB nn bb i) = O by rw [← HO.out, HQ.out]; rfl)
  have HP2 := Lib.hid (show wriS F T most (enF F most) nm (textB nn bb i) = some (r, F', T') by have := HPP.out; rw [HQ.out] at this; exact this)
  refine wp_region_held (S := fun w' => w'.cell? ⟨H, 1, none⟩ = some (.string NM)) mixed ?_
  change wpAnyH _ _ _ _ _ _ _ _ w4.drew
  have hD : Below w.heap.size w w4.drew := H4.out.1.drew
  have z1 := H4.out.2.1.cell 1
  simp at z1
  have hS0 : w4.drew.cell? ⟨H, 1, none⟩ = some (.string NM) := z1
  obtain ⟨wd, hwd⟩ : ∃ q, w4.drew = q := ⟨_, rfl⟩
  have hlt : H < wd.heap.size := by rw [← hwd]; exact H4.out.2.1.lt
  rw [hwd] at hD hS0 ⊢
  clear hwd z1 y0 yl
  have HD := Lib.hid (And.intro hD hlt)
  refine tkH 0 (.pointer (some ⟨S, 0, none⟩)) rfl hS0 (fun w' hS => ?_) ?_
  ·clear hS; go_simp
  try go_simp
  refine tkH 1 (.pointer (some ⟨H, 1, none⟩)) rfl hS0 (fun w' hS => ?_) ?_
  ·clear hS; go_simp
  try go_simp
  refine tkH 2 (.string NM) rfl hS0 (fun w' hS => ?_) ?_
  ·have q1 := hS; go_simp
  try go_simp
  refine tkH 3 (.string TX) rfl hS0 (fun w' hS => ?_) ?_
  ·clear hS; go_simp
  try go_simp
  refine tkH 5 (.pointer (some ⟨R, 0, none⟩)) rfl hS0 (fun w' hS => ?_) ?_
  ·clear hS; go_simp
  try go_simp
  refine tkH 6 (.pointer (some ⟨H, 1, none⟩)) rfl hS0 (fun w' hS => ?_) ?_
  ·clear hS; go_simp
  try go_simp
  refine tkH 7 (.string NM) rfl hS0 (fun w' hS => ?_) ?_
  ·have q1 := hS; go_simp
  try go_simp
  refine tkH 8 (.string TX) rfl hS0 (fun w' hS => ?_) ?_
  ·clear hS; go_simp
  try go_simp
  refine alH 4 ?_
  unfold wpOp
  go_simp
  refine .inl ?_
  go_at_call 14
  have KK := HK.out.1 wd HD.out.1
  rw [HO2.out] at KK
  refine KK.mono ?_
  rintro e w5 ⟨rfl, X5, hm5, hs5⟩
  have hS1 : w5.cell? ⟨H, 1, none⟩ = some (.string NM) := (hm5.frm.cell (p := ⟨H, 1, none⟩) HD.out.2 HH.out.2.1).trans hS0
  have h25 := (H2.out.below HD.out.1).real hm5 hs5
  have hlt5 : H < w5.heap.size := Nat.lt_of_lt_of_le HD.out.2 hm5.size
  have KQ := HR.out.1 HP2.out w5 h25.rst
  have H5 := Lib.hid (And.intro h25 (And.intro ((Mv.of_below (S :: M :: X) HD.out.1).trans hm5) hlt5))
  refine ⟨hS1, ?_⟩
  try go_simp
  clear hm5 hs5 h25 hlt5 KK hS0
  refine alH 9 ?_
  unfold wpOp
  go_simp
  refine .inl ?_
  go_at_call 64
  refine KQ.mono ?_
  rintro e w6 ⟨rfl, Y6, hs6, hm6⟩
  have hS0 : w6.cell? ⟨H, 1, none⟩ = some (.string NM) := (hm6.frm.cell (p := ⟨H, 1, none⟩) H5.out.2.2 HH.out.2.2).trans hS1
  have H6 := Lib.hid (And.intro (H5.out.1.ref hm6 hs6) ((H5.out.2.1.wideR (Z := R :: Y)).trans (hm6.wideL (Z := S :: M :: X5))))
  refine ⟨hS0, ?_⟩
  try go_simp
  clear hm6 hs6 KQ hS1
  refine tkH 10 (.int .i64 ((O.1 : Nat) : Int)) rfl hS0 (fun w' hS => ?_) ?_
  ·clear hS; go_simp
  try go_simp
  refine tkH 11 (.int .i64 ((r : Nat) : Int)) rfl hS0 (fun w' hS => ?_) ?_
  ·clear hS; go_simp
  try go_simp
  refine wpAnyH_done (by kernel_rfl) ?_ _
  clear hS0
  go_wp2
  go_ret2
  exact ⟨rfl, X5, Y6, H6.out.1, H6.out.2⟩
 ·skip
  go_upto_region 5 with (fail)
  have HO2 := Lib.hid (show opW m nm (textB nn bb i) = O by rw [← HO.out, HQ.out]; rfl)
  have HP2 := Lib.hid (show wriS F T most (enF F most) nm (textB nn bb i) = some (r, F', T') by have := HPP.out; rw [HQ.out] at this; exact this)
  refine wp_region_held (S := fun w' => w'.cell? ⟨H, 1, none⟩ = some (.string NM)) mixed ?_
  change wpAnyH _ _ _ _ _ _ _ _ w4.drew
  have hD : Below w.heap.size w w4.drew := H4.out.1.drew
  have z1 := H4.out.2.1.cell 1
  simp at z1
  have hS0 : w4.drew.cell? ⟨H, 1, none⟩ = some (.string NM) := z1
  obtain ⟨wd, hwd⟩ : ∃ q, w4.drew = q := ⟨_, rfl⟩
  have hlt : H < wd.heap.size := by rw [← hwd]; exact H4.out.2.1.lt
  rw [hwd] at hD hS0 ⊢
  clear hwd z1 y0 yl
  have HD := Lib.hid (And.intro hD hlt)
  refine tkH 0 (.pointer (some ⟨S, 0, none⟩)) rfl hS0 (fun w' hS => ?_) ?_
  ·clear hS; go_simp
  try go_simp
  refine tkH 1 (.pointer (some ⟨H, 1, none⟩)) rfl hS0 (fun w' hS => ?_) ?_
  ·clear hS; go_simp
  try go_simp
  refine tkH 2 (.string NM) rfl hS0 (fun w' hS => ?_) ?_
  ·have q1 := hS; go_simp
  try go_simp
  refine tkH 3 (.string TX) rfl hS0 (fun w' hS => ?_) ?_
  ·clear hS; go_simp
  try go_simp
  refine tkH 5 (.pointer (some ⟨R, 0, none⟩)) rfl hS0 (fun w' hS => ?_) ?_
  ·clear hS; go_simp
  try go_simp
  refine tkH 6 (.pointer (some ⟨H, 1, none⟩)) rfl hS0 (fun w' hS => ?_) ?_
  ·clear hS; go_simp
  try go_simp
  refine tkH 7 (.string NM) rfl hS0 (fun w' hS => ?_) ?_
  ·have q1 := hS; go_simp
  try go_simp
  refine tkH 8 (.string TX) rfl hS0 (fun w' hS => ?_) ?_
  ·clear hS; go_simp
  try go_simp
  refine alH 4 ?_
  unfold wpOp
  go_simp
  refine .inl ?_
  go_at_call 14
  have KK := HK.out.1 wd HD.out.1
  rw [HO2.out] at KK
  refine KK.mono ?_
  rintro e w5 ⟨rfl, X5, hm5, hs5⟩
  have hS1 : w5.cell? ⟨H, 1, none⟩ = some (.string NM) := (hm5.frm.cell (p := ⟨H, 1, none⟩) HD.out.2 HH.out.2.1).trans hS0
  have h25 := (H2.out.below HD.out.1).real hm5 hs5
  have hlt5 : H < w5.heap.size := Nat.lt_of_lt_of_le HD.out.2 hm5.size
  have KQ := HR.out.1 HP2.out w5 h25.rst
  have H5 := Lib.hid (And.intro h25 (And.intro ((Mv.of_below (S :: M :: X) HD.out.1).trans hm5) hlt5))
  refine ⟨hS1, ?_⟩
  try go_simp
  clear hm5 hs5 h25 hlt5 KK hS0
  refine alH 9 ?_
  unfold wpOp
  go_simp
  refine .inl ?_
  go_at_call 64
  refine KQ.mono ?_
  rintro e w6 ⟨rfl, Y6, hs6, hm6⟩
  have hS0 : w6.cell? ⟨H, 1, none⟩ = some (.string NM) := (hm6.frm.cell (p := ⟨H, 1, none⟩) H5.out.2.2 HH.out.2.2).trans hS1
  have H6 := Lib.hid (And.intro (H5.out.1.ref hm6 hs6) ((H5.out.2.1.wideR (Z := R :: Y)).trans (hm6.wideL (Z := S :: M :: X5))))
  refine ⟨hS0, ?_⟩
  try go_simp
  clear hm6 hs6 KQ hS1
  refine tkH 10 (.int .i64 ((O.1 : Nat) : Int)) rfl hS0 (fun w' hS => ?_) ?_
  ·clear hS; go_simp
  try go_simp
  refine tkH 11 (.int .i64 ((r : Nat) : Int)) rfl hS0 (fun w' hS => ?_) ?_
  ·clear hS; go_simp
  try go_simp
  refine wpAnyH_done (by kernel_rfl) ?_ _
  clear hS0
  go_wp2
  go_ret2
  exact ⟨rfl, X5, Y6, H6.out.1, H6.out.2⟩
 ·skip
  go_upto_region 8 with (fail)
  have HO2 := Lib.hid (show opA m nm (textB nn bb i) = O by rw [← HO.out, HQ.out]; rfl)
  have HP2 := Lib.hid (show appS F T nm (textB nn bb i) = some (r, F', T') by have := HPP.out; rw [HQ.out] at this; exact this)
  refine wp_region_held (S := fun w' => w'.cell? ⟨H, 1, none⟩ = some (.string NM)) mixed ?_
  change wpAnyH _ _ _ _ _ _ _ _ w4.drew
  have hD : Below w.heap.size w w4.drew := H4.out.1.drew
  have z1 := H4.out.2.1.cell 1
  simp at z1
  have hS0 : w4.drew.cell? ⟨H, 1, none⟩ = some (.string NM) := z1
  obtain ⟨wd, hwd⟩ : ∃ q, w4.drew = q := ⟨_, rfl⟩
  have hlt : H < wd.heap.size := by rw [← hwd]; exact H4.out.2.1.lt
  rw [hwd] at hD hS0 ⊢
  clear hwd z1 y0 yl
  have HD := Lib.hid (And.intro hD hlt)
  refine tkH 0 (.pointer (some ⟨S, 0, none⟩)) rfl hS0 (fun w' hS => ?_) ?_
  ·clear hS; go_simp
  try go_simp
  refine tkH 1 (.pointer (some ⟨H, 1, none⟩)) rfl hS0 (fun w' hS => ?_) ?_
  ·clear hS; go_simp
  try go_simp
  refine tkH 2 (.string NM) rfl hS0 (fun w' hS => ?_) ?_
  ·have q1 := hS; go_simp
  try go_simp
  refine tkH 3 (.string TX) rfl hS0 (fun w' hS => ?_) ?_
  ·clear hS; go_simp
  try go_simp
  refine tkH 5 (.pointer (some ⟨R, 0, none⟩)) rfl hS0 (fun w' hS => ?_) ?_
  ·clear hS; go_simp
  try go_simp
  refine tkH 6 (.pointer (some ⟨H, 1, none⟩)) rfl hS0 (fun w' hS => ?_) ?_
  ·clear hS; go_simp
  try go_simp
  refine tkH 7 (.string NM) rfl hS0 (fun w' hS => ?_) ?_
  ·have q1 := hS; go_simp
  try go_simp
  refine tkH 8 (.string TX) rfl hS0 (fun w' hS => ?_) ?_
  ·clear hS; go_simp
  try go_simp
  refine alH 4 ?_
  unfold wpOp
  go_simp
  refine .inl ?_
  go_at_call 16
  have KK := HK.out.2.1 wd HD.out.1
  rw [HO2.out] at KK
  refine KK.mono ?_
  rintro e w5 ⟨rfl, X5, hm5, hs5⟩
  have hS1 : w5.cell? ⟨H, 1, none⟩ = some (.string NM) := (hm5.frm.cell (p := ⟨H, 1, none⟩) HD.out.2 HH.out.2.1).trans hS0
  have h25 := (H2.out.below HD.out.1).real hm5 hs5
  have hlt5 : H < w5.heap.size := Nat.lt_of_lt_of_le HD.out.2 hm5.size
  have KQ := HR.out.2.1 HP2.out w5 h25.rst
  have H5 := Lib.hid (And.intro h25 (And.intro ((Mv.of_below (S :: M :: X) HD.out.1).trans hm5) hlt5))
  refine ⟨hS1, ?_⟩
  try go_simp
  clear hm5 hs5 h25 hlt5 KK hS0
  refine alH 9 ?_
  unfold wpOp
  go_simp
  refine .inl ?_
  go_at_call 65
  refine KQ.mono ?_
  rintro e w6 ⟨rfl, Y6, hs6, hm6⟩
  have hS0 : w6.cell? ⟨H, 1, none⟩ = some (.string NM) := (hm6.frm.cell (p := ⟨H, 1, none⟩) H5.out.2.2 HH.out.2.2).trans hS1
  have H6 := Lib.hid (And.intro (H5.out.1.ref hm6 hs6) ((H5.out.2.1.wideR (Z := R :: Y)).trans (hm6.wideL (Z := S :: M :: X5))))
  refine ⟨hS0, ?_⟩
  try go_simp
  clear hm6 hs6 KQ hS1
  refine tkH 10 (.int .i64 ((O.1 : Nat) : Int)) rfl hS0 (fun w' hS => ?_) ?_
  ·clear hS; go_simp
  try go_simp
  refine tkH 11 (.int .i64 ((r : Nat) : Int)) rfl hS0 (fun w' hS => ?_) ?_
  ·clear hS; go_simp
  try go_simp
  refine wpAnyH_done (by kernel_rfl) ?_ _
  clear hS0
  go_wp2
  go_ret2
  exact ⟨rfl, X5, Y6, H6.out.1, H6.out.2⟩
 ·skip
  go_upto_region 8 with (fail)
  have HO2 := Lib.hid (show opA m nm (textB nn bb i) = O by rw [← HO.out, HQ.out]; rfl)
  have HP2 := Lib.hid (show appS F T nm (textB nn bb i) = some (r, F', T') by have := HPP.out; rw [HQ.out] at this; exact this)
  refine wp_region_held (S := fun w' => w'.cell? ⟨H, 1, none⟩ = some (.string NM)) mixed ?_
  change wpAnyH _ _ _ _ _ _ _ _ w4.drew
  have hD : Below w.heap.size w w4.drew := H4.out.1.drew
  have z1 := H4.out.2.1.cell 1
  simp at z1
  have hS0 : w4.drew.cell? ⟨H, 1, none⟩ = some (.string NM) := z1
  obtain ⟨wd, hwd⟩ : ∃ q, w4.drew = q := ⟨_, rfl⟩
  have hlt : H < wd.heap.size := by rw [← hwd]; exact H4.out.2.1.lt
  rw [hwd] at hD hS0 ⊢
  clear hwd z1 y0 yl
  have HD := Lib.hid (And.intro hD hlt)
  refine tkH 0 (.pointer (some ⟨S, 0, none⟩)) rfl hS0 (fun w' hS => ?_) ?_
  ·clear hS; go_simp
  try go_simp
  refine tkH 1 (.pointer (some ⟨H, 1, none⟩)) rfl hS0 (fun w' hS => ?_) ?_
  ·clear hS; go_simp
  try go_simp
  refine tkH 2 (.string NM) rfl hS0 (fun w' hS => ?_) ?_
  ·have q1 := hS; go_simp
  try go_simp
  refine tkH 3 (.string TX) rfl hS0 (fun w' hS => ?_) ?_
  ·clear hS; go_simp
  try go_simp
  refine tkH 5 (.pointer (some ⟨R, 0, none⟩)) rfl hS0 (fun w' hS => ?_) ?_
  ·clear hS; go_simp
  try go_simp
  refine tkH 6 (.pointer (some ⟨H, 1, none⟩)) rfl hS0 (fun w' hS => ?_) ?_
  ·clear hS; go_simp
  try go_simp
  refine tkH 7 (.string NM) rfl hS0 (fun w' hS => ?_) ?_
  ·have q1 := hS; go_simp
  try go_simp
  refine tkH 8 (.string TX) rfl hS0 (fun w' hS => ?_) ?_
  ·clear hS; go_simp
  try go_simp
  refine alH 4 ?_
  unfold wpOp
  go_simp
  refine .inl ?_
  go_at_call 16
  have KK := HK.out.2.1 wd HD.out.1
  rw [HO2.out] at KK
  refine KK.mono ?_
  rintro e w5 ⟨rfl, X5, hm5, hs5⟩
  have hS1 : w5.cell? ⟨H, 1, none⟩ = some (.string NM) := (hm5.frm.cell (p := ⟨H, 1, none⟩) HD.out.2 HH.out.2.1).trans hS0
  have h25 := (H2.out.below HD.out.1).real hm5 hs5
  have hlt5 : H < w5.heap.size := Nat.lt_of_lt_of_le HD.out.2 hm5.size
  have KQ := HR.out.2.1 HP2.out w5 h25.rst
  have H5 := Lib.hid (And.intro h25 (And.intro ((Mv.of_below (S :: M :: X) HD.out.1).trans hm5) hlt5))
  refine ⟨hS1, ?_⟩
  try go_simp
  clear hm5 hs5 h25 hlt5 KK hS0
  refine alH 9 ?_
  unfold wpOp
  go_simp
  refine .inl ?_
  go_at_call 65
  refine KQ.mono ?_
  rintro e w6 ⟨rfl, Y6, hs6, hm6⟩
  have hS0 : w6.cell? ⟨H, 1, none⟩ = some (.string NM) := (hm6.frm.cell (p := ⟨H, 1, none⟩) H5.out.2.2 HH.out.2.2).trans hS1
  have H6 := Lib.hid (And.intro (H5.out.1.ref hm6 hs6) ((H5.out.2.1.wideR (Z := R :: Y)).trans (hm6.wideL (Z := S :: M :: X5))))
  refine ⟨hS0, ?_⟩
  try go_simp
  clear hm6 hs6 KQ hS1
  refine tkH 10 (.int .i64 ((O.1 : Nat) : Int)) rfl hS0 (fun w' hS => ?_) ?_
  ·clear hS; go_simp
  try go_simp
  refine tkH 11 (.int .i64 ((r : Nat) : Int)) rfl hS0 (fun w' hS => ?_) ?_
  ·clear hS; go_simp
  try go_simp
  refine wpAnyH_done (by kernel_rfl) ?_ _
  clear hS0
  go_wp2
  go_ret2
  exact ⟨rfl, X5, Y6, H6.out.1, H6.out.2⟩
 ·skip
  go_upto_region 10 with (fail)
  have HO2 := Lib.hid (show opN m nm ds = O by rw [← HO.out, HQ.out]; rfl)
  have HP2 := Lib.hid (show renS F T nm ds = some (r, F', T') by have := HPP.out; rw [HQ.out] at this; exact this)
  refine wp_region_held (S := fun w' => w'.cell? ⟨H, 1, none⟩ = some (.string NM) ∧ w'.cell? ⟨H, 2, none⟩ = some (.string DM)) mixed ?_
  change wpAnyH _ _ _ _ _ _ _ _ w4.drew
  have hD : Below w.heap.size w w4.drew := H4.out.1.drew
  have z1 := H4.out.2.1.cell 1
  have z2 := H4.out.2.1.cell 2
  simp at z1 z2
  have hS0 : w4.drew.cell? ⟨H, 1, none⟩ = some (.string NM) ∧ w4.drew.cell? ⟨H, 2, none⟩ = some (.string DM) := ⟨z1, z2⟩
  obtain ⟨wd, hwd⟩ : ∃ q, w4.drew = q := ⟨_, rfl⟩
  have hlt : H < wd.heap.size := by rw [← hwd]; exact H4.out.2.1.lt
  rw [hwd] at hD hS0 ⊢
  clear hwd z1 y0 yl z2
  have HD := Lib.hid (And.intro hD hlt)
  refine tkH 0 (.pointer (some ⟨S, 0, none⟩)) rfl hS0 (fun w' hS => ?_) ?_
  ·clear hS; go_simp
  try go_simp
  refine tkH 1 (.pointer (some ⟨H, 1, none⟩)) rfl hS0 (fun w' hS => ?_) ?_
  ·clear hS; go_simp
  try go_simp
  refine tkH 2 (.string NM) rfl hS0 (fun w' hS => ?_) ?_
  ·have q1 := hS.1; have q2 := hS.2; go_simp
  try go_simp
  refine tkH 3 (.pointer (some ⟨H, 2, none⟩)) rfl hS0 (fun w' hS => ?_) ?_
  ·clear hS; go_simp
  try go_simp
  refine tkH 4 (.string DM) rfl hS0 (fun w' hS => ?_) ?_
  ·have q1 := hS.1; have q2 := hS.2; go_simp
  try go_simp
  refine tkH 6 (.pointer (some ⟨R, 0, none⟩)) rfl hS0 (fun w' hS => ?_) ?_
  ·clear hS; go_simp
  try go_simp
  refine tkH 7 (.pointer (some ⟨H, 1, none⟩)) rfl hS0 (fun w' hS => ?_) ?_
  ·clear hS; go_simp
  try go_simp
  refine tkH 8 (.string NM) rfl hS0 (fun w' hS => ?_) ?_
  ·have q1 := hS.1; have q2 := hS.2; go_simp
  try go_simp
  refine tkH 9 (.pointer (some ⟨H, 2, none⟩)) rfl hS0 (fun w' hS => ?_) ?_
  ·clear hS; go_simp
  try go_simp
  refine tkH 10 (.string DM) rfl hS0 (fun w' hS => ?_) ?_
  ·have q1 := hS.1; have q2 := hS.2; go_simp
  try go_simp
  refine alH 5 ?_
  unfold wpOp
  go_simp
  refine .inl ?_
  go_at_call 20
  have KK := HK.out.2.2.1 wd HD.out.1
  rw [HO2.out] at KK
  refine KK.mono ?_
  rintro e w5 ⟨rfl, X5, hm5, hs5⟩
  have hS1 : w5.cell? ⟨H, 1, none⟩ = some (.string NM) ∧ w5.cell? ⟨H, 2, none⟩ = some (.string DM) := ⟨(hm5.frm.cell (p := ⟨H, 1, none⟩) HD.out.2 HH.out.2.1).trans hS0.1, (hm5.frm.cell (p := ⟨H, 2, none⟩) HD.out.2 HH.out.2.1).trans hS0.2⟩
  have h25 := (H2.out.below HD.out.1).real hm5 hs5
  have hlt5 : H < w5.heap.size := Nat.lt_of_lt_of_le HD.out.2 hm5.size
  have KQ := HR.out.2.2.1 HP2.out w5 h25.rst
  have H5 := Lib.hid (And.intro h25 (And.intro ((Mv.of_below (S :: M :: X) HD.out.1).trans hm5) hlt5))
  refine ⟨hS1, ?_⟩
  try go_simp
  clear hm5 hs5 h25 hlt5 KK hS0
  refine alH 11 ?_
  unfold wpOp
  go_simp
  refine .inl ?_
  go_at_call 66
  refine KQ.mono ?_
  rintro e w6 ⟨rfl, Y6, hs6, hm6⟩
  have hS0 : w6.cell? ⟨H, 1, none⟩ = some (.string NM) ∧ w6.cell? ⟨H, 2, none⟩ = some (.string DM) := ⟨(hm6.frm.cell (p := ⟨H, 1, none⟩) H5.out.2.2 HH.out.2.2).trans hS1.1, (hm6.frm.cell (p := ⟨H, 2, none⟩) H5.out.2.2 HH.out.2.2).trans hS1.2⟩
  have H6 := Lib.hid (And.intro (H5.out.1.ref hm6 hs6) ((H5.out.2.1.wideR (Z := R :: Y)).trans (hm6.wideL (Z := S :: M :: X5))))
  refine ⟨hS0, ?_⟩
  try go_simp
  clear hm6 hs6 KQ hS1
  refine tkH 12 (.int .i64 ((O.1 : Nat) : Int)) rfl hS0 (fun w' hS => ?_) ?_
  ·clear hS; go_simp
  try go_simp
  refine tkH 13 (.int .i64 ((r : Nat) : Int)) rfl hS0 (fun w' hS => ?_) ?_
  ·clear hS; go_simp
  try go_simp
  refine wpAnyH_done (by kernel_rfl) ?_ _
  clear hS0
  go_wp2
  go_ret2
  exact ⟨rfl, X5, Y6, H6.out.1, H6.out.2⟩
 ·skip
  go_upto_region 12 with (fail)
  have HO2 := Lib.hid (show opR m nm = O by rw [← HO.out, HQ.out]; rfl)
  have HP2 := Lib.hid (show remS F T nm = some (r, F', T') by have := HPP.out; rw [HQ.out] at this; exact this)
  refine wp_region_held (S := fun w' => w'.cell? ⟨H, 1, none⟩ = some (.string NM)) mixed ?_
  change wpAnyH _ _ _ _ _ _ _ _ w4.drew
  have hD : Below w.heap.size w w4.drew := H4.out.1.drew
  have z1 := H4.out.2.1.cell 1
  simp at z1
  have hS0 : w4.drew.cell? ⟨H, 1, none⟩ = some (.string NM) := z1
  obtain ⟨wd, hwd⟩ : ∃ q, w4.drew = q := ⟨_, rfl⟩
  have hlt : H < wd.heap.size := by rw [← hwd]; exact H4.out.2.1.lt
  rw [hwd] at hD hS0 ⊢
  clear hwd z1 y0 yl
  have HD := Lib.hid (And.intro hD hlt)
  refine tkH 0 (.pointer (some ⟨S, 0, none⟩)) rfl hS0 (fun w' hS => ?_) ?_
  ·clear hS; go_simp
  try go_simp
  refine tkH 1 (.pointer (some ⟨H, 1, none⟩)) rfl hS0 (fun w' hS => ?_) ?_
  ·clear hS; go_simp
  try go_simp
  refine tkH 2 (.string NM) rfl hS0 (fun w' hS => ?_) ?_
  ·have q1 := hS; go_simp
  try go_simp
  refine tkH 4 (.pointer (some ⟨R, 0, none⟩)) rfl hS0 (fun w' hS => ?_) ?_
  ·clear hS; go_simp
  try go_simp
  refine tkH 5 (.pointer (some ⟨H, 1, none⟩)) rfl hS0 (fun w' hS => ?_) ?_
  ·clear hS; go_simp
  try go_simp
  refine tkH 6 (.string NM) rfl hS0 (fun w' hS => ?_) ?_
  ·have q1 := hS; go_simp
  try go_simp
  refine alH 3 ?_
  unfold wpOp
  go_simp
  refine .inl ?_
  go_at_call 21
  have KK := HK.out.2.2.2.1 wd HD.out.1
  rw [HO2.out] at KK
  refine KK.mono ?_
  rintro e w5 ⟨rfl, X5, hm5, hs5⟩
  have hS1 : w5.cell? ⟨H, 1, none⟩ = some (.string NM) := (hm5.frm.cell (p := ⟨H, 1, none⟩) HD.out.2 HH.out.2.1).trans hS0
  have h25 := (H2.out.below HD.out.1).real hm5 hs5
  have hlt5 : H < w5.heap.size := Nat.lt_of_lt_of_le HD.out.2 hm5.size
  have KQ := HR.out.2.2.2.1 HP2.out w5 h25.rst
  have H5 := Lib.hid (And.intro h25 (And.intro ((Mv.of_below (S :: M :: X) HD.out.1).trans hm5) hlt5))
  refine ⟨hS1, ?_⟩
  try go_simp
  clear hm5 hs5 h25 hlt5 KK hS0
  refine alH 7 ?_
  unfold wpOp
  go_simp
  refine .inl ?_
  go_at_call 67
  refine KQ.mono ?_
  rintro e w6 ⟨rfl, Y6, hs6, hm6⟩
  have hS0 : w6.cell? ⟨H, 1, none⟩ = some (.string NM) := (hm6.frm.cell (p := ⟨H, 1, none⟩) H5.out.2.2 HH.out.2.2).trans hS1
  have H6 := Lib.hid (And.intro (H5.out.1.ref hm6 hs6) ((H5.out.2.1.wideR (Z := R :: Y)).trans (hm6.wideL (Z := S :: M :: X5))))
  refine ⟨hS0, ?_⟩
  try go_simp
  clear hm6 hs6 KQ hS1
  refine tkH 8 (.int .i64 ((O.1 : Nat) : Int)) rfl hS0 (fun w' hS => ?_) ?_
  ·clear hS; go_simp
  try go_simp
  refine tkH 9 (.int .i64 ((r : Nat) : Int)) rfl hS0 (fun w' hS => ?_) ?_
  ·clear hS; go_simp
  try go_simp
  refine wpAnyH_done (by kernel_rfl) ?_ _
  clear hS0
  go_wp2
  go_ret2
  exact ⟨rfl, X5, Y6, H6.out.1, H6.out.2⟩
 ·skip
  have hO2 : (findE m.F nm, m) = O := by rw [← HO.out, HQ.out]; rfl
  have hP2 : (findR F nm, F, T) = (r, F', T') := by have := HPP.out; rw [HQ.out] at this; exact Option.some.inj this
  simp only [Prod.mk.injEq] at hP2
  obtain ⟨hr1, rfl, rfl⟩ := hP2
  subst hO2
  have KS4 := HK.out.2.2.2.2.1 w4 H4.out.1
  have y1 := H4.out.2.1.cell 1
  simp at y1
  have HR1 := Lib.hid hr1
  clear hr1
  obtain ⟨fe, hfe⟩ : ∃ q, findE m.F nm = q := ⟨_, rfl⟩
  rw [hfe] at KS4
  obtain ⟨RX, hRX⟩ : ∃ q, mk (readW m nm) = q := ⟨_, rfl⟩
  rw [hRX] at KS4
  have HFE := Lib.hid hfe
  clear hRX hfe
  go_upto_region 14 with (first
   | (go_at_call 17; refine KS4.mono ?_; rintro e w5 ⟨rfl, hb5⟩; have KZ5 := HK.out.2.2.2.2.2 w5 (H4.out.1.trans (hb5.mono H4.out.1.size)); have hB5 := H4.out.2.1.below hb5; have y1 := hB5.cell 1; have yl := hB5.lt; simp at y1; have H5 := Lib.hid (And.intro (H4.out.1.trans (hb5.mono H4.out.1.size)) hB5); clear hb5 hB5 KS4))
  rw [HFE.out] at KZ5
  obtain ⟨zz, hzz⟩ : ∃ q, sizeW m.F nm = q := ⟨_, rfl⟩
  rw [hzz] at KZ5
  clear hzz
  go_upto_region 16 with (first
   | (go_at_call 18; refine KZ5.mono ?_; rintro e w6 ⟨rfl, hb6⟩; have RG6 := HR.out.2.2.2.2.1 w6; have hB6 := H5.out.2.below hb6; have y1 := hB6.cell 1; have yl := hB6.lt; simp at y1; have H6 := Lib.hid (H5.out.1.trans (hb6.mono H5.out.1.size)); clear hb6 hB6 KZ5))
  have RF6 := HR.out.2.2.2.2.2 w6 (H2.out.below H6.out).rst
  have HFR := Lib.hid (show findR F nm = if goodF nm = false then 11 else match idxF F nm with | none => 9 | some _ => 0 from rfl)
  have hEnd : ∀ w7, Below w6.heap.size w6 w7 → Two w7 X S D Lg M m Y R F T most ∧ Mv ((S :: M :: X) ++ (R :: Y)) ((S :: M :: X) ++ (R :: Y)) w w7 := fun w7 hb => ⟨(H2.out.below H6.out).below hb, Mv.of_below _ (H6.out.trans (hb.mono H6.out.size))⟩
  have HEND := Lib.hid hEnd
  clear hEnd
  cases hg : goodF nm with
  | false =>
   have hr2 : r = 11 := by rw [← HR1.out, HFR.out, if_pos hg]
   rw [hg] at RG6
   subst hr2
   clear hg RF6
   go_wp2_with (first
    | (go_at_call 12; refine RG6.mono ?_; rintro e w7 ⟨rfl, rfl⟩; clear RG6))
   go_ret2
   exact ⟨by rw [HFE.out]; rfl, X, Y, HEND.out _ (Below.refl _ _)⟩
  | true =>
   rw [hg] at RG6
   cases hx : idxF F nm with
   | none =>
    have hr2 : r = 9 := by rw [← HR1.out, HFR.out, if_neg (by rw [hg]; decide), hx]
    rw [show findI F nm = -1 by unfold findI; unfold idxF at hx; rw [hx]] at RF6
    subst hr2
    clear hg hx
    go_wp2_with (first
     | (go_at_call 12; refine RG6.mono ?_; rintro e w7 ⟨rfl, rfl⟩; clear RG6)
     | (go_at_call 68; refine RF6.mono ?_; rintro e w7 ⟨rfl, rfl⟩; clear RF6))
    go_ret2
    exact ⟨by rw [HFE.out]; rfl, X, Y, HEND.out _ (Below.refl _ _)⟩
   | some j =>
    have hr2 : r = 0 := by rw [← HR1.out, HFR.out, if_neg (by rw [hg]; decide), hx]
    rw [show findI F nm = (j : Int) by unfold findI; unfold idxF at hx; rw [hx]] at RF6
    have j1 : ¬ ((j : Int) < 0) := by omega
    subst hr2
    clear hg hx
    go_wp2_with (first
     | (go_at_call 12; refine RG6.mono ?_; rintro e w7 ⟨rfl, rfl⟩; clear RG6)
     | (go_at_call 68; refine RF6.mono ?_; rintro e w7 ⟨rfl, rfl⟩; clear RF6))
    go_ret2
    exact ⟨by rw [HFE.out]; rfl, X, Y, HEND.out _ (Below.refl _ _)⟩
 ·skip
  have hO2 : (findE m.F nm, m) = O := by rw [← HO.out, HQ.out]; rfl
  have hP2 : (findR F nm, F, T) = (r, F', T') := by have := HPP.out; rw [HQ.out] at this; exact Option.some.inj this
  simp only [Prod.mk.injEq] at hP2
  obtain ⟨hr1, rfl, rfl⟩ := hP2
  subst hO2
  have KS4 := HK.out.2.2.2.2.1 w4 H4.out.1
  have y1 := H4.out.2.1.cell 1
  simp at y1
  have HR1 := Lib.hid hr1
  clear hr1
  obtain ⟨fe, hfe⟩ : ∃ q, findE m.F nm = q := ⟨_, rfl⟩
  rw [hfe] at KS4
  obtain ⟨RX, hRX⟩ : ∃ q, mk (readW m nm) = q := ⟨_, rfl⟩
  rw [hRX] at KS4
  have HFE := Lib.hid hfe
  clear hRX hfe
  go_upto_region 14 with (first
   | (go_at_call 17; refine KS4.mono ?_; rintro e w5 ⟨rfl, hb5⟩; have KZ5 := HK.out.2.2.2.2.2 w5 (H4.out.1.trans (hb5.mono H4.out.1.size)); have hB5 := H4.out.2.1.below hb5; have y1 := hB5.cell 1; have yl := hB5.lt; simp at y1; have H5 := Lib.hid (And.intro (H4.out.1.trans (hb5.mono H4.out.1.size)) hB5); clear hb5 hB5 KS4))
  rw [HFE.out] at KZ5
  obtain ⟨zz, hzz⟩ : ∃ q, sizeW m.F nm = q := ⟨_, rfl⟩
  rw [hzz] at KZ5
  clear hzz
  go_upto_region 16 with (first
   | (go_at_call 18; refine KZ5.mono ?_; rintro e w6 ⟨rfl, hb6⟩; have RG6 := HR.out.2.2.2.2.1 w6; have hB6 := H5.out.2.below hb6; have y1 := hB6.cell 1; have yl := hB6.lt; simp at y1; have H6 := Lib.hid (H5.out.1.trans (hb6.mono H5.out.1.size)); clear hb6 hB6 KZ5))
  have RF6 := HR.out.2.2.2.2.2 w6 (H2.out.below H6.out).rst
  have HFR := Lib.hid (show findR F nm = if goodF nm = false then 11 else match idxF F nm with | none => 9 | some _ => 0 from rfl)
  have hEnd : ∀ w7, Below w6.heap.size w6 w7 → Two w7 X S D Lg M m Y R F T most ∧ Mv ((S :: M :: X) ++ (R :: Y)) ((S :: M :: X) ++ (R :: Y)) w w7 := fun w7 hb => ⟨(H2.out.below H6.out).below hb, Mv.of_below _ (H6.out.trans (hb.mono H6.out.size))⟩
  have HEND := Lib.hid hEnd
  clear hEnd
  cases hg : goodF nm with
  | false =>
   have hr2 : r = 11 := by rw [← HR1.out, HFR.out, if_pos hg]
   rw [hg] at RG6
   subst hr2
   clear hg RF6
   go_wp2_with (first
    | (go_at_call 12; refine RG6.mono ?_; rintro e w7 ⟨rfl, rfl⟩; clear RG6))
   go_ret2
   exact ⟨by rw [HFE.out]; rfl, X, Y, HEND.out _ (Below.refl _ _)⟩
  | true =>
   rw [hg] at RG6
   cases hx : idxF F nm with
   | none =>
    have hr2 : r = 9 := by rw [← HR1.out, HFR.out, if_neg (by rw [hg]; decide), hx]
    rw [show findI F nm = -1 by unfold findI; unfold idxF at hx; rw [hx]] at RF6
    subst hr2
    clear hg hx
    go_wp2_with (first
     | (go_at_call 12; refine RG6.mono ?_; rintro e w7 ⟨rfl, rfl⟩; clear RG6)
     | (go_at_call 68; refine RF6.mono ?_; rintro e w7 ⟨rfl, rfl⟩; clear RF6))
    go_ret2
    exact ⟨by rw [HFE.out]; rfl, X, Y, HEND.out _ (Below.refl _ _)⟩
   | some j =>
    have hr2 : r = 0 := by rw [← HR1.out, HFR.out, if_neg (by rw [hg]; decide), hx]
    rw [show findI F nm = (j : Int) by unfold findI; unfold idxF at hx; rw [hx]] at RF6
    have j1 : ¬ ((j : Int) < 0) := by omega
    subst hr2
    clear hg hx
    go_wp2_with (first
     | (go_at_call 12; refine RG6.mono ?_; rintro e w7 ⟨rfl, rfl⟩; clear RG6)
     | (go_at_call 68; refine RF6.mono ?_; rintro e w7 ⟨rfl, rfl⟩; clear RF6))
    go_ret2
    exact ⟨by rw [HFE.out]; rfl, X, Y, HEND.out _ (Below.refl _ _)⟩
end Go.Proofs.YtcmcdddnckcpcaaGreatDoor
namespace Go.Proofs.YtcmcdddnckcpcaaGreatDoor
end Go.Proofs.YtcmcdddnckcpcaaGreatDoor
namespace Go.Proofs.YtcmcdddnckcpcaaGreatDoor
open Go.RowKit Go.Maps
theorem finW_ok {r : Nat × DS} {F : List FileM} {T : List Bool} {m : StoM} (h : r.1 = 0) : finW r F T m = (0, ⟨r.2, F, T, m.most, m.off⟩) := by unfold finW; rw [if_pos h]
theorem opW_inv {m : StoM} (h : Inv m) (n d : Bs) : Inv (opW m n d).2 ∧ (opW m n d).2.most = m.most ∧ (opW m n d).2.T.length = m.T.length := by
 unfold opW
 cases hq : (preW m n d).2 with
 | none => exact ⟨h, rfl, rfl⟩
 | some q =>
  obtain ⟨T2, f⟩ := q
  obtain ⟨h1, h2⟩ := inv_put h (preW_zero hq)
  simp only
  rw [finW_ok h1]
  exact ⟨h2, rfl, inv_same_len h h2⟩
theorem opA_inv {m : StoM} (h : Inv m) (n d : Bs) : Inv (opA m n d).2 ∧ (opA m n d).2.most = m.most ∧ (opA m n d).2.T.length = m.T.length := by
 unfold opA
 cases hq : (preA m n d).2 with
 | none => exact ⟨h, rfl, rfl⟩
 | some q =>
  obtain ⟨T2, L, dt, f⟩ := q
  obtain ⟨h1, h2⟩ := inv_append h (preA_zero hq)
  simp only
  rw [finW_ok h1]
  exact ⟨h2, rfl, inv_same_len h h2⟩
theorem opN_inv {m : StoM} (h : Inv m) (a b : Bs) : Inv (opN m a b).2 ∧ (opN m a b).2.most = m.most ∧ (opN m a b).2.T.length = m.T.length := by
 unfold opN
 cases hq : (preN m a b).2 with
 | none => exact ⟨h, rfl, rfl⟩
 | some q =>
  obtain ⟨T2, C, F2⟩ := q
  obtain ⟨h1, h2⟩ := inv_rename h (preN_zero hq)
  simp only
  rw [finW_ok h1]
  exact ⟨h2, rfl, inv_same_len h h2⟩
theorem opR_inv {m : StoM} (h : Inv m) (n : Bs) : Inv (opR m n).2 ∧ (opR m n).2.most = m.most ∧ (opR m n).2.T.length = m.T.length := by
 unfold opR
 cases hq : (preR m n).2 with
 | none => exact ⟨h, rfl, rfl⟩
 | some q =>
  obtain ⟨T2, f⟩ := q
  obtain ⟨hg, hf, hz⟩ := preR_zero hq
  obtain ⟨T3, h0, h1, h2, h3⟩ := inv_remove h hg hf
  rw [hz] at h0
  simp only [Prod.mk.injEq, Option.some.injEq, and_true, true_and] at h0
  subst h0
  simp only
  rw [finW_ok h1]
  have hn := fileOf_name hf
  simp only at hn
  rw [hn]
  exact ⟨h2, rfl, h3⟩
theorem actO_inv {m : StoM} (h : Inv m) (a : ActM) (i : Nat) : Inv (actO m a i).2 ∧ (actO m a i).2.most = m.most ∧ (actO m a i).2.T.length = m.T.length := by
 unfold actO
 split
 ·exact opW_inv h _ _
 ·split
  ·exact opA_inv h _ _
  ·split
   ·exact opN_inv h _ _
   ·split
    ·exact opR_inv h _
    ·exact ⟨h, rfl, rfl⟩
theorem actS_inv {F : List PF} {T : List Bool} {most : Nat} (h : Inv (refM F T most)) (a : ActM) (i : Nat) : ∃ r F' T', actS F T most a i = some (r, F', T') ∧ Inv (refM F' T' most) := by
 unfold actS
 split
 ·obtain ⟨r, F', T', h1, h2, _⟩ := ref_write h a.name (textB a.n a.b i); exact ⟨r, F', T', h1, h2⟩
 ·split
  ·obtain ⟨r, F', T', h1, h2, _⟩ := ref_append h a.name (textB a.n a.b i); exact ⟨r, F', T', h1, h2⟩
  ·split
   ·obtain ⟨r, F', T', h1, h2, _⟩ := ref_rename h a.name a.dest; exact ⟨r, F', T', h1, h2⟩
   ·split
    ·obtain ⟨r, F', T', h1, h2, _⟩ := ref_remove h a.name; exact ⟨r, F', T', h1, h2⟩
    ·exact ⟨_, F, T, rfl, h⟩
theorem inv_new (s f : Nat) (h1 : 1 ≤ f) (h2 : f ≤ 256) (h3 : f + 8 ≤ s) (h4 : s ≤ 4000) : Inv (refM [] (List.replicate (s - f - 7) false) f) :=
 inv_idle (inv_fresh s f h1 h2 h3 h4) (List.Perm.refl _) rfl rfl
theorem turnS_bd (taken : Bool) : ∀ (l : List (Nat × Nat)) (T T' : List Bool), turnS taken T l = some T' → ∀ x ∈ l, 1 ≤ x.2 ∧ x.1 + x.2 ≤ T.length := by
 intro l
 induction l with
 | nil => intro T T' _ x hx; cases hx
 | cons y l ih =>
  intro T T' h x hx
  rw [turnS] at h
  split at h
  ·cases h
  ·rename_i hc
   obtain ⟨T1, h1, h2⟩ := Option.bind_eq_some_iff.1 h
   rcases List.mem_cons.1 hx with rfl | hx
   ·omega
   ·have := ih T1 T' h2 x hx
    rw [turn1_len _ _ _ _ _ h1] at this
    exact this
theorem foldL_fin (v : List Bs) (u : Nat) : ∀ k F V, foldL v u k = some (F, V) → (F.map (·.name)).Nodup ∧ (F.map (·.entry)).Nodup ∧ ∀ f ∈ F, FileIn k u f := by
 intro k
 induction k with
 | zero =>
  intro F V h
  simp only [foldL, Option.some.injEq, Prod.mk.injEq] at h
  obtain ⟨rfl, rfl⟩ := h
  exact ⟨by simp, by simp, fun f hf => by cases hf⟩
 | succ k ih =>
  intro F V h
  rw [foldL] at h
  obtain ⟨⟨F0, V0⟩, h0, h1⟩ := Option.bind_eq_some_iff.1 h
  obtain ⟨a1, a2, a3⟩ := ih F0 V0 h0
  have hV := (foldL_len _ _ _ _ _ h0).1
  have hup : ∀ f ∈ F0, FileIn (k + 1) u f := fun f hf => { a3 f hf with ent := by have := (a3 f hf).ent; omega }
  unfold stepL at h1
  split at h1
  ·simp only [Option.some.injEq, Prod.mk.injEq] at h1
   obtain ⟨rfl, rfl⟩ := h1
   exact ⟨a1, a2, hup⟩
  ·split at h1
   ·cases h1
   ·rename_i nm sz l hp
    split at h1
    ·cases h1
    ·rename_i hnf
     obtain ⟨T, ht, he⟩ := Option.map_eq_some_iff.1 h1
     simp only [Prod.mk.injEq] at he
     obtain ⟨rfl, rfl⟩ := he
     obtain ⟨_, b2, b3, b4, b5, _⟩ := parse_some hp
     have hno : ∀ g ∈ F0, g.name ≠ nm := fileOf_none.1 (by simpa using hnf)
     refine ⟨?_, ?_, fun f hf => ?_⟩
     ·rw [List.map_append, List.nodup_append]
      refine ⟨a1, by simp, fun x hx y hy e => ?_⟩
      obtain ⟨g, hg, rfl⟩ := List.mem_map.1 hx
      simp at hy
      subst hy
      exact hno g hg e
     ·rw [List.map_append, List.nodup_append]
      refine ⟨a2, by simp, fun x hx y hy e => ?_⟩
      obtain ⟨g, hg, rfl⟩ := List.mem_map.1 hx
      simp at hy
      subst hy
      have := (a3 g hg).ent
      omega
     ·rcases List.mem_append.1 hf with h2 | h2
      ·exact hup f h2
      ·obtain rfl := List.mem_singleton.1 h2
       exact ⟨by simp only; omega, b2, b3, b4, fun x hx => by have := turnS_bd _ _ _ _ ht x hx; simp only at this; rw [hV] at this; exact this, b5⟩
theorem learnL_fin {v : List Bs} {u most : Nat} {F : List FileM} {T : List Bool} (h : learnL v u most = some (F, T)) : T.length = u ∧ F.length ≤ most ∧ (F.map (·.name)).Nodup ∧ (F.map (·.entry)).Nodup ∧ ∀ f ∈ F, FileIn most u f := by
 unfold learnL at h
 obtain ⟨T0, h0, h1⟩ := Option.bind_eq_some_iff.1 h
 obtain ⟨⟨F1, V1⟩, h2, h3⟩ := Option.bind_eq_some_iff.1 h1
 split at h3
 ·simp only [Option.some.injEq, Prod.mk.injEq] at h3
  obtain ⟨rfl, rfl⟩ := h3
  obtain ⟨b1, b2, _⟩ := foldL_len _ _ _ _ _ h2
  obtain ⟨c1, c2, c3⟩ := foldL_fin _ _ _ _ _ h2
  exact ⟨b1, b2, c1, c2, c3⟩
 ·cases h3
theorem learn_rdy {v : List Bs} {ds : DS} {u most : Nat} {F : List FileM} {T : List Bool} (h : learnL v u most = some (F, T)) (hm : 1 ≤ most ∧ most ≤ 256) (hu : u + most + 7 = ds.L.length) (hu2 : u ≤ 4096) (ho : ds.off = false) (hS : ds.S.length ≤ 500000) : Rdy ⟨ds, F, T, most, false⟩ := by
 obtain ⟨a1, a2, a3, a4, a5⟩ := learnL_fin h
 exact {
  b := { ent := fun f hf => (a5 f hf).ent
         nam := fun f hf => goodF_len (a5 f hf).good
         siz := fun f hf => (a5 f hf).siz
         exl := fun f hf => (a5 f hf).exl
         exb := fun f hf x hx => by have := ((a5 f hf).exb x hx).2; simp only; omega
         len := by simp only; omega
         mo := hm
         tl := by simp only; omega
         ll := by simp only; omega
         sl := hS }
  up := rfl
  on := ho
  sum := fun f hf => (a5 f hf).sum
  ent := a4 }
theorem readF_len2 {m : StoM} (h : Rdy m) (hd : DGood m.ds) {f : FileM} (hf : f ∈ m.F) : (readF m f).length = f.size := by
 have hb := h.b.ll
 unfold readF
 rw [List.length_take, secsB_len hd _ (fun i hi => by
  obtain ⟨x, hx, h1, h2⟩ := secL_mem hi
  have := h.b.exb f hf x hx
  omega), secL_length, h.sum f hf]
 unfold needsN
 omega
theorem names_rise {F : List FileM} (hn : (F.map (·.name)).Nodup) (i : Nat) (h : i + 1 < (namesS F).length) : ¬ ((namesS F)[i + 1] ≤ (namesS F)[i]) := by
 have hp : (namesS F).Perm (F.map (·.name)) := List.mergeSort_perm _ _
 have hnd : (namesS F).Nodup := hp.nodup_iff.2 hn
 have hs : (namesS F).Pairwise (fun a b => leB a b = true) := List.pairwise_mergeSort (le := leB) (fun a b c h1 h2 => by simp only [leB, decide_eq_true_eq] at *; exact List.le_trans h1 h2) (fun a b => by simp only [leB, Bool.or_eq_true, decide_eq_true_eq]; exact List.le_total a b) _
 have h1 := List.pairwise_iff_getElem.1 hs i (i + 1) (by omega) h (by omega)
 simp only [leB, decide_eq_true_eq] at h1
 intro h2
 have e := List.le_antisymm h1 h2
 have := (List.pairwise_iff_getElem.1 hnd) i (i + 1) (by omega) h (by omega)
 exact this e
end Go.Proofs.YtcmcdddnckcpcaaGreatDoor
namespace Go.Proofs.YtcmcdddnckcpcaaGreatDoor
open Go.RowKit
def DS.spoil (d : DS) (i : Nat) (b : Bs) : DS := ⟨d.L.set i (fullB b), [], d.cut, d.off⟩
theorem index_nil (A : Option Addr) (c : Nat) (f : Value) (w : World) : Calls Tryz.prog 108 #[.slice A 0 c, f] w fun e w' => e = .returned (.int .i64 (-1)) ∧ w' = w := by
 go_enter Tryz.func108, Tryz.ntmps108
 go_wp2
 go_loopw [8] (fun iv wr => iv = .int .i64 0 ∧ wr = w) (fun _ _ => 0)
 case atStart => exact ⟨rfl, rfl⟩
 case round =>
  obtain ⟨rfl, rfl⟩ := hrel
  go_wp2
  go_ret
  exact ⟨rfl, rfl⟩
theorem delete_nil (A : Option Addr) (c : Nat) (f : Value) (w : World) : Calls Tryz.prog 73 #[.slice A 0 c, f] w fun e w' => e = .returned (.slice A 0 c) ∧ w' = w := by
 have KI := index_nil A c f w
 go_enter Tryz.func73, Tryz.ntmps73
 go_wp2_with (go_at_call 108; refine KI.mono ?_; rintro e w' ⟨rfl, hw⟩; obtain rfl := hw.symm; clear KI)
 go_ret
 exact ⟨rfl, rfl⟩
set_option maxRecDepth 100000 in
set_option maxHeartbeats 2000000 in
theorem spoil_any (X : List Nat) (D : Nat) (d : DS) (i : Nat) (b : Bs) (w : World) (h : Dsk w X D d) (hS : d.S = []) (hb : b.length ≤ 512) (hi : i < d.L.length) :
  Calls Tryz.prog 34 #[.pointer (some ⟨D, 0, none⟩), .int .i64 i, .string (mk b)] w fun e w' => e = .returned (.int .i64 0) ∧ Dsk w' X D (d.spoil i b) ∧ Frm X w w' := by
 have hb0 := below_alloc w (.cells #[.int .i64 i] 3)
 have h0 := h.below hb0
 have K := has_any X D d i (w.alloc (.cells #[.int .i64 i] 3)) h0
 rw [show decide (0 ≤ (i : Int) ∧ (i : Int) < d.L.length) = true by simp; omega] at K
 have KF := fun w1 => full_any b w1 hb
 have KD := delete_nil
 obtain ⟨gL, cL, vS, vC, cnt, hB, hL, hSr, hC, hgX, hvX⟩ := h0.blk
 have hgd := h0.good
 have hmem := h0.mem
 have hlt : ∀ x ∈ X, x < w.heap.size := h.lt
 have hBi := Blk.new w #[.int .i64 (i : Int)] 3
 have hbl := mk_size b
 obtain ⟨L, S, ct, off⟩ := d
 dsimp only at hS hi hB hL hSr hC hgd K
 subst hS
 unfold DS.spoil
 dsimp only
 obtain ⟨n, hn⟩ : ∃ n, L.length = n := ⟨_, rfl⟩
 rw [hn] at hB hL hi
 obtain ⟨A, c, hvS⟩ : ∃ A c, vS = .slice A 0 c := row_form hSr
 subst hvS
 obtain ⟨DT, hDT⟩ : ∃ q, mk b = q := ⟨_, rfl⟩
 obtain ⟨FD, hFD⟩ : ∃ q, mk (fullB b) = q := ⟨_, rfl⟩
 simp only [hDT, hFD] at KF
 rw [hDT] at hbl ⊢
 have hd0 : ¬ ((DT.size : Int) > 512) := by omega
 have hd1 : ¬ ((512 : Int) < (DT.size : Int)) := by omega
 have i0 : (0 : Int) ≤ (i : Int) := by omega
 have i1 : (i : Int) < (n : Int) := by omega
 obtain ⟨Bi, hBie⟩ : ∃ q, w.heap.size = q := ⟨_, rfl⟩
 obtain ⟨W0, hW0⟩ : ∃ q, w.alloc (.cells #[.int .i64 i] 3) = q := ⟨_, rfl⟩
 have hfr0 : Frm X w W0 := by rw [← hW0]; exact Frm.of_below X hb0
 rw [hBie] at hBi
 rw [hW0] at K hB hL hSr hC hBi
 have hDi : D ≠ Bi := fun e => by have := hlt D hmem; omega
 have hgi : gL ≠ Bi := fun e => by have := hlt gL hgX; omega
 have HW := Lib.hid (And.intro hW0 hBie)
 have HG := Lib.hid (And.intro hgd (And.intro hmem (And.intro hlt (And.intro hgX hvX))))
 have HN := Lib.hid (And.intro hn (And.intro hFD hb))
 have HB := Lib.hid (show Blk W0 D #[.slice (some ⟨gL, 0, none⟩) n cL, .slice A 0 c, vC, .bool off, .int .i64 cnt] 123 ∧ W0.ownsRow 0 9 1 (.slice (some ⟨gL, 0, none⟩) n cL) n (txc L) ∧ W0.ownsRow 0 141 2 (.slice A 0 c) 0 [] ∧ CutAt W0 X vC ct ∧ Blk W0 Bi #[.int .i64 (i : Int)] 3 ∧ Frm X w W0 from ⟨hB, hL, hSr, hC, hBi, hfr0⟩)
 have HE := Lib.hid (And.intro hDi hgi)
 have b0 := hBi.cell 0
 have bl := hBi.lt
 simp at b0
 have mixed : Tryz.prog.follows Departure.mixedOrders = true := by kernel_rfl
 clear h h0 hb0 hB hL hSr hC hgX hvX hgd hmem hlt hBi hW0 hBie hfr0 hDi hgi hn hDT hFD hb
 go_enter Tryz.func34, Tryz.ntmps34
 go_upto_region 1 with (fail)
 try rw [HW.out.1, HW.out.2]
 try simp only [HW.out.1, HW.out.2]
 go_upto_region 3 with (first
  | (go_at_call 71; refine K.mono ?_; rintro e w' ⟨rfl, hw⟩; obtain rfl := hw.symm; clear K))
 clear b0 bl
 refine wp_region_held (S := fun w' => Blk w' D #[.slice (some ⟨gL, 0, none⟩) n cL, .slice A 0 c, vC, .bool off, .int .i64 cnt] 123 ∧ Blk w' Bi #[.int .i64 (i : Int)] 3) mixed ?_
 change wpAnyH _ _ _ _ _ _ _ _ W0.drew
 have hD : Blk W0.drew D #[.slice (some ⟨gL, 0, none⟩) n cL, .slice A 0 c, vC, .bool off, .int .i64 cnt] 123 ∧ W0.drew.ownsRow 0 9 1 (.slice (some ⟨gL, 0, none⟩) n cL) n (txc L) ∧ W0.drew.ownsRow 0 141 2 (.slice A 0 c) 0 [] ∧ CutAt W0.drew X vC ct ∧ Blk W0.drew Bi #[.int .i64 (i : Int)] 3 ∧ Frm X w W0.drew := ⟨HB.out.1, HB.out.2.1, HB.out.2.2.1, HB.out.2.2.2.1.drew, HB.out.2.2.2.2.1, HB.out.2.2.2.2.2.drew⟩
 obtain ⟨wd, hwd⟩ : ∃ q, W0.drew = q := ⟨_, rfl⟩
 rw [hwd] at hD ⊢
 clear hwd
 have hS0 := And.intro hD.1 hD.2.2.2.2.1
 have HD := Lib.hid hD
 clear hD
 refine tkH 0 (.pointer (some ⟨D, 0, none⟩)) rfl hS0 (fun w' hS => ?_) ?_
 ·clear hS; go_simp
 try go_simp
 refine tkH 1 (.pointer (some ⟨D, 0, none⟩)) rfl hS0 (fun w' hS => ?_) ?_
 ·clear hS; go_simp
 try go_simp
 refine tkH 2 (.pointer (some ⟨D, 0, none⟩)) rfl hS0 (fun w' hS => ?_) ?_
 ·clear hS; go_simp
 try go_simp
 refine tkH 3 (.slice (some ⟨gL, 0, none⟩) n cL) rfl hS0 (fun w' hS => ?_) ?_
 ·have q0 := hS.1.cell 0; simp at q0; go_simp
 try go_simp
 refine tkH 4 (.int .i64 (i : Int)) rfl hS0 (fun w' hS => ?_) ?_
 ·have q0 := hS.2.cell 0; simp at q0; go_simp
 try go_simp
 refine tkH 5 (.string DT) rfl hS0 (fun w' hS => ?_) ?_
 ·clear hS; go_simp
 try go_simp
 refine alH 6 ?_
 unfold wpOp
 go_simp
 refine .inl ?_
 go_at_call 72
 refine (KF wd).mono ?_
 rintro e W ⟨rfl, hbW⟩
 have hS1 := And.intro (HD.out.1.below hbW) (HD.out.2.2.2.2.1.below hbW)
 have hL2 := (Frm.of_below [] hbW).row HD.out.2.1 (fun g _ => by simp)
 have hS2 := (Frm.of_below [] hbW).row HD.out.2.2.1 (fun g _ => by simp)
 have hC1 := HD.out.2.2.2.1.frm (Frm.of_below [] hbW) (fun _ _ => by simp)
 have hF1 := HD.out.2.2.2.2.2.trans (Frm.of_below X hbW) (fun x hx => .inl hx)
 refine ⟨hS1, ?_⟩
 try go_simp
 clear hS0 hbW KF
 refine tkH 7 (.pointer (some ⟨gL, i, none⟩)) rfl hS1 (fun w' hS => ?_) ?_
 ·clear hS; go_simp
 try go_simp
 refine alH 8 ?_
 have hi63 : i < n := by omega
 have r0 := hL2.cellAt i (by omega)
 have f0 := hL2.frozenAt i
 rw [txc_at _ i (by rw [HN.out.1]; exact hi63)] at r0
 unfold wpOp
 go_simp
 have hne : gL ≠ D := fun e => own_ne_blk hL2 hS1.1 (by decide) (by rw [e]; rfl)
 have hgr := grown_set W gL i (.string FD)
 have hB3 := hS1.1.grown hgr (by simpa using hne)
 have hZ3 := hS1.2.grown hgr (by simpa using HE.out.2)
 have hL3 := (World.ownsRow.stored hL2 i (.string FD)).1
 have hS3 := hS2.kept hgr (by
  rcases row_ne_row hS2 hL2 (by decide) with e | e
  ·exact .inl e
  ·exact .inr e)
 have hF3 := hF1.setCell (p := ⟨gL, i, none⟩) (.inl HG.out.2.2.2.1) (.string FD)
 have hC3 := (by
  obtain ⟨cs, fr, hc⟩ := row_blk hL2
  exact hC1.set hc (by decide) (by decide) i (.string FD) : CutAt (W.setCell ⟨gL, i, none⟩ (.string FD)) X vC ct)
 have hL4 : (W.setCell ⟨gL, i, none⟩ (.string FD)).ownsRow 0 9 1 (.slice (some ⟨gL, 0, none⟩) n cL) n (txc (L.set i (fullB b))) := by
  rw [txc_set, HN.out.2.1]; exact hL3
 obtain ⟨W2, hW2⟩ : ∃ q, W.setCell ⟨gL, i, none⟩ (.string FD) = q := ⟨_, rfl⟩
 rw [hW2] at hB3 hZ3 hL4 hS3 hC3 hF3 ⊢
 have HFN := Lib.hid (And.intro hB3 (And.intro hL4 (And.intro hS3 (And.intro hC3 hF3))))
 first | refine .inl ⟨⟨hB3, hZ3⟩, ?_⟩ | refine ⟨⟨hB3, hZ3⟩, ?_⟩
 refine wpAnyH_done (by kernel_rfl) ?_ _
 have x1 := hB3.cell 1
 have f1 := hB3.frozen 1
 have xl := hB3.lt
 simp at x1
 clear hS1 hL2 hS2 hC1 hF1 r0 f0 hne hgr hB3 hZ3 hL3 hS3 hF3 hC3 hL4 hW2
 go_wp2_with (first
  | (go_at_call 73; refine (KD _ _ _ _).mono ?_; rintro e w' ⟨rfl, hw⟩; obtain rfl := hw.symm))
 go_ret
 have hB4 := HFN.out.1.set 1 (.slice A 0 c)
 simp at hB4
 have hL5 := own_set HFN.out.2.1 HFN.out.1 (by decide) 1 (.slice A 0 c)
 have hS5 := own_set HFN.out.2.2.1 HFN.out.1 (by decide) 1 (.slice A 0 c)
 have hF5 := HFN.out.2.2.2.2.setCell (p := ⟨D, 1, none⟩) (.inl HG.out.2.1) (.slice A 0 c)
 have hC5 := HFN.out.2.2.2.1.set HFN.out.1 (by decide) (by decide) 1 (.slice A 0 c)
 have hon : (L.set i (fullB b)).length = n := by rw [List.length_set, HN.out.1]
 have hgd : DGood ⟨L, [], ct, off⟩ := HG.out.1
 refine ⟨rfl, ⟨⟨gL, cL, .slice A 0 c, vC, cnt, by simp only [hon]; exact hB4, by simp only [hon]; exact hL5, hS5, hC5, HG.out.2.2.2.1, HG.out.2.2.2.2⟩,
  ⟨fun x hx => ?_, fun x hx => (by cases hx), by simp only [hon]; have := hgd.small; dsimp only at this; rw [HN.out.1] at this; exact this⟩, HG.out.2.1, fun x hx => Nat.lt_of_lt_of_le (HG.out.2.2.1 x hx) hF5.size⟩, hF5⟩
 rcases List.mem_or_eq_of_mem_set hx with hx | rfl
 ·exact hgd.lasts x hx
 ·exact full_length _ HN.out.2.2
end Go.Proofs.YtcmcdddnckcpcaaGreatDoor
namespace Go.Proofs.YtcmcdddnckcpcaaGreatDoor
open Go.RowKit Go.Maps
theorem bytesLess_lt : ∀ a b : Bs, Op.bytesLess a b = decide (a < b) := by
 intro a
 induction a with
 | nil =>
  intro b
  cases b with
  | nil => rfl
  | cons y b => simp [Op.bytesLess]
 | cons x a ih =>
  intro b
  cases b with
  | nil => simp [Op.bytesLess]
  | cons y b =>
   rw [Op.bytesLess, ih]
   by_cases h : x < y
   ·simp [h, List.cons_lt_cons_iff]
   ·by_cases e : x = y
    ·subst e; simp
    ·simp [h, e, List.cons_lt_cons_iff]
theorem less_of_not_le {a b : Bs} (h : ¬ a ≤ b) : Op.bytesLess a b = false ∧ (a == b) = false := by
 refine ⟨?_, ?_⟩
 ·rw [bytesLess_lt, decide_eq_false_iff_not]
  intro hl
  exact h (List.le_of_lt hl)
 ·rw [beq_eq_false_iff_ne]
  rintro rfl
  exact h (List.le_refl _)
theorem Nw.sub {w w' : World} {Y Z : List Nat} (h : Nw w Y w') (hz : ∀ z ∈ Z, z ∈ Y) : Nw w Z w' := ⟨h.below, fun z hh => h.new z (hz z hh)⟩
theorem Nw.add {w w' : World} {Y Z : List Nat} (h : Nw w Y w') (hz : ∀ z ∈ Z, w.heap.size ≤ z) : Nw w (Y ++ Z) w' := ⟨h.below, fun z hh => by
 rcases List.mem_append.1 hh with h1 | h1
 ·exact h.new z h1
 ·exact hz z h1⟩
structure Quiet (ds : DS) : Prop where
 on : ds.off = false
 cut : ds.cut = none
 syn : ds.S = []
 len : ds.L.length = 40
theorem mountM_facts {ds dsn : DS} {c : Nat} {st : Option (List FileM × List Bool)} (h : Quiet ds) (hm : mountM ds = (c, dsn, st)) :
  (st = none → c = 2 ∨ c = 14) ∧ ∀ F T, st = some (F, T) → Rdy ⟨dsn, F, T, filesH (secAt ds.vis 0), false⟩ ∧ (F.map (·.name)).Nodup ∧ (∀ f ∈ F, goodF f.name = true) := by
 unfold mountM at hm
 split at hm
 ·simp only [Prod.mk.injEq] at hm
  obtain ⟨rfl, rfl, rfl⟩ := hm
  exact ⟨fun _ => .inl rfl, fun F T e => by cases e⟩
 ·rename_i hok
  obtain ⟨r1, r2, r3, _⟩ := run_on (openC (saidB ds.vis (2 + filesH (secAt ds.vis 0)) 5) (2 + filesH (secAt ds.vis 0))) ds h.cut h.on
  obtain ⟨l1, l2⟩ := run_len (openC (saidB ds.vis (2 + filesH (secAt ds.vis 0)) 5) (2 + filesH (secAt ds.vis 0))) ds
  have hoc : (openC (saidB ds.vis (2 + filesH (secAt ds.vis 0)) 5) (2 + filesH (secAt ds.vis 0))).length ≤ 300 := by
   unfold openC
   split
   ·simp
   ·have hsl : (saidB ds.vis (2 + filesH (secAt ds.vis 0)) 5).length ≤ 255 := by
     unfold saidB
     split
     ·rw [saidX_length]
      have := byteAt_lt (secAt ds.vis (2 + filesH (secAt ds.vis 0))) 2
      omega
     ·simp
    simp only [List.length_append, wrs_length, List.length_cons, List.length_nil]
    omega
  rw [h.syn] at l2
  have hlr : logR ds (filesH (secAt ds.vis 0)) = DS.run (openC (saidB ds.vis (2 + filesH (secAt ds.vis 0)) 5) (2 + filesH (secAt ds.vis 0))) ds := rfl
  rw [hlr] at hm
  generalize DS.run (openC (saidB ds.vis (2 + filesH (secAt ds.vis 0)) 5) (2 + filesH (secAt ds.vis 0))) ds = rr at hm r1 r2 r3 l1 l2
  rw [if_neg (by omega)] at hm
  unfold headOk at hok
  simp only [Bool.not_eq_false, Bool.and_eq_true, decide_eq_true_eq, beq_iff_eq] at hok
  obtain ⟨k1, k2, k3, _⟩ := hok
  split at hm
  ·simp only [Prod.mk.injEq] at hm
   obtain ⟨rfl, rfl, rfl⟩ := hm
   exact ⟨fun _ => .inr rfl, fun F T e => by cases e⟩
  ·rename_i st0 hl
   simp only [Prod.mk.injEq] at hm
   obtain ⟨rfl, rfl, rfl⟩ := hm
   refine ⟨(fun e => by cases e), fun F T e => ?_⟩
   cases e
   obtain ⟨_, _, a3, _, a5⟩ := learnL_fin hl
   refine ⟨learn_rdy hl ⟨k1, k2⟩ (by rw [l1]; omega) (by rw [h.len]; omega) r3 (by simp only [List.length_nil] at l2; omega), a3, fun f hf => (a5 f hf).good⟩
set_option maxRecDepth 100000 in
set_option maxHeartbeats 16000000 in
theorem fileRots_any (A : Option Addr) (ac : List ActM) (cap : Nat) (At : Option Addr) (li : List Int) (cA : Nat) (Aj : Option Addr) (lj : List Bs) (cJ : Nat) (w : World) (hA : Lies w A (acells ac)) (hok : ∀ a ∈ ac, ActOk a) (hl : ac.length ≤ maxLen) (hAt : Lies w At (icells li)) (hlt : li.length ≤ maxLen) (hAj : Lies w Aj (txc lj)) (hlj : lj.length ≤ maxLen) (hjt : ∀ t ∈ lj, t.length ≤ maxLen) (hT : TB w) (hw : 0 < w.heap.size) :
  Calls Tryz.prog 9 #[.slice A ac.length cap, .slice At li.length cA, .slice Aj lj.length cJ] w fun e w' => e = .returned (.bool true) ∧ Below w.heap.size w w' := by
 have K0 := speaks_any w hT hw
 have hlb : ac.length ≤ 9223372036854775807 := by unfold maxLen at hl; omega
 have hlb2 : li.length ≤ 9223372036854775807 := by unfold maxLen at hlt; omega
 have hlb3 : lj.length ≤ 9223372036854775807 := by unfold maxLen at hlj; omega
 obtain ⟨al, hal⟩ : ∃ q, ac.length = q := ⟨_, rfl⟩
 obtain ⟨atl, hatl⟩ : ∃ q, li.length = q := ⟨_, rfl⟩
 obtain ⟨jl, hjl⟩ : ∃ q, lj.length = q := ⟨_, rfl⟩
 rw [hal] at hlb ⊢
 rw [hatl] at hlb2 ⊢
 rw [hjl] at hlb3 ⊢
 have HAL := Lib.hid (And.intro hal (And.intro hatl hjl))
 have HOK := Lib.hid hok
 have HA := Lib.hid (And.intro hA (And.intro hAt (And.intro hAj hjt)))
 have HTB := Lib.hid (And.intro hT hw)
 have KM := fun (w1 : World) (hb : Below w.heap.size w w1) => made_any 40 4 w1 (by decide) (by decide) (by decide) (by decide) (hT.below hw hb) (Nat.lt_of_lt_of_le hw hb.size)
 have KN := fun (w1 : World) => rnew_some 40 4 w1 (by decide) (by decide) (by decide) (by decide)
 have HKM := Lib.hid KM
 have mixed : Tryz.prog.follows Departure.mixedOrders = true := by kernel_rfl
 clear hal hatl hjl hok hA hAt hAj hjt hl hlt hlj hT hw KM
 go_enter Tryz.func9, Tryz.ntmps9
 go_upto_block 0 with (first
  | (go_at_call 10; refine K0.mono ?_; rintro e w1 ⟨rfl, hb1⟩; have KM1 := HKM.out w1 hb1; have HB1 := Lib.hid hb1; clear hb1 K0)
  | (go_at_call 13; refine KM1.mono ?_; rintro e w2 ⟨X2, D, S, Lg, M, rfl, hst, hnw⟩; have KN2 := KN w2; have H2 := Lib.hid (And.intro hst hnw); clear hst hnw KM1)
  | (go_at_call 27; refine KN2.mono ?_; rintro e w3 ⟨R, Y3, rfl, hrs, hb3, hR3, hY3⟩; have H3 := Lib.hid (And.intro hrs (And.intro hb3 (And.intro hR3 hY3))); clear hrs hb3 hR3 hY3 KN2))
 have HT1 := Lib.hid (And.intro (HTB.out.1.below HTB.out.2 HB1.out) (Nat.lt_of_lt_of_le HTB.out.2 HB1.out.size))
 have htwo : Two w3 X2 S D Lg M (freshM 40 4) Y3 R [] (List.replicate (40 - 4 - 7) false) 4 := by
  obtain ⟨h1, h2⟩ := H2.out
  obtain ⟨g1, g2, g3, g4⟩ := H3.out
  obtain ⟨ad, hM, _⟩ := h1.map
  have a1 := h1.blk.lt
  have a2 := Blk.lt h1.log
  have a3 := hM.lt
  have a4 := h1.dsk.lt
  have a5 := h1.pos
  refine ⟨h1.below g2, g1, fun y hy => ?_⟩
  have hyg : w2.heap.size ≤ y := by
   rcases List.mem_cons.1 hy with rfl | hy
   ·exact g3
   ·exact g4 y hy
  exact ⟨by omega, by omega, by omega, fun hx => by have := a4 y hx; omega, by omega⟩
 have hnw3 : Nw w1 ((S :: M :: X2) ++ (R :: Y3)) w3 := (H2.out.2.step H3.out.2.1).add (fun z hz => by
  have hs := H2.out.2.below.size
  rcases List.mem_cons.1 hz with rfl | hz
  ·have := H3.out.2.2.1; omega
  ·have := H3.out.2.2.2 z hz; omega)
 have H4 := Lib.hid (And.intro htwo hnw3)
 clear htwo hnw3 KN
 go_cut [11] from 35 to 52 (fun _ wx => ∃ X' ds', Dsk wx X' D ds' ∧ Quiet ds' ∧ Nw w1 X' wx)
 case first =>
  go_wp2_with (fail)
  go_loopw [11] (fun iv wr => ∃ (k : Nat) (X' : List Nat) (m' : StoM) (Y' : List Nat) (F : List PF) (T : List Bool), k ≤ al ∧ k ≤ 10 ∧ iv = .int .i64 k ∧ Two wr X' S D Lg M m' Y' R F T 4 ∧ Inv m' ∧ Inv (refM F T 4) ∧ m'.most = 4 ∧ m'.T.length = 29 ∧ Nw w1 ((S :: M :: X') ++ (R :: Y')) wr) (fun iv _ => al - (intOf iv).toNat)
  case atStart => exact ⟨0, X2, _, Y3, [], _, Nat.zero_le _, Nat.zero_le _, rfl, H4.out.1, inv_fresh 40 4 (by decide) (by decide) (by decide) (by decide), inv_new 40 4 (by decide) (by decide) (by decide) (by decide), rfl, by decide, H4.out.2⟩
  case round =>
   obtain ⟨k, X', m', Y', F, T, hk, hk10, rfl, htw, hi, hir, hmm, htl, hn⟩ := hrel
   have k0 : (0 : Int) ≤ (k : Int) := by omega
   have hgood : DGood m'.ds := htw.sto.dsk.good
   have HST := Lib.hid (show Dsk wr X' D m'.ds ∧ Quiet m'.ds ∧ Nw w1 X' wr from ⟨htw.sto.dsk, ⟨hi.on, hi.cut, hi.syn, by have := hi.b.ll; omega⟩, hn.sub (fun z hz => List.mem_append_left _ (List.mem_cons_of_mem _ (List.mem_cons_of_mem _ hz)))⟩)
   by_cases hk1 : k < al
   ·have k1 : (k : Int) < (al : Int) := by omega
    by_cases hk2 : k < 10
    ·have k2 : (k : Int) < 10 := by omega
     have hkc : k < ac.length := by rw [HAL.out.1]; exact hk1
     obtain ⟨r, F', T', hp, hir'⟩ := actS_inv hir ac[k] k
     obtain ⟨hi', hmm', htl'⟩ := actO_inv hi ac[k] k
     have KD := do_any X' S D Lg M m' Y' R F F' T T' 4 r k ac[k] wr htw hi.rdy hir (HOK.out _ (List.getElem_mem hkc)) (by omega) hp
     have hAw := HA.out.1.below (Nat.le_refl _) (HB1.out.trans (hn.below.mono HB1.out.size))
     obtain ⟨g, o, rfl, hgl, hcs⟩ := hAw (by rw [acells_length]; omega)
     obtain ⟨d0, d1, d2, d3, d4⟩ := acells_at ac k hkc
     have c0 := hcs _ _ d0
     have c1 := hcs _ _ d1
     have c2 := hcs _ _ d2
     have c3 := hcs _ _ d3
     have c4 := hcs _ _ d4
     rw [← Nat.add_assoc] at c1 c2 c3 c4
     have HI := Lib.hid (And.intro hi' (And.intro hir' (And.intro (hmm'.trans hmm) (And.intro (htl'.trans htl) hn))))
     unfold DoP at KD
     obtain ⟨O, hO⟩ : ∃ q, actO m' ac[k] k = q := ⟨_, rfl⟩
     rw [hO] at KD HI
     obtain ⟨⟨wh, nm, ds, nn, bb⟩, ha⟩ : ∃ q, ac[k] = q := ⟨_, rfl⟩
     rw [ha] at c0 c1 c2 c3 c4 KD
     dsimp only at c0 c1 c2 c3 c4
     change Calls Tryz.prog 29 #[.pointer (some ⟨S, 0, none⟩), .pointer (some ⟨R, 0, none⟩), .agg #[.int .i64 wh, .string (mk nm), .string (mk ds), .int .i64 nn, .int .u8 (bb : Int)], .int .i64 (k : Int)] wr _ at KD
     obtain ⟨NM, hNM⟩ : ∃ q, mk nm = q := ⟨_, rfl⟩
     obtain ⟨DM, hDM⟩ : ∃ q, mk ds = q := ⟨_, rfl⟩
     rw [hNM] at c1 KD
     rw [hDM] at c2 KD
     clear htw hi hir hmm htl hn hp hir' hi' hmm' htl' hcs d0 d1 d2 d3 d4 ha hO hNM hDM hgood HST hkc
     go_wp2_with (first
      | (go_at_call 29; refine KD.mono ?_; rintro e w5 ⟨rfl, X5, Y5, htw5, hm5⟩; have H5 := Lib.hid (And.intro htw5 hm5); clear htw5 hm5 KD))
     go_roundw
     case rel => exact ⟨k + 1, X5, _, Y5, _, _, by omega, by omega, by go_num, H5.out.1, HI.out.1, HI.out.2.1, HI.out.2.2.1, HI.out.2.2.2.1, HI.out.2.2.2.2.mv H5.out.2⟩
     case measure => simp [intOf]; omega
    ·have k2 : ¬ ((k : Int) < 10) := by omega
     have HST2 := HST.out
     clear htw hi hir hmm htl hn hgood HST
     go_wp2_with (fail)
     go_meet
     exact ⟨X', m'.ds, HST2⟩
   ·have k1 : ¬ ((k : Int) < (al : Int)) := by omega
    have HST2 := HST.out
    clear htw hi hir hmm htl hn hgood HST
    go_wp2_with (fail)
    go_meet
    exact ⟨X', m'.ds, HST2⟩
 case rest =>
  obtain ⟨XS, dsS, hcut⟩ := hcut
  have HST := Lib.hid hcut
  clear hcut
  go_upto_block 2 with (fail)
  go_cut [12, 13, 14, 15, 16] from 53 to 114 (fun _ _ _ _ _ wx => ∃ X' ds', Dsk wx X' D ds' ∧ Quiet ds' ∧ Nw w1 X' wx)
  case first =>
   go_wp2_with (fail)
   go_loopw [12] (fun iv wr => ∃ (j : Nat) (X' : List Nat) (ds' : DS), j ≤ 6 ∧ iv = .int .i64 j ∧ Dsk wr X' D ds' ∧ Quiet ds' ∧ Nw w1 X' wr) (fun iv _ => 6 - (intOf iv).toNat)
   case atStart => exact ⟨0, XS, _, Nat.zero_le _, rfl, HST.out⟩
   case round =>
    obtain ⟨j, X', ds', hj, rfl, hd, hq, hnw⟩ := hrel
    have j0 : (0 : Int) ≤ (j : Int) := by omega
    by_cases ja : j < atl
    ·have ja1 : (j : Int) < (atl : Int) := by omega
     by_cases jb : j < jl
     ·have jb1 : (j : Int) < (jl : Int) := by omega
      by_cases jc : j < 6
      ·have jc1 : (j : Int) < 6 := by omega
       have hji : j < li.length := by rw [HAL.out.2.1]; exact ja
       have hjj : j < lj.length := by rw [HAL.out.2.2]; exact jb
       have hbw := HB1.out.trans (hnw.below.mono HB1.out.size)
       obtain ⟨gA, oA, rfl, hgA, hcA⟩ := (HA.out.2.1.below (Nat.le_refl _) hbw) (by rw [icells, List.length_map]; omega)
       have a0 := hcA j (.int .i64 li[j]) (by simp [icells, hji])
       obtain ⟨gJ, oJ, rfl, hgJ, hcJ⟩ := (HA.out.2.2.1.below (Nat.le_refl _) hbw) (by rw [txc, List.length_map]; omega)
       have s0 := hcJ j (.string (mk lj[j])) (txc_at lj j hjj)
       have htl := HA.out.2.2.2 _ (List.getElem_mem hjj)
       obtain ⟨ia, hia⟩ : ∃ q, li[j] = q := ⟨_, rfl⟩
       obtain ⟨tj, htj⟩ : ∃ q, lj[j] = q := ⟨_, rfl⟩
       rw [hia] at a0
       rw [htj] at s0 htl
       clear hcA hcJ hji hjj hia htj hbw
       by_cases hin : 0 ≤ ia ∧ ia < 40
       ·obtain ⟨z, rfl⟩ : ∃ z : Nat, ia = z := ⟨ia.toNat, by omega⟩
        have hz40 : z < 40 := by omega
        have KR := read_any X' D ds' z wr hd (by rw [hq.len]; exact hz40) hq.on
        have htlen : (secAt ds'.vis z).length = 512 := vis_sec hd.good z (by rw [hq.len]; exact hz40)
        obtain ⟨t, ht⟩ : ∃ q, secAt ds'.vis z = q := ⟨_, rfl⟩
        rw [show ds'.vis[z]?.getD [] = t from ht] at KR
        rw [ht] at htlen
        obtain ⟨MT, hMT⟩ : ∃ q, mk t = q := ⟨_, rfl⟩
        obtain ⟨MJ, hMJ⟩ : ∃ q, mk tj = q := ⟨_, rfl⟩
        rw [hMT] at KR
        rw [hMJ] at s0
        have hMJs : MJ.size = tj.length := by rw [← hMJ, mk_size]
        have hMTs : MT.size = 512 := by rw [← hMT, mk_size, htlen]
        have hMTd : MT.data.toList = t := by rw [← hMT, mk_data]
        have hjb := fun (k : Nat) (hk : k < tj.length) => at_mkH tj MJ hMJ k hk
        have htl9 : tj.length ≤ 9223372036854775807 := by unfold maxLen at htl; omega
        obtain ⟨tl, htl2⟩ : ∃ q, tj.length = q := ⟨_, rfl⟩
        rw [htl2] at hMJs htl9
        simp only [htl2] at hjb
        have HJB := Lib.hid hjb
        have HZ := Lib.hid (And.intro hd (And.intro hq (And.intro hnw hz40)))
        have HC := Lib.hid (And.intro a0 (And.intro s0 (And.intro hgA hgJ)))
        have HTT := Lib.hid (And.intro hMTd htlen)
        clear hd hq hnw hin ht hMT hMJ hMTd htlen htl htl2 hjb
        go_upto_region 16 with (first
         | (go_at_call 33; refine KR.mono ?_; rintro e w5 ⟨rfl, hw⟩; obtain rfl := hw.symm; clear KR))
        obtain ⟨WA, hWA⟩ : ∃ q, wr = q := ⟨_, rfl⟩
        rw [hWA] at HZ HC a0 s0 hgA hgJ ⊢
        clear hWA
        go_wp2_with (with_reducible refine wpList_bytes rfl (.tmp 80) 9 62 5 rfl Tryz.underlying9 Tryz.underlying62 Tryz.underlying5 MT rfl ?_; intro cp w5 hbuf hbel hsz)
        rw [HTT.out.1] at hbuf
        obtain ⟨G, hG⟩ : ∃ q, WA.heap.size = q := ⟨_, rfl⟩
        have HG := Lib.hid hG
        simp only [hG] at hbuf hbel ⊢
        try rw [hMTs]
        try simp only [hMTs]
        have HBF := Lib.hid (And.intro hbuf hbel)
        clear hbuf hbel hsz hG a0 s0 hgA hgJ
        go_loopw [16] (fun kv wr2 => ∃ (k : Nat) (U : Bs), k ≤ 500 ∧ kv = .int .i64 k ∧ U.length = 512 ∧ Buf wr2 G 5 (U.map UInt8.toNat) ∧ Below G WA wr2) (fun kv _ => 500 - (intOf kv).toNat)
        case atStart => exact ⟨0, t, Nat.zero_le _, rfl, HTT.out.2, HBF.out.1, HBF.out.2⟩
        case round =>
         obtain ⟨k, U, hk, rfl, hU, hbu, hbb⟩ := hrel
         have k0 : (0 : Int) ≤ (k : Int) := by omega
         have hgs : WA.heap.size ≤ G := by rw [HG.out]; exact Nat.le_refl _
         have a0 := (hbb.cell (p := ⟨gA, oA + j, none⟩) (Nat.lt_of_lt_of_le HC.out.2.2.1 hgs)).trans HC.out.1
         have s0 := (hbb.cell (p := ⟨gJ, oJ + j, none⟩) (Nat.lt_of_lt_of_le HC.out.2.2.2 hgs)).trans HC.out.2.1
         have gAl := Nat.lt_of_lt_of_le HC.out.2.2.1 hbb.size
         have gJl := Nat.lt_of_lt_of_le HC.out.2.2.2 hbb.size
         by_cases hk1 : k < tl
         ·have k1 : (k : Int) < (tl : Int) := by omega
          by_cases hk2 : k < 500
          ·have k2 : (k : Int) < 500 := by omega
           have k3 : (k : Int) < 512 := by omega
           obtain ⟨jh, jv⟩ := HJB.out k hk1
           obtain ⟨v, hv⟩ : ∃ q, byteAt tj k = q := ⟨_, rfl⟩
           rw [hv] at jv
           have hv2 : v < 256 := by rw [← hv]; exact byteAt_lt _ _
           have hkU : k < U.length := by omega
           have hkM : k < (U.map UInt8.toNat).length := by rw [List.length_map]; exact hkU
           have u0 := hbu.cell hkM
           have uf := hbu.frozen hkM
           rw [List.getElem_map] at u0
           obtain ⟨u, hu⟩ : ∃ q, U[k].toNat = q := ⟨_, rfl⟩
           rw [hu] at u0
           have hu2 : u < 256 := by rw [← hu]; exact UInt8.toNat_lt _
           have hx := xor_8 u v hu2 hv2
           have hset := hbu.set hkM (u ^^^ v)
           have hxl : u ^^^ v < 256 := Nat.xor_lt_two_pow (n := 8) hu2 hv2
           have hmap : (U.map UInt8.toNat).set k (u ^^^ v) = (U.set k (UInt8.ofNat (u ^^^ v))).map UInt8.toNat := by
            rw [List.map_set, UInt8.toNat_ofNat', Nat.mod_eq_of_lt hxl]
           rw [hmap] at hset
           obtain ⟨xo, hxo⟩ : ∃ q, u ^^^ v = q := ⟨_, rfl⟩
           rw [hxo] at hx hset hxl
           have HU := Lib.hid (show (U.set k (UInt8.ofNat xo)).length = 512 ∧ Buf (wr.setCell ⟨G, k, none⟩ (.int .u8 (xo : Int))) G 5 ((U.set k (UInt8.ofNat xo)).map UInt8.toNat) from ⟨by rw [List.length_set]; exact hU, hset⟩)
           have HBB := Lib.hid (And.intro hbb hbu)
           have hGl := hbu.lt
           clear hv hu hset hmap hxo hU hkU hkM hbu hbb
           go_upto_region 20 with (fail)
           have HX := Lib.hid (And.intro u0 (And.intro uf (And.intro s0 (And.intro hGl gJl))))
           clear a0 s0 gAl gJl u0 uf
           refine wp_region_S 12 (fun _ => True) (fun w' => (w'.cell? ⟨G, k, none⟩ = some (.int .u8 (u : Int)) ∧ w'.frozen? ⟨G, k, none⟩ = false ∧ G < w'.heap.size) ∧ w'.cell? ⟨gJ, oJ + j, none⟩ = some (.string MJ) ∧ gJ < w'.heap.size ∧ w' = wr.drew) mixed ?_
           change wpAnyS _ _ _ _ _ _ _ _ _ _ wr.drew
           have hC2 : (wr.drew.cell? ⟨G, k, none⟩ = some (.int .u8 (u : Int)) ∧ wr.drew.frozen? ⟨G, k, none⟩ = false ∧ G < wr.drew.heap.size) ∧ wr.drew.cell? ⟨gJ, oJ + j, none⟩ = some (.string MJ) ∧ gJ < wr.drew.heap.size ∧ wr.drew = wr.drew := ⟨⟨HX.out.1, HX.out.2.1, HX.out.2.2.2.1⟩, HX.out.2.2.1, HX.out.2.2.2.2, rfl⟩
           have hE0 : ∀ L : Array Bool, HeldS 12 (fun _ => True) (fun w' => (w'.cell? ⟨G, k, none⟩ = some (.int .u8 (u : Int)) ∧ w'.frozen? ⟨G, k, none⟩ = false ∧ G < w'.heap.size) ∧ w'.cell? ⟨gJ, oJ + j, none⟩ = some (.string MJ) ∧ gJ < w'.heap.size ∧ w' = wr.drew) L wr.drew := fun L => ⟨trivial, fun _ => hC2⟩
           refine tkS 0 (.slice (some ⟨G, 0, none⟩) 512 cp) rfl (hE0 _) (fun w' hS => ?_) ?_
           ·clear hS; go_simp
           try go_simp
           refine tkS 1 (.int .i64 (k : Int)) rfl (hE0 _) (fun w' hS => ?_) ?_
           ·clear hS; go_simp
           try go_simp
           refine tkS 2 (.pointer (some ⟨G, k, none⟩)) rfl (hE0 _) (fun w' hS => ?_) ?_
           ·clear hS; go_simp
           try go_simp
           refine wpAnyS_take2 (i := 3) (v := .int .u8 (u : Int)) rfl (by decide) rfl (by kernel_rfl) (by kernel_rfl) (by kernel_rfl) (by kernel_rfl) (by kernel_rfl) (fun c a w h => h) (.inl ⟨by kernel_rfl, fun w' hS => ?_⟩) (hE0 _) ?_
           ·have x0 := hS.2.1.1; have xl := hS.2.1.2.2; go_simp
           try go_simp
           refine tkS 4 (.slice (some ⟨gJ, oJ, none⟩) jl cJ) rfl (hE0 _) (fun w' hS => ?_) ?_
           ·clear hS; go_simp
           try go_simp
           refine tkS 5 (.int .i64 (j : Int)) rfl (hE0 _) (fun w' hS => ?_) ?_
           ·clear hS; go_simp
           try go_simp
           refine tkS 6 (.pointer (some ⟨gJ, oJ + j, none⟩)) rfl (hE0 _) (fun w' hS => ?_) ?_
           ·clear hS; go_simp
           try go_simp
           refine wpAnyS_take2 (i := 7) (v := .string MJ) rfl (by decide) rfl (by kernel_rfl) (by kernel_rfl) (by kernel_rfl) (by kernel_rfl) (by kernel_rfl) (fun c a w h => h) (.inl ⟨by kernel_rfl, fun w' hS => ?_⟩) (hE0 _) ?_
           ·have x0 := hS.2.2.1; have xl := hS.2.2.2.1; go_simp
           try go_simp
           refine tkS 8 (.int .i64 (k : Int)) rfl (hE0 _) (fun w' hS => ?_) ?_
           ·clear hS; go_simp
           try go_simp
           refine tkS 9 (.int .u8 (v : Int)) rfl (hE0 _) (fun w' hS => ?_) ?_
           ·clear hS; go_simp
           try go_simp
           refine tkS 10 (.int .u8 (xo : Int)) rfl (hE0 _) (fun w' hS => ?_) ?_
           ·clear hS; go_simp
           try go_simp
           refine tkS 11 (.pointer (some ⟨G, k, none⟩)) rfl (hE0 _) (fun w' hS => ?_) ?_
           ·clear hS; go_simp
           try go_simp
           refine alS 12 ?_
           obtain ⟨u0, uf, ul⟩ := hC2.1
           unfold wpOp
           go_simp
           refine .inl ⟨⟨trivial, fun e => by cases e⟩, ?_⟩
           refine wpAnyS_done (by kernel_rfl) ?_ _
           clear u0 uf ul hE0 hC2 jh jv hx
           go_wp2
           go_roundw
           case rel => exact ⟨k + 1, U.set k (UInt8.ofNat xo), by omega, by go_num, HU.out.1, HU.out.2.drew, (below_set HBB.out.1.drew G k _ (Nat.le_refl _))⟩
           case measure => simp [intOf]; omega
          ·have k2 : ¬ ((k : Int) < 500) := by omega
           have HBB := Lib.hid (And.intro hbb hbu)
           have hconv := fun (w' : World) (hB : Buf w' G 5 (U.map UInt8.toNat)) => (show (convert 62 9 (.slice (some ⟨G, 0, none⟩) 512 cp)).run Tryz.prog w' = .ok (.string (mk U)) w' by
            rw [← hU]
            exact run_convert_bytes_back (P := Tryz.prog) w' 62 9 5 ⟨G, 0, none⟩ cp U Tryz.underlying62 Tryz.underlying5 Tryz.underlying9 (fun q hq => by
             rw [add_lit', Nat.zero_add, hB.cell (by rw [List.length_map]; exact hq), List.getElem_map]))
           have hD0 : Dsk wr X' D ds' := HZ.out.1.below (by rw [HG.out]; exact hbb)
           have hnw0 : Nw w1 X' wr := HZ.out.2.2.1.step (by rw [HG.out]; exact hbb)
           have HD0 := Lib.hid (And.intro hD0 hnw0)
           have KSP := fun (w7 : World) (h7 : Dsk w7 X' D ds') => spoil_any X' D ds' z U w7 h7 HZ.out.2.1.syn (by omega) (by rw [HZ.out.2.1.len]; exact HZ.out.2.2.2)
           have HCV := Lib.hid hconv
           have HUL := Lib.hid hU
           clear hconv hD0 hnw0 hU
           go_upto_region 21 with (fail)
           refine wp_region_S 7 (fun _ => True) (fun w' => w'.cell? ⟨gA, oA + j, none⟩ = some (.int .i64 (z : Int)) ∧ gA < w'.heap.size ∧ Buf w' G 5 (U.map UInt8.toNat)) mixed ?_
           change wpAnyS _ _ _ _ _ _ _ _ _ _ wr.drew
           have hC2 : wr.drew.cell? ⟨gA, oA + j, none⟩ = some (.int .i64 (z : Int)) ∧ gA < wr.drew.heap.size ∧ Buf wr.drew G 5 (U.map UInt8.toNat) := ⟨a0, gAl, hbu.drew⟩
           have hD1 : Dsk wr.drew X' D ds' := HD0.out.1.drew
           have hN1 : Nw w1 X' wr.drew := HD0.out.2.step ((Below.refl _ _).drew)
           obtain ⟨wd, hwd⟩ : ∃ q, wr.drew = q := ⟨_, rfl⟩
           rw [hwd] at hC2 hD1 hN1 ⊢
           have HD := Lib.hid (And.intro hC2 (And.intro hD1 hN1))
           clear hwd hC2 hD1 hN1 a0 s0 gAl gJl hbu hbb
           have hE0 : ∀ L : Array Bool, HeldS 7 (fun _ => True) (fun w' => w'.cell? ⟨gA, oA + j, none⟩ = some (.int .i64 (z : Int)) ∧ gA < w'.heap.size ∧ Buf w' G 5 (U.map UInt8.toNat)) L wd := fun L => ⟨trivial, fun _ => HD.out.1⟩
           refine tkS 0 (.pointer (some ⟨D, 0, none⟩)) rfl (hE0 _) (fun w' hS => ?_) ?_
           ·clear hS; go_simp
           try go_simp
           refine tkS 1 (.slice (some ⟨gA, oA, none⟩) atl cA) rfl (hE0 _) (fun w' hS => ?_) ?_
           ·clear hS; go_simp
           try go_simp
           refine tkS 2 (.int .i64 (j : Int)) rfl (hE0 _) (fun w' hS => ?_) ?_
           ·clear hS; go_simp
           try go_simp
           refine tkS 3 (.pointer (some ⟨gA, oA + j, none⟩)) rfl (hE0 _) (fun w' hS => ?_) ?_
           ·clear hS; go_simp
           try go_simp
           refine wpAnyS_take2 (i := 4) (v := .int .i64 (z : Int)) rfl (by decide) rfl (by kernel_rfl) (by kernel_rfl) (by kernel_rfl) (by kernel_rfl) (by kernel_rfl) (fun c a w h => h) (.inl ⟨by kernel_rfl, fun w' hS => ?_⟩) (hE0 _) ?_
           ·have x0 := hS.2.1; have xl := hS.2.2.1; go_simp
           try go_simp
           refine tkS 5 (.slice (some ⟨G, 0, none⟩) 512 cp) rfl (hE0 _) (fun w' hS => ?_) ?_
           ·clear hS; go_simp
           try go_simp
           refine wpAnyS_take2 (i := 6) (v := .string (mk U)) rfl (by decide) rfl (by kernel_rfl) (by kernel_rfl) (by kernel_rfl) (by kernel_rfl) (by kernel_rfl) (fun c a w h => h) (.inl ⟨by kernel_rfl, fun w' hS => ?_⟩) (hE0 _) ?_
           ·have x0 := HCV.out w' hS.2.2.2; go_simp
           try go_simp
           refine alS 7 ?_
           unfold wpOp
           go_simp
           refine .inl ?_
           go_at_call 34
           refine (KSP wd HD.out.2.1).mono ?_
           rintro e w8 ⟨rfl, hd8, hf8⟩
           have hE8 : ∀ L : Array Bool, L.getD 7 false = true → HeldS 7 (fun _ => True) (fun w' => w'.cell? ⟨gA, oA + j, none⟩ = some (.int .i64 (z : Int)) ∧ gA < w'.heap.size ∧ Buf w' G 5 (U.map UInt8.toNat)) L w8 := fun L hL => ⟨trivial, fun e => by rw [hL] at e; cases e⟩
           have HR8 := Lib.hid (And.intro hd8 (HD.out.2.2.mv (Mv.of_frm hf8)))
           refine ⟨hE8 _ (by kernel_rfl), ?_⟩
           try go_simp
           clear hd8 hf8 hE0 hE8
           refine wpAnyS_done (by kernel_rfl) ?_ _
           go_wp2
           go_roundw
           case rel => exact ⟨j + 1, X', ds'.spoil z U, by omega, by go_num, HR8.out.1, ⟨HZ.out.2.1.on, HZ.out.2.1.cut, rfl, by unfold DS.spoil; rw [List.length_set]; exact HZ.out.2.1.len⟩, HR8.out.2⟩
           case measure => simp [intOf]; omega
         ·have k1 : ¬ ((k : Int) < (tl : Int)) := by omega
          have HBB := Lib.hid (And.intro hbb hbu)
          have hconv := fun (w' : World) (hB : Buf w' G 5 (U.map UInt8.toNat)) => (show (convert 62 9 (.slice (some ⟨G, 0, none⟩) 512 cp)).run Tryz.prog w' = .ok (.string (mk U)) w' by
           rw [← hU]
           exact run_convert_bytes_back (P := Tryz.prog) w' 62 9 5 ⟨G, 0, none⟩ cp U Tryz.underlying62 Tryz.underlying5 Tryz.underlying9 (fun q hq => by
            rw [add_lit', Nat.zero_add, hB.cell (by rw [List.length_map]; exact hq), List.getElem_map]))
          have hD0 : Dsk wr X' D ds' := HZ.out.1.below (by rw [HG.out]; exact hbb)
          have hnw0 : Nw w1 X' wr := HZ.out.2.2.1.step (by rw [HG.out]; exact hbb)
          have HD0 := Lib.hid (And.intro hD0 hnw0)
          have KSP := fun (w7 : World) (h7 : Dsk w7 X' D ds') => spoil_any X' D ds' z U w7 h7 HZ.out.2.1.syn (by omega) (by rw [HZ.out.2.1.len]; exact HZ.out.2.2.2)
          have HCV := Lib.hid hconv
          have HUL := Lib.hid hU
          clear hconv hD0 hnw0 hU
          go_upto_region 21 with (fail)
          refine wp_region_S 7 (fun _ => True) (fun w' => w'.cell? ⟨gA, oA + j, none⟩ = some (.int .i64 (z : Int)) ∧ gA < w'.heap.size ∧ Buf w' G 5 (U.map UInt8.toNat)) mixed ?_
          change wpAnyS _ _ _ _ _ _ _ _ _ _ wr.drew
          have hC2 : wr.drew.cell? ⟨gA, oA + j, none⟩ = some (.int .i64 (z : Int)) ∧ gA < wr.drew.heap.size ∧ Buf wr.drew G 5 (U.map UInt8.toNat) := ⟨a0, gAl, hbu.drew⟩
          have hD1 : Dsk wr.drew X' D ds' := HD0.out.1.drew
          have hN1 : Nw w1 X' wr.drew := HD0.out.2.step ((Below.refl _ _).drew)
          obtain ⟨wd, hwd⟩ : ∃ q, wr.drew = q := ⟨_, rfl⟩
          rw [hwd] at hC2 hD1 hN1 ⊢
          have HD := Lib.hid (And.intro hC2 (And.intro hD1 hN1))
          clear hwd hC2 hD1 hN1 a0 s0 gAl gJl hbu hbb
          have hE0 : ∀ L : Array Bool, HeldS 7 (fun _ => True) (fun w' => w'.cell? ⟨gA, oA + j, none⟩ = some (.int .i64 (z : Int)) ∧ gA < w'.heap.size ∧ Buf w' G 5 (U.map UInt8.toNat)) L wd := fun L => ⟨trivial, fun _ => HD.out.1⟩
          refine tkS 0 (.pointer (some ⟨D, 0, none⟩)) rfl (hE0 _) (fun w' hS => ?_) ?_
          ·clear hS; go_simp
          try go_simp
          refine tkS 1 (.slice (some ⟨gA, oA, none⟩) atl cA) rfl (hE0 _) (fun w' hS => ?_) ?_
          ·clear hS; go_simp
          try go_simp
          refine tkS 2 (.int .i64 (j : Int)) rfl (hE0 _) (fun w' hS => ?_) ?_
          ·clear hS; go_simp
          try go_simp
          refine tkS 3 (.pointer (some ⟨gA, oA + j, none⟩)) rfl (hE0 _) (fun w' hS => ?_) ?_
          ·clear hS; go_simp
          try go_simp
          refine wpAnyS_take2 (i := 4) (v := .int .i64 (z : Int)) rfl (by decide) rfl (by kernel_rfl) (by kernel_rfl) (by kernel_rfl) (by kernel_rfl) (by kernel_rfl) (fun c a w h => h) (.inl ⟨by kernel_rfl, fun w' hS => ?_⟩) (hE0 _) ?_
          ·have x0 := hS.2.1; have xl := hS.2.2.1; go_simp
          try go_simp
          refine tkS 5 (.slice (some ⟨G, 0, none⟩) 512 cp) rfl (hE0 _) (fun w' hS => ?_) ?_
          ·clear hS; go_simp
          try go_simp
          refine wpAnyS_take2 (i := 6) (v := .string (mk U)) rfl (by decide) rfl (by kernel_rfl) (by kernel_rfl) (by kernel_rfl) (by kernel_rfl) (by kernel_rfl) (fun c a w h => h) (.inl ⟨by kernel_rfl, fun w' hS => ?_⟩) (hE0 _) ?_
          ·have x0 := HCV.out w' hS.2.2.2; go_simp
          try go_simp
          refine alS 7 ?_
          unfold wpOp
          go_simp
          refine .inl ?_
          go_at_call 34
          refine (KSP wd HD.out.2.1).mono ?_
          rintro e w8 ⟨rfl, hd8, hf8⟩
          have hE8 : ∀ L : Array Bool, L.getD 7 false = true → HeldS 7 (fun _ => True) (fun w' => w'.cell? ⟨gA, oA + j, none⟩ = some (.int .i64 (z : Int)) ∧ gA < w'.heap.size ∧ Buf w' G 5 (U.map UInt8.toNat)) L w8 := fun L hL => ⟨trivial, fun e => by rw [hL] at e; cases e⟩
          have HR8 := Lib.hid (And.intro hd8 (HD.out.2.2.mv (Mv.of_frm hf8)))
          refine ⟨hE8 _ (by kernel_rfl), ?_⟩
          try go_simp
          clear hd8 hf8 hE0 hE8
          refine wpAnyS_done (by kernel_rfl) ?_ _
          go_wp2
          go_roundw
          case rel => exact ⟨j + 1, X', ds'.spoil z U, by omega, by go_num, HR8.out.1, ⟨HZ.out.2.1.on, HZ.out.2.1.cut, rfl, by unfold DS.spoil; rw [List.length_set]; exact HZ.out.2.1.len⟩, HR8.out.2⟩
          case measure => simp [intOf]; omega
       ·have KR := read_out X' D ds' ia wr hd (by rw [hq.len]; omega)
        have HZ := Lib.hid (And.intro hd (And.intro hq hnw))
        clear hd hq hnw hin htl
        go_wp2_with (first
         | (go_at_call 33; refine KR.mono ?_; rintro e w5 ⟨rfl, hw⟩; obtain rfl := hw.symm; clear KR))
        go_roundw
        case rel => exact ⟨j + 1, X', ds', by omega, by go_num, HZ.out⟩
        case measure => simp [intOf]; omega
      ·have jc1 : ¬ ((j : Int) < 6) := by omega
       have HQ := Lib.hid (And.intro hd (And.intro hq hnw))
       clear hd hq hnw
       go_wp2_with (fail)
       go_meet
       exact ⟨X', ds', HQ.out⟩
     ·have jb1 : ¬ ((j : Int) < (jl : Int)) := by omega
      have HQ := Lib.hid (And.intro hd (And.intro hq hnw))
      clear hd hq hnw
      go_wp2_with (fail)
      go_meet
      exact ⟨X', ds', HQ.out⟩
    ·have ja1 : ¬ ((j : Int) < (atl : Int)) := by omega
     have HQ := Lib.hid (And.intro hd (And.intro hq hnw))
     clear hd hq hnw
     go_wp2_with (fail)
     go_meet
     exact ⟨X', ds', HQ.out⟩
  case rest =>
   obtain ⟨X', ds', hd, hq, hnw⟩ := hcut
   obtain ⟨wr, hwr⟩ : ∃ q, wc = q := ⟨_, rfl⟩
   try rw [hwr] at hd hnw ⊢
   try clear hwr
   -- from: wr; hd : Dsk wr X' D ds'; hq : Quiet ds'; hnw : Nw w1 X' wr
   have htb : TB wr := HT1.out.1.below HT1.out.2 hnw.below
   have hpos : 0 < wr.heap.size := Nat.lt_of_lt_of_le HT1.out.2 hnw.below.size
   have h0X : 0 ∉ X' := fun hx => by have := hnw.new 0 hx; have := HT1.out.2; omega
   have KM := mount_any X' D ds' wr hd hq.on (by rw [hq.len]; decide) (by rw [hq.syn]; simp) htb hpos h0X
   have hgdr := hd.good
   obtain ⟨R, hR⟩ : ∃ q, mountM ds' = q := ⟨_, rfl⟩
   have hMR := mountM_facts hq hR
   rw [hR] at KM
   obtain ⟨c, dsn, st⟩ := R
   unfold MountP at KM
   obtain ⟨fl, hfl⟩ : ∃ q, filesH (secAt ds'.vis 0) = q := ⟨_, rfl⟩
   rw [hfl] at KM hMR
   have HNW := Lib.hid hnw
   cases st with
   | none =>
    have hc := hMR.1 rfl
    clear hd hq hnw htb hpos h0X hgdr hR hfl hMR
    dsimp only at KM
    rcases hc with rfl | rfl
    ·go_wp2_with (first
      | (go_at_call 24; refine KM.mono ?_; rintro e w5 ⟨X5, hd5, hm5, rfl⟩; have H5 := Lib.hid (HNW.out.mv hm5); clear hd5 hm5 KM))
     go_ret
     exact ⟨rfl, HB1.out.trans (H5.out.below.mono HB1.out.size)⟩
    ·go_wp2_with (first
      | (go_at_call 24; refine KM.mono ?_; rintro e w5 ⟨X5, hd5, hm5, rfl⟩; have H5 := Lib.hid (HNW.out.mv hm5); clear hd5 hm5 KM))
     go_ret
     exact ⟨rfl, HB1.out.trans (H5.out.below.mono HB1.out.size)⟩
   | some st =>
    obtain ⟨F, T⟩ := st
    have HRD := Lib.hid (hMR.2 F T rfl)
    clear hd hq htb hpos h0X hgdr hR hfl hMR hnw
    dsimp only at KM
    go_upto_region 25 with (first
     | (go_at_call 24; refine KM.mono ?_; rintro e w5 ⟨X5, hd5, hm5, S5, Lg5, M5, rfl, hst5, _, _, _⟩; have H5 := Lib.hid (And.intro hst5 (HNW.out.mv hm5)); clear hd5 hm5 hst5 KM))
    have KNM := fnames_any X5 S5 D Lg5 M5 _ w5 H5.out.1 HRD.out.1.b.len
    dsimp only at KNM
    have hlen : (namesS F).length = F.length := by unfold namesS; rw [List.length_mergeSort, List.length_map]
    have hF1000 : F.length ≤ 1000 := HRD.out.1.b.len
    obtain ⟨nl, hnl⟩ : ∃ q, (namesS F).length = q := ⟨_, rfl⟩
    rw [hnl] at KNM
    have HNL := Lib.hid hnl
    have hnl9 : nl ≤ 1000 := by omega
    clear hlen hF1000 hnl
    go_wp2_with (first
     | (go_at_call 22; refine KNM.mono ?_; rintro e w6 ⟨A6, c6, rfl, hrow6, hb6⟩; have H6 := Lib.hid (And.intro (H5.out.1.below hb6) (And.intro (H5.out.2.step hb6) (Lies.of_row hrow6))); clear hrow6 hb6 KNM))
    go_loopw [20] (fun iv wr2 => ∃ j : Nat, j ≤ nl ∧ iv = .int .i64 j ∧ Below w6.heap.size w6 wr2) (fun iv _ => nl - (intOf iv).toNat)
    case atStart => exact ⟨0, Nat.zero_le _, rfl, Below.refl _ _⟩
    case round =>
     obtain ⟨j, hj, rfl, hbj⟩ := hrel
     have j0 : (0 : Int) ≤ (j : Int) := by omega
     by_cases hjl : j < nl
     ·have j1 : (j : Int) < (nl : Int) := by omega
      have hjn : j < (namesS F).length := by rw [HNL.out]; exact hjl
      obtain ⟨g, o, rfl, hgl, hcs⟩ := (H6.out.2.2.below (Nat.le_refl _) hbj) (by rw [List.length_map]; omega)
      have c0 := hcs j (.string (mk (namesS F)[j])) (by rw [List.getElem?_map, List.getElem?_eq_getElem hjn]; rfl)
      have hmem : (namesS F)[j] ∈ F.map (·.name) := (List.mergeSort_perm (F.map (·.name)) leB).mem_iff.1 (List.getElem_mem hjn)
      have hrise := fun (q : Nat) (hq : q + 1 = j) => (by subst hq; exact names_rise HRD.out.2.1 q hjn : ¬ ((namesS F)[j] ≤ (namesS F)[q]'(by omega)))
      have hprev := fun (q : Nat) (hq : q + 1 = j) => hcs q (.string (mk ((namesS F)[q]'(by omega)))) (by rw [List.getElem?_map, List.getElem?_eq_getElem (by omega)]; rfl)
      obtain ⟨nm, hnm⟩ : ∃ q, (namesS F)[j] = q := ⟨_, rfl⟩
      rw [hnm] at c0 hmem
      simp only [hnm] at hrise
      obtain ⟨f, hf, hfn⟩ := List.mem_map.1 hmem
      have hgf : goodF nm = true := by rw [← hfn]; exact HRD.out.2.2 f hf
      have hnl80 : nm.length ≤ 80 := goodF_len hgf
      have hst := H6.out.1.below hbj
      have KRD := opS_any X5 S5 D Lg5 M5 _ nm wr hst HRD.out.1 (by unfold maxLen; omega)
      have hfo : fileOf F nm = some f := by
       cases hq : fileOf F nm with
       | none => exact absurd hfn (fileOf_none.1 hq f hf)
       | some f2 =>
        have h1 := fileOf_mem hq
        have h2 := fileOf_name hq
        rw [name_inj HRD.out.2.1 h1 hf (h2.trans hfn.symm)]
      have hrw : (readW ⟨dsn, F, T, fl, false⟩ nm).length = f.size := by
       unfold readW
       rw [if_pos hgf]
       simp only
       rw [hfo, Option.map_some, Option.getD_some]
       exact readF_len2 HRD.out.1 H6.out.1.dsk.good hf
      have hfe : findE F nm = 0 := by unfold findE; rw [if_pos hgf, hfo]; rfl
      have hsz : sizeW F nm = f.size := by unfold sizeW; rw [if_pos hgf, hfo]; rfl
      dsimp only at KRD
      rw [hfe] at KRD
      obtain ⟨RX, hRX⟩ : ∃ q, mk (readW ⟨dsn, F, T, fl, false⟩ nm) = q := ⟨_, rfl⟩
      have hRXs : (RX.size : Int) = (f.size : Int) := by rw [← hRX, mk_size, hrw]
      rw [hRX] at KRD
      have KSZ := fun (w7 : World) (hb : Below wr.heap.size wr w7) => fsize_any X5 S5 D Lg5 M5 _ nm w7 (hst.below hb) HRD.out.1.up HRD.out.1.on (by unfold maxLen; omega)
      dsimp only at KSZ
      rw [hfe, hsz] at KSZ
      have KGD := fun w7 => rgood_any (mk nm) w7 (by rw [mk_size]; unfold maxLen; omega)
      rw [mk_data, hgf] at KGD
      obtain ⟨NM, hNM⟩ : ∃ q, mk nm = q := ⟨_, rfl⟩
      simp only [hNM] at KRD KSZ KGD c0
      obtain ⟨fz, hfz⟩ : ∃ q, f.size = q := ⟨_, rfl⟩
      rw [hfz] at hRXs
      simp only [hfz] at KSZ
      have HC := Lib.hid (And.intro c0 hgl)
      have HPV := Lib.hid (And.intro hprev (And.intro hrise hNM))
      have HKS := Lib.hid KSZ
      have HBJ := Lib.hid hbj
      clear hcs hmem hrise hprev hnm hf hfn hgf hst hfo hrw hfe hsz hRX hNM hfz hbj KSZ hnl80
      go_upto_region 30 with (first
       | (go_at_call 17; refine KRD.mono ?_; rintro e w7 ⟨rfl, hb7⟩; have KSZ7 := HKS.out w7 hb7; have c0 := (hb7.cell (p := ⟨g, o + j, none⟩) HC.out.2).trans HC.out.1; have hgl := Nat.lt_of_lt_of_le HC.out.2 hb7.size; have H7 := Lib.hid hb7; clear hb7 KRD))
      go_upto_region 31 with (first
       | (go_at_call 18; refine KSZ7.mono ?_; rintro e w8 ⟨rfl, hb8⟩; have H8 := Lib.hid (H7.out.trans (hb8.mono H7.out.size)); clear hb8 KSZ7))
      have KG8 := KGD w8.drew
      have hS0 : Below wr.heap.size wr w8.drew := H8.out.drew
      refine wp_region_held (S := fun w' => Below wr.heap.size wr w') mixed ?_
      change wpAnyH _ _ _ _ _ _ _ _ w8.drew
      obtain ⟨wd, hwd⟩ : ∃ q, w8.drew = q := ⟨_, rfl⟩
      rw [hwd] at hS0 KG8 ⊢
      clear hwd c0 hgl KGD
      refine tkH 0 (.slice (some ⟨g, o, none⟩) nl c6) rfl hS0 (fun w' hS => ?_) ?_
      ·clear hS; go_simp
      try go_simp
      refine tkH 1 (.int .i64 (j : Int)) rfl hS0 (fun w' hS => ?_) ?_
      ·clear hS; go_simp
      try go_simp
      refine tkH 2 (.pointer (some ⟨g, o + j, none⟩)) rfl hS0 (fun w' hS => ?_) ?_
      ·clear hS; go_simp
      try go_simp
      refine tkH 3 (.string NM) rfl hS0 (fun w' hS => ?_) ?_
      ·have q0 := (hS.cell (p := ⟨g, o + j, none⟩) HC.out.2).trans HC.out.1; have ql := Nat.lt_of_lt_of_le HC.out.2 hS.size; go_simp
      try go_simp
      refine alH 4 ?_
      unfold wpOp
      go_simp
      refine .inl ?_
      go_at_call 12
      refine KG8.mono ?_
      rintro e w9 ⟨rfl, hw9⟩
      obtain rfl := hw9
      refine ⟨hS0, ?_⟩
      try go_simp
      refine tkH 5 (.bool false) rfl hS0 (fun w' hS => ?_) ?_
      ·clear hS; go_simp
      try go_simp
      refine tkH 6 (.bool false) rfl hS0 (fun w' hS => ?_) ?_
      ·clear hS; go_simp
      try go_simp
      refine tkH 7 (.int .i64 0) rfl hS0 (fun w' hS => ?_) ?_
      ·clear hS; go_simp
      try go_simp
      refine tkH 8 (.bool false) rfl hS0 (fun w' hS => ?_) ?_
      ·clear hS; go_simp
      try go_simp
      refine tkH 9 (.bool false) rfl hS0 (fun w' hS => ?_) ?_
      ·clear hS; go_simp
      try go_simp
      refine tkH 10 (.bool false) rfl hS0 (fun w' hS => ?_) ?_
      ·clear hS; go_simp
      try go_simp
      refine tkH 11 (.int .i64 0) rfl hS0 (fun w' hS => ?_) ?_
      ·clear hS; go_simp
      try go_simp
      refine tkH 12 (.bool false) rfl hS0 (fun w' hS => ?_) ?_
      ·clear hS; go_simp
      try go_simp
      refine tkH 13 (.bool false) rfl hS0 (fun w' hS => ?_) ?_
      ·clear hS; go_simp
      try go_simp
      refine tkH 14 (.bool false) rfl hS0 (fun w' hS => ?_) ?_
      ·clear hS; go_simp
      try go_simp
      refine tkH 15 (.int .i64 (fz : Int)) rfl hS0 (fun w' hS => ?_) ?_
      ·clear hS; go_simp
      try go_simp
      refine tkH 16 (.string RX) rfl hS0 (fun w' hS => ?_) ?_
      ·clear hS; go_simp
      try go_simp
      refine tkH 17 (.int .i64 (fz : Int)) rfl hS0 (fun w' hS => ?_) ?_
      ·clear hS; go_simp
      try go_simp
      refine tkH 18 (.bool false) rfl hS0 (fun w' hS => ?_) ?_
      ·clear hS; go_simp
      try go_simp
      refine tkH 19 (.bool false) rfl hS0 (fun w' hS => ?_) ?_
      ·clear hS; go_simp
      try go_simp
      refine tkH 20 (.bool false) rfl hS0 (fun w' hS => ?_) ?_
      ·clear hS; go_simp
      try go_simp
      refine tkH 21 (.int .i64 (j : Int)) rfl hS0 (fun w' hS => ?_) ?_
      ·clear hS; go_simp
      try go_simp
      rcases Nat.eq_zero_or_pos j with rfl | hjp
      ·skip
       refine tkH 22 (.bool false) rfl hS0 (fun w' hS => ?_) ?_
       ·clear hS; go_simp
       try go_simp
       refine tkH 23 (.bool false) rfl hS0 (fun w' hS => ?_) ?_
       ·clear hS; go_simp
       try go_simp
       refine wpAnyH_take (i := 24) (v := undef) rfl (by kernel_rfl) (by kernel_rfl) (by kernel_rfl) (fun c a w h => h) (.inr ⟨by rfl, rfl⟩) hS0 ?_
       try go_simp
       refine wpAnyH_take (i := 25) (v := undef) rfl (by kernel_rfl) (by kernel_rfl) (by kernel_rfl) (fun c a w h => h) (.inr ⟨by rfl, rfl⟩) hS0 ?_
       try go_simp
       refine wpAnyH_take (i := 26) (v := undef) rfl (by kernel_rfl) (by kernel_rfl) (by kernel_rfl) (fun c a w h => h) (.inr ⟨by rfl, rfl⟩) hS0 ?_
       try go_simp
       refine wpAnyH_take (i := 27) (v := undef) rfl (by kernel_rfl) (by kernel_rfl) (by kernel_rfl) (fun c a w h => h) (.inr ⟨by rfl, rfl⟩) hS0 ?_
       try go_simp
       refine wpAnyH_take (i := 28) (v := undef) rfl (by kernel_rfl) (by kernel_rfl) (by kernel_rfl) (fun c a w h => h) (.inr ⟨by rfl, rfl⟩) hS0 ?_
       try go_simp
       refine wpAnyH_take (i := 29) (v := undef) rfl (by kernel_rfl) (by kernel_rfl) (by kernel_rfl) (fun c a w h => h) (.inr ⟨by rfl, rfl⟩) hS0 ?_
       try go_simp
       refine wpAnyH_take (i := 30) (v := undef) rfl (by kernel_rfl) (by kernel_rfl) (by kernel_rfl) (fun c a w h => h) (.inr ⟨by rfl, rfl⟩) hS0 ?_
       try go_simp
       refine wpAnyH_take (i := 31) (v := undef) rfl (by kernel_rfl) (by kernel_rfl) (by kernel_rfl) (fun c a w h => h) (.inr ⟨by rfl, rfl⟩) hS0 ?_
       try go_simp
       refine wpAnyH_take (i := 32) (v := undef) rfl (by kernel_rfl) (by kernel_rfl) (by kernel_rfl) (fun c a w h => h) (.inr ⟨by rfl, rfl⟩) hS0 ?_
       try go_simp
       refine wpAnyH_take (i := 33) (v := undef) rfl (by kernel_rfl) (by kernel_rfl) (by kernel_rfl) (fun c a w h => h) (.inr ⟨by rfl, rfl⟩) hS0 ?_
       try go_simp
       refine tkH 34 (.bool false) rfl hS0 (fun w' hS => ?_) ?_
       ·clear hS; go_simp
       try go_simp
       refine tkH 35 (.bool false) rfl hS0 (fun w' hS => ?_) ?_
       ·clear hS; go_simp
       try go_simp
       refine wpAnyH_done (by kernel_rfl) ?_ _
       have HS0 := Lib.hid hS0
       clear hS0
       go_wp2
       go_roundw
       case rel => exact ⟨1, by omega, by go_num, HBJ.out.trans (HS0.out.mono HBJ.out.size)⟩
       case measure => simp [intOf]; omega
      ·obtain ⟨p, hpj⟩ : ∃ p, p + 1 = j := ⟨j - 1, by omega⟩
       have hpv := HPV.out.1 p hpj
       have hri := HPV.out.2.1 p hpj
       have hpl : p < (namesS F).length := by omega
       obtain ⟨pn, hpn⟩ : ∃ q, (namesS F)[p] = q := ⟨_, rfl⟩
       rw [hpn] at hpv hri
       obtain ⟨PN, hPN⟩ : ∃ q, mk pn = q := ⟨_, rfl⟩
       rw [hPN] at hpv
       have hle := less_of_not_le hri
       rw [← hPN] at hpv
       have hlt1 : Op.bytesLess NM.toList PN.toList = false := by rw [← HPV.out.2.2, ← hPN, mk_toList', mk_toList']; exact hle.1
       have hlt2 : (NM.toList == PN.toList) = false := by rw [← HPV.out.2.2, ← hPN, mk_toList', mk_toList']; exact hle.2
       rw [hPN] at hpv
       have hp0 : (j : Int) > 0 := by omega
       have hp0' : (0 : Int) < (j : Int) := by omega
       have hpw : IntKind.i64.wrap ((j : Int) - 1) = (p : Int) := by rw [show (j : Int) - 1 = (p : Int) by omega]; exact wrI (by omega) (by omega)
       have hps : (j : Int) - 1 = (p : Int) := by omega
       have hpw2 : IntKind.i64.wrap (p : Int) = (p : Int) := wrI (by omega) (by omega)
       have hpn0 : (0 : Int) ≤ (p : Int) := by omega
       have hpn1 : (p : Int) < (nl : Int) := by omega
       have HPC := Lib.hid hpv
       clear hri hpn hPN hle hpv hpl hpj
       refine tkH 22 (.bool true) rfl hS0 (fun w' hS => ?_) ?_
       ·clear hS; go_simp
       try go_simp
       refine tkH 23 (.bool true) rfl hS0 (fun w' hS => ?_) ?_
       ·clear hS; go_simp
       try go_simp
       refine tkH 24 (.slice (some ⟨g, o, none⟩) nl c6) rfl hS0 (fun w' hS => ?_) ?_
       ·clear hS; go_simp
       try go_simp
       refine tkH 25 (.int .i64 (j : Int)) rfl hS0 (fun w' hS => ?_) ?_
       ·clear hS; go_simp
       try go_simp
       refine tkH 26 (.pointer (some ⟨g, o + j, none⟩)) rfl hS0 (fun w' hS => ?_) ?_
       ·clear hS; go_simp
       try go_simp
       refine tkH 27 (.string NM) rfl hS0 (fun w' hS => ?_) ?_
       ·have q0 := (hS.cell (p := ⟨g, o + j, none⟩) HC.out.2).trans HC.out.1; have ql := Nat.lt_of_lt_of_le HC.out.2 hS.size; go_simp
       try go_simp
       refine tkH 28 (.slice (some ⟨g, o, none⟩) nl c6) rfl hS0 (fun w' hS => ?_) ?_
       ·clear hS; go_simp
       try go_simp
       refine tkH 29 (.int .i64 (j : Int)) rfl hS0 (fun w' hS => ?_) ?_
       ·clear hS; go_simp
       try go_simp
       refine tkH 30 (.int .i64 (p : Int)) rfl hS0 (fun w' hS => ?_) ?_
       ·clear hS; go_simp
       try go_simp
       refine tkH 31 (.pointer (some ⟨g, o + p, none⟩)) rfl hS0 (fun w' hS => ?_) ?_
       ·clear hS; go_simp
       try go_simp
       refine tkH 32 (.string PN) rfl hS0 (fun w' hS => ?_) ?_
       ·have q0 := (hS.cell (p := ⟨g, o + p, none⟩) HC.out.2).trans HPC.out; have ql := Nat.lt_of_lt_of_le HC.out.2 hS.size; go_simp
       try go_simp
       refine tkH 33 (.bool false) rfl hS0 (fun w' hS => ?_) ?_
       ·clear hS; go_simp
       try go_simp
       refine tkH 34 (.bool false) rfl hS0 (fun w' hS => ?_) ?_
       ·clear hS; go_simp
       try go_simp
       refine tkH 35 (.bool false) rfl hS0 (fun w' hS => ?_) ?_
       ·clear hS; go_simp
       try go_simp
       refine wpAnyH_done (by kernel_rfl) ?_ _
       have HS0 := Lib.hid hS0
       clear hS0 hlt1 hlt2
       go_wp2
       go_roundw
       case rel => exact ⟨j + 1, by omega, by go_num, HBJ.out.trans (HS0.out.mono HBJ.out.size)⟩
       case measure => simp [intOf]; omega
     ·obtain rfl : j = nl := by omega
      have HBJ := Lib.hid hbj
      clear hbj
      go_wp2
      go_ret
      exact ⟨rfl, HB1.out.trans ((H6.out.2.1.step HBJ.out).below.mono HB1.out.size)⟩
end Go.Proofs.YtcmcdddnckcpcaaGreatDoor
namespace Go.Proofs.YtcmcdddnckcpcaaGreatDoor
open Go.ChangeShapes Go.WideShapes Go.ChangeAt Go.RowKit
theorem own : ownKnob Tryz.prog.godebug = none := by kernel_rfl
theorem laidOut : laidOutB Tryz.prog = true := by kernel_rfl
theorem tb_of {W : World} {laid : List (String × DataW Unit)} (hlist : laid = Rows.fileNamesRow.laid) (hmet : laidMetH Tryz.prog laid W) : TB W := by
 subst hlist
 rw [Go.MakeChecks.laidMetH_plain _ _ _ (by kernel_rfl)] at hmet
 rw [show Rows.fileNamesRow.laid = [("stemma/crc.table", (Lib.tabData .u32 tblL : DataW Unit))] by kernel_rfl] at hmet
 have htab : Lib.TabIs Tryz.prog W "stemma/crc.table" .u32 tblL :=
  Lib.tabIs_of_head (g := 0) (t := 186) (e := 153) (n := 16) (by kernel_rfl) (by kernel_rfl) (by kernel_rfl) (by kernel_rfl) (by kernel_rfl) (by kernel_rfl) hmet
 intro k hk
 exact htab.cell (by kernel_rfl) k hk
theorem tb_pos {W : World} (h : TB W) : 0 < W.heap.size := by
 have := h 0 (by decide)
 rcases Nat.eq_zero_or_pos W.heap.size with h0 | h0
 ·rw [World.cell?, Array.getElem?_eq_none (by simp [h0])] at this; cases this
 ·exact h0
noncomputable def laidW (os : Os) : World := World.doorLaid Tryz.prog 400 os
theorem laid_met (os : Os) (args : Array Value) : laidMet Tryz.prog Rows.fileNamesRow.laid ((laidW os).forCall (fun _ _ => 0) ⟨#[], args, []⟩).memory :=
 laidMet_of_run' 8 (by kernel_rfl) (by kernel_rfl)
end Go.Proofs.YtcmcdddnckcpcaaGreatDoor
namespace Go.Proofs.YtcmcdddnckcpcaaGreatDoor
open Go.ChangeShapes Go.WideShapes Go.ChangeAt Go.RowKit
theorem cells26 : Tryz.prog.cellsOf 26 = 5 := by kernel_rfl
theorem cells9 : Tryz.prog.cellsOf 9 = 1 := by kernel_rfl
theorem cells3 : Tryz.prog.cellsOf 3 = 1 := by kernel_rfl
theorem cells5 : Tryz.prog.cellsOf 5 = 1 := by kernel_rfl
theorem addr_block {W : World} {b : Addr} {i : Nat} {v : Value} (g : W.cell? (b.add i) = some v) (hi : i = 0) : ∃ bb off, b = ⟨bb, off, none⟩ ∧ bb < W.heap.size := by
 subst hi
 obtain ⟨bb, off, spot⟩ := b
 have hspot : spot = none := by simpa [Addr.add] using World.cell?_spot g
 subst hspot
 refine ⟨bb, off, rfl, ?_⟩
 rcases Nat.lt_or_ge bb W.heap.size with h | h
 ·exact h
 ·simp [World.cell?, Addr.add, Array.getElem?_eq_none h] at g
instance : Inhabited ActM := ⟨⟨0, [], [], 0, 0⟩⟩
theorem len_five {α : Type} {l : List α} (h : l.length = 5) : ∃ a b c d e, l = [a, b, c, d, e] := by
 match l, h with
 | [a, b, c, d, e], _ => exact ⟨a, b, c, d, e, rfl⟩
theorem act_cells {H : Type} {enc : TypeId × Value → H} {W : World} {cs : List Value} {fuel : Nat} {sp : Nat → Bool} {held : Bool} {x : DataW H × List MemPlace} (h : DataW.trod enc Tryz.prog W 0 sp held fuel 26 cs = some x) (hl2 : cs.length = 5) :
  ∃ a : ActM, cs = actV a ∧ ActOk a := by
 obtain ⟨xs, k, _, hD, _, hxl, hel⟩ := DataW.trod_struct Tryz.underlying26 h
 have t0 := hel 0 _ rfl
 have t1 := hel 1 _ rfl
 have t2 := hel 2 _ rfl
 have t3 := hel 3 _ rfl
 have t4 := hel 4 _ rfl
 obtain ⟨c0, c1, c2, c3, c4, rfl⟩ := len_five hl2
 obtain ⟨y0, y1, y2, y3, y4, rfl⟩ := len_five (show xs.length = 5 from hxl)
 simp [cells9, cells3, cells5] at t0 t1 t2 t3 t4
 obtain ⟨n0, e0, rfl, w0⟩ := DataW.trod_int Tryz.underlying3 t0
 obtain ⟨s1, e1, rfl, w1⟩ := DataW.trod_string Tryz.underlying9 t1
 obtain ⟨s2, e2, rfl, w2⟩ := DataW.trod_string Tryz.underlying9 t2
 obtain ⟨n3, e3, rfl, _⟩ := DataW.trod_int Tryz.underlying3 t3
 obtain ⟨n4, e4, rfl, w4⟩ := DataW.trod_int Tryz.underlying5 t4
 simp only [List.cons.injEq, and_true] at e0 e1 e2 e3 e4
 subst e0 e1 e2 e3 e4
 simp [Lit.wf] at w0 w4
 have q1 : IntKind.i64.min = -9223372036854775808 := by decide
 have q2 : IntKind.i64.max = 9223372036854775807 := by decide
 have q3 : IntKind.u8.min = 0 := by decide
 have q4 : IntKind.u8.max = 255 := by decide
 have z1 : s1.data.toList.length = s1.size := by rw [Array.length_toList]; rfl
 have z2 : s2.data.toList.length = s2.size := by rw [Array.length_toList]; rfl
 refine ⟨⟨n0, s1.data.toList, s2.data.toList, n3, n4.toNat⟩, ?_, ⟨by show s1.data.toList.length ≤ _; omega, by show s2.data.toList.length ≤ _; omega, by show _ ≤ n0 ∧ n0 ≤ _; omega⟩⟩
 unfold actV
 rw [mk_list, mk_list, show ((n4.toNat : Nat) : Int) = n4 by omega]
theorem acts_arg {H : Type} {enc : TypeId × Value → H} {W : World} {a : Option Addr} {len cap fuel : Nat} {sp : Nat → Bool} {held : Bool} {x : DataW H × List MemPlace} (h : DataW.trod enc Tryz.prog W 0 sp held fuel 24 (Value.slice a len cap).cells.toList = some x) :
  ∃ l : List ActM, l.length = len ∧ len ≤ maxLen ∧ Lies W a (acells l) ∧ ∀ u ∈ l, ActOk u := by
 rcases Deep.open_slice Tryz.underlying24 h with ⟨hcs, _⟩ | ⟨b, len', cap', m, n, D, Pl, hcs, _, hl, hm, hmm, rfl, hx⟩
 ·simp [Value.cells] at hcs
  obtain ⟨rfl, rfl, rfl⟩ := hcs
  exact ⟨[], rfl, Nat.zero_le _, fun h => absurd h (by simp [acells]), fun p hp => by cases hp⟩
 ·simp [Value.cells] at hcs
  obtain ⟨rfl, rfl, rfl⟩ := hcs
  have hle : len ≤ m := by rw [hmm]; split <;> omega
  have each : ∀ i, i < len → ∃ p : ActM, (∀ k (hk : k < 5), ∀ v, (actV p)[k]? = some v → W.cell? (b.add (i * 5 + k)) = some v) ∧ ActOk p := by
   intro i hi
   obtain ⟨cs', hc, ht⟩ := hx i (by omega)
   rw [cells26] at hc
   obtain ⟨_, hl2, hcell⟩ := World.cells?_some hc
   obtain ⟨p, rfl, hok⟩ := act_cells ht hl2
   refine ⟨p, fun k hk v hv => ?_, hok⟩
   have g := hcell k hk
   rw [Deep.add_add] at g
   rw [g]
   exact hv
  obtain ⟨f, hf⟩ := Deep.choose_lt (α := ActM) (p := fun i p => (∀ k (hk : k < 5), ∀ v, (actV p)[k]? = some v → W.cell? (b.add (i * 5 + k)) = some v) ∧ ActOk p) each
  have hfl : ((List.range len).map f).length = len := by simp
  refine ⟨(List.range len).map f, hfl, by omega, fun hp => ?_, fun u hu => ?_⟩
  ·rw [acells_length, hfl] at hp
   obtain ⟨bb, off, rfl, hbb⟩ := addr_block ((hf 0 (by omega)).1 0 (by omega) _ rfl) rfl
   refine ⟨bb, off, rfl, hbb, fun j u hu => ?_⟩
   have hj := (List.getElem?_eq_some_iff.1 hu).1
   rw [acells_length, hfl] at hj
   have hjl : j / 5 < ((List.range len).map f).length := by rw [hfl]; omega
   have h5 := (hf (j / 5) (by omega)).1 (j % 5) (by omega) u (by
    obtain ⟨a0, a1, a2, a3, a4⟩ := acells_at ((List.range len).map f) (j / 5) hjl
    have e : ((List.range len).map f)[j / 5] = f (j / 5) := by simp
    rw [e] at a0 a1 a2 a3 a4
    have hm : j % 5 = 0 ∨ j % 5 = 1 ∨ j % 5 = 2 ∨ j % 5 = 3 ∨ j % 5 = 4 := by omega
    rcases hm with hm | hm | hm | hm | hm
    ·rw [show j / 5 * 5 = j by omega] at a0; rw [hm, ← hu, a0]; rfl
    ·rw [show j / 5 * 5 + 1 = j by omega] at a1; rw [hm, ← hu, a1]; rfl
    ·rw [show j / 5 * 5 + 2 = j by omega] at a2; rw [hm, ← hu, a2]; rfl
    ·rw [show j / 5 * 5 + 3 = j by omega] at a3; rw [hm, ← hu, a3]; rfl
    ·rw [show j / 5 * 5 + 4 = j by omega] at a4; rw [hm, ← hu, a4]; rfl)
   rw [add_lit'] at h5
   rw [show j / 5 * 5 + j % 5 = j by omega] at h5
   exact h5
  ·obtain ⟨i, hi, rfl⟩ := List.mem_map.1 hu
   exact (hf i (List.mem_range.1 hi)).2
end Go.Proofs.YtcmcdddnckcpcaaGreatDoor
namespace Go.Proofs.YtcmcdddnckcpcaaGreatDoor
open Go.ChangeShapes Go.WideShapes Go.ChangeAt Go.RowKit
theorem ints_arg {H : Type} {enc : TypeId × Value → H} {W : World} {a : Option Addr} {len cap fuel : Nat} {sp : Nat → Bool} {held : Bool} {x : DataW H × List MemPlace} (h : DataW.trod enc Tryz.prog W 0 sp held fuel 58 (Value.slice a len cap).cells.toList = some x) :
  ∃ l : List Int, l.length = len ∧ len ≤ maxLen ∧ Lies W a (icells l) := by
 rcases open_ints Tryz.underlying58 Tryz.underlying3 cells3 h with ⟨hcs, _⟩ | ⟨b, len', cap', zs, hcs, _, hl, hm, hz, _, hcell, _⟩
 ·simp [Value.cells] at hcs
  obtain ⟨rfl, rfl, rfl⟩ := hcs
  exact ⟨[], rfl, Nat.zero_le _, fun h => absurd h (by simp [icells])⟩
 ·simp [Value.cells] at hcs
  obtain ⟨rfl, rfl, rfl⟩ := hcs
  have hle : len ≤ zs.length := by rw [hz]; split <;> omega
  refine ⟨zs.take len, by rw [List.length_take]; omega, by omega, fun hp => ?_⟩
  have h0 : 0 < zs.length := by
   rw [icells, List.length_map, List.length_take] at hp; omega
  obtain ⟨bb, off, rfl, hbb⟩ := addr_block (hcell 0 h0) rfl
  refine ⟨bb, off, rfl, hbb, fun j u hu => ?_⟩
  rw [icells, List.getElem?_map] at hu
  obtain ⟨z, hz2, rfl⟩ := Option.map_eq_some_iff.1 hu
  obtain ⟨hj, hz3⟩ := List.getElem?_eq_some_iff.1 hz2
  rw [List.length_take] at hj
  have := hcell j (by omega)
  rw [add_lit'] at this
  rw [this, ← hz3, List.getElem_take]
  simp only [List.getD_eq_getElem?_getD, List.getElem?_eq_getElem (show j < zs.length by omega), Option.getD_some]
theorem txs_arg {H : Type} {enc : TypeId × Value → H} {W : World} {a : Option Addr} {len cap fuel : Nat} {sp : Nat → Bool} {held : Bool} {x : DataW H × List MemPlace} (h : DataW.trod enc Tryz.prog W 0 sp held fuel 42 (Value.slice a len cap).cells.toList = some x) :
  ∃ l : List Bs, l.length = len ∧ len ≤ maxLen ∧ Lies W a (txc l) ∧ ∀ t ∈ l, t.length ≤ maxLen := by
 rcases open_strings Tryz.underlying42 Tryz.underlying9 cells9 h with ⟨hcs, _⟩ | ⟨b, len', cap', ss, hcs, _, hl, hm, hz, _, hcell, hsz⟩
 ·simp [Value.cells] at hcs
  obtain ⟨rfl, rfl, rfl⟩ := hcs
  exact ⟨[], rfl, Nat.zero_le _, fun h => absurd h (by simp [txc]), fun t ht => by cases ht⟩
 ·simp [Value.cells] at hcs
  obtain ⟨rfl, rfl, rfl⟩ := hcs
  have hle : len ≤ ss.length := by rw [hz]; split <;> omega
  refine ⟨(ss.take len).map (·.data.toList), by rw [List.length_map, List.length_take]; omega, by omega, fun hp => ?_, fun t ht => ?_⟩
  ·have h0 : 0 < ss.length := by
    rw [txc, List.length_map, List.length_map, List.length_take] at hp; omega
   obtain ⟨bb, off, rfl, hbb⟩ := addr_block (hcell 0 h0) rfl
   refine ⟨bb, off, rfl, hbb, fun j u hu => ?_⟩
   rw [txc, List.getElem?_map, List.getElem?_map] at hu
   obtain ⟨t, ht2, rfl⟩ := Option.map_eq_some_iff.1 hu
   obtain ⟨s, hs, rfl⟩ := Option.map_eq_some_iff.1 ht2
   obtain ⟨hj, hs3⟩ := List.getElem?_eq_some_iff.1 hs
   rw [List.length_take] at hj
   have := hcell j (by omega)
   rw [add_lit'] at this
   rw [this, mk_list, ← hs3, List.getElem_take]
   simp only [List.getD_eq_getElem?_getD, List.getElem?_eq_getElem (show j < ss.length by omega), Option.getD_some]
  ·obtain ⟨s, hs, rfl⟩ := List.mem_map.1 ht
   have h1 := hsz s (List.mem_of_mem_take hs)
   have z1 : s.data.toList.length = s.size := by rw [Array.length_toList]; rfl
   omega
end Go.Proofs.YtcmcdddnckcpcaaGreatDoor
namespace Go.Proofs.YtcmcdddnckcpcaaGreatDoor
open Go.ChangeShapes Go.WideShapes Go.ChangeAt Go.RowKit
open Go.ChangeMaps (open_string shut_string)
theorem fileRots_reads (os : Os) {H : Type} (enc : TypeId × Value → H) : ∃ places, DataW.whole enc Tryz.prog ((laidW os).forCall (fun _ _ => 0) ⟨#[], #[.slice none 0 0, .slice none 0 0, .slice none 0 0], []⟩).memory Tryz.f9.params.toList Rows.fileRotsSpec.vars false #[Value.slice none 0 0, Value.slice none 0 0, Value.slice none 0 0].toList 8 = some ([.nil, .nil, .nil], [], places) :=
 ⟨[], by kernel_rfl⟩
set_option maxRecDepth 100000 in
theorem fileRots_lifted (os : Os) (started : os.Started) (H : Type) (enc : TypeId × Value → H) (F : Stop.Interp) :
  ReturnsInHanded {} Tryz.checked os 9 .any ((OpenSpec.ofChange Rows.fileRotsSpec).preRow enc Tryz.prog Tryz.f9 Rows.fileRotsRow.domain false Rows.fileRotsRow.laid) (((OpenSpec.ofChange Rows.fileRotsSpec).at F).post enc Tryz.prog Tryz.f9 false true false false) := by
 obtain ⟨places, hx⟩ := fileRots_reads os enc
 refine returnsInHanded_of_row (C := Tryz.checked) (s := OpenSpec.ofChange Rows.fileRotsSpec) own started (by kernel_rfl) Tryz.func9
  (witness_row_at (enc := enc) (C := Tryz.checked) false (laidW os) #[.slice none 0 0, .slice none 0 0, .slice none 0 0] rfl (by kernel_rfl) (by kernel_rfl) (by kernel_rfl)
   (OpenSpec.preRow_of_cond 8 hx (by kernel_rfl) (fun k hk => by cases hk) (by kernel_rfl) (laid_met os _))) ?_
 intro W base args ds gs before hval0 hW _ _ hz hmet hsh _
 have hval : ∀ (j : Nat) t v, Tryz.f9.params[j]? = some t → args[j]? = some v → Value.okWide Tryz.prog W .any base t v := hval0
 have hW' := hW
 obtain ⟨p, q, hA0, hV, rfl, _, _⟩ := hW
 have hA : DataW.TrodAll enc Tryz.prog W 0 (fun _ => true) true Tryz.f9.params.toList args.toList ds p := hA0
 have hz' : (DataW.weightsEach Tryz.prog (Tryz.f9.params.toList ++ []) (ds ++ gs)).all (· ≤ reachBytes) = true := hz
 rw [Tryz.params9] at hA hval hz'
 obtain ⟨v0, v1, v2, d0, d1, d2, p0, p1, p2, rfl, rfl, rfl, h0, h1, h2⟩ := trodAll_three hA
 obtain ⟨rfl, rfl⟩ := trodVars_none hV
 obtain ⟨a0, l0, c0, rfl⟩ := okWide_slice Tryz.underlying24 (hval 0 24 v0 rfl rfl)
 obtain ⟨a1, l1, c1, rfl⟩ := okWide_slice Tryz.underlying58 (hval 1 58 v1 rfl rfl)
 obtain ⟨a2, l2, c2, rfl⟩ := okWide_slice Tryz.underlying42 (hval 2 42 v2 rfl rfl)
 have h0k := h0
 obtain ⟨fuel0, hf0⟩ := h0
 have h1k := h1
 obtain ⟨fuel1, hf1⟩ := h1
 have h2k := h2
 obtain ⟨fuel2, hf2⟩ := h2
 clear hA0 hval0 hz hz'
 simp only [List.append_nil] at hW'
 have hlt := hW'.lt
 obtain ⟨as0, rfl, AL0, AC0, AO0⟩ := acts_arg hf0
 obtain ⟨li1, rfl, BL1, BC1⟩ := ints_arg hf1
 obtain ⟨lj2, rfl, CL2, CC2, CO2⟩ := txs_arg hf2
 refine (fileRots_any a0 as0 c0 a1 li1 c1 a2 lj2 c2 W AC0 AO0 AL0 BC1 BL1 CC2 CL2 CO2 (tb_of rfl hmet) (tb_pos (tb_of rfl hmet))).mono fun e W' ⟨he, hb⟩ => ?_
 subst he
 refine ⟨_, rfl, _, _, _, [], _, [], hW', trodAll_mk1 (shut_bool Tryz.underlying4 true), trodAll_mk3 (Below.trod laidOut (by kernel_rfl) (of_decide_eq_true (by kernel_rfl)) h0k hb (fun x hx => hlt x (by simp [hx]))) (Below.trod laidOut (by kernel_rfl) (of_decide_eq_true (by kernel_rfl)) h1k hb (fun x hx => hlt x (by simp [hx]))) (Below.trod laidOut (by kernel_rfl) (of_decide_eq_true (by kernel_rfl)) h2k hb (fun x hx => hlt x (by simp [hx]))), rfl, hb.frame _, fun h => by cases h⟩
theorem fileRots_said : Rows.FileRotsSaid :=
 OpenClaim.holds_of_cond 9 Tryz.f9 rfl rfl rfl rfl rfl rfl rfl ⟨rfl, rfl, rfl, rfl, rfl⟩ rfl rfl rfl rfl rfl (by kernel_rfl) Tryz.func9 (by kernel_rfl)
  (of_decide_eq_true (by kernel_rfl)) (by unfold Func.isWrapper; first | (rw [if_pos (by decide +kernel)]; kernel_rfl) | (rw [if_neg (by decide +kernel)]; exact ⟨rfl, rfl⟩))
  (fun os started H enc _ F => by rw [OpenClaim.pre_eq_preRow]; exact fileRots_lifted os started H enc F)
theorem fileRots_plain (f : FuncId) (fn : Func) (hf : Tryz.pinned.checked.prog.funcNamed "stemma/stemmalaw07.FileRots" = some f) (hfn : Tryz.pinned.checked.prog.funcs[f]? = some fn) :
  false = Tryz.pinned.checked.prog.looks [] ∧ ∀ (j : Nat) t, fn.params[j]? = some t → Tryz.pinned.checked.prog.wantsStandIn t = false := by
 obtain rfl : f = 9 := Option.some.inj ((show Tryz.prog.funcNamed "stemma/stemmalaw07.FileRots" = some 9 by kernel_rfl).symm.trans hf) |>.symm
 obtain rfl : fn = Tryz.f9 := (Option.some.inj (Tryz.func9.symm.trans hfn)).symm
 refine ⟨by kernel_rfl, fun j t ht => ?_⟩
 rw [Tryz.params9] at ht
 have hm : t ∈ [24, 58, 42] := by simpa using Array.mem_of_getElem? ht
 have hall : ([24, 58, 42].all fun u => !Tryz.prog.wantsStandIn u) = true := by kernel_rfl
 exact (show Tryz.prog.wantsStandIn t = false by simpa using List.all_eq_true.1 hall t hm)
theorem fileRots_card : Rows.FileRotsCardSaid :=
 Claim7.holds_tied_plain_at .later [] _ _ _ _ fileRots_said (fun _ h => by cases h) (by kernel_rfl) (fun _ h => by cases h) fileRots_row_tie rfl ⟨rfl, rfl⟩ (by kernel_rfl) rfl fileRots_plain (by kernel_rfl)
#print axioms fileRots_card
end Go.Proofs.YtcmcdddnckcpcaaGreatDoor
