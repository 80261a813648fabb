/- Packed: Fs, Se, La, Ch, Su, Va, Pu, Tb, Wr, Rd, Re. -/
import Derived.Test.YtmjdmijloanfnaaGreatDoorPD1
import Derived.Test.YtmjdmijloanfnaaGreatDoorPD3
import Derived.Maps.RangeWalk
import Derived.BigQuiet
namespace Go.Proofs.YtmjdmijloanfnaaGreatDoor
open Go.RowKit Go.Maps
structure StoM where
 ds : DS
 F : List FileM
 T : List Bool
 most : Nat
 off : Bool
def Exts (w : World) (X : List Nat) (ad : AdM) (F : List FileM) : Prop := ∀ f ∈ F,Lies w (ad f.name).1 (ecells f.ext) ∧ Typed w (ad f.name).1 172 ∧ ∀ a,(ad f.name).1 = some a → a.block ∉ X
abbrev stoCells (D Lg M : Nat) (T : List Bool) (most : Nat) (off : Bool) : Array Value := #[.pointer (some ⟨D,0,none⟩), .pointer (some ⟨Lg,0,none⟩), .int .i64 T.length, .string (mk (packB T)), .map (some M), .int .i64 most, .bool off]
structure Sto (w : World) (X : List Nat) (S D Lg M : Nat) (m : StoM) : Prop where
 blk : Blk w S (stoCells D Lg M m.T m.most m.off) 107
 dsk : Dsk w X D m.ds
 log : WLog w Lg D (2 + m.most) 5
 map : ∃ ad,FM w M ad m.F ∧ Exts w X ad m.F
 apart : S ∉ X ∧ Lg ∉ X ∧ M ∉ X ∧ 1 ∉ X
 tb : TB w
 pos : 1 < w.heap.size
theorem Exts.mv {w w' : World} {X X' : List Nat} {ad : AdM} {F : List FileM} (h : Exts w X ad F) (hm : Mv X X' w w') : Exts w' X' ad F := by
 intro f hf
 obtain ⟨h1,h2,h3⟩ := h f hf
 refine ⟨hm.lies h1 h3,h2.frm hm.frm h3,fun a ha => ?_⟩
 obtain ⟨cs,fr,hc⟩ := h2 a ha
 exact hm.apart (h3 a ha) (Array.getElem?_eq_some_iff.1 hc).1
theorem Exts.grown {w w' : World} {X : List Nat} {ad : AdM} {F : List FileM} {r : Option Nat} (h : Exts w X ad F) (hg : w.grownBy w' r) (hr : ∀ g,r = some g → ∀ c fr,w.heap[g]? ≠ some (.cells c 172 fr)) : Exts w' X ad F := by
 intro f hf
 obtain ⟨h1,h2,h3⟩ := h f hf
 have hne : ∀ a,(ad f.name).1 = some a → some a.block ≠ r := fun a ha he => by
  obtain ⟨cs,fr,hc⟩ := h2 a ha
  exact hr a.block he.symm cs fr hc
 refine ⟨fun h0 => ?_,fun a ha => ?_,h3⟩
 ·obtain ⟨g,o,hA,hl,hc⟩ := h1 h0
  have := hg.block g hl (hne _ hA)
  exact ⟨g,o,hA,Nat.lt_of_lt_of_le hl hg.size,fun j u hu => (World.cell?_of_block (a := ⟨g,o + j,none⟩) this).trans (hc j u hu)⟩
 ·obtain ⟨cs,fr,hc⟩ := h2 a ha
  exact ⟨cs,fr,(hg.block _ (Array.getElem?_eq_some_iff.1 hc).1 (hne a ha)).trans hc⟩
theorem Sto.disk {w w' : World} {X X' : List Nat} {S D Lg M : Nat} {m : StoM} {d : DS} (h : Sto w X S D Lg M m) (hd : Dsk w' X' D d) (hm : Mv X X' w w') : Sto w' X' S D Lg M ⟨d,m.F,m.T,m.most,m.off⟩ := by
 obtain ⟨ad,h1,h2⟩ := h.map
 obtain ⟨a1,a2,a3,a4⟩ := h.apart
 exact ⟨hm.blk h.blk a1,hd,hm.blk h.log a2,⟨ad,h1.block (hm.frm.block M h1.lt a3),h2.mv hm⟩,⟨hm.apart a1 (Blk.lt h.blk),hm.apart a2 (Blk.lt h.log),hm.apart a3 h1.lt,hm.apart a4 h.pos⟩,(h.tb.mv hm h.pos a4).1,Nat.lt_of_lt_of_le h.pos hm.size⟩
theorem Sto.below {w w' : World} {X : List Nat} {S D Lg M : Nat} {m : StoM} (h : Sto w X S D Lg M m) (hb : Below w.heap.size w w') : Sto w' X S D Lg M m := h.disk (h.dsk.below hb) (.of_below X hb)
theorem Sto.ne {w : World} {X : List Nat} {S D Lg M : Nat} {m : StoM} (h : Sto w X S D Lg M m) : Lg ≠ S ∧ M ≠ S ∧ M ≠ Lg := by
 obtain ⟨ad,h1,h2⟩ := h.map
 refine ⟨fun e => ?_,fun e => (h1.not_cells h.blk) e.symm,fun e => (h1.not_cells h.log) e.symm⟩
 have a := h.blk
 have b := h.log
 unfold WLog Blk at b
 unfold Blk at a
 rw [e] at b
 rw [a] at b
 simp at b
theorem Sto.own {w : World} {X : List Nat} {S D Lg M : Nat} {m : StoM} (h : Sto w X S D Lg M m) {w' : World} {T : List Bool} {off : Bool} (hg : w.grownBy w' (some S)) (hB : Blk w' S (stoCells D Lg M T m.most off) 107) : Sto w' X S D Lg M ⟨m.ds,m.F,T,m.most,off⟩ := by
 obtain ⟨ad,h1,h2⟩ := h.map
 obtain ⟨a1,a2,a3,a4⟩ := h.apart
 obtain ⟨n1,n2,_⟩ := h.ne
 have hfr : Frm [S] w w' := ⟨hg.os,hg.tape,hg.output,hg.size,fun k hk hx => hg.block k hk (by simpa using hx)⟩
 refine ⟨hB,h.dsk.frm hfr (fun x hx e => a1 (by simp at e;rwa [← e])),hfr.blk h.log (by simpa using n1),⟨ad,h1.kept hg (by simpa using n2),h2.grown hg (fun g e c fr hc => ?_)⟩,⟨a1,a2,a3,a4⟩,fun k hk => ?_,Nat.lt_of_lt_of_le h.pos hg.size⟩
 ·cases e
  have a := h.blk
  unfold Blk at a
  rw [a] at hc
  simp at hc
 ·refine (hfr.cell (p := ⟨1,k,none⟩) h.pos ?_).trans (h.tb k hk)
  intro e
  simp at e
  subst e
  have a := h.blk.cell k
  rw [h.tb k hk] at a
  have hl := List.getElem?_eq_some_iff.1 (by simpa using a.symm : (stoCells D Lg M m.T m.most m.off).toList[k]? = some _)
  obtain ⟨hk7,he⟩ := hl
  simp at hk7
  match k,hk7 with
  | 0,_ => simp at he
  | 1,_ => simp at he
  | 2,_ => simp at he
  | 3,_ => simp at he
  | 4,_ => simp at he
  | 5,_ => simp at he
  | 6,_ => simp at he
set_option maxHeartbeats 1000000 in
theorem ready_ok (X : List Nat) (S D Lg M : Nat) (m : StoM) (w : World) (h : Sto w X S D Lg M m) (h1 : m.off = false) (h2 : m.ds.off = false) :
  Calls Tryz.prog 77 #[.pointer (some ⟨S,0,none⟩)] w fun e w' => e = .returned (.int .i64 0) ∧ w' = w := by
 have KO := off_any X D m.ds w h.dsk
 rw [h2] at KO
 have x0 := h.blk.cell 0
 have x6 := h.blk.cell 6
 simp at x0 x6
 rw [h1] at x6
 clear h h1 h2
 go_enter Tryz.func77,Tryz.ntmps77
 go_wp2_with (go_at_call 113;refine KO.mono ?_;rintro e w1 ⟨rfl,hw⟩;obtain rfl := hw.symm)
 go_ret
 exact ⟨rfl,rfl⟩
theorem grown_set2 (w : World) (b i j : Nat) (u v : Value) : w.grownBy ((w.setCell ⟨b,i,none⟩ u).setCell ⟨b,j,none⟩ v) (some b) := grown_trans (grown_set w b i u) (grown_set _ b j v)
theorem Mv.of_grown {w w' : World} {b : Nat} {X : List Nat} (hg : w.grownBy w' (some b)) (hb : b ∈ X) : Mv X X w w' :=
 .of_frm ⟨hg.os,hg.tape,hg.output,hg.size,fun k _ hx => hg.block k (by assumption) (fun e => hx (by cases e;exact hb))⟩
def findV (ad : AdM) (F : List FileM) (name : Bs) : Value := if goodF name then ((fileOf F name).map (inoV ad)).getD inoZ else inoZ
def findE (F : List FileM) (name : Bs) : Nat := if goodF name then (if (fileOf F name).isSome then 0 else 9) else 11
theorem inoV_form (ad : AdM) (o : Option FileM) : ∃ (a b : Int) (A : Option Addr) (k c : Nat),((o.map (inoV ad)).getD inoZ) = .agg #[.int .i64 a, .int .i64 b, .slice A k c] := by
 cases o with
 | none => exact ⟨_,_,_,_,_,rfl⟩
 | some f => exact ⟨_,_,_,_,_,rfl⟩
set_option maxRecDepth 100000 in
set_option maxHeartbeats 2000000 in
theorem find_ok (X : List Nat) (S D Lg M : Nat) (m : StoM) (ad : AdM) (name : Bs) (w : World) (h : Sto w X S D Lg M m) (hm : FM w M ad m.F) (h1 : m.off = false) (h2 : m.ds.off = false) (hn : name.length ≤ maxLen) :
  Calls Tryz.prog 50 #[.pointer (some ⟨S,0,none⟩), .string (mk name)] w fun e w' => e = .returned (.tuple #[findV ad m.F name, .int .i64 (findE m.F name : Nat)]) ∧ Below w.heap.size w w' := by
 have KR := ready_ok X S D Lg M m (w.alloc (.cells #[.int .i64 0, .int .i64 0, .slice none 0 0] 97)) (h.below (below_alloc _ _)) h1 h2
 have KG := good_any name (w.alloc (.cells #[.int .i64 0, .int .i64 0, .slice none 0 0] 97)) (by unfold maxLen at hn;omega)
 have x4 := h.blk.cell 4
 simp at x4
 have hSl := Blk.lt h.blk
 cases hg : goodF name with
 | false =>
  rw [hg] at KG
  have HV := Lib.hid (show findV ad m.F name = .agg #[.int .i64 0, .int .i64 0, .slice none 0 0] ∧ findE m.F name = 11 by unfold findV findE;rw [hg];exact ⟨rfl,rfl⟩)
  obtain ⟨X1,hX⟩ : ∃ q,mk name = q := ⟨_,rfl⟩
  rw [hX] at KG ⊢
  obtain ⟨V,hV⟩ : ∃ q,findV ad m.F name = q := ⟨_,rfl⟩
  obtain ⟨N,hN⟩ : ∃ q,findE m.F name = q := ⟨_,rfl⟩
  rw [hV,hN] at HV ⊢
  clear h hm h1 h2 hn hg hX hV hN
  obtain ⟨rfl,rfl⟩ := HV.out
  go_enter Tryz.func50,Tryz.ntmps50
  go_wp2_with (first
   | (go_at_call 77;refine KR.mono ?_;rintro e w1 ⟨rfl,hw⟩;obtain rfl := hw.symm)
   | (go_at_call 78;refine KG.mono ?_;rintro e w2 ⟨rfl,hb⟩;have hR := Blk.below (Blk.new w #[.int .i64 0, .int .i64 0, .slice none 0 0] 97) hb;have q0 := hR.frozen 0;have q1 := hR.frozen 1;have q2 := hR.frozen 2;have c0 := hR.cell 0;have c1 := hR.cell 1;have c2 := hR.cell 2;simp at c0 c1 c2;have hl := hR.lt;have HR := Lib.hid hR;have HB := Lib.hid hb;clear hb hR))
  have hR2 := ((HR.out.set 0 (.int .i64 0)).set 1 (.int .i64 0)).set 2 (.slice none 0 0)
  have p0 := hR2.cell 0
  have p1 := hR2.cell 1
  have p2 := hR2.cell 2
  simp at p0 p1 p2
  refine bodyPost_ret (v := .tuple #[.agg #[.int .i64 0, .int .i64 0, .slice none 0 0], .int .i64 11]) ?_ rfl ?_
  ·simp [results,Tryz.f50,go_sem,p0,p1,p2]
  ·exact ⟨rfl,below_set (below_set (below_set ((below_alloc w _).trans (HB.out.mono (by simp))) _ 0 _ (Nat.le_refl _)) _ 1 _ (Nat.le_refl _)) _ 2 _ (Nat.le_refl _)⟩
 | true =>
  rw [hg] at KG
  have hlk := fun (w2 : World) (hb : Below (w.alloc (.cells #[.int .i64 0, .int .i64 0, .slice none 0 0] 97)).heap.size (w.alloc (.cells #[.int .i64 0, .int .i64 0, .slice none 0 0] 97)) w2) => (hm.block ((hb.block M (by have := hm.lt;simp;omega)).trans (Below.heap_alloc _ _ M hm.lt))).look name hn
  have HV := Lib.hid (show findV ad m.F name = ((fileOf m.F name).map (inoV ad)).getD inoZ ∧ findE m.F name = if (fileOf m.F name).isSome then 0 else 9 by unfold findV findE;rw [hg];exact ⟨rfl,rfl⟩)
  obtain ⟨a,b,A,k,c,hf⟩ := inoV_form ad (fileOf m.F name)
  have hz := fun (h0 : (fileOf m.F name).isSome = false) => (show ((fileOf m.F name).map (inoV ad)).getD inoZ = inoZ by rw [show fileOf m.F name = none by simpa using h0];rfl)
  rw [hf] at HV hlk hz
  obtain ⟨o,ho⟩ : ∃ q,(fileOf m.F name).isSome = q := ⟨_,rfl⟩
  rw [ho] at HV hlk hz
  obtain ⟨X1,hX⟩ : ∃ q,mk name = q := ⟨_,rfl⟩
  rw [hX] at KG hlk ⊢
  obtain ⟨V,hV⟩ : ∃ q,findV ad m.F name = q := ⟨_,rfl⟩
  obtain ⟨N,hN⟩ : ∃ q,findE m.F name = q := ⟨_,rfl⟩
  rw [hV,hN] at HV ⊢
  clear h hm h1 h2 hn hg hX hV hN hf ho
  obtain ⟨rfl,rfl⟩ := HV.out
  cases o with
  | true =>
   clear HV hz
   go_enter Tryz.func50,Tryz.ntmps50
   go_wp2_with (first
    | (go_at_call 77;refine KR.mono ?_;rintro e w1 ⟨rfl,hw⟩;obtain rfl := hw.symm)
    | (go_at_call 78;refine KG.mono ?_;rintro e w2 ⟨rfl,hb⟩;have hR := Blk.below (Blk.new w #[.int .i64 0, .int .i64 0, .slice none 0 0] 97) hb;have q0 := hR.frozen 0;have q1 := hR.frozen 1;have q2 := hR.frozen 2;have c0 := hR.cell 0;have c1 := hR.cell 1;have c2 := hR.cell 2;simp at c0 c1 c2;have hl := hR.lt;have HR := Lib.hid hR;have hs4 := (hb.cell (p := ⟨S,4,none⟩) (by simp;omega)).trans ((cell_old w _ ⟨S,4,none⟩ hSl).trans x4);have hSl2 : S < w2.heap.size := (by have := hb.size;simp at this;omega);have hlk2 := hlk w2 hb;have HB := Lib.hid hb;clear hb hR))
   have hR2 := ((((HR.out.set 0 (.int .i64 a)).set 1 (.int .i64 b)).set 2 (.slice A k c)).alloc (.cells #[.int .i64 a, .int .i64 b, .slice A k c] 97))
   have p0 := hR2.cell 0
   have p1 := hR2.cell 1
   have p2 := hR2.cell 2
   simp at p0 p1 p2
   have hsz2 := HB.out.size
   refine bodyPost_ret (v := .tuple #[.agg #[.int .i64 a, .int .i64 b, .slice A k c], .int .i64 0]) ?_ rfl ?_
   ·simp [results,Tryz.f50,go_sem,p0,p1,p2]
   ·exact ⟨rfl,Below.alloc (below_set (below_set (below_set ((below_alloc w _).trans (HB.out.mono (by simp))) _ 0 _ (Nat.le_refl _)) _ 1 _ (Nat.le_refl _)) _ 2 _ (Nat.le_refl _)) (by simp at hsz2 ⊢;omega) _⟩
  | false =>
   have hz1 := hz rfl
   unfold inoZ at hz1
   simp only [Value.agg.injEq,Array.mk.injEq,List.cons.injEq,Value.int.injEq,Value.slice.injEq,true_and,and_true] at hz1
   obtain ⟨rfl,rfl,rfl,rfl,rfl⟩ := hz1
   clear HV hz
   go_enter Tryz.func50,Tryz.ntmps50
   go_wp2_with (first
    | (go_at_call 77;refine KR.mono ?_;rintro e w1 ⟨rfl,hw⟩;obtain rfl := hw.symm)
    | (go_at_call 78;refine KG.mono ?_;rintro e w2 ⟨rfl,hb⟩;have hR := Blk.below (Blk.new w #[.int .i64 0, .int .i64 0, .slice none 0 0] 97) hb;have q0 := hR.frozen 0;have q1 := hR.frozen 1;have q2 := hR.frozen 2;have c0 := hR.cell 0;have c1 := hR.cell 1;have c2 := hR.cell 2;simp at c0 c1 c2;have hl := hR.lt;have HR := Lib.hid hR;have hs4 := (hb.cell (p := ⟨S,4,none⟩) (by simp;omega)).trans ((cell_old w _ ⟨S,4,none⟩ hSl).trans x4);have hSl2 : S < w2.heap.size := (by have := hb.size;simp at this;omega);have hlk2 := hlk w2 hb;have HB := Lib.hid hb;clear hb hR))
   have hR2 := ((((HR.out.set 0 (.int .i64 0)).set 1 (.int .i64 0)).set 2 (.slice none 0 0)).alloc (.cells #[.int .i64 0, .int .i64 0, .slice none 0 0] 97))
   have p0 := hR2.cell 0
   have p1 := hR2.cell 1
   have p2 := hR2.cell 2
   simp at p0 p1 p2
   have hsz2 := HB.out.size
   refine bodyPost_ret (v := .tuple #[.agg #[.int .i64 0, .int .i64 0, .slice none 0 0], .int .i64 9]) ?_ rfl ?_
   ·simp [results,Tryz.f50,go_sem,p0,p1,p2]
   ·exact ⟨rfl,Below.alloc (below_set (below_set (below_set ((below_alloc w _).trans (HB.out.mono (by simp))) _ 0 _ (Nat.le_refl _)) _ 1 _ (Nat.le_refl _)) _ 2 _ (Nat.le_refl _)) (by simp at hsz2 ⊢;omega) _⟩
open Go.RowKit Go.Maps
def ncells (l : List Nat) : List Value := l.map fun i : Nat => Value.int .i64 (i : Int)
def secX (b : Nat) (x : Nat × Nat) : List Nat := (List.range x.2).map fun i => b + x.1 + i
def secL (b : Nat) (l : List (Nat × Nat)) : List Nat := l.flatMap (secX b)
theorem ncells_length (l : List Nat) : (ncells l).length = l.length := by simp [ncells]
theorem ncells_app (a b : List Nat) : ncells (a ++ b) = ncells a ++ ncells b := by simp [ncells]
theorem ncells_at (l : List Nat) (j : Nat) (h : j < l.length) : (ncells l)[j]? = some (.int .i64 (l[j] : Int)) := by simp [ncells,h]
theorem secL_snoc (b : Nat) (l : List (Nat × Nat)) (k : Nat) (h : k < l.length) : secL b (l.take (k + 1)) = secL b (l.take k) ++ secX b l[k] := by
 unfold secL;rw [List.take_succ_eq_append_getElem h,List.flatMap_append,List.flatMap_singleton]
theorem secL_take (b : Nat) (l : List (Nat × Nat)) (k : Nat) : (secL b (l.take k)).length ≤ (secL b l).length := by
 have : secL b l = secL b (l.take k) ++ secL b (l.drop k) := by unfold secL;rw [← List.flatMap_append,List.take_append_drop]
 rw [this,List.length_append];omega
theorem secX_snoc (b : Nat) (a j : Nat) : (List.range (j + 1)).map (fun i => b + a + i) = (List.range j).map (fun i => b + a + i) ++ [b + a + j] := by rw [List.range_succ,List.map_append];rfl
theorem info3 : (Tryz.prog.info? 3).map (fun i => (i.zero,i.size,i.bytes)) = some (some (.int .i64 0),1,8) := by kernel_rfl
set_option maxRecDepth 100000 in
set_option maxHeartbeats 4000000 in
theorem sectors_any (S : Nat) (most : Nat) (A : Option Addr) (cap : Nat) (l : List (Nat × Nat)) (w : World) (hS : w.cell? ⟨S,5,none⟩ = some (.int .i64 most)) (hm : most ≤ 1000) (hA : Lies w A (ecells l)) (hn : l.length ≤ 1000) (hl : ∀ x ∈ l,x.1 ≤ 10000 ∧ x.2 ≤ 10000) (ht : (secL (most + 7) l).length ≤ 100000) :
  Calls Tryz.prog 56 #[.pointer (some ⟨S,0,none⟩), .slice A l.length cap] w fun e w' => (∃ A' c,e = .returned (.slice A' (secL (most + 7) l).length c) ∧ w'.ownsRow w.heap.size 3 1 (.slice A' (secL (most + 7) l).length c) (secL (most + 7) l).length (ncells (secL (most + 7) l))) ∧ Below w.heap.size w w' := by
 obtain ⟨i3,hi0,hi1,hi2,hi3⟩ := info_parts info3
 have hSl := cell_lt hS
 simp only at hSl
 have KD := fun w => dataAt_any most w (by omega)
 obtain ⟨B,hB⟩ : ∃ q,most + 7 = q := ⟨_,rfl⟩
 rw [hB] at ht
 simp only [hB] at KD
 rw [hB]
 have hBb : B ≤ 1007 := by omega
 obtain ⟨n,hnn⟩ : ∃ q,l.length = q := ⟨_,rfl⟩
 rw [hnn] at hn ⊢
 have HN := Lib.hid hnn
 have HL := Lib.hid hA
 have HLX := Lib.hid hl
 have HT := Lib.hid ht
 have HTK := Lib.hid (secL_take B l)
 have mixed := mixedT
 clear hA hl ht hnn hB
 go_enter Tryz.func56,Tryz.ntmps56
 go_wp2
 go_loopw [5,11] (fun v i wr => ∃ k : Nat,k ≤ n ∧ i = .int .i64 k ∧ wr.ownsRow w.heap.size 3 1 v (secL B (l.take k)).length (ncells (secL B (l.take k))) ∧ Below w.heap.size w wr) (fun _ i _ => n - (intOf i).toNat)
 case atStart => exact ⟨0,Nat.zero_le _,rfl,by simpa [secL,ncells] using World.ownsRow_nil w w.heap.size 3 1,Below.refl _ _⟩
 case round =>
  obtain ⟨k,hk,rfl,hrow,hb⟩ := hrel
  by_cases hlt : k < n
  ·have hkl : k < l.length := by rw [HN.out];exact hlt
   obtain ⟨g,off,rfl,hgl,hcs⟩ := HL.out (by rw [ecells_length];omega)
   obtain ⟨s0,s1⟩ := ecells_at l k hkl
   have d0 := (hb.cell (p := ⟨g,off + k * 2,none⟩) hgl).trans (hcs _ _ s0)
   have d1 := (hb.cell (p := ⟨g,off + (k * 2 + 1),none⟩) hgl).trans (hcs _ _ s1)
   have hgr : g < wr.heap.size := Nat.lt_of_lt_of_le hgl hb.size
   obtain ⟨hq1,hq2⟩ := HLX.out l[k] (List.getElem_mem hkl)
   have hsn := secL_snoc B l k hkl
   have htk := HTK.out (k + 1)
   have htt := HT.out
   rw [hsn,List.length_append] at htk
   have hx : secX B l[k] = (List.range l[k].2).map (fun i => B + l[k].1 + i) := rfl
   rw [hx] at hsn htk
   obtain ⟨a,ha⟩ : ∃ z,l[k].1 = z := ⟨_,rfl⟩
   obtain ⟨c,hc⟩ : ∃ z,l[k].2 = z := ⟨_,rfl⟩
   rw [ha] at d0 hq1 hsn htk
   rw [hc, ← Nat.add_assoc] at d1
   rw [hc] at hq2 hsn htk
   rw [List.length_map,List.length_range] at htk
   obtain ⟨pre,hpre⟩ : ∃ z,secL B (l.take k) = z := ⟨_,rfl⟩
   rw [hpre] at hrow hsn htk
   have HSN := Lib.hid hsn
   have HROW := Lib.hid (World.ownsRow.alloc hrow (.cells #[.int .i64 a, .int .i64 c] 172))
   have HB := Lib.hid (hb.alloc hb.size (.cells #[.int .i64 a, .int .i64 c] 172))
   have HZ := Lib.hid (Blk.new wr #[.int .i64 a, .int .i64 c] 172)
   have hpl : pre.length + c ≤ 100000 := by omega
   have k0 : (0 : Int) ≤ (k : Int) := by omega
   have k1 : (k : Int) < (n : Int) := by omega
   clear hrow hb hcs s0 s1 hsn htk htt hx ha hc hpre hkl
   go_wp2
   obtain ⟨V,hV⟩ : ∃ V,wr.heap.size = V := ⟨_,rfl⟩
   rw [hV] at HZ
   simp only [hV]
   obtain ⟨W0,hW0⟩ : ∃ q,wr.alloc (.cells #[.int .i64 a, .int .i64 c] 172) = q := ⟨_,rfl⟩
   rw [hW0] at HROW HB HZ ⊢
   clear hW0 hV d0 d1
   go_loopw [5,17] (fun v i wr => ∃ j : Nat,j ≤ c ∧ i = .int .i64 j ∧ wr.ownsRow w.heap.size 3 1 v (pre ++ (List.range j).map (fun i => B + a + i)).length (ncells (pre ++ (List.range j).map (fun i => B + a + i))) ∧ Below w.heap.size w wr ∧ Blk wr V #[.int .i64 a, .int .i64 c] 172) (fun _ i _ => c - (intOf i).toNat)
   case atStart => exact ⟨0,Nat.zero_le _,rfl,by simpa using HROW.out,HB.out,HZ.out⟩
   case round =>
    obtain ⟨j,hj,rfl,hrow,hb,hz⟩ := hrel
    by_cases hjc : j < c
    ·have hlj : (pre ++ (List.range j).map (fun i => B + a + i)).length ≤ 100000 := by simp;omega
     have hsx := secX_snoc B a j
     obtain ⟨xs,hxs⟩ : ∃ q,pre ++ (List.range j).map (fun i => B + a + i) = q := ⟨_,rfl⟩
     have HXS := Lib.hid (show pre ++ (List.range (j + 1)).map (fun i => B + a + i) = xs ++ [B + a + j] by rw [hsx, ← hxs,List.append_assoc])
     rw [hxs] at hrow hlj
     have s5 := (hb.cell (p := ⟨S,5,none⟩) hSl).trans hS
     have hSw : S < wr.heap.size := Nat.lt_of_lt_of_le hSl hb.size
     have j0 : (0 : Int) ≤ (j : Int) := by omega
     have j1 : (j : Int) < (c : Int) := by omega
     have w1 : IntKind.i64.wrap ((B : Int) + (a : Int)) = (B : Int) + (a : Int) := by rw [Go.IntWalk.i64_left,Go.IntWalk.wrap64_in _ (by omega)]
     have w2 : IntKind.i64.wrap ((B : Int) + (a : Int) + (j : Int)) = (B : Int) + (a : Int) + (j : Int) := by rw [Go.IntWalk.i64_left,Go.IntWalk.wrap64_in _ (by omega)]
     have HW := Lib.hid (And.intro w1 w2)
     have HROW := Lib.hid hrow
     have HB := Lib.hid hb
     have HZ := Lib.hid hz
     have HS5 := Lib.hid s5
     clear hrow hb hz hxs hsx w1 w2 s5
     go_upto_region 8 with (fail)
     refine wp_region_held (S := fun w' => w'.cell? ⟨S,5,none⟩ = some (.int .i64 most) ∧ Blk w' V #[.int .i64 a, .int .i64 c] 172) mixed ?_
     change wpAnyH _ _ _ _ _ _ _ _ wr.drew
     have hrow0 : wr.drew.ownsRow w.heap.size 3 1 u5 xs.length (ncells xs) := HROW.out
     have hb0 : Below w.heap.size w wr.drew := HB.out.drew
     have hS0 : wr.drew.cell? ⟨S,5,none⟩ = some (.int .i64 most) ∧ Blk wr.drew V #[.int .i64 a, .int .i64 c] 172 := ⟨HS5.out,HZ.out⟩
     obtain ⟨W0,hW0⟩ : ∃ q,wr.drew = q := ⟨_,rfl⟩
     rw [hW0] at hrow0 hb0 hS0 ⊢
     clear hW0
     have HR0 := Lib.hid hrow0
     clear hrow0
     refine tkQ 0 (u5) rfl hS0 ?_
     try go_simp
     refine tkQ 1 (.pointer (some ⟨S,0,none⟩)) rfl hS0 ?_
     try go_simp
     refine tkQ 2 (.pointer (some ⟨S,0,none⟩)) rfl hS0 ?_
     try go_simp
     refine tkQ 3 (.pointer (some ⟨S,5,none⟩)) rfl hS0 ?_
     try go_simp
     refine tkH 4 (.int .i64 (most : Int)) rfl hS0 (fun w' hS => ?_) ?_
     ·have q0 := hS.1;go_simp
     try go_simp
     refine tkQ 6 (.pointer (some ⟨V,0,none⟩)) rfl hS0 ?_
     try go_simp
     refine tkH 7 (.int .i64 (a : Int)) rfl hS0 (fun w' hS => ?_) ?_
     ·have q0 := hS.2.cell 0;simp at q0;go_simp
     try go_simp
     refine tkQ 9 (.int .i64 (j : Int)) rfl hS0 ?_
     try go_simp
     refine alH 5 ?_
     unfold wpOp
     go_simp
     refine .inl ?_
     go_at_call 62
     refine (KD _).mono ?_
     rintro e W1 ⟨rfl,hw1⟩
     obtain rfl := hw1.symm
     refine ⟨hS0, ?_⟩
     refine tkH 8 (.int .i64 ((B : Int) + (a : Int))) rfl hS0 (fun w' hS => ?_) ?_
     ·clear hS;have w1 := HW.out.1;go_simp
     try go_simp
     refine tkH 10 (.int .i64 ((B : Int) + (a : Int) + (j : Int))) rfl hS0 (fun w' hS => ?_) ?_
     ·clear hS;have w2 := HW.out.2;go_simp
     try go_simp
     refine alH 11 ?_
     unfold wpOp
     go_simp
     have hN2 := World.news_of_block (cs := #[.int .i64 ((B : Int) + (a : Int) + (j : Int))]) (heap_alloc_new W0 (.cells #[.int .i64 ((B : Int) + (a : Int) + (j : Int))] 3))
     have hr2 := World.ownsRow.alloc HR0.out (.cells #[.int .i64 ((B : Int) + (a : Int) + (j : Int))] 3)
     have hb2 := hb0.alloc hb0.size (.cells #[.int .i64 ((B : Int) + (a : Int) + (j : Int))] 3)
     have hS2 : (W0.alloc (.cells #[.int .i64 ((B : Int) + (a : Int) + (j : Int))] 3)).cell? ⟨S,5,none⟩ = some (.int .i64 most) ∧ Blk (W0.alloc (.cells #[.int .i64 ((B : Int) + (a : Int) + (j : Int))] 3)) V #[.int .i64 a, .int .i64 c] 172 := ⟨(cell_old W0 _ ⟨S,5,none⟩ (Nat.lt_of_lt_of_le hSl hb0.size)).trans hS0.1,hS0.2.alloc _⟩
     obtain ⟨Z,hZ⟩ : ∃ Z,W0.heap.size = Z := ⟨_,rfl⟩
     obtain ⟨W2,hW2⟩ : ∃ u,W0.alloc (.cells #[.int .i64 ((B : Int) + (a : Int) + (j : Int))] 3) = u := ⟨_,rfl⟩
     rw [hZ] at hN2
     rw [hW2] at hN2 hr2 hb2 hS2
     try rw [hZ]
     rw [hW2]
     clear hW2 hZ
     first | refine .inl ⟨hS2, ?_⟩ | refine ⟨hS2, ?_⟩
     refine alH 12 ?_
     refine wpOp_of rfl rfl (wp_append_lies (P := Tryz.prog) W2 (.tmp 20) (.tmp 31) 62 rfl w.heap.size 3 i3 _ 1 8 Tryz.underlying62 hi0 hi1 hi2 hi3 (by rfl) (by decide) u5 xs.length (ncells xs) (by rfl) hr2 ⟨Z,0,none⟩ 1 1 [.int .i64 ((B : Int) + (a : Int) + (j : Int))] (by rfl) (by rfl) hN2 (by simp [Value.oneCell']) (by omega) (by unfold maxLen;omega) (by omega) hb2.size W2.heap.size rfl ?_)
     intro g3 c3 W3 hS3 hg3 hat3 _
     have hnS : u5.ownBlock ≠ some S := fun e => by have := (hr2.lt S e).1;omega
     have hnV : u5.ownBlock ≠ some V := own_ne_blk hr2 hS2.2 (by decide)
     have hS4 : W3.cell? ⟨S,5,none⟩ = some (.int .i64 most) ∧ Blk W3 V #[.int .i64 a, .int .i64 c] 172 :=
      ⟨(World.cell?_of_block (a := ⟨S,5,none⟩) (hg3.block S (Nat.lt_of_lt_of_le hSl hb2.size) (fun e => hnS e.symm))).trans hS2.1,hS2.2.grown hg3 hnV⟩
     have HFN := Lib.hid (show W3.ownsRow w.heap.size 3 1 (.slice (some ⟨g3,0,none⟩) (xs.length + 1) c3) (xs ++ [B + a + j]).length (ncells (xs ++ [B + a + j])) ∧ Below w.heap.size w W3 from by
      refine ⟨?_,hb2.grown hg3 hb2.size (fun g hg => (hr2.lt g hg).1)⟩
      rw [ncells_app,List.length_append]
      have e : ncells [B + a + j] = [.int .i64 ((B : Int) + (a : Int) + (j : Int))] := by simp [ncells]
      rw [e]
      exact hS3)
     have HZ4 := Lib.hid hS4.2
     refine ⟨hS4, ?_⟩
     refine tkQ 13 (.slice (some ⟨g3,0,none⟩) (xs.length + 1) c3) rfl hS4 ?_
     try go_simp
     refine wpAnyH_done (by kernel_rfl) ?_ _
     clear hN2 hr2 hb2 hS2 hS3 hg3 hat3 hS4 hnS hnV hS0 hb0
     go_wp2
     go_roundw
     case rel => exact ⟨j + 1,by omega,by go_num,by rw [HXS.out];exact HFN.out.1,HFN.out.2,HZ4.out⟩
     case measure => simp [intOf];omega
    ·obtain rfl : c = j := by omega
     rw [← HSN.out] at hrow
     have HROW := Lib.hid hrow
     have HB := Lib.hid hb
     clear hrow hb hz
     go_wp2
     go_roundw
     case rel => exact ⟨k + 1,by omega,by go_num,HROW.out,HB.out⟩
     case measure => simp [intOf];omega
  ·obtain rfl : n = k := by omega
   rw [List.take_of_length_le (by rw [HN.out];exact Nat.le_refl _)] at hrow
   obtain ⟨A',c',rfl⟩ := row_form hrow
   have HROW := Lib.hid hrow
   have HB := Lib.hid hb
   clear hrow hb
   go_wp2
   go_ret
   exact ⟨⟨A',c',rfl,HROW.out⟩,HB.out⟩
open Go.RowKit Go.Maps
def layX (l : List Nat) (data : Bs) : List (Nat × Bs) := l.zipIdx.map fun c => (c.1,(data.drop (512 * c.2)).take 512)
def layC (l : List Nat) (data : Bs) : List Cmd := if l = [] then [] else wrs (layX l data) ++ [.sy]
theorem layX_length (l : List Nat) (data : Bs) : (layX l data).length = l.length := by simp [layX]
theorem layX_at (l : List Nat) (data : Bs) (k : Nat) (h : k < l.length) (h2 : k < (layX l data).length) : (layX l data)[k] = (l[k],(data.drop (512 * k)).take 512) := by simp [layX]
set_option maxRecDepth 100000 in
set_option maxHeartbeats 4000000 in
theorem lay_any (X : List Nat) (S D Lg M : Nat) (m : StoM) (A : Option Addr) (cap : Nat) (l : List Nat) (data : Bs) (w : World) (h : Sto w X S D Lg M m) (hA : Lies w A (ncells l)) (hAX : ∀ a,A = some a → a.block ∉ X) (hl : ∀ i ∈ l,i < m.ds.L.length) (hn : l.length ≤ 100000) (hd : data.length ≤ 1099511627776) (hS : m.ds.S.length ≤ 800000) :
  Calls Tryz.prog 99 #[.pointer (some ⟨S,0,none⟩), .slice A l.length cap, .string (mk data)] w fun e w' => e = .returned (.int .i64 ((DS.run (layC l data) m.ds).1 : Nat)) ∧ ∃ X',Dsk w' X' D (DS.run (layC l data) m.ds).2 ∧ Mv X X' w w' := by
 have HNX := Lib.hid (fun k hk h0 => wrs_next (layX l data) [.sy] m.ds k hk h0)
 have HAL := Lib.hid (wrs_all (layX l data) m.ds)
 have HLN := Lib.hid (fun k => wrs_len (layX l data) k m.ds)
 have HC := Lib.hid (show layC l data = if l = [] then [] else wrs (layX l data) ++ [.sy] from rfl)
 obtain ⟨R,hR⟩ : ∃ q,DS.run (wrs (layX l data) ++ [.sy]) m.ds = q := ⟨_,rfl⟩
 rw [hR] at HNX HAL
 have HR := Lib.hid hR
 obtain ⟨R0,hR0⟩ : ∃ q,DS.run (layC l data) m.ds = q := ⟨_,rfl⟩
 rw [hR0]
 have HR0 := Lib.hid hR0
 have HXL := Lib.hid (layX_length l data)
 have HXA := Lib.hid (fun k hk h2 => layX_at l data k hk h2)
 obtain ⟨n,hnn⟩ : ∃ n,l.length = n := ⟨_,rfl⟩
 rw [hnn] at hn HXL ⊢
 have HN := Lib.hid hnn
 have HA := Lib.hid (And.intro hA hAX)
 have HLM := Lib.hid hl
 have HSB := Lib.hid (And.intro h.blk h.apart.1)
 have HD := Lib.hid h.dsk
 obtain ⟨ds,hds⟩ : ∃ q,m.ds = q := ⟨_,rfl⟩
 rw [hds] at HNX HAL HLN HR HR0 HLM HD hS
 have HDL := Lib.hid hd
 have HSS := Lib.hid hS
 obtain ⟨cells,hcells⟩ : ∃ q,stoCells D Lg M m.T m.most m.off = q := ⟨_,rfl⟩
 rw [hcells] at HSB
 have HC0 := Lib.hid (show cells[0]? = some (.pointer (some ⟨D,0,none⟩)) by rw [← hcells];rfl)
 have mixed := mixedT
 have hstart : (mk data) = mk (data.drop (512 * 0)) := rfl
 obtain ⟨S0,hS0⟩ : ∃ q,mk data = q := ⟨_,rfl⟩
 rw [hS0] at hstart ⊢
 have HST := Lib.hid hstart
 clear h hA hAX hl hnn hR hR0 hds hd hS hcells hstart hS0
 go_enter Tryz.func99,Tryz.ntmps99
 go_wp2
 go_loopw [2,13] (fun dv i wr => ∃ k : Nat,k ≤ n ∧ i = .int .i64 k ∧ dv = .string (mk (data.drop (512 * k))) ∧ (DS.run (wrs ((layX l data).take k)) ds).1 = 0 ∧ ∃ X',Dsk wr X' D (DS.run (wrs ((layX l data).take k)) ds).2 ∧ Mv X X' w wr) (fun _ i _ => n - (intOf i).toNat)
 case atStart => exact ⟨0,Nat.zero_le _,rfl,by rw [HST.out],rfl,X,HD.out,Mv.refl _ _⟩
 case round =>
  obtain ⟨k,hk,rfl,rfl,h0,X1,hD1,hM1⟩ := hrel
  by_cases hlt : k < n
  ·have hkl : k < l.length := by rw [HN.out];exact hlt
   have hki : k < (layX l data).length := by rw [HXL.out];exact hlt
   obtain ⟨g,off,rfl,hgl,hcs⟩ := HA.out.1 (by rw [ncells_length];omega)
   have hgX : g ∉ X := HA.out.2 _ rfl
   have d0 := (hM1.frm.cell (p := ⟨g,off + k,none⟩) hgl hgX).trans (hcs _ _ (ncells_at l k hkl))
   have hgr : g < wr.heap.size := Nat.lt_of_lt_of_le hgl hM1.size
   have hq1 := HLM.out l[k] (List.getElem_mem hkl)
   obtain ⟨hnx,hst⟩ := HNX.out k hki h0
   obtain ⟨hl1,hl2⟩ := HLN.out k
   rw [HXA.out k hkl hki] at hnx hst
   obtain ⟨dk,hdk⟩ : ∃ q,(DS.run (wrs ((layX l data).take k)) ds).2 = q := ⟨_,rfl⟩
   rw [hdk] at hD1 hnx hst hl1 hl2
   obtain ⟨z,hz⟩ : ∃ z,l[k] = z := ⟨_,rfl⟩
   rw [hz] at d0 hq1 hnx hst
   dsimp only at hnx hst
   obtain ⟨dd,hdd⟩ : ∃ q,data.drop (512 * k) = q := ⟨_,rfl⟩
   have hdl : dd.length ≤ 1099511627776 := by rw [← hdd,List.length_drop];have := HDL.out;omega
   have hnext : data.drop (512 * (k + 1)) = dd.drop 512 := by rw [← hdd,List.drop_drop];congr 1
   rw [hdd] at hnx hst
   rw [hdd]
   have HNXT := Lib.hid hnext
   have zq := mk_size dd
   obtain ⟨q,hq⟩ : ∃ q,dd.length = q := ⟨_,rfl⟩
   rw [hq] at zq hdl
   obtain ⟨nn,hnn⟩ : ∃ t,min q 512 = t := ⟨_,rfl⟩
   have hmin : min (q : Int) 512 = (nn : Int) := by omega
   have hnq : nn ≤ q := by omega
   have hn5 : nn ≤ 512 := by omega
   have hsl1 := fun (w : World) => run_slice_string_h (P := Tryz.prog) (w := w) (t := 9) (s := mk dd) Tryz.underlying9 .i64 (nn : Int) (by omega) (by rw [zq];omega)
   have hsl2 := fun (w : World) => run_slice_string_l (P := Tryz.prog) (w := w) (t := 9) (s := mk dd) Tryz.underlying9 .i64 (nn : Int) (by omega) (by rw [zq];omega)
   have e1 : (mk dd).extract 0 nn = mk (dd.take 512) := by
    have := ext_mk' (mk dd) 0 nn
    rw [Nat.zero_add,mk_data,List.drop_zero] at this
    rw [this]
    by_cases h5 : q ≤ 512
    ·rw [List.take_of_length_le (by omega),List.take_of_length_le (by omega)]
    ·rw [show nn = 512 by omega]
   have e2 : (mk dd).extract nn q = mk (dd.drop 512) := by
    have := ext_mk' (mk dd) nn (q - nn)
    rw [Nat.add_sub_cancel' hnq,mk_data] at this
    rw [this,List.take_of_length_le (by rw [List.length_drop];omega)]
    by_cases h5 : q ≤ 512
    ·rw [List.drop_eq_nil_of_le (by omega),List.drop_eq_nil_of_le (by omega)]
    ·rw [show nn = 512 by omega]
   rw [Int.toNat_natCast,e1] at hsl1
   rw [Int.toNat_natCast,zq,e2] at hsl2
   obtain ⟨pc,hpc⟩ : ∃ t,dd.take 512 = t := ⟨_,rfl⟩
   have hpl : pc.length ≤ 512 := by rw [← hpc,List.length_take];omega
   rw [hpc] at hnx hst hsl1
   obtain ⟨DD,hDD⟩ : ∃ t,mk dd = t := ⟨_,rfl⟩
   obtain ⟨PC,hPC⟩ : ∃ t,mk pc = t := ⟨_,rfl⟩
   obtain ⟨NX,hNX⟩ : ∃ t,mk (dd.drop 512) = t := ⟨_,rfl⟩
   rw [hDD] at hsl1 hsl2 zq ⊢
   rw [hPC] at hsl1
   rw [hNX] at hsl2
   have HNX2 := Lib.hid hNX
   have hB1 := hM1.blk HSB.out.1 HSB.out.2
   have hSX1 := hM1.apart HSB.out.2 (Blk.lt HSB.out.1)
   have hx0 := (hB1.cell 0).trans HC0.out
   have hSl := hB1.lt
   have hnum := write_num dk z pc
   have hD2 := hD1.drew
   have KW := write_any X1 D dk z pc wr.drew hD2 (by rw [hl1];exact hq1) hpl (by have := HSS.out;omega)
   rw [hPC] at KW
   obtain ⟨d1p,hd1p⟩ : ∃ q,dk.write z pc = q := ⟨_,rfl⟩
   rw [hd1p] at KW hnum hnx hst
   obtain ⟨num,d2⟩ := d1p
   dsimp only at KW hnum hst
   have HRK := Lib.hid hnx
   have HSTP := Lib.hid hst
   have HM1 := Lib.hid hM1
   have k0 : (0 : Int) ≤ (k : Int) := by omega
   have k1 : (k : Int) < (n : Int) := by omega
   have hX0 := hx0
   have hZ := Lib.hid (And.intro hB1 hSX1)
   have q0i : (0 : Int) ≤ (q : Int) := by omega
   have HSL2 := Lib.hid hsl2
   have HSL1 := Lib.hid hsl1
   clear hnx hst hdk hz hdd hnext hdl hq hnn e1 e2 hpc hDD hPC hNX hd1p hD1 hM1 hcs hq1 hl1 hl2 hD2 h0 hgX hkl hki hpl hB1 hSX1 hX0
   go_upto_region 5 with (fail)
   refine wp_region_held (S := fun w' => w'.cell? ⟨S,0,none⟩ = some (.pointer (some ⟨D,0,none⟩))) mixed ?_
   change wpAnyH _ _ _ _ _ _ _ _ wr.drew
   have hS1 : wr.drew.cell? ⟨S,0,none⟩ = some (.pointer (some ⟨D,0,none⟩)) := hx0
   clear hx0 hsl1 hsl2
   refine tkQ 0 (.pointer (some ⟨S,0,none⟩)) rfl hS1 ?_
   try go_simp
   refine tkQ 1 (.pointer (some ⟨S,0,none⟩)) rfl hS1 ?_
   try go_simp
   refine tkQ 2 (.pointer (some ⟨S,0,none⟩)) rfl hS1 ?_
   try go_simp
   refine tkH 3 (.pointer (some ⟨D,0,none⟩)) rfl hS1 (fun w' hS => ?_) ?_
   ·have q0 := hS;go_simp
   try go_simp
   refine tkQ 4 (.int .i64 (z : Int)) rfl hS1 ?_
   try go_simp
   refine tkQ 5 (.string DD) rfl hS1 ?_
   try go_simp
   refine tkQ 6 (.int .i64 (nn : Int)) rfl hS1 ?_
   try go_simp
   refine tkH 7 (.string PC) rfl hS1 (fun w' hS => ?_) ?_
   ·clear hS;have hs1 := HSL1.out;go_simp
   try go_simp
   refine alH 8 ?_
   unfold wpOp
   go_simp
   refine .inl ?_
   go_at_call 91
   refine KW.mono ?_
   rintro e W1 ⟨rfl,X2,hD3,hM2⟩
   have hS2 : W1.cell? ⟨S,0,none⟩ = some (.pointer (some ⟨D,0,none⟩)) := (hM2.frm.cell (p := ⟨S,0,none⟩) hSl hZ.out.2).trans hS1
   refine ⟨hS2, ?_⟩
   rcases hnum with rfl | rfl
   ·
    refine tkQ 9 (.int .i64 0) rfl hS2 ?_
    try go_simp
    refine wpAnyH_done (by kernel_rfl) ?_ _
    have HD3 := Lib.hid hD3
    have HMF := Lib.hid (HM1.out.trans hM2.of_drew)
    have hsl2 := HSL2.out
    clear hS1 hS2 hD3 hM2 KW HSTP hnq hn5
    go_wp2
    go_roundw
    case rel => exact ⟨k + 1,by omega,by go_num,by rw [HNXT.out,HNX2.out],by rw [HRK.out],X2,by rw [HRK.out];exact HD3.out,HMF.out⟩
    case measure => simp [intOf];omega
   ·
    refine tkQ 9 (.int .i64 7) rfl hS2 ?_
    try go_simp
    refine wpAnyH_done (by kernel_rfl) ?_ _
    have HD3 := Lib.hid hD3
    have HMF := Lib.hid (HM1.out.trans hM2.of_drew)
    have HRE := Lib.hid (show R0 = (7,d2) by
     rw [← HR0.out,HC.out,if_neg (fun e => by have := HN.out;rw [e] at this;simp at this;omega),HR.out,HSTP.out (by decide)])
    clear hS1 hS2 hD3 hM2 KW HSTP hnq hn5
    go_wp2
    go_ret
    obtain rfl := HRE.out
    exact ⟨rfl,X2,HD3.out,HMF.out⟩
  ·obtain rfl : n = k := by omega
   have hal := HAL.out (by rw [HXL.out];exact h0)
   rw [HXL.out] at hal
   obtain ⟨dk,hdk⟩ : ∃ q,(DS.run (wrs ((layX l data).take n)) ds).2 = q := ⟨_,rfl⟩
   rw [hdk] at hD1 hal
   obtain ⟨DD,hDD⟩ : ∃ t,mk (data.drop (512 * n)) = t := ⟨_,rfl⟩
   rw [hDD]
   by_cases hn0 : n = 0
   ·have HRE := Lib.hid (show R0 = (0,dk) by
     rw [← HR0.out,HC.out,if_pos (List.eq_nil_of_length_eq_zero (by rw [HN.out];exact hn0)), ← hdk,hn0];rfl)
    have b1 : (n : Int) = 0 := by omega
    subst hn0
    have HD1 := Lib.hid hD1
    have HM1 := Lib.hid hM1
    clear hD1 hM1 hal hdk hDD h0 hlt
    go_wp2
    go_ret
    obtain rfl := HRE.out
    exact ⟨rfl,X1,HD1.out,HM1.out⟩
   ·have HRE := Lib.hid (show R0 = dk.sync by
     rw [← HR0.out,HC.out,if_neg (fun e => by have := HN.out;rw [e] at this;simp at this;omega),HR.out,hal])
    have b1 : ¬ ((n : Int) = 0) := by omega
    have b1b : ((n : Int) == 0) = false := by simpa using b1
    have KS := sync_any X1 D dk wr hD1
    have hB1 := hM1.blk HSB.out.1 HSB.out.2
    have hx0 := (hB1.cell 0).trans HC0.out
    have hSl := hB1.lt
    have HM1 := Lib.hid hM1
    clear hD1 hM1 hal hdk hDD h0 hlt hB1
    go_wp2_with (go_at_call 92;refine KS.mono ?_;rintro e W2 ⟨rfl,hD2,hF2⟩)
    go_ret
    obtain rfl := HRE.out
    exact ⟨rfl,X1,hD2,HM1.out.trans (.of_frm hF2)⟩
open Go.RowKit Go.Maps
theorem keyLaw3 : Keyed Tryz.prog 3 := int_keyed Tryz.underlying3
theorem zero9 (w : World) : (zeroValue 9).run Tryz.prog w = .ok (.string ⟨#[]⟩) w := by kernel_rfl
theorem wf64 (i : Int) (h0 : -9223372036854775808 ≤ i) (h1 : i ≤ 9223372036854775807) : (Lit.int .i64 i).wf = true := by
 have e0 : IntKind.i64.min = -9223372036854775808 := by decide
 have e1 : IntKind.i64.max = 9223372036854775807 := by decide
 simp [Lit.wf,e0,e1];omega
def chOf (C : List (Nat × Bs)) (i : Int) : Option Bs := (C.find? fun c => (c.1 : Int) == i).map (·.2)
def CM (w : World) (Mc : Nat) (C : List (Nat × Bs)) : Prop :=
 ∃ Dc : DataW Value,w.ownsMap Tryz.prog 3 rawE Mc C.length Dc ∧ C.Pairwise (fun a b => a.1 < b.1) ∧ Maps.size Dc = C.length ∧
  ∀ i : Int,Maps.has Dc (.int .i64 i) = (chOf C i).isSome ∧ ∀ z,Dc.atKey (.int .i64 i) z = ((chOf C i).map fun t => DataW.held (.string (mk t))).getD z
theorem CM.lt {w : World} {Mc : Nat} {C : List (Nat × Bs)} (h : CM w Mc C) : Mc < w.heap.size := by obtain ⟨Dc,h1,_⟩ := h;exact h1.lt
theorem CM.block {w w' : World} {Mc : Nat} {C : List (Nat × Bs)} (h : CM w Mc C) (hb : w'.heap[Mc]? = w.heap[Mc]?) : CM w' Mc C := by
 obtain ⟨Dc,⟨es,clock,h1,h3⟩,h2⟩ := h
 exact ⟨Dc,⟨es,clock,hb.trans h1,h3⟩,h2⟩
theorem CM.not_cells {w : World} {Mc g : Nat} {C : List (Nat × Bs)} (h : CM w Mc C) {cs : Array Value} {t : TypeId} {fr : Nat × Nat} (hg : w.heap[g]? = some (.cells cs t fr)) : g ≠ Mc := by
 obtain ⟨Dm,⟨es,clock,h1,_⟩,_⟩ := h
 rintro rfl
 rw [h1] at hg
 cases hg
theorem CM.made (w : World) : CM (w.alloc (.map #[] 0)) w.heap.size [] := ⟨.map [],World.ownsMap_made _ _ _ _,List.Pairwise.nil,rfl,fun _ => ⟨rfl,fun _ => rfl⟩⟩
theorem CM.look {w : World} {Mc : Nat} {C : List (Nat × Bs)} (h : CM w Mc C) (i : Nat) (hi : i ≤ 1000000) : (Instr.lookup 148 (.map (some Mc)) (.int .i64 (i : Int)) false).run Tryz.prog w = .ok (.string (mk ((chOf C i).getD []))) w := by
 obtain ⟨Dc,h1,_,_,h4⟩ := h
 obtain ⟨v,ps,hrun,hv⟩ := h1.lookup keyLaw3 Tryz.underlying148 (zero9 w) (zd := .held (.string ⟨#[]⟩)) (zp := []) rfl (keyOf_int_mk (a := (i : Int)) Tryz.underlying3 (wf64 i (by omega) (by omega)))
 rw [(h4 i).2] at hv
 have hv' := rawE_inv hv
 rw [hrun]
 cases hf : chOf C (i : Int) with
 | none => rw [hf] at hv';simp at hv';rw [← hv'];rfl
 | some t => rw [hf] at hv';simp at hv';rw [← hv'];rfl
theorem chOf_mem {C : List (Nat × Bs)} (h : C.Pairwise (fun a b => a.1 < b.1)) {c : Nat × Bs} (hc : c ∈ C) : chOf C (c.1 : Int) = some c.2 := by
 unfold chOf
 induction C with
 | nil => cases hc
 | cons a C ih =>
  rw [List.pairwise_cons] at h
  rw [List.find?_cons]
  rcases List.mem_cons.1 hc with rfl | hc
  ·simp
  ·have := h.1 c hc
   rw [beq_eq_false_iff_ne.2 (by omega)]
   exact ih h.2 hc
theorem chOf_some {C : List (Nat × Bs)} {i : Int} (h : (chOf C i).isSome = true) : ∃ c ∈ C,(c.1 : Int) = i := by
 unfold chOf at h
 rw [Option.isSome_map] at h
 obtain ⟨c,hc⟩ := Option.isSome_iff_exists.1 h
 exact ⟨c,List.mem_of_find?_eq_some hc,by simpa using List.find?_some hc⟩
theorem CM.keys {w : World} {Mc : Nat} {C : List (Nat × Bs)} {Dc : DataW Value} (hown : w.ownsMap Tryz.prog 3 rawE Mc C.length Dc) (hp : C.Pairwise (fun a b => a.1 < b.1)) (hh : ∀ i : Int,Maps.has Dc (.int .i64 i) = (chOf C i).isSome) (ss : List Int) (hs : ss.Perm (intKeys Dc)) :
  ss.mergeSort (fun x y => decide (x ≤ y)) = C.map fun c => (c.1 : Int) := by
 have hpw : (C.map fun c => (c.1 : Int)).Pairwise (fun a b => a < b) := List.pairwise_map.2 (hp.imp fun h => by omega)
 have h1 : (C.map fun c => (c.1 : Int)).Perm (intKeys Dc) := CollectedI.perm (left := fun _ => false) ⟨hpw.imp fun h => Int.ne_of_lt h,fun x => by
  rw [hh x]
  simp only [and_true]
  constructor
  ·intro hx
   obtain ⟨c,hc,rfl⟩ := List.mem_map.1 hx
   rw [chOf_mem hp hc];rfl
  ·intro hx
   obtain ⟨c,hc,rfl⟩ := chOf_some hx
   exact List.mem_map.2 ⟨c,hc,rfl⟩⟩ hown keyLaw3 Tryz.underlying3 (fun _ => rfl)
 have h2 := mergeSort_of_perm_i (hs.trans h1.symm)
 have h3 : (C.map fun c => (c.1 : Int)).mergeSort leI = C.map fun c => (c.1 : Int) := List.mergeSort_of_pairwise (hpw.imp fun h => by simp only [leI,decide_eq_true_eq];omega)
 exact h2.trans h3
theorem CM.store {w : World} {Mc : Nat} {C C' : List (Nat × Bs)} (h : CM w Mc C) (i : Nat) (t : Bs) (hi : i ≤ 1000000) (hl : C.length ≤ 1000) (hp : C'.Pairwise (fun a b => a.1 < b.1)) (hlen : C'.length = C.length + 1) (hnew : chOf C (i : Int) = none) (hC : ∀ k : Int,chOf C' k = if k = (i : Int) then some t else chOf C k) :
  ∃ w',(Instr.mapUpdate 148 (.map (some Mc)) (.int .i64 (i : Int)) (.string (mk t))).run Tryz.prog w = .ok () w' ∧ CM w' Mc C' ∧ w.grownBy w' (some Mc) := by
 obtain ⟨Dc,h1,h2,h3,h4⟩ := h
 obtain ⟨w',hrun,hown,hg⟩ := h1.update keyLaw3 Tryz.underlying148 (by unfold maxLen;omega) (keyOf_int_mk (a := (i : Int)) Tryz.underlying3 (wf64 i (by omega) (by omega))) (val := .string (mk t)) (d := .held (.string (mk t))) (ps := []) rfl
 have hsz : Maps.size (Dc.put (.int .i64 (i : Int)) (.held (.string (mk t)))) = C'.length := by rw [size_put (h1.tidy keyLaw3),(h4 i).1,hnew,h3,hlen];rfl
 refine ⟨w',hrun,⟨_,by rw [← hsz];exact own_tight hown,hp,hsz,fun k => ?_⟩,hg⟩
 by_cases hk : k = (i : Int)
 ·subst hk
  rw [hC,if_pos rfl]
  refine ⟨by rw [has_put_same (k := .int .i64 (i : Int)) h1.isMap trivial];rfl,fun z => ?_⟩
  rw [atKey_put_same (k := .int .i64 (i : Int)) h1.isMap trivial];rfl
 ·rw [hC,if_neg hk]
  have hne : (Lit.int .i64 k) ≠ .int .i64 (i : Int) := fun e => hk (by injection e)
  exact ⟨by rw [has_put_other hne,(h4 k).1],fun z => by rw [atKey_put_other hne,(h4 k).2 z]⟩
theorem chOf_one (i : Nat) (t : Bs) (k : Int) : chOf [(i,t)] k = if k = (i : Int) then some t else none := by
 unfold chOf
 rw [List.find?_cons]
 by_cases h : k = (i : Int)
 ·subst h;simp
 ·rw [if_neg h,beq_eq_false_iff_ne.2 (fun e => h e.symm)];rfl
theorem CM.one {w : World} {Mc : Nat} (h : CM w Mc []) (i : Nat) (t : Bs) (hi : i ≤ 1000000) :
  ∃ w',(Instr.mapUpdate 148 (.map (some Mc)) (.int .i64 (i : Int)) (.string (mk t))).run Tryz.prog w = .ok () w' ∧ CM w' Mc [(i,t)] ∧ w.grownBy w' (some Mc) :=
 h.store i t hi (by simp) (by simp) rfl rfl (fun k => by rw [chOf_one];rfl)
def two2 (i : Nat) (t : Bs) (j : Nat) (u : Bs) : List (Nat × Bs) := if i < j then [(i,t),(j,u)] else [(j,u),(i,t)]
theorem CM.two {w : World} {Mc : Nat} (i j : Nat) (t u : Bs) (h : CM w Mc [(i,t)]) (hj : j ≤ 1000000) (hne : i ≠ j) :
  ∃ w',(Instr.mapUpdate 148 (.map (some Mc)) (.int .i64 (j : Int)) (.string (mk u))).run Tryz.prog w = .ok () w' ∧ CM w' Mc (two2 i t j u) ∧ w.grownBy w' (some Mc) := by
 refine h.store j u hj (by simp) ?_ ?_ ?_ (fun k => ?_)
 ·unfold two2
  split
  ·simp;assumption
  ·simp;omega
 ·unfold two2;split <;> rfl
 ·rw [chOf_one,if_neg (by omega)]
 ·rw [chOf_one]
  unfold two2 chOf
  split
  ·rw [List.find?_cons,List.find?_cons]
   by_cases h1 : k = (i : Int)
   ·subst h1;rw [if_neg (by omega)];simp
   ·rw [beq_eq_false_iff_ne.2 (fun e => h1 e.symm)]
    by_cases h2 : k = (j : Int)
    ·subst h2;simp
    ·rw [if_neg h2,if_neg h1]
     simp only [beq_eq_false_iff_ne.2 (fun e => h2 e.symm : (j : Int) ≠ k)]
     rfl
  ·rw [List.find?_cons,List.find?_cons]
   by_cases h2 : k = (j : Int)
   ·subst h2;simp
   ·rw [if_neg h2]
    simp only [beq_eq_false_iff_ne.2 (fun e => h2 e.symm : (j : Int) ≠ k)]
    by_cases h1 : k = (i : Int)
    ·subst h1;simp
    ·rw [if_neg h1]
     simp only [beq_eq_false_iff_ne.2 (fun e => h1 e.symm : (i : Int) ≠ k)]
     rfl
theorem keysOf_any (Mc : Nat) (w : World) : Calls Tryz.prog 121 #[.map (some Mc)] w fun e w' => e = .returned (.func (.func 148) #[] #[.pointer (some ⟨w.heap.size,0,none⟩)]) ∧ w' = w.alloc (.cells #[.map (some Mc)] 148) :=
 callsIn_wide.1 (Tryz.maps_Keys_89 (some Mc) w)
theorem sorted_any (Mc : Nat) (C : List (Nat × Bs)) (w : World) (h : CM w Mc C) (hl : C.length ≤ 1000) :
  Calls Tryz.prog 120 #[.func (.func 148) #[] #[.pointer (some ⟨w.heap.size,0,none⟩)]] (w.alloc (.cells #[.map (some Mc)] 148)) fun e w' =>
   ∃ A c,e = .returned (.slice A C.length c) ∧ w'.ownsRow (w.heap.size + 1) 3 1 (.slice A C.length c) C.length (ncells (C.map (·.1))) ∧ Below (w.heap.size + 1) (w.alloc (.cells #[.map (some Mc)] 148)) w' := by
 obtain ⟨Dc,h1,h2,h3,h4⟩ := h
 refine (callsIn_wide.1 (Tryz.slices_Sorted_keys_88_89 Mc C.length Dc rawE w h1 (by rw [h3];unfold maxLen;omega) (by omega))).mono ?_
 rintro e w' ⟨v,ss,rfl,hp,hrow,_,hb⟩
 have hk := CM.keys h1 h2 (fun i => (h4 i).1) ss hp
 have hlen : ss.length = C.length := by have := congrArg List.length hk;simpa using this
 rw [hk,hlen,World.size_alloc] at hrow
 rw [World.size_alloc] at hb
 obtain ⟨A,c,rfl⟩ := row_form hrow
 refine ⟨A,c,rfl, ?_,hb⟩
 have e : (C.map fun c => (c.1 : Int)).map encZ = ncells (C.map (·.1)) := by simp [ncells]
 rw [e] at hrow
 exact hrow
open Go.RowKit Go.Maps
def settleX (T : List Bool) (C : List (Nat × Bs)) : List (Nat × Bs) := (1,packB T) :: C.map fun c => (2 + c.1,c.2)
def settleC (most : Nat) (T : List Bool) (C : List (Nat × Bs)) : List Cmd := commitC (settleX T C) (2 + most)
theorem settleX_length (T : List Bool) (C : List (Nat × Bs)) : (settleX T C).length = C.length + 1 := by simp [settleX]
theorem settleX_take (T : List Bool) (C : List (Nat × Bs)) (k : Nat) (h : k < C.length) : (settleX T C).take (k + 1 + 1) = (settleX T C).take (k + 1) ++ [(2 + C[k].1,C[k].2)] := by
 unfold settleX
 rw [List.take_succ_cons,List.take_succ_cons, ← List.map_take, ← List.map_take,List.take_succ_eq_append_getElem h,List.map_append];rfl
theorem own_new {w : World} {B g c : Nat} {e : TypeId} {cs : List Value} {size n : Nat} (h : w.heap[g]? = some (.cells cs.toArray e (0,0))) (hB : B ≤ g) (hl : cs.length = c * size) (hn : n = c) (hc : c ≤ 1000000) : w.ownsRow B e size (.slice (some ⟨g,0,none⟩) n c) n cs := by
 subst hn
 exact ⟨hl, .inr ⟨g,n,cs.toArray,rfl,hB,h,Nat.le_refl _,by unfold maxLen;omega,by simp [hl],by simp [← hl]⟩⟩
def SetP (X : List Nat) (S D Lg M : Nat) (m : StoM) (T : List Bool) (C : List (Nat × Bs)) (w : World) (e : Ending) (w' : World) : Prop :=
 e = .returned (.int .i64 ((DS.run (settleC m.most T C) m.ds).1 : Nat)) ∧ ∃ X',Mv (S :: X) (S :: X') w w' ∧
  ((DS.run (settleC m.most T C) m.ds).1 = 0 → Sto w' X' S D Lg M ⟨(DS.run (settleC m.most T C) m.ds).2,m.F,T,m.most,m.off⟩) ∧
  ((DS.run (settleC m.most T C) m.ds).1 ≠ 0 → Sto w' X' S D Lg M ⟨(DS.run (settleC m.most T C) m.ds).2,m.F,m.T,m.most,true⟩)
theorem Mv.cons {X X' : List Nat} {w w' : World} (h : Mv X X' w w') (S : Nat) : Mv (S :: X) (S :: X') w w' :=
 ⟨h.frm.mono (fun x hx => List.mem_cons_of_mem _ hx),fun x hx => by
  rcases List.mem_cons.1 hx with rfl | hx
  ·exact .inl (List.mem_cons_self ..)
  ·exact (h.sub x hx).imp (List.mem_cons_of_mem _) id⟩
set_option maxRecDepth 100000 in
set_option maxHeartbeats 4000000 in
theorem settle_any (X : List Nat) (S D Lg M Mc : Nat) (m : StoM) (T : List Bool) (C : List (Nat × Bs)) (w : World) (h : Sto w X S D Lg M m) (hC : CM w Mc C) (hT : T.length = m.T.length) (hTb : T.length ≤ 4096) (hn : C.length ≤ 2) (hcx : ∀ c ∈ C,c.1 < m.most ∧ c.2.length ≤ 512)
  (hm : 1 ≤ m.most ∧ m.most ≤ 256) (hL : m.most + 7 ≤ m.ds.L.length) (hS : m.ds.S.length ≤ 900000) :
  Calls Tryz.prog 80 #[.pointer (some ⟨S,0,none⟩),spv T, .map (some Mc)] w (SetP X S D Lg M m T C w) := by
 obtain ⟨i156,hi0,hi1,hi2,hi3⟩ := info_parts info156
 have KB := bytes_any T (w.alloc (.cells #[.int .i64 T.length, .string (mk (packB T))] 104))
 unfold spv at KB ⊢
 unfold SetP settleC
 have KK := keysOf_any Mc
 have KS := fun (w2 : World) (hc : CM w2 Mc C) => sorted_any Mc C w2 hc (by omega)
 have HX0 := Lib.hid (show (settleX T C).take 1 = [(1,packB T)] from rfl)
 have HXK := Lib.hid (fun k hk => settleX_take T C k hk)
 have HXL := Lib.hid (settleX_length T C)
 have HLK := Lib.hid (fun (c : Nat × Bs) hc (w2 : World) (hcm : CM w2 Mc C) => (show (Instr.lookup 148 (.map (some Mc)) (.int .i64 (c.1 : Int)) false).run Tryz.prog w2 = .ok (.string (mk c.2)) w2 by
  have := hcm.look c.1 (by have := (hcx c hc).1;omega)
  obtain ⟨_,_,hp,_⟩ := hcm
  rwa [chOf_mem hp hc] at this))
 have hxv : ∀ c ∈ settleX T C,mayB m.ds.L.length (2 + m.most) 5 c.1 = true ∧ c.2.length ≤ 512 := fun c hc => by
  unfold settleX at hc
  rcases List.mem_cons.1 hc with rfl | hc
  ·refine ⟨?_,by rw [packB_length];omega⟩
   unfold mayB ownB;simp;omega
  ·obtain ⟨d,hd,rfl⟩ := List.mem_map.1 hc
   have := hcx d hd
   refine ⟨?_,this.2⟩
   unfold mayB ownB;simp;omega
 have KC := fun (A : Option Addr) (cap : Nat) (w1 : World) (hD : Dsk w1 X D m.ds) hW hb hA hAX hT hw h0 => commit_any X D m.ds Lg (2 + m.most) 5 A cap (settleX T C) w1 hD hW hb hA hAX hxv (by rw [HXL.out];omega) (by rw [HXL.out];omega) (by rw [HXL.out];omega) (by omega) (by omega) hT hw h0
 unfold RunP at KC
 have HSTO := Lib.hid h
 have HCM := Lib.hid hC
 have HCX := Lib.hid hcx
 have x1 := h.blk.cell 1
 simp at x1
 have hSl := h.blk.lt
 obtain ⟨R,hR⟩ : ∃ q,DS.run (commitC (settleX T C) (2 + m.most)) m.ds = q := ⟨_,rfl⟩
 have hnum := run_num (commitC (settleX T C) (2 + m.most)) m.ds
 rw [hR] at hnum
 simp only [hR] at KC ⊢
 obtain ⟨num,d2⟩ := R
 dsimp only at KC hnum ⊢
 obtain ⟨tl,htl⟩ : ∃ q,T.length = q := ⟨_,rfl⟩
 obtain ⟨PB,hPB⟩ : ∃ q,mk (packB T) = q := ⟨_,rfl⟩
 rw [htl,hPB] at KB ⊢
 have HPB := Lib.hid (And.intro htl hPB)
 obtain ⟨n,hnn⟩ : ∃ q,C.length = q := ⟨_,rfl⟩
 rw [hnn] at hn HXL
 simp only [hnn] at KS
 have HN := Lib.hid hnn
 have HM := Lib.hid (And.intro hm hT)
 have hmb : m.most ≤ 256 := hm.2
 clear h hC hT hTb hcx hm hL hS hxv hR htl hPB hnn
 go_enter Tryz.func80,Tryz.ntmps80
 have hbx := below_alloc w (.cells #[.int .i64 tl, .string PB] 104)
 have HBX := Lib.hid (And.intro hbx (Blk.new w #[.int .i64 tl, .string PB] 104))
 clear hbx
 go_upto_region 2 with (go_at_call 119;refine KB.mono ?_;rintro e w1 ⟨rfl,hb1⟩;have HB1 := Lib.hid hb1;have hs1 := hb1.size;clear hb1)
 have hbw1 := HBX.out.1.trans (HB1.out.mono (by simp))
 have hbw2 := hbw1.alloc hbw1.size (.cells #[.int .i64 1, .string PB] 198)
 have hrow2 : (w1.alloc (.cells #[.int .i64 1, .string PB] 198)).ownsRow w.heap.size 198 2 (.slice (some ⟨w1.heap.size,0,none⟩) 1 1) 1 (scells ((settleX T C).take 1)) := by
  rw [HX0.out]
  have e : scells [((1 : Nat),packB T)] = [.int .i64 1, .string PB] := by rw [← HPB.out.2];rfl
  rw [e]
  exact own_new (heap_alloc_new w1 _) hbw1.size rfl rfl (by omega)
 have hbx2 := (Blk.below HBX.out.2 (by simpa using HB1.out)).alloc (.cells #[.int .i64 1, .string PB] 198)
 have hcm2 : CM (w1.alloc (.cells #[.int .i64 1, .string PB] 198)) Mc C := HCM.out.block (hbw2.block Mc HCM.out.lt)
 have hz2 : w.heap.size < (w1.alloc (.cells #[.int .i64 1, .string PB] 198)).heap.size := hbx2.lt
 obtain ⟨Z,hZ⟩ : ∃ q,w1.heap.size = q := ⟨_,rfl⟩
 obtain ⟨H,hH⟩ : ∃ q,w.heap.size = q := ⟨_,rfl⟩
 obtain ⟨W2,hW2⟩ : ∃ q,w1.alloc (.cells #[.int .i64 1, .string PB] 198) = q := ⟨_,rfl⟩
 rw [hZ] at hrow2
 simp only [hZ,hH,hW2] at hrow2 hbw2 hbx2 hcm2 hz2 ⊢
 have HH := Lib.hid hH
 have HR2 := Lib.hid hrow2
 have HB2 := Lib.hid hbw2
 have HX2 := Lib.hid hbx2
 have HC2 := Lib.hid hcm2
 have K2 := KS W2 hcm2
 clear hrow2 hbw1 hbw2 hbx2 hcm2 hZ hH hW2 hs1 HB1 HBX KB
 go_wp2_with (first
  | (go_at_call 121;refine (KK _).mono ?_;rintro e w3 ⟨rfl,rfl⟩)
  | (go_at_call 120;refine K2.mono ?_;rintro e w4 ⟨Ak,ck,rfl,hkr,hb4⟩;have HKR := Lib.hid hkr;have HB4 := Lib.hid hb4;clear hkr hb4 K2))
 have hba := (below_alloc W2 (.cells #[.map (some Mc)] 148)).trans (HB4.out.mono (Nat.le_succ _))
 have hst4 : w4.ownsRow H 198 2 (.slice (some ⟨Z,0,none⟩) 1 1) (0 + 1) (scells ((settleX T C).take (0 + 1))) ∧ Below H w w4 ∧ Lies w4 Ak (ncells (C.map (·.1))) ∧ Typed w4 Ak 3 ∧ Blk w4 H #[.int .i64 tl, .string PB] 104 :=
  ⟨own_below HR2.out hba,HB2.out.trans (hba.mono (by have := HB2.out.size;rw [HH.out] at this;exact this)),Lies.of_row HKR.out,Typed.of_row HKR.out,HX2.out.below hba⟩
 have HST4 := Lib.hid hst4
 clear hba hst4
 go_loopw [7,19] (fun v i wr => ∃ k : Nat,k ≤ n ∧ i = .int .i64 k ∧ wr.ownsRow H 198 2 v (k + 1) (scells ((settleX T C).take (k + 1))) ∧ Below H w wr ∧ Lies wr Ak (ncells (C.map (·.1))) ∧ Typed wr Ak 3 ∧ Blk wr H #[.int .i64 tl, .string PB] 104) (fun _ i _ => n - (intOf i).toNat)
 case atStart => exact ⟨0,Nat.zero_le _,rfl,HST4.out⟩
 case round =>
  obtain ⟨k,hk,rfl,hrow,hb,hl,ht,hbx⟩ := hrel
  by_cases hlt : k < n
  ·have hkl : k < C.length := by rw [HN.out];exact hlt
   obtain ⟨g,off,rfl,hgl,hcs⟩ := hl (by rw [ncells_length,List.length_map];omega)
   have d0 := hcs k _ (ncells_at (C.map (·.1)) k (by rw [List.length_map];exact hkl))
   rw [List.getElem_map] at d0
   have hcm : CM wr Mc C := HCM.out.block (hb.block Mc (by rw [← HH.out];exact HCM.out.lt))
   have hcx := HCX.out C[k] (List.getElem_mem hkl)
   have hlk := HLK.out C[k] (List.getElem_mem hkl) wr hcm
   have HTX := Lib.hid (HXK.out k hkl)
   obtain ⟨c,hc⟩ : ∃ q,C[k] = q := ⟨_,rfl⟩
   rw [hc] at d0 hcx hlk HTX
   obtain ⟨z,t⟩ := c
   dsimp only at d0 hcx hlk HTX
   obtain ⟨Y,hY⟩ : ∃ q,mk t = q := ⟨_,rfl⟩
   rw [hY] at hlk
   have HY := Lib.hid hY
   have hzb : z ≤ 256 := by omega
   have HROW := Lib.hid hrow
   have HB := Lib.hid hb
   have HTL := Lib.hid (And.intro hl (And.intro ht hbx))
   have k0 : (0 : Int) ≤ (k : Int) := by omega
   have k1 : (k : Int) < (n : Int) := by omega
   have z0 : (0 : Int) ≤ (z : Int) := by omega
   have z1 : (z : Int) ≤ 256 := by omega
   have hnw := World.news_of_block (cs := #[.int .i64 (2 + (z : Int)), .string Y]) (heap_alloc_new wr (.cells #[.int .i64 (2 + (z : Int)), .string Y] 198))
   have hr2 := World.ownsRow.alloc hrow (.cells #[.int .i64 (2 + (z : Int)), .string Y] 198)
   have hb2 := hb.alloc (by have := hb.size;rw [HH.out] at this;exact this) (.cells #[.int .i64 (2 + (z : Int)), .string Y] 198)
   have hl2 : Lies (wr.alloc (.cells #[.int .i64 (2 + (z : Int)), .string Y] 198)) (some ⟨g,off,none⟩) (ncells (C.map (·.1))) := hl.below (Nat.le_refl _) (below_alloc _ _)
   have ht2 : Typed (wr.alloc (.cells #[.int .i64 (2 + (z : Int)), .string Y] 198)) (some ⟨g,off,none⟩) 3 := ht.below (below_alloc _ _)
   have hbx2 := hbx.alloc (.cells #[.int .i64 (2 + (z : Int)), .string Y] 198)
   have HNW := Lib.hid (And.intro hnw (And.intro hr2 (And.intro hb2 (And.intro hl2 (And.intro ht2 hbx2)))))
   have hszw : H ≤ wr.heap.size := by have := hb.size;rw [HH.out] at this;exact this
   clear hrow hb hl ht hbx hcs hc hcm hcx hY hnw hr2 hb2 hl2 ht2 hbx2 hkl
   go_wp2_with (at_builtin;refine wpList_append_lies _ rfl (.tmp 23) (.tmp 30) 180 rfl H 198 i156 _ 2 24 Tryz.underlying180 hi0 hi1 hi2 hi3 rfl (by decide) u7 (k + 1) _ rfl HNW.out.2.1 ⟨_,0,none⟩ 1 1 [.int .i64 (2 + (z : Int)), .string Y] rfl rfl HNW.out.1 (by simp [Value.oneCell']) (by omega) (by unfold maxLen;omega) (by omega) (by simp;omega) _ rfl ?_;intro g3 c3 W3 hS3 hg3 _ _;have HS3 := Lib.hid hS3;have HG3 := Lib.hid hg3;clear hS3 hg3)
   have hnw := HNW.out
   have hlt3 := hnw.2.2.2.1.grown hnw.2.2.2.2.1 HG3.out (fun x hx => by
    obtain ⟨cs,fr,hc⟩ := row_kind hnw.2.1 x hx
    exact ⟨cs,198,fr,hc,by decide⟩)
   have hbx3 := hnw.2.2.2.2.2.grown HG3.out (own_ne_blk hnw.2.1 hnw.2.2.2.2.2 (by decide))
   have hb3 := hnw.2.2.1.grown HG3.out (by simp;have := HH.out;omega) (fun x hx => (hnw.2.1.lt x hx).1)
   have hrow3 : W3.ownsRow H 198 2 (.slice (some ⟨g3,0,none⟩) (k + 1 + 1) c3) (k + 1 + 1) (scells ((settleX T C).take (k + 1 + 1))) := by
    rw [HTX.out,scells_snoc,HY.out]
    have := HS3.out
    rw [show ((2 + z : Nat) : Int) = 2 + (z : Int) by omega]
    exact this
   have HF := Lib.hid (And.intro hrow3 (And.intro hb3 (And.intro hlt3.1 (And.intro hlt3.2 hbx3))))
   clear hnw hlt3 hbx3 hb3 hrow3
   go_roundw
   case rel => exact ⟨k + 1,by omega,by go_num,HF.out⟩
   case measure => simp [intOf];omega
  ·obtain rfl : n = k := by omega
   obtain ⟨A',c',rfl⟩ := row_form hrow
   rw [List.take_of_length_le (by rw [HXL.out];exact Nat.le_refl _)] at hrow
   have hbw : Below w.heap.size w wr := by rw [HH.out];exact hb
   have hst := HSTO.out.below hbw
   have hrl := Lies.of_row hrow
   have hAX : ∀ a,(A' : Option Addr) = some a → a.block ∉ X := fun a ha hx => by
    have h1 := HSTO.out.dsk.lt _ hx
    have h2 := (hrow.lt a.block (by rw [ha];rfl)).1
    have := HH.out
    omega
   have KCM := KC A' c' wr hst.dsk hst.log hst.apart.2.1 hrl hAX hst.tb hst.pos hst.apart.2.2.2
   rw [HXL.out] at KCM
   have x1w := (hbw.cell (p := ⟨S,1,none⟩) hSl).trans x1
   have hSw : S < wr.heap.size := Nat.lt_of_lt_of_le hSl hbw.size
   have HST := Lib.hid hst
   have HBW := Lib.hid hbw
   have HBXR := Lib.hid hbx
   clear hrow hb hl ht hbx hbw hst hrl hAX KC x1
   go_upto_region 8 with (go_at_call 122;refine KCM.mono ?_;rintro e W4 ⟨rfl,X2,hD4,hM4⟩)
   have hst4 := HST.out.disk hD4 hM4
   have hHX : H ∉ X := fun hx => by have := HSTO.out.dsk.lt _ hx;have := HH.out;omega
   have hbx4 := hM4.blk HBXR.out hHX
   have hmv := (((Mv.of_below X HBW.out).trans hM4).cons S)
   have c5 := hst4.blk.cell 6
   have c2 := hst4.blk.cell 2
   have c3 := hst4.blk.cell 3
   have f5 := hst4.blk.frozen 6
   have f2 := hst4.blk.frozen 2
   have f3 := hst4.blk.frozen 3
   simp at c5 c2 c3
   have hS4 := hst4.blk.lt
   have b0 := hbx4.cell 0
   have b1 := hbx4.cell 1
   simp at b0 b1
   have hH4 := hbx4.lt
   rcases hnum with rfl | rfl
   ·have hg := grown_set2 W4 S 2 3 (.int .i64 tl) (.string PB)
    have hbS := (hst4.blk.set 2 (.int .i64 tl)).set 3 (.string PB)
    have hfin := hst4.own hg (T := T) (off := m.off) (by
     rw [HPB.out.1.symm] at hbS ⊢
     rw [← HPB.out.2] at hbS ⊢
     simpa using hbS)
    have HF := Lib.hid (And.intro hfin (hmv.trans (Mv.of_grown hg (List.mem_cons_self ..))))
    clear hst4 hD4 hM4 hbx4 hmv hg hbS hfin hHX KCM
    go_wp2
    go_ret
    exact ⟨rfl,X2,HF.out.2,HF.out.1⟩
   ·have hg := grown_set W4 S 6 (.bool true)
    have hbS := hst4.blk.set 6 (.bool true)
    have hfin := hst4.own hg (T := m.T) (off := true) (by simpa using hbS)
    have HF := Lib.hid (And.intro hfin (hmv.trans (Mv.of_grown hg (List.mem_cons_self ..))))
    clear hst4 hD4 hM4 hbx4 hmv hg hbS hfin hHX KCM
    go_wp2
    go_ret
    exact ⟨rfl,X2,HF.out.2,HF.out.1⟩
open Go.RowKit Go.Maps
def vacN (F : List FileM) (most : Nat) : Option Nat := ((List.range most).map fun i => F.any fun f => f.entry == i).findIdx? (· == false)
def vacI (F : List FileM) (most : Nat) : Int := match vacN F most with
 | some i => i
 | none => -1
theorem wpList_next_files {w : World} {ops : Array Oper} {rest : List Oper} {o : Oper} {a : Act} {Q : Exit → Act → World → Prop} (hg : o.guard = none) (it : Operand) (hop : o.op = Op.next it false) (M r n : Nat) (Dm : DataW Value) (ad : AdM) (F : List FileM) (left : Lit → Bool) (cnt : Nat)
  (hit : a.eval it = .pointer (some ⟨r,0,none⟩)) (h : w.ranges Tryz.prog 9 rawE M r n Dm left cnt) (hF : ∀ t : Bs,Maps.has Dm (.string t) = (fileOf F t).isSome ∧ ∀ z,Dm.atKey (.string t) z = ((fileOf F t).map fun f => DataW.held (inoV ad f)).getD z)
  (hDone : (∀ kl,left kl = false) → wpList Tryz.prog ops Q rest (a.put o.dst (.tuple #[.bool false])) w)
  (hMore : ∀ (f : FileM) (w' : World) (cnt' : Nat),f ∈ F → w'.ranges Tryz.prog 9 rawE M r n Dm (fun z => left z && !z.sameKey (.string f.name)) cnt' → cnt' < cnt → w.grownBy w' (some r) → w'.heap.size = w.heap.size →
   (Instr.entry (.pointer (some ⟨r,0,none⟩))).run Tryz.prog w' = .ok (.tuple #[.string (mk f.name),inoV ad f]) w' → wpList Tryz.prog ops Q rest (a.put o.dst (.tuple #[.bool true, .string (mk f.name),inoV ad f])) w') :
  wpList Tryz.prog ops Q (o :: rest) a w := by
 refine wpList_plain hg fun K' hK' => ?_
 unfold Oper.wp
 rcases h.next keyLaw9 o.type with ⟨_,hl,hrun⟩ | ⟨key,v,kl,y,w',cnt',hkey,_,hv,hat,hrun,hrg,hlt,hgr,hsz,hen⟩
 ·simp [execOp,hop,hit,hrun,Result.andThen]
  exact hK' _ _ (hDone hl)
 ·obtain ⟨x,rfl,rfl,_⟩ := Maps.keyOf_str Tryz.underlying9 hkey
  have hhas : Maps.has Dm (.string x) = true := has_true_of_atKey hat
  rw [(hF x).1] at hhas
  obtain ⟨f,hf⟩ := Option.isSome_iff_exists.1 hhas
  have hx := fileOf_name hf
  subst hx
  have hv2 : y.1 = .held v := rawE_inv (ps := y.2) hv
  have h3 := hat (.held inoZ)
  rw [(hF f.name).2,hf,hv2] at h3
  simp only [Option.map_some,Option.getD_some,DataW.held.injEq] at h3
  subst h3
  have hms : (encStr f.name) = .string (mk f.name) := rfl
  rw [hms] at hrun hen
  simp [execOp,hop,hit,hrun,Result.andThen]
  exact hK' _ _ (hMore f w' cnt' (fileOf_mem hf) hrg hlt hgr hsz hen)
def tkB (F : List FileM) (left : Lit → Bool) (most : Nat) : List Value := (List.range most).map fun i => .bool (F.any fun f => f.entry == i && !left (.string f.name))
theorem tkB_length (F : List FileM) (left : Lit → Bool) (most : Nat) : (tkB F left most).length = most := by simp [tkB]
theorem tkB_start (F : List FileM) (left : Lit → Bool) (most : Nat) (h : ∀ f ∈ F,left (.string f.name) = true) : tkB F left most = List.replicate most (.bool false) := by
 unfold tkB
 rw [List.eq_replicate_iff]
 refine ⟨by simp,fun v hv => ?_⟩
 obtain ⟨i,_,rfl⟩ := List.mem_map.1 hv
 rw [List.any_eq_false.2 (fun f hf => by rw [h f hf];simp)]
theorem name_inj : ∀ {F : List FileM},(F.map (·.name)).Nodup → ∀ {f g : FileM},f ∈ F → g ∈ F → f.name = g.name → f = g
 | [],_,_,_,h,_,_ => by cases h
 | a :: F,hnd,f,g,hf,hg,he => by
  rw [List.map_cons,List.nodup_cons] at hnd
  rcases List.mem_cons.1 hf with e1 | hf
  ·rcases List.mem_cons.1 hg with e2 | hg
   ·rw [e1,e2]
   ·exact absurd (show a.name ∈ F.map (·.name) from List.mem_map.2 ⟨g,hg,by rw [← he,e1]⟩) hnd.1
  ·rcases List.mem_cons.1 hg with e2 | hg
   ·exact absurd (show a.name ∈ F.map (·.name) from List.mem_map.2 ⟨f,hf,by rw [he,e2]⟩) hnd.1
   ·exact name_inj hnd.2 hf hg he
theorem tkB_step (F : List FileM) (left : Lit → Bool) (most : Nat) (f : FileM) (hf : f ∈ F) (hnd : (F.map (·.name)).Nodup) (he : f.entry < most) :
  tkB F (fun z => left z && !z.sameKey (.string f.name)) most = (tkB F left most).set f.entry (.bool true) := by
 unfold tkB
 refine List.ext_getElem (by simp) fun i h1 h2 => ?_
 simp only [List.length_map,List.length_range] at h1
 rw [List.getElem_set]
 simp only [List.getElem_map,List.getElem_range]
 by_cases hi : f.entry = i
 ·subst hi
  rw [if_pos rfl,List.any_eq_true.2 ⟨f,hf,by simp [Lit.sameKey]⟩]
 ·rw [if_neg hi]
  congr 1
  rw [Bool.eq_iff_iff,List.any_eq_true,List.any_eq_true]
  constructor
  ·rintro ⟨g,hg,hc⟩
   refine ⟨g,hg, ?_⟩
   simp only [Bool.and_eq_true,Bool.not_eq_true',Bool.and_eq_false_iff,Bool.not_eq_false',beq_iff_eq] at hc ⊢
   obtain ⟨h3,h4⟩ := hc
   refine ⟨h3,h4.elim id fun h5 => ?_⟩
   exfalso
   have hn : g.name = f.name := by simpa [Lit.sameKey] using h5
   have : g = f := name_inj hnd hg hf hn
   subst this
   exact hi h3
  ·rintro ⟨g,hg,hc⟩
   refine ⟨g,hg, ?_⟩
   simp only [Bool.and_eq_true,Bool.not_eq_true',beq_iff_eq] at hc ⊢
   exact ⟨hc.1,by rw [hc.2];rfl⟩
theorem tkB_end (F : List FileM) (left : Lit → Bool) (most : Nat) (h : ∀ kl,left kl = false) : tkB F left most = (List.range most).map fun i => .bool (F.any fun f => f.entry == i) := by
 unfold tkB
 refine List.map_congr_left fun i _ => ?_
 congr 2
 funext f
 rw [h];simp
theorem made_bool (m : Nat) : madeCells (Value.bool false).cells m = (List.replicate m (Value.bool false)).toArray := by
 refine Array.ext (by simp [madeCells]) fun i h1 h2 => ?_
 simp [madeCells,Value.cells,Nat.mod_one]
theorem info4 : (Tryz.prog.info? 4).map (fun i => (i.zero,i.size,i.bytes)) = some (some (.bool false),1,1) := by kernel_rfl
set_option maxHeartbeats 1000000 in
theorem index_any (G cap : Nat) (bs : List Bool) (w : World) (hrow : w.ownsRow 0 4 1 (.slice (some ⟨G,0,none⟩) bs.length cap) bs.length (bs.map .bool)) :
  Calls Tryz.prog 95 #[.slice (some ⟨G,0,none⟩) bs.length cap, .bool false] w fun e w' => e = .returned (.int .i64 (match bs.findIdx? (· == false) with | some i => (i : Int) | none => -1)) ∧ w' = w := by
 have hn63 := len63 hrow
 obtain ⟨n,hn⟩ : ∃ q,bs.length = q := ⟨_,rfl⟩
 rw [hn] at hrow hn63 ⊢
 have HN := Lib.hid hn
 have HR := Lib.hid hrow
 obtain ⟨R,hR⟩ : ∃ q,(match bs.findIdx? (· == false) with | some i => (i : Int) | none => -1) = q := ⟨_,rfl⟩
 rw [hR]
 have HRR := Lib.hid hR
 clear hn hrow hR
 go_enter Tryz.func95,Tryz.ntmps95
 go_wp2
 go_loopw [8] (fun i wr => ∃ k : Nat,k ≤ n ∧ i = .int .i64 k ∧ (∀ j (hj : j < bs.length),j < k → bs[j] = true) ∧ wr = w) (fun i _ => n - (intOf i).toNat)
 case atStart => exact ⟨0,Nat.zero_le _,rfl,fun j _ h => absurd h (by omega),rfl⟩
 case round =>
  obtain ⟨k,hk,rfl,hall,rfl⟩ := hrel
  by_cases hlt : k < n
  ·have hkl : k < bs.length := by rw [HN.out];exact hlt
   have d0 := HR.out.cellAt k (by omega)
   rw [List.getElem?_map,List.getElem?_eq_getElem hkl,Option.map_some] at d0
   have hgl := (HR.out.lt G rfl).2
   have k0 : (0 : Int) ≤ (k : Int) := by omega
   have k1 : (k : Int) < (n : Int) := by omega
   have HALL := Lib.hid hall
   cases hb : bs[k] with
   | true =>
    rw [hb] at d0
    have HB := Lib.hid hb
    clear hall hb
    go_wp2
    go_roundw
    case rel => exact ⟨k + 1,by omega,by go_num,fun j hj hjk => (by
     by_cases e : j = k
     ·subst e;exact HB.out
     ·exact HALL.out j hj (by omega)),trivial⟩
    case measure => simp [intOf];omega
   | false =>
    rw [hb] at d0
    have HFN := Lib.hid (show R = (k : Int) by
     rw [← HRR.out,show bs.findIdx? (· == false) = some k from List.findIdx?_eq_some_iff_getElem.2 ⟨hkl,by rw [hb];rfl,fun j hj => by rw [hall j (by omega) hj];decide⟩])
    clear hall hb hkl
    go_wp2
    go_ret
    obtain rfl := HFN.out
    exact ⟨rfl,rfl⟩
  ·obtain rfl : n = k := by omega
   have HFN := Lib.hid (show R = -1 by
    rw [← HRR.out,show bs.findIdx? (· == false) = none from List.findIdx?_eq_none_iff.2 fun b hb => by
     obtain ⟨j,hj,rfl⟩ := List.getElem_of_mem hb
     rw [hall j hj (by have := HN.out;omega)];rfl])
   clear hall
   go_wp2
   go_ret
   obtain rfl := HFN.out
   exact ⟨rfl,rfl⟩
set_option maxRecDepth 100000 in
set_option maxHeartbeats 2000000 in
theorem vacant_any (X : List Nat) (S D Lg M : Nat) (m : StoM) (w : World) (h : Sto w X S D Lg M m) (hm : 1 ≤ m.most ∧ m.most ≤ 256) (he : ∀ f ∈ m.F,f.entry < m.most) :
  Calls Tryz.prog 51 #[.pointer (some ⟨S,0,none⟩)] w fun e w' => e = .returned (.tuple #[.int .i64 (vacI m.F m.most), .bool (decide (0 ≤ vacI m.F m.most))]) ∧ Below w.heap.size w w' := by
 obtain ⟨i4,hi0,hi1,hi2,hi3⟩ := info_parts info4
 obtain ⟨ad,⟨Dm,hown,hnd,hsz,hat⟩,hex⟩ := h.map
 have x4 := h.blk.cell 4
 have x5 := h.blk.cell 5
 simp at x4 x5
 have hSl := h.blk.lt
 obtain ⟨F,hF⟩ : ∃ q,m.F = q := ⟨_,rfl⟩
 obtain ⟨n,hn⟩ : ∃ q,m.most = q := ⟨_,rfl⟩
 rw [hF,hn] at he
 rw [hF] at hown hnd hsz hat
 rw [hn] at x5 hm
 rw [hF,hn]
 have hmk := fun (w : World) => run_make (P := Tryz.prog) w 85 4 i4 _ Tryz.underlying85 hi0 hi1 .i64 .i64 (n : Int) (n : Int) (by omega) (by omega) (by rw [hi3];omega) (by omega)
 have hmc : madeCells (Value.cells (.bool false)) ((n : Int).toNat * i4.size) = (List.replicate n (Value.bool false)).toArray := by
  rw [hi2,Nat.mul_one,Int.toNat_natCast]
  exact made_bool n
 rw [hmc,Int.toNat_natCast] at hmk
 have HAT := Lib.hid hat
 have HND := Lib.hid hnd
 have HE := Lib.hid he
 have HOWN := Lib.hid hown
 have HB0 := Lib.hid (below_alloc w (.cells (List.replicate n (Value.bool false)).toArray 4))
 have hown1 : (w.alloc (.cells (List.replicate n (Value.bool false)).toArray 4)).ownsMap Tryz.prog 9 rawE M F.length Dm := hown.alloc _
 have HLFT := Lib.hid (show ∀ f ∈ F,Maps.has Dm (.string f.name) = true from fun f hf => by
  rw [(hat f.name).1]
  cases hc : fileOf F f.name with
  | some g => rfl
  | none => exact absurd rfl (fileOf_none.1 hc f hf))
 have hrow1 : (w.alloc (.cells (List.replicate n (Value.bool false)).toArray 4)).heap[w.heap.size]? = some (.cells (tkB F (Maps.has Dm) n).toArray 4 (0,0)) := by
  rw [tkB_start F _ n HLFT.out];exact heap_alloc_new w _
 have y4 := (cell_old w (.cells (List.replicate n (Value.bool false)).toArray 4) ⟨S,4,none⟩ hSl).trans x4
 have hW1 : (w.alloc (.cells (List.replicate n (Value.bool false)).toArray 4)).heap.size = w.heap.size + 1 := by simp
 replace hmk := hmk w
 obtain ⟨G,hG⟩ : ∃ q,w.heap.size = q := ⟨_,rfl⟩
 have HG := Lib.hid hG
 rw [hG] at hmk hW1 hrow1
 obtain ⟨W1,hW⟩ : ∃ q,w.alloc (.cells (List.replicate n (Value.bool false)).toArray 4) = q := ⟨_,rfl⟩
 rw [hW] at hmk hW1 hrow1 y4 HB0 hown1
 have HRW := Lib.hid hrow1
 have HW1 := Lib.hid hW1
 have HB1 := Lib.hid (show Below G w W1 by rw [← hG];exact HB0.out)
 have HSL := Lib.hid (show S < G by rw [← hG];exact hSl)
 have HML := Lib.hid (show M < G by rw [← hG];exact hown.lt)
 rw [hG]
 clear h he hown hnd hsz hat hex hF hn hmc hrow1 hW1 hG hW HB0 hSl
 obtain ⟨V,hV⟩ : ∃ q,vacI F n = q := ⟨_,rfl⟩
 have HV := Lib.hid (show (match ((List.range n).map fun i => F.any fun f => f.entry == i).findIdx? (· == false) with | some i => (i : Int) | none => -1) = V from hV)
 rw [hV]
 clear hV
 go_enter Tryz.func51,Tryz.ntmps51
 go_wp2_with (first | (at_range;refine wpList_range_own _ rfl _ 105 rfl 9 97 keyLaw9 Tryz.underlying105 rawE M F.length Dm rfl hown1 ?_;intro w0 hrg0 hg0 hs0;have hsz0 := hs0.trans (congrArg (· + 1) HW1.out);have hb0 := (hg0.block G (by rw [HW1.out];omega) (by simp)).trans HRW.out;have HG0 := Lib.hid hg0;have HS0 := Lib.hid hsz0;have HB00 := Lib.hid hb0;rw [HW1.out] at hrg0 ⊢;clear hg0 hs0 hsz0 hb0) | go_in)
 go_frame
 go_loopw [18] (fun _ wr => ∃ left cnt,wr.ranges Tryz.prog 9 rawE M (G + 1) F.length Dm left cnt ∧ wr.heap[G]? = some (.cells (tkB F left n).toArray 4 (0,0)) ∧ Below G w wr ∧ G + 2 ≤ wr.heap.size) (fun _ wr => wr.rangeLeft M (G + 1))
 case atStart => exact ⟨_,_,hrg0,HB00.out,HB1.out.trans ⟨HG0.out.os,HG0.out.tape,HG0.out.output,HG0.out.size,fun k hk => HG0.out.block k (by rw [HW1.out];omega) (by simp)⟩,by rw [HS0.out];omega⟩
 case round =>
  obtain ⟨left,cnt,hrg,hrow,hbl,hsz⟩ := hrel
  go_wp2_with (first | (at_next;refine wpList_next_files rfl _ rfl M (G + 1) F.length Dm ad F left cnt rfl hrg HAT.out ?_ ?_) | go_in)
  ·intro hl0
   rw [tkB_end F left n hl0] at hrow
   have KI := index_any G n ((List.range n).map fun i => F.any fun f => f.entry == i) wr (by
    rw [List.length_map,List.length_range,List.map_map]
    refine own_new (cs := (List.range n).map (Value.bool ∘ fun i => F.any fun f => f.entry == i)) ?_ (Nat.zero_le _) (by simp) rfl (by omega)
    exact hrow)
   rw [List.length_map,List.length_range] at KI
   rw [HV.out] at KI
   have HBL := Lib.hid hbl
   clear hrow hbl
   go_wp2_with (first | (go_at_call 95;refine KI.mono ?_;rintro e w2 ⟨rfl,rfl⟩))
   go_ret2
   exact ⟨rfl,HBL.out⟩
  ·intro f w1 cnt1 hfm hrg1 hlt hg1 hs1 hen
   unfold inoV at hen
   have hfe := HE.out f hfm
   have hst := tkB_step F left n f hfm HND.out hfe
   obtain ⟨c,hc⟩ : ∃ c,(tkB F left n)[f.entry]? = some c := ⟨_,List.getElem?_eq_getElem (by rw [tkB_length];exact hfe)⟩
   have hrow1 := (hg1.block G (by omega) (by simp)).trans hrow
   have d0 : w1.cell? ⟨G,f.entry,none⟩ = some c := by rw [World.cell?,hrow1];simpa using hc
   have q0 : w1.frozen? ⟨G,f.entry,none⟩ = false := by rw [World.frozen?,hrow1];rfl
   obtain ⟨E,hE⟩ : ∃ q,f.entry = q := ⟨_,rfl⟩
   rw [hE] at hen d0 q0 hfe hst
   have k0 : (0 : Int) ≤ (E : Int) := by omega
   have k1 : (E : Int) < (n : Int) := by omega
   have HST := Lib.hid hst
   have HR1 := Lib.hid hrow1
   have HG1 := Lib.hid hg1
   clear hc hst hrow1 hE hg1
   have hl1 : G < w1.heap.size := by omega
   have q1 : ∀ o,(w1.alloc o).frozen? ⟨G,E,none⟩ = false := fun o => by rw [World.frozen?,Below.heap_alloc _ _ G hl1,HR1.out];rfl
   have hl2 : G < wr.heap.size := by omega
   go_wp2
   go_roundw
   case rel =>
    have hg := HG1.out
    have hrgA : (w1.setCell ⟨G,E,none⟩ (.bool true)).ranges Tryz.prog 9 rawE M (G + 1) F.length Dm (fun z => left z && !z.sameKey (Lit.string f.name)) cnt1 := hrg1.kept (grown_set w1 G E _) (by have := HML.out;simp;omega) (by simp)
    refine ⟨_,_,hrgA.alloc _, ?_, ?_, ?_⟩
    ·rw [Below.heap_alloc _ _ G (by simp;omega),HST.out]
     have := Blk.set (show Blk w1 G _ 4 from HR1.out) E (.bool true)
     rw [List.setIfInBounds_toArray] at this
     exact this
    ·exact Below.alloc (below_set (hbl.trans ⟨hg.os,hg.tape,hg.output,hg.size,fun k hk => hg.block k (by omega) (by simp;omega)⟩) G E _ (Nat.le_refl _)) (by simp;omega) _
    ·simp;omega
   case measure =>
    rw [hrg.left_eq,((hrg1.kept (grown_set w1 G E (.bool true)) (by have := HML.out;simp;omega) (by simp)).alloc _).left_eq]
    exact hlt
open Go.RowKit Go.Maps
theorem wpOp_insert {P : Program} {ops : Array Oper} {Q : Exit → Act → World → Prop} {i : Nat} {K : Act → World → Prop} {a : Act} {w w' : World} {o : Oper} (ho : ops[i]? = some o) (hg : o.guard = none) (t : TypeId) (m x v : Operand) (hop : o.op = .insert t m x v) (mv kv vv : Value)
  (hm : a.eval m = mv) (hx : a.eval x = kv) (hv : a.eval v = vv) (hrun : (Instr.mapUpdate t mv kv vv).run P w = .ok () w') (hK : K (a.put o.dst undef) w') : wpOp P ops Q i K a w := by
 refine wpOp_of ho hg ?_
 unfold Oper.wp
 simp [execOp,hop,hm,hx,hv,hrun,Result.andThen]
 exact hK
theorem wpOp_mapUpdate {P : Program} {ops : Array Oper} {Q : Exit → Act → World → Prop} {i : Nat} {K : Act → World → Prop} {a : Act} {w w' : World} {o : Oper} (ho : ops[i]? = some o) (hg : o.guard = none) (t : TypeId) (m x v : Operand) (hop : o.op = .mapUpdate t m x v) (mv kv vv : Value)
  (hm : a.eval m = mv) (hx : a.eval x = kv) (hv : a.eval v = vv) (hrun : (Instr.mapUpdate t mv kv vv).run P w = .ok () w') (hK : K (a.put o.dst undef) w') : wpOp P ops Q i K a w := by
 refine wpOp_of ho hg ?_
 unfold Oper.wp
 simp [execOp,hop,hm,hx,hv,hrun,Result.andThen]
 exact hK
def putC (most : Nat) (T : List Bool) (l : List Nat) (data : Bs) (f : FileM) : List Cmd := layC l data ++ settleC most T [(f.entry,entryB f.name f.size f.ext)]
def PutP (X : List Nat) (S D Lg M : Nat) (m : StoM) (T : List Bool) (l : List Nat) (data : Bs) (f : FileM) (w : World) (e : Ending) (w' : World) : Prop :=
 e = .returned (.int .i64 ((DS.run (putC m.most T l data f) m.ds).1 : Nat)) ∧ ∃ X',Mv (S :: M :: X) (S :: M :: X') w w' ∧
  ((DS.run (putC m.most T l data f) m.ds).1 = 0 → Sto w' X' S D Lg M ⟨(DS.run (putC m.most T l data f) m.ds).2,putF m.F f,T,m.most,m.off⟩) ∧
  ((DS.run (putC m.most T l data f) m.ds).1 ≠ 0 → Sto w' X' S D Lg M ⟨(DS.run (putC m.most T l data f) m.ds).2,m.F,m.T,m.most,true⟩)
theorem Mv.cons2 {X X' : List Nat} {w w' : World} {S : Nat} (h : Mv (S :: X) (S :: X') w w') (M : Nat) : Mv (S :: M :: X) (S :: M :: X') w w' :=
 ⟨h.frm.mono (fun x hx => by rcases List.mem_cons.1 hx with rfl | hx <;> simp [*]),fun x hx => by
  rcases List.mem_cons.1 hx with rfl | hx
  ·exact .inl (List.mem_cons_self ..)
  ·rcases List.mem_cons.1 hx with rfl | hx
   ·exact .inl (by simp)
   ·rcases h.sub x (List.mem_cons_of_mem _ hx) with h1 | h1
    ·rcases List.mem_cons.1 h1 with rfl | h1
     ·exact .inl (List.mem_cons_self ..)
     ·exact .inl (by simp [h1])
    ·exact .inr h1⟩
theorem Sto.store {w w' : World} {X : List Nat} {S D Lg M : Nat} {m : StoM} {F : List FileM} {ad : AdM} (h : Sto w X S D Lg M m) (hg : w.grownBy w' (some M)) (hF : FM w' M ad F) (hE : Exts w' X ad F) : Sto w' X S D Lg M ⟨m.ds,F,m.T,m.most,m.off⟩ := by
 obtain ⟨ad0,h1,_⟩ := h.map
 obtain ⟨a1,a2,a3,a4⟩ := h.apart
 obtain ⟨_,n2,n3⟩ := h.ne
 have hfr : Frm [M] w w' := ⟨hg.os,hg.tape,hg.output,hg.size,fun k hk hx => hg.block k hk (by simpa using hx)⟩
 refine ⟨hfr.blk h.blk (by simpa using n2.symm),h.dsk.frm hfr (fun x hx e => a3 (by simp at e;rwa [← e])),hfr.blk h.log (by simpa using n3.symm),⟨ad,hF,hE⟩,⟨a1,a2,a3,a4⟩,fun k hk => ?_,Nat.lt_of_lt_of_le h.pos hg.size⟩
 refine (hfr.cell (p := ⟨1,k,none⟩) h.pos ?_).trans (h.tb k hk)
 intro e
 simp at e
 have a := h.tb k hk
 unfold World.cell? at a
 rw [e] at a
 obtain ⟨Dm,⟨es,clock,hh,_⟩,_⟩ := h1
 rw [hh] at a
 cases a
theorem putF_mem {F : List FileM} {f g : FileM} (h : g ∈ putF F f) : g = f ∨ (g ∈ F ∧ g.name ≠ f.name) := by
 unfold putF at h
 split at h
 ·obtain ⟨a,ha,he⟩ := List.mem_map.1 h
  by_cases hn : a.name = f.name
  ·rw [if_pos (by simpa using hn)] at he;exact .inl he.symm
  ·rw [if_neg (by simpa using hn)] at he;subst he;exact .inr ⟨ha,hn⟩
 ·rename_i hn
  rcases List.mem_append.1 h with h | h
  ·exact .inr ⟨h,fileOf_none.1 (by simpa using hn) g h⟩
  ·exact .inl (by simpa using h)
theorem Exts.put {w : World} {X : List Nat} {ad : AdM} {F : List FileM} {f : FileM} {A : Option Addr} {c : Nat} (h : Exts w X ad F) (h1 : Lies w A (ecells f.ext)) (h2 : Typed w A 172) (h3 : ∀ a,A = some a → a.block ∉ X) : Exts w X (setAd ad f.name (A,c)) (putF F f) := by
 intro g hg
 rcases putF_mem hg with rfl | ⟨hg,hn⟩
 ·rw [setAd_same];exact ⟨h1,h2,h3⟩
 ·rw [setAd_other _ _ _ _ hn];exact h g hg
set_option maxRecDepth 100000 in
set_option maxHeartbeats 4000000 in
theorem put_any' (X : List Nat) (S D Lg M : Nat) (m : StoM) (f : FileM) (A : Option Addr) (cap : Nat) (T : List Bool) (Al : Option Addr) (capl : Nat) (l : List Nat) (data : Bs) (w : World) (h : Sto w X S D Lg M m)
  (hA : Lies w A (ecells f.ext)) (hAT : Typed w A 172) (hAX : ∀ a,A = some a → a.block ∉ X) (hAl : Lies w Al (ncells l)) (hAlX : ∀ a,Al = some a → a.block ∉ X) (hl : ∀ i ∈ l,i < m.ds.L.length) (hln : l.length ≤ 100000) (hd : data.length ≤ 1099511627776)
  (hT : T.length = m.T.length) (hTb : T.length ≤ 4096) (hfe : f.entry < m.most) (hfn : f.name.length ≤ 80) (hfs : f.size ≤ 1099511627776) (hfx : f.ext.length ≤ 1000) (hfb : ∀ x ∈ f.ext,x.1 ≤ 1099511627776 ∧ x.2 ≤ 1099511627776) (hbody : (bodyB f.name f.size f.ext).length ≤ 508)
  (hF : m.F.length ≤ 1000) (hm : 1 ≤ m.most ∧ m.most ≤ 256) (hL : m.most + 7 ≤ m.ds.L.length) (hS : m.ds.S.length ≤ 700000) :
  Calls Tryz.prog 55 #[.pointer (some ⟨S,0,none⟩), .string (mk f.name), .agg #[.int .i64 f.entry, .int .i64 f.size, .slice A f.ext.length cap],spv T, .slice Al l.length capl, .string (mk data)] w (PutP X S D Lg M m T l data f w) := by
 have hb0 := (below_alloc w (.cells #[.int .i64 f.entry, .int .i64 f.size, .slice A f.ext.length cap] 97)).alloc (by simp) (.cells #[.int .i64 T.length, .string (mk (packB T))] 104)
 have hst0 := h.below hb0
 have hB0 := (Blk.new w #[.int .i64 f.entry, .int .i64 f.size, .slice A f.ext.length cap] 97).alloc (.cells #[.int .i64 T.length, .string (mk (packB T))] 104)
 have hB1 := Blk.new (w.alloc (.cells #[.int .i64 f.entry, .int .i64 f.size, .slice A f.ext.length cap] 97)) #[.int .i64 T.length, .string (mk (packB T))] 104
 rw [World.size_alloc] at hB1
 have KL := lay_any X S D Lg M m Al capl l data _ hst0 (hAl.below (Nat.le_refl _) hb0) hAlX hl hln hd (by omega)
 have hA0 := hA.below (Nat.le_refl _) hb0
 have hAT0 := hAT.below hb0
 unfold PutP putC spv
 have hput : DS.run (layC l data ++ settleC m.most T [(f.entry,entryB f.name f.size f.ext)]) m.ds = if (DS.run (layC l data) m.ds).1 = 0 then DS.run (settleC m.most T [(f.entry,entryB f.name f.size f.ext)]) (DS.run (layC l data) m.ds).2 else DS.run (layC l data) m.ds := run_append _ _ _
 have hn1 := run_num (layC l data) m.ds
 have hl1 := run_len (layC l data) m.ds
 have hlc : (layC l data).length ≤ 100001 := by
  unfold layC
  split
  ·simp
  ·rw [List.length_append,wrs_length,layX_length];simp;omega
 have hel : (entryB f.name f.size f.ext).length ≤ 512 := by unfold entryB;rw [full_length _ (by rw [List.length_append,sumB_length];omega)];omega
 have KE := fun (w1 : World) hA1 hT1 hw1 => entry_any f.name f.entry f.size A cap f.ext w1 hA1 hfs hfx hfb hbody hT1 hw1
 have KST := fun (X1 : List Nat) (Mc : Nat) (w1 : World) (h1 : Sto w1 X1 S D Lg M ⟨(DS.run (layC l data) m.ds).2,m.F,m.T,m.most,m.off⟩) (hC : CM w1 Mc [(f.entry,entryB f.name f.size f.ext)]) =>
  settle_any X1 S D Lg M Mc _ T [(f.entry,entryB f.name f.size f.ext)] w1 h1 hC hT hTb (by simp) (fun c hc => by
   have : c = (f.entry,entryB f.name f.size f.ext) := by simpa using hc
   subst this;exact ⟨hfe,hel⟩) hm (by simp only;rw [hl1.1];exact hL) (by have := hl1.2;simp only;omega)
 unfold SetP spv at KST
 dsimp only at KST
 obtain ⟨R,hR⟩ : ∃ q,DS.run (layC l data ++ settleC m.most T [(f.entry,entryB f.name f.size f.ext)]) m.ds = q := ⟨_,rfl⟩
 rw [hR] at hput ⊢
 obtain ⟨r1,hr1⟩ : ∃ q,DS.run (layC l data) m.ds = q := ⟨_,rfl⟩
 rw [hr1] at hput hn1 KL
 simp only [hr1] at KST
 obtain ⟨n1,d1⟩ := r1
 dsimp only at hput hn1 KL KST
 have hn2 := run_num (settleC m.most T [(f.entry,entryB f.name f.size f.ext)]) d1
 obtain ⟨r2,hr2⟩ : ∃ q,DS.run (settleC m.most T [(f.entry,entryB f.name f.size f.ext)]) d1 = q := ⟨_,rfl⟩
 rw [hr2] at hput hn2
 simp only [hr2] at KST
 obtain ⟨n2,d2⟩ := r2
 dsimp only at hn2 KST
 have HSTF := Lib.hid (fun (w1 : World) (ad : AdM) (hf : FM w1 M ad m.F) => hf.store f A cap (by unfold maxLen;omega) (by unfold maxLen;omega))
 obtain ⟨EB,hEB⟩ : ∃ q,entryB f.name f.size f.ext = q := ⟨_,rfl⟩
 rw [hEB] at KE
 simp only [hEB] at KST
 obtain ⟨ES,hES⟩ : ∃ q,mk EB = q := ⟨_,rfl⟩
 simp only [hES] at KE
 have HES := Lib.hid hES
 obtain ⟨en,hen⟩ : ∃ q,f.entry = q := ⟨_,rfl⟩
 obtain ⟨sz,hsz⟩ : ∃ q,f.size = q := ⟨_,rfl⟩
 obtain ⟨xl,hxl⟩ : ∃ q,f.ext.length = q := ⟨_,rfl⟩
 obtain ⟨NM,hNM⟩ : ∃ q,mk f.name = q := ⟨_,rfl⟩
 obtain ⟨tl,htl⟩ : ∃ q,T.length = q := ⟨_,rfl⟩
 obtain ⟨PB,hPB⟩ : ∃ q,mk (packB T) = q := ⟨_,rfl⟩
 obtain ⟨ll,hll⟩ : ∃ q,l.length = q := ⟨_,rfl⟩
 obtain ⟨DT,hDT⟩ : ∃ q,mk data = q := ⟨_,rfl⟩
 rw [hen,hsz,hxl,hNM] at HSTF
 simp only [hen,hsz,hxl,hNM,htl,hPB,hll,hDT] at KL KE KST hB0 hB1 hst0 hA0 hAT0 hb0 ⊢
 rw [hen] at hfe
 have HSTO := Lib.hid hst0
 have HA := Lib.hid (And.intro hA0 (And.intro hAT0 hAX))
 have HB0 := Lib.hid hb0
 have HBX := Lib.hid (And.intro hB0 hB1)
 have HENB := Lib.hid (show en ≤ 1000000 by omega)
 have HSLT := Lib.hid (And.intro h.blk.lt h.dsk.lt)
 obtain ⟨H,hH⟩ : ∃ q,w.heap.size = q := ⟨_,rfl⟩
 rw [hH] at HBX HSLT
 have HH := Lib.hid hH
 have hHle : H ≤ w.heap.size := by omega
 have mixed := mixedT
 clear h hA hAT hAX hAl hAlX hl hln hd hT hTb hfn hfs hfx hfb hbody hF hm hL hS hb0 hst0 hB0 hB1 hA0 hAT0 hl1 hlc hel hR hr1 hr2 hEB hES hen hsz hxl hNM htl hPB hll hDT hHle
 rcases hn1 with rfl | rfl
 case inr =>
  rw [if_neg (by decide)] at hput
  subst hput
  go_enter Tryz.func55,Tryz.ntmps55
  go_upto_region 2 with (go_at_call 99;refine KL.mono ?_;rintro e W1 ⟨rfl,X1,hD1,hM1⟩)
  have hst1 := HSTO.out.disk hD1 hM1
  have c6 := hst1.blk.cell 6
  have f6 := hst1.blk.frozen 6
  simp at c6
  have hSl := hst1.blk.lt
  have hg := grown_set W1 S 6 (.bool true)
  have hbS := hst1.blk.set 6 (.bool true)
  have hfin := hst1.own hg (T := m.T) (off := true) (by simpa using hbS)
  have hmv := ((((Mv.of_below X HB0.out).trans hM1).cons S).trans (Mv.of_grown hg (List.mem_cons_self ..))).cons2 M
  have HF := Lib.hid (And.intro hfin hmv)
  clear hst1 hD1 hM1 hg hbS hfin hmv KL
  go_wp2
  go_ret
  exact ⟨rfl,X1,HF.out.2,HF.out.1⟩
 rw [if_pos rfl] at hput
 subst hput
 go_enter Tryz.func55,Tryz.ntmps55
 go_upto_region 5 with (go_at_call 99;refine KL.mono ?_;rintro e W1 ⟨rfl,X1,hD1,hM1⟩)
 have hst1 := HSTO.out.disk hD1 hM1
 have hHX : H ∉ X := fun hx => by have := HSLT.out.2 _ hx;omega
 have hHX1 : H + 1 ∉ X := fun hx => by have := HSLT.out.2 _ hx;omega
 have hbx1 : Blk W1 H #[.int .i64 en, .int .i64 sz, .slice A xl cap] 97 ∧ Blk W1 (H + 1) #[.int .i64 tl, .string PB] 104 := ⟨hM1.blk HBX.out.1 hHX,hM1.blk HBX.out.2 hHX1⟩
 have hA1 := hM1.lies HA.out.1 HA.out.2.2
 have hAT1 := HA.out.2.1.frm hM1.frm HA.out.2.2
 have hAX1 : ∀ a,A = some a → a.block ∉ X1 := fun a ha => by
  obtain ⟨cs,fr,hc⟩ := HA.out.2.1 a ha
  exact hM1.apart (HA.out.2.2 a ha) (Array.getElem?_eq_some_iff.1 hc).1
 have HM1 := Lib.hid ((Mv.of_below X HB0.out).trans hM1)
 have HST1 := Lib.hid (And.intro hst1 (And.intro hA1 (And.intro hAT1 (And.intro hAX1 hbx1))))
 have HHX1 := Lib.hid (show H ∉ X1 ∧ H + 1 ∉ X1 from ⟨hM1.apart hHX HBX.out.1.lt,hM1.apart hHX1 HBX.out.2.lt⟩)
 have HHS := Lib.hid (show H ≠ S ∧ H + 1 ≠ S by have := HSLT.out.1;omega)
 clear hst1 hHX hHX1 hA1 hAT1 hAX1 hD1 hM1 KL
 refine wp_region_held (S := fun w' => Blk w' H #[.int .i64 en, .int .i64 sz, .slice A xl cap] 97 ∧ Blk w' (H + 1) #[.int .i64 tl, .string PB] 104) mixed ?_
 change wpAnyH _ _ _ _ _ _ _ _ W1.drew
 have hS1 : Blk W1.drew H #[.int .i64 en, .int .i64 sz, .slice A xl cap] 97 ∧ Blk W1.drew (H + 1) #[.int .i64 tl, .string PB] 104 := hbx1
 have hb1 : Below W1.heap.size W1 W1.drew := (Below.refl _ _).drew
 obtain ⟨W0,hW0⟩ : ∃ q,W1.drew = q := ⟨_,rfl⟩
 rw [hW0] at hS1 hb1 ⊢
 clear hW0 hbx1
 refine tkQ 0 (.pointer (some ⟨S,0,none⟩)) rfl hS1 ?_
 try go_simp
 refine tkH 1 (.agg #[.int .i64 tl, .string PB]) rfl hS1 (fun w' hS => ?_) ?_
 ·have q0 := hS.2.cell 0;have q1 := hS.2.cell 1;simp at q0 q1;go_simp
 try go_simp
 refine tkQ 3 (.pointer (some ⟨H,0,none⟩)) rfl hS1 ?_
 try go_simp
 refine tkH 4 (.int .i64 (en : Int)) rfl hS1 (fun w' hS => ?_) ?_
 ·have q0 := hS.1.cell 0;simp at q0;go_simp
 try go_simp
 refine tkQ 5 (.string NM) rfl hS1 ?_
 try go_simp
 refine tkH 6 (.agg #[.int .i64 en, .int .i64 sz, .slice A xl cap]) rfl hS1 (fun w' hS => ?_) ?_
 ·have q0 := hS.1.cell 0;have q1 := hS.1.cell 1;have q2 := hS.1.cell 2;simp at q0 q1 q2;go_simp
 try go_simp
 refine wpAnyH_all (rs := [2,7]) (by kernel_rfl) (by simp) ?_
 intro i hi
 simp only [List.mem_cons,List.not_mem_nil,or_false] at hi
 rcases hi with rfl | rfl
 ·
  unfold wpOp
  have hmm := @run_makeMap Tryz.prog
  go_simp
  clear hmm
  have hS2 : Blk (W0.alloc (.map #[] 0)) H #[.int .i64 en, .int .i64 sz, .slice A xl cap] 97 ∧ Blk (W0.alloc (.map #[] 0)) (H + 1) #[.int .i64 tl, .string PB] 104 := ⟨hS1.1.alloc _,hS1.2.alloc _⟩
  have hb2 := hb1.alloc hb1.size (.map #[] 0)
  have hcm2 := CM.made W0
  have hMc : W1.heap.size ≤ W0.heap.size := hb1.size
  have hml := hcm2.lt
  obtain ⟨Mc,hMcE⟩ : ∃ q,W0.heap.size = q := ⟨_,rfl⟩
  rw [hMcE] at hcm2 hMc hml
  obtain ⟨W2,hW2⟩ : ∃ q,W0.alloc (.map #[] 0) = q := ⟨_,rfl⟩
  rw [hW2] at hS2 hb2 hcm2 hml ⊢
  try rw [hMcE]
  clear hW2 hMcE
  first | refine .inl ⟨hS2, ?_⟩ | refine ⟨hS2, ?_⟩
  refine alH 7 ?_
  unfold wpOp
  go_simp
  refine .inl ?_
  go_at_call 79
  refine (KE W2 (HST1.out.2.1.below (Nat.le_refl _) hb2) ((HST1.out.1.below hb2).tb) ((HST1.out.1.below hb2).pos)).mono ?_
  rintro e W3 ⟨rfl,hbe⟩
  have hS3 : Blk W3 H #[.int .i64 en, .int .i64 sz, .slice A xl cap] 97 ∧ Blk W3 (H + 1) #[.int .i64 tl, .string PB] 104 := ⟨hS2.1.below hbe,hS2.2.below hbe⟩
  have hb3 := hb2.trans (hbe.mono hb2.size)
  have hcm3 := hcm2.block (hbe.block Mc hml)
  refine ⟨hS3, ?_⟩
  clear hS2 hb2 hcm2 hml hbe hS1 hb1
  have hbel4 := fun (W4 : World) (hg4 : W3.grownBy W4 (some Mc)) => hb3.grown hg4 hb3.size (fun g e => by cases e;exact hMc)
  obtain ⟨W4,hrun4,hcm4,hg4⟩ := hcm3.one en EB HENB.out
  rw [HES.out] at hrun4
  have hb4 := hbel4 W4 hg4
  have HW4 := Lib.hid (And.intro hrun4 (And.intro hcm4 (And.intro (HST1.out.1.below hb4) (And.intro (show Blk W4 H #[.int .i64 en, .int .i64 sz, .slice A xl cap] 97 ∧ Blk W4 (H + 1) #[.int .i64 tl, .string PB] 104 from ⟨HST1.out.2.2.2.2.1.below hb4,HST1.out.2.2.2.2.2.below hb4⟩) (And.intro (HST1.out.2.1.below (Nat.le_refl _) hb4) (HST1.out.2.2.1.below hb4))))))
  have HX5 := Lib.hid (show H ∉ S :: X1 ∧ H + 1 ∉ S :: X1 from ⟨fun hx => by rcases List.mem_cons.1 hx with e | e;exact HHS.out.1 e;exact HHX1.out.1 e,fun hx => by rcases List.mem_cons.1 hx with e | e;exact HHS.out.2 e;exact HHX1.out.2 e⟩)
  have HX5A := Lib.hid (show ∀ a,A = some a → a.block ∉ S :: X1 from fun a ha hx => by
   rcases List.mem_cons.1 hx with e | e
   ·obtain ⟨cs,fr,hc⟩ := HST1.out.2.2.1 a ha
    have hb := HST1.out.1.blk
    unfold Blk at hb
    rw [e,hb] at hc
    simp at hc
   ·exact HST1.out.2.2.2.1 a ha e)
  have HMV4 := Lib.hid ((HM1.out.below hb4).cons S)
  clear hrun4 hcm4 hg4 hb4 hbel4 hcm3 hMc hb3
  refine alH 8 ?_
  refine wpOp_insert rfl rfl 148 (.tmp 27) (.tmp 29) (.tmp 32) rfl _ _ _ (by rfl) (by rfl) (by rfl) HW4.out.1 ?_
  refine ⟨HW4.out.2.2.2.1, ?_⟩
  refine tkQ 9 (.map (some Mc)) rfl HW4.out.2.2.2.1 ?_
  try go_simp
  refine alH 10 ?_
  unfold wpOp
  go_simp
  refine .inl ?_
  go_at_call 80
  refine (KST X1 Mc W4 HW4.out.2.2.1 HW4.out.2.1).mono ?_
  rintro e W5 ⟨rfl,X2,hM5,hS0,hS7⟩
  have hBX5 : Blk W5 H #[.int .i64 en, .int .i64 sz, .slice A xl cap] 97 ∧ Blk W5 (H + 1) #[.int .i64 tl, .string PB] 104 := ⟨hM5.blk HW4.out.2.2.2.1.1 HX5.out.1,hM5.blk HW4.out.2.2.2.1.2 HX5.out.2⟩
  refine ⟨hBX5, ?_⟩
  rcases hn2 with rfl | rfl
  case inr =>
   refine tkQ 11 (.int .i64 7) rfl hBX5 ?_
   try go_simp
   refine wpAnyH_done (by kernel_rfl) ?_ _
   have HF := Lib.hid (And.intro (hS7 (by decide)) ((HMV4.out.trans hM5).cons2 M))
   clear hBX5 hM5 hS0 hS7 KST KE
   go_wp2
   go_ret
   exact ⟨rfl,X2,HF.out.2,by first | exact HF.out.1 | exact ⟨(fun h => by cases h),fun _ => HF.out.1⟩ | exact ⟨fun _ => HF.out.1,fun h => absurd rfl h⟩⟩
  refine tkQ 11 (.int .i64 0) rfl hBX5 ?_
  try go_simp
  refine wpAnyH_done (by kernel_rfl) ?_ _
  have hst5 := hS0 rfl
  have hA5 := hM5.lies HW4.out.2.2.2.2.1 HX5A.out
  have hAT5 := HW4.out.2.2.2.2.2.frm hM5.frm HX5A.out
  have hAX5 : ∀ a,A = some a → a.block ∉ X2 := fun a ha hx => by
   obtain ⟨cs,fr,hc⟩ := HW4.out.2.2.2.2.2 a ha
   exact hM5.apart (HX5A.out a ha) (Array.getElem?_eq_some_iff.1 hc).1 (List.mem_cons_of_mem _ hx)
  obtain ⟨ad,hFM,hEX⟩ := hst5.map
  have hFM' : FM W5.drew M ad m.F := hFM
  obtain ⟨W6,hrun6,hFM6,hg6'⟩ := HSTF.out W5.drew ad hFM'
  have hg6 : W5.grownBy W6 (some M) := ⟨hg6'.os,hg6'.tape,hg6'.output,hg6'.size,hg6'.block⟩
  have HRUN6D := Lib.hid hrun6
  have hS9 : W6.cell? ⟨S,4,none⟩ = some (.map (some M)) ∧ Blk W6 H #[.int .i64 en, .int .i64 sz, .slice A xl cap] 97 := by
   have x4 := hst5.blk.cell 4
   simp at x4
   exact ⟨(World.cell?_of_block (a := ⟨S,4,none⟩) (hg6.block S hst5.blk.lt (fun e => hst5.ne.2.1 (by cases e;rfl)))).trans x4,hBX5.1.grown hg6 (fun e => (hFM.not_cells hBX5.1) (by cases e;rfl))⟩
  have hne6 : ∀ g,some M = some g → ∀ c fr,W5.heap[g]? ≠ some (.cells c 172 fr) := fun g e c fr hc => by cases e;exact (hFM.not_cells hc) rfl
  have hE6 := (hEX.grown hg6 hne6).put (f := f) (c := cap) (fun h0 => by
   obtain ⟨g,o,e,hl,hc⟩ := hA5 h0
   obtain ⟨cs,fr,hh⟩ := hAT5 _ e
   have := hg6.block g hl (fun e2 => hne6 g e2.symm cs fr hh)
   exact ⟨g,o,e,Nat.lt_of_lt_of_le hl hg6.size,fun j u hu => (World.cell?_of_block (a := ⟨g,o + j,none⟩) this).trans (hc j u hu)⟩) (fun a ha => by
   obtain ⟨cs,fr,hh⟩ := hAT5 a ha
   exact ⟨cs,fr,(hg6.block _ (Array.getElem?_eq_some_iff.1 hh).1 (fun e2 => hne6 _ e2.symm cs fr hh)).trans hh⟩) hAX5
  have hst6 := hst5.store hg6 hFM6 hE6
  have HF := Lib.hid (And.intro hst6 (((HMV4.out.trans hM5).cons2 M).trans (Mv.of_grown hg6 (by simp))))
  have x4 := hst5.blk.cell 4
  simp at x4
  have HX4 := Lib.hid x4
  have HBX5 := Lib.hid hBX5.1
  clear hM5 hS0 hS7 hst5 hA5 hAT5 hAX5 hFM hEX hFM6 hg6 hg6' hFM' hne6 hE6 hst6 hrun6 hBX5 x4 KST KE
  go_upto_region 8 with (fail)
  refine wp_region_held (S := fun w' => w'.cell? ⟨S,4,none⟩ = some (.map (some M)) ∧ Blk w' H #[.int .i64 en, .int .i64 sz, .slice A xl cap] 97) mixed ?_
  change wpAnyH _ _ _ _ _ _ _ _ W5.drew
  have hS8 : W5.drew.cell? ⟨S,4,none⟩ = some (.map (some M)) ∧ Blk W5.drew H #[.int .i64 en, .int .i64 sz, .slice A xl cap] 97 := ⟨HX4.out,HBX5.out⟩
  refine tkQ 0 (.pointer (some ⟨S,0,none⟩)) rfl hS8 ?_
  try go_simp
  refine tkQ 1 (.pointer (some ⟨S,0,none⟩)) rfl hS8 ?_
  try go_simp
  refine tkQ 2 (.pointer (some ⟨S,4,none⟩)) rfl hS8 ?_
  try go_simp
  refine tkH 3 (.map (some M)) rfl hS8 (fun w' hS => ?_) ?_
  ·have q0 := hS.1;go_simp
  try go_simp
  refine tkQ 4 (.string NM) rfl hS8 ?_
  try go_simp
  refine tkH 5 (.agg #[.int .i64 en, .int .i64 sz, .slice A xl cap]) rfl hS8 (fun w' hS => ?_) ?_
  ·have q0 := hS.2.cell 0;have q1 := hS.2.cell 1;have q2 := hS.2.cell 2;simp at q0 q1 q2;go_simp
  try go_simp
  refine alH 6 ?_
  refine wpOp_mapUpdate rfl rfl 105 (.tmp 41) (.tmp 42) (.tmp 43) rfl _ _ _ (by rfl) (by rfl) (by rfl) HRUN6D.out ?_
  refine ⟨hS9, ?_⟩
  refine wpAnyH_done (by kernel_rfl) ?_ _
  clear hS8 hS9
  go_wp2
  go_ret
  exact ⟨rfl,X2,HF.out.2,by first | exact HF.out.1 | exact ⟨(fun h => by cases h),fun _ => HF.out.1⟩ | exact ⟨fun _ => HF.out.1,fun h => absurd rfl h⟩⟩

 ·
  unfold wpOp
  go_simp
  refine .inl ?_
  go_at_call 79
  refine (KE W0 (HST1.out.2.1.below (Nat.le_refl _) hb1) ((HST1.out.1.below hb1).tb) ((HST1.out.1.below hb1).pos)).mono ?_
  rintro e W2 ⟨rfl,hbe⟩
  have hS2 : Blk W2 H #[.int .i64 en, .int .i64 sz, .slice A xl cap] 97 ∧ Blk W2 (H + 1) #[.int .i64 tl, .string PB] 104 := ⟨hS1.1.below hbe,hS1.2.below hbe⟩
  have hb2 := hb1.trans (hbe.mono hb1.size)
  refine ⟨hS2, ?_⟩
  refine alH 2 ?_
  unfold wpOp
  have hmm := @run_makeMap Tryz.prog
  go_simp
  clear hmm
  have hS3 : Blk (W2.alloc (.map #[] 0)) H #[.int .i64 en, .int .i64 sz, .slice A xl cap] 97 ∧ Blk (W2.alloc (.map #[] 0)) (H + 1) #[.int .i64 tl, .string PB] 104 := ⟨hS2.1.alloc _,hS2.2.alloc _⟩
  have hb3 := hb2.alloc hb2.size (.map #[] 0)
  have hcm3 := CM.made W2
  have hMc : W1.heap.size ≤ W2.heap.size := hb2.size
  obtain ⟨Mc,hMcE⟩ : ∃ q,W2.heap.size = q := ⟨_,rfl⟩
  rw [hMcE] at hcm3 hMc
  obtain ⟨W3,hW3⟩ : ∃ q,W2.alloc (.map #[] 0) = q := ⟨_,rfl⟩
  rw [hW3] at hS3 hb3 hcm3 ⊢
  try rw [hMcE]
  clear hW3 hMcE
  first | refine .inl ⟨hS3, ?_⟩ | refine ⟨hS3, ?_⟩
  clear hS2 hb2 hbe hS1 hb1
  have hbel4 := fun (W4 : World) (hg4 : W3.grownBy W4 (some Mc)) => hb3.grown hg4 hb3.size (fun g e => by cases e;exact hMc)
  obtain ⟨W4,hrun4,hcm4,hg4⟩ := hcm3.one en EB HENB.out
  rw [HES.out] at hrun4
  have hb4 := hbel4 W4 hg4
  have HW4 := Lib.hid (And.intro hrun4 (And.intro hcm4 (And.intro (HST1.out.1.below hb4) (And.intro (show Blk W4 H #[.int .i64 en, .int .i64 sz, .slice A xl cap] 97 ∧ Blk W4 (H + 1) #[.int .i64 tl, .string PB] 104 from ⟨HST1.out.2.2.2.2.1.below hb4,HST1.out.2.2.2.2.2.below hb4⟩) (And.intro (HST1.out.2.1.below (Nat.le_refl _) hb4) (HST1.out.2.2.1.below hb4))))))
  have HX5 := Lib.hid (show H ∉ S :: X1 ∧ H + 1 ∉ S :: X1 from ⟨fun hx => by rcases List.mem_cons.1 hx with e | e;exact HHS.out.1 e;exact HHX1.out.1 e,fun hx => by rcases List.mem_cons.1 hx with e | e;exact HHS.out.2 e;exact HHX1.out.2 e⟩)
  have HX5A := Lib.hid (show ∀ a,A = some a → a.block ∉ S :: X1 from fun a ha hx => by
   rcases List.mem_cons.1 hx with e | e
   ·obtain ⟨cs,fr,hc⟩ := HST1.out.2.2.1 a ha
    have hb := HST1.out.1.blk
    unfold Blk at hb
    rw [e,hb] at hc
    simp at hc
   ·exact HST1.out.2.2.2.1 a ha e)
  have HMV4 := Lib.hid ((HM1.out.below hb4).cons S)
  clear hrun4 hcm4 hg4 hb4 hbel4 hcm3 hMc hb3
  refine alH 8 ?_
  refine wpOp_insert rfl rfl 148 (.tmp 27) (.tmp 29) (.tmp 32) rfl _ _ _ (by rfl) (by rfl) (by rfl) HW4.out.1 ?_
  refine ⟨HW4.out.2.2.2.1, ?_⟩
  refine tkQ 9 (.map (some Mc)) rfl HW4.out.2.2.2.1 ?_
  try go_simp
  refine alH 10 ?_
  unfold wpOp
  go_simp
  refine .inl ?_
  go_at_call 80
  refine (KST X1 Mc W4 HW4.out.2.2.1 HW4.out.2.1).mono ?_
  rintro e W5 ⟨rfl,X2,hM5,hS0,hS7⟩
  have hBX5 : Blk W5 H #[.int .i64 en, .int .i64 sz, .slice A xl cap] 97 ∧ Blk W5 (H + 1) #[.int .i64 tl, .string PB] 104 := ⟨hM5.blk HW4.out.2.2.2.1.1 HX5.out.1,hM5.blk HW4.out.2.2.2.1.2 HX5.out.2⟩
  refine ⟨hBX5, ?_⟩
  rcases hn2 with rfl | rfl
  case inr =>
   refine tkQ 11 (.int .i64 7) rfl hBX5 ?_
   try go_simp
   refine wpAnyH_done (by kernel_rfl) ?_ _
   have HF := Lib.hid (And.intro (hS7 (by decide)) ((HMV4.out.trans hM5).cons2 M))
   clear hBX5 hM5 hS0 hS7 KST KE
   go_wp2
   go_ret
   exact ⟨rfl,X2,HF.out.2,by first | exact HF.out.1 | exact ⟨(fun h => by cases h),fun _ => HF.out.1⟩ | exact ⟨fun _ => HF.out.1,fun h => absurd rfl h⟩⟩
  refine tkQ 11 (.int .i64 0) rfl hBX5 ?_
  try go_simp
  refine wpAnyH_done (by kernel_rfl) ?_ _
  have hst5 := hS0 rfl
  have hA5 := hM5.lies HW4.out.2.2.2.2.1 HX5A.out
  have hAT5 := HW4.out.2.2.2.2.2.frm hM5.frm HX5A.out
  have hAX5 : ∀ a,A = some a → a.block ∉ X2 := fun a ha hx => by
   obtain ⟨cs,fr,hc⟩ := HW4.out.2.2.2.2.2 a ha
   exact hM5.apart (HX5A.out a ha) (Array.getElem?_eq_some_iff.1 hc).1 (List.mem_cons_of_mem _ hx)
  obtain ⟨ad,hFM,hEX⟩ := hst5.map
  have hFM' : FM W5.drew M ad m.F := hFM
  obtain ⟨W6,hrun6,hFM6,hg6'⟩ := HSTF.out W5.drew ad hFM'
  have hg6 : W5.grownBy W6 (some M) := ⟨hg6'.os,hg6'.tape,hg6'.output,hg6'.size,hg6'.block⟩
  have HRUN6D := Lib.hid hrun6
  have hS9 : W6.cell? ⟨S,4,none⟩ = some (.map (some M)) ∧ Blk W6 H #[.int .i64 en, .int .i64 sz, .slice A xl cap] 97 := by
   have x4 := hst5.blk.cell 4
   simp at x4
   exact ⟨(World.cell?_of_block (a := ⟨S,4,none⟩) (hg6.block S hst5.blk.lt (fun e => hst5.ne.2.1 (by cases e;rfl)))).trans x4,hBX5.1.grown hg6 (fun e => (hFM.not_cells hBX5.1) (by cases e;rfl))⟩
  have hne6 : ∀ g,some M = some g → ∀ c fr,W5.heap[g]? ≠ some (.cells c 172 fr) := fun g e c fr hc => by cases e;exact (hFM.not_cells hc) rfl
  have hE6 := (hEX.grown hg6 hne6).put (f := f) (c := cap) (fun h0 => by
   obtain ⟨g,o,e,hl,hc⟩ := hA5 h0
   obtain ⟨cs,fr,hh⟩ := hAT5 _ e
   have := hg6.block g hl (fun e2 => hne6 g e2.symm cs fr hh)
   exact ⟨g,o,e,Nat.lt_of_lt_of_le hl hg6.size,fun j u hu => (World.cell?_of_block (a := ⟨g,o + j,none⟩) this).trans (hc j u hu)⟩) (fun a ha => by
   obtain ⟨cs,fr,hh⟩ := hAT5 a ha
   exact ⟨cs,fr,(hg6.block _ (Array.getElem?_eq_some_iff.1 hh).1 (fun e2 => hne6 _ e2.symm cs fr hh)).trans hh⟩) hAX5
  have hst6 := hst5.store hg6 hFM6 hE6
  have HF := Lib.hid (And.intro hst6 (((HMV4.out.trans hM5).cons2 M).trans (Mv.of_grown hg6 (by simp))))
  have x4 := hst5.blk.cell 4
  simp at x4
  have HX4 := Lib.hid x4
  have HBX5 := Lib.hid hBX5.1
  clear hM5 hS0 hS7 hst5 hA5 hAT5 hAX5 hFM hEX hFM6 hg6 hg6' hFM' hne6 hE6 hst6 hrun6 hBX5 x4 KST KE
  go_upto_region 8 with (fail)
  refine wp_region_held (S := fun w' => w'.cell? ⟨S,4,none⟩ = some (.map (some M)) ∧ Blk w' H #[.int .i64 en, .int .i64 sz, .slice A xl cap] 97) mixed ?_
  change wpAnyH _ _ _ _ _ _ _ _ W5.drew
  have hS8 : W5.drew.cell? ⟨S,4,none⟩ = some (.map (some M)) ∧ Blk W5.drew H #[.int .i64 en, .int .i64 sz, .slice A xl cap] 97 := ⟨HX4.out,HBX5.out⟩
  refine tkQ 0 (.pointer (some ⟨S,0,none⟩)) rfl hS8 ?_
  try go_simp
  refine tkQ 1 (.pointer (some ⟨S,0,none⟩)) rfl hS8 ?_
  try go_simp
  refine tkQ 2 (.pointer (some ⟨S,4,none⟩)) rfl hS8 ?_
  try go_simp
  refine tkH 3 (.map (some M)) rfl hS8 (fun w' hS => ?_) ?_
  ·have q0 := hS.1;go_simp
  try go_simp
  refine tkQ 4 (.string NM) rfl hS8 ?_
  try go_simp
  refine tkH 5 (.agg #[.int .i64 en, .int .i64 sz, .slice A xl cap]) rfl hS8 (fun w' hS => ?_) ?_
  ·have q0 := hS.2.cell 0;have q1 := hS.2.cell 1;have q2 := hS.2.cell 2;simp at q0 q1 q2;go_simp
  try go_simp
  refine alH 6 ?_
  refine wpOp_mapUpdate rfl rfl 105 (.tmp 41) (.tmp 42) (.tmp 43) rfl _ _ _ (by rfl) (by rfl) (by rfl) HRUN6D.out ?_
  refine ⟨hS9, ?_⟩
  refine wpAnyH_done (by kernel_rfl) ?_ _
  clear hS8 hS9
  go_wp2
  go_ret
  exact ⟨rfl,X2,HF.out.2,by first | exact HF.out.1 | exact ⟨(fun h => by cases h),fun _ => HF.out.1⟩ | exact ⟨fun _ => HF.out.1,fun h => absurd rfl h⟩⟩

theorem trimR_sum : ∀ (l : List (Nat × Nat)) (k : Nat),sumN (trimR l k).1 + (trimR l k).2 = k := by
 intro l
 induction l with
 | nil => intro k;simp [trimR,sumN]
 | cons x l ih =>
  intro k
  rw [trimR]
  by_cases h0 : k = 0
  ·rw [if_pos h0];simp [sumN,h0]
  ·rw [if_neg h0]
   have := ih (k - min x.2 k)
   simp only [sumN_cons]
   omega
theorem takeS_facts {T T' : List Bool} {k most : Nat} {l : List (Nat × Nat)} (h : takeS T k most = some (l,T')) :
  l.length ≤ most ∧ Rise 0 l ∧ (∀ x ∈ l,1 ≤ x.2 ∧ x.1 + x.2 ≤ T.length ∧ ∀ j,x.1 ≤ j → j < x.1 + x.2 → T.getD j true = false) ∧ T'.length = T.length ∧ sumN l = k ∧ ∀ j,T'.getD j true = (T.getD j true || l.any fun x => decide (x.1 ≤ j ∧ j < x.1 + x.2)) := by
 obtain ⟨T2,h1,h2,h3⟩ := take_claims T k
 obtain ⟨g1,g2⟩ := runs_all T
 obtain ⟨g3,g4⟩ := trimR_good (fun j => T.getD j true = false) T.length _ _ k g1 g2
 have h4 := trimR_sum (runs T 0 0) k
 unfold takeS at h
 split at h
 ·cases h
 ·rename_i hc
  rw [h1] at h
  simp only [Option.map_some,Option.some.injEq,Prod.mk.injEq] at h
  obtain ⟨rfl,rfl⟩ := h
  exact ⟨by omega,g3,g4,h2,by omega,h3⟩
theorem turnS_len (taken : Bool) : ∀ (l : List (Nat × Nat)) (T T' : List Bool),turnS taken T l = some T' → T'.length = T.length := by
 intro l
 induction l with
 | nil => intro T T' h;cases h;rfl
 | cons x l ih =>
  intro T T' h
  rw [turnS] at h
  split at h
  ·cases h
  ·obtain ⟨T1,h1,h2⟩ := Option.bind_eq_some_iff.1 h
   rw [ih _ _ h2,turn1_len _ _ _ _ _ h1]
def needsN (n : Nat) : Nat := (n + 511) / 512
theorem secL_length (b : Nat) : ∀ (l : List (Nat × Nat)),(secL b l).length = sumN l := by
 intro l
 induction l with
 | nil => rfl
 | cons x l ih =>
  rw [sumN_cons, ← ih]
  simp [secL,secX]
theorem secL_mem {b i : Nat} {l : List (Nat × Nat)} (h : i ∈ secL b l) : ∃ x ∈ l,b + x.1 ≤ i ∧ i < b + x.1 + x.2 := by
 unfold secL at h
 obtain ⟨x,hx,hi⟩ := List.mem_flatMap.1 h
 refine ⟨x,hx, ?_⟩
 unfold secX at hi
 simp at hi
 omega
theorem kOf_small (n : Nat) (h : n ≤ 4096) : kOf n ≤ 2 := by
 unfold kOf
 by_cases h0 : n = 0
 ·subst h0;decide
 ·have := (Nat.log2_lt (k := 13) h0).2 (by omega)
  omega
theorem kOf_mid (n : Nat) (h : n ≤ 1048576) : kOf n ≤ 3 := by
 unfold kOf
 by_cases h0 : n = 0
 ·subst h0;decide
 ·have := (Nat.log2_lt (k := 21) h0).2 (by omega)
  omega
theorem extB_len : ∀ (l : List (Nat × Nat)),(∀ x ∈ l,x.1 ≤ 4096 ∧ x.2 ≤ 4096) → (extB l).length ≤ 6 * l.length := by
 intro l
 induction l with
 | nil => intro _;simp [extB]
 | cons x l ih =>
  intro h
  have h1 := ih (fun y hy => h y (List.mem_cons_of_mem _ hy))
  have h2 := h x (List.mem_cons_self ..)
  have h3 := kOf_small _ h2.1
  have h4 := kOf_small _ h2.2
  unfold extB at h1 ⊢
  rw [List.flatMap_cons,List.length_append,List.length_append,putB_length,putB_length,List.length_cons]
  omega
theorem bodyB_len (name : Bs) (size : Nat) (l : List (Nat × Nat)) (hn : name.length ≤ 80) (hs : size ≤ 1048576) (hl : l.length ≤ 64) (hx : ∀ x ∈ l,x.1 ≤ 4096 ∧ x.2 ≤ 4096) : (bodyB name size l).length ≤ 508 := by
 have h1 := extB_len l hx
 have h2 := kOf_mid _ hs
 have h3 := kOf_small name.length (by omega)
 have h4 := kOf_small l.length (by omega)
 unfold bodyB joinB
 simp only [List.flatMap_cons,List.flatMap_nil,List.length_append,putB_length,List.length_nil]
 omega
structure StoB (m : StoM) : Prop where
 ent : ∀ f ∈ m.F,f.entry < m.most
 nam : ∀ f ∈ m.F,f.name.length ≤ 80
 siz : ∀ f ∈ m.F,f.size ≤ 1048576
 exl : ∀ f ∈ m.F,f.ext.length ≤ 64
 exb : ∀ f ∈ m.F, ∀ x ∈ f.ext,x.1 + x.2 ≤ m.T.length
 len : m.F.length ≤ 1000
 mo : 1 ≤ m.most ∧ m.most ≤ 256
 tl : m.T.length ≤ 4096
 ll : m.T.length + m.most + 7 = m.ds.L.length
 sl : m.ds.S.length ≤ 500000
def oldX (F : List FileM) (name : Bs) : List (Nat × Nat) := ((fileOf F name).map (·.ext)).getD []
def slotW (m : StoM) (name : Bs) : Option Nat := match fileOf m.F name with
 | some f => some f.entry
 | none => vacN m.F m.most
def preW (m : StoM) (name data : Bs) : Nat × Option (List Bool × FileM) :=
 if goodF name = false then (11,none) else if 1048576 < data.length then (6,none) else
 match slotW m name with
 | none => (8,none)
 | some i => match takeS m.T (needsN data.length) 64 with
  | none => (8,none)
  | some (l,T1) => match turnS false T1 (oldX m.F name) with
   | none => (14,none)
   | some T2 => (0,some (T2,⟨name,i,data.length,l⟩))
theorem goodF_len {s : Bs} (h : goodF s = true) : s.length ≤ 80 := by
 unfold goodF at h
 simp only [Bool.and_eq_true,decide_eq_true_eq] at h
 exact h.1.2
theorem vacN_lt {F : List FileM} {most i : Nat} (h : vacN F most = some i) : i < most ∧ ∀ f ∈ F,f.entry ≠ i := by
 unfold vacN at h
 obtain ⟨h1,h2,_⟩ := List.findIdx?_eq_some_iff_getElem.1 h
 simp at h1 h2
 exact ⟨h1,h2⟩
theorem slotW_lt {m : StoM} (hb : StoB m) {name : Bs} {i : Nat} (h : slotW m name = some i) : i < m.most := by
 unfold slotW at h
 split at h
 ·rename_i f hf
  cases h
  exact hb.ent _ (fileOf_mem hf)
 ·exact (vacN_lt h).1
open Go.RowKit Go.Maps
theorem take_all (T : List Bool) (k most : Nat) (w : World) (hn : T.length ≤ 4096) (hk : k ≤ 2199023255552) (hm : most ≤ 2199023255552) : Calls Tryz.prog 52 #[spv T, .int .i64 k, .int .i64 most] w fun e w' =>
  (∀ l T',takeS T k most = some (l,T') → ∃ A c,e = .returned (.tuple #[.slice A l.length c,spv T', .int .i64 0]) ∧ w'.ownsRow w.heap.size 172 2 (.slice A l.length c) l.length (ecells l)) ∧
  (takeS T k most = none → e = .returned (.tuple #[.slice none 0 0, .agg #[.int .i64 0, .string ⟨#[]⟩], .int .i64 8])) ∧ Below w.heap.size w w' := by
 by_cases h0 : k = 0
 ·subst h0
  refine (take_zero T most w hn hm).mono ?_
  rintro e w' ⟨rfl,hb⟩
  refine ⟨fun l T' h => ?_,fun h => ?_,hb⟩
  ·rw [take_zeroS] at h
   cases h
   exact ⟨none,0,rfl,rfl, .inl ⟨rfl,rfl⟩⟩
  ·rw [take_zeroS] at h;cases h
 ·exact take_any T k most w hn hk (by omega) hm
theorem find_form (w : World) (X : List Nat) (ad : AdM) (F : List FileM) (name : Bs) (h : Exts w X ad F) (hg : goodF name = true) :
  ∃ (a b : Int) (A : Option Addr) (c : Nat),findV ad F name = .agg #[.int .i64 a, .int .i64 b, .slice A (oldX F name).length c] ∧ Lies w A (ecells (oldX F name)) ∧
   ((fileOf F name = none ∧ a = 0 ∧ findE F name = 9) ∨ (∃ f,fileOf F name = some f ∧ a = f.entry ∧ findE F name = 0)) := by
 unfold findV findE oldX
 rw [hg]
 cases hf : fileOf F name with
 | none => exact ⟨0,0,none,0,rfl,fun h => absurd h (by simp [ecells]), .inl ⟨rfl,rfl,rfl⟩⟩
 | some f =>
  obtain ⟨h1,h2,h3⟩ := h f (fileOf_mem hf)
  exact ⟨f.entry,f.size,_,_,rfl,h1, .inr ⟨f,rfl,rfl,rfl⟩⟩
theorem oldX_small {m : StoM} (hb : StoB m) (name : Bs) : (oldX m.F name).length ≤ 64 ∧ ∀ x ∈ oldX m.F name,x.1 ≤ 2199023255552 ∧ x.2 ≤ 2199023255552 := by
 unfold oldX
 cases hf : fileOf m.F name with
 | none => exact ⟨by simp,fun x hx => by simp at hx⟩
 | some f => exact ⟨hb.exl f (fileOf_mem hf),fun x hx => by have := hb.exb f (fileOf_mem hf) x hx;have := hb.tl;omega⟩
theorem own_ge {w : World} {B s n c : Nat} {e : TypeId} {A : Option Addr} {xs : List Value} (h : w.ownsRow B e s (.slice A n c) n xs) (g : Addr) (hg : A = some g) : B ≤ g.block := by
 rcases h.2 with ⟨hv,_⟩ | ⟨b,cap,cur,hv,hB,_⟩
 ·simp [hg] at hv
 ·simp only [Value.slice.injEq] at hv
  rw [hg] at hv
  rw [Option.some.inj hv.1]
  exact hB
theorem PutP.from {X : List Nat} {S D Lg M : Nat} {m : StoM} {T : List Bool} {l : List Nat} {data : Bs} {f : FileM} {w w1 w' : World} {e : Ending} (h : PutP X S D Lg M m T l data f w1 e w') (hb : Below w.heap.size w w1) : PutP X S D Lg M m T l data f w e w' := by
 obtain ⟨h1,X',h2,h3⟩ := h
 exact ⟨h1,X',(Mv.of_below _ hb).trans h2,h3⟩
theorem put_secs {m : StoM} (hb : StoB m) {l : List (Nat × Nat)} (h : ∀ x ∈ l,1 ≤ x.2 ∧ x.1 + x.2 ≤ m.T.length ∧ ∀ j,x.1 ≤ j → j < x.1 + x.2 → m.T.getD j true = false) : ∀ i ∈ secL (m.most + 7) l,i < m.ds.L.length := fun i hi => by
 obtain ⟨x,hx,h1,h2⟩ := secL_mem hi
 have := (h x hx).2.1
 have := hb.ll
 omega
def WriteP (X : List Nat) (S D Lg M : Nat) (m : StoM) (p : Nat × Option (List Bool × FileM)) (data : Bs) (w : World) (e : Ending) (w' : World) : Prop :=
 (p.2 = none → e = .returned (.int .i64 (p.1 : Nat)) ∧ Below w.heap.size w w' ∧ Sto w' X S D Lg M m) ∧
 ∀ T2 f,p.2 = some (T2,f) → PutP X S D Lg M m T2 (secL (m.most + 7) f.ext) data f w e w'
set_option maxRecDepth 100000 in
set_option maxHeartbeats 4000000 in
theorem fwrite_any (X : List Nat) (S D Lg M : Nat) (m : StoM) (name data : Bs) (w : World) (h : Sto w X S D Lg M m) (hb : StoB m) (h1 : m.off = false) (h2 : m.ds.off = false) (hn : name.length ≤ maxLen) :
  Calls Tryz.prog 20 #[.pointer (some ⟨S,0,none⟩), .string (mk name), .string (mk data)] w (WriteP X S D Lg M m (preW m name data) data w) := by
 obtain ⟨ad,hFM,hEX⟩ := h.map
 have KF := find_ok X S D Lg M m ad name w h hFM h1 h2 hn
 have zd := mk_size data
 obtain ⟨P,hP⟩ : ∃ q,preW m name data = q := ⟨_,rfl⟩
 rw [hP]
 have HP := Lib.hid hP
 clear hP
 cases hg : goodF name with
 | false =>
  have HE : P = (11,none) := by rw [← HP.out];unfold preW;rw [if_pos hg]
  subst HE
  have HV := Lib.hid (show findV ad m.F name = inoZ ∧ findE m.F name = 11 by unfold findV findE;rw [hg];exact ⟨rfl,rfl⟩)
  rw [HV.out.1,HV.out.2] at KF
  unfold inoZ at KF
  have HST := Lib.hid h
  obtain ⟨NM,hNM⟩ : ∃ q,mk name = q := ⟨_,rfl⟩
  obtain ⟨DT,hDT⟩ : ∃ q,mk data = q := ⟨_,rfl⟩
  rw [hNM] at KF
  rw [hNM,hDT]
  clear h hb h1 h2 hn hg hFM hEX zd HV hNM hDT
  go_enter Tryz.func20,Tryz.ntmps20
  go_wp2_with (first | (go_at_call 50;refine KF.mono ?_;rintro e w1 ⟨rfl,hb1⟩;have HB1 := Lib.hid hb1;clear hb1))
  go_ret
  have hb := HB1.out.alloc HB1.out.size (.cells #[.int .i64 0, .int .i64 0, .slice none 0 0] 97)
  exact ⟨fun _ => ⟨rfl,hb,HST.out.below hb⟩,fun T2 f h => by cases h⟩
 | true =>
  obtain ⟨a,b,A,c,hfv,hLA,hcs⟩ := find_form w X ad m.F name hEX hg
  rw [hfv] at KF
  obtain ⟨xl,hxl⟩ : ∃ q,(oldX m.F name).length = q := ⟨_,rfl⟩
  rw [hxl] at KF
  by_cases hlong : 1048576 < data.length
  ·have HE : P = (6,none) := by rw [← HP.out];unfold preW;rw [if_neg (by rw [hg];decide),if_pos hlong]
   subst HE
   have HST := Lib.hid h
   have hN : findE m.F name = 9 ∨ findE m.F name = 0 := by rcases hcs with h | ⟨f,h⟩;exact .inl h.2.2;exact .inr h.2.2
   obtain ⟨NM,hNM⟩ : ∃ q,mk name = q := ⟨_,rfl⟩
   obtain ⟨DT,hDT⟩ : ∃ q,mk data = q := ⟨_,rfl⟩
   obtain ⟨N,hNN⟩ : ∃ q,findE m.F name = q := ⟨_,rfl⟩
   obtain ⟨dl,hdl⟩ : ∃ q,data.length = q := ⟨_,rfl⟩
   rw [hNN] at KF hN
   rw [hNM] at KF
   rw [hDT,hdl] at zd
   rw [hdl] at hlong
   rw [hNM,hDT]
   clear h hb h1 h2 hn hg hFM hEX hNM hDT hNN hcs hfv hLA hdl hxl
   rcases hN with rfl | rfl
   all_goals
    go_enter Tryz.func20,Tryz.ntmps20
    go_wp2_with (first | (go_at_call 50;refine KF.mono ?_;rintro e w1 ⟨rfl,hb1⟩;have HB1 := Lib.hid hb1;clear hb1))
    go_ret
    have hb := HB1.out.alloc HB1.out.size (.cells #[.int .i64 a, .int .i64 b, .slice A xl c] 97)
    exact ⟨fun _ => ⟨rfl,hb,HST.out.below hb⟩,fun T2 f h => by cases h⟩
  ·obtain ⟨N,hNN⟩ : ∃ q,findE m.F name = q := ⟨_,rfl⟩
   have hnext : preW m name data = match slotW m name with
    | none => (8,none)
    | some i => match takeS m.T (needsN data.length) 64 with
     | none => (8,none)
     | some (l,T1) => match turnS false T1 (oldX m.F name) with
      | none => (14,none)
      | some T2 => (0,some (T2,⟨name,i,data.length,l⟩)) := by
    unfold preW
    rw [if_neg (by rw [hg];decide),if_neg hlong]
    all_goals rfl
   have HST := Lib.hid h
   have HSLT := Lib.hid (show ∀ x ∈ S :: M :: X,x < w.heap.size from fun x hx => by
    rcases List.mem_cons.1 hx with rfl | hx
    ·exact h.blk.lt
    ·rcases List.mem_cons.1 hx with rfl | hx
     ·exact hFM.lt
     ·exact h.dsk.lt x hx)
   have HX := Lib.hid hnext
   have HBB := Lib.hid hb
   have HLA := Lib.hid hLA
   have HCS := Lib.hid hcs
   have HGL := Lib.hid (goodF_len hg)
   have HTL := Lib.hid hb.tl
   have KV := fun w1 (hw : Sto w1 X S D Lg M m) => vacant_any X S D Lg M m w1 hw hb.mo hb.ent
   have KN := fun (w1 : World) => needs_any data.length w1 (by omega)
   have KT := fun (w1 : World) => take_all m.T (needsN data.length) 64 w1 hb.tl (by unfold needsN;omega) (by omega)
   obtain ⟨V,hV⟩ : ∃ q,vacI m.F m.most = q := ⟨_,rfl⟩
   have HV := Lib.hid hV
   rw [hV] at KV
   obtain ⟨kn,hkn⟩ : ∃ q,needsN data.length = q := ⟨_,rfl⟩
   have hkn' : (data.length + 511) / 512 = kn := hkn
   rw [hkn] at KT
   rw [hkn'] at KN
   have HKN := Lib.hid hkn
   unfold spv at KT
   obtain ⟨tl,htl⟩ : ∃ q,m.T.length = q := ⟨_,rfl⟩
   obtain ⟨PB,hPB⟩ : ∃ q,mk (packB m.T) = q := ⟨_,rfl⟩
   rw [htl,hPB] at KT
   obtain ⟨NM,hNM⟩ : ∃ q,mk name = q := ⟨_,rfl⟩
   obtain ⟨DT,hDT⟩ : ∃ q,mk data = q := ⟨_,rfl⟩
   obtain ⟨dl,hdl⟩ : ∃ q,data.length = q := ⟨_,rfl⟩
   have HDL := Lib.hid hdl
   rw [hNN] at KF
   rw [hNM] at KF
   rw [hDT,hdl] at zd
   rw [hdl] at hlong KN
   rw [hNM,hDT]
   have x2 := fun w1 (hw : Sto w1 X S D Lg M m) => hw.blk.cell 2
   have x3 := fun w1 (hw : Sto w1 X S D Lg M m) => hw.blk.cell 3
   simp only [stoCells,htl,hPB] at x2 x3
   have HX2 := Lib.hid x2
   have HX3 := Lib.hid x3
   clear x2 x3
   have hSl := h.blk.lt
   have HTLE := Lib.hid htl
   have HPB := Lib.hid hPB
   have HNM := Lib.hid hNM
   have HDT := Lib.hid hDT
   have HXL := Lib.hid hxl
   have hlong2 : (dl : Int) ≤ 1048576 := by omega
   have hdl0 : (0 : Int) ≤ (dl : Int) := by omega
   have hN : N = 9 ∨ N = 0 := by rw [← hNN];rcases hcs with h | ⟨f,h⟩;exact .inl h.2.2;exact .inr h.2.2
   have HNN := Lib.hid hNN
   clear h hb h1 h2 hn hg hFM hEX hNM hDT hNN hcs hfv hLA hdl hxl hV hkn hkn' htl hPB hnext hlong
   rcases hN with rfl | rfl
   ·have hsl : slotW m name = vacN m.F m.most ∧ a = 0 := by
     rcases HCS.out with ⟨h1,h2,_⟩ | ⟨f,_,_,h3⟩
     ·unfold slotW;rw [h1];exact ⟨rfl,h2⟩
     ·rw [HNN.out] at h3;cases h3
    have hVV := HV.out
    unfold vacI at hVV
    cases hvn : vacN m.F m.most with
    | none =>
     rw [hvn] at hVV
     have HE : P = (8,none) := by rw [← HP.out,HX.out,hsl.1,hvn]
     subst HE
     simp only at hVV
     subst hVV
     have HA0 := hsl.2
     subst HA0
     clear hsl hvn
     go_enter Tryz.func20,Tryz.ntmps20
     go_upto_if 34 with (first | (go_at_call 50;refine KF.mono ?_;rintro e w1 ⟨rfl,hb1⟩;have HB1 := Lib.hid hb1;clear hb1))
     have hB7 := (Blk.new w1 #[.int .i64 0, .int .i64 b, .slice A xl c] 97).alloc (.cells #[.int .i64 0, .int .i64 dl, .slice none 0 0] 97)
     have hB9 := Blk.new (w1.alloc (.cells #[.int .i64 0, .int .i64 b, .slice A xl c] 97)) #[.int .i64 0, .int .i64 dl, .slice none 0 0] 97
     have hbw := (HB1.out.alloc HB1.out.size (.cells #[.int .i64 0, .int .i64 b, .slice A xl c] 97)).alloc (by have := HB1.out.size;simp;omega) (.cells #[.int .i64 0, .int .i64 dl, .slice none 0 0] 97)
     rw [World.size_alloc] at hB9
     have hH7 := HB1.out.size
     obtain ⟨H7,hH⟩ : ∃ q,w1.heap.size = q := ⟨_,rfl⟩
     obtain ⟨W1,hW⟩ : ∃ q,(w1.alloc (.cells #[.int .i64 0, .int .i64 b, .slice A xl c] 97)).alloc (.cells #[.int .i64 0, .int .i64 dl, .slice none 0 0] 97) = q := ⟨_,rfl⟩
     rw [hH] at hB7 hB9 hH7
     simp only [hW] at hB7 hB9 hbw ⊢
     try simp only [hH]
     have hst1 := HST.out.below hbw
     have hSH : S < H7 := Nat.lt_of_lt_of_le HST.out.blk.lt hH7
     have KV1 := KV W1 hst1
     rw [show decide ((0 : Int) ≤ -1) = false from rfl] at KV1
     have HBW := Lib.hid hbw
     have HST1 := Lib.hid hst1
     have HB9 := Lib.hid hB9
     have HH7 := Lib.hid hH7
     clear hH hW hB7 hB9 hbw hst1 hSH hH7
     go_wp2_with (first | (go_at_call 51;go_loud (refine KV1.mono ?_;rintro e w2 ⟨rfl,hb2⟩;have hB2 := HB9.out.below hb2;have d0 := hB2.cell 0;have q0 := hB2.frozen 0;simp at d0;have hlt2 := hB2.lt;have HB2 := Lib.hid hb2;clear hb2 hB2)))
     go_ret
     have hbF := below_set (HBW.out.trans (HB2.out.mono HBW.out.size)) (H7 + 1) 0 (.int .i64 (-1)) (by have := HH7.out;omega)
     exact ⟨fun _ => ⟨rfl,hbF,HST.out.below hbF⟩,fun T2 f h => by cases h⟩
    | some i =>
     rw [hvn] at hVV
     have HI := Lib.hid (hsl.1.trans hvn)
     have HII := Lib.hid (vacN_lt hvn).1
     have HA0 := hsl.2
     subst HA0
     simp only at hVV
     subst hVV
     clear hsl hvn
     go_enter Tryz.func20,Tryz.ntmps20
     go_upto_if 34 with (first | (go_at_call 50;refine KF.mono ?_;rintro e w1 ⟨rfl,hb1⟩;have HB1 := Lib.hid hb1;clear hb1))
     have hB7 := (Blk.new w1 #[.int .i64 0, .int .i64 b, .slice A xl c] 97).alloc (.cells #[.int .i64 0, .int .i64 dl, .slice none 0 0] 97)
     have hB9 := Blk.new (w1.alloc (.cells #[.int .i64 0, .int .i64 b, .slice A xl c] 97)) #[.int .i64 0, .int .i64 dl, .slice none 0 0] 97
     have hbw := (HB1.out.alloc HB1.out.size (.cells #[.int .i64 0, .int .i64 b, .slice A xl c] 97)).alloc (by have := HB1.out.size;simp;omega) (.cells #[.int .i64 0, .int .i64 dl, .slice none 0 0] 97)
     rw [World.size_alloc] at hB9
     have hH7 := HB1.out.size
     obtain ⟨H7,hH⟩ : ∃ q,w1.heap.size = q := ⟨_,rfl⟩
     obtain ⟨W1,hW⟩ : ∃ q,(w1.alloc (.cells #[.int .i64 0, .int .i64 b, .slice A xl c] 97)).alloc (.cells #[.int .i64 0, .int .i64 dl, .slice none 0 0] 97) = q := ⟨_,rfl⟩
     rw [hH] at hB7 hB9 hH7
     simp only [hW] at hB7 hB9 hbw ⊢
     try simp only [hH]
     have hst1 := HST.out.below hbw
     have hSH : S < H7 := Nat.lt_of_lt_of_le HST.out.blk.lt hH7
     have KV1 := KV W1 hst1
     have HBW := Lib.hid hbw
     have HST1 := Lib.hid hst1
     have HB7 := Lib.hid hB7
     have HB9 := Lib.hid hB9
     have HSH := Lib.hid hSH
     have HH7 := Lib.hid hH7
     clear hH hW hB7 hB9 hbw hst1 hSH hH7
     go_upto_region 13 with (first | (go_at_call 51;refine KV1.mono ?_;rintro e w2 ⟨rfl,hb2⟩;have hB2 := HB9.out.below hb2;have d0 := hB2.cell 0;have q0 := hB2.frozen 0;simp at d0;have hlt2 := hB2.lt;have HB2 := Lib.hid hb2;have s2 := HX2.out w2 (HST1.out.below hb2);have s3 := HX3.out w2 (HST1.out.below hb2);have hS2 := (HST1.out.below hb2).blk.lt;have hSne : S ≠ H7 + 1 := (by have := HSH.out;omega);simp at s2 s3;clear hb2 hB2))
     have HST2 := Lib.hid (HST1.out.below HB2.out)
     have hB92 := (HB9.out.below HB2.out).set 0 (.int .i64 (i : Int))
     have hB72 : Blk (w2.setCell ⟨H7 + 1,0,none⟩ (.int .i64 (i : Int))) H7 #[.int .i64 0, .int .i64 b, .slice A xl c] 97 := (Below.heap_setCell _ _ _ _ (by simp)).trans (HB7.out.below HB2.out)
     have hbw2 := below_set (HBW.out.trans (HB2.out.mono HBW.out.size)) (H7 + 1) 0 (.int .i64 (i : Int)) (by have := HH7.out;omega)
     have hlt9 := hB92.lt
     have hB113 := Blk.new (w2.setCell ⟨H7 + 1,0,none⟩ (.int .i64 (i : Int))) #[.int .i64 (tl : Int), .string PB] 104
     have hB93 := hB92.alloc (.cells #[.int .i64 (tl : Int), .string PB] 104)
     have hB73 := hB72.alloc (.cells #[.int .i64 (tl : Int), .string PB] 104)
     have hbw3 := hbw2.alloc hbw2.size (.cells #[.int .i64 (tl : Int), .string PB] 104)
     have hlt11 : H7 + 2 ≤ w2.heap.size := by simp at hlt9;omega
     rw [World.size_setCell] at hB113
     obtain ⟨H11,hH11⟩ : ∃ q,w2.heap.size = q := ⟨_,rfl⟩
     rw [hH11] at hB113 hlt11
     obtain ⟨W3,hW3⟩ : ∃ q,(w2.setCell ⟨H7 + 1,0,none⟩ (.int .i64 (i : Int))).alloc (.cells #[.int .i64 (tl : Int), .string PB] 104) = q := ⟨_,rfl⟩
     simp only [hW3] at hB113 hB93 hB73 hbw3 ⊢
     try simp only [hH11]
     have HB73 := Lib.hid hB73
     have HB93 := Lib.hid hB93
     have HB113 := Lib.hid hB113
     have HST3 := Lib.hid (HST.out.below hbw3)
     have HBW3 := Lib.hid hbw3
     have HORD := Lib.hid (show w.heap.size ≤ H7 ∧ H7 + 2 ≤ H11 ∧ W3.heap.size = H11 + 1 from ⟨HH7.out,hlt11,by rw [← hW3, ← hH11];simp⟩)
     clear hW3 hH11 hB92 hB72 hbw2 hlt9 hB113 hB93 hB73 hbw3 hlt11 d0 q0 s2 s3 hS2 hSne hlt2 KV1 KV KF
     have mixed := mixedT
     refine wp_region_S 11 (fun w' => w'.cell? ⟨H7 + 1,1,none⟩ = some (.int .i64 (dl : Int))) (fun w' => Blk w' H11 #[.int .i64 (tl : Int), .string PB] 104) mixed ?_
     change wpAnyS _ _ _ _ _ _ _ _ _ _ W3.drew
     have hB9 : Blk W3.drew (H7 + 1) #[.int .i64 (i : Int), .int .i64 (dl : Int), .slice none 0 0] 97 := HB93.out
     have hB11 : Blk W3.drew H11 #[.int .i64 (tl : Int), .string PB] 104 := HB113.out
     have hb0 : Below W3.heap.size W3 W3.drew := (Below.refl _ _).drew
     obtain ⟨W0,hW0⟩ : ∃ q,W3.drew = q := ⟨_,rfl⟩
     rw [hW0] at hB9 hB11 hb0 ⊢
     clear hW0
     have HE0 : ∀ L : Array Bool,HeldS 11 (fun w' => w'.cell? ⟨H7 + 1,1,none⟩ = some (.int .i64 (dl : Int))) (fun w' => Blk w' H11 #[.int .i64 (tl : Int), .string PB] 104) L W0 := fun L => ⟨by have q := hB9.cell 1;simp at q;exact q,fun _ => hB11⟩
     refine wpAnyS_take2 (i := 0) (v := .agg #[.int .i64 (tl : Int), .string PB]) rfl (by decide) rfl (by kernel_rfl) (by kernel_rfl) (by kernel_rfl) (by kernel_rfl) (by kernel_rfl) (fun c a w h => h) (.inl ⟨by kernel_rfl,fun w' hS => ?_⟩) (HE0 _) ?_
     ·have q0 := hS.2.cell 0;have q1 := hS.2.cell 1;simp at q0 q1;go_simp
     try go_simp
     refine tkS 1 (.pointer (some ⟨H7 + 1,1,none⟩)) rfl (HE0 _) (fun w' hS => ?_) ?_
     ·clear hS;go_simp
     try go_simp
     refine tkS 2 (.int .i64 (dl : Int)) rfl (HE0 _) (fun w' hS => ?_) ?_
     ·have q0 := hS;go_simp
     try go_simp
     refine wpAnyS_all (rs := [3]) (by kernel_rfl) (by simp) ?_
     intro ix hix
     simp only [List.mem_cons,List.not_mem_nil,or_false] at hix
     subst hix
     unfold wpOp
     go_simp
     refine .inl ?_
     go_at_call 53
     refine (KN W0).mono ?_
     rintro e w' ⟨rfl,hw⟩
     obtain rfl := hw.symm
     refine ⟨HE0 _, ?_⟩
     try go_simp
     refine wpAnyS_all (rs := [4]) (by kernel_rfl) (by simp) ?_
     intro ix hix
     simp only [List.mem_cons,List.not_mem_nil,or_false] at hix
     subst hix
     unfold wpOp
     go_simp
     refine .inl ?_
     go_at_call 52
     refine (KT W0).mono ?_
     rintro e W4 ⟨ht1,ht2,hb4⟩
     have hB94 := hB9.below hb4
     have hB114 := hB11.below hb4
     have HE4 : ∀ L : Array Bool,HeldS 11 (fun w' => w'.cell? ⟨H7 + 1,1,none⟩ = some (.int .i64 (dl : Int))) (fun w' => Blk w' H11 #[.int .i64 (tl : Int), .string PB] 104) L W4 := fun L => ⟨by have q := hB94.cell 1;simp at q;exact q,fun _ => hB114⟩
     have HB94 := Lib.hid hB94
     have HB114 := Lib.hid hB114
     have HB34 := Lib.hid (hb0.trans (hb4.mono hb0.size))
     have HW0S := Lib.hid hb0.size
     cases htk : takeS m.T kn 64 with
     | none =>
      obtain rfl := ht2 htk
      refine ⟨HE4 _, ?_⟩
      try go_simp
      clear HE0 hB9 hB11 hb0 hb4 hB94 hB114
      refine tkS 5 (.tuple #[.slice none 0 0, .agg #[.int .i64 0, .string ⟨#[]⟩], .int .i64 8]) rfl (HE4 _) (fun w' hS => ?_) ?_
      ·clear hS;go_simp
      try go_simp
      refine tkS 6 (.slice none 0 0) rfl (HE4 _) (fun w' hS => ?_) ?_
      ·clear hS;go_simp
      try go_simp
      refine tkS 7 (.agg #[.int .i64 0, .string ⟨#[]⟩]) rfl (HE4 _) (fun w' hS => ?_) ?_
      ·clear hS;go_simp
      try go_simp
      refine tkS 8 (.int .i64 8) rfl (HE4 _) (fun w' hS => ?_) ?_
      ·clear hS;go_simp
      try go_simp
      refine tkS 9 (.pointer (some ⟨H7 + 1,2,none⟩)) rfl (HE4 _) (fun w' hS => ?_) ?_
      ·clear hS;go_simp
      try go_simp
      have d2 := HB94.out.cell 2
      have q2 := HB94.out.frozen 2
      have e0 := HB114.out.cell 0
      have e1 := HB114.out.cell 1
      have f0 := HB114.out.frozen 0
      have f1 := HB114.out.frozen 1
      simp at d2 e0 e1
      have l9 := HB94.out.lt
      have l11 := HB114.out.lt
      have hne : H7 + 1 ≠ H11 := by have := HORD.out;omega
      have hne2 : H11 ≠ H7 + 1 := Ne.symm hne
      refine wpAnyS_all (rs := [10]) (by kernel_rfl) (by simp) ?_
      intro ix hix
      simp only [List.mem_cons,List.not_mem_nil,or_false] at hix
      subst hix
      unfold wpOp
      go_simp
      have hB95 := HB94.out.set 2 (.slice none 0 0)
      have hB115 : Blk (W4.setCell ⟨H7 + 1,2,none⟩ (.slice none 0 0)) H11 #[.int .i64 (tl : Int), .string PB] 104 := (Below.heap_setCell _ _ _ _ (by simp only;omega)).trans HB114.out
      have HE5 : ∀ L : Array Bool,HeldS 11 (fun w' => w'.cell? ⟨H7 + 1,1,none⟩ = some (.int .i64 (dl : Int))) (fun w' => Blk w' H11 #[.int .i64 (tl : Int), .string PB] 104) L (W4.setCell ⟨H7 + 1,2,none⟩ (.slice none 0 0)) := fun L => ⟨by have q := hB95.cell 1;simp at q;exact q,fun _ => hB115⟩
      first | refine .inl ⟨HE5 _, ?_⟩ | refine ⟨HE5 _, ?_⟩
      refine wpAnyS_all (rs := [11]) (by kernel_rfl) (by simp) ?_
      intro ix hix
      simp only [List.mem_cons,List.not_mem_nil,or_false] at hix
      subst hix
      unfold wpOp
      go_simp
      have hB96 : Blk (((W4.setCell ⟨H7 + 1,2,none⟩ (.slice none 0 0)).setCell ⟨H11,0,none⟩ (.int .i64 0)).setCell ⟨H11,1,none⟩ (.string ⟨#[]⟩)) (H7 + 1) #[.int .i64 (i : Int), .int .i64 (dl : Int), .slice none 0 0] 97 := (Below.heap_setCell _ _ _ _ (by simp only;omega)).trans ((Below.heap_setCell _ _ _ _ (by simp only;omega)).trans hB95)
      have hB116 := (hB115.set 0 (.int .i64 0)).set 1 (.string ⟨#[]⟩)
      have hb6 := below_set (below_set (below_set (HBW3.out.trans (HB34.out.mono HBW3.out.size)) (H7 + 1) 2 (.slice none 0 0) (by have := HORD.out;omega)) H11 0 (.int .i64 0) (by have := HORD.out;omega)) H11 1 (.string ⟨#[]⟩) (by have := HORD.out;omega)
      have hB76 := ((HB73.out.below HB34.out).grown (grown_set W4 (H7 + 1) 2 (.slice none 0 0)) (by simp)).grown (grown_set2 (W4.setCell ⟨H7 + 1,2,none⟩ (.slice none 0 0)) H11 0 1 (.int .i64 0) (.string ⟨#[]⟩)) (by have := HORD.out;simp;omega)
      have HB96 := Lib.hid hB96
      have HB76 := Lib.hid hB76
      have HB116 := Lib.hid hB116
      have HB6 := Lib.hid hb6
      have hz6 := hb6.size
      have hE6 := hB96.cell 1
      simp at hE6
      obtain ⟨W6,hW6⟩ : ∃ q,((W4.setCell ⟨H7 + 1,2,none⟩ (.slice none 0 0)).setCell ⟨H11,0,none⟩ (.int .i64 0)).setCell ⟨H11,1,none⟩ (.string ⟨#[]⟩) = q := ⟨_,rfl⟩
      rw [hW6] at HB96 HB76 HB116 HB6 hz6
      try simp only [hW6] at hE6
      have HE6 : ∀ L : Array Bool,L.getD 11 false = true → HeldS 11 (fun w' => w'.cell? ⟨H7 + 1,1,none⟩ = some (.int .i64 (dl : Int))) (fun w' => Blk w' H11 #[.int .i64 (tl : Int), .string PB] 104) L W6 := fun L hL => ⟨by have q := HB96.out.cell 1;simp at q;exact q,fun e => by rw [hL] at e;cases e⟩
      rw [hW6]
      clear hB95 hB115 HE5 hB76 hB96 hB116 hb6 hE6 hW6 d2 q2 e0 e1 f0 f1 l9 l11 hne hne2
      first | refine .inl ⟨HE6 _ (by kernel_rfl), ?_⟩ | refine ⟨HE6 _ (by kernel_rfl), ?_⟩
      refine wpAnyS_all (rs := [12]) (by kernel_rfl) (by simp) ?_
      intro ix hix
      simp only [List.mem_cons,List.not_mem_nil,or_false] at hix
      subst hix
      unfold wpOp
      go_simp
      first | refine .inl ⟨HE6 _ (by kernel_rfl), ?_⟩ | refine ⟨HE6 _ (by kernel_rfl), ?_⟩ | refine .inl ?_ | skip
      refine wpAnyS_done (by kernel_rfl) ?_ _
      clear HE4 HE6
      have HE : P = (8,none) := by rw [← HP.out,HX.out,HI.out];simp only [HKN.out,htk]
      subst HE
      clear KT KN htk ht1 ht2 hz6
      go_wp2
      go_ret
      exact ⟨fun _ => ⟨rfl,HB6.out,HST.out.below HB6.out⟩,fun T2 f h => by cases h⟩
     | some p =>
      obtain ⟨l,T1⟩ := p
      obtain ⟨hl1,hl2,hl3,hl4,hl5,_⟩ := takeS_facts htk
      obtain ⟨A2,c2,rfl,hrow⟩ := ht1 l T1 htk
      have KG := fun (w5 : World) (hL : Lies w5 A (ecells (oldX m.F name))) => give_any T1 (oldX m.F name) A c w5 (by rw [hl4];exact HTL.out) hL (oldX_small HBB.out name).2 (by have := (oldX_small HBB.out name).1;omega)
      rw [HXL.out] at KG
      have KS := fun (w5 : World) hS hA => sectors_any S m.most A2 c2 l w5 hS (by have := HBB.out.mo;omega) hA (by omega) (fun x hx => by have := (hl3 x hx).2.1;have := HTL.out;omega) (by rw [secL_length,hl5, ← HKN.out,HDL.out];unfold needsN;omega)
      have hLA2 := Lies.of_row hrow
      have hTA2 := Typed.of_row hrow
      have hA2X : ∀ g,A2 = some g → W0.heap.size ≤ g.block := fun g hg => own_ge hrow g hg
      have HL := Lib.hid (And.intro hLA2 (And.intro hTA2 hA2X))
      have HFACT := Lib.hid (And.intro hl1 (And.intro hl3 (And.intro hl4 hl5)))
      have HTK := Lib.hid htk
      unfold spv at KG
      obtain ⟨t1,ht1l⟩ : ∃ q,T1.length = q := ⟨_,rfl⟩
      obtain ⟨PB1,hPB1⟩ : ∃ q,mk (packB T1) = q := ⟨_,rfl⟩
      obtain ⟨ll,hll⟩ : ∃ q,l.length = q := ⟨_,rfl⟩
      rw [ht1l,hPB1] at KG ⊢
      rw [hll] at KS ⊢
      have HLL := Lib.hid hll
      have HT1L := Lib.hid (And.intro ht1l hPB1)
      clear ht1 ht2 htk hl1 hl2 hl3 hl4 hl5 hrow hLA2 hTA2 hA2X ht1l hPB1 hll KT KN
      refine ⟨HE4 _, ?_⟩
      try go_simp
      clear HE0 hB9 hB11 hb0 hb4 hB94 hB114
      refine tkS 5 (.tuple #[.slice A2 ll c2, .agg #[.int .i64 (t1 : Int), .string PB1], .int .i64 0]) rfl (HE4 _) (fun w' hS => ?_) ?_
      ·clear hS;go_simp
      try go_simp
      refine tkS 6 (.slice A2 ll c2) rfl (HE4 _) (fun w' hS => ?_) ?_
      ·clear hS;go_simp
      try go_simp
      refine tkS 7 (.agg #[.int .i64 (t1 : Int), .string PB1]) rfl (HE4 _) (fun w' hS => ?_) ?_
      ·clear hS;go_simp
      try go_simp
      refine tkS 8 (.int .i64 0) rfl (HE4 _) (fun w' hS => ?_) ?_
      ·clear hS;go_simp
      try go_simp
      refine tkS 9 (.pointer (some ⟨H7 + 1,2,none⟩)) rfl (HE4 _) (fun w' hS => ?_) ?_
      ·clear hS;go_simp
      try go_simp
      have d2 := HB94.out.cell 2
      have q2 := HB94.out.frozen 2
      have e0 := HB114.out.cell 0
      have e1 := HB114.out.cell 1
      have f0 := HB114.out.frozen 0
      have f1 := HB114.out.frozen 1
      simp at d2 e0 e1
      have l9 := HB94.out.lt
      have l11 := HB114.out.lt
      have hne : H7 + 1 ≠ H11 := by have := HORD.out;omega
      have hne2 : H11 ≠ H7 + 1 := Ne.symm hne
      refine wpAnyS_all (rs := [10]) (by kernel_rfl) (by simp) ?_
      intro ix hix
      simp only [List.mem_cons,List.not_mem_nil,or_false] at hix
      subst hix
      unfold wpOp
      go_simp
      have hB95 := HB94.out.set 2 (.slice A2 ll c2)
      have hB115 : Blk (W4.setCell ⟨H7 + 1,2,none⟩ (.slice A2 ll c2)) H11 #[.int .i64 (tl : Int), .string PB] 104 := (Below.heap_setCell _ _ _ _ (by simp only;omega)).trans HB114.out
      have HE5 : ∀ L : Array Bool,HeldS 11 (fun w' => w'.cell? ⟨H7 + 1,1,none⟩ = some (.int .i64 (dl : Int))) (fun w' => Blk w' H11 #[.int .i64 (tl : Int), .string PB] 104) L (W4.setCell ⟨H7 + 1,2,none⟩ (.slice A2 ll c2)) := fun L => ⟨by have q := hB95.cell 1;simp at q;exact q,fun _ => hB115⟩
      first | refine .inl ⟨HE5 _, ?_⟩ | refine ⟨HE5 _, ?_⟩
      refine wpAnyS_all (rs := [11]) (by kernel_rfl) (by simp) ?_
      intro ix hix
      simp only [List.mem_cons,List.not_mem_nil,or_false] at hix
      subst hix
      unfold wpOp
      go_simp
      have hB96 : Blk (((W4.setCell ⟨H7 + 1,2,none⟩ (.slice A2 ll c2)).setCell ⟨H11,0,none⟩ (.int .i64 (t1 : Int))).setCell ⟨H11,1,none⟩ (.string PB1)) (H7 + 1) #[.int .i64 (i : Int), .int .i64 (dl : Int), .slice A2 ll c2] 97 := (Below.heap_setCell _ _ _ _ (by simp only;omega)).trans ((Below.heap_setCell _ _ _ _ (by simp only;omega)).trans hB95)
      have hB116 := (hB115.set 0 (.int .i64 (t1 : Int))).set 1 (.string PB1)
      have hb6 := below_set (below_set (below_set (HBW3.out.trans (HB34.out.mono HBW3.out.size)) (H7 + 1) 2 (.slice A2 ll c2) (by have := HORD.out;omega)) H11 0 (.int .i64 (t1 : Int)) (by have := HORD.out;omega)) H11 1 (.string PB1) (by have := HORD.out;omega)
      have hB76 := ((HB73.out.below HB34.out).grown (grown_set W4 (H7 + 1) 2 (.slice A2 ll c2)) (by simp)).grown (grown_set2 (W4.setCell ⟨H7 + 1,2,none⟩ (.slice A2 ll c2)) H11 0 1 (.int .i64 (t1 : Int)) (.string PB1)) (by have := HORD.out;simp;omega)
      have HB96 := Lib.hid hB96
      have HB76 := Lib.hid hB76
      have HB116 := Lib.hid hB116
      have HB6 := Lib.hid hb6
      have hz6 := hb6.size
      have hE6 := hB96.cell 1
      simp at hE6
      have hL4 := HL.out
      obtain ⟨hL51,hL52⟩ := hL4.1.grown hL4.2.1 (grown_set W4 (H7 + 1) 2 (.slice A2 ll c2)) (fun g e => by cases e;exact ⟨_,97,_,HB94.out,by decide⟩)
      obtain ⟨hL61,hL62⟩ := hL51.grown hL52 (grown_set2 (W4.setCell ⟨H7 + 1,2,none⟩ (.slice A2 ll c2)) H11 0 1 (.int .i64 (t1 : Int)) (.string PB1)) (fun g e => by cases e;exact ⟨_,104,_,hB115,by decide⟩)
      have HL6 := Lib.hid (show Lies (((W4.setCell ⟨H7 + 1,2,none⟩ (.slice A2 ll c2)).setCell ⟨H11,0,none⟩ (.int .i64 (t1 : Int))).setCell ⟨H11,1,none⟩ (.string PB1)) A2 (ecells l) ∧ Typed (((W4.setCell ⟨H7 + 1,2,none⟩ (.slice A2 ll c2)).setCell ⟨H11,0,none⟩ (.int .i64 (t1 : Int))).setCell ⟨H11,1,none⟩ (.string PB1)) A2 172 from ⟨hL61,hL62⟩)
      clear hL4 hL51 hL52 hL61 hL62
      obtain ⟨W6,hW6⟩ : ∃ q,((W4.setCell ⟨H7 + 1,2,none⟩ (.slice A2 ll c2)).setCell ⟨H11,0,none⟩ (.int .i64 (t1 : Int))).setCell ⟨H11,1,none⟩ (.string PB1) = q := ⟨_,rfl⟩
      rw [hW6] at HL6
      rw [hW6] at HB96 HB76 HB116 HB6 hz6
      try simp only [hW6] at hE6
      have HE6 : ∀ L : Array Bool,L.getD 11 false = true → HeldS 11 (fun w' => w'.cell? ⟨H7 + 1,1,none⟩ = some (.int .i64 (dl : Int))) (fun w' => Blk w' H11 #[.int .i64 (tl : Int), .string PB] 104) L W6 := fun L hL => ⟨by have q := HB96.out.cell 1;simp at q;exact q,fun e => by rw [hL] at e;cases e⟩
      rw [hW6]
      clear hB95 hB115 HE5 hB76 hB96 hB116 hb6 hE6 hW6 d2 q2 e0 e1 f0 f1 l9 l11 hne hne2
      first | refine .inl ⟨HE6 _ (by kernel_rfl), ?_⟩ | refine ⟨HE6 _ (by kernel_rfl), ?_⟩
      refine wpAnyS_all (rs := [12]) (by kernel_rfl) (by simp) ?_
      intro ix hix
      simp only [List.mem_cons,List.not_mem_nil,or_false] at hix
      subst hix
      unfold wpOp
      go_simp
      first | refine .inl ⟨HE6 _ (by kernel_rfl), ?_⟩ | refine ⟨HE6 _ (by kernel_rfl), ?_⟩ | refine .inl ?_ | skip
      refine wpAnyS_done (by kernel_rfl) ?_ _
      clear HE4 HE6
      have k0 := HB116.out.cell 0
      have k1 := HB116.out.cell 1
      have k2 := HB76.out.cell 2
      simp at k0 k1 k2
      have l11 := HB116.out.lt
      have KG6 := KG W6 (HLA.out.below (Nat.le_refl _) HB6.out)
      have HK := Lib.hid (And.intro k0 (And.intro k1 (And.intro k2 l11)))
      clear KG hz6
      cases htn : turnS false T1 (oldX m.F name) with
      | none =>
       rw [htn] at KG6
       unfold turnV at KG6
       dsimp only at KG6
       have HE : P = (14,none) := by rw [← HP.out,HX.out,HI.out];simp only [HKN.out,HTK.out,htn]
       subst HE
       clear htn KS HK
       go_wp2_with (first | (go_at_call 54;refine KG6.mono ?_;rintro e W7 ⟨rfl,hb7⟩;have hB7x := HB116.out.below hb7;have f0 := hB7x.frozen 0;have f1 := hB7x.frozen 1;have g0 := hB7x.cell 0;have g1 := hB7x.cell 1;simp at g0 g1;have l12 := hB7x.lt;have HB7 := Lib.hid hb7;clear hb7 hB7x k0 k1 k2 l11))
       go_ret
       have hbF := below_set (below_set (HB6.out.trans (HB7.out.mono HB6.out.size)) H11 0 (.int .i64 0) (by have := HORD.out;omega)) H11 1 (.string ⟨#[]⟩) (by have := HORD.out;omega)
       exact ⟨fun _ => ⟨rfl,hbF,HST.out.below hbF⟩,fun T2 f h => by cases h⟩
      | some T2 =>
       rw [htn] at KG6
       unfold turnV spv at KG6
       dsimp only at KG6
       have HE : P = (0,some (T2,⟨name,i,data.length,l⟩)) := by rw [← HP.out,HX.out,HI.out];simp only [HKN.out,HTK.out,htn]
       subst HE
       have HT2 := Lib.hid (turnS_len _ _ _ _ htn)
       obtain ⟨t2,ht2⟩ : ∃ q,T2.length = q := ⟨_,rfl⟩
       obtain ⟨PB2,hPB2⟩ : ∃ q,mk (packB T2) = q := ⟨_,rfl⟩
       rw [ht2,hPB2] at KG6
       have HT2L := Lib.hid (And.intro ht2 hPB2)
       clear htn HK ht2 hPB2
       go_upto_region 19 with (first | (go_at_call 54;refine KG6.mono ?_;rintro e W7 ⟨rfl,hb7⟩;have hB7x := HB116.out.below hb7;have f0 := hB7x.frozen 0;have f1 := hB7x.frozen 1;have g0 := hB7x.cell 0;have g1 := hB7x.cell 1;simp at g0 g1;have l12 := hB7x.lt;have HB7 := Lib.hid hb7;clear hb7 hB7x k0 k1 k2 l11))
       have hB118 := ((HB116.out.below HB7.out).set 0 (.int .i64 (t2 : Int))).set 1 (.string PB2)
       have hB98 : Blk ((W7.setCell ⟨H11,0,none⟩ (.int .i64 (t2 : Int))).setCell ⟨H11,1,none⟩ (.string PB2)) (H7 + 1) #[.int .i64 (i : Int), .int .i64 (dl : Int), .slice A2 ll c2] 97 := (HB96.out.below HB7.out).grown (grown_set2 W7 H11 0 1 _ _) (by have := HORD.out;simp;omega)
       have hb8 := below_set (below_set (HB6.out.trans (HB7.out.mono HB6.out.size)) H11 0 (.int .i64 (t2 : Int)) (by have := HORD.out;omega)) H11 1 (.string PB2) (by have := HORD.out;omega)
       obtain ⟨hL81,hL82⟩ := (HL6.out.1.below (Nat.le_refl _) HB7.out).grown (HL6.out.2.below HB7.out) (grown_set2 W7 H11 0 1 (.int .i64 (t2 : Int)) (.string PB2)) (fun g e => by cases e;exact ⟨_,104,_,HB116.out.below HB7.out,by decide⟩)
       obtain ⟨W8,hW8⟩ : ∃ q,(W7.setCell ⟨H11,0,none⟩ (.int .i64 (t2 : Int))).setCell ⟨H11,1,none⟩ (.string PB2) = q := ⟨_,rfl⟩
       rw [hW8] at hB118 hB98 hb8 hL81 hL82 ⊢
       have HL8 := Lib.hid (And.intro hL81 hL82)
       have HB8 := Lib.hid hb8
       have HBX8 := Lib.hid (And.intro hB98 hB118)
       clear hW8 hB118 hB98 hb8 hL81 hL82 f0 f1 g0 g1 l12 KG6
       refine wp_region_held (S := fun w' => Blk w' (H7 + 1) #[.int .i64 (i : Int), .int .i64 (dl : Int), .slice A2 ll c2] 97 ∧ Blk w' H11 #[.int .i64 (t2 : Int), .string PB2] 104) mixed ?_
       change wpAnyH _ _ _ _ _ _ _ _ W8.drew
       have hS1 : Blk W8.drew (H7 + 1) #[.int .i64 (i : Int), .int .i64 (dl : Int), .slice A2 ll c2] 97 ∧ Blk W8.drew H11 #[.int .i64 (t2 : Int), .string PB2] 104 := HBX8.out
       have hbd : Below w.heap.size w W8.drew := HB8.out.drew
       have hLd : Lies W8.drew A2 (ecells l) ∧ Typed W8.drew A2 172 := HL8.out
       obtain ⟨WA,hWA⟩ : ∃ q,W8.drew = q := ⟨_,rfl⟩
       rw [hWA] at hS1 hbd hLd ⊢
       clear hWA
       have HBD := Lib.hid hbd
       have HLD := Lib.hid hLd
       have hst8 := HST.out.below hbd
       have x5 := hst8.blk.cell 5
       simp at x5
       have HST8 := Lib.hid hst8
       have KSA := KS WA x5 (by exact HLD.out.1)
       clear hbd hLd hst8 x5 KS
       refine tkQ 0 (.pointer (some ⟨S,0,none⟩)) rfl hS1 ?_
       try go_simp
       refine tkQ 1 (.string NM) rfl hS1 ?_
       try go_simp
       refine tkH 2 (.agg #[.int .i64 (i : Int), .int .i64 (dl : Int), .slice A2 ll c2]) rfl hS1 (fun w' hS => ?_) ?_
       ·have q0 := hS.1.cell 0;have q1 := hS.1.cell 1;have q2 := hS.1.cell 2;simp at q0 q1 q2;go_simp
       try go_simp
       refine tkH 3 (.agg #[.int .i64 (t2 : Int), .string PB2]) rfl hS1 (fun w' hS => ?_) ?_
       ·have q0 := hS.2.cell 0;have q1 := hS.2.cell 1;simp at q0 q1;go_simp
       try go_simp
       refine tkQ 4 (.pointer (some ⟨S,0,none⟩)) rfl hS1 ?_
       try go_simp
       refine tkQ 5 (.pointer (some ⟨H7 + 1,2,none⟩)) rfl hS1 ?_
       try go_simp
       refine tkH 6 (.slice A2 ll c2) rfl hS1 (fun w' hS => ?_) ?_
       ·have q2 := hS.1.cell 2;simp at q2;go_simp
       try go_simp
       refine tkQ 8 (.string DT) rfl hS1 ?_
       try go_simp
       refine wpAnyH_all (rs := [7]) (by kernel_rfl) (by simp) ?_
       intro ix hix
       simp only [List.mem_cons,List.not_mem_nil,or_false] at hix
       subst hix
       unfold wpOp
       go_simp
       refine .inl ?_
       go_at_call 56
       refine KSA.mono ?_
       rintro e W9 ⟨⟨A3,c3,rfl,hrow⟩,hb9⟩
       have hS2 : Blk W9 (H7 + 1) #[.int .i64 (i : Int), .int .i64 (dl : Int), .slice A2 ll c2] 97 ∧ Blk W9 H11 #[.int .i64 (t2 : Int), .string PB2] 104 := ⟨hS1.1.below hb9,hS1.2.below hb9⟩
       refine ⟨hS2, ?_⟩
       try go_simp
       have HB9W := Lib.hid (HBD.out.trans (hb9.mono HBD.out.size))
       have HL9 := Lib.hid (And.intro (HLD.out.1.below (Nat.le_refl _) hb9) (HLD.out.2.below hb9))
       have hA3 : ∀ g,A3 = some g → WA.heap.size ≤ g.block := fun g hg => own_ge hrow g hg
       have KP := put_any' X S D Lg M m ⟨name,i,data.length,l⟩ A2 c2 T2 A3 c3 (secL (m.most + 7) l) data W9 (HST8.out.below hb9) HL9.out.1 HL9.out.2 (fun g hg hx => by have q1 := HL.out.2.2 g hg;have q2 := HSLT.out _ (List.mem_cons_of_mem _ (List.mem_cons_of_mem _ hx));have q3 := HW0S.out;have q4 := HBW3.out.size;omega) (Lies.of_row hrow) (fun g hg hx => by have q1 := hA3 g hg;have q2 := HSLT.out _ (List.mem_cons_of_mem _ (List.mem_cons_of_mem _ hx));have q4 := HBD.out.size;omega) (put_secs HBB.out HFACT.out.2.1) (by rw [secL_length,HFACT.out.2.2.2, ← HKN.out,HDL.out];unfold needsN;omega) (by rw [HDL.out];omega) (by rw [HT2.out,HFACT.out.2.2.1]) (by rw [HT2.out,HFACT.out.2.2.1];exact HTL.out) HII.out HGL.out (by show data.length ≤ _;rw [HDL.out];omega) (by have := HFACT.out.1;show l.length ≤ _;omega) (fun x hx => by have := (HFACT.out.2.1 x hx).2.1;have := HTL.out;omega) (bodyB_len _ _ _ HGL.out (by show data.length ≤ _;rw [HDL.out];omega) HFACT.out.1 (fun x hx => by have := (HFACT.out.2.1 x hx).2.1;have := HTL.out;omega)) HBB.out.len HBB.out.mo (by have := HBB.out.ll;omega) (by have := HBB.out.sl;omega)
       unfold spv at KP
       dsimp only at KP
       have hll2 := HLL.out
       have ht2l := HT2L.out
       have hnm := HNM.out
       have hdt := HDT.out
       have hdl2 := HDL.out
       rw [hll2,ht2l.1,ht2l.2,hnm,hdt,hdl2] at KP
       clear hll2 ht2l hnm hdt hdl2 hrow hA3 KSA hb9 hS1
       refine wpAnyH_all (rs := [9]) (by kernel_rfl) (by simp) ?_
       intro ix hix
       simp only [List.mem_cons,List.not_mem_nil,or_false] at hix
       subst hix
       unfold wpOp
       go_simp
       refine .inl ?_
       go_at_call 55
       refine KP.mono ?_
       intro e W10 hp
       have HPP := Lib.hid hp
       obtain ⟨rfl,X1,hM,_⟩ := hp
       have hS3 : Blk W10 (H7 + 1) #[.int .i64 (i : Int), .int .i64 (dl : Int), .slice A2 ll c2] 97 ∧ Blk W10 H11 #[.int .i64 (t2 : Int), .string PB2] 104 := ⟨hM.blk hS2.1 (fun hx => by have := HSLT.out _ hx;have := HORD.out;omega),hM.blk hS2.2 (fun hx => by have := HSLT.out _ hx;have := HORD.out;omega)⟩
       refine ⟨hS3, ?_⟩
       try go_simp
       clear hS2 KP hM
       refine wpAnyH_all (rs := [10]) (by kernel_rfl) (by simp) ?_
       intro ix hix
       simp only [List.mem_cons,List.not_mem_nil,or_false] at hix
       subst hix
       unfold wpOp
       go_simp
       first | refine .inl ⟨hS3, ?_⟩ | refine ⟨hS3, ?_⟩ | refine .inl ?_ | skip
       refine wpAnyH_done (by kernel_rfl) ?_ _
       clear hS3
       go_wp2
       go_ret
       exact ⟨fun h => by (cases h),fun T2' f' h => by (cases h;have q := HPP.out.from HB9W.out;have hd := HDL.out;subst hd;exact q)⟩
   ·have hsl : ∃ f,fileOf m.F name = some f ∧ a = f.entry := by
     rcases HCS.out with ⟨_,_,h3⟩ | ⟨f,h1,h2,_⟩
     ·rw [HNN.out] at h3;cases h3
     ·exact ⟨f,h1,h2⟩
    obtain ⟨f,hf,rfl⟩ := hsl
    have HI := Lib.hid (show slotW m name = some f.entry by unfold slotW;rw [hf])
    obtain ⟨i,hi⟩ : ∃ q,f.entry = q := ⟨_,rfl⟩
    rw [hi] at HI KF
    have HII := Lib.hid (show i < m.most by rw [← hi];exact HBB.out.ent f (fileOf_mem hf))
    clear hf hi
    go_enter Tryz.func20,Tryz.ntmps20
    go_upto_if 34 with (first | (go_at_call 50;refine KF.mono ?_;rintro e w1 ⟨rfl,hb1⟩;have HB1 := Lib.hid hb1;clear hb1))
    have hB7 := (Blk.new w1 #[.int .i64 (i : Int), .int .i64 b, .slice A xl c] 97).alloc (.cells #[.int .i64 (i : Int), .int .i64 dl, .slice none 0 0] 97)
    have hB9 := Blk.new (w1.alloc (.cells #[.int .i64 (i : Int), .int .i64 b, .slice A xl c] 97)) #[.int .i64 (i : Int), .int .i64 dl, .slice none 0 0] 97
    have hbw := (HB1.out.alloc HB1.out.size (.cells #[.int .i64 (i : Int), .int .i64 b, .slice A xl c] 97)).alloc (by have := HB1.out.size;simp;omega) (.cells #[.int .i64 (i : Int), .int .i64 dl, .slice none 0 0] 97)
    rw [World.size_alloc] at hB9
    have hH7 := HB1.out.size
    obtain ⟨H7,hH⟩ : ∃ q,w1.heap.size = q := ⟨_,rfl⟩
    obtain ⟨W1,hW⟩ : ∃ q,(w1.alloc (.cells #[.int .i64 (i : Int), .int .i64 b, .slice A xl c] 97)).alloc (.cells #[.int .i64 (i : Int), .int .i64 dl, .slice none 0 0] 97) = q := ⟨_,rfl⟩
    rw [hH] at hB7 hB9 hH7
    simp only [hW] at hB7 hB9 hbw ⊢
    try simp only [hH]
    have hst1 := HST.out.below hbw
    have s2 := HX2.out W1 hst1
    have s3 := HX3.out W1 hst1
    have hS2 := hst1.blk.lt
    simp at s2 s3
    have HB7 := Lib.hid hB7
    have HB9 := Lib.hid hB9
    have HBW := Lib.hid hbw
    have HH7 := Lib.hid hH7
    have HWZ := Lib.hid (show W1.heap.size = H7 + 2 by rw [← hW, ← hH];simp)
    clear hH hW hB7 hB9 hbw hst1 hH7
    go_upto_region 13 with (fail)
    have hB113 := Blk.new W1 #[.int .i64 (tl : Int), .string PB] 104
    have hB93 := HB9.out.alloc (.cells #[.int .i64 (tl : Int), .string PB] 104)
    have hB73 := HB7.out.alloc (.cells #[.int .i64 (tl : Int), .string PB] 104)
    have hbw3 := HBW.out.alloc HBW.out.size (.cells #[.int .i64 (tl : Int), .string PB] 104)
    have hlt11 : H7 + 2 ≤ W1.heap.size := by rw [HWZ.out];omega
    obtain ⟨H11,hH11⟩ : ∃ q,W1.heap.size = q := ⟨_,rfl⟩
    rw [hH11] at hB113 hlt11
    obtain ⟨W3,hW3⟩ : ∃ q,W1.alloc (.cells #[.int .i64 (tl : Int), .string PB] 104) = q := ⟨_,rfl⟩
    simp only [hW3] at hB113 hB93 hB73 hbw3 ⊢
    try simp only [hH11]
    have HB73 := Lib.hid hB73
    have HB93 := Lib.hid hB93
    have HB113 := Lib.hid hB113
    have HST3 := Lib.hid (HST.out.below hbw3)
    have HBW3 := Lib.hid hbw3
    have HORD := Lib.hid (show w.heap.size ≤ H7 ∧ H7 + 2 ≤ H11 ∧ W3.heap.size = H11 + 1 from ⟨HH7.out,hlt11,by rw [← hW3, ← hH11];simp⟩)
    clear hW3 hH11 hB113 hB93 hB73 hbw3 hlt11 s2 s3 hS2 KV KF
    have mixed := mixedT
    refine wp_region_S 11 (fun w' => w'.cell? ⟨H7 + 1,1,none⟩ = some (.int .i64 (dl : Int))) (fun w' => Blk w' H11 #[.int .i64 (tl : Int), .string PB] 104) mixed ?_
    change wpAnyS _ _ _ _ _ _ _ _ _ _ W3.drew
    have hB9 : Blk W3.drew (H7 + 1) #[.int .i64 (i : Int), .int .i64 (dl : Int), .slice none 0 0] 97 := HB93.out
    have hB11 : Blk W3.drew H11 #[.int .i64 (tl : Int), .string PB] 104 := HB113.out
    have hb0 : Below W3.heap.size W3 W3.drew := (Below.refl _ _).drew
    obtain ⟨W0,hW0⟩ : ∃ q,W3.drew = q := ⟨_,rfl⟩
    rw [hW0] at hB9 hB11 hb0 ⊢
    clear hW0
    have HE0 : ∀ L : Array Bool,HeldS 11 (fun w' => w'.cell? ⟨H7 + 1,1,none⟩ = some (.int .i64 (dl : Int))) (fun w' => Blk w' H11 #[.int .i64 (tl : Int), .string PB] 104) L W0 := fun L => ⟨by have q := hB9.cell 1;simp at q;exact q,fun _ => hB11⟩
    refine wpAnyS_take2 (i := 0) (v := .agg #[.int .i64 (tl : Int), .string PB]) rfl (by decide) rfl (by kernel_rfl) (by kernel_rfl) (by kernel_rfl) (by kernel_rfl) (by kernel_rfl) (fun c a w h => h) (.inl ⟨by kernel_rfl,fun w' hS => ?_⟩) (HE0 _) ?_
    ·have q0 := hS.2.cell 0;have q1 := hS.2.cell 1;simp at q0 q1;go_simp
    try go_simp
    refine tkS 1 (.pointer (some ⟨H7 + 1,1,none⟩)) rfl (HE0 _) (fun w' hS => ?_) ?_
    ·clear hS;go_simp
    try go_simp
    refine tkS 2 (.int .i64 (dl : Int)) rfl (HE0 _) (fun w' hS => ?_) ?_
    ·have q0 := hS;go_simp
    try go_simp
    refine wpAnyS_all (rs := [3]) (by kernel_rfl) (by simp) ?_
    intro ix hix
    simp only [List.mem_cons,List.not_mem_nil,or_false] at hix
    subst hix
    unfold wpOp
    go_simp
    refine .inl ?_
    go_at_call 53
    refine (KN W0).mono ?_
    rintro e w' ⟨rfl,hw⟩
    obtain rfl := hw.symm
    refine ⟨HE0 _, ?_⟩
    try go_simp
    refine wpAnyS_all (rs := [4]) (by kernel_rfl) (by simp) ?_
    intro ix hix
    simp only [List.mem_cons,List.not_mem_nil,or_false] at hix
    subst hix
    unfold wpOp
    go_simp
    refine .inl ?_
    go_at_call 52
    refine (KT W0).mono ?_
    rintro e W4 ⟨ht1,ht2,hb4⟩
    have hB94 := hB9.below hb4
    have hB114 := hB11.below hb4
    have HE4 : ∀ L : Array Bool,HeldS 11 (fun w' => w'.cell? ⟨H7 + 1,1,none⟩ = some (.int .i64 (dl : Int))) (fun w' => Blk w' H11 #[.int .i64 (tl : Int), .string PB] 104) L W4 := fun L => ⟨by have q := hB94.cell 1;simp at q;exact q,fun _ => hB114⟩
    have HB94 := Lib.hid hB94
    have HB114 := Lib.hid hB114
    have HB34 := Lib.hid (hb0.trans (hb4.mono hb0.size))
    have HW0S := Lib.hid hb0.size
    cases htk : takeS m.T kn 64 with
    | none =>
     obtain rfl := ht2 htk
     refine ⟨HE4 _, ?_⟩
     try go_simp
     clear HE0 hB9 hB11 hb0 hb4 hB94 hB114
     refine tkS 5 (.tuple #[.slice none 0 0, .agg #[.int .i64 0, .string ⟨#[]⟩], .int .i64 8]) rfl (HE4 _) (fun w' hS => ?_) ?_
     ·clear hS;go_simp
     try go_simp
     refine tkS 6 (.slice none 0 0) rfl (HE4 _) (fun w' hS => ?_) ?_
     ·clear hS;go_simp
     try go_simp
     refine tkS 7 (.agg #[.int .i64 0, .string ⟨#[]⟩]) rfl (HE4 _) (fun w' hS => ?_) ?_
     ·clear hS;go_simp
     try go_simp
     refine tkS 8 (.int .i64 8) rfl (HE4 _) (fun w' hS => ?_) ?_
     ·clear hS;go_simp
     try go_simp
     refine tkS 9 (.pointer (some ⟨H7 + 1,2,none⟩)) rfl (HE4 _) (fun w' hS => ?_) ?_
     ·clear hS;go_simp
     try go_simp
     have d2 := HB94.out.cell 2
     have q2 := HB94.out.frozen 2
     have e0 := HB114.out.cell 0
     have e1 := HB114.out.cell 1
     have f0 := HB114.out.frozen 0
     have f1 := HB114.out.frozen 1
     simp at d2 e0 e1
     have l9 := HB94.out.lt
     have l11 := HB114.out.lt
     have hne : H7 + 1 ≠ H11 := by have := HORD.out;omega
     have hne2 : H11 ≠ H7 + 1 := Ne.symm hne
     refine wpAnyS_all (rs := [10]) (by kernel_rfl) (by simp) ?_
     intro ix hix
     simp only [List.mem_cons,List.not_mem_nil,or_false] at hix
     subst hix
     unfold wpOp
     go_simp
     have hB95 := HB94.out.set 2 (.slice none 0 0)
     have hB115 : Blk (W4.setCell ⟨H7 + 1,2,none⟩ (.slice none 0 0)) H11 #[.int .i64 (tl : Int), .string PB] 104 := (Below.heap_setCell _ _ _ _ (by simp only;omega)).trans HB114.out
     have HE5 : ∀ L : Array Bool,HeldS 11 (fun w' => w'.cell? ⟨H7 + 1,1,none⟩ = some (.int .i64 (dl : Int))) (fun w' => Blk w' H11 #[.int .i64 (tl : Int), .string PB] 104) L (W4.setCell ⟨H7 + 1,2,none⟩ (.slice none 0 0)) := fun L => ⟨by have q := hB95.cell 1;simp at q;exact q,fun _ => hB115⟩
     first | refine .inl ⟨HE5 _, ?_⟩ | refine ⟨HE5 _, ?_⟩
     refine wpAnyS_all (rs := [11]) (by kernel_rfl) (by simp) ?_
     intro ix hix
     simp only [List.mem_cons,List.not_mem_nil,or_false] at hix
     subst hix
     unfold wpOp
     go_simp
     have hB96 : Blk (((W4.setCell ⟨H7 + 1,2,none⟩ (.slice none 0 0)).setCell ⟨H11,0,none⟩ (.int .i64 0)).setCell ⟨H11,1,none⟩ (.string ⟨#[]⟩)) (H7 + 1) #[.int .i64 (i : Int), .int .i64 (dl : Int), .slice none 0 0] 97 := (Below.heap_setCell _ _ _ _ (by simp only;omega)).trans ((Below.heap_setCell _ _ _ _ (by simp only;omega)).trans hB95)
     have hB116 := (hB115.set 0 (.int .i64 0)).set 1 (.string ⟨#[]⟩)
     have hb6 := below_set (below_set (below_set (HBW3.out.trans (HB34.out.mono HBW3.out.size)) (H7 + 1) 2 (.slice none 0 0) (by have := HORD.out;omega)) H11 0 (.int .i64 0) (by have := HORD.out;omega)) H11 1 (.string ⟨#[]⟩) (by have := HORD.out;omega)
     have hB76 := ((HB73.out.below HB34.out).grown (grown_set W4 (H7 + 1) 2 (.slice none 0 0)) (by simp)).grown (grown_set2 (W4.setCell ⟨H7 + 1,2,none⟩ (.slice none 0 0)) H11 0 1 (.int .i64 0) (.string ⟨#[]⟩)) (by have := HORD.out;simp;omega)
     have HB96 := Lib.hid hB96
     have HB76 := Lib.hid hB76
     have HB116 := Lib.hid hB116
     have HB6 := Lib.hid hb6
     have hz6 := hb6.size
     have hE6 := hB96.cell 1
     simp at hE6
     obtain ⟨W6,hW6⟩ : ∃ q,((W4.setCell ⟨H7 + 1,2,none⟩ (.slice none 0 0)).setCell ⟨H11,0,none⟩ (.int .i64 0)).setCell ⟨H11,1,none⟩ (.string ⟨#[]⟩) = q := ⟨_,rfl⟩
     rw [hW6] at HB96 HB76 HB116 HB6 hz6
     try simp only [hW6] at hE6
     have HE6 : ∀ L : Array Bool,L.getD 11 false = true → HeldS 11 (fun w' => w'.cell? ⟨H7 + 1,1,none⟩ = some (.int .i64 (dl : Int))) (fun w' => Blk w' H11 #[.int .i64 (tl : Int), .string PB] 104) L W6 := fun L hL => ⟨by have q := HB96.out.cell 1;simp at q;exact q,fun e => by rw [hL] at e;cases e⟩
     rw [hW6]
     clear hB95 hB115 HE5 hB76 hB96 hB116 hb6 hE6 hW6 d2 q2 e0 e1 f0 f1 l9 l11 hne hne2
     first | refine .inl ⟨HE6 _ (by kernel_rfl), ?_⟩ | refine ⟨HE6 _ (by kernel_rfl), ?_⟩
     refine wpAnyS_all (rs := [12]) (by kernel_rfl) (by simp) ?_
     intro ix hix
     simp only [List.mem_cons,List.not_mem_nil,or_false] at hix
     subst hix
     unfold wpOp
     go_simp
     first | refine .inl ⟨HE6 _ (by kernel_rfl), ?_⟩ | refine ⟨HE6 _ (by kernel_rfl), ?_⟩ | refine .inl ?_ | skip
     refine wpAnyS_done (by kernel_rfl) ?_ _
     clear HE4 HE6
     have HE : P = (8,none) := by rw [← HP.out,HX.out,HI.out];simp only [HKN.out,htk]
     subst HE
     clear KT KN htk ht1 ht2 hz6
     go_wp2
     go_ret
     exact ⟨fun _ => ⟨rfl,HB6.out,HST.out.below HB6.out⟩,fun T2 f h => by cases h⟩
    | some p =>
     obtain ⟨l,T1⟩ := p
     obtain ⟨hl1,hl2,hl3,hl4,hl5,_⟩ := takeS_facts htk
     obtain ⟨A2,c2,rfl,hrow⟩ := ht1 l T1 htk
     have KG := fun (w5 : World) (hL : Lies w5 A (ecells (oldX m.F name))) => give_any T1 (oldX m.F name) A c w5 (by rw [hl4];exact HTL.out) hL (oldX_small HBB.out name).2 (by have := (oldX_small HBB.out name).1;omega)
     rw [HXL.out] at KG
     have KS := fun (w5 : World) hS hA => sectors_any S m.most A2 c2 l w5 hS (by have := HBB.out.mo;omega) hA (by omega) (fun x hx => by have := (hl3 x hx).2.1;have := HTL.out;omega) (by rw [secL_length,hl5, ← HKN.out,HDL.out];unfold needsN;omega)
     have hLA2 := Lies.of_row hrow
     have hTA2 := Typed.of_row hrow
     have hA2X : ∀ g,A2 = some g → W0.heap.size ≤ g.block := fun g hg => own_ge hrow g hg
     have HL := Lib.hid (And.intro hLA2 (And.intro hTA2 hA2X))
     have HFACT := Lib.hid (And.intro hl1 (And.intro hl3 (And.intro hl4 hl5)))
     have HTK := Lib.hid htk
     unfold spv at KG
     obtain ⟨t1,ht1l⟩ : ∃ q,T1.length = q := ⟨_,rfl⟩
     obtain ⟨PB1,hPB1⟩ : ∃ q,mk (packB T1) = q := ⟨_,rfl⟩
     obtain ⟨ll,hll⟩ : ∃ q,l.length = q := ⟨_,rfl⟩
     rw [ht1l,hPB1] at KG ⊢
     rw [hll] at KS ⊢
     have HLL := Lib.hid hll
     have HT1L := Lib.hid (And.intro ht1l hPB1)
     clear ht1 ht2 htk hl1 hl2 hl3 hl4 hl5 hrow hLA2 hTA2 hA2X ht1l hPB1 hll KT KN
     refine ⟨HE4 _, ?_⟩
     try go_simp
     clear HE0 hB9 hB11 hb0 hb4 hB94 hB114
     refine tkS 5 (.tuple #[.slice A2 ll c2, .agg #[.int .i64 (t1 : Int), .string PB1], .int .i64 0]) rfl (HE4 _) (fun w' hS => ?_) ?_
     ·clear hS;go_simp
     try go_simp
     refine tkS 6 (.slice A2 ll c2) rfl (HE4 _) (fun w' hS => ?_) ?_
     ·clear hS;go_simp
     try go_simp
     refine tkS 7 (.agg #[.int .i64 (t1 : Int), .string PB1]) rfl (HE4 _) (fun w' hS => ?_) ?_
     ·clear hS;go_simp
     try go_simp
     refine tkS 8 (.int .i64 0) rfl (HE4 _) (fun w' hS => ?_) ?_
     ·clear hS;go_simp
     try go_simp
     refine tkS 9 (.pointer (some ⟨H7 + 1,2,none⟩)) rfl (HE4 _) (fun w' hS => ?_) ?_
     ·clear hS;go_simp
     try go_simp
     have d2 := HB94.out.cell 2
     have q2 := HB94.out.frozen 2
     have e0 := HB114.out.cell 0
     have e1 := HB114.out.cell 1
     have f0 := HB114.out.frozen 0
     have f1 := HB114.out.frozen 1
     simp at d2 e0 e1
     have l9 := HB94.out.lt
     have l11 := HB114.out.lt
     have hne : H7 + 1 ≠ H11 := by have := HORD.out;omega
     have hne2 : H11 ≠ H7 + 1 := Ne.symm hne
     refine wpAnyS_all (rs := [10]) (by kernel_rfl) (by simp) ?_
     intro ix hix
     simp only [List.mem_cons,List.not_mem_nil,or_false] at hix
     subst hix
     unfold wpOp
     go_simp
     have hB95 := HB94.out.set 2 (.slice A2 ll c2)
     have hB115 : Blk (W4.setCell ⟨H7 + 1,2,none⟩ (.slice A2 ll c2)) H11 #[.int .i64 (tl : Int), .string PB] 104 := (Below.heap_setCell _ _ _ _ (by simp only;omega)).trans HB114.out
     have HE5 : ∀ L : Array Bool,HeldS 11 (fun w' => w'.cell? ⟨H7 + 1,1,none⟩ = some (.int .i64 (dl : Int))) (fun w' => Blk w' H11 #[.int .i64 (tl : Int), .string PB] 104) L (W4.setCell ⟨H7 + 1,2,none⟩ (.slice A2 ll c2)) := fun L => ⟨by have q := hB95.cell 1;simp at q;exact q,fun _ => hB115⟩
     first | refine .inl ⟨HE5 _, ?_⟩ | refine ⟨HE5 _, ?_⟩
     refine wpAnyS_all (rs := [11]) (by kernel_rfl) (by simp) ?_
     intro ix hix
     simp only [List.mem_cons,List.not_mem_nil,or_false] at hix
     subst hix
     unfold wpOp
     go_simp
     have hB96 : Blk (((W4.setCell ⟨H7 + 1,2,none⟩ (.slice A2 ll c2)).setCell ⟨H11,0,none⟩ (.int .i64 (t1 : Int))).setCell ⟨H11,1,none⟩ (.string PB1)) (H7 + 1) #[.int .i64 (i : Int), .int .i64 (dl : Int), .slice A2 ll c2] 97 := (Below.heap_setCell _ _ _ _ (by simp only;omega)).trans ((Below.heap_setCell _ _ _ _ (by simp only;omega)).trans hB95)
     have hB116 := (hB115.set 0 (.int .i64 (t1 : Int))).set 1 (.string PB1)
     have hb6 := below_set (below_set (below_set (HBW3.out.trans (HB34.out.mono HBW3.out.size)) (H7 + 1) 2 (.slice A2 ll c2) (by have := HORD.out;omega)) H11 0 (.int .i64 (t1 : Int)) (by have := HORD.out;omega)) H11 1 (.string PB1) (by have := HORD.out;omega)
     have hB76 := ((HB73.out.below HB34.out).grown (grown_set W4 (H7 + 1) 2 (.slice A2 ll c2)) (by simp)).grown (grown_set2 (W4.setCell ⟨H7 + 1,2,none⟩ (.slice A2 ll c2)) H11 0 1 (.int .i64 (t1 : Int)) (.string PB1)) (by have := HORD.out;simp;omega)
     have HB96 := Lib.hid hB96
     have HB76 := Lib.hid hB76
     have HB116 := Lib.hid hB116
     have HB6 := Lib.hid hb6
     have hz6 := hb6.size
     have hE6 := hB96.cell 1
     simp at hE6
     have hL4 := HL.out
     obtain ⟨hL51,hL52⟩ := hL4.1.grown hL4.2.1 (grown_set W4 (H7 + 1) 2 (.slice A2 ll c2)) (fun g e => by cases e;exact ⟨_,97,_,HB94.out,by decide⟩)
     obtain ⟨hL61,hL62⟩ := hL51.grown hL52 (grown_set2 (W4.setCell ⟨H7 + 1,2,none⟩ (.slice A2 ll c2)) H11 0 1 (.int .i64 (t1 : Int)) (.string PB1)) (fun g e => by cases e;exact ⟨_,104,_,hB115,by decide⟩)
     have HL6 := Lib.hid (show Lies (((W4.setCell ⟨H7 + 1,2,none⟩ (.slice A2 ll c2)).setCell ⟨H11,0,none⟩ (.int .i64 (t1 : Int))).setCell ⟨H11,1,none⟩ (.string PB1)) A2 (ecells l) ∧ Typed (((W4.setCell ⟨H7 + 1,2,none⟩ (.slice A2 ll c2)).setCell ⟨H11,0,none⟩ (.int .i64 (t1 : Int))).setCell ⟨H11,1,none⟩ (.string PB1)) A2 172 from ⟨hL61,hL62⟩)
     clear hL4 hL51 hL52 hL61 hL62
     obtain ⟨W6,hW6⟩ : ∃ q,((W4.setCell ⟨H7 + 1,2,none⟩ (.slice A2 ll c2)).setCell ⟨H11,0,none⟩ (.int .i64 (t1 : Int))).setCell ⟨H11,1,none⟩ (.string PB1) = q := ⟨_,rfl⟩
     rw [hW6] at HL6
     rw [hW6] at HB96 HB76 HB116 HB6 hz6
     try simp only [hW6] at hE6
     have HE6 : ∀ L : Array Bool,L.getD 11 false = true → HeldS 11 (fun w' => w'.cell? ⟨H7 + 1,1,none⟩ = some (.int .i64 (dl : Int))) (fun w' => Blk w' H11 #[.int .i64 (tl : Int), .string PB] 104) L W6 := fun L hL => ⟨by have q := HB96.out.cell 1;simp at q;exact q,fun e => by rw [hL] at e;cases e⟩
     rw [hW6]
     clear hB95 hB115 HE5 hB76 hB96 hB116 hb6 hE6 hW6 d2 q2 e0 e1 f0 f1 l9 l11 hne hne2
     first | refine .inl ⟨HE6 _ (by kernel_rfl), ?_⟩ | refine ⟨HE6 _ (by kernel_rfl), ?_⟩
     refine wpAnyS_all (rs := [12]) (by kernel_rfl) (by simp) ?_
     intro ix hix
     simp only [List.mem_cons,List.not_mem_nil,or_false] at hix
     subst hix
     unfold wpOp
     go_simp
     first | refine .inl ⟨HE6 _ (by kernel_rfl), ?_⟩ | refine ⟨HE6 _ (by kernel_rfl), ?_⟩ | refine .inl ?_ | skip
     refine wpAnyS_done (by kernel_rfl) ?_ _
     clear HE4 HE6
     have k0 := HB116.out.cell 0
     have k1 := HB116.out.cell 1
     have k2 := HB76.out.cell 2
     simp at k0 k1 k2
     have l11 := HB116.out.lt
     have KG6 := KG W6 (HLA.out.below (Nat.le_refl _) HB6.out)
     have HK := Lib.hid (And.intro k0 (And.intro k1 (And.intro k2 l11)))
     clear KG hz6
     cases htn : turnS false T1 (oldX m.F name) with
     | none =>
      rw [htn] at KG6
      unfold turnV at KG6
      dsimp only at KG6
      have HE : P = (14,none) := by rw [← HP.out,HX.out,HI.out];simp only [HKN.out,HTK.out,htn]
      subst HE
      clear htn KS HK
      go_wp2_with (first | (go_at_call 54;refine KG6.mono ?_;rintro e W7 ⟨rfl,hb7⟩;have hB7x := HB116.out.below hb7;have f0 := hB7x.frozen 0;have f1 := hB7x.frozen 1;have g0 := hB7x.cell 0;have g1 := hB7x.cell 1;simp at g0 g1;have l12 := hB7x.lt;have HB7 := Lib.hid hb7;clear hb7 hB7x k0 k1 k2 l11))
      go_ret
      have hbF := below_set (below_set (HB6.out.trans (HB7.out.mono HB6.out.size)) H11 0 (.int .i64 0) (by have := HORD.out;omega)) H11 1 (.string ⟨#[]⟩) (by have := HORD.out;omega)
      exact ⟨fun _ => ⟨rfl,hbF,HST.out.below hbF⟩,fun T2 f h => by cases h⟩
     | some T2 =>
      rw [htn] at KG6
      unfold turnV spv at KG6
      dsimp only at KG6
      have HE : P = (0,some (T2,⟨name,i,data.length,l⟩)) := by rw [← HP.out,HX.out,HI.out];simp only [HKN.out,HTK.out,htn]
      subst HE
      have HT2 := Lib.hid (turnS_len _ _ _ _ htn)
      obtain ⟨t2,ht2⟩ : ∃ q,T2.length = q := ⟨_,rfl⟩
      obtain ⟨PB2,hPB2⟩ : ∃ q,mk (packB T2) = q := ⟨_,rfl⟩
      rw [ht2,hPB2] at KG6
      have HT2L := Lib.hid (And.intro ht2 hPB2)
      clear htn HK ht2 hPB2
      go_upto_region 19 with (first | (go_at_call 54;refine KG6.mono ?_;rintro e W7 ⟨rfl,hb7⟩;have hB7x := HB116.out.below hb7;have f0 := hB7x.frozen 0;have f1 := hB7x.frozen 1;have g0 := hB7x.cell 0;have g1 := hB7x.cell 1;simp at g0 g1;have l12 := hB7x.lt;have HB7 := Lib.hid hb7;clear hb7 hB7x k0 k1 k2 l11))
      have hB118 := ((HB116.out.below HB7.out).set 0 (.int .i64 (t2 : Int))).set 1 (.string PB2)
      have hB98 : Blk ((W7.setCell ⟨H11,0,none⟩ (.int .i64 (t2 : Int))).setCell ⟨H11,1,none⟩ (.string PB2)) (H7 + 1) #[.int .i64 (i : Int), .int .i64 (dl : Int), .slice A2 ll c2] 97 := (HB96.out.below HB7.out).grown (grown_set2 W7 H11 0 1 _ _) (by have := HORD.out;simp;omega)
      have hb8 := below_set (below_set (HB6.out.trans (HB7.out.mono HB6.out.size)) H11 0 (.int .i64 (t2 : Int)) (by have := HORD.out;omega)) H11 1 (.string PB2) (by have := HORD.out;omega)
      obtain ⟨hL81,hL82⟩ := (HL6.out.1.below (Nat.le_refl _) HB7.out).grown (HL6.out.2.below HB7.out) (grown_set2 W7 H11 0 1 (.int .i64 (t2 : Int)) (.string PB2)) (fun g e => by cases e;exact ⟨_,104,_,HB116.out.below HB7.out,by decide⟩)
      obtain ⟨W8,hW8⟩ : ∃ q,(W7.setCell ⟨H11,0,none⟩ (.int .i64 (t2 : Int))).setCell ⟨H11,1,none⟩ (.string PB2) = q := ⟨_,rfl⟩
      rw [hW8] at hB118 hB98 hb8 hL81 hL82 ⊢
      have HL8 := Lib.hid (And.intro hL81 hL82)
      have HB8 := Lib.hid hb8
      have HBX8 := Lib.hid (And.intro hB98 hB118)
      clear hW8 hB118 hB98 hb8 hL81 hL82 f0 f1 g0 g1 l12 KG6
      refine wp_region_held (S := fun w' => Blk w' (H7 + 1) #[.int .i64 (i : Int), .int .i64 (dl : Int), .slice A2 ll c2] 97 ∧ Blk w' H11 #[.int .i64 (t2 : Int), .string PB2] 104) mixed ?_
      change wpAnyH _ _ _ _ _ _ _ _ W8.drew
      have hS1 : Blk W8.drew (H7 + 1) #[.int .i64 (i : Int), .int .i64 (dl : Int), .slice A2 ll c2] 97 ∧ Blk W8.drew H11 #[.int .i64 (t2 : Int), .string PB2] 104 := HBX8.out
      have hbd : Below w.heap.size w W8.drew := HB8.out.drew
      have hLd : Lies W8.drew A2 (ecells l) ∧ Typed W8.drew A2 172 := HL8.out
      obtain ⟨WA,hWA⟩ : ∃ q,W8.drew = q := ⟨_,rfl⟩
      rw [hWA] at hS1 hbd hLd ⊢
      clear hWA
      have HBD := Lib.hid hbd
      have HLD := Lib.hid hLd
      have hst8 := HST.out.below hbd
      have x5 := hst8.blk.cell 5
      simp at x5
      have HST8 := Lib.hid hst8
      have KSA := KS WA x5 (by exact HLD.out.1)
      clear hbd hLd hst8 x5 KS
      refine tkQ 0 (.pointer (some ⟨S,0,none⟩)) rfl hS1 ?_
      try go_simp
      refine tkQ 1 (.string NM) rfl hS1 ?_
      try go_simp
      refine tkH 2 (.agg #[.int .i64 (i : Int), .int .i64 (dl : Int), .slice A2 ll c2]) rfl hS1 (fun w' hS => ?_) ?_
      ·have q0 := hS.1.cell 0;have q1 := hS.1.cell 1;have q2 := hS.1.cell 2;simp at q0 q1 q2;go_simp
      try go_simp
      refine tkH 3 (.agg #[.int .i64 (t2 : Int), .string PB2]) rfl hS1 (fun w' hS => ?_) ?_
      ·have q0 := hS.2.cell 0;have q1 := hS.2.cell 1;simp at q0 q1;go_simp
      try go_simp
      refine tkQ 4 (.pointer (some ⟨S,0,none⟩)) rfl hS1 ?_
      try go_simp
      refine tkQ 5 (.pointer (some ⟨H7 + 1,2,none⟩)) rfl hS1 ?_
      try go_simp
      refine tkH 6 (.slice A2 ll c2) rfl hS1 (fun w' hS => ?_) ?_
      ·have q2 := hS.1.cell 2;simp at q2;go_simp
      try go_simp
      refine tkQ 8 (.string DT) rfl hS1 ?_
      try go_simp
      refine wpAnyH_all (rs := [7]) (by kernel_rfl) (by simp) ?_
      intro ix hix
      simp only [List.mem_cons,List.not_mem_nil,or_false] at hix
      subst hix
      unfold wpOp
      go_simp
      refine .inl ?_
      go_at_call 56
      refine KSA.mono ?_
      rintro e W9 ⟨⟨A3,c3,rfl,hrow⟩,hb9⟩
      have hS2 : Blk W9 (H7 + 1) #[.int .i64 (i : Int), .int .i64 (dl : Int), .slice A2 ll c2] 97 ∧ Blk W9 H11 #[.int .i64 (t2 : Int), .string PB2] 104 := ⟨hS1.1.below hb9,hS1.2.below hb9⟩
      refine ⟨hS2, ?_⟩
      try go_simp
      have HB9W := Lib.hid (HBD.out.trans (hb9.mono HBD.out.size))
      have HL9 := Lib.hid (And.intro (HLD.out.1.below (Nat.le_refl _) hb9) (HLD.out.2.below hb9))
      have hA3 : ∀ g,A3 = some g → WA.heap.size ≤ g.block := fun g hg => own_ge hrow g hg
      have KP := put_any' X S D Lg M m ⟨name,i,data.length,l⟩ A2 c2 T2 A3 c3 (secL (m.most + 7) l) data W9 (HST8.out.below hb9) HL9.out.1 HL9.out.2 (fun g hg hx => by have q1 := HL.out.2.2 g hg;have q2 := HSLT.out _ (List.mem_cons_of_mem _ (List.mem_cons_of_mem _ hx));have q3 := HW0S.out;have q4 := HBW3.out.size;omega) (Lies.of_row hrow) (fun g hg hx => by have q1 := hA3 g hg;have q2 := HSLT.out _ (List.mem_cons_of_mem _ (List.mem_cons_of_mem _ hx));have q4 := HBD.out.size;omega) (put_secs HBB.out HFACT.out.2.1) (by rw [secL_length,HFACT.out.2.2.2, ← HKN.out,HDL.out];unfold needsN;omega) (by rw [HDL.out];omega) (by rw [HT2.out,HFACT.out.2.2.1]) (by rw [HT2.out,HFACT.out.2.2.1];exact HTL.out) HII.out HGL.out (by show data.length ≤ _;rw [HDL.out];omega) (by have := HFACT.out.1;show l.length ≤ _;omega) (fun x hx => by have := (HFACT.out.2.1 x hx).2.1;have := HTL.out;omega) (bodyB_len _ _ _ HGL.out (by show data.length ≤ _;rw [HDL.out];omega) HFACT.out.1 (fun x hx => by have := (HFACT.out.2.1 x hx).2.1;have := HTL.out;omega)) HBB.out.len HBB.out.mo (by have := HBB.out.ll;omega) (by have := HBB.out.sl;omega)
      unfold spv at KP
      dsimp only at KP
      have hll2 := HLL.out
      have ht2l := HT2L.out
      have hnm := HNM.out
      have hdt := HDT.out
      have hdl2 := HDL.out
      rw [hll2,ht2l.1,ht2l.2,hnm,hdt,hdl2] at KP
      clear hll2 ht2l hnm hdt hdl2 hrow hA3 KSA hb9 hS1
      refine wpAnyH_all (rs := [9]) (by kernel_rfl) (by simp) ?_
      intro ix hix
      simp only [List.mem_cons,List.not_mem_nil,or_false] at hix
      subst hix
      unfold wpOp
      go_simp
      refine .inl ?_
      go_at_call 55
      refine KP.mono ?_
      intro e W10 hp
      have HPP := Lib.hid hp
      obtain ⟨rfl,X1,hM,_⟩ := hp
      have hS3 : Blk W10 (H7 + 1) #[.int .i64 (i : Int), .int .i64 (dl : Int), .slice A2 ll c2] 97 ∧ Blk W10 H11 #[.int .i64 (t2 : Int), .string PB2] 104 := ⟨hM.blk hS2.1 (fun hx => by have := HSLT.out _ hx;have := HORD.out;omega),hM.blk hS2.2 (fun hx => by have := HSLT.out _ hx;have := HORD.out;omega)⟩
      refine ⟨hS3, ?_⟩
      try go_simp
      clear hS2 KP hM
      refine wpAnyH_all (rs := [10]) (by kernel_rfl) (by simp) ?_
      intro ix hix
      simp only [List.mem_cons,List.not_mem_nil,or_false] at hix
      subst hix
      unfold wpOp
      go_simp
      first | refine .inl ⟨hS3, ?_⟩ | refine ⟨hS3, ?_⟩ | refine .inl ?_ | skip
      refine wpAnyH_done (by kernel_rfl) ?_ _
      clear hS3
      go_wp2
      go_ret
      exact ⟨fun h => by (cases h),fun T2' f' h => by (cases h;have q := HPP.out.from HB9W.out;have hd := HDL.out;subst hd;exact q)⟩
open Go.RowKit Go.Maps
def sizeW (F : List FileM) (name : Bs) : Nat := if goodF name then ((fileOf F name).map (·.size)).getD 0 else 0
theorem findV_form (ad : AdM) (F : List FileM) (name : Bs) : ∃ (a : Int) (A : Option Addr) (k c : Nat),findV ad F name = .agg #[.int .i64 a, .int .i64 (sizeW F name : Nat), .slice A k c] := by
 unfold findV sizeW
 split
 ·cases hf : fileOf F name with
  | none => exact ⟨0,none,0,0,rfl⟩
  | some f => exact ⟨f.entry,_,_,_,rfl⟩
 ·exact ⟨0,none,0,0,rfl⟩
set_option maxRecDepth 100000 in
set_option maxHeartbeats 2000000 in
theorem fsize_any (X : List Nat) (S D Lg M : Nat) (m : StoM) (name : Bs) (w : World) (h : Sto w X S D Lg M m) (h1 : m.off = false) (h2 : m.ds.off = false) (hn : name.length ≤ maxLen) :
  Calls Tryz.prog 32 #[.pointer (some ⟨S,0,none⟩), .string (mk name)] w fun e w' => e = .returned (.tuple #[.int .i64 (sizeW m.F name : Nat), .int .i64 (findE m.F name : Nat)]) ∧ Below w.heap.size w w' := by
 obtain ⟨ad,hFM,hEX⟩ := h.map
 have KF := find_ok X S D Lg M m ad name w h hFM h1 h2 hn
 obtain ⟨a,A,k,c,hv⟩ := findV_form ad m.F name
 rw [hv] at KF
 obtain ⟨NM,hNM⟩ : ∃ q,mk name = q := ⟨_,rfl⟩
 obtain ⟨z,hz⟩ : ∃ q,sizeW m.F name = q := ⟨_,rfl⟩
 obtain ⟨N,hN⟩ : ∃ q,findE m.F name = q := ⟨_,rfl⟩
 rw [hNM,hz,hN] at KF
 rw [hNM,hz,hN]
 clear h h1 h2 hn hFM hEX hv hNM hz hN
 go_enter Tryz.func32,Tryz.ntmps32
 go_wp2_with (first | (go_at_call 50;refine KF.mono ?_;rintro e w1 ⟨rfl,hb1⟩;have HB1 := Lib.hid hb1;clear hb1))
 go_ret2
 exact ⟨rfl,HB1.out.alloc HB1.out.size _⟩
theorem FM.keys {w : World} {M : Nat} {F : List FileM} {Dm : DataW Value} (hown : w.ownsMap Tryz.prog 9 rawE M F.length Dm) (hnd : (F.map (·.name)).Nodup) (hh : ∀ t : Bs,Maps.has Dm (.string t) = (fileOf F t).isSome) (ss : List Bs) (hs : ss.Perm (strKeys Dm)) :
  ss.mergeSort leB = (F.map (·.name)).mergeSort leB := by
 have hm : ∀ x,x ∈ F.map (·.name) ↔ (fileOf F x).isSome = true := fun x => by
  constructor
  ·intro hx
   obtain ⟨f,hf,rfl⟩ := List.mem_map.1 hx
   cases hc : fileOf F f.name with
   | some g => rfl
   | none => exact absurd rfl (fileOf_none.1 hc f hf)
  ·intro hx
   obtain ⟨f,hf⟩ := Option.isSome_iff_exists.1 hx
   exact List.mem_map.2 ⟨f,fileOf_mem hf,fileOf_name hf⟩
 have h1 : (F.map (·.name)).Perm (strKeys Dm) := Collected.perm (left := fun _ => false) ⟨hnd,fun x => by
  rw [hh x,hm x];simp⟩ hown keyLaw9 Tryz.underlying9 (fun _ => rfl)
 exact mergeSort_of_perm (hs.trans h1.symm)
theorem own_low {w : World} {B B' e s n : Nat} {v : Value} {xs : List Value} (h : w.ownsRow B e s v n xs) (hB : B' ≤ B) : w.ownsRow B' e s v n xs := by
 refine ⟨h.1,h.2.imp id ?_⟩
 rintro ⟨g,cap,cur,h1,h2,h3⟩
 exact ⟨g,cap,cur,h1,by omega,h3⟩
def namesS (F : List FileM) : List Bs := (F.map (·.name)).mergeSort leB
set_option maxRecDepth 100000 in
set_option maxHeartbeats 2000000 in
theorem fnames_any (X : List Nat) (S D Lg M : Nat) (m : StoM) (w : World) (h : Sto w X S D Lg M m) (hF : m.F.length ≤ 1000) :
  Calls Tryz.prog 40 #[.pointer (some ⟨S,0,none⟩)] w fun e w' => ∃ A c,e = .returned (.slice A (namesS m.F).length c) ∧ w'.ownsRow w.heap.size 9 1 (.slice A (namesS m.F).length c) (namesS m.F).length ((namesS m.F).map encStr) ∧ Below w.heap.size w w' := by
 obtain ⟨ad,⟨Dm,hown,hnd,hsz,hat⟩,_⟩ := h.map
 have x4 := h.blk.cell 4
 simp only [stoCells] at x4
 simp at x4
 have hSl := h.blk.lt
 have KK := callsIn_wide.1 (Tryz.maps_Keys_52 (some M) w)
 have KS := callsIn_wide.1 (Tryz.slices_Sorted_keys_51_52 M m.F.length Dm rawE w hown (by rw [hsz];unfold maxLen;omega) (by omega))
 have hk := fun ss hs => FM.keys hown hnd (fun t => (hat t).1) ss hs
 have HK := Lib.hid hk
 clear h hF hown hnd hsz hat hk
 go_enter Tryz.func40,Tryz.ntmps40
 go_wp2_with (first
  | (go_at_call 86;refine KK.mono ?_;rintro e w1 ⟨rfl,rfl⟩)
  | (go_at_call 85;refine KS.mono ?_;rintro e w2 ⟨v,ss,rfl,hp,hrow,_,hb⟩;have HR := Lib.hid (And.intro hp (And.intro hrow hb));clear hp hrow hb))
 go_ret
 obtain ⟨hp,hrow,hb⟩ := HR.out
 have hkk := HK.out ss hp
 unfold leB at hkk
 have hlen : ss.length = (namesS m.F).length := by
  have := congrArg List.length hkk
  rw [List.length_mergeSort] at this
  rw [this];rfl
 rw [hkk,hlen] at hrow
 obtain ⟨A,c,rfl⟩ := row_form hrow
 exact ⟨A,c,rfl,own_low hrow (by simp),(below_alloc w _).trans (hb.mono (by simp))⟩
open Go.RowKit Go.Maps
theorem Lies.others {w w' : World} {b : Nat} {A : Option Addr} {xs : List Value} {e t : TypeId} {cs : Array Value} (h : Lies w A xs) (ht : Typed w A e) (he : e ≠ 5) (ho : Others b w w') (hs : w.heap.size ≤ w'.heap.size) (hb : ∃ fr,w.heap[b]? = some (.cells cs t fr)) (hte : t ≠ e) : Lies w' A xs ∧ Typed w' A e := by
 have hne : ∀ a,A = some a → a.block ≠ b := fun a ha hx => by
  obtain ⟨cs,fr,hc⟩ := ht a ha
  obtain ⟨fr',h1⟩ := hb
  rw [hx,h1] at hc
  simp only [Option.some.injEq,Obj.cells.injEq] at hc
  exact hte hc.2.1
 have hk : ∀ a,A = some a → w'.heap[a.block]? = w.heap[a.block]? := fun a ha => by
  obtain ⟨cs,fr,hc⟩ := ht a ha
  rw [hc]
  exact ho a.block cs e fr he (hne a ha) hc
 refine ⟨fun h0 => ?_,fun a ha => ?_⟩
 ·obtain ⟨g,o,rfl,hl,hc⟩ := h h0
  exact ⟨g,o,rfl,Nat.lt_of_lt_of_le hl hs,fun j u hu => (World.cell?_of_block (a := ⟨g,o + j,none⟩) (hk ⟨g,o,none⟩ rfl)).trans (hc j u hu)⟩
 ·obtain ⟨cs,fr,hc⟩ := ht a ha
  exact ⟨cs,fr,(hk a ha).trans hc⟩
def secsB (v : List Bs) (l : List Nat) : Bs := l.flatMap fun i => secAt v i
theorem secsB_len {d : DS} (h : DGood d) : ∀ l : List Nat,(∀ i ∈ l,i < d.L.length) → (secsB d.vis l).length = 512 * l.length := by
 intro l
 induction l with
 | nil => intro _;rfl
 | cons i l ih =>
  intro hl
  have h1 := ih (fun j hj => hl j (List.mem_cons_of_mem _ hj))
  have h2 := vis_sec h i (hl i (List.mem_cons_self ..))
  unfold secsB at h1 ⊢
  rw [List.flatMap_cons,List.length_append,h1,h2,List.length_cons]
  omega
def readF (m : StoM) (f : FileM) : Bs := (secsB m.ds.vis (secL (m.most + 7) f.ext)).take f.size
def readW (m : StoM) (name : Bs) : Bs := if goodF name then ((fileOf m.F name).map (readF m)).getD [] else []
theorem isb_blk {B b : Nat} {bs : List Value} {w : World} (h : Lib.IsBuilder 153 5 B b bs w) : ∃ cs fr,w.heap[b]? = some (.cells cs 153 fr) := by
 rcases h with ⟨_,v,h,_⟩ | ⟨_,v,h,_⟩ <;> exact ⟨_,_,h⟩
set_option maxRecDepth 100000 in
set_option maxHeartbeats 4000000 in
theorem fread_any (X : List Nat) (S D Lg M : Nat) (m : StoM) (name : Bs) (w : World) (h : Sto w X S D Lg M m) (hb : StoB m) (h1 : m.off = false) (h2 : m.ds.off = false) (hn : name.length ≤ maxLen)
  (hz : ∀ f ∈ m.F,f.size ≤ 512 * sumN f.ext) (hs : ∀ f ∈ m.F,sumN f.ext ≤ 4096) :
  Calls Tryz.prog 37 #[.pointer (some ⟨S,0,none⟩), .string (mk name)] w fun e w' => e = .returned (.tuple #[.string (mk (readW m name)), .int .i64 (findE m.F name : Nat)]) ∧ Below w.heap.size w w' := by
 obtain ⟨ad,hFM,hEX⟩ := h.map
 have KF := find_ok X S D Lg M m ad name w h hFM h1 h2 hn
 by_cases hE : findE m.F name = 0
 case neg =>
  have hR : readW m name = [] := by
   unfold readW
   unfold findE at hE
   split
   ·rename_i hg
    rw [if_pos hg] at hE
    cases hc : fileOf m.F name with
    | none => rfl
    | some f => rw [hc] at hE;exact absurd rfl hE
   ·rfl
  have hN : findE m.F name = 9 ∨ findE m.F name = 11 := by
   unfold findE at hE ⊢
   split <;> simp_all
  rw [hR]
  obtain ⟨a,A,k,c,hv⟩ := findV_form ad m.F name
  rw [hv] at KF
  obtain ⟨NM,hNM⟩ : ∃ q,mk name = q := ⟨_,rfl⟩
  obtain ⟨z,hzz⟩ : ∃ q,sizeW m.F name = q := ⟨_,rfl⟩
  obtain ⟨N,hNN⟩ : ∃ q,findE m.F name = q := ⟨_,rfl⟩
  rw [hNM,hzz,hNN] at KF
  rw [hNM,hNN]
  rw [hNN] at hN
  clear h hb h1 h2 hn hFM hEX hv hNM hzz hNN hz hs hE hR
  rcases hN with rfl | rfl
  all_goals
   go_enter Tryz.func37,Tryz.ntmps37
   go_wp2_with (first | (go_at_call 50;refine KF.mono ?_;rintro e w1 ⟨rfl,hb1⟩;have HB1 := Lib.hid hb1;clear hb1))
   go_ret2
   exact ⟨rfl,HB1.out.alloc HB1.out.size _⟩
 case pos =>
  obtain ⟨f,hf,hg⟩ : ∃ f,fileOf m.F name = some f ∧ goodF name = true := by
   unfold findE at hE
   split at hE
   ·rename_i hg
    cases hc : fileOf m.F name with
    | none => rw [hc] at hE;simp at hE
    | some f => exact ⟨f,rfl,hg⟩
   ·cases hE
  have hR : readW m name = readF m f := by unfold readW;rw [if_pos hg,hf];rfl
  have hV : findV ad m.F name = inoV ad f := by unfold findV;rw [if_pos hg,hf];rfl
  have hfm := fileOf_mem hf
  have hfn := fileOf_name hf
  rw [hE,hV] at KF
  rw [hE,hR]
  obtain ⟨hx1,hx2,_⟩ := hEX f hfm
  unfold inoV at KF
  obtain ⟨⟨A,c⟩,hA⟩ : ∃ q,ad f.name = q := ⟨_,rfl⟩
  rw [hA] at KF hx1 hx2
  dsimp only at KF hx1 hx2
  have hexb := hb.exb f hfm
  have hexl := hb.exl f hfm
  have hfs := hz f hfm
  have hfs2 := hs f hfm
  have KS := fun (w5 : World) hS hA => sectors_any S m.most A c f.ext w5 hS (by have := hb.mo;omega) hA (by omega) (fun x hx => by have := hexb x hx;have := hb.tl;omega) (by rw [secL_length];omega)
  have hin : ∀ i ∈ secL (m.most + 7) f.ext,i < m.ds.L.length := fun i hi => by
   obtain ⟨x,hx,h1,h2⟩ := secL_mem hi
   have := hexb x hx
   have := hb.ll
   omega
  have hLl := secL_length (m.most + 7) f.ext
  have hBl := secsB_len h.dsk.good _ hin
  have KR := fun (i : Nat) (w5 : World) (hw : Sto w5 X S D Lg M m) (hi : i < m.ds.L.length) => read_any X D m.ds i w5 hw.dsk hi h2
  have hRF : readF m f = (secsB m.ds.vis (secL (m.most + 7) f.ext)).take f.size := rfl
  have hgd := h.dsk.good
  obtain ⟨l,hl⟩ : ∃ q,secL (m.most + 7) f.ext = q := ⟨_,rfl⟩
  rw [hl] at hin hLl hBl hRF
  simp only [hl] at KS
  obtain ⟨xl,hxl⟩ : ∃ q,f.ext.length = q := ⟨_,rfl⟩
  rw [hxl] at KF
  simp only [hxl] at KS
  obtain ⟨n,hnl⟩ : ∃ q,l.length = q := ⟨_,rfl⟩
  rw [hnl] at hLl hBl
  simp only [hnl] at KS
  obtain ⟨sz,hsz⟩ : ∃ q,f.size = q := ⟨_,rfl⟩
  rw [hsz] at KF hfs hRF
  obtain ⟨RB,hRB⟩ : ∃ q,mk (readF m f) = q := ⟨_,rfl⟩
  rw [hRB]
  have HRB := Lib.hid (show mk ((secsB m.ds.vis l).take sz) = RB by rw [← hRF,hRB])
  obtain ⟨NM,hNM⟩ : ∃ q,mk name = q := ⟨_,rfl⟩
  rw [hNM] at KF
  rw [hNM]
  have x0 := fun w1 (hw : Sto w1 X S D Lg M m) => hw.blk.cell 0
  have x5 := fun w1 (hw : Sto w1 X S D Lg M m) => hw.blk.cell 5
  simp only [stoCells] at x0 x5
  have HX0 := Lib.hid x0
  have HX5 := Lib.hid x5
  have HST := Lib.hid h
  have HKR := Lib.hid KR
  have HIN := Lib.hid hin
  have HN := Lib.hid hnl
  have HGD := Lib.hid hgd
  have HBL := Lib.hid hBl
  have HLX := Lib.hid hx1
  have hn6 : n ≤ 4096 := by omega
  have hszn : sz ≤ 512 * n := by omega
  have mixed := mixedT
  clear h hb h1 h2 hn hz hs hFM hEX hE hf hg hR hV hfm hfn hx1 hx2 hA hexb hexl hfs hfs2 hin hLl hBl KR hRF hgd hl hxl hnl hsz hRB hNM x0 x5
  go_enter Tryz.func37,Tryz.ntmps37
  go_upto_region 5 with (first | (go_at_call 50;refine KF.mono ?_;rintro e w1 ⟨rfl,hb1⟩;have HB1 := Lib.hid hb1;clear hb1))
  have hB7 := (Blk.new w1 #[.int .i64 (f.entry : Int), .int .i64 (sz : Int), .slice A xl c] 97).alloc (.cells #[.pointer none, .slice none 0 0] 153)
  have hBu := Lib.fresh_isBuilder 153 5 (w1.alloc (.cells #[.int .i64 (f.entry : Int), .int .i64 (sz : Int), .slice A xl c] 97))
  rw [World.size_alloc] at hBu
  have hbw := (HB1.out.alloc HB1.out.size (.cells #[.int .i64 (f.entry : Int), .int .i64 (sz : Int), .slice A xl c] 97)).alloc (by have := HB1.out.size;simp;omega) (.cells #[.pointer none, .slice none 0 0] 153)
  have hH7 := HB1.out.size
  obtain ⟨H7,hH⟩ : ∃ q,w1.heap.size = q := ⟨_,rfl⟩
  have hWZ : ((w1.alloc (.cells #[.int .i64 (f.entry : Int), .int .i64 (sz : Int), .slice A xl c] 97)).alloc (.cells #[.pointer none, .slice none 0 0] 153)).heap.size = H7 + 2 := by rw [← hH];simp
  obtain ⟨W1,hW⟩ : ∃ q,(w1.alloc (.cells #[.int .i64 (f.entry : Int), .int .i64 (sz : Int), .slice A xl c] 97)).alloc (.cells #[.pointer none, .slice none 0 0] 153) = q := ⟨_,rfl⟩
  rw [hH] at hB7 hBu hH7
  simp only [hW] at hB7 hBu hbw hWZ ⊢
  try simp only [hH]
  have hst1 := HST.out.below hbw
  have y5 := HX5.out W1 hst1
  simp at y5
  have KS1 := KS W1 y5 (HLX.out.below (Nat.le_refl _) hbw)
  have y2 := hB7.cell 2
  simp at y2
  have l7 := hB7.lt
  have HB7 := Lib.hid hB7
  have HBU := Lib.hid hBu
  have HBW := Lib.hid hbw
  have HWZ := Lib.hid hWZ
  have HH7 := Lib.hid hH7
  clear hH hW hB7 hBu hbw hWZ hst1 hH7 KS y5
  go_wp2_with (first | (go_at_call 56;refine KS1.mono ?_;rintro e w2 ⟨⟨A3,c3,rfl,hrow⟩,hb2⟩;have HR2 := Lib.hid (And.intro hrow hb2);clear hrow hb2 KS1 y2 l7))
  have hrow := HR2.out.1
  have hb2 := HR2.out.2
  have hbu2 := isb_below HBU.out hb2
  have hbw2 := HBW.out.trans (hb2.mono HBW.out.size)
  have h72 : w2.cell? ⟨H7,1,none⟩ = some (.int .i64 (sz : Int)) := by
   have := (HB7.out.below hb2).cell 1
   simpa using this
  have hrow2 : Lies w2 A3 (ncells l) ∧ Typed w2 A3 3 := ⟨Lies.of_row hrow,Typed.of_row hrow⟩
  have hsz2 : H7 + 2 ≤ w2.heap.size := by rw [← HWZ.out];exact hb2.size
  have HS2 := Lib.hid (And.intro hbu2 (And.intro hbw2 (And.intro h72 (And.intro hrow2 hsz2))))
  clear hrow hb2 hbu2 hbw2 h72 hrow2 hsz2
  go_loopw [27] (fun i wr => ∃ k : Nat,k ≤ n ∧ i = .int .i64 k ∧ Lib.IsBuilder 153 5 (H7 + 1) (H7 + 1) (Lib.byteCells (secsB m.ds.vis (l.take k))) wr ∧ Below w.heap.size w wr ∧ wr.cell? ⟨H7,1,none⟩ = some (.int .i64 (sz : Int)) ∧ (Lies wr A3 (ncells l) ∧ Typed wr A3 3) ∧ H7 + 2 ≤ wr.heap.size) (fun i _ => n - (intOf i).toNat)
  case atStart => exact ⟨0,Nat.zero_le _,rfl,HS2.out.1,HS2.out.2.1,HS2.out.2.2.1,HS2.out.2.2.2.1,HS2.out.2.2.2.2⟩
  case round =>
   obtain ⟨k,hk,rfl,hbu,hB,h7,hrow,hsize⟩ := hrel
   by_cases hlt : k < n
   ·have hkl : k < l.length := by rw [HN.out];exact hlt
    obtain ⟨g,off,hA3,hgl,hcs⟩ := hrow.1 (by rw [ncells_length];omega)
    subst hA3
    have d0 := hcs k _ (ncells_at l k hkl)
    have hst := HST.out.below hB
    have e0 := HX0.out wr hst
    simp at e0
    have KR1 := HKR.out l[k] wr hst (HIN.out _ (List.getElem_mem _))
    have hsl := vis_sec HGD.out l[k] (HIN.out _ (List.getElem_mem _))
    change Calls _ _ _ _ (fun e w' => e = .returned (.tuple #[.string (mk (secAt m.ds.vis l[k])), .int .i64 0]) ∧ w' = wr) at KR1
    have hsn : secsB m.ds.vis (l.take (k + 1)) = secsB m.ds.vis (l.take k) ++ secAt m.ds.vis l[k] := by
     unfold secsB;rw [List.take_succ_eq_append_getElem hkl,List.flatMap_append,List.flatMap_cons,List.flatMap_nil,List.append_nil]
    have hTl := secsB_len HGD.out (l.take k) (fun i hi => HIN.out i (List.mem_of_mem_take hi))
    rw [List.length_take,Nat.min_eq_left (by omega)] at hTl
    obtain ⟨s,hs⟩ : ∃ q,l[k] = q := ⟨_,rfl⟩
    rw [hs] at d0 KR1 hsl hsn
    obtain ⟨x,hx⟩ : ∃ q,secAt m.ds.vis s = q := ⟨_,rfl⟩
    rw [hx] at KR1 hsl hsn
    obtain ⟨T,hT⟩ : ∃ q,secsB m.ds.vis (l.take k) = q := ⟨_,rfl⟩
    rw [hT] at hbu hsn hTl
    have zx : (mk x).size = x.length := mk_size _
    obtain ⟨XS,hXS⟩ : ∃ q,mk x = q := ⟨_,rfl⟩
    rw [hXS] at KR1 zx
    have KW := bwrite_any (H7 + 1) (H7 + 1) (Lib.byteCells T) XS wr hbu (by rw [zx,hsl];simp [Lib.byteCells];omega) (by omega)
    have HK := Lib.hid (And.intro hsn (And.intro hXS (And.intro hbu (And.intro hB (And.intro h7 (And.intro hrow hsize))))))
    have k0 : (0 : Int) ≤ (k : Int) := by omega
    have k1 : (k : Int) < (n : Int) := by omega
    clear hcs hst hsl hsn hTl hs hx hT zx hXS hbu hB h7 hrow
    go_wp2_with (first
     | (go_at_call 29;refine KR1.mono ?_;rintro e w3 ⟨rfl,hw⟩;obtain rfl := hw.symm;clear KR1)
     | (go_at_call 82;(with_reducible refine KW.mono ?_);rintro e w4 ⟨rfl,hbu4,hb4,ho4⟩;have HU := Lib.hid (And.intro hbu4 (And.intro hb4 ho4));clear KW hbu4 hb4 ho4))
    go_roundw
    case rel =>
     obtain ⟨hsn,hXS,hbu,hB,h7,hrow,hsize⟩ := HK.out
     obtain ⟨hbu4,hb4,ho4⟩ := HU.out
     have hfin : Lib.byteCells T ++ Lib.strCells XS = Lib.byteCells (secsB m.ds.vis (l.take (k + 1))) := by
      rw [hsn, ← hXS];simp [Lib.byteCells,Lib.strCells,mk_data]
     have hsz4 : wr.heap.size ≤ w4.heap.size := hb4.size
     obtain ⟨cs,hfr⟩ := isb_blk hbu
     refine ⟨k + 1,by omega,by go_num, .inr (by rw [← hfin];exact hbu4),hB.trans (hb4.mono (by have := HH7.out;omega)),(hb4.cell (p := ⟨H7,1,none⟩) (by simp)).trans h7,hrow.1.others hrow.2 (by decide) ho4 hsz4 hfr (by decide),by omega⟩
    case measure => simp [intOf];omega
   ·obtain rfl : k = n := by omega
    have e : l.take k = l := List.take_of_length_le (by rw [HN.out];exact Nat.le_refl _)
    rw [e] at hbu
    have hBl := HBL.out
    obtain ⟨D0,hD0⟩ : ∃ q,secsB m.ds.vis l = q := ⟨_,rfl⟩
    rw [hD0] at hbu hBl
    have HD0 := Lib.hid hD0
    have zD : (mk D0).size = D0.length := mk_size _
    have hsl := fun (w : World) => run_slice_string_h (P := Tryz.prog) (w := w) (t := 9) (s := mk D0) Tryz.underlying9 .i64 (sz : Int) (by omega) (by rw [zD,hBl];omega)
    have e1 : (mk D0).extract 0 (sz : Int).toNat = RB := by
     have := ext_mk' (mk D0) 0 sz
     rw [Nat.zero_add,mk_data,List.drop_zero] at this
     rw [Int.toNat_natCast,this, ← HRB.out,hD0]
    rw [e1] at hsl
    have hmkD : (⟨D0.toArray⟩ : ByteArray) = mk D0 := rfl
    obtain ⟨DS0,hDS⟩ : ∃ q,mk D0 = q := ⟨_,rfl⟩
    rw [hDS] at hsl hmkD
    have KS2 := fun (w5 : World) (hb5 : Below wr.heap.size wr w5) => Tryz.Builder_String_any (H7 + 1) (H7 + 1) D0 w5 (isb_below hbu hb5) (by have := hb5.size;omega)
    simp only [hmkD] at KS2
    have HSL := Lib.hid hsl
    have HBW2 := Lib.hid hB
    have HH7S := Lib.hid h7
    clear hbu hBl zD hsl e1 hmkD hDS hB h7 hrow e hD0
    go_upto_region 13 with (fail)
    refine wp_region_held (S := fun w' => w'.cell? ⟨H7,1,none⟩ = some (.int .i64 (sz : Int))) mixed ?_
    change wpAnyH _ _ _ _ _ _ _ _ wr.drew
    have hS0 : wr.drew.cell? ⟨H7,1,none⟩ = some (.int .i64 (sz : Int)) := HH7S.out
    have hb0 : Below wr.heap.size wr wr.drew := (Below.refl _ _).drew
    obtain ⟨W0,hW0⟩ : ∃ q,wr.drew = q := ⟨_,rfl⟩
    rw [hW0] at hS0 hb0 ⊢
    clear hW0
    refine tkQ 1 (.pointer (some ⟨H7,1,none⟩)) rfl hS0 ?_
    try go_simp
    refine tkH 2 (.int .i64 (sz : Int)) rfl hS0 (fun w' hS => ?_) ?_
    ·have q0 := hS;go_simp
    try go_simp
    refine alH 0 ?_
    unfold wpOp
    go_simp
    refine .inl ?_
    go_at_call 83
    refine (KS2 W0 hb0).mono ?_
    rintro e w1 ⟨rfl,hb1⟩
    have hS1 : w1.cell? ⟨H7,1,none⟩ = some (.int .i64 (sz : Int)) := (hb1.cell (p := ⟨H7,1,none⟩) (by simp)).trans hS0
    have HB5 := Lib.hid (And.intro hb0 hb1)
    refine ⟨hS1, ?_⟩
    try go_simp
    clear hS0 hb0 hb1 KS2
    refine alH 3 ?_
    unfold wpOp
    have hsl := HSL.out w1
    go_simp
    clear hsl
    first | refine .inl ⟨hS1, ?_⟩ | refine ⟨hS1, ?_⟩ | refine .inl ?_ | skip
    refine tkQ 4 (.string RB) rfl hS1 ?_
    try go_simp
    refine tkQ 5 (.int .i64 0) rfl hS1 ?_
    try go_simp
    refine wpAnyH_done (by kernel_rfl) ?_ _
    clear hS1
    go_wp2
    go_ret2
    exact ⟨rfl,HBW2.out.trans ((HB5.out.1.mono HBW2.out.size).trans (HB5.out.2.mono (by have := HH7.out;omega)))⟩
end Go.Proofs.YtmjdmijloanfnaaGreatDoor
