/- Packed: Ya, Yb, Yc, Yd, Ye, Yf, Yg, Yh, Yi, Gs, Pf, Pg, Tx, Ac, Yk, Yl. -/
import Derived.Test.YtcmcdddnckcpcaaGreatDoorPF1
import Derived.Test.YtcmcdddnckcpcaaGreatDoorPF5
import Derived.Test.YtcmcdddnckcpcaaGreatDoorPF4
namespace Go.Proofs.YtcmcdddnckcpcaaGreatDoor
open Go.RowKit
theorem info138 : (Tryz.prog.info? 138).map (fun i => (i.zero,i.size,i.bytes)) = some (some (.agg #[.string ⟨#[]⟩, .string ⟨#[]⟩, .slice none 0 0, .int .i64 0]),4,64) := by kernel_rfl
def fb : Option Addr → List Nat
 | some a => [a.block]
 | none => []
theorem mem_fb {A : Option Addr} {b : Nat} (h : b ∈ fb A) : ∃ a,A = some a ∧ a.block = b := by
 cases A with
 | none => cases h
 | some a => exact ⟨a,rfl,by (have e : b = a.block := by simpa [fb] using h);exact e.symm⟩
theorem RAt.setF {w w' : World} {Y : List Nat} {R : Nat} {F : List PF} {T : List Bool} {most : Nat} {aF : Option Addr} {cF : Nat} {aT : Option Addr} {cT : Nat} {G : List PG} (h : RAt w Y R F T most aF cF aT cT G)
  {G' : List PG} {a' : Option Addr} {c' : Nat} (hfr : Frm (R :: fb aF) w w') (hR : Blk w' R #[.slice a' G'.length c', .slice aT T.length cT, .int .i64 most] 130) (hrow : w'.ownsRow 0 138 4 (.slice a' G'.length c') G'.length (rcells G'))
  (hx : ∀ x ∈ G',Lies w x.2.1 (ecells x.1.ext) ∧ Typed w x.2.1 205 ∧ ∀ a,x.2.1 = some a → a.block ∈ Y) (hsrc : ∀ b ∈ fb a',b ∈ fb aF ∨ w.heap.size ≤ b) :
  ∃ Y',RSt w' Y' R (G'.map (·.1)) T most ∧ Mv (R :: Y) (R :: Y') w w' := by
 have hF138 : ∀ b ∈ fb aF, ∃ c fz,w.heap[b]? = some (.cells c 138 fz) := fun b hb => by
  obtain ⟨a,rfl,rfl⟩ := mem_fb hb
  exact row_kind h.row a.block rfl
 have hFY : ∀ b ∈ fb aF,b ∈ Y := fun b hb => by
  obtain ⟨a,rfl,rfl⟩ := mem_fb hb
  exact h.inF a rfl
 have hlt : ∀ y ∈ Y,y < w.heap.size := fun y hy => h.lt y (List.mem_cons_of_mem _ hy)
 have keepY : ∀ y ∈ Y,y ∉ fb aF → w'.heap[y]? = w.heap[y]? := fun y hy hn => hfr.block y (hlt y hy) (by
  intro hm
  rcases List.mem_cons.1 hm with rfl | hm
  ·exact h.apart hy
  ·exact hn hm)
 have notF : ∀ {A : Option Addr} {t : TypeId},Typed w A t → t ≠ 138 → ∀ a,A = some a → a.block ∉ fb aF := fun ht hne a ha hm => by
  obtain ⟨c1,f1,e1⟩ := ht a ha
  obtain ⟨c2,f2,e2⟩ := hF138 _ hm
  rw [e1] at e2
  injection e2 with e2
  injection e2 with _ e3 _
  exact hne e3
 refine ⟨fb a' ++ Y.filter (fun y => decide (y ∉ fb aF)),⟨a',c',aT,cT,G', ?_⟩,⟨⟨hfr.os,hfr.tape,hfr.output,hfr.size,fun k hk hn => hfr.block k hk (fun hm => hn (by
  rcases List.mem_cons.1 hm with rfl | hm
  ·exact List.mem_cons_self ..
  ·exact List.mem_cons_of_mem _ (hFY k hm)))⟩,fun x hx' => by
  rcases List.mem_cons.1 hx' with rfl | hx'
  ·exact .inl (List.mem_cons_self ..)
  ·rcases List.mem_append.1 hx' with h1 | h1
   ·rcases hsrc x h1 with h2 | h2
    ·exact .inl (List.mem_cons_of_mem _ (hFY x h2))
    ·exact .inr h2
   ·exact .inl (List.mem_cons_of_mem _ (List.mem_filter.1 h1).1)⟩⟩
 have inY' : ∀ {A : Option Addr} {t : TypeId},Typed w A t → t ≠ 138 → (∀ a,A = some a → a.block ∈ Y) → ∀ a,A = some a → a.block ∈ fb a' ++ Y.filter (fun y => decide (y ∉ fb aF)) := fun ht hne hin a ha =>
  List.mem_append_right _ (List.mem_filter.2 ⟨hin a ha,by simpa using notF ht hne a ha⟩)
 exact {
  files := rfl
  blk := hR
  row := hrow
  units := lies_block h.units (fun a ha => keepY _ (h.inT a ha) (notF h.utyp (by decide) a ha))
  utyp := typed_block h.utyp (fun a ha => keepY _ (h.inT a ha) (notF h.utyp (by decide) a ha))
  exts := fun x hxm => by
   obtain ⟨h1,h2,h3⟩ := hx x hxm
   exact ⟨lies_block h1 (fun a ha => keepY _ (h3 a ha) (notF h2 (by decide) a ha)),typed_block h2 (fun a ha => keepY _ (h3 a ha) (notF h2 (by decide) a ha)),inY' h2 (by decide) h3⟩
  inF := fun a ha => List.mem_append_left _ (by subst ha;exact List.mem_cons_self ..)
  inT := inY' h.utyp (by decide) h.inT
  apart := fun hm => by
   rcases List.mem_append.1 hm with h1 | h1
   ·rcases hsrc R h1 with h2 | h2
    ·exact h.apart (hFY R h2)
    ·have := h.blk.lt;omega
   ·exact h.apart (List.mem_filter.1 h1).1
  typ := fun y hy => by
   rcases List.mem_append.1 hy with h1 | h1
   ·obtain ⟨a,rfl,rfl⟩ := mem_fb h1
    obtain ⟨c,fz,e⟩ := row_kind hrow a.block rfl
    exact ⟨c,138,fz,e, .inr (.inl rfl)⟩
   ·obtain ⟨h2,h3⟩ := List.mem_filter.1 h1
    obtain ⟨cs,t,fr,h4,h5⟩ := h.typ y h2
    exact ⟨cs,t,fr,(keepY y h2 (by simpa using h3)).trans h4,h5⟩ }
theorem RAt.setT {w w' : World} {Y : List Nat} {R : Nat} {F : List PF} {T : List Bool} {most : Nat} {aF : Option Addr} {cF : Nat} {aT : Option Addr} {cT : Nat} {G : List PG} (h : RAt w Y R F T most aF cF aT cT G)
  {T' : List Bool} {a' : Option Addr} {c' : Nat} (hfr : Frm [R] w w') (hR : Blk w' R #[.slice aF G.length cF, .slice a' T'.length c', .int .i64 most] 130) (hL : Lies w' a' (tcells T')) (ht : Typed w' a' 4) (hsrc : ∀ b ∈ fb a',w.heap.size ≤ b ∨ b ∈ Y) :
  RAt w' (fb a' ++ Y) R F T' most aF cF a' c' G ∧ Mv (R :: Y) (R :: (fb a' ++ Y)) w w' := by
 have keepY : ∀ y ∈ Y,w'.heap[y]? = w.heap[y]? := fun y hy => hfr.block y (h.lt y (List.mem_cons_of_mem _ hy)) (by
  intro hm
  rcases List.mem_cons.1 hm with rfl | hm
  ·exact h.apart hy
  ·cases hm)
 refine ⟨{
  files := h.files
  blk := hR
  row := row_block h.row (fun g hg => by
   cases aF with
   | none => cases hg
   | some a => exact keepY g (by have := h.inF a rfl; have e : a.block = g := by simpa [Value.ownBlock] using hg
                                 rwa [← e]))
  units := hL
  utyp := ht
  exts := fun x hx => by
   obtain ⟨h1,h2,h3⟩ := h.exts x hx
   exact ⟨lies_block h1 (fun a ha => keepY _ (h3 a ha)),typed_block h2 (fun a ha => keepY _ (h3 a ha)),fun a ha => List.mem_append_right _ (h3 a ha)⟩
  inF := fun a ha => List.mem_append_right _ (h.inF a ha)
  inT := fun a ha => List.mem_append_left _ (by subst ha;exact List.mem_cons_self ..)
  apart := fun hm => by
   rcases List.mem_append.1 hm with h1 | h1
   ·rcases hsrc R h1 with h2 | h2
    ·have := h.blk.lt;omega
    ·exact h.apart h2
   ·exact h.apart h1
  typ := fun y hy => by
   rcases List.mem_append.1 hy with h1 | h1
   ·obtain ⟨a,rfl,rfl⟩ := mem_fb h1
    obtain ⟨c,fz,e⟩ := ht a rfl
    exact ⟨c,4,fz,e, .inr (.inr (.inl rfl))⟩
   ·obtain ⟨cs,t,fr,h4,h5⟩ := h.typ y h1
    exact ⟨cs,t,fr,(keepY y h1).trans h4,h5⟩ },⟨⟨hfr.os,hfr.tape,hfr.output,hfr.size,fun k hk hn => hfr.block k hk (fun hm => hn (by
  rcases List.mem_cons.1 hm with rfl | hm
  ·exact List.mem_cons_self ..
  ·cases hm))⟩,fun x hx' => ?_⟩⟩
 rcases List.mem_cons.1 hx' with rfl | hx'
 ·exact .inl (List.mem_cons_self ..)
 ·rcases List.mem_append.1 hx' with h1 | h1
  ·rcases hsrc x h1 with h2 | h2
   ·exact .inr h2
   ·exact .inl (List.mem_cons_of_mem _ h2)
  ·exact .inl (List.mem_cons_of_mem _ h1)
theorem RAt.more {w : World} {Y : List Nat} {R : Nat} {F : List PF} {T : List Bool} {most : Nat} {aF : Option Addr} {cF : Nat} {aT : Option Addr} {cT : Nat} {G : List PG} (h : RAt w Y R F T most aF cF aT cT G) (A : Option Addr) (t : TypeId) (ht : Typed w A t) (hok : okT t) (hne : t ≠ 130) :
  RAt w (fb A ++ Y) R F T most aF cF aT cT G where
 files := h.files
 blk := h.blk
 row := h.row
 units := h.units
 utyp := h.utyp
 exts := fun x hx => by
  obtain ⟨h1,h2,h3⟩ := h.exts x hx
  exact ⟨h1,h2,fun a ha => List.mem_append_right _ (h3 a ha)⟩
 inF := fun a ha => List.mem_append_right _ (h.inF a ha)
 inT := fun a ha => List.mem_append_right _ (h.inT a ha)
 apart := fun hm => by
  rcases List.mem_append.1 hm with h1 | h1
  ·obtain ⟨a,rfl,e⟩ := mem_fb h1
   obtain ⟨c,fz,e2⟩ := ht a rfl
   have e3 := h.blk
   unfold Blk at e3
   rw [← e,e2] at e3
   injection e3 with e3
   injection e3 with _ e4 _
   exact hne e4
  ·exact h.apart h1
 typ := fun y hy => by
  rcases List.mem_append.1 hy with h1 | h1
  ·obtain ⟨a,rfl,rfl⟩ := mem_fb h1
   obtain ⟨c,fz,e⟩ := ht a rfl
   exact ⟨c,t,fz,e,hok⟩
  ·exact h.typ y h1
set_option maxRecDepth 100000 in
set_option maxHeartbeats 4000000 in
theorem rput_new (Y : List Nat) (R : Nat) (F : List PF) (T : List Bool) (most : Nat) (x : PF) (aX : Option Addr) (cX : Nat) (w : World) (h : RSt w Y R F T most) (hX : Lies w aX (ecells x.ext) ∧ Typed w aX 205 ∧ ∀ a,aX = some a → a.block ∈ Y) (hF : F.length ≤ 1000) :
  Calls Tryz.prog 106 #[.pointer (some ⟨R,0,none⟩), .int .i64 (-1), .agg #[.string (mk x.name), .string (mk x.data), .slice aX x.ext.length cX, .int .i64 x.entry]] w fun e w' => e = .returned (.tuple #[]) ∧ ∃ Y',RSt w' Y' R (F ++ [x]) T most ∧ Mv (R :: Y) (R :: Y') w w' := by
 obtain ⟨aF,cF,aT,cT,G,h⟩ := h
 obtain ⟨i138,hi0,hi1,hi2,hi3⟩ := info_parts info138
 have hb := h.blk
 have hG : G.length = F.length := by rw [← h.files,List.length_map]
 have hBx := Blk.new w #[.string (mk x.name), .string (mk x.data), .slice aX x.ext.length cX, .int .i64 x.entry] 138
 have hbR := hb.alloc (.cells #[.string (mk x.name), .string (mk x.data), .slice aX x.ext.length cX, .int .i64 x.entry] 138)
 have hrow := World.ownsRow.alloc h.row (.cells #[.string (mk x.name), .string (mk x.data), .slice aX x.ext.length cX, .int .i64 x.entry] 138)
 have hfr : Frm (R :: fb aF) w (w.alloc (.cells #[.string (mk x.name), .string (mk x.data), .slice aX x.ext.length cX, .int .i64 x.entry] 138)) := Frm.of_below _ (below_alloc w _)
 obtain ⟨n,hn⟩ : ∃ q,G.length = q := ⟨_,rfl⟩
 obtain ⟨nt,hnt⟩ : ∃ q,T.length = q := ⟨_,rfl⟩
 obtain ⟨nx,hnx⟩ : ∃ q,x.ext.length = q := ⟨_,rfl⟩
 obtain ⟨NM,hNM⟩ : ∃ q,mk x.name = q := ⟨_,rfl⟩
 obtain ⟨DT,hDT⟩ : ∃ q,mk x.data = q := ⟨_,rfl⟩
 obtain ⟨EN,hEN⟩ : ∃ q,x.entry = q := ⟨_,rfl⟩
 have hRH := hb.lt
 obtain ⟨H,hH⟩ : ∃ q,w.heap.size = q := ⟨_,rfl⟩
 have HRC := Lib.hid (show rcell (x,aX,cX) = [.string NM, .string DT, .slice aX nx cX, .int .i64 EN] by simp only [rcell,hNM,hDT,hEN,hnx])
 have HN := Lib.hid (And.intro hn (And.intro hnt (And.intro hnx (hG.symm.trans hn))))
 simp only [hn,hnt,hnx,hNM,hDT,hEN,hH] at hb hbR hBx hrow hfr hRH ⊢
 have hWs : (w.alloc (.cells #[.string NM, .string DT, .slice aX nx cX, .int .i64 EN] 138)).heap.size = H + 1 := by simp [hH]
 obtain ⟨W,hW⟩ : ∃ q,w.alloc (.cells #[.string NM, .string DT, .slice aX nx cX, .int .i64 EN] 138) = q := ⟨_,rfl⟩
 rw [hW] at hbR hBx hrow hfr hWs
 have HA := Lib.hid h
 have HX := Lib.hid hX
 have HW := Lib.hid (And.intro hW hH)
 have HB := Lib.hid (And.intro hbR (And.intro hBx (And.intro hrow (And.intro hfr hWs))))
 have mixed := mixedT
 have hn2 : n ≤ 1000 := by omega
 clear h hX hb hbR hBx hrow hfr hW hH hn hnt hnx hNM hDT hEN hG hWs hF
 go_enter Tryz.func106,Tryz.ntmps106
 go_upto_region 2 with (fail)
 try rw [HW.out.1,HW.out.2]
 try simp only [HW.out.1,HW.out.2]
 refine wp_region_S 10 (fun _ => True) (fun w' => Blk w' R #[.slice aF n cF, .slice aT nt cT, .int .i64 most] 130 ∧ Blk w' H #[.string NM, .string DT, .slice aX nx cX, .int .i64 EN] 138) mixed ?_
 change wpAnyS _ _ _ _ _ _ _ _ _ _ W.drew
 have HD := Lib.hid (show Blk W.drew R #[.slice aF n cF, .slice aT nt cT, .int .i64 most] 130 ∧ Blk W.drew H #[.string NM, .string DT, .slice aX nx cX, .int .i64 EN] 138 ∧ W.drew.ownsRow 0 138 4 (.slice aF n cF) n (rcells G) ∧ Frm (R :: fb aF) w W.drew ∧ W.drew.heap.size = H + 1 from ⟨HB.out.1,HB.out.2.1,HB.out.2.2.1,HB.out.2.2.2.1.drew,HB.out.2.2.2.2⟩)
 obtain ⟨wd,hwd⟩ : ∃ q,W.drew = q := ⟨_,rfl⟩
 rw [hwd] at HD ⊢
 clear hwd HB
 have hE0 : ∀ L : Array Bool,HeldS 10 (fun _ => True) (fun w' => Blk w' R #[.slice aF n cF, .slice aT nt cT, .int .i64 most] 130 ∧ Blk w' H #[.string NM, .string DT, .slice aX nx cX, .int .i64 EN] 138) L wd := fun L => ⟨trivial,fun _ => ⟨HD.out.1,HD.out.2.1⟩⟩
 refine tkS 0 (.pointer (some ⟨R,0,none⟩)) rfl (hE0 _) (fun w' hS => ?_) ?_
 ·clear hS;go_simp
 try go_simp
 refine tkS 1 (.pointer (some ⟨R,0,none⟩)) rfl (hE0 _) (fun w' hS => ?_) ?_
 ·clear hS;go_simp
 try go_simp
 refine tkS 2 (.pointer (some ⟨R,0,none⟩)) rfl (hE0 _) (fun w' hS => ?_) ?_
 ·clear hS;go_simp
 try go_simp
 refine tkS 3 (.pointer (some ⟨R,0,none⟩)) rfl (hE0 _) (fun w' hS => ?_) ?_
 ·clear hS;go_simp
 try go_simp
 refine wpAnyS_take2 (i := 4) (v := .slice aF n cF) rfl (by decide) rfl (by kernel_rfl) (by kernel_rfl) (by kernel_rfl) (by kernel_rfl) (by kernel_rfl) (fun c a w h => h) (.inl ⟨by kernel_rfl,fun w' hS => ?_⟩) (hE0 _) ?_
 ·have x0 := hS.2.1.cell 0;simp at x0;go_simp
 try go_simp
 refine wpAnyS_take2 (i := 5) (v := .agg #[.string NM, .string DT, .slice aX nx cX, .int .i64 EN]) rfl (by decide) rfl (by kernel_rfl) (by kernel_rfl) (by kernel_rfl) (by kernel_rfl) (by kernel_rfl) (fun c a w h => h) (.inl ⟨by kernel_rfl,fun w' hS => ?_⟩) (hE0 _) ?_
 ·have x0 := hS.2.2.cell 0;have x1 := hS.2.2.cell 1;have x2 := hS.2.2.cell 2;have x3 := hS.2.2.cell 3;simp at x0 x1 x2 x3;go_simp
 try go_simp
 refine alS 6 ?_
 unfold wpOp
 go_simp
 have hB2 := HD.out.1.alloc (.cells #[.string NM, .string DT, .slice aX nx cX, .int .i64 EN] 138)
 have hX2 := HD.out.2.1.alloc (.cells #[.string NM, .string DT, .slice aX nx cX, .int .i64 EN] 138)
 have hr2 := World.ownsRow.alloc HD.out.2.2.1 (.cells #[.string NM, .string DT, .slice aX nx cX, .int .i64 EN] 138)
 have hf2 := HD.out.2.2.2.1.alloc (.cells #[.string NM, .string DT, .slice aX nx cX, .int .i64 EN] 138)
 have hN2 := World.news_of_block (heap_alloc_new wd (.cells #[.string NM, .string DT, .slice aX nx cX, .int .i64 EN] 138))
 have hs2 : (wd.alloc (.cells #[.string NM, .string DT, .slice aX nx cX, .int .i64 EN] 138)).heap.size = H + 2 := by simp [HD.out.2.2.2.2]
 rw [HD.out.2.2.2.2] at hN2
 obtain ⟨W2,hW2⟩ : ∃ u,wd.alloc (.cells #[.string NM, .string DT, .slice aX nx cX, .int .i64 EN] 138) = u := ⟨_,rfl⟩
 rw [hW2] at hB2 hX2 hr2 hf2 hN2 hs2
 have hsz := HD.out.2.2.2.2
 try rw [hsz]
 try simp only [hsz]
 rw [hW2]
 clear hW2 hsz hE0
 have hE2 : ∀ L : Array Bool,HeldS 10 (fun _ => True) (fun w' => Blk w' R #[.slice aF n cF, .slice aT nt cT, .int .i64 most] 130 ∧ Blk w' H #[.string NM, .string DT, .slice aX nx cX, .int .i64 EN] 138) L W2 := fun L => ⟨trivial,fun _ => ⟨hB2,hX2⟩⟩
 first | refine .inl ⟨hE2 _, ?_⟩ | refine ⟨hE2 _, ?_⟩
 refine alS 7 ?_
 refine wpOp_of rfl rfl (wp_append_lies (P := Tryz.prog) W2 (.tmp 12) (.tmp 14) 128 rfl 0 138 i138 _ 4 64 Tryz.underlying128 hi0 hi1 hi2 hi3 (by rfl) (by decide) (.slice aF n cF) n (rcells G) (by rfl) hr2 ⟨H + 1,0,none⟩ 1 1 [.string NM, .string DT, .slice aX nx cX, .int .i64 EN] (by rfl) (by rfl) hN2 (by simp [Value.oneCell']) (by omega) (by unfold maxLen;omega) (by omega) (Nat.zero_le _) (H + 2) hs2 ?_)
 intro g3 c3 W3 hr3 hg3 hat3 _
 have hneR : (Value.slice aF n cF).ownBlock ≠ some R := own_ne_blk hr2 hB2 (by decide)
 have hneH : (Value.slice aF n cF).ownBlock ≠ some H := fun e => by
  cases aF with
  | none => cases e
  | some a =>
   have e2 : a.block = H := by simpa [Value.ownBlock] using e
   have h3 := HA.out.lt a.block (List.mem_cons_of_mem _ (HA.out.inF a rfl))
   have := HW.out.2
   omega
 have hB3 := hB2.grown hg3 hneR
 have hX3 := hX2.grown hg3 hneH
 have hf3 : Frm (R :: fb aF) w W3 := ⟨hg3.os.trans hf2.os,hg3.tape.trans hf2.tape,hg3.output.trans hf2.output,Nat.le_trans hf2.size hg3.size,fun k hk hn => (hg3.block k (Nat.lt_of_lt_of_le hk hf2.size) (fun e => hn (List.mem_cons_of_mem _ (by
  cases aF with
  | none => cases e
  | some a => have e2 : k = a.block := by simpa [Value.ownBlock] using e
              rw [e2]; exact List.mem_cons_self ..)))).trans (hf2.block k hk hn)⟩
 have hat4 : ∀ b ∈ fb (some ⟨g3,0,none⟩ : Option Addr),b ∈ fb aF ∨ w.heap.size ≤ b := fun b hb => by
  have e : b = g3 := by simpa [fb] using hb
  rcases hat3 with h1 | h1
  ·left
   cases aF with
   | none => cases h1
   | some a => have e2 : a.block = g3 := by simpa [Value.ownBlock] using h1
               rw [e, ← e2]; exact List.mem_cons_self ..
  ·right;have := HW.out.2;omega
 have hE3 : ∀ L : Array Bool,HeldS 10 (fun _ => True) (fun w' => Blk w' R #[.slice aF n cF, .slice aT nt cT, .int .i64 most] 130 ∧ Blk w' H #[.string NM, .string DT, .slice aX nx cX, .int .i64 EN] 138) L W3 := fun L => ⟨trivial,fun _ => ⟨hB3,hX3⟩⟩
 have HY := Lib.hid (And.intro hr3 (And.intro hB3 (And.intro hf3 hat4)))
 clear hB2 hX2 hr2 hf2 hN2 hs2 hE2 hneR hneH hX3 hr3 hg3 hat3 hf3 hat4 hB3
 refine ⟨hE3 _, ?_⟩
 try go_simp
 refine tkS 8 (.pointer (some ⟨R,0,none⟩)) rfl (hE3 _) (fun w' hS => ?_) ?_
 ·clear hS;go_simp
 try go_simp
 refine tkS 9 (.pointer (some ⟨R,0,none⟩)) rfl (hE3 _) (fun w' hS => ?_) ?_
 ·clear hS;go_simp
 try go_simp
 refine alS 10 ?_
 have x0 := HY.out.2.1.cell 0
 have xf := HY.out.2.1.frozen 0
 have xl := HY.out.2.1.lt
 simp at x0
 unfold wpOp
 go_simp
 have hE4 : ∀ L : Array Bool,L.getD 10 false = true → HeldS 10 (fun _ => True) (fun w' => Blk w' R #[.slice aF n cF, .slice aT nt cT, .int .i64 most] 130 ∧ Blk w' H #[.string NM, .string DT, .slice aX nx cX, .int .i64 EN] 138) L (W3.setCell ⟨R,0,none⟩ (.slice (some ⟨g3,0,none⟩) (n + 1) c3)) := fun L hL => ⟨trivial,fun e => by rw [hL] at e;cases e⟩
 first | refine .inl ⟨hE4 _ (by kernel_rfl), ?_⟩ | refine ⟨hE4 _ (by kernel_rfl), ?_⟩
 refine wpAnyS_done (by kernel_rfl) ?_ _
 clear hE3 hE4 x0 xf xl
 go_wp2
 go_end0
 have hB4 := HY.out.2.1.set 0 (.slice (some ⟨g3,0,none⟩) (n + 1) c3)
 have hgl : g3 ≠ R := fun e => by
  obtain ⟨c,fz,h1⟩ := row_kind HY.out.1 g3 rfl
  have h2 := HY.out.2.1
  unfold Blk at h2
  rw [← e,h1] at h2
  injection h2 with h2
  injection h2 with _ h3 _
  exact absurd h3 (by decide)
 have hr4 := row_block HY.out.1 (w' := W3.setCell ⟨R,0,none⟩ (.slice (some ⟨g3,0,none⟩) (n + 1) c3)) (fun g hg => by
  cases hg
  exact Below.heap_setCell W3 ⟨R,0,none⟩ _ g3 hgl)
 have hf4 : Frm (R :: fb aF) w (W3.setCell ⟨R,0,none⟩ (.slice (some ⟨g3,0,none⟩) (n + 1) c3)) := ⟨HY.out.2.2.1.os,HY.out.2.2.1.tape,HY.out.2.2.1.output,by simpa using HY.out.2.2.1.size,fun k hk hn => (Below.heap_setCell W3 ⟨R,0,none⟩ _ k (fun e => hn (by rw [show k = R from e];exact List.mem_cons_self ..))).trans (HY.out.2.2.1.block k hk hn)⟩
 have hGl : (G ++ [((x,aX,cX) : PG)]).length = n + 1 := by rw [List.length_append,HN.out.1];rfl
 have hrc : rcells (G ++ [((x,aX,cX) : PG)]) = rcells G ++ [.string NM, .string DT, .slice aX nx cX, .int .i64 EN] := by rw [rcells_app, ← HRC.out];simp [rcells]
 obtain ⟨Y',h1,h2⟩ := HA.out.setF (G' := G ++ [((x,aX,cX) : PG)]) (a' := some ⟨g3,0,none⟩) (c' := c3) hf4 (by rw [hGl,HN.out.2.1];exact hB4) (by rw [hGl,hrc];exact hr4) (fun z hz => by
  rcases List.mem_append.1 hz with h | h
  ·exact HA.out.exts z h
  ·obtain rfl : z = (x,aX,cX) := by simpa using h
   exact HX.out) HY.out.2.2.2
 refine ⟨rfl,Y', ?_,h2⟩
 rw [List.map_append,HA.out.files] at h1
 exact h1
theorem rcells_set (y : PG) (a b c d : Value) (hy : rcell y = [a,b,c,d]) : ∀ (G : List PG) (i : Nat),i < G.length → ((((rcells G).set (i * 4) a).set (i * 4 + 1) b).set (i * 4 + 2) c).set (i * 4 + 3) d = rcells (G.set i y) := by
 intro G
 induction G with
 | nil => intro i h;simp at h
 | cons z G ih =>
  intro i h
  have e : ∀ (z : PG) (G : List PG),rcells (z :: G) = rcell z ++ rcells G := fun z G => by unfold rcells;rw [List.flatMap_cons]
  cases i with
  | zero =>
   rw [e,List.set_cons_zero,e,hy]
   simp [rcell]
  | succ i =>
   have h2 := ih i (by simpa using h)
   rw [e,List.set_cons_succ,e, ← h2]
   rw [show (i + 1) * 4 = (rcell z).length + i * 4 by simp [rcell];omega]
   simp only [Nat.add_assoc,List.set_append_right _ _ (Nat.le_add_right _ _),Nat.add_sub_cancel_left]
set_option maxRecDepth 100000 in
set_option maxHeartbeats 4000000 in
theorem rput_at (i : Nat) (Y : List Nat) (R : Nat) (F : List PF) (T : List Bool) (most : Nat) (x : PF) (aX : Option Addr) (cX : Nat) (w : World) (h : RSt w Y R F T most) (hX : Lies w aX (ecells x.ext) ∧ Typed w aX 205 ∧ ∀ a,aX = some a → a.block ∈ Y) (hF : F.length ≤ 1000) (hi : i < F.length) :
  Calls Tryz.prog 106 #[.pointer (some ⟨R,0,none⟩), .int .i64 i, .agg #[.string (mk x.name), .string (mk x.data), .slice aX x.ext.length cX, .int .i64 x.entry]] w fun e w' => e = .returned (.tuple #[]) ∧ ∃ Y',RSt w' Y' R (F.set i x) T most ∧ Mv (R :: Y) (R :: Y') w w' := by
 obtain ⟨aF,cF,aT,cT,G,h⟩ := h
 have hiG : i < G.length := by have := h.files;rw [← this,List.length_map] at hi;exact hi
 have hI := Lib.hid (And.intro hi hiG)
 have hb := h.blk
 have hG : G.length = F.length := by rw [← h.files,List.length_map]
 have hBx := Blk.new w #[.string (mk x.name), .string (mk x.data), .slice aX x.ext.length cX, .int .i64 x.entry] 138
 have hbR := hb.alloc (.cells #[.string (mk x.name), .string (mk x.data), .slice aX x.ext.length cX, .int .i64 x.entry] 138)
 have hrow := World.ownsRow.alloc h.row (.cells #[.string (mk x.name), .string (mk x.data), .slice aX x.ext.length cX, .int .i64 x.entry] 138)
 have hfr : Frm (R :: fb aF) w (w.alloc (.cells #[.string (mk x.name), .string (mk x.data), .slice aX x.ext.length cX, .int .i64 x.entry] 138)) := Frm.of_below _ (below_alloc w _)
 obtain ⟨n,hn⟩ : ∃ q,G.length = q := ⟨_,rfl⟩
 obtain ⟨nt,hnt⟩ : ∃ q,T.length = q := ⟨_,rfl⟩
 obtain ⟨nx,hnx⟩ : ∃ q,x.ext.length = q := ⟨_,rfl⟩
 obtain ⟨NM,hNM⟩ : ∃ q,mk x.name = q := ⟨_,rfl⟩
 obtain ⟨DT,hDT⟩ : ∃ q,mk x.data = q := ⟨_,rfl⟩
 obtain ⟨EN,hEN⟩ : ∃ q,x.entry = q := ⟨_,rfl⟩
 have hRH := hb.lt
 obtain ⟨H,hH⟩ : ∃ q,w.heap.size = q := ⟨_,rfl⟩
 have HRC := Lib.hid (show rcell (x,aX,cX) = [.string NM, .string DT, .slice aX nx cX, .int .i64 EN] by simp only [rcell,hNM,hDT,hEN,hnx])
 have HN := Lib.hid (And.intro hn (And.intro hnt (And.intro hnx (hG.symm.trans hn))))
 simp only [hn,hnt,hnx,hNM,hDT,hEN,hH] at hb hbR hBx hrow hfr hRH ⊢
 have hWs : (w.alloc (.cells #[.string NM, .string DT, .slice aX nx cX, .int .i64 EN] 138)).heap.size = H + 1 := by simp [hH]
 obtain ⟨W,hW⟩ : ∃ q,w.alloc (.cells #[.string NM, .string DT, .slice aX nx cX, .int .i64 EN] 138) = q := ⟨_,rfl⟩
 rw [hW] at hbR hBx hrow hfr hWs
 have HA := Lib.hid h
 have HX := Lib.hid hX
 have HW := Lib.hid (And.intro hW hH)
 have HB := Lib.hid (And.intro hbR (And.intro hBx (And.intro hrow (And.intro hfr hWs))))
 have mixed := mixedT
 have hn2 : n ≤ 1000 := by omega
 clear h hX hb hbR hBx hrow hfr hW hH hn hnt hnx hNM hDT hEN hG hWs hF
 obtain ⟨g2,rfl⟩ : ∃ g2,aF = some ⟨g2,0,none⟩ := by
  rcases HB.out.2.2.1.2 with ⟨_,h0⟩ | ⟨b,cap,cur,hv,_⟩
  ·exfalso;have := hI.out.2;have := HN.out.1;omega
  ·simp only [Value.slice.injEq] at hv;exact ⟨b,hv.1⟩
 have hin : i < n := by have := hI.out.2;have := HN.out.1;omega
 have i0 : (0 : Int) ≤ (i : Int) := by omega
 have i1 : ¬ ((i : Int) < 0) := by omega
 have i2 : (i : Int) < (n : Int) := by omega
 clear hi hiG
 go_enter Tryz.func106,Tryz.ntmps106
 go_upto_region 3 with (fail)
 try rw [HW.out.1,HW.out.2]
 try simp only [HW.out.1,HW.out.2]
 refine wp_region_held (S := fun w' => Blk w' R #[.slice (some ⟨g2,0,none⟩) n cF, .slice aT nt cT, .int .i64 most] 130 ∧ Blk w' H #[.string NM, .string DT, .slice aX nx cX, .int .i64 EN] 138) mixed ?_
 change wpAnyH _ _ _ _ _ _ _ _ W.drew
 have HD := Lib.hid (show Blk W.drew R #[.slice (some ⟨g2,0,none⟩) n cF, .slice aT nt cT, .int .i64 most] 130 ∧ Blk W.drew H #[.string NM, .string DT, .slice aX nx cX, .int .i64 EN] 138 ∧ W.drew.ownsRow 0 138 4 (.slice (some ⟨g2,0,none⟩) n cF) n (rcells G) ∧ Frm (R :: fb (some ⟨g2,0,none⟩)) w W.drew ∧ W.drew.heap.size = H + 1 from ⟨HB.out.1,HB.out.2.1,HB.out.2.2.1,HB.out.2.2.2.1.drew,HB.out.2.2.2.2⟩)
 obtain ⟨wd,hwd⟩ : ∃ q,W.drew = q := ⟨_,rfl⟩
 rw [hwd] at HD ⊢
 clear hwd HB
 have hS0 : Blk wd R #[.slice (some ⟨g2,0,none⟩) n cF, .slice aT nt cT, .int .i64 most] 130 ∧ Blk wd H #[.string NM, .string DT, .slice aX nx cX, .int .i64 EN] 138 := ⟨HD.out.1,HD.out.2.1⟩
 refine tkQ 0 (.pointer (some ⟨R,0,none⟩)) rfl hS0 ?_
 try go_simp
 refine tkQ 1 (.pointer (some ⟨R,0,none⟩)) rfl hS0 ?_
 try go_simp
 refine tkQ 2 (.pointer (some ⟨R,0,none⟩)) rfl hS0 ?_
 try go_simp
 refine tkH 3 (.slice (some ⟨g2,0,none⟩) n cF) rfl hS0 (fun w' hS => ?_) ?_
 ·have x0 := hS.1.cell 0;simp at x0;go_simp
 try go_simp
 refine tkQ 4 (.int .i64 (i : Int)) rfl hS0 ?_
 try go_simp
 refine tkH 5 (.agg #[.string NM, .string DT, .slice aX nx cX, .int .i64 EN]) rfl hS0 (fun w' hS => ?_) ?_
 ·have x0 := hS.2.cell 0;have x1 := hS.2.cell 1;have x2 := hS.2.cell 2;have x3 := hS.2.cell 3;simp at x0 x1 x2 x3;go_simp
 try go_simp
 refine tkQ 6 (.pointer (some ⟨g2,i * 4,none⟩)) rfl hS0 ?_
 try go_simp
 refine alH 7 ?_
 have hrl := rcells_length G
 rw [HN.out.1] at hrl
 have gl := (HD.out.2.2.1.lt g2 rfl).2
 have c0 := HD.out.2.2.1.cellAt (i * 4) (by omega)
 have c1 := HD.out.2.2.1.cellAt (i * 4 + 1) (by omega)
 have c2 := HD.out.2.2.1.cellAt (i * 4 + 2) (by omega)
 have c3 := HD.out.2.2.1.cellAt (i * 4 + 3) (by omega)
 have f0 := HD.out.2.2.1.frozenAt (i * 4)
 have f1 := HD.out.2.2.1.frozenAt (i * 4 + 1)
 have f2 := HD.out.2.2.1.frozenAt (i * 4 + 2)
 have f3 := HD.out.2.2.1.frozenAt (i * 4 + 3)
 obtain ⟨r0,r1,r2,r3⟩ := rcells_at G i (by have := HN.out.1;omega)
 rw [r0] at c0
 rw [r1] at c1
 rw [r2] at c2
 rw [r3] at c3
 unfold wpOp
 go_simp
 have hgR : g2 ≠ R := fun e => by
  obtain ⟨c,fz,h1⟩ := row_kind HD.out.2.2.1 g2 rfl
  have h2 := HD.out.1
  unfold Blk at h2
  rw [← e,h1] at h2
  injection h2 with h2
  injection h2 with _ h3 _
  exact absurd h3 (by decide)
 have hgH : g2 ≠ H := fun e => by
  have h3 := HA.out.lt g2 (List.mem_cons_of_mem _ (HA.out.inF _ rfl))
  have := HW.out.2
  omega
 have s0 := HD.out.2.2.1.stored (i * 4) (.string NM)
 have s1 := s0.1.stored (i * 4 + 1) (.string DT)
 have s2 := s1.1.stored (i * 4 + 2) (.slice aX nx cX)
 have s3 := s2.1.stored (i * 4 + 3) (.int .i64 EN)
 have hg := ((s0.2.trans s1.2).trans s2.2).trans s3.2
 have hr := s3.1
 rw [rcells_set (x,aX,cX) _ _ _ _ HRC.out G i hI.out.2] at hr
 obtain ⟨w4,hw4⟩ : ∃ q,((((wd.setCell ⟨g2,i * 4,none⟩ (.string NM)).setCell ⟨g2,i * 4 + 1,none⟩ (.string DT)).setCell ⟨g2,i * 4 + 2,none⟩ (.slice aX nx cX)).setCell ⟨g2,i * 4 + 3,none⟩ (.int .i64 EN)) = q := ⟨_,rfl⟩
 rw [hw4] at hg hr ⊢
 clear hw4 s0 s1 s2 s3
 have hB4 : Blk w4 R #[.slice (some ⟨g2,0,none⟩) n cF, .slice aT nt cT, .int .i64 most] 130 := HD.out.1.grown hg (fun e => hgR (by simpa [Value.ownBlock] using e))
 have hX4 : Blk w4 H #[.string NM, .string DT, .slice aX nx cX, .int .i64 EN] 138 := HD.out.2.1.grown hg (fun e => hgH (by simpa [Value.ownBlock] using e))
 have hf4 : Frm (R :: fb (some ⟨g2,0,none⟩)) w w4 := ⟨hg.os.trans HD.out.2.2.2.1.os,hg.tape.trans HD.out.2.2.2.1.tape,hg.output.trans HD.out.2.2.2.1.output,Nat.le_trans HD.out.2.2.2.1.size hg.size,fun k hk hn => (hg.block k (Nat.lt_of_lt_of_le hk HD.out.2.2.2.1.size) (fun e => hn (List.mem_cons_of_mem _ (by
  have e2 : k = g2 := by simpa [Value.ownBlock] using e
  rw [e2];exact List.mem_cons_self ..)))).trans (HD.out.2.2.2.1.block k hk hn)⟩
 have HY := Lib.hid (And.intro hr (And.intro hB4 hf4))
 first | refine .inl ⟨⟨hB4,hX4⟩, ?_⟩ | refine ⟨⟨hB4,hX4⟩, ?_⟩
 refine wpAnyH_done (by kernel_rfl) ?_ _
 clear hS0 hrl gl c0 c1 c2 c3 f0 f1 f2 f3 r0 r1 r2 r3 hg hr hB4 hX4 hf4 hgR hgH
 go_wp2
 go_end0
 have hGl : (G.set i ((x,aX,cX) : PG)).length = n := by rw [List.length_set,HN.out.1]
 obtain ⟨Y',h1,h2⟩ := HA.out.setF (G' := G.set i ((x,aX,cX) : PG)) (a' := some ⟨g2,0,none⟩) (c' := cF) HY.out.2.2 (by rw [hGl,HN.out.2.1];exact HY.out.2.1) (by rw [hGl];exact HY.out.1) (fun z hz => by
  rcases List.mem_or_eq_of_mem_set hz with h | h
  ·exact HA.out.exts z h
  ·subst h
   exact HX.out) (fun b hb => .inl hb)
 refine ⟨rfl,Y', ?_,h2⟩
 rw [List.map_set,HA.out.files] at h1
 exact h1
open Go.RowKit
theorem rcells_take (G : List PG) (i : Nat) : ∀ (j : Nat) (u : Value),(rcells (G.take i))[j]? = some u → (rcells G)[j]? = some u := by
 intro j u hj
 have e : rcells G = rcells (G.take i) ++ rcells (G.drop i) := by rw [← rcells_app,List.take_append_drop]
 have hl := (List.getElem?_eq_some_iff.1 hj).1
 rw [e,List.getElem?_append_left hl]
 exact hj
theorem rcells_drop (G : List PG) (i : Nat) (h : i ≤ G.length) : ∀ (j : Nat) (u : Value),(rcells (G.drop i))[j]? = some u → (rcells G)[i * 4 + j]? = some u := by
 intro j u hj
 have e : rcells G = rcells (G.take i) ++ rcells (G.drop i) := by rw [← rcells_app,List.take_append_drop]
 have hl : (rcells (G.take i)).length = i * 4 := by rw [rcells_length,List.length_take,Nat.min_eq_left h]
 rw [e,List.getElem?_append_right (by omega),hl,show i * 4 + j - i * 4 = j by omega]
 exact hj
set_option maxRecDepth 100000 in
set_option maxHeartbeats 4000000 in
theorem rdrop_any (i : Nat) (Y : List Nat) (R : Nat) (F : List PF) (T T2 : List Bool) (most : Nat) (w : World) (h : RSt w Y R F T most) (hF : F.length ≤ 1000) (hT : T.length ≤ 100000) (hi : i < F.length) (hl : F[i].ext.length ≤ 100000) (ht : turnS false T F[i].ext = some T2) :
  Calls Tryz.prog 107 #[.pointer (some ⟨R,0,none⟩), .int .i64 i] w fun e w' => e = .returned (.tuple #[]) ∧ ∃ Y',RSt w' Y' R (F.eraseIdx i) T2 most ∧ Mv (R :: Y) (R :: Y') w w' := by
 obtain ⟨aF,cF,aT,cT,G,h⟩ := h
 obtain ⟨i138,hi0,hi1,hi2,hi3⟩ := info_parts info138
 have hiG : i < G.length := by have := h.files;rw [← this,List.length_map] at hi;exact hi
 have hGF : G[i].1 = F[i] := by have := h.files;subst this;simp
 have hG : G.length = F.length := by rw [← h.files,List.length_map]
 obtain ⟨EX,hEX⟩ : ∃ q,F[i].ext = q := ⟨_,rfl⟩
 rw [hEX] at hl ht
 have hT2 := turnS_len _ _ _ _ ht
 have hex := h.exts G[i] (List.getElem_mem hiG)
 have hb := h.blk
 have hrow := h.row
 have hrc := (rcells_at G i hiG).2.2.1
 rw [hGF,hEX] at hrc hex
 obtain ⟨E,hE⟩ : ∃ q,G[i].2 = q := ⟨_,rfl⟩
 rw [hE] at hrc hex
 obtain ⟨aE,cE⟩ := E
 dsimp only at hrc hex
 have KT := fun (w1 : World) (h1 : Lies w1 aT (tcells T)) (h2 : Lies w1 aE (ecells EX)) => rturn_any false T T2 EX aT cT aE cE w1 h1 h2 hT hl ht
 obtain ⟨n,hn⟩ : ∃ q,G.length = q := ⟨_,rfl⟩
 obtain ⟨nt,hnt⟩ : ∃ q,T.length = q := ⟨_,rfl⟩
 obtain ⟨nx,hnx⟩ : ∃ q,EX.length = q := ⟨_,rfl⟩
 rw [hnt] at hT2
 simp only [hn,hnt,hnx,hT2] at hb hrow hrc KT
 have HN := Lib.hid (And.intro hn (And.intro hnt (And.intro hT2 (hG.symm.trans hn))))
 have HX := Lib.hid hex
 have HA := Lib.hid h
 have hin : i < n := by omega
 obtain ⟨g2,rfl⟩ : ∃ g2,aF = some ⟨g2,0,none⟩ := by
  rcases hrow.2 with ⟨_,h0⟩ | ⟨b,cap,cur,hv,_⟩
  ·exfalso;omega
  ·simp only [Value.slice.injEq] at hv;exact ⟨b,hv.1⟩
 have hrl := rcells_length G
 rw [hn] at hrl
 have hcap := row_cap' hrow
 have i0 : (0 : Int) ≤ (i : Int) := by omega
 have i2 : (i : Int) < (n : Int) := by omega
 have hn2 : n ≤ 1000 := by omega
 have HI := Lib.hid (And.intro hiG hrl)
 have ce := hrow.cellAt (i * 4 + 2) (by omega)
 rw [hrc] at ce
 have hgl := (hrow.lt g2 rfl).2
 have HD := Lib.hid (show Blk w.drew R #[.slice (some ⟨g2,0,none⟩) n cF, .slice aT nt cT, .int .i64 most] 130 ∧ w.drew.cell? ⟨g2,i * 4 + 2,none⟩ = some (.slice aE nx cE) ∧ Below w.heap.size w w.drew from ⟨hb,ce,(Below.refl _ w).drew⟩)
 have HL := Lib.hid (show Lies w.drew aT (tcells T) ∧ Lies w.drew aE (ecells EX) from ⟨h.units,hex.1⟩)
 have mixed := mixedT
 clear h hb hrow hrc hex hE hiG hGF hG hT2 hn hnt hF hT hl ht hi ce hEX hnx
 go_enter Tryz.func107,Tryz.ntmps107
 go_upto_region 0 with (fail)
 refine wp_region_S 19 (fun _ => True) (fun w' => Blk w' R #[.slice (some ⟨g2,0,none⟩) n cF, .slice aT nt cT, .int .i64 most] 130 ∧ w'.cell? ⟨g2,i * 4 + 2,none⟩ = some (.slice aE nx cE)) mixed ?_
 change wpAnyS _ _ _ _ _ _ _ _ _ _ w.drew
 have KW := KT w.drew HL.out.1 HL.out.2
 have hws : w.drew.heap.size = w.heap.size := rfl
 obtain ⟨wd,hwd⟩ : ∃ q,w.drew = q := ⟨_,rfl⟩
 rw [hwd] at HD KW hws ⊢
 clear hwd KT HL
 have hE0 : ∀ L : Array Bool,HeldS 19 (fun _ => True) (fun w' => Blk w' R #[.slice (some ⟨g2,0,none⟩) n cF, .slice aT nt cT, .int .i64 most] 130 ∧ w'.cell? ⟨g2,i * 4 + 2,none⟩ = some (.slice aE nx cE)) L wd := fun L => ⟨trivial,fun _ => ⟨HD.out.1,HD.out.2.1⟩⟩
 refine tkS 0 (.pointer (some ⟨R,0,none⟩)) rfl (hE0 _) (fun w' hS => ?_) ?_
 ·clear hS;go_simp
 try go_simp
 refine tkS 1 (.pointer (some ⟨R,0,none⟩)) rfl (hE0 _) (fun w' hS => ?_) ?_
 ·clear hS;go_simp
 try go_simp
 refine tkS 2 (.pointer (some ⟨R,0,none⟩)) rfl (hE0 _) (fun w' hS => ?_) ?_
 ·clear hS;go_simp
 try go_simp
 refine tkS 3 (.pointer (some ⟨R,1,none⟩)) rfl (hE0 _) (fun w' hS => ?_) ?_
 ·clear hS;go_simp
 try go_simp
 refine wpAnyS_take2 (i := 4) (v := .agg #[.slice aT nt cT]) rfl (by decide) rfl (by kernel_rfl) (by kernel_rfl) (by kernel_rfl) (by kernel_rfl) (by kernel_rfl) (fun c a w h => h) (.inl ⟨by kernel_rfl,fun w' hS => ?_⟩) (hE0 _) ?_
 ·have x1 := hS.2.1.cell 1;simp at x1;go_simp
 try go_simp
 refine tkS 5 (.pointer (some ⟨R,0,none⟩)) rfl (hE0 _) (fun w' hS => ?_) ?_
 ·clear hS;go_simp
 try go_simp
 refine tkS 6 (.pointer (some ⟨R,0,none⟩)) rfl (hE0 _) (fun w' hS => ?_) ?_
 ·clear hS;go_simp
 try go_simp
 refine tkS 7 (.pointer (some ⟨R,0,none⟩)) rfl (hE0 _) (fun w' hS => ?_) ?_
 ·clear hS;go_simp
 try go_simp
 refine wpAnyS_take2 (i := 8) (v := .slice (some ⟨g2,0,none⟩) n cF) rfl (by decide) rfl (by kernel_rfl) (by kernel_rfl) (by kernel_rfl) (by kernel_rfl) (by kernel_rfl) (fun c a w h => h) (.inl ⟨by kernel_rfl,fun w' hS => ?_⟩) (hE0 _) ?_
 ·have x0 := hS.2.1.cell 0;simp at x0;go_simp
 try go_simp
 refine tkS 9 (.int .i64 (i : Int)) rfl (hE0 _) (fun w' hS => ?_) ?_
 ·clear hS;go_simp
 try go_simp
 refine tkS 10 (.pointer (some ⟨g2,i * 4,none⟩)) rfl (hE0 _) (fun w' hS => ?_) ?_
 ·clear hS;go_simp
 try go_simp
 refine tkS 11 (.pointer (some ⟨g2,i * 4 + 2,none⟩)) rfl (hE0 _) (fun w' hS => ?_) ?_
 ·clear hS;go_simp
 try go_simp
 refine wpAnyS_take2 (i := 12) (v := .slice aE nx cE) rfl (by decide) rfl (by kernel_rfl) (by kernel_rfl) (by kernel_rfl) (by kernel_rfl) (by kernel_rfl) (fun c a w h => h) (.inl ⟨by kernel_rfl,fun w' hS => ?_⟩) (hE0 _) ?_
 ·have x2 := hS.2.2;go_simp
 try go_simp
 refine alS 13 ?_
 unfold wpOp
 go_simp
 refine .inl ?_
 go_at_call 105
 refine KW.mono ?_
 rintro e w5 ⟨A1,c1,rfl,hrow1,hb1⟩
 clear KW
 have hB5 := HD.out.1.below hb1
 have hE5 : ∀ L : Array Bool,HeldS 19 (fun _ => True) (fun w' => Blk w' R #[.slice (some ⟨g2,0,none⟩) n cF, .slice aT nt cT, .int .i64 most] 130 ∧ w'.cell? ⟨g2,i * 4 + 2,none⟩ = some (.slice aE nx cE)) L w5 := fun L => ⟨trivial,fun _ => ⟨hB5,(World.cell?_of_block (hb1.block g2 (by omega))).trans HD.out.2.1⟩⟩
 have H5 := Lib.hid (And.intro hrow1 (And.intro (HD.out.2.2.trans (hb1.mono (Nat.le_of_eq hws.symm))) hB5))
 clear hrow1 hb1 hB5
 refine ⟨hE5 _, ?_⟩
 try go_simp
 refine tkS 14 (.tuple #[.agg #[.slice A1 nt c1], .bool true]) rfl (hE5 _) (fun w' hS => ?_) ?_
 ·clear hS;go_simp
 try go_simp
 refine tkS 15 (.agg #[.slice A1 nt c1]) rfl (hE5 _) (fun w' hS => ?_) ?_
 ·clear hS;go_simp
 try go_simp
 refine tkS 16 (.bool true) rfl (hE5 _) (fun w' hS => ?_) ?_
 ·clear hS;go_simp
 try go_simp
 refine tkS 17 (.pointer (some ⟨R,0,none⟩)) rfl (hE5 _) (fun w' hS => ?_) ?_
 ·clear hS;go_simp
 try go_simp
 refine tkS 18 (.pointer (some ⟨R,1,none⟩)) rfl (hE5 _) (fun w' hS => ?_) ?_
 ·clear hS;go_simp
 try go_simp
 refine alS 19 ?_
 have x1 := H5.out.2.2.cell 1
 have xf := H5.out.2.2.frozen 1
 have xl := H5.out.2.2.lt
 simp at x1
 unfold wpOp
 go_simp
 have hE6 : ∀ L : Array Bool,L.getD 19 false = true → HeldS 19 (fun _ => True) (fun w' => Blk w' R #[.slice (some ⟨g2,0,none⟩) n cF, .slice aT nt cT, .int .i64 most] 130 ∧ w'.cell? ⟨g2,i * 4 + 2,none⟩ = some (.slice aE nx cE)) L (w5.setCell ⟨R,1,none⟩ (.slice A1 nt c1)) := fun L hL => ⟨trivial,fun e => by rw [hL] at e;cases e⟩
 first | refine .inl ⟨hE6 _ (by kernel_rfl), ?_⟩ | refine ⟨hE6 _ (by kernel_rfl), ?_⟩
 refine wpAnyS_done (by kernel_rfl) ?_ _
 have hB6 := H5.out.2.2.set 1 (.slice A1 nt c1)
 have hgR : ∀ g,(Value.slice A1 nt c1).ownBlock = some g → g ≠ R := fun g hg => by
  have := (H5.out.1.lt g hg).1
  have := HD.out.1.lt
  omega
 have hr6 := row_block H5.out.1 (w' := w5.setCell ⟨R,1,none⟩ (.slice A1 nt c1)) (fun g hg => Below.heap_setCell w5 ⟨R,1,none⟩ _ g (hgR g hg))
 have hf6 : Frm [R] w (w5.setCell ⟨R,1,none⟩ (.slice A1 nt c1)) := ⟨H5.out.2.1.os,H5.out.2.1.tape,H5.out.2.1.output,by simpa using H5.out.2.1.size,fun k hk hn => (Below.heap_setCell w5 ⟨R,1,none⟩ _ k (fun e => hn (by rw [show k = R from e];exact List.mem_cons_self ..))).trans (H5.out.2.1.block k hk)⟩
 obtain ⟨R6,M6⟩ := HA.out.setT (T' := T2) (a' := A1) (c' := c1) hf6 (by rw [HN.out.1,HN.out.2.2.1];exact hB6) (Lies.of_row hr6) (Typed.of_row hr6) (fun b hb => by
  obtain ⟨a,rfl,rfl⟩ := mem_fb hb
  have := (H5.out.1.lt a.block rfl).1
  left
  omega)
 obtain ⟨W6,hW6⟩ : ∃ q,w5.setCell ⟨R,1,none⟩ (.slice A1 nt c1) = q := ⟨_,rfl⟩
 rw [hW6] at R6 M6 ⊢
 clear hW6 hB6 hgR hr6 hf6 hE6 hE5 hE0 x1 xf xl hws hgl H5 HD
 have H6 := Lib.hid (And.intro R6 M6)
 have x0 := R6.blk.cell 0
 simp at x0
 rw [HN.out.1] at x0
 have xl := R6.blk.lt
 have hLt : Lies W6 (some ⟨g2,0,none⟩) (rcells (G.take i)) := fun h0 => by
  have h3 := Lies.of_row R6.row (by rw [HI.out.2];omega)
  obtain ⟨g,o,he,hl,hc⟩ := h3
  exact ⟨g,o,he,hl,fun j u hu => hc j u (rcells_take G i j u hu)⟩
 have hLtl : (rcells (G.take i)).length = i * 4 := by rw [rcells_length,List.length_take,Nat.min_eq_left (Nat.le_of_lt HI.out.1)]
 have HT := Lib.hid (And.intro hLt hLtl)
 clear R6 M6 hLt hLtl
 have i3 : (i : Int) ≤ (n : Int) := by omega
 have i4 : (i : Int) ≤ (cF : Int) := by omega
 have HDr := Lib.hid (show ∀ o,(o = (i + 1) * 4 ∨ n = i + 1) → Lies W6 (some ⟨g2,o,none⟩) (rcells (G.drop (i + 1))) from fun o ho h0 => by
  have hdl : (rcells (G.drop (i + 1))).length = (n - (i + 1)) * 4 := by rw [rcells_length,List.length_drop,HN.out.1]
  rcases ho with rfl | h1
  ·have h3 := Lies.of_row H6.out.1.row (by rw [HI.out.2];omega)
   obtain ⟨g,o,he,hl,hc⟩ := h3
   have hcut : ∀ (j : Nat) (u : Value),(rcells (G.drop (i + 1)))[j]? = some u → W6.cell? ⟨g,o + ((i + 1) * 4 + j),none⟩ = some u := fun j u hu => hc _ u (rcells_drop G (i + 1) HI.out.1 j u hu)
   cases he
   exact ⟨g2,(i + 1) * 4,rfl,hl,fun j u hu => by simpa using hcut j u hu⟩
  ·rw [hdl] at h0
   omega)
 have HDl := Lib.hid (show (rcells (G.drop (i + 1))).length = (n - (i + 1)) * 4 by rw [rcells_length,List.length_drop,HN.out.1])
 have hR0 := H6.out.1.blk.lt
 have KEEP := Lib.hid (show ∀ (w7 : World) {A : Option Addr} {xs : List Value},W6.grownBy w7 (Value.slice none 0 0).ownBlock → Lies W6 A xs → Lies w7 A xs from fun w7 A xs hg hL h0 => by
  obtain ⟨g,o,rfl,hl,hc⟩ := hL h0
  exact ⟨g,o,rfl,Nat.lt_of_lt_of_le hl hg.size,fun j u hu => (World.cell?_of_block (hg.block g hl (by simp [Value.ownBlock]))).trans (hc j u hu)⟩)
 clear hR0
 rcases Nat.lt_or_ge (i + 1) cF with hcc | hcc
 ·skip
  have i5 : ((i : Int) + 1) ≤ (n : Int) := by omega
  have i6 : ((i : Int) + 1) < (cF : Int) := by omega
  go_wp2_with (first
   | (at_builtin;refine wpList_app rfl (.tmp 24) (.tmp 30) 128 138 rfl i138 _ 4 64 Tryz.underlying128 hi0 hi1 hi2 hi3 rfl (by decide) W6.heap.size (.slice none 0 0) rfl 0 [] (World.ownsRow_nil _ _ _ _) (some ⟨g2,0,none⟩) i _ rfl (rcells (G.take i)) HT.out.2 HT.out.1 (rcells_one _) (by omega) (by decide) (Nat.le_refl _) ?_;intro A7 c7 w7 hr7 hg7;rw [Nat.zero_add,List.nil_append] at hr7;have hB7 := H6.out.1.blk.grown hg7 (by simp [Value.ownBlock]);have H7 := Lib.hid (And.intro hr7 (And.intro hg7 hB7));have x0 := hB7.cell 0;simp at x0;rw [HN.out.1] at x0;have xl := hB7.lt;clear hr7 hg7 hB7;try simp only [Nat.zero_add])
   | (at_builtin;refine wpList_app rfl (.tmp 33) (.tmp 40) 128 138 rfl i138 _ 4 64 Tryz.underlying128 hi0 hi1 hi2 hi3 rfl (by decide) W6.heap.size (.slice A7 i c7) rfl i (rcells (G.take i)) H7.out.1 _ (n - (i + 1)) _ rfl (rcells (G.drop (i + 1))) HDl.out (KEEP.out w7 H7.out.2.1 (HDr.out _ (by omega))) (rcells_one _) (by omega) (by decide) H7.out.2.1.size ?_;intro A8 c8 w8 hr8 hg8;have hB8 := H7.out.2.2.grown hg8 (own_ne_blk H7.out.1 H7.out.2.2 (by decide));have z0 := hB8.cell 0;have zf := hB8.frozen 0;have zl := hB8.lt;simp at z0;have H8 := Lib.hid (And.intro hr8 (And.intro hg8 hB8));clear hr8 hg8 hB8))
  go_end0
  have hge : (G.eraseIdx i).length = i + (n - (i + 1)) := by rw [List.length_eraseIdx_of_lt HI.out.1,HN.out.1];omega
  have hgc : rcells (G.eraseIdx i) = rcells (G.take i) ++ rcells (G.drop (i + 1)) := by rw [List.eraseIdx_eq_take_drop_succ,rcells_app]
  have hRl := H6.out.1.blk.lt
  have hs7 := H7.out.2.1.size
  have hf9 : Frm (R :: fb (some ⟨g2,0,none⟩)) W6 (w8.setCell ⟨R,0,none⟩ (.slice A8 (i + (n - (i + 1))) c8)) := ⟨H8.out.2.1.os.trans H7.out.2.1.os,H8.out.2.1.tape.trans H7.out.2.1.tape,H8.out.2.1.output.trans H7.out.2.1.output,by simpa using Nat.le_trans hs7 H8.out.2.1.size,fun k hk hn => (Below.heap_setCell w8 ⟨R,0,none⟩ _ k (fun e => hn (by rw [show k = R from e];exact List.mem_cons_self ..))).trans ((H8.out.2.1.block k (Nat.lt_of_lt_of_le hk hs7) (fun e => by have := (H7.out.1.lt k e.symm).1;omega)).trans (H7.out.2.1.block k hk (by simp [Value.ownBlock])))⟩
  have hB9 := H8.out.2.2.set 0 (.slice A8 (i + (n - (i + 1))) c8)
  have hr9 := row_block H8.out.1 (w' := w8.setCell ⟨R,0,none⟩ (.slice A8 (i + (n - (i + 1))) c8)) (fun g hg => Below.heap_setCell w8 ⟨R,0,none⟩ _ g (fun e => by have h1 := (H8.out.1.lt g hg).1;have h2 : g = R := e;omega))
  obtain ⟨Y',h1,h2⟩ := H6.out.1.setF (G' := G.eraseIdx i) (a' := A8) (c' := c8) hf9 (by rw [hge];exact hB9) (by rw [hge,hgc];exact own_weaken hr9 (Nat.zero_le _)) (fun z hz => H6.out.1.exts z (List.mem_of_mem_eraseIdx hz)) (fun b hb => by
   obtain ⟨a,rfl,rfl⟩ := mem_fb hb
   exact .inr (H8.out.1.lt a.block rfl).1)
  refine ⟨rfl,Y', ?_,H6.out.2.trans h2⟩
  have hfe : (G.eraseIdx i).map (·.1) = F.eraseIdx i := by
   have := HA.out.files
   subst this
   rw [List.eraseIdx_eq_take_drop_succ,List.eraseIdx_eq_take_drop_succ,List.map_append,List.map_take,List.map_drop]
  rw [hfe] at h1
  exact h1
 ·skip
  have i5 : ((i : Int) + 1) ≤ (n : Int) := by omega
  obtain rfl : cF = i + 1 := by omega
  go_wp2_with (first
   | (at_builtin;refine wpList_app rfl (.tmp 24) (.tmp 30) 128 138 rfl i138 _ 4 64 Tryz.underlying128 hi0 hi1 hi2 hi3 rfl (by decide) W6.heap.size (.slice none 0 0) rfl 0 [] (World.ownsRow_nil _ _ _ _) (some ⟨g2,0,none⟩) i _ rfl (rcells (G.take i)) HT.out.2 HT.out.1 (rcells_one _) (by omega) (by decide) (Nat.le_refl _) ?_;intro A7 c7 w7 hr7 hg7;rw [Nat.zero_add,List.nil_append] at hr7;have hB7 := H6.out.1.blk.grown hg7 (by simp [Value.ownBlock]);have H7 := Lib.hid (And.intro hr7 (And.intro hg7 hB7));have x0 := hB7.cell 0;simp at x0;rw [HN.out.1] at x0;have xl := hB7.lt;clear hr7 hg7 hB7;try simp only [Nat.zero_add])
   | (at_builtin;refine wpList_app rfl (.tmp 33) (.tmp 40) 128 138 rfl i138 _ 4 64 Tryz.underlying128 hi0 hi1 hi2 hi3 rfl (by decide) W6.heap.size (.slice A7 i c7) rfl i (rcells (G.take i)) H7.out.1 _ 0 _ rfl (rcells (G.drop (i + 1))) (by rw [HDl.out];omega) (KEEP.out w7 H7.out.2.1 (HDr.out _ (by omega))) (rcells_one _) (by omega) (by decide) H7.out.2.1.size ?_;intro A8 c8 w8 hr8 hg8;have hB8 := H7.out.2.2.grown hg8 (own_ne_blk H7.out.1 H7.out.2.2 (by decide));have z0 := hB8.cell 0;have zf := hB8.frozen 0;have zl := hB8.lt;simp at z0;have H8 := Lib.hid (And.intro hr8 (And.intro hg8 hB8));clear hr8 hg8 hB8))
  go_end0
  have hge : (G.eraseIdx i).length = i + 0 := by rw [List.length_eraseIdx_of_lt HI.out.1,HN.out.1];omega
  have hgc : rcells (G.eraseIdx i) = rcells (G.take i) ++ rcells (G.drop (i + 1)) := by rw [List.eraseIdx_eq_take_drop_succ,rcells_app]
  have hRl := H6.out.1.blk.lt
  have hs7 := H7.out.2.1.size
  have hf9 : Frm (R :: fb (some ⟨g2,0,none⟩)) W6 (w8.setCell ⟨R,0,none⟩ (.slice A8 (i + 0) c8)) := ⟨H8.out.2.1.os.trans H7.out.2.1.os,H8.out.2.1.tape.trans H7.out.2.1.tape,H8.out.2.1.output.trans H7.out.2.1.output,by simpa using Nat.le_trans hs7 H8.out.2.1.size,fun k hk hn => (Below.heap_setCell w8 ⟨R,0,none⟩ _ k (fun e => hn (by rw [show k = R from e];exact List.mem_cons_self ..))).trans ((H8.out.2.1.block k (Nat.lt_of_lt_of_le hk hs7) (fun e => by have := (H7.out.1.lt k e.symm).1;omega)).trans (H7.out.2.1.block k hk (by simp [Value.ownBlock])))⟩
  have hB9 := H8.out.2.2.set 0 (.slice A8 (i + 0) c8)
  have hr9 := row_block H8.out.1 (w' := w8.setCell ⟨R,0,none⟩ (.slice A8 (i + 0) c8)) (fun g hg => Below.heap_setCell w8 ⟨R,0,none⟩ _ g (fun e => by have h1 := (H8.out.1.lt g hg).1;have h2 : g = R := e;omega))
  obtain ⟨Y',h1,h2⟩ := H6.out.1.setF (G' := G.eraseIdx i) (a' := A8) (c' := c8) hf9 (by rw [hge];exact hB9) (by rw [hge,hgc];exact own_weaken hr9 (Nat.zero_le _)) (fun z hz => H6.out.1.exts z (List.mem_of_mem_eraseIdx hz)) (fun b hb => by
   obtain ⟨a,rfl,rfl⟩ := mem_fb hb
   exact .inr (H8.out.1.lt a.block rfl).1)
  refine ⟨rfl,Y', ?_,H6.out.2.trans h2⟩
  have hfe : (G.eraseIdx i).map (·.1) = F.eraseIdx i := by
   have := HA.out.files
   subst this
   rw [List.eraseIdx_eq_take_drop_succ,List.eraseIdx_eq_take_drop_succ,List.map_append,List.map_take,List.map_drop]
  rw [hfe] at h1
  exact h1
open Go.RowKit
def remS (F : List PF) (T : List Bool) (name : Bs) : Option (Nat × List PF × List Bool) :=
 if goodF name = false then some (11,F,T) else match F.findIdx? (fun f => f.name == name) with
 | none => some (9,F,T)
 | some i => (turnS false T ((F[i]?.map (·.ext)).getD [])).map fun T2 => (0,F.eraseIdx i,T2)
set_option maxRecDepth 100000 in
set_option maxHeartbeats 2000000 in
theorem rremove_any (Y : List Nat) (R : Nat) (F F' : List PF) (T T' : List Bool) (most r : Nat) (name : Bs) (w : World) (h : RSt w Y R F T most) (hF : F.length ≤ 1000) (hT : T.length ≤ 100000) (hl : ∀ f ∈ F,f.ext.length ≤ 100000) (hnm : name.length ≤ maxLen) (hp : remS F T name = some (r,F',T')) :
  Calls Tryz.prog 67 #[.pointer (some ⟨R,0,none⟩), .string (mk name)] w fun e w' => e = .returned (.int .i64 (r : Nat)) ∧ ∃ Y',RSt w' Y' R F' T' most ∧ Mv (R :: Y) (R :: Y') w w' := by
 have KG := rgood_any (mk name) w (by rw [mk_size];exact hnm)
 rw [mk_data] at KG
 have KF := rfind_any Y R F T most name w h hF
 obtain ⟨NM,hNM⟩ : ∃ q,mk name = q := ⟨_,rfl⟩
 rw [hNM] at KG KF ⊢
 cases hg : goodF name with
 | false =>
  rw [hg] at KG
  unfold remS at hp
  rw [if_pos hg] at hp
  simp only [Option.some.injEq,Prod.mk.injEq] at hp
  obtain ⟨rfl,rfl,rfl⟩ := hp
  have HH := Lib.hid h
  clear h hl hF hT KF hg hNM
  go_enter Tryz.func67,Tryz.ntmps67
  go_wp2_with (first
   | (go_at_call 12;refine KG.mono ?_;rintro e w' ⟨rfl,rfl⟩;clear KG))
  go_ret
  exact ⟨rfl,Y,HH.out,Mv.refl _ _⟩
 | true =>
  rw [hg] at KG
  unfold remS at hp
  rw [if_neg (by rw [hg];decide)] at hp
  unfold findI at KF
  cases hf : F.findIdx? (fun f => f.name == name) with
  | none =>
   simp only [hf] at hp KF
   simp only [Option.some.injEq,Prod.mk.injEq] at hp
   obtain ⟨rfl,rfl,rfl⟩ := hp
   have HH := Lib.hid h
   clear h hl hF hT hg hNM hf
   go_enter Tryz.func67,Tryz.ntmps67
   go_wp2_with (first
    | (go_at_call 12;refine KG.mono ?_;rintro e w' ⟨rfl,rfl⟩;clear KG)
    | (go_at_call 68;refine KF.mono ?_;rintro e w' ⟨rfl,rfl⟩;clear KF))
   go_ret
   exact ⟨rfl,Y,HH.out,Mv.refl _ _⟩
  | some i =>
   simp only [hf] at hp KF
   have hi : i < F.length := (List.findIdx?_eq_some_iff_getElem.1 hf).1
   rw [List.getElem?_eq_getElem hi,Option.map_some,Option.getD_some] at hp
   obtain ⟨T2,ht,hp2⟩ := Option.map_eq_some_iff.1 hp
   simp only [Prod.mk.injEq] at hp2
   obtain ⟨rfl,rfl,rfl⟩ := hp2
   have KD := rdrop_any i Y R F T T2 most w h hF hT hi (hl _ (List.getElem_mem hi)) ht
   have i0 : (0 : Int) ≤ (i : Int) := by omega
   have i1 : ¬ ((i : Int) < 0) := by omega
   have hi2 : i ≤ 1000 := by omega
   clear h hl hF hT hg hNM hf hp hi ht
   go_enter Tryz.func67,Tryz.ntmps67
   go_wp2_with (first
    | (go_at_call 12;refine KG.mono ?_;rintro e w' ⟨rfl,rfl⟩;clear KG)
    | (go_at_call 68;refine KF.mono ?_;rintro e w' ⟨rfl,rfl⟩;clear KF)
    | (go_at_call 107;refine KD.mono ?_;rintro e w' ⟨rfl,hk⟩;clear KD))
   go_ret
   exact ⟨rfl,hk⟩
open Go.RowKit
def idxF (F : List PF) (name : Bs) : Option Nat := F.findIdx? (fun f => f.name == name)
def setName (F : List PF) (i : Nat) (b : Bs) : List PF := match F[i]? with
 | some f => F.set i ⟨b,f.data,f.ext,f.entry⟩
 | none => F
def renS (F : List PF) (T : List Bool) (a b : Bs) : Option (Nat × List PF × List Bool) :=
 if goodF a = false ∨ goodF b = false then some (11,F,T) else match idxF F a with
 | none => some (9,F,T)
 | some i => if a = b then some (0,F,T) else match idxF F b with
  | none => some (0,setName F i b,T)
  | some j => (turnS false T ((F[j]?.map (·.ext)).getD [])).bind fun T2 => (idxF (F.eraseIdx j) a).map fun k => (0,setName (F.eraseIdx j) k b,T2)
set_option maxRecDepth 100000 in
set_option maxHeartbeats 4000000 in
theorem rrename_any (Y : List Nat) (R : Nat) (F F' : List PF) (T T' : List Bool) (most r : Nat) (a b : Bs) (w : World) (h : RSt w Y R F T most) (hF : F.length ≤ 1000) (hT : T.length ≤ 100000) (hl : ∀ f ∈ F,f.ext.length ≤ 100000) (hna : a.length ≤ maxLen) (hnb : b.length ≤ maxLen) (hp : renS F T a b = some (r,F',T')) :
  Calls Tryz.prog 66 #[.pointer (some ⟨R,0,none⟩), .string (mk a), .string (mk b)] w fun e w' => e = .returned (.int .i64 (r : Nat)) ∧ ∃ Y',RSt w' Y' R F' T' most ∧ Mv (R :: Y) (R :: Y') w w' := by
 have KGa := rgood_any (mk a) w (by rw [mk_size];exact hna)
 have KGb := rgood_any (mk b) w (by rw [mk_size];exact hnb)
 rw [mk_data] at KGa KGb
 have KF := rfind_any Y R F T most a w h hF
 have KFb := rfind_any Y R F T most b w h hF
 have KF2 := fun (Y1 : List Nat) (F1 : List PF) (T1 : List Bool) (w1 : World) (h1 : RSt w1 Y1 R F1 T1 most) (hF1 : F1.length ≤ 1000) => rfind_any Y1 R F1 T1 most a w1 h1 hF1
 have hte := text_eq a b
 obtain ⟨NA,hNA⟩ : ∃ q,mk a = q := ⟨_,rfl⟩
 obtain ⟨NB,hNB⟩ : ∃ q,mk b = q := ⟨_,rfl⟩
 simp only [hNA,hNB] at KGa KGb KF KFb KF2 hte ⊢
 have HNB := Lib.hid hNB
 clear hNA hNB hna hnb
 unfold findI at KF KFb
 unfold renS at hp
 by_cases hg : goodF a = false ∨ goodF b = false
 ·rw [if_pos hg] at hp
  simp only [Option.some.injEq,Prod.mk.injEq] at hp
  obtain ⟨rfl,rfl,rfl⟩ := hp
  have HH := Lib.hid h
  have hz : goodF a = false ∨ (goodF a = true ∧ goodF b = false) := by
   rcases hg with h | h
   ·exact .inl h
   ·cases e : goodF a with
    | false => exact .inl rfl
    | true => exact .inr ⟨rfl,h⟩
  clear h hl hF hT KF KFb KF2 hg hte
  rcases hz with hz | ⟨hz,hz2⟩
  ·rw [hz] at KGa
   clear hz
   go_enter Tryz.func66,Tryz.ntmps66
   go_wp2_with (first
    | (go_at_call 12;refine KGa.mono ?_;rintro e w' ⟨rfl,rfl⟩;clear KGa))
   go_ret
   exact ⟨rfl,Y,HH.out,Mv.refl _ _⟩
  ·rw [hz] at KGa
   rw [hz2] at KGb
   clear hz hz2
   go_enter Tryz.func66,Tryz.ntmps66
   go_wp2_with (first
    | (go_at_call 12;refine KGa.mono ?_;rintro e w' ⟨rfl,rfl⟩;clear KGa)
    | (go_at_call 12;refine KGb.mono ?_;rintro e w' ⟨rfl,rfl⟩;clear KGb))
   go_ret
   exact ⟨rfl,Y,HH.out,Mv.refl _ _⟩
 ·rw [if_neg hg] at hp
  have hga : goodF a = true := by cases e : goodF a with
   | true => rfl
   | false => exact absurd (.inl e) hg
  have hgb : goodF b = true := by cases e : goodF b with
   | true => rfl
   | false => exact absurd (.inr e) hg
  rw [hga] at KGa
  rw [hgb] at KGb
  clear hg hga hgb
  cases hf : idxF F a with
  | none =>
   rw [hf] at hp
   unfold idxF at hf
   simp only [hf] at KF
   simp only [Option.some.injEq,Prod.mk.injEq] at hp
   obtain ⟨rfl,rfl,rfl⟩ := hp
   have HH := Lib.hid h
   clear h hl hF hT hf KFb KF2 hte
   go_enter Tryz.func66,Tryz.ntmps66
   go_wp2_with (first
    | (go_at_call 12;refine KGa.mono ?_;rintro e w' ⟨rfl,rfl⟩;clear KGa)
    | (go_at_call 12;refine KGb.mono ?_;rintro e w' ⟨rfl,rfl⟩;clear KGb)
    | (go_at_call 68;refine KF.mono ?_;rintro e w' ⟨rfl,rfl⟩;clear KF))
   go_ret
   exact ⟨rfl,Y,HH.out,Mv.refl _ _⟩
  | some i =>
   rw [hf] at hp
   unfold idxF at hf
   simp only [hf] at KF
   have hi : i < F.length := (List.findIdx?_eq_some_iff_getElem.1 hf).1
   have i0 : (0 : Int) ≤ (i : Int) := by omega
   have i1 : ¬ ((i : Int) < 0) := by omega
   dsimp only at hp
   by_cases hab : a = b
   ·rw [if_pos hab] at hp
    rw [beq_iff_eq.2 hab] at hte
    simp only [Option.some.injEq,Prod.mk.injEq] at hp
    obtain ⟨rfl,rfl,rfl⟩ := hp
    have HH := Lib.hid h
    clear h hl hF hT hf KFb KF2 hab hi
    go_enter Tryz.func66,Tryz.ntmps66
    go_wp2_with (first
     | (go_at_call 12;refine KGa.mono ?_;rintro e w' ⟨rfl,rfl⟩;clear KGa)
     | (go_at_call 12;refine KGb.mono ?_;rintro e w' ⟨rfl,rfl⟩;clear KGb)
     | (go_at_call 68;refine KF.mono ?_;rintro e w' ⟨rfl,rfl⟩;clear KF))
    go_ret
    exact ⟨rfl,Y,HH.out,Mv.refl _ _⟩
   ·rw [if_neg hab] at hp
    rw [beq_eq_false_iff_ne.2 hab] at hte
    clear hab
    cases hfb : idxF F b with
    | none =>
     rw [hfb] at hp
     unfold idxF at hfb
     simp only [hfb] at KFb
     simp only [Option.some.injEq,Prod.mk.injEq] at hp
     obtain ⟨rfl,rfl,rfl⟩ := hp
     obtain ⟨aF,cF,aT,cT,G,hA⟩ := h
     have HS := Lib.hid hA
     have HM := Lib.hid (Mv.refl (R :: Y) w)
     have hSN : setName F i b = F.set i ⟨b,F[i].data,F[i].ext,F[i].entry⟩ := by unfold setName;rw [List.getElem?_eq_getElem hi]
     rw [hSN]
     clear hA hl hF hT hf KF2 hSN hfb
     go_enter Tryz.func66,Tryz.ntmps66
     go_upto_region 12 with (first
      | (go_at_call 12;refine KGa.mono ?_;rintro e w' ⟨rfl,rfl⟩;clear KGa)
      | (go_at_call 12;refine KGb.mono ?_;rintro e w' ⟨rfl,rfl⟩;clear KGb)
      | (go_at_call 68;refine KF.mono ?_;rintro e w' ⟨rfl,rfl⟩;clear KF)
      | (go_at_call 68;refine KFb.mono ?_;rintro e w' ⟨rfl,rfl⟩;clear KFb))
     have hkG : i < G.length := by have := HS.out.files;rw [← this,List.length_map] at hi;exact hi
     have hrow := HS.out.row
     have x0 := HS.out.blk.cell 0
     simp at x0
     have xl := HS.out.blk.lt
     obtain ⟨n,hn⟩ : ∃ q,G.length = q := ⟨_,rfl⟩
     rw [hn] at hkG hrow x0
     obtain ⟨g2,rfl⟩ : ∃ g2,aF = some ⟨g2,0,none⟩ := by
      rcases hrow.2 with ⟨_,h0⟩ | ⟨b,cap,cur,hv,_⟩
      ·exfalso;omega
      ·simp only [Value.slice.injEq] at hv;exact ⟨b,hv.1⟩
     have hrl := rcells_length G
     rw [hn] at hrl
     have c0 := hrow.cellAt (i * 4) (by omega)
     have f0 := hrow.frozenAt (i * 4)
     obtain ⟨r0,r1,r2,r3⟩ := rcells_at G i (by rw [hn];exact hkG)
     rw [r0] at c0
     have c0e : ∃ OLD : ByteArray,w'.cell? ⟨g2,i * 4,none⟩ = some (.string OLD) := ⟨_,c0⟩
     clear c0
     obtain ⟨OLD,c0⟩ := c0e
     have gl := (hrow.lt g2 rfl).2
     have k0 : (0 : Int) ≤ (i : Int) := by omega
     have k1 : (i : Int) < (n : Int) := by omega
     have HG := Lib.hid (And.intro hn hkG)
     have HR := Lib.hid hrow
     clear hn hkG hrow r0 r1 r2 r3 hrl
     go_wp2
     go_ret
     have hkG : i < G.length := by rw [HG.out.1];exact HG.out.2
     obtain ⟨r0,r1,r2,r3⟩ := rcells_at G i hkG
     have s0 := HR.out.stored (i * 4) (.string NB)
     have hF1 : G[i].1 = F[i]'(by rw [← HS.out.files,List.length_map];exact hkG) := by have := HS.out.files;subst this;simp
     have hset : (rcells G).set (i * 4) (.string NB) = rcells (G.set i (⟨b,G[i].1.data,G[i].1.ext,G[i].1.entry⟩,G[i].2)) := by
      rw [← rcells_set (⟨b,G[i].1.data,G[i].1.ext,G[i].1.entry⟩,G[i].2) (.string NB) (.string (mk G[i].1.data)) (.slice G[i].2.1 G[i].1.ext.length G[i].2.2) (.int .i64 G[i].1.entry) (by simp only [rcell,HNB.out]) G i hkG]
      have e1 : ∀ (L : List Value) (j : Nat) (v : Value),L[j]? = some v → L.set j v = L := fun L j v h => by
       obtain ⟨h1,h2⟩ := List.getElem?_eq_some_iff.1 h
       rw [← h2,List.set_getElem_self]
      rw [e1 _ (i * 4 + 3) _ (by rw [List.getElem?_set_ne (by omega),List.getElem?_set_ne (by omega),List.getElem?_set_ne (by omega)];exact r3),e1 _ (i * 4 + 2) _ (by rw [List.getElem?_set_ne (by omega),List.getElem?_set_ne (by omega)];exact r2),e1 _ (i * 4 + 1) _ (by rw [List.getElem?_set_ne (by omega)];exact r1)]
     rw [hset] at s0
     have hgR : g2 ≠ R := fun e => by
      obtain ⟨c,fz,h1⟩ := row_kind HR.out g2 rfl
      have h2 := HS.out.blk
      unfold Blk at h2
      rw [← e,h1] at h2
      injection h2 with h2
      injection h2 with _ h3 _
      exact absurd h3 (by decide)
     have hf4 : Frm (R :: fb (some ⟨g2,0,none⟩)) w' (w'.setCell ⟨g2,i * 4,none⟩ (.string NB)) := ⟨s0.2.os,s0.2.tape,s0.2.output,s0.2.size,fun q hq hn => s0.2.block q hq (fun e => hn (List.mem_cons_of_mem _ (by
       have e2 : q = g2 := by simpa [Value.ownBlock] using e
       rw [e2];exact List.mem_cons_self ..)))⟩
     have hGl : (G.set i ((⟨b,G[i].1.data,G[i].1.ext,G[i].1.entry⟩,G[i].2) : PG)).length = n := by rw [List.length_set,HG.out.1]
     obtain ⟨Y',h1,h2⟩ := HS.out.setF (G' := G.set i ((⟨b,G[i].1.data,G[i].1.ext,G[i].1.entry⟩,G[i].2) : PG)) (a' := some ⟨g2,0,none⟩) (c' := cF) hf4 (by rw [hGl, ← HG.out.1];exact HS.out.blk.grown s0.2 (fun e => hgR (by simpa [Value.ownBlock] using e))) (by rw [hGl];exact s0.1) (fun z hz => by
      rcases List.mem_or_eq_of_mem_set hz with h | h
      ·exact HS.out.exts z h
      ·subst h
       exact HS.out.exts G[i] (List.getElem_mem hkG)) (fun b hb => .inl hb)
     refine ⟨rfl,Y', ?_,HM.out.trans h2⟩
     rw [List.map_set,HS.out.files] at h1
     dsimp only at h1
     rw [hF1] at h1
     exact h1
    | some j =>
     rw [hfb] at hp
     unfold idxF at hfb
     simp only [hfb] at KFb
     have hj : j < F.length := (List.findIdx?_eq_some_iff_getElem.1 hfb).1
     dsimp only at hp
     rw [List.getElem?_eq_getElem hj,Option.map_some,Option.getD_some] at hp
     obtain ⟨T2,ht,hp2⟩ := Option.bind_eq_some_iff.1 hp
     obtain ⟨k,hkf,hp3⟩ := Option.map_eq_some_iff.1 hp2
     simp only [Prod.mk.injEq] at hp3
     obtain ⟨rfl,rfl,rfl⟩ := hp3
     have hk : k < (F.eraseIdx j).length := by unfold idxF at hkf;exact (List.findIdx?_eq_some_iff_getElem.1 hkf).1
     have KD := rdrop_any j Y R F T T2 most w h hF hT hj (hl _ (List.getElem_mem hj)) ht
     have hle : (F.eraseIdx j).length ≤ 1000 := by rw [List.length_eraseIdx_of_lt hj];omega
     have HKF := Lib.hid (show findI (F.eraseIdx j) a = (k : Int) by unfold findI;unfold idxF at hkf;rw [hkf])
     obtain ⟨F1,hF1⟩ : ∃ q,F.eraseIdx j = q := ⟨_,rfl⟩
     rw [hF1] at hk KD hle HKF ⊢
     have hSN : setName F1 k b = F1.set k ⟨b,F1[k].data,F1[k].ext,F1[k].entry⟩ := by unfold setName;rw [List.getElem?_eq_getElem hk]
     rw [hSN]
     have j0 : (0 : Int) ≤ (j : Int) := by omega
     have j1 : (j : Int) ≥ 0 := by omega
     clear h hl hF hT hf hSN hfb hi hp hp2 hkf hF1 ht hj
     go_enter Tryz.func66,Tryz.ntmps66
     go_upto_region 12 with (first
      | (go_at_call 12;refine KGa.mono ?_;rintro e w' ⟨rfl,rfl⟩;clear KGa)
      | (go_at_call 12;refine KGb.mono ?_;rintro e w' ⟨rfl,rfl⟩;clear KGb)
      | (go_at_call 107;refine KD.mono ?_;rintro e w4 ⟨rfl,Y1,hS4,hM4⟩;have KF3 := KF2 Y1 F1 T2 w4 hS4 hle;rw [HKF.out] at KF3;have H4 := Lib.hid (And.intro hS4 hM4);clear KD hS4 hM4 KF2)
      | (go_at_call 68;refine KF3.mono ?_;rintro e w' ⟨rfl,rfl⟩;clear KF3)
      | (go_at_call 68;refine KF.mono ?_;rintro e w' ⟨rfl,rfl⟩;clear KF)
      | (go_at_call 68;refine KFb.mono ?_;rintro e w' ⟨rfl,rfl⟩;clear KFb))
     obtain ⟨aF,cF,aT,cT,G,hA⟩ := H4.out.1
     have HS := Lib.hid hA
     have HM := Lib.hid H4.out.2
     clear hA
     have hkG : k < G.length := by have := HS.out.files;rw [← this,List.length_map] at hk;exact hk
     have hrow := HS.out.row
     have x0 := HS.out.blk.cell 0
     simp at x0
     have xl := HS.out.blk.lt
     obtain ⟨n,hn⟩ : ∃ q,G.length = q := ⟨_,rfl⟩
     rw [hn] at hkG hrow x0
     obtain ⟨g2,rfl⟩ : ∃ g2,aF = some ⟨g2,0,none⟩ := by
      rcases hrow.2 with ⟨_,h0⟩ | ⟨b,cap,cur,hv,_⟩
      ·exfalso;omega
      ·simp only [Value.slice.injEq] at hv;exact ⟨b,hv.1⟩
     have hrl := rcells_length G
     rw [hn] at hrl
     have c0 := hrow.cellAt (k * 4) (by omega)
     have f0 := hrow.frozenAt (k * 4)
     obtain ⟨r0,r1,r2,r3⟩ := rcells_at G k (by rw [hn];exact hkG)
     rw [r0] at c0
     have c0e : ∃ OLD : ByteArray,w'.cell? ⟨g2,k * 4,none⟩ = some (.string OLD) := ⟨_,c0⟩
     clear c0
     obtain ⟨OLD,c0⟩ := c0e
     have gl := (hrow.lt g2 rfl).2
     have k0 : (0 : Int) ≤ (k : Int) := by omega
     have k1 : (k : Int) < (n : Int) := by omega
     have HG := Lib.hid (And.intro hn hkG)
     have HR := Lib.hid hrow
     clear hn hkG hrow r0 r1 r2 r3 hrl
     go_wp2
     go_ret
     have hkG : k < G.length := by rw [HG.out.1];exact HG.out.2
     obtain ⟨r0,r1,r2,r3⟩ := rcells_at G k hkG
     have s0 := HR.out.stored (k * 4) (.string NB)
     have hF1 : G[k].1 = F1[k]'(by rw [← HS.out.files,List.length_map];exact hkG) := by have := HS.out.files;subst this;simp
     have hset : (rcells G).set (k * 4) (.string NB) = rcells (G.set k (⟨b,G[k].1.data,G[k].1.ext,G[k].1.entry⟩,G[k].2)) := by
      rw [← rcells_set (⟨b,G[k].1.data,G[k].1.ext,G[k].1.entry⟩,G[k].2) (.string NB) (.string (mk G[k].1.data)) (.slice G[k].2.1 G[k].1.ext.length G[k].2.2) (.int .i64 G[k].1.entry) (by simp only [rcell,HNB.out]) G k hkG]
      have e1 : ∀ (L : List Value) (j : Nat) (v : Value),L[j]? = some v → L.set j v = L := fun L j v h => by
       obtain ⟨h1,h2⟩ := List.getElem?_eq_some_iff.1 h
       rw [← h2,List.set_getElem_self]
      rw [e1 _ (k * 4 + 3) _ (by rw [List.getElem?_set_ne (by omega),List.getElem?_set_ne (by omega),List.getElem?_set_ne (by omega)];exact r3),e1 _ (k * 4 + 2) _ (by rw [List.getElem?_set_ne (by omega),List.getElem?_set_ne (by omega)];exact r2),e1 _ (k * 4 + 1) _ (by rw [List.getElem?_set_ne (by omega)];exact r1)]
     rw [hset] at s0
     have hgR : g2 ≠ R := fun e => by
      obtain ⟨c,fz,h1⟩ := row_kind HR.out g2 rfl
      have h2 := HS.out.blk
      unfold Blk at h2
      rw [← e,h1] at h2
      injection h2 with h2
      injection h2 with _ h3 _
      exact absurd h3 (by decide)
     have hf4 : Frm (R :: fb (some ⟨g2,0,none⟩)) w' (w'.setCell ⟨g2,k * 4,none⟩ (.string NB)) := ⟨s0.2.os,s0.2.tape,s0.2.output,s0.2.size,fun q hq hn => s0.2.block q hq (fun e => hn (List.mem_cons_of_mem _ (by
       have e2 : q = g2 := by simpa [Value.ownBlock] using e
       rw [e2];exact List.mem_cons_self ..)))⟩
     have hGl : (G.set k ((⟨b,G[k].1.data,G[k].1.ext,G[k].1.entry⟩,G[k].2) : PG)).length = n := by rw [List.length_set,HG.out.1]
     obtain ⟨Y',h1,h2⟩ := HS.out.setF (G' := G.set k ((⟨b,G[k].1.data,G[k].1.ext,G[k].1.entry⟩,G[k].2) : PG)) (a' := some ⟨g2,0,none⟩) (c' := cF) hf4 (by rw [hGl, ← HG.out.1];exact HS.out.blk.grown s0.2 (fun e => hgR (by simpa [Value.ownBlock] using e))) (by rw [hGl];exact s0.1) (fun z hz => by
      rcases List.mem_or_eq_of_mem_set hz with h | h
      ·exact HS.out.exts z h
      ·subst h
       exact HS.out.exts G[k] (List.getElem_mem hkG)) (fun b hb => .inl hb)
     refine ⟨rfl,Y', ?_,HM.out.trans h2⟩
     rw [List.map_set,HS.out.files] at h1
     dsimp only at h1
     rw [hF1] at h1
     exact h1
open Go.RowKit
def wriS (F : List PF) (T : List Bool) (most en : Nat) (name data : Bs) : Option (Nat × List PF × List Bool) :=
 if goodF name = false then some (11,F,T) else if 1048576 < data.length then some (6,F,T) else match idxF F name with
 | none => if F.length = most then some (8,F,T) else match takeS T (needsN data.length) 64 with
  | none => some (8,F,T)
  | some (l,T1) => some (0,F ++ [⟨name,data,l,en⟩],T1)
 | some i => match takeS T (needsN data.length) 64 with
  | none => some (8,F,T)
  | some (l,T1) => (turnS false T1 ((F[i]?.map (·.ext)).getD [])).map fun T2 => (0,F.set i ⟨name,data,l,(F[i]?.map (·.entry)).getD 0⟩,T2)
set_option maxRecDepth 100000 in
set_option maxHeartbeats 1000000 in
theorem rwrite_new (Y : List Nat) (R : Nat) (F : List PF) (T T1 : List Bool) (most en : Nat) (l : List (Nat × Nat)) (name data : Bs) (w : World) (h : RSt w Y R F T most) (hF : F.length ≤ 1000) (hT : T.length ≤ 100000) (_hm : most ≤ 1000) (hne : F.length ≠ most)
  (hg : goodF name = true) (hd : data.length ≤ 1048576) (hnm : name.length ≤ maxLen) (hf : idxF F name = none) (ht : takeS T (needsN data.length) 64 = some (l,T1)) (hen : ∀ f ∈ F,f.entry ≠ en) (hen2 : ∀ e,e < en → ∃ f ∈ F,f.entry = e) (hen3 : en ≤ 1000) :
  Calls Tryz.prog 64 #[.pointer (some ⟨R,0,none⟩), .string (mk name), .string (mk data)] w fun e w' => e = .returned (.int .i64 0) ∧ ∃ Y',RSt w' Y' R (F ++ [⟨name,data,l,en⟩]) T1 most ∧ Mv (R :: Y) (R :: Y') w w' := by
 have KG := rgood_any (mk name) w (by rw [mk_size];exact hnm)
 rw [mk_data,hg] at KG
 have KF := rfind_any Y R F T most name w h hF
 rw [show findI F name = -1 by unfold findI;unfold idxF at hf;rw [hf]] at KF
 obtain ⟨aF,cF,aT,cT,G,hA⟩ := h
 have KT := fun (w1 : World) (h1 : Lies w1 aT (tcells T)) => rtake_any T (needsN data.length) 64 aT cT w1 h1 hT (by unfold needsN;omega) (by decide)
 have KP := fun (Y1 : List Nat) (aX : Option Addr) (cX : Nat) (w1 : World) (h1 : RSt w1 Y1 R F T1 most) (hX : Lies w1 aX (ecells l) ∧ Typed w1 aX 205 ∧ ∀ a,aX = some a → a.block ∈ Y1) => rput_new Y1 R F T1 most ⟨name,data,l,en⟩ aX cX w1 h1 hX hF
 dsimp only at KP
 have hGF : G.length = F.length := by rw [← hA.files,List.length_map]
 have hb := hA.blk
 obtain ⟨NM,hNM⟩ : ∃ q,mk name = q := ⟨_,rfl⟩
 obtain ⟨DT,hDT⟩ : ∃ q,mk data = q := ⟨_,rfl⟩
 have hds : DT.size = data.length := by rw [← hDT,mk_size]
 obtain ⟨dl,hdl⟩ : ∃ q,data.length = q := ⟨_,rfl⟩
 obtain ⟨n,hn⟩ : ∃ q,G.length = q := ⟨_,rfl⟩
 obtain ⟨nt,hnt⟩ : ∃ q,T.length = q := ⟨_,rfl⟩
 obtain ⟨nl,hnl⟩ : ∃ q,l.length = q := ⟨_,rfl⟩
 rw [hdl] at hds hd
 rw [hn] at hGF
 rw [← hGF] at hne hF
 simp only [hNM,hDT,hdl,hn,hnt,hnl] at KG KF KT KP hb ⊢
 have hds0 : (DT.size : Int) = (dl : Int) := by rw [hds]
 obtain ⟨nd,hnd⟩ : ∃ q,needsN dl = q := ⟨_,rfl⟩
 simp only [hdl,hnd] at ht KT
 have HTK := Lib.hid ht
 obtain ⟨n1,hn1⟩ : ∃ q,T1.length = q := ⟨_,rfl⟩
 have HT1 := Lib.hid hn1
 have HND := Lib.hid hnd
 have HA := Lib.hid hA
 have HN := Lib.hid (And.intro hn (And.intro hnt (And.intro hnl hGF)))
 have HE := Lib.hid (And.intro hen (And.intro hen2 hen3))
 have HG := Lib.hid (show ∀ j (hj : j < G.length) (hj2 : j < F.length),G[j].1 = F[j] from fun j hj hj2 => by
  have := hA.files
  subst this
  simp)
 have x0 := hb.cell 0
 have x1 := hb.cell 1
 have x2 := hb.cell 2
 simp at x0 x1 x2
 have xl := hb.lt
 have hq0 : ((n : Int) == (most : Int)) = false := by simp;omega
 have hq1 : ¬ ((n : Int) = (most : Int)) := by omega
 have hq2 : ¬ ((dl : Int) > 1048576) := by omega
 have mixed := mixedT
 clear hn1 hnd hA hb hn hnt hnl hNM hDT hdl hf ht hen hen2 hg hnm hGF
 go_enter Tryz.func64,Tryz.ntmps64
 go_upto_region 6 with (first
  | (go_at_call 12;refine KG.mono ?_;rintro e w' ⟨rfl,rfl⟩;clear KG)
  | (go_at_call 68;refine KF.mono ?_;rintro e w' ⟨rfl,rfl⟩;clear KF))
 go_quiet (fail)
 obtain ⟨wq,hwq⟩ : ∃ q,w'.drewN nq = q := ⟨_,rfl⟩
 have hbq : Below w'.heap.size w' wq := by rw [← hwq];exact ⟨rfl,rfl,rfl,Nat.le_refl _,fun _ _ => rfl⟩
 rw [hwq]
 clear hwq x0 x1 x2 xl
 have HQ := Lib.hid (And.intro (HA.out.below hbq) hbq)
 have x1 := HQ.out.1.blk.cell 1
 simp at x1
 rw [HN.out.2.1] at x1
 have xl := HQ.out.1.blk.lt
 have KW := KT wq HQ.out.1.units
 clear hbq KT
 have hquo : ((dl : Int) + 511).tdiv 512 = ((nd : Nat) : Int) := by
  rw [← HND.out]
  unfold needsN
  rw [Int.tdiv_eq_ediv_of_nonneg (by omega)]
  omega
 have hnd9 : nd ≤ 2049 := by rw [← HND.out];unfold needsN;omega
 have hnd8 : (nd : Int) ≤ 2049 := by omega
 have hnd7 : (0 : Int) ≤ (nd : Int) := by omega
 have hwr : wrap64 (nd : Int) = (nd : Int) := by simp [wrap64];omega
 go_upto_region 9 with (first
  | (go_at_call 104;rw [hwr];refine KW.mono ?_;rintro e w3 ⟨hb3,hs3,_⟩;have hs4 := hs3 l T1 HTK.out;simp only [HN.out.2.2.1,HT1.out] at hs4;obtain ⟨AO,cO,A1,c1,rfl,hrO,hr1⟩ := hs4;have H3 := Lib.hid (And.intro hb3 (And.intro hrO hr1));clear hb3 hs3 hrO hr1 KW))
 have hB4 := Blk.new w3 #[.slice A1 n1 c1] 127
 have hb4 := (H3.out.1.alloc H3.out.1.size (.cells #[.slice A1 n1 c1] 127))
 have hO4 := World.ownsRow.alloc H3.out.2.1 (.cells #[.slice A1 n1 c1] 127)
 have h14 := World.ownsRow.alloc H3.out.2.2 (.cells #[.slice A1 n1 c1] 127)
 have hz := H3.out.1.size
 obtain ⟨B,hB⟩ : ∃ q,w3.heap.size = q := ⟨_,rfl⟩
 obtain ⟨W4,hW4⟩ : ∃ q,w3.alloc (.cells #[.slice A1 n1 c1] 127) = q := ⟨_,rfl⟩
 rw [hB] at hB4 hz
 rw [hW4] at hB4 hb4 hO4 h14 ⊢
 try simp only [hB]
 have H4 := Lib.hid (And.intro (HQ.out.1.below hb4) (And.intro hB4 (And.intro hb4 (And.intro hO4 (And.intro h14 hz)))))
 clear hB hW4 hB4 hb4 hO4 h14 hz H3 x1 xl hquo hwr hnd9 hnd8 hnd7
 have x0 := H4.out.1.blk.cell 0
 simp at x0
 rw [HN.out.1] at x0
 have xl := H4.out.1.blk.lt
 have HL := Lib.hid (Lies.of_row H4.out.1.row)
 go_wp2
 go_loopw [11,12] (fun ev kv wr => ∃ e k : Nat,ev = .int .i64 e ∧ kv = .int .i64 k ∧ k ≤ n ∧ e ≤ en ∧ (∀ j (hj : j < F.length),j < k → F[j].entry ≠ e) ∧ wr = W4) (fun ev kv _ => (en - (intOf ev).toNat) * (n + 2) + (n - (intOf kv).toNat))
 case atStart => exact ⟨0,0,rfl,rfl,Nat.zero_le _,Nat.zero_le _,fun j _ h => absurd h (by omega),rfl⟩
 case round =>
  obtain ⟨e,k,rfl,rfl,hk,he,hall,rfl⟩ := hrel
  have k0 : (0 : Int) ≤ (k : Int) := by omega
  have e0 : (0 : Int) ≤ (e : Int) := by omega
  have e1 : (e : Int) ≤ 1000 := by omega
  by_cases hlt : k < n
  ·have hkl : k < F.length := by rw [← HN.out.2.2.2];exact hlt
   have hkg : k < G.length := by rw [HN.out.1];exact hlt
   have k1 : (k : Int) < (n : Int) := by omega
   obtain ⟨g,o,rfl,hgl,hcs⟩ := HL.out (by rw [rcells_length];omega)
   have c0 := hcs _ _ (rcells_at G k hkg).2.2.2
   rw [HG.out k hkg hkl,show o + (k * 4 + 3) = o + k * 4 + 3 by omega] at c0
   have hne := HE.out.1 F[k] (List.getElem_mem hkl)
   obtain ⟨v,hv⟩ : ∃ q,F[k].entry = q := ⟨_,rfl⟩
   rw [hv] at c0 hne
   have HALL := Lib.hid hall
   have HV := Lib.hid hv
   by_cases hb : v = e
   ·subst hb
    have he2 : v + 1 ≤ en := by omega
    have hms : (en - (v + 1)) * (n + 2) + n < (en - v) * (n + 2) + (n - k) := by
     rw [show en - v = (en - (v + 1)) + 1 by omega,Nat.succ_mul]
     omega
    clear hall hcs hv hne
    go_wp2
    go_roundw
    case rel => exact ⟨v + 1,0,by go_num,by go_num,Nat.zero_le _,he2,fun j _ h => absurd h (by omega),trivial⟩
    case measure => simp [intOf];simpa using hms
   ·have hbi : ¬ ((v : Int) = (e : Int)) := by omega
    have hbi2 : ((v : Int) == (e : Int)) = false := by simp;omega
    have HB := Lib.hid hb
    clear hall hcs hv hne hb
    go_wp2
    go_roundw
    case rel => exact ⟨e,k + 1,rfl,by go_num,by omega,he,fun j hj hjk => (by
     by_cases h : j = k
     ·subst h;rw [HV.out];exact HB.out
     ·exact HALL.out j hj (by omega)),trivial⟩
    case measure => simp [intOf];omega
  ·obtain rfl : n = k := by omega
   obtain rfl : e = en := by
    rcases Nat.lt_or_ge e en with h | h
    ·obtain ⟨f,hf,hfe⟩ := HE.out.2.1 e h
     obtain ⟨j,hj,rfl⟩ := List.getElem_of_mem hf
     exact absurd hfe (hall j hj (by rw [HN.out.2.2.2];exact hj))
    ·omega
   have b0 := H4.out.2.1.cell 0
   have bl := H4.out.2.1.lt
   have x1 := H4.out.1.blk.cell 1
   have xf := H4.out.1.blk.frozen 1
   simp at b0 x1
   rw [HN.out.2.1] at x1
   clear hall
   have hneB : R ≠ B := by have h1 := HQ.out.1.blk.lt;have h2 := H4.out.2.2.2.2.2;omega
   go_upto_region 22 with (fail)
   have hne1 : ∀ g,(Value.slice A1 n1 c1).ownBlock = some g → g ≠ R := fun g hg => by
    have h1 := (H4.out.2.2.2.2.1.lt g hg).1
    have h2 := HQ.out.1.blk.lt
    omega
   have hneO : ∀ g,(Value.slice AO nl cO).ownBlock = some g → g ≠ R := fun g hg => by
    have h1 := (H4.out.2.2.2.1.lt g hg).1
    have h2 := HQ.out.1.blk.lt
    omega
   have hr5 := row_block H4.out.2.2.2.2.1 (w' := wr.setCell ⟨R,1,none⟩ (.slice A1 n1 c1)) (fun g hg => Below.heap_setCell wr ⟨R,1,none⟩ _ g (hne1 g hg))
   have hO5 := row_block H4.out.2.2.2.1 (w' := wr.setCell ⟨R,1,none⟩ (.slice A1 n1 c1)) (fun g hg => Below.heap_setCell wr ⟨R,1,none⟩ _ g (hneO g hg))
   have hf5 : Frm [R] wq (wr.setCell ⟨R,1,none⟩ (.slice A1 n1 c1)) := ⟨H4.out.2.2.1.os,H4.out.2.2.1.tape,H4.out.2.2.1.output,by simpa using H4.out.2.2.1.size,fun q hq hn => (Below.heap_setCell wr ⟨R,1,none⟩ _ q (fun h => hn (by rw [show q = R from h];exact List.mem_cons_self ..))).trans (H4.out.2.2.1.block q hq)⟩
   have hB5 := H4.out.1.blk.set 1 (.slice A1 n1 c1)
   obtain ⟨R5,M5⟩ := HQ.out.1.setT (T' := T1) (a' := A1) (c' := c1) hf5 (by rw [HT1.out];exact hB5) (Lies.of_row hr5) (Typed.of_row hr5) (fun b hb => by
    obtain ⟨a,rfl,rfl⟩ := mem_fb hb
    exact .inl (H4.out.2.2.2.2.1.lt a.block rfl).1)
   have R6 := R5.more AO 205 (Typed.of_row hO5) (.inr (.inr (.inr rfl))) (by decide)
   have M6 : Mv (R :: Y) (R :: (fb AO ++ (fb A1 ++ Y))) wq (wr.setCell ⟨R,1,none⟩ (.slice A1 n1 c1)) := ⟨M5.frm,fun x hx => by
    rcases List.mem_cons.1 hx with rfl | hx
    ·exact .inl (List.mem_cons_self ..)
    ·rcases List.mem_append.1 hx with h1 | h1
     ·obtain ⟨a,rfl,rfl⟩ := mem_fb h1
      exact .inr (H4.out.2.2.2.1.lt a.block rfl).1
     ·exact M5.sub x (List.mem_cons_of_mem _ h1)⟩
   have KW := KP _ AO cO _ ⟨aF,cF,A1,c1,G,R6⟩ ⟨Lies.of_row hO5,Typed.of_row hO5,fun a ha => List.mem_append_left _ (by subst ha;exact List.mem_cons_self ..)⟩
   have HM := Lib.hid ((Mv.of_below (R :: Y) HQ.out.2).trans M6)
   clear hne1 hneO hr5 hO5 hf5 hB5 R5 M5 R6 M6 KP x0 x1 xf b0 bl xl
   go_wp2_with (first
    | (go_at_call 106;refine KW.mono ?_;rintro e w6 ⟨rfl,Y',hS6,hM6⟩;clear KW))
   go_ret
   exact ⟨rfl,Y',hS6,HM.out.trans hM6⟩
open Go.RowKit
set_option maxRecDepth 100000 in
set_option maxHeartbeats 1000000 in
theorem rwrite_at (Y : List Nat) (R : Nat) (F : List PF) (T T1 T2 : List Bool) (most i : Nat) (l : List (Nat × Nat)) (name data : Bs) (w : World) (h : RSt w Y R F T most) (hF : F.length ≤ 1000) (hT : T.length ≤ 100000)
  (hg : goodF name = true) (hd : data.length ≤ 1048576) (hnm : name.length ≤ maxLen) (hf : idxF F name = some i) (hi : i < F.length) (ht : takeS T (needsN data.length) 64 = some (l,T1)) (htu : turnS false T1 F[i].ext = some T2) (hlx : F[i].ext.length ≤ 100000) (hei : F[i].entry ≤ 1000) :
  Calls Tryz.prog 64 #[.pointer (some ⟨R,0,none⟩), .string (mk name), .string (mk data)] w fun e w' => e = .returned (.int .i64 0) ∧ ∃ Y',RSt w' Y' R (F.set i ⟨name,data,l,F[i].entry⟩) T2 most ∧ Mv (R :: Y) (R :: Y') w w' := by
 have KG := rgood_any (mk name) w (by rw [mk_size];exact hnm)
 rw [mk_data,hg] at KG
 have KF := rfind_any Y R F T most name w h hF
 rw [show findI F name = (i : Int) by unfold findI;unfold idxF at hf;rw [hf]] at KF
 obtain ⟨EX,hEX⟩ : ∃ q,F[i].ext = q := ⟨_,rfl⟩
 obtain ⟨en,hEN⟩ : ∃ q,F[i].entry = q := ⟨_,rfl⟩
 rw [hEX] at htu hlx
 rw [hEN] at hei ⊢
 obtain ⟨aF,cF,aT,cT,G,hA⟩ := h
 have KT := fun (w1 : World) (h1 : Lies w1 aT (tcells T)) => rtake_any T (needsN data.length) 64 aT cT w1 h1 hT (by unfold needsN;omega) (by decide)
 have KP := fun (Y1 : List Nat) (aX : Option Addr) (cX : Nat) (w1 : World) (h1 : RSt w1 Y1 R F T2 most) (hX : Lies w1 aX (ecells l) ∧ Typed w1 aX 205 ∧ ∀ a,aX = some a → a.block ∈ Y1) => rput_at i Y1 R F T2 most ⟨name,data,l,en⟩ aX cX w1 h1 hX hF hi
 dsimp only at KP
 have hGF : G.length = F.length := by rw [← hA.files,List.length_map]
 have hb := hA.blk
 obtain ⟨NM,hNM⟩ : ∃ q,mk name = q := ⟨_,rfl⟩
 obtain ⟨DT,hDT⟩ : ∃ q,mk data = q := ⟨_,rfl⟩
 have hds : DT.size = data.length := by rw [← hDT,mk_size]
 obtain ⟨dl,hdl⟩ : ∃ q,data.length = q := ⟨_,rfl⟩
 obtain ⟨n,hn⟩ : ∃ q,G.length = q := ⟨_,rfl⟩
 obtain ⟨nt,hnt⟩ : ∃ q,T.length = q := ⟨_,rfl⟩
 obtain ⟨nl,hnl⟩ : ∃ q,l.length = q := ⟨_,rfl⟩
 rw [hdl] at hds hd
 rw [hn] at hGF
 rw [← hGF] at hF
 have hiG : i < G.length := by rw [hn,hGF];exact hi
 have hGi : G[i].1 = F[i] := by have := hA.files;subst this;simp
 have hex := hA.exts G[i] (List.getElem_mem hiG)
 have hrc := (rcells_at G i hiG).2.2
 rw [hGi,hEX,hEN] at hrc
 rw [hGi,hEX] at hex
 obtain ⟨E,hE⟩ : ∃ q,G[i].2 = q := ⟨_,rfl⟩
 rw [hE] at hrc hex
 obtain ⟨aE,cE⟩ := E
 dsimp only at hrc hex
 have KU := fun (w1 : World) (A1 : Option Addr) (c1 : Nat) (h1 : Lies w1 A1 (tcells T1)) (h2 : Lies w1 aE (ecells EX)) (h3 : T1.length ≤ 100000) => rturn_any false T1 T2 EX A1 c1 aE cE w1 h1 h2 h3 hlx htu
 have hT2 := turnS_len _ _ _ _ htu
 obtain ⟨nx,hnx⟩ : ∃ q,EX.length = q := ⟨_,rfl⟩
 rw [hnx] at hrc
 simp only [hnx,hT2] at KU
 have i0 : (0 : Int) ≤ (i : Int) := by omega
 have i1 : ¬ ((i : Int) < 0) := by omega
 have i2 : (i : Int) < (n : Int) := by omega
 have i3 : i < n := by omega
 have i4 : (i : Int) ≥ 0 := by omega
 have i5 : decide ((i : Int) < 0) = false := decide_eq_false i1
 have HX := Lib.hid (And.intro hrc (And.intro hex.1 hex.2.1))
 have en0 : (en : Int) ≤ 1000 := by omega
 simp only [hNM,hDT,hdl,hn,hnt,hnl] at KG KF KT KP hb ⊢
 have hds0 : (DT.size : Int) = (dl : Int) := by rw [hds]
 obtain ⟨nd,hnd⟩ : ∃ q,needsN dl = q := ⟨_,rfl⟩
 simp only [hdl,hnd] at ht KT
 have HTK := Lib.hid ht
 have HLT := Lib.hid (show T1.length ≤ 100000 by have := (takeS_facts ht).2.2.2.1;omega)
 obtain ⟨n1,hn1⟩ : ∃ q,T1.length = q := ⟨_,rfl⟩
 have HT1 := Lib.hid hn1
 have HND := Lib.hid hnd
 have HA := Lib.hid hA
 have HN := Lib.hid (And.intro hn (And.intro hnt (And.intro hnl hGF)))
 have HT2 := Lib.hid (hT2.trans hn1)
 have x0 := hb.cell 0
 have x1 := hb.cell 1
 have x2 := hb.cell 2
 simp at x0 x1 x2
 have xl := hb.lt
 have hq2 : ¬ ((dl : Int) > 1048576) := by omega
 have mixed := mixedT
 clear hn1 hnd hA hb hn hnt hnl hNM hDT hdl hf ht hg hnm hGF htu hlx hei hEX hEN hrc hex hE hGi hiG hT2 hnx
 go_enter Tryz.func64,Tryz.ntmps64
 go_upto_region 6 with (first
  | (go_at_call 12;refine KG.mono ?_;rintro e w' ⟨rfl,rfl⟩;clear KG)
  | (go_at_call 68;refine KF.mono ?_;rintro e w' ⟨rfl,rfl⟩;clear KF))
 go_quiet (fail)
 obtain ⟨wq,hwq⟩ : ∃ q,w'.drewN nq = q := ⟨_,rfl⟩
 have hbq : Below w'.heap.size w' wq := by rw [← hwq];exact ⟨rfl,rfl,rfl,Nat.le_refl _,fun _ _ => rfl⟩
 rw [hwq]
 clear hwq x0 x1 x2 xl
 have HQ := Lib.hid (And.intro (HA.out.below hbq) hbq)
 have x1 := HQ.out.1.blk.cell 1
 simp at x1
 rw [HN.out.2.1] at x1
 have xl := HQ.out.1.blk.lt
 have KW := KT wq HQ.out.1.units
 clear hbq KT
 have hquo : ((dl : Int) + 511).tdiv 512 = ((nd : Nat) : Int) := by
  rw [← HND.out]
  unfold needsN
  rw [Int.tdiv_eq_ediv_of_nonneg (by omega)]
  omega
 have hnd9 : nd ≤ 2049 := by rw [← HND.out];unfold needsN;omega
 have hnd8 : (nd : Int) ≤ 2049 := by omega
 have hnd7 : (0 : Int) ≤ (nd : Int) := by omega
 have hwr : wrap64 (nd : Int) = (nd : Int) := by simp [wrap64];omega
 go_upto_region 9 with (first
  | (go_at_call 104;rw [hwr];refine KW.mono ?_;rintro e w3 ⟨hb3,hs3,_⟩;have hs4 := hs3 l T1 HTK.out;simp only [HN.out.2.2.1,HT1.out] at hs4;obtain ⟨AO,cO,A1,c1,rfl,hrO,hr1⟩ := hs4;have H3 := Lib.hid (And.intro hb3 (And.intro hrO hr1));clear hb3 hs3 hrO hr1 KW))
 have hB4 := Blk.new w3 #[.slice A1 n1 c1] 127
 have hb4 := (H3.out.1.alloc H3.out.1.size (.cells #[.slice A1 n1 c1] 127))
 have hO4 := World.ownsRow.alloc H3.out.2.1 (.cells #[.slice A1 n1 c1] 127)
 have h14 := World.ownsRow.alloc H3.out.2.2 (.cells #[.slice A1 n1 c1] 127)
 have hz := H3.out.1.size
 obtain ⟨B,hB⟩ : ∃ q,w3.heap.size = q := ⟨_,rfl⟩
 obtain ⟨W4,hW4⟩ : ∃ q,w3.alloc (.cells #[.slice A1 n1 c1] 127) = q := ⟨_,rfl⟩
 rw [hB] at hB4 hz
 rw [hW4] at hB4 hb4 hO4 h14 ⊢
 try simp only [hB]
 have H4 := Lib.hid (And.intro (HQ.out.1.below hb4) (And.intro hB4 (And.intro hb4 (And.intro hO4 (And.intro h14 hz)))))
 clear hB hW4 hB4 hb4 hO4 h14 hz H3 x1 xl hquo hwr hnd9 hnd8 hnd7
 have hrow := H4.out.1.row
 rw [HN.out.1] at hrow
 obtain ⟨g2,rfl⟩ : ∃ g2,aF = some ⟨g2,0,none⟩ := by
  rcases hrow.2 with ⟨_,h0⟩ | ⟨b,cap,cur,hv,_⟩
  ·exfalso;omega
  ·simp only [Value.slice.injEq] at hv;exact ⟨b,hv.1⟩
 have hrl := rcells_length G
 rw [HN.out.1] at hrl
 have ce := hrow.cellAt (i * 4 + 2) (by omega)
 rw [HX.out.1.1] at ce
 have ce3 := hrow.cellAt (i * 4 + 3) (by omega)
 rw [HX.out.1.2] at ce3
 have gl := (hrow.lt g2 rfl).2
 have hb4 := H4.out.1.blk
 rw [HN.out.1,HN.out.2.1] at hb4
 have hw4 : wq.heap.size ≤ W4.heap.size := H4.out.2.2.1.size
 have KW := KU W4.drew A1 c1 (Lies.of_row H4.out.2.2.2.2.1) (HX.out.2.1.below (Nat.le_refl _) (HQ.out.2.trans (H4.out.2.2.1.drew.mono HQ.out.2.size))) (HLT.out)
 rw [HT1.out] at KW
 go_upto_region 13 with (fail)
 refine wp_region_S 13 (fun _ => True) (fun w' => Blk w' R #[.slice (some ⟨g2,0,none⟩) n cF, .slice aT nt cT, .int .i64 most] 130 ∧ Blk w' B #[.slice A1 n1 c1] 127 ∧ w'.cell? ⟨g2,i * 4 + 2,none⟩ = some (.slice aE nx cE)) mixed ?_
 change wpAnyS _ _ _ _ _ _ _ _ _ _ W4.drew
 have HD := Lib.hid (show Blk W4.drew R #[.slice (some ⟨g2,0,none⟩) n cF, .slice aT nt cT, .int .i64 most] 130 ∧ Blk W4.drew B #[.slice A1 n1 c1] 127 ∧ W4.drew.cell? ⟨g2,i * 4 + 2,none⟩ = some (.slice aE nx cE) from ⟨hb4,H4.out.2.1,ce⟩)
 have hws : W4.drew.heap.size = W4.heap.size := rfl
 have hdr : Below wq.heap.size wq W4.drew := H4.out.2.2.1.drew
 have hhp : ∀ g : Nat,W4.drew.heap[g]? = W4.heap[g]? := fun _ => rfl
 obtain ⟨wd,hwd⟩ : ∃ q,W4.drew = q := ⟨_,rfl⟩
 rw [hwd] at HD KW hws hdr hhp ⊢
 clear hwd KU
 have hE0 : ∀ L : Array Bool,HeldS 13 (fun _ => True) (fun w' => Blk w' R #[.slice (some ⟨g2,0,none⟩) n cF, .slice aT nt cT, .int .i64 most] 130 ∧ Blk w' B #[.slice A1 n1 c1] 127 ∧ w'.cell? ⟨g2,i * 4 + 2,none⟩ = some (.slice aE nx cE)) L wd := fun L => ⟨trivial,fun _ => HD.out⟩
 refine wpAnyS_take2 (i := 0) (v := .agg #[.slice A1 n1 c1]) rfl (by decide) rfl (by kernel_rfl) (by kernel_rfl) (by kernel_rfl) (by kernel_rfl) (by kernel_rfl) (fun c a w h => h) (.inl ⟨by kernel_rfl,fun w' hS => ?_⟩) (hE0 _) ?_
 ·have b0 := hS.2.2.1.cell 0;simp at b0;go_simp
 try go_simp
 refine tkS 1 (.pointer (some ⟨R,0,none⟩)) rfl (hE0 _) (fun w' hS => ?_) ?_
 ·clear hS;go_simp
 try go_simp
 refine tkS 2 (.pointer (some ⟨R,0,none⟩)) rfl (hE0 _) (fun w' hS => ?_) ?_
 ·clear hS;go_simp
 try go_simp
 refine tkS 3 (.pointer (some ⟨R,0,none⟩)) rfl (hE0 _) (fun w' hS => ?_) ?_
 ·clear hS;go_simp
 try go_simp
 refine wpAnyS_take2 (i := 4) (v := .slice (some ⟨g2,0,none⟩) n cF) rfl (by decide) rfl (by kernel_rfl) (by kernel_rfl) (by kernel_rfl) (by kernel_rfl) (by kernel_rfl) (fun c a w h => h) (.inl ⟨by kernel_rfl,fun w' hS => ?_⟩) (hE0 _) ?_
 ·have x0 := hS.2.1.cell 0;simp at x0;go_simp
 try go_simp
 refine tkS 5 (.int .i64 (i : Int)) rfl (hE0 _) (fun w' hS => ?_) ?_
 ·clear hS;go_simp
 try go_simp
 refine tkS 6 (.pointer (some ⟨g2,i * 4,none⟩)) rfl (hE0 _) (fun w' hS => ?_) ?_
 ·clear hS;go_simp
 try go_simp
 refine tkS 7 (.pointer (some ⟨g2,i * 4 + 2,none⟩)) rfl (hE0 _) (fun w' hS => ?_) ?_
 ·clear hS;go_simp
 try go_simp
 refine wpAnyS_take2 (i := 8) (v := .slice aE nx cE) rfl (by decide) rfl (by kernel_rfl) (by kernel_rfl) (by kernel_rfl) (by kernel_rfl) (by kernel_rfl) (fun c a w h => h) (.inl ⟨by kernel_rfl,fun w' hS => ?_⟩) (hE0 _) ?_
 ·have x2 := hS.2.2.2;go_simp
 try go_simp
 refine alS 9 ?_
 unfold wpOp
 go_simp
 refine .inl ?_
 go_at_call 105
 refine KW.mono ?_
 rintro e w5 ⟨A2,c2,rfl,hrow2,hb5⟩
 clear KW
 have hB5 := HD.out.2.1.below hb5
 have hE5 : ∀ L : Array Bool,HeldS 13 (fun _ => True) (fun w' => Blk w' R #[.slice (some ⟨g2,0,none⟩) n cF, .slice aT nt cT, .int .i64 most] 130 ∧ Blk w' B #[.slice A1 n1 c1] 127 ∧ w'.cell? ⟨g2,i * 4 + 2,none⟩ = some (.slice aE nx cE)) L w5 := fun L => ⟨trivial,fun _ => ⟨HD.out.1.below hb5,hB5,(World.cell?_of_block (hb5.block g2 (by omega))).trans HD.out.2.2⟩⟩
 have hO5 := row_block H4.out.2.2.2.1 (w' := w5) (fun g hg => (hb5.block g (by have := (H4.out.2.2.2.1.lt g hg).2;omega)).trans (hhp g))
 have hBl : B < wd.heap.size := by have := H4.out.2.1.lt;omega
 have H5 := Lib.hid (And.intro hrow2 (And.intro (hdr.trans (hb5.mono (by omega))) (And.intro hB5 (And.intro hO5 hBl))))
 clear hrow2 hb5 hB5 hO5 hhp hBl
 refine ⟨hE5 _, ?_⟩
 try go_simp
 refine tkS 10 (.tuple #[.agg #[.slice A2 n1 c2], .bool true]) rfl (hE5 _) (fun w' hS => ?_) ?_
 ·clear hS;go_simp
 try go_simp
 refine tkS 11 (.agg #[.slice A2 n1 c2]) rfl (hE5 _) (fun w' hS => ?_) ?_
 ·clear hS;go_simp
 try go_simp
 refine tkS 12 (.bool true) rfl (hE5 _) (fun w' hS => ?_) ?_
 ·clear hS;go_simp
 try go_simp
 refine alS 13 ?_
 have b0 := H5.out.2.2.1.cell 0
 have bf := H5.out.2.2.1.frozen 0
 have bl := H5.out.2.2.1.lt
 simp at b0
 unfold wpOp
 go_simp
 have hE6 : ∀ L : Array Bool,L.getD 13 false = true → HeldS 13 (fun _ => True) (fun w' => Blk w' R #[.slice (some ⟨g2,0,none⟩) n cF, .slice aT nt cT, .int .i64 most] 130 ∧ Blk w' B #[.slice A1 n1 c1] 127 ∧ w'.cell? ⟨g2,i * 4 + 2,none⟩ = some (.slice aE nx cE)) L (w5.setCell ⟨B,0,none⟩ (.slice A2 n1 c2)) := fun L hL => ⟨trivial,fun e => by rw [hL] at e;cases e⟩
 first | refine .inl ⟨hE6 _ (by kernel_rfl), ?_⟩ | refine ⟨hE6 _ (by kernel_rfl), ?_⟩
 refine wpAnyS_done (by kernel_rfl) ?_ _
 have hB6 := H5.out.2.2.1.set 0 (.slice A2 n1 c2)
 have hz := H4.out.2.2.2.2.2
 have hb6 := below_set H5.out.2.1 B 0 (.slice A2 n1 c2) hz
 have hr6 := row_block H5.out.1 (w' := w5.setCell ⟨B,0,none⟩ (.slice A2 n1 c2)) (fun g hg => Below.heap_setCell w5 ⟨B,0,none⟩ _ g (fun e => by have h1 := (H5.out.1.lt g hg).1;have h2 := H5.out.2.2.2.2;have h3 : g = B := e;omega))
 have hO6 := row_block H5.out.2.2.2.1 (w' := w5.setCell ⟨B,0,none⟩ (.slice A2 n1 c2)) (fun g hg => Below.heap_setCell w5 ⟨B,0,none⟩ _ g (fun e => own_ne_blk H5.out.2.2.2.1 H5.out.2.2.1 (by decide) (by have h3 : g = B := e;rw [← h3];exact hg)))
 have hwq : wq.heap.size ≤ wd.heap.size := hdr.size
 obtain ⟨W6,hW6⟩ : ∃ q,w5.setCell ⟨B,0,none⟩ (.slice A2 n1 c2) = q := ⟨_,rfl⟩
 rw [hW6] at hB6 hb6 hr6 hO6 ⊢
 have H6 := Lib.hid (And.intro (HQ.out.1.below hb6) (And.intro hB6 (And.intro hb6 (And.intro hO6 (And.intro (own_weaken hr6 hwq) hz)))))
 clear hW6 hB6 hb6 hr6 hO6 hE6 hE5 hE0 b0 bf bl hws hdr hz hwq H5 HD hrow hrl ce ce3 gl hb4 hw4
 have x0 := H6.out.1.blk.cell 0
 have x1 := H6.out.1.blk.cell 1
 have xf := H6.out.1.blk.frozen 1
 simp at x0 x1
 rw [HN.out.1] at x0
 rw [HN.out.2.1] at x1
 have xl := H6.out.1.blk.lt
 have hrow := H6.out.1.row
 rw [HN.out.1] at hrow
 have hrl := rcells_length G
 rw [HN.out.1] at hrl
 have ce3 := hrow.cellAt (i * 4 + 3) (by omega)
 rw [HX.out.1.2] at ce3
 have gl := (hrow.lt g2 rfl).2
 have b0 := H6.out.2.1.cell 0
 simp at b0
 have bl := H6.out.2.1.lt
 have hneB : R ≠ B := by have h1 := HQ.out.1.blk.lt;have h2 := H6.out.2.2.2.2.2;omega
 clear hrow hrl
 go_upto_region 22 with (fail)
 have hne1 : ∀ g,(Value.slice A2 n1 c2).ownBlock = some g → g ≠ R := fun g hg => by
  have h1 := (H6.out.2.2.2.2.1.lt g hg).1
  have h2 := HQ.out.1.blk.lt
  omega
 have hneO : ∀ g,(Value.slice AO nl cO).ownBlock = some g → g ≠ R := fun g hg => by
  have h1 := (H6.out.2.2.2.1.lt g hg).1
  have h2 := HQ.out.1.blk.lt
  omega
 have hr5 := row_block H6.out.2.2.2.2.1 (w' := W6.setCell ⟨R,1,none⟩ (.slice A2 n1 c2)) (fun g hg => Below.heap_setCell W6 ⟨R,1,none⟩ _ g (hne1 g hg))
 have hO5 := row_block H6.out.2.2.2.1 (w' := W6.setCell ⟨R,1,none⟩ (.slice A2 n1 c2)) (fun g hg => Below.heap_setCell W6 ⟨R,1,none⟩ _ g (hneO g hg))
 have hf5 : Frm [R] wq (W6.setCell ⟨R,1,none⟩ (.slice A2 n1 c2)) := ⟨H6.out.2.2.1.os,H6.out.2.2.1.tape,H6.out.2.2.1.output,by simpa using H6.out.2.2.1.size,fun q hq hn => (Below.heap_setCell W6 ⟨R,1,none⟩ _ q (fun h => hn (by rw [show q = R from h];exact List.mem_cons_self ..))).trans (H6.out.2.2.1.block q hq)⟩
 have hB5 := H6.out.1.blk.set 1 (.slice A2 n1 c2)
 obtain ⟨R5,M5⟩ := HQ.out.1.setT (T' := T2) (a' := A2) (c' := c2) hf5 (by rw [HT2.out];exact hB5) (Lies.of_row hr5) (Typed.of_row hr5) (fun b hb => by
  obtain ⟨a,rfl,rfl⟩ := mem_fb hb
  exact .inl (H6.out.2.2.2.2.1.lt a.block rfl).1)
 have R6 := R5.more AO 205 (Typed.of_row hO5) (.inr (.inr (.inr rfl))) (by decide)
 have M6 : Mv (R :: Y) (R :: (fb AO ++ (fb A2 ++ Y))) wq (W6.setCell ⟨R,1,none⟩ (.slice A2 n1 c2)) := ⟨M5.frm,fun x hx => by
  rcases List.mem_cons.1 hx with rfl | hx
  ·exact .inl (List.mem_cons_self ..)
  ·rcases List.mem_append.1 hx with h1 | h1
   ·obtain ⟨a,rfl,rfl⟩ := mem_fb h1
    exact .inr (H6.out.2.2.2.1.lt a.block rfl).1
   ·exact M5.sub x (List.mem_cons_of_mem _ h1)⟩
 have KW := KP _ AO cO _ ⟨_,cF,A2,c2,G,R6⟩ ⟨Lies.of_row hO5,Typed.of_row hO5,fun a ha => List.mem_append_left _ (by subst ha;exact List.mem_cons_self ..)⟩
 have HM := Lib.hid ((Mv.of_below (R :: Y) HQ.out.2).trans M6)
 clear hne1 hneO hr5 hO5 hf5 hB5 R5 M5 R6 M6 KP x0 x1 xf b0 bl xl ce3 gl
 go_wp2_with (first
  | (go_at_call 106;refine KW.mono ?_;rintro e w6 ⟨rfl,Y',hS6,hM6⟩;clear KW))
 go_ret
 exact ⟨rfl,Y',hS6,HM.out.trans hM6⟩
open Go.RowKit
set_option maxRecDepth 100000 in
set_option maxHeartbeats 1000000 in
theorem rwrite_bad (Y : List Nat) (R : Nat) (F : List PF) (T : List Bool) (most : Nat) (name data : Bs) (w : World) (h : RSt w Y R F T most) (hnm : name.length ≤ maxLen) (hg : goodF name = false) :
  Calls Tryz.prog 64 #[.pointer (some ⟨R,0,none⟩), .string (mk name), .string (mk data)] w fun e w' => e = .returned (.int .i64 11) ∧ ∃ Y',RSt w' Y' R F T most ∧ Mv (R :: Y) (R :: Y') w w' := by
 have KG := rgood_any (mk name) w (by rw [mk_size];exact hnm)
 rw [mk_data,hg] at KG
 have HH := Lib.hid h
 obtain ⟨NM,hNM⟩ : ∃ q,mk name = q := ⟨_,rfl⟩
 obtain ⟨DT,hDT⟩ : ∃ q,mk data = q := ⟨_,rfl⟩
 rw [hNM] at KG ⊢
 rw [hDT]
 clear h hg hNM hDT
 go_enter Tryz.func64,Tryz.ntmps64
 go_wp2_with (first
  | (go_at_call 12;refine KG.mono ?_;rintro e w' ⟨rfl,rfl⟩;clear KG))
 go_ret
 exact ⟨rfl,Y,HH.out,Mv.refl _ _⟩
set_option maxRecDepth 100000 in
set_option maxHeartbeats 1000000 in
theorem rwrite_long (Y : List Nat) (R : Nat) (F : List PF) (T : List Bool) (most : Nat) (name data : Bs) (w : World) (h : RSt w Y R F T most) (hnm : name.length ≤ maxLen) (hg : goodF name = true) (hd : 1048576 < data.length) :
  Calls Tryz.prog 64 #[.pointer (some ⟨R,0,none⟩), .string (mk name), .string (mk data)] w fun e w' => e = .returned (.int .i64 6) ∧ ∃ Y',RSt w' Y' R F T most ∧ Mv (R :: Y) (R :: Y') w w' := by
 have KG := rgood_any (mk name) w (by rw [mk_size];exact hnm)
 rw [mk_data,hg] at KG
 have HH := Lib.hid h
 obtain ⟨NM,hNM⟩ : ∃ q,mk name = q := ⟨_,rfl⟩
 obtain ⟨DT,hDT⟩ : ∃ q,mk data = q := ⟨_,rfl⟩
 have hds : 1048576 < DT.size := by rw [← hDT,mk_size];exact hd
 have hds1 : (1048576 : Int) < (DT.size : Int) := by omega
 rw [hNM] at KG ⊢
 rw [hDT]
 clear h hg hNM hDT hd
 go_enter Tryz.func64,Tryz.ntmps64
 go_wp2_with (first
  | (go_at_call 12;refine KG.mono ?_;rintro e w' ⟨rfl,rfl⟩;clear KG))
 go_ret
 exact ⟨rfl,Y,HH.out,Mv.refl _ _⟩
set_option maxRecDepth 100000 in
set_option maxHeartbeats 1000000 in
theorem rwrite_most (Y : List Nat) (R : Nat) (F : List PF) (T : List Bool) (most : Nat) (name data : Bs) (w : World) (h : RSt w Y R F T most) (hF : F.length ≤ 1000) (hnm : name.length ≤ maxLen) (hg : goodF name = true) (hd : data.length ≤ 1048576) (hf : idxF F name = none) (hm : F.length = most) :
  Calls Tryz.prog 64 #[.pointer (some ⟨R,0,none⟩), .string (mk name), .string (mk data)] w fun e w' => e = .returned (.int .i64 8) ∧ ∃ Y',RSt w' Y' R F T most ∧ Mv (R :: Y) (R :: Y') w w' := by
 have KG := rgood_any (mk name) w (by rw [mk_size];exact hnm)
 rw [mk_data,hg] at KG
 have KF := rfind_any Y R F T most name w h hF
 rw [show findI F name = -1 by unfold findI;unfold idxF at hf;rw [hf]] at KF
 obtain ⟨aF,cF,aT,cT,G,hA⟩ := h
 have hGF : G.length = F.length := by rw [← hA.files,List.length_map]
 have hb := hA.blk
 obtain ⟨NM,hNM⟩ : ∃ q,mk name = q := ⟨_,rfl⟩
 obtain ⟨DT,hDT⟩ : ∃ q,mk data = q := ⟨_,rfl⟩
 have hds : DT.size = data.length := by rw [← hDT,mk_size]
 obtain ⟨dl,hdl⟩ : ∃ q,data.length = q := ⟨_,rfl⟩
 obtain ⟨n,hn⟩ : ∃ q,G.length = q := ⟨_,rfl⟩
 obtain ⟨nt,hnt⟩ : ∃ q,T.length = q := ⟨_,rfl⟩
 rw [hn] at hGF
 rw [hdl] at hds
 rw [← hGF] at hF
 have hds0 : (DT.size : Int) = (dl : Int) := by rw [hds]
 have HA := Lib.hid hA
 have HN := Lib.hid (And.intro hn (And.intro hnt hGF))
 have x0 := hb.cell 0
 have x1 := hb.cell 1
 have x2 := hb.cell 2
 simp at x0 x1 x2
 rw [hn] at x0
 have xl := hb.lt
 have mixed := mixedT
 rw [← hGF] at hm
 have hq0 : ((n : Int) == (most : Int)) = true := by simp;omega
 have hq1 : (n : Int) = (most : Int) := by omega
 have hq2 : ¬ ((dl : Int) > 1048576) := by omega
 simp only [hNM,hDT] at KG KF ⊢
 clear hnm hg hd hdl hf hA hb hn hnt hNM hDT hGF hm
 go_enter Tryz.func64,Tryz.ntmps64
 go_upto_region 6 with (first
  | (go_at_call 12;refine KG.mono ?_;rintro e w' ⟨rfl,rfl⟩;clear KG)
  | (go_at_call 68;refine KF.mono ?_;rintro e w' ⟨rfl,rfl⟩;clear KF))
 go_quiet (fail)
 go_wp2
 go_ret
 exact ⟨rfl,Y,⟨_,_,_,_,_,HA.out.below (bdN (Below.refl _ _) _)⟩,Mv.of_below _ (bdN (Below.refl _ _) _)⟩
set_option maxRecDepth 100000 in
set_option maxHeartbeats 1000000 in
theorem rwrite_full (Y : List Nat) (R : Nat) (F : List PF) (T : List Bool) (most : Nat) (name data : Bs) (w : World) (h : RSt w Y R F T most) (hF : F.length ≤ 1000) (hT : T.length ≤ 100000) (hnm : name.length ≤ maxLen) (hg : goodF name = true) (hd : data.length ≤ 1048576) (hf : idxF F name = none) (hm : F.length ≠ most) (ht : takeS T (needsN data.length) 64 = none) :
  Calls Tryz.prog 64 #[.pointer (some ⟨R,0,none⟩), .string (mk name), .string (mk data)] w fun e w' => e = .returned (.int .i64 8) ∧ ∃ Y',RSt w' Y' R F T most ∧ Mv (R :: Y) (R :: Y') w w' := by
 have KG := rgood_any (mk name) w (by rw [mk_size];exact hnm)
 rw [mk_data,hg] at KG
 have KF := rfind_any Y R F T most name w h hF
 rw [show findI F name = -1 by unfold findI;unfold idxF at hf;rw [hf]] at KF
 obtain ⟨aF,cF,aT,cT,G,hA⟩ := h
 have hGF : G.length = F.length := by rw [← hA.files,List.length_map]
 have hb := hA.blk
 obtain ⟨NM,hNM⟩ : ∃ q,mk name = q := ⟨_,rfl⟩
 obtain ⟨DT,hDT⟩ : ∃ q,mk data = q := ⟨_,rfl⟩
 have hds : DT.size = data.length := by rw [← hDT,mk_size]
 obtain ⟨dl,hdl⟩ : ∃ q,data.length = q := ⟨_,rfl⟩
 obtain ⟨n,hn⟩ : ∃ q,G.length = q := ⟨_,rfl⟩
 obtain ⟨nt,hnt⟩ : ∃ q,T.length = q := ⟨_,rfl⟩
 rw [hn] at hGF
 rw [hdl] at hds
 rw [← hGF] at hF
 have hds0 : (DT.size : Int) = (dl : Int) := by rw [hds]
 have HA := Lib.hid hA
 have HN := Lib.hid (And.intro hn (And.intro hnt hGF))
 have x0 := hb.cell 0
 have x1 := hb.cell 1
 have x2 := hb.cell 2
 simp at x0 x1 x2
 rw [hn] at x0
 have xl := hb.lt
 have mixed := mixedT
 have KT := fun (w1 : World) (h1 : Lies w1 aT (tcells T)) => rtake_any T (needsN data.length) 64 aT cT w1 h1 hT (by unfold needsN;omega) (by decide)
 obtain ⟨nd,hnd⟩ : ∃ q,needsN dl = q := ⟨_,rfl⟩
 rw [← hGF] at hm
 have hq0 : ((n : Int) == (most : Int)) = false := by simp;omega
 have hq1 : ¬ ((n : Int) = (most : Int)) := by omega
 have hq2 : ¬ ((dl : Int) > 1048576) := by omega
 simp only [hNM,hDT,hdl,hnt,hnd] at KG KF KT ht hd ⊢
 have HTK := Lib.hid ht
 have HND := Lib.hid hnd
 clear hnm hg hdl hf hA hb hn hnt hNM hDT hGF hm ht hnd
 go_enter Tryz.func64,Tryz.ntmps64
 go_upto_region 6 with (first
  | (go_at_call 12;refine KG.mono ?_;rintro e w' ⟨rfl,rfl⟩;clear KG)
  | (go_at_call 68;refine KF.mono ?_;rintro e w' ⟨rfl,rfl⟩;clear KF))
 go_quiet (fail)
 obtain ⟨wq,hwq⟩ : ∃ q,w'.drewN nq = q := ⟨_,rfl⟩
 have hbq : Below w'.heap.size w' wq := by rw [← hwq];exact ⟨rfl,rfl,rfl,Nat.le_refl _,fun _ _ => rfl⟩
 rw [hwq]
 clear hwq x0 x1 x2 xl
 have HQ := Lib.hid (And.intro (HA.out.below hbq) hbq)
 have x1 := HQ.out.1.blk.cell 1
 simp at x1
 rw [HN.out.2.1] at x1
 have xl := HQ.out.1.blk.lt
 have KW := KT wq HQ.out.1.units
 clear hbq KT
 have hquo : ((dl : Int) + 511).tdiv 512 = ((nd : Nat) : Int) := by
  rw [← HND.out]
  unfold needsN
  rw [Int.tdiv_eq_ediv_of_nonneg (by omega)]
  omega
 have hnd9 : nd ≤ 2049 := by rw [← HND.out];unfold needsN;omega
 have hnd8 : (nd : Int) ≤ 2049 := by omega
 have hnd7 : (0 : Int) ≤ (nd : Int) := by omega
 have hwr : wrap64 (nd : Int) = (nd : Int) := by simp [wrap64];omega
 go_upto_region 9 with (first
  | (go_at_call 104;refine KW.mono ?_;rintro e w3 ⟨hb3,_,hs3⟩;have he := hs3 HTK.out;clear hs3;subst he;have H3 := Lib.hid hb3;clear hb3 KW))
 go_wp2
 go_ret
 exact ⟨rfl,Y,⟨_,_,_,_,_,HQ.out.1.below (H3.out.alloc H3.out.size _)⟩,(Mv.of_below _ HQ.out.2).below (H3.out.alloc H3.out.size _)⟩
set_option maxRecDepth 100000 in
set_option maxHeartbeats 1000000 in
theorem rwrite_full2 (Y : List Nat) (R : Nat) (F : List PF) (T : List Bool) (most i : Nat) (name data : Bs) (w : World) (h : RSt w Y R F T most) (hF : F.length ≤ 1000) (hT : T.length ≤ 100000) (hnm : name.length ≤ maxLen) (hg : goodF name = true) (hd : data.length ≤ 1048576) (hf : idxF F name = some i) (ht : takeS T (needsN data.length) 64 = none) :
  Calls Tryz.prog 64 #[.pointer (some ⟨R,0,none⟩), .string (mk name), .string (mk data)] w fun e w' => e = .returned (.int .i64 8) ∧ ∃ Y',RSt w' Y' R F T most ∧ Mv (R :: Y) (R :: Y') w w' := by
 have KG := rgood_any (mk name) w (by rw [mk_size];exact hnm)
 rw [mk_data,hg] at KG
 have KF := rfind_any Y R F T most name w h hF
 rw [show findI F name = (i : Int) by unfold findI;unfold idxF at hf;rw [hf]] at KF
 have hi : i < F.length := (List.findIdx?_eq_some_iff_getElem.1 hf).1
 have i0 : (0 : Int) ≤ (i : Int) := by omega
 have i1 : ¬ ((i : Int) < 0) := by omega
 have i4 : (i : Int) ≥ 0 := by omega
 have i5 : decide ((i : Int) < 0) = false := decide_eq_false i1
 obtain ⟨aF,cF,aT,cT,G,hA⟩ := h
 have hGF : G.length = F.length := by rw [← hA.files,List.length_map]
 have hb := hA.blk
 obtain ⟨NM,hNM⟩ : ∃ q,mk name = q := ⟨_,rfl⟩
 obtain ⟨DT,hDT⟩ : ∃ q,mk data = q := ⟨_,rfl⟩
 have hds : DT.size = data.length := by rw [← hDT,mk_size]
 obtain ⟨dl,hdl⟩ : ∃ q,data.length = q := ⟨_,rfl⟩
 obtain ⟨n,hn⟩ : ∃ q,G.length = q := ⟨_,rfl⟩
 obtain ⟨nt,hnt⟩ : ∃ q,T.length = q := ⟨_,rfl⟩
 rw [hn] at hGF
 rw [hdl] at hds
 rw [← hGF] at hF
 have hds0 : (DT.size : Int) = (dl : Int) := by rw [hds]
 have HA := Lib.hid hA
 have HN := Lib.hid (And.intro hn (And.intro hnt hGF))
 have x0 := hb.cell 0
 have x1 := hb.cell 1
 have x2 := hb.cell 2
 simp at x0 x1 x2
 rw [hn] at x0
 have xl := hb.lt
 have mixed := mixedT
 have KT := fun (w1 : World) (h1 : Lies w1 aT (tcells T)) => rtake_any T (needsN data.length) 64 aT cT w1 h1 hT (by unfold needsN;omega) (by decide)
 obtain ⟨nd,hnd⟩ : ∃ q,needsN dl = q := ⟨_,rfl⟩
 have hq2 : ¬ ((dl : Int) > 1048576) := by omega
 have i2 : i ≤ 1000 := by omega
 simp only [hNM,hDT,hdl,hnt,hnd] at KG KF KT ht hd ⊢
 have HTK := Lib.hid ht
 have HND := Lib.hid hnd
 clear hnm hg hdl hf hA hb hn hnt hNM hDT hGF ht hnd hi
 go_enter Tryz.func64,Tryz.ntmps64
 go_upto_region 6 with (first
  | (go_at_call 12;refine KG.mono ?_;rintro e w' ⟨rfl,rfl⟩;clear KG)
  | (go_at_call 68;refine KF.mono ?_;rintro e w' ⟨rfl,rfl⟩;clear KF))
 go_quiet (fail)
 obtain ⟨wq,hwq⟩ : ∃ q,w'.drewN nq = q := ⟨_,rfl⟩
 have hbq : Below w'.heap.size w' wq := by rw [← hwq];exact ⟨rfl,rfl,rfl,Nat.le_refl _,fun _ _ => rfl⟩
 rw [hwq]
 clear hwq x0 x1 x2 xl
 have HQ := Lib.hid (And.intro (HA.out.below hbq) hbq)
 have x1 := HQ.out.1.blk.cell 1
 simp at x1
 rw [HN.out.2.1] at x1
 have xl := HQ.out.1.blk.lt
 have KW := KT wq HQ.out.1.units
 clear hbq KT
 have hquo : ((dl : Int) + 511).tdiv 512 = ((nd : Nat) : Int) := by
  rw [← HND.out]
  unfold needsN
  rw [Int.tdiv_eq_ediv_of_nonneg (by omega)]
  omega
 have hnd9 : nd ≤ 2049 := by rw [← HND.out];unfold needsN;omega
 have hnd8 : (nd : Int) ≤ 2049 := by omega
 have hnd7 : (0 : Int) ≤ (nd : Int) := by omega
 have hwr : wrap64 (nd : Int) = (nd : Int) := by simp [wrap64];omega
 go_upto_region 9 with (first
  | (go_at_call 104;refine KW.mono ?_;rintro e w3 ⟨hb3,_,hs3⟩;have he := hs3 HTK.out;clear hs3;subst he;have H3 := Lib.hid hb3;clear hb3 KW))
 go_wp2
 go_ret
 exact ⟨rfl,Y,⟨_,_,_,_,_,HQ.out.1.below (H3.out.alloc H3.out.size _)⟩,(Mv.of_below _ HQ.out.2).below (H3.out.alloc H3.out.size _)⟩
theorem rwrite_any (Y : List Nat) (R : Nat) (F F' : List PF) (T T' : List Bool) (most en r : Nat) (name data : Bs) (w : World) (h : RSt w Y R F T most) (hF : F.length ≤ 1000) (hT : T.length ≤ 100000) (hm : most ≤ 1000) (hnm : name.length ≤ maxLen)
  (hl : ∀ f ∈ F,f.ext.length ≤ 100000 ∧ f.entry ≤ 1000) (hen : ∀ f ∈ F,f.entry ≠ en) (hen2 : ∀ e,e < en → ∃ f ∈ F,f.entry = e) (hen3 : en ≤ 1000) (hp : wriS F T most en name data = some (r,F',T')) :
  Calls Tryz.prog 64 #[.pointer (some ⟨R,0,none⟩), .string (mk name), .string (mk data)] w fun e w' => e = .returned (.int .i64 (r : Nat)) ∧ ∃ Y',RSt w' Y' R F' T' most ∧ Mv (R :: Y) (R :: Y') w w' := by
 unfold wriS at hp
 cases hg : goodF name with
 | false =>
  rw [if_pos hg] at hp
  simp only [Option.some.injEq,Prod.mk.injEq] at hp
  obtain ⟨rfl,rfl,rfl⟩ := hp
  exact rwrite_bad Y R F T most name data w h hnm hg
 | true =>
  rw [if_neg (by rw [hg];decide)] at hp
  by_cases hd : 1048576 < data.length
  ·rw [if_pos hd] at hp
   simp only [Option.some.injEq,Prod.mk.injEq] at hp
   obtain ⟨rfl,rfl,rfl⟩ := hp
   exact rwrite_long Y R F T most name data w h hnm hg hd
  ·rw [if_neg hd] at hp
   have hd2 : data.length ≤ 1048576 := by omega
   cases hf : idxF F name with
   | none =>
    simp only [hf] at hp
    by_cases hq : F.length = most
    ·rw [if_pos hq] at hp
     simp only [Option.some.injEq,Prod.mk.injEq] at hp
     obtain ⟨rfl,rfl,rfl⟩ := hp
     exact rwrite_most Y R F T most name data w h hF hnm hg hd2 hf hq
    ·rw [if_neg hq] at hp
     cases ht : takeS T (needsN data.length) 64 with
     | none =>
      simp only [ht] at hp
      simp only [Option.some.injEq,Prod.mk.injEq] at hp
      obtain ⟨rfl,rfl,rfl⟩ := hp
      exact rwrite_full Y R F T most name data w h hF hT hnm hg hd2 hf hq ht
     | some p =>
      obtain ⟨l,T1⟩ := p
      simp only [ht] at hp
      simp only [Option.some.injEq,Prod.mk.injEq] at hp
      obtain ⟨rfl,rfl,rfl⟩ := hp
      exact rwrite_new Y R F T T1 most en l name data w h hF hT hm hq hg hd2 hnm hf ht hen hen2 hen3
   | some i =>
    simp only [hf] at hp
    have hi : i < F.length := (List.findIdx?_eq_some_iff_getElem.1 hf).1
    cases ht : takeS T (needsN data.length) 64 with
    | none =>
     simp only [ht] at hp
     simp only [Option.some.injEq,Prod.mk.injEq] at hp
     obtain ⟨rfl,rfl,rfl⟩ := hp
     exact rwrite_full2 Y R F T most i name data w h hF hT hnm hg hd2 hf ht
    | some p =>
     obtain ⟨l,T1⟩ := p
     simp only [ht] at hp
     simp only [List.getElem?_eq_getElem hi,Option.map_some,Option.getD_some] at hp
     obtain ⟨T2,htu,hp2⟩ := Option.map_eq_some_iff.1 hp
     simp only [Prod.mk.injEq] at hp2
     obtain ⟨rfl,rfl,rfl⟩ := hp2
     exact rwrite_at Y R F T T1 T2 most i l name data w h hF hT hg hd2 hnm hf hi ht htu (hl _ (List.getElem_mem hi)).1 (hl _ (List.getElem_mem hi)).2
open Go.RowKit
theorem wrI {x : Int} (h0 : 0 ≤ x) (h1 : x ≤ 9000000000000000000) : IntKind.i64.wrap x = x := by simp [IntKind.wrap,IntKind.bits,IntKind.signed];omega
theorem wrJ {x : Int} (h0 : 0 ≤ x) (h1 : x ≤ 9000000000000000000) : wrap64 x = x := by simp [wrap64];omega
def appS (F : List PF) (T : List Bool) (name data : Bs) : Option (Nat × List PF × List Bool) :=
 if goodF name = false then some (11,F,T) else match idxF F name with
 | none => some (9,F,T)
 | some i => match F[i]? with
  | none => none
  | some f => if 1048576 < f.data.length + data.length then some (6,F,T) else
   match takeS T (needsN (f.data.length + data.length) - needsN f.data.length) (64 - f.ext.length) with
   | none => some (8,F,T)
   | some (l,T1) => some (0,F.set i ⟨name,f.data ++ data,f.ext ++ l,f.entry⟩,T1)
def RTk (B : Nat) (w : World) (o : Option (List (Nat × Nat) × List Bool)) (AO : Option Addr) (no cO : Nat) (A1 : Option Addr) (n1 c1 : Nat) (cd : Int) : Prop :=
 match o with
 | none => cd = 8 ∧ AO = none ∧ A1 = none
 | some (l,T1) => cd = 0 ∧ no = l.length ∧ n1 = T1.length ∧ w.ownsRow B 205 2 (.slice AO no cO) no (ecells l) ∧ w.ownsRow B 4 1 (.slice A1 n1 c1) n1 (tcells T1)
theorem RTk.block {B : Nat} {w w' : World} {o : Option (List (Nat × Nat) × List Bool)} {AO : Option Addr} {no cO : Nat} {A1 : Option Addr} {n1 c1 : Nat} {cd : Int} (h : RTk B w o AO no cO A1 n1 c1 cd)
  (hk : ∀ g,g ∈ fb AO ++ fb A1 → w'.heap[g]? = w.heap[g]?) : RTk B w' o AO no cO A1 n1 c1 cd := by
 cases o with
 | none => exact h
 | some p =>
  obtain ⟨h1,h2,h3,h4,h5⟩ := h
  refine ⟨h1,h2,h3,row_block h4 (fun g hg => hk g (List.mem_append_left _ ?_)),row_block h5 (fun g hg => hk g (List.mem_append_right _ ?_))⟩
  ·cases AO with
   | none => cases hg
   | some a => have e2 : a.block = g := by simpa [Value.ownBlock] using hg
               rw [← e2]; exact List.mem_cons_self ..
  ·cases A1 with
   | none => cases hg
   | some a => have e2 : a.block = g := by simpa [Value.ownBlock] using hg
               rw [← e2]; exact List.mem_cons_self ..
theorem RTk.lt {B : Nat} {w : World} {o : Option (List (Nat × Nat) × List Bool)} {AO : Option Addr} {no cO : Nat} {A1 : Option Addr} {n1 c1 : Nat} {cd : Int} (h : RTk B w o AO no cO A1 n1 c1 cd) : ∀ g,g ∈ fb AO ++ fb A1 → B ≤ g ∧ g < w.heap.size := by
 cases o with
 | none =>
  obtain ⟨_,rfl,rfl⟩ := h
  intro g hg;cases hg
 | some p =>
  obtain ⟨_,_,_,h4,h5⟩ := h
  intro g hg
  rcases List.mem_append.1 hg with h1 | h1
  ·obtain ⟨a,rfl,rfl⟩ := mem_fb h1;exact h4.lt a.block rfl
  ·obtain ⟨a,rfl,rfl⟩ := mem_fb h1;exact h5.lt a.block rfl
theorem RTk.low {B B' : Nat} {w : World} {o : Option (List (Nat × Nat) × List Bool)} {AO : Option Addr} {no cO : Nat} {A1 : Option Addr} {n1 c1 : Nat} {cd : Int} (h : RTk B w o AO no cO A1 n1 c1 cd) (hB : B' ≤ B) : RTk B' w o AO no cO A1 n1 c1 cd := by
 cases o with
 | none => exact h
 | some p => exact ⟨h.1,h.2.1,h.2.2.1,own_weaken h.2.2.2.1 hB,own_weaken h.2.2.2.2 hB⟩
theorem rtake_all (T : List Bool) (k0 most : Nat) (A : Option Addr) (cap : Nat) (w : World) (hT : Lies w A (tcells T)) (hn : T.length ≤ 100000) (hk : k0 ≤ 1000000) (hm : most ≤ 1000000) :
  Calls Tryz.prog 104 #[.agg #[.slice A T.length cap], .int .i64 k0, .int .i64 most] w fun e w' => ∃ AO no cO A1 n1 c1 cd,e = .returned (.tuple #[.slice AO no cO, .agg #[.slice A1 n1 c1], .int .i64 cd]) ∧ RTk w.heap.size w' (takeS T k0 most) AO no cO A1 n1 c1 cd ∧ Below w.heap.size w w' := by
 refine (rtake_any T k0 most A cap w hT hn hk hm).mono ?_
 rintro e w' ⟨hb,h1,h2⟩
 cases h : takeS T k0 most with
 | none => exact ⟨none,0,0,none,0,0,8,h2 h,⟨rfl,rfl,rfl⟩,hb⟩
 | some p =>
  obtain ⟨AO,cO,A1,c1,e1,e2,e3⟩ := h1 p.1 p.2 h
  exact ⟨AO,_,cO,A1,_,c1,0,e1,⟨rfl,rfl,rfl,e2,e3⟩,hb⟩
set_option maxRecDepth 100000 in
set_option maxHeartbeats 1000000 in
theorem rappend_bad (Y : List Nat) (R : Nat) (F : List PF) (T : List Bool) (most : Nat) (name data : Bs) (w : World) (h : RSt w Y R F T most) (hnm : name.length ≤ maxLen) (hg : goodF name = false) :
  Calls Tryz.prog 65 #[.pointer (some ⟨R,0,none⟩), .string (mk name), .string (mk data)] w fun e w' => e = .returned (.int .i64 11) ∧ ∃ Y',RSt w' Y' R F T most ∧ Mv (R :: Y) (R :: Y') w w' := by
 have KG := rgood_any (mk name) w (by rw [mk_size];exact hnm)
 rw [mk_data,hg] at KG
 have HH := Lib.hid h
 obtain ⟨NM,hNM⟩ : ∃ q,mk name = q := ⟨_,rfl⟩
 obtain ⟨DT,hDT⟩ : ∃ q,mk data = q := ⟨_,rfl⟩
 rw [hNM] at KG ⊢
 rw [hDT]
 clear h hg hNM hDT
 go_enter Tryz.func65,Tryz.ntmps65
 go_wp2_with (first
  | (go_at_call 12;refine KG.mono ?_;rintro e w' ⟨rfl,rfl⟩;clear KG))
 go_ret
 exact ⟨rfl,Y,HH.out,Mv.refl _ _⟩
set_option maxRecDepth 100000 in
set_option maxHeartbeats 1000000 in
theorem rappend_none (Y : List Nat) (R : Nat) (F : List PF) (T : List Bool) (most : Nat) (name data : Bs) (w : World) (h : RSt w Y R F T most) (hF : F.length ≤ 1000) (hnm : name.length ≤ maxLen) (hg : goodF name = true) (hf : idxF F name = none) :
  Calls Tryz.prog 65 #[.pointer (some ⟨R,0,none⟩), .string (mk name), .string (mk data)] w fun e w' => e = .returned (.int .i64 9) ∧ ∃ Y',RSt w' Y' R F T most ∧ Mv (R :: Y) (R :: Y') w w' := by
 have KG := rgood_any (mk name) w (by rw [mk_size];exact hnm)
 rw [mk_data,hg] at KG
 have KF := rfind_any Y R F T most name w h hF
 rw [show findI F name = -1 by unfold findI;unfold idxF at hf;rw [hf]] at KF
 have HH := Lib.hid h
 obtain ⟨NM,hNM⟩ : ∃ q,mk name = q := ⟨_,rfl⟩
 obtain ⟨DT,hDT⟩ : ∃ q,mk data = q := ⟨_,rfl⟩
 rw [hNM] at KG KF ⊢
 rw [hDT]
 clear h hg hNM hDT hf hF
 go_enter Tryz.func65,Tryz.ntmps65
 go_wp2_with (first
  | (go_at_call 12;refine KG.mono ?_;rintro e w' ⟨rfl,rfl⟩;clear KG)
  | (go_at_call 68;refine KF.mono ?_;rintro e w' ⟨rfl,rfl⟩;clear KF))
 go_ret
 exact ⟨rfl,Y,HH.out,Mv.refl _ _⟩
set_option maxRecDepth 100000 in
set_option maxHeartbeats 1000000 in
theorem rappend_long (Y : List Nat) (R : Nat) (F : List PF) (T : List Bool) (most i : Nat) (f : PF) (name data : Bs) (w : World) (h : RSt w Y R F T most) (hF : F.length ≤ 1000) (hnm : name.length ≤ maxLen) (hdn : data.length ≤ 1000000000) (hg : goodF name = true) (hf : idxF F name = some i) (hfe : F[i]? = some f) (hfd : f.data.length ≤ 1048576) (hlong : 1048576 < f.data.length + data.length) :
  Calls Tryz.prog 65 #[.pointer (some ⟨R,0,none⟩), .string (mk name), .string (mk data)] w fun e w' => e = .returned (.int .i64 6) ∧ ∃ Y',RSt w' Y' R F T most ∧ Mv (R :: Y) (R :: Y') w w' := by
 have KG := rgood_any (mk name) w (by rw [mk_size];exact hnm)
 rw [mk_data,hg] at KG
 have KF := rfind_any Y R F T most name w h hF
 rw [show findI F name = (i : Int) by unfold findI;unfold idxF at hf;rw [hf]] at KF
 obtain ⟨aF,cF,aT,cT,G,hA⟩ := h
 have hi : i < F.length := (List.findIdx?_eq_some_iff_getElem.1 hf).1
 have hfi : F[i] = f := by rw [List.getElem?_eq_getElem hi] at hfe;injection hfe
 have hGF : G.length = F.length := by rw [← hA.files,List.length_map]
 have hb := hA.blk
 have hrow := hA.row
 have hiG : i < G.length := by rw [hGF];exact hi
 have hGi : G[i].1 = f := by rw [← hfi];have := hA.files;subst this;simp
 have hex := hA.exts G[i] (List.getElem_mem hiG)
 have hrc := rcells_at G i hiG
 rw [hGi] at hrc hex
 obtain ⟨E,hE⟩ : ∃ q,G[i].2 = q := ⟨_,rfl⟩
 rw [hE] at hrc hex
 obtain ⟨aE,cE⟩ := E
 dsimp only at hrc hex
 obtain ⟨NM,hNM⟩ : ∃ q,mk name = q := ⟨_,rfl⟩
 obtain ⟨DT,hDT⟩ : ∃ q,mk data = q := ⟨_,rfl⟩
 obtain ⟨FN,hFN⟩ : ∃ q,mk f.name = q := ⟨_,rfl⟩
 obtain ⟨FD,hFD⟩ : ∃ q,mk f.data = q := ⟨_,rfl⟩
 obtain ⟨en,hEN⟩ : ∃ q,f.entry = q := ⟨_,rfl⟩
 have hds : DT.size = data.length := by rw [← hDT,mk_size]
 have hfs : FD.size = f.data.length := by rw [← hFD,mk_size]
 obtain ⟨dl,hdl⟩ : ∃ q,data.length = q := ⟨_,rfl⟩
 obtain ⟨fl,hfl⟩ : ∃ q,f.data.length = q := ⟨_,rfl⟩
 obtain ⟨n,hn⟩ : ∃ q,G.length = q := ⟨_,rfl⟩
 obtain ⟨nt,hnt⟩ : ∃ q,T.length = q := ⟨_,rfl⟩
 obtain ⟨nx,hnx⟩ : ∃ q,f.ext.length = q := ⟨_,rfl⟩
 rw [hn] at hGF
 rw [hdl] at hds
 rw [hfl] at hfs
 rw [← hGF] at hF
 simp only [hn,hnt] at hb hrow
 rw [hFN,hFD,hEN,hnx] at hrc
 have hds0 : (DT.size : Int) = (dl : Int) := by rw [hds]
 have hfs0 : (FD.size : Int) = (fl : Int) := by rw [hfs]
 obtain ⟨g2,rfl⟩ : ∃ g2,aF = some ⟨g2,0,none⟩ := by
  rcases hrow.2 with ⟨_,h0⟩ | ⟨b,cap,cur,hv,_⟩
  ·exfalso;omega
  ·simp only [Value.slice.injEq] at hv;exact ⟨b,hv.1⟩
 have hrl := rcells_length G
 rw [hn] at hrl
 have q0 := hrow.cellAt (i * 4) (by omega)
 have q1 := hrow.cellAt (i * 4 + 1) (by omega)
 have q2 := hrow.cellAt (i * 4 + 2) (by omega)
 have q3 := hrow.cellAt (i * 4 + 3) (by omega)
 rw [hrc.1] at q0
 rw [hrc.2.1] at q1
 rw [hrc.2.2.1] at q2
 rw [hrc.2.2.2] at q3
 have gl := (hrow.lt g2 rfl).2
 have i0 : (0 : Int) ≤ (i : Int) := by omega
 have i1 : ¬ ((i : Int) < 0) := by omega
 have i2 : (i : Int) < (n : Int) := by omega
 have i3 : i < n := by omega
 have i5 : decide ((i : Int) < 0) = false := decide_eq_false i1
 have i6 : i ≤ 1000 := by omega
 have x0 := hb.cell 0
 have x1 := hb.cell 1
 simp at x0 x1
 have xl := hb.lt
 have HA := Lib.hid hA
 have HF := Lib.hid hf
 have HN := Lib.hid (And.intro hn (And.intro hnt (And.intro hnx hGF)))
 have HX := Lib.hid (And.intro hrc hex)
 have HM := Lib.hid (And.intro hNM (And.intro hDT (And.intro hFN (And.intro hFD hEN))))
 have HL := Lib.hid (And.intro hdl hfl)
 have mixed := mixedT
 rw [hdl,hfl] at hlong
 have hq : (fl : Int) + (dl : Int) > 1048576 := by omega
 have hq2 : (1048576 : Int) < (fl : Int) + (dl : Int) := by omega
 have wa1 : IntKind.i64.wrap ((fl : Int) + (dl : Int)) = (fl : Int) + (dl : Int) := wrI (by omega) (by omega)
 simp only [hNM,hDT] at KG KF ⊢
 clear hnm hg hf hi hA hb hrow hrc hex hE hGi hiG hGF hn hnt hnx hNM hDT hFN hFD hEN hfi hdl hfl hrl hfe
 go_enter Tryz.func65,Tryz.ntmps65
 go_wp2_with (first
  | (go_at_call 12;refine KG.mono ?_;rintro e w' ⟨rfl,rfl⟩;clear KG)
  | (go_at_call 68;refine KF.mono ?_;rintro e w' ⟨rfl,rfl⟩;clear KF))
 go_ret
 have hb := below_alloc w' (.cells #[.string FN, .string FD, .slice aE nx cE, .int .i64 (en : Int)] 138)
 exact ⟨rfl,Y,⟨_,_,_,_,_,HA.out.below hb⟩,Mv.of_below _ hb⟩
open Go.RowKit
set_option maxRecDepth 100000 in
set_option maxHeartbeats 4000000 in
theorem rappend_at (Y : List Nat) (R : Nat) (F : List PF) (T : List Bool) (most i : Nat) (f : PF) (name data : Bs) (w : World) (h : RSt w Y R F T most) (hF : F.length ≤ 1000) (hT : T.length ≤ 100000) (hnm : name.length ≤ maxLen) (hg : goodF name = true) (hf : idxF F name = some i) (hfe : F[i]? = some f) (hfx : f.ext.length ≤ 64) (hlong : f.data.length + data.length ≤ 1048576) :
  Calls Tryz.prog 65 #[.pointer (some ⟨R,0,none⟩), .string (mk name), .string (mk data)] w fun e w' =>
   match takeS T (needsN (f.data.length + data.length) - needsN f.data.length) (64 - f.ext.length) with
   | none => e = .returned (.int .i64 8) ∧ ∃ Y',RSt w' Y' R F T most ∧ Mv (R :: Y) (R :: Y') w w'
   | some (l,T1) => e = .returned (.int .i64 0) ∧ ∃ Y',RSt w' Y' R (F.set i ⟨name,f.data ++ data,f.ext ++ l,f.entry⟩) T1 most ∧ Mv (R :: Y) (R :: Y') w w' := by
 have KG := rgood_any (mk name) w (by rw [mk_size];exact hnm)
 rw [mk_data,hg] at KG
 have KF := rfind_any Y R F T most name w h hF
 rw [show findI F name = (i : Int) by unfold findI;unfold idxF at hf;rw [hf]] at KF
 have hfd : f.data.length ≤ 1048576 := by omega
 have hdn : data.length ≤ 1048576 := by omega
 obtain ⟨aF,cF,aT,cT,G,hA⟩ := h
 have hi : i < F.length := (List.findIdx?_eq_some_iff_getElem.1 hf).1
 have hfi : F[i] = f := by rw [List.getElem?_eq_getElem hi] at hfe;injection hfe
 have hGF : G.length = F.length := by rw [← hA.files,List.length_map]
 have hb := hA.blk
 have hrow := hA.row
 have hiG : i < G.length := by rw [hGF];exact hi
 have hGi : G[i].1 = f := by rw [← hfi];have := hA.files;subst this;simp
 have hex := hA.exts G[i] (List.getElem_mem hiG)
 have hrc := rcells_at G i hiG
 rw [hGi] at hrc hex
 obtain ⟨E,hE⟩ : ∃ q,G[i].2 = q := ⟨_,rfl⟩
 rw [hE] at hrc hex
 obtain ⟨aE,cE⟩ := E
 dsimp only at hrc hex
 obtain ⟨NM,hNM⟩ : ∃ q,mk name = q := ⟨_,rfl⟩
 obtain ⟨DT,hDT⟩ : ∃ q,mk data = q := ⟨_,rfl⟩
 obtain ⟨FN,hFN⟩ : ∃ q,mk f.name = q := ⟨_,rfl⟩
 obtain ⟨FD,hFD⟩ : ∃ q,mk f.data = q := ⟨_,rfl⟩
 obtain ⟨en,hEN⟩ : ∃ q,f.entry = q := ⟨_,rfl⟩
 have hds : DT.size = data.length := by rw [← hDT,mk_size]
 have hfs : FD.size = f.data.length := by rw [← hFD,mk_size]
 obtain ⟨dl,hdl⟩ : ∃ q,data.length = q := ⟨_,rfl⟩
 obtain ⟨fl,hfl⟩ : ∃ q,f.data.length = q := ⟨_,rfl⟩
 obtain ⟨n,hn⟩ : ∃ q,G.length = q := ⟨_,rfl⟩
 obtain ⟨nt,hnt⟩ : ∃ q,T.length = q := ⟨_,rfl⟩
 obtain ⟨nx,hnx⟩ : ∃ q,f.ext.length = q := ⟨_,rfl⟩
 rw [hn] at hGF
 rw [hdl] at hds
 rw [hfl] at hfs
 rw [← hGF] at hF
 simp only [hn,hnt] at hb hrow
 rw [hFN,hFD,hEN,hnx] at hrc
 have hds0 : (DT.size : Int) = (dl : Int) := by rw [hds]
 have hfs0 : (FD.size : Int) = (fl : Int) := by rw [hfs]
 obtain ⟨g2,rfl⟩ : ∃ g2,aF = some ⟨g2,0,none⟩ := by
  rcases hrow.2 with ⟨_,h0⟩ | ⟨b,cap,cur,hv,_⟩
  ·exfalso;omega
  ·simp only [Value.slice.injEq] at hv;exact ⟨b,hv.1⟩
 have hrl := rcells_length G
 rw [hn] at hrl
 have q0 := hrow.cellAt (i * 4) (by omega)
 have q1 := hrow.cellAt (i * 4 + 1) (by omega)
 have q2 := hrow.cellAt (i * 4 + 2) (by omega)
 have q3 := hrow.cellAt (i * 4 + 3) (by omega)
 rw [hrc.1] at q0
 rw [hrc.2.1] at q1
 rw [hrc.2.2.1] at q2
 rw [hrc.2.2.2] at q3
 have gl := (hrow.lt g2 rfl).2
 have i0 : (0 : Int) ≤ (i : Int) := by omega
 have i1 : ¬ ((i : Int) < 0) := by omega
 have i2 : (i : Int) < (n : Int) := by omega
 have i3 : i < n := by omega
 have i5 : decide ((i : Int) < 0) = false := decide_eq_false i1
 have i6 : i ≤ 1000 := by omega
 have x0 := hb.cell 0
 have x1 := hb.cell 1
 simp at x0 x1
 have xl := hb.lt
 have HA := Lib.hid hA
 have HF := Lib.hid hf
 have HN := Lib.hid (And.intro hn (And.intro hnt (And.intro hnx hGF)))
 have HX := Lib.hid (And.intro hrc hex)
 have HM := Lib.hid (And.intro hNM (And.intro hDT (And.intro hFN (And.intro hFD hEN))))
 have HL := Lib.hid (And.intro hdl hfl)
 have mixed := mixedT
 obtain ⟨i205,e0,e1,e2,e3⟩ := info_parts info205
 rw [hdl,hfl] at hlong ⊢
 rw [hnx] at hfx ⊢
 obtain ⟨N1,hN1⟩ : ∃ q,needsN (fl + dl) = q := ⟨_,rfl⟩
 obtain ⟨N0,hN0⟩ : ∃ q,needsN fl = q := ⟨_,rfl⟩
 rw [hN1,hN0]
 have hN1b : N1 ≤ 2049 ∧ ((fl : Int) + (dl : Int) + 511).tdiv 512 = (N1 : Int) := by
  rw [← hN1];unfold needsN
  rw [Int.tdiv_eq_ediv_of_nonneg (by omega)]
  constructor <;> omega
 have hN0b : N0 ≤ 2049 ∧ ((fl : Int) + 511).tdiv 512 = (N0 : Int) := by
  rw [← hN0];unfold needsN
  rw [Int.tdiv_eq_ediv_of_nonneg (by omega)]
  constructor <;> omega
 have hle : N0 ≤ N1 := by rw [← hN1, ← hN0];unfold needsN;omega
 obtain ⟨KK,hKK⟩ : ∃ q,N1 - N0 = q := ⟨_,rfl⟩
 obtain ⟨MM,hMM⟩ : ∃ q,64 - nx = q := ⟨_,rfl⟩
 rw [hKK,hMM]
 obtain ⟨hN1l,hd1⟩ := hN1b
 obtain ⟨hN0l,hd0⟩ := hN0b
 have HKT := Lib.hid (fun (w1 : World) (h1 : Lies w1 aT (tcells T)) => hnt ▸ rtake_all T KK MM aT cT w1 h1 hT (by omega) (by omega))
 obtain ⟨O,hO⟩ : ∃ q,takeS T KK MM = q := ⟨_,rfl⟩
 rw [hO] at HKT ⊢
 have HO := Lib.hid hO
 have hq : ¬ ((fl : Int) + (dl : Int) > 1048576) := by omega
 have hq2 : ¬ ((1048576 : Int) < (fl : Int) + (dl : Int)) := by omega
 have HLL := Lib.hid (And.intro hlong (And.intro hfx (And.intro hF (And.intro hT (show MM ≤ 64 by omega)))))
 have hKK2 : (N1 : Int) - (N0 : Int) = ((KK : Nat) : Int) := by omega
 have hMM2 : 64 - (nx : Int) = ((MM : Nat) : Int) := by omega
 obtain ⟨wa1,wa2,wa3,wa4,wa5,wa6,wa7,wa8,wa9⟩ : IntKind.i64.wrap ((fl : Int) + (dl : Int)) = (fl : Int) + (dl : Int) ∧ IntKind.i64.wrap ((fl : Int) + (dl : Int) + 511) = (fl : Int) + (dl : Int) + 511 ∧ IntKind.i64.wrap ((fl : Int) + 511) = (fl : Int) + 511 ∧ IntKind.i64.wrap ((N1 : Int) - (N0 : Int)) = ((KK : Nat) : Int) ∧ IntKind.i64.wrap (64 - (nx : Int)) = ((MM : Nat) : Int) ∧ wrap64 (N1 : Int) = (N1 : Int) ∧ wrap64 (N0 : Int) = (N0 : Int) ∧ IntKind.i64.wrap (N1 : Int) = (N1 : Int) ∧ IntKind.i64.wrap (N0 : Int) = (N0 : Int) :=
  ⟨wrI (by omega) (by omega),wrI (by omega) (by omega),wrI (by omega) (by omega),(wrI (by omega) (by omega)).trans hKK2,(wrI (by omega) (by omega)).trans hMM2,wrJ (by omega) (by omega),wrJ (by omega) (by omega),wrI (by omega) (by omega),wrI (by omega) (by omega)⟩
 clear hKK2 hMM2
 simp only [hNM,hDT] at KG KF ⊢
 clear hnm hg hf hi hA hb hrow hrc hex hE hGi hiG hGF hn hnt hnx hNM hDT hFN hFD hEN hfi hdl hfl hrl hfe hN1 hN0 hKK hMM hN1l hN0l hle hO hT
 go_enter Tryz.func65,Tryz.ntmps65
 go_upto_region 7 with (first
  | (go_at_call 12;refine KG.mono ?_;rintro e w' ⟨rfl,rfl⟩;clear KG)
  | (go_at_call 68;refine KF.mono ?_;rintro e w' ⟨rfl,rfl⟩;clear KF))
 have hB8 := Blk.new w' #[.string FN, .string FD, .slice aE nx cE, .int .i64 (en : Int)] 138
 have hb1 := below_alloc w' (.cells #[.string FN, .string FD, .slice aE nx cE, .int .i64 (en : Int)] 138)
 obtain ⟨W1,hW1⟩ : ∃ q,w'.alloc (.cells #[.string FN, .string FD, .slice aE nx cE, .int .i64 (en : Int)] 138) = q := ⟨_,rfl⟩
 obtain ⟨H8,hH8⟩ : ∃ q,w'.heap.size = q := ⟨_,rfl⟩
 rw [hH8] at hB8
 rw [hW1] at hB8 hb1 ⊢
 try simp only [hH8]
 have HB := Lib.hid (And.intro hB8 (And.intro hb1 hH8))
 have hA1 := HA.out.below hb1
 have z1 := hB8.cell 1
 simp at z1
 have lt8 := hB8.lt
 have HA1 := Lib.hid hA1
 have HY := Lib.hid (show W1.cell? ⟨R,1,none⟩ = some (.slice aT nt cT) ∧ R < W1.heap.size ∧ W1.cell? ⟨H8,1,none⟩ = some (.string FD) ∧ W1.cell? ⟨H8,2,none⟩ = some (.slice aE nx cE) ∧ H8 < W1.heap.size from ⟨by have := hA1.blk.cell 1;rw [HN.out.2.1] at this;simpa using this,hA1.blk.lt,by simpa using hB8.cell 1,by simpa using hB8.cell 2,hB8.lt⟩)
 clear hW1 hH8 hB8 hb1 hA1 x0 x1 xl q0 q1 q2 q3 gl
 go_upto_region 9 with (fail)
 clear z1 lt8
 go_cut [9,10,11] from 35 to 61 (fun s9 s10 s11 wx => ∃ AO no cO A1 n1 c1 cd H10,s9 = .slice AO no cO ∧ s10 = .pointer (some ⟨H10,0,none⟩) ∧ s11 = .int .i64 cd ∧ W1.heap.size ≤ H10 ∧ Below W1.heap.size W1 wx ∧ Blk wx H10 #[.slice A1 n1 c1] 127 ∧ RTk W1.heap.size wx O AO no cO A1 n1 c1 cd)
 case first =>
  refine wp_region_held (S := fun w' => Below W1.heap.size W1 w') mixed ?_
  change wpAnyH _ _ _ _ _ _ _ _ W1.drew
  have hS0 : Below W1.heap.size W1 W1.drew := (Below.refl _ _).drew
  obtain ⟨W0,hW0⟩ : ∃ q,W1.drew = q := ⟨_,rfl⟩
  rw [hW0] at hS0 ⊢
  clear hW0
  refine tkQ 0 (.pointer (some ⟨R,0,none⟩)) rfl hS0 ?_
  try go_simp
  refine tkQ 1 (.pointer (some ⟨R,0,none⟩)) rfl hS0 ?_
  try go_simp
  refine tkQ 2 (.pointer (some ⟨R,1,none⟩)) rfl hS0 ?_
  try go_simp
  refine tkH 3 (.agg #[.slice aT nt cT]) rfl hS0 (fun w' hS => ?_) ?_
  ·have q0 := (hS.cell (p := ⟨R,1,none⟩) HY.out.2.1).trans HY.out.1;go_simp
  try go_simp
  refine tkQ 4 (.pointer (some ⟨H8,1,none⟩)) rfl hS0 ?_
  try go_simp
  refine tkH 5 (.string FD) rfl hS0 (fun w' hS => ?_) ?_
  ·have q0 := (hS.cell (p := ⟨H8,1,none⟩) HY.out.2.2.2.2).trans HY.out.2.2.1;go_simp
  try go_simp
  refine tkQ 6 (.int .i64 (fl : Int)) rfl hS0 ?_
  try go_simp
  refine tkQ 7 (.string DT) rfl hS0 ?_
  try go_simp
  refine tkQ 8 (.int .i64 (dl : Int)) rfl hS0 ?_
  try go_simp
  refine tkQ 9 (.int .i64 ((fl : Int) + (dl : Int))) rfl hS0 ?_
  try go_simp
  refine tkQ 10 (.int .i64 ((fl : Int) + (dl : Int) + 511)) rfl hS0 ?_
  try go_simp
  refine tkQ 11 (.int .i64 (N1 : Int)) rfl hS0 ?_
  try go_simp
  refine tkQ 12 (.pointer (some ⟨H8,1,none⟩)) rfl hS0 ?_
  try go_simp
  refine tkH 13 (.string FD) rfl hS0 (fun w' hS => ?_) ?_
  ·have q0 := (hS.cell (p := ⟨H8,1,none⟩) HY.out.2.2.2.2).trans HY.out.2.2.1;go_simp
  try go_simp
  refine tkQ 14 (.int .i64 (fl : Int)) rfl hS0 ?_
  try go_simp
  refine tkQ 15 (.int .i64 ((fl : Int) + 511)) rfl hS0 ?_
  try go_simp
  refine tkQ 16 (.int .i64 (N0 : Int)) rfl hS0 ?_
  try go_simp
  refine tkQ 17 (.int .i64 ((KK : Nat) : Int)) rfl hS0 ?_
  try go_simp
  refine tkQ 18 (.pointer (some ⟨H8,2,none⟩)) rfl hS0 ?_
  try go_simp
  refine tkH 19 (.slice aE nx cE) rfl hS0 (fun w' hS => ?_) ?_
  ·have q0 := (hS.cell (p := ⟨H8,2,none⟩) HY.out.2.2.2.2).trans HY.out.2.2.2.1;go_simp
  try go_simp
  refine tkQ 20 (.int .i64 (nx : Int)) rfl hS0 ?_
  try go_simp
  refine tkQ 21 (.int .i64 ((MM : Nat) : Int)) rfl hS0 ?_
  try go_simp
  refine wpAnyH_all (rs := [22,27]) (by kernel_rfl) (by simp) ?_
  intro i hi
  simp only [List.mem_cons,List.not_mem_nil,or_false] at hi
  rcases hi with rfl | rfl
  ·unfold wpOp
   go_simp
   refine .inl ?_
   go_at_call 104
   refine (HKT.out W0 ((HA1.out.below hS0).units)).mono ?_
   rintro e w3 ⟨AO,no,cO,A1,n1,c1,cd,rfl,htr,hb3⟩
   have hS3 := hS0.trans (hb3.mono hS0.size)
   have HV0 := Lib.hid (htr.low hS0.size)
   refine ⟨hS3, ?_⟩
   try go_simp
   clear hS0 hb3 htr
   refine tkQ 23 (.tuple #[.slice AO no cO, .agg #[.slice A1 n1 c1], .int .i64 cd]) rfl hS3 ?_
   try go_simp
   refine tkQ 24 (.slice AO no cO) rfl hS3 ?_
   try go_simp
   refine tkQ 25 (.agg #[.slice A1 n1 c1]) rfl hS3 ?_
   try go_simp
   refine tkQ 26 (.int .i64 cd) rfl hS3 ?_
   try go_simp
   refine alH 27 ?_
   unfold wpOp
   go_simp
   have hB10 := Blk.new w3 #[.slice none 0 0] 127
   have hge : W1.heap.size ≤ w3.heap.size := hS3.size
   have hS5 := hS3.alloc hS3.size (.cells #[.slice none 0 0] 127)
   have HV := Lib.hid (And.intro (HV0.out.block (w' := w3.alloc (.cells #[.slice none 0 0] 127)) (fun g hg => (below_alloc w3 (.cells #[.slice none 0 0] 127)).block g (HV0.out.lt g hg).2)) (show w3.heap.size ∉ fb AO ++ fb A1 from fun hm => by have := (HV0.out.lt _ hm).2;omega))
   obtain ⟨H10,hH10⟩ : ∃ q,w3.heap.size = q := ⟨_,rfl⟩
   rw [hH10] at hB10 hge HV
   obtain ⟨w5,hw5⟩ : ∃ q,w3.alloc (.cells #[.slice none 0 0] 127) = q := ⟨_,rfl⟩
   rw [hw5] at hB10 hS5 HV ⊢
   try rw [hH10]
   clear hw5 hH10 hS3 HV0
   rename World => w3
   have hS3 := hS5
   clear hS5
   first | refine .inl ⟨hS3, ?_⟩ | refine ⟨hS3, ?_⟩
   refine tkQ 28 (.slice AO no cO) rfl hS3 ?_
   try go_simp
   refine alH 29 ?_
   unfold wpOp
   have c0 := hB10.cell 0
   have f0 := hB10.frozen 0
   simp at c0
   have l10 := hB10.lt
   go_simp
   have hB104 := hB10.set 0 (.slice A1 n1 c1)
   have hS4 := below_set hS3 H10 0 (.slice A1 n1 c1) hge
   have hV4 := RTk.block HV.out.1 (w' := w3.setCell ⟨H10,0,none⟩ (.slice A1 n1 c1)) (fun g hg => Below.heap_setCell w3 ⟨H10,0,none⟩ _ g (fun e => HV.out.2 (by rw [show H10 = g from e.symm];exact hg)))
   obtain ⟨w4,hw4⟩ : ∃ q,(w3.setCell ⟨H10,0,none⟩ (.slice A1 n1 c1)) = q := ⟨_,rfl⟩
   rw [hw4] at hB104 hS4 hV4 ⊢
   clear hw4 hS3 c0 f0 l10 hB10
   have HV4 := Lib.hid hV4
   clear hV4
   first | refine .inl ⟨hS4, ?_⟩ | refine ⟨hS4, ?_⟩
   refine alH 30 ?_
   unfold wpOp
   go_simp
   first | refine .inl ⟨hS4, ?_⟩ | refine ⟨hS4, ?_⟩ | refine .inl ?_ | skip
   refine wpAnyH_done (by kernel_rfl) ?_ _
   go_wp2_with fail
   go_meet
   exact ⟨AO,no,cO,A1,n1,c1,cd,H10,rfl,rfl,rfl,hge,hS4,hB104,HV4.out⟩
  ·skip
   unfold wpOp
   go_simp
   have hB10 := Blk.new W0 #[.slice none 0 0] 127
   have hge : W1.heap.size ≤ W0.heap.size := hS0.size
   have hS3 := hS0.alloc hS0.size (.cells #[.slice none 0 0] 127)
   obtain ⟨H10,hH10⟩ : ∃ q,W0.heap.size = q := ⟨_,rfl⟩
   rw [hH10] at hB10 hge
   obtain ⟨w3,hw3⟩ : ∃ q,W0.alloc (.cells #[.slice none 0 0] 127) = q := ⟨_,rfl⟩
   rw [hw3] at hB10 hS3 ⊢
   try rw [hH10]
   clear hw3 hH10 hS0
   first | refine .inl ⟨hS3, ?_⟩ | refine ⟨hS3, ?_⟩
   refine alH 22 ?_
   unfold wpOp
   go_simp
   refine .inl ?_
   go_at_call 104
   refine (HKT.out w3 ((HA1.out.below hS3).units)).mono ?_
   rintro e w5 ⟨AO,no,cO,A1,n1,c1,cd,rfl,htr,hb3⟩
   have hS5 := hS3.trans (hb3.mono hS3.size)
   have hl10 := hB10.lt
   have HV := Lib.hid (And.intro (htr.low hS3.size) (show H10 ∉ fb AO ++ fb A1 from fun hm => by have := (htr.lt _ hm).1;omega))
   have hB15 := hB10.below hb3
   refine ⟨hS5, ?_⟩
   try go_simp
   clear hS3 hb3 htr hB10 hl10
   rename World => w3
   have hS3 := hS5
   have hB10 := hB15
   clear hS5 hB15
   refine tkQ 23 (.tuple #[.slice AO no cO, .agg #[.slice A1 n1 c1], .int .i64 cd]) rfl hS3 ?_
   try go_simp
   refine tkQ 24 (.slice AO no cO) rfl hS3 ?_
   try go_simp
   refine tkQ 25 (.agg #[.slice A1 n1 c1]) rfl hS3 ?_
   try go_simp
   refine tkQ 26 (.int .i64 cd) rfl hS3 ?_
   try go_simp
   refine tkQ 28 (.slice AO no cO) rfl hS3 ?_
   try go_simp
   refine alH 29 ?_
   unfold wpOp
   have c0 := hB10.cell 0
   have f0 := hB10.frozen 0
   simp at c0
   have l10 := hB10.lt
   go_simp
   have hB104 := hB10.set 0 (.slice A1 n1 c1)
   have hS4 := below_set hS3 H10 0 (.slice A1 n1 c1) hge
   have hV4 := RTk.block HV.out.1 (w' := w3.setCell ⟨H10,0,none⟩ (.slice A1 n1 c1)) (fun g hg => Below.heap_setCell w3 ⟨H10,0,none⟩ _ g (fun e => HV.out.2 (by rw [show H10 = g from e.symm];exact hg)))
   obtain ⟨w4,hw4⟩ : ∃ q,(w3.setCell ⟨H10,0,none⟩ (.slice A1 n1 c1)) = q := ⟨_,rfl⟩
   rw [hw4] at hB104 hS4 hV4 ⊢
   clear hw4 hS3 c0 f0 l10 hB10
   have HV4 := Lib.hid hV4
   clear hV4
   first | refine .inl ⟨hS4, ?_⟩ | refine ⟨hS4, ?_⟩
   refine alH 30 ?_
   unfold wpOp
   go_simp
   first | refine .inl ⟨hS4, ?_⟩ | refine ⟨hS4, ?_⟩ | refine .inl ?_ | skip
   refine wpAnyH_done (by kernel_rfl) ?_ _
   go_wp2_with fail
   go_meet
   exact ⟨AO,no,cO,A1,n1,c1,cd,H10,rfl,rfl,rfl,hge,hS4,hB104,HV4.out⟩
 case rest =>
  rename World => wx
  obtain ⟨AO,no,cO,A1,n1,c1,cd,H10,rfl,rfl,rfl,hge,hbx,hB10,hr⟩ := hcut
  have hbF := HB.out.2.1.trans (hbx.mono HB.out.2.1.size)
  cases O with
  | none =>
   obtain ⟨rfl,rfl,rfl⟩ := hr
   have HBF := Lib.hid hbF
   clear hge hbx hbF hB10
   go_wp2
   go_ret
   exact ⟨rfl,Y,⟨_,_,_,_,_,HA.out.below HBF.out⟩,Mv.of_below _ HBF.out⟩
  | some p =>
   obtain ⟨l,T1⟩ := p
   obtain ⟨rfl,hno,hn1,hrO,hr1⟩ := hr
   try dsimp only
   have hR1 := (HA1.out.below hbx).blk
   rw [HN.out.1,HN.out.2.1] at hR1
   have hB8x := HB.out.1.below hbx
   have hRl := HY.out.2.1
   have hH8l := HY.out.2.2.2.2
   have hwx := hbx.size
   have hLx := (HX.out.2.1.below (Nat.le_refl _) HB.out.2.1).below (Nat.le_refl _) hbx
   have hxl := ecells_length f.ext
   rw [HN.out.2.2.1] at hxl
   have hRw : R < w'.heap.size := HA.out.blk.lt
   have h8w := HB.out.2.2
   have HC := Lib.hid (And.intro hno (And.intro hn1 (And.intro hrO (And.intro hr1 (And.intro hB10 (And.intro hge (And.intro hbx (And.intro hR1 (And.intro hB8x (And.intro hLx hxl))))))))))
   have HS := Lib.hid (And.intro hRl (And.intro hH8l (And.intro hwx (And.intro hRw h8w))))
   have hnx := HLL.out.2.1
   have z2 := hB8x.cell 2
   simp at z2
   have lt8 := hB8x.lt
   clear hno hn1 hrO hr1 hB10 hge hbx hR1 hB8x hLx hxl hRl hH8l hwx hRw h8w hbF
   go_upto_region 14 with (first
    | (at_builtin;refine wpList_app rfl (.tmp 64) (.tmp 66) 136 205 rfl i205 _ 2 16 Tryz.underlying136 e0 e1 e2 e3 rfl (by decide) wx.heap.size (.slice none 0 0) rfl 0 [] (World.ownsRow_nil _ _ _ _) aE nx cE rfl (ecells f.ext) HC.out.2.2.2.2.2.2.2.2.2.2 HC.out.2.2.2.2.2.2.2.2.2.1 (ecells_one _) (by omega) (by decide) (Nat.le_refl _) ?_;intro A7 c7 w7 hr7 hg7;rw [Nat.zero_add,List.nil_append] at hr7;have H7 := Lib.hid (And.intro hr7 hg7);clear hr7 hg7;try simp only [Nat.zero_add]))
   have hg7 : Below wx.heap.size wx w7 := (Below.refl _ wx).grown H7.out.2 (Nat.le_refl _) (fun k hk => by simp [Value.ownBlock] at hk)
   have hb107 := HC.out.2.2.2.2.1.below hg7
   have hR7 := HC.out.2.2.2.2.2.2.2.1.below hg7
   have b0 := hb107.cell 0
   have lb := hb107.lt
   have x1 := hR7.cell 1
   have xf := hR7.frozen 1
   have xl := hR7.lt
   simp at b0 x1
   have HG7 := Lib.hid (And.intro hg7 hR7)
   clear hg7 hb107 hR7 z2 lt8
   go_upto_region 15 with (fail)
   have hrA7 := row_block H7.out.1 (w' := w7.setCell ⟨R,1,none⟩ (.slice A1 n1 c1)) (fun g hg => Below.heap_setCell w7 ⟨R,1,none⟩ _ g (fun e => by have h1 := (H7.out.1.lt g hg).1;have h2 := HS.out.1;have h3 := HS.out.2.2.1;have h4 : g = R := e;omega))
   have hrO8 := row_block (HC.out.2.2.1) (w' := w7.setCell ⟨R,1,none⟩ (.slice A1 n1 c1)) (fun g hg => (Below.heap_setCell w7 ⟨R,1,none⟩ _ g (fun e => by have h1 := (HC.out.2.2.1.lt g hg).1;have h2 := HS.out.1;have h4 : g = R := e;omega)).trans (HG7.out.1.block g (HC.out.2.2.1.lt g hg).2))
   have hr18 := row_block (HC.out.2.2.2.1) (w' := w7.setCell ⟨R,1,none⟩ (.slice A1 n1 c1)) (fun g hg => (Below.heap_setCell w7 ⟨R,1,none⟩ _ g (fun e => by have h1 := (HC.out.2.2.2.1.lt g hg).1;have h2 := HS.out.1;have h4 : g = R := e;omega)).trans (HG7.out.1.block g (HC.out.2.2.2.1.lt g hg).2))
   have hbT7 := HC.out.2.2.2.2.2.2.1.trans (HG7.out.1.mono HS.out.2.2.1)
   have hf8 : Frm [R] W1 (w7.setCell ⟨R,1,none⟩ (.slice A1 n1 c1)) := ⟨hbT7.os,hbT7.tape,hbT7.output,by simpa using hbT7.size,fun q hq hn => (Below.heap_setCell w7 ⟨R,1,none⟩ _ q (fun h => hn (by rw [show q = R from h];exact List.mem_cons_self ..))).trans (hbT7.block q hq)⟩
   have hR8 := HG7.out.2.set 1 (.slice A1 n1 c1)
   obtain ⟨R8,M8⟩ := HA1.out.setT (T' := T1) (a' := A1) (c' := c1) hf8 (by rw [HN.out.1, ← HC.out.2.1];exact hR8) (Lies.of_row hr18) (Typed.of_row hr18) (fun b hb => by
    obtain ⟨a,rfl,rfl⟩ := mem_fb hb
    exact .inl (HC.out.2.2.2.1.lt a.block rfl).1)
   have hH8 : Blk (w7.setCell ⟨R,1,none⟩ (.slice A1 n1 c1)) H8 #[.string FN, .string FD, .slice aE nx cE, .int .i64 (en : Int)] 138 := (Below.heap_setCell w7 ⟨R,1,none⟩ _ H8 (fun e => by have h1 := HS.out.2.2.2.1;have h2 := HS.out.2.2.2.2;have h4 : H8 = R := e;omega)).trans (HC.out.2.2.2.2.2.2.2.2.1.below HG7.out.1)
   have hA1l : ∀ b ∈ fb A1,W1.heap.size ≤ b ∧ b < wx.heap.size := fun b hb => by
    obtain ⟨a,rfl,rfl⟩ := mem_fb hb
    exact HC.out.2.2.2.1.lt a.block rfl
   have hwx8 : wx.heap.size ≤ (w7.setCell ⟨R,1,none⟩ (.slice A1 n1 c1)).heap.size := by simpa using HG7.out.1.size
   have hLO8 := Lies.of_row hrO8
   obtain ⟨W8,hW8⟩ : ∃ q,w7.setCell ⟨R,1,none⟩ (.slice A1 n1 c1) = q := ⟨_,rfl⟩
   rw [hW8] at hrA7 hLO8 hR8 R8 M8 hH8 hwx8 ⊢
   clear hW8 hrO8 hr18 hbT7 hf8 b0 lb x1 xf xl
   refine wp_region_held (S := fun w' => Blk w' R #[.slice (some ⟨g2,0,none⟩) n cF, .slice A1 n1 c1, .int .i64 most] 130 ∧ Blk w' H8 #[.string FN, .string FD, .slice aE nx cE, .int .i64 (en : Int)] 138) mixed ?_
   change wpAnyH _ _ _ _ _ _ _ _ W8.drew
   have HD := Lib.hid (show Blk W8.drew R #[.slice (some ⟨g2,0,none⟩) n cF, .slice A1 n1 c1, .int .i64 most] 130 ∧ Blk W8.drew H8 #[.string FN, .string FD, .slice aE nx cE, .int .i64 (en : Int)] 138 ∧ W8.drew.ownsRow wx.heap.size 205 2 (.slice A7 nx c7) nx (ecells f.ext) ∧ Lies W8.drew AO (ecells l) ∧ RAt W8.drew (fb A1 ++ Y) R F T1 most (some ⟨g2,0,none⟩) cF A1 c1 G ∧ Mv (R :: Y) (R :: (fb A1 ++ Y)) W1 W8.drew ∧ wx.heap.size ≤ W8.drew.heap.size ∧ (∀ b ∈ fb A1,W1.heap.size ≤ b ∧ b < wx.heap.size) from ⟨hR8,hH8,hrA7,hLO8,R8.keep (fun y hy => rfl),M8.drew,hwx8,hA1l⟩)
   clear hR8 hH8 hrA7 hLO8 R8 M8 hwx8 hA1l
   obtain ⟨wd,hwd⟩ : ∃ q,W8.drew = q := ⟨_,rfl⟩
   rw [hwd] at HD ⊢
   clear hwd
   have hS0 : Blk wd R #[.slice (some ⟨g2,0,none⟩) n cF, .slice A1 n1 c1, .int .i64 most] 130 ∧ Blk wd H8 #[.string FN, .string FD, .slice aE nx cE, .int .i64 (en : Int)] 138 := ⟨HD.out.1,HD.out.2.1⟩
   have hss : FD.size + DT.size ≤ 9223372036854775807 := by have := HLL.out.1;omega
   have hss2 : fl + dl ≤ 9223372036854775807 := by have := HLL.out.1;omega
   refine tkQ 0 (.pointer (some ⟨R,0,none⟩)) rfl hS0 ?_
   try go_simp
   refine tkQ 1 (.pointer (some ⟨R,0,none⟩)) rfl hS0 ?_
   try go_simp
   refine tkQ 2 (.pointer (some ⟨R,0,none⟩)) rfl hS0 ?_
   try go_simp
   refine tkH 3 (.slice (some ⟨g2,0,none⟩) n cF) rfl hS0 (fun w' hS => ?_) ?_
   ·have x0 := hS.1.cell 0;simp at x0;go_simp
   try go_simp
   refine tkQ 4 (.int .i64 (i : Int)) rfl hS0 ?_
   try go_simp
   refine tkQ 5 (.string NM) rfl hS0 ?_
   try go_simp
   refine tkQ 6 (.pointer (some ⟨H8,1,none⟩)) rfl hS0 ?_
   try go_simp
   refine tkH 7 (.string FD) rfl hS0 (fun w' hS => ?_) ?_
   ·have x0 := hS.2.cell 1;simp at x0;go_simp
   try go_simp
   refine tkQ 8 (.string DT) rfl hS0 ?_
   try go_simp
   refine tkQ 9 (.string (FD ++ DT)) rfl hS0 ?_
   try go_simp
   refine tkQ 10 (.slice A7 nx c7) rfl hS0 ?_
   try go_simp
   refine tkQ 11 (.slice AO no cO) rfl hS0 ?_
   try go_simp
   refine tkQ 13 (.pointer (some ⟨H8,3,none⟩)) rfl hS0 ?_
   try go_simp
   refine tkH 14 (.int .i64 (en : Int)) rfl hS0 (fun w' hS => ?_) ?_
   ·have x0 := hS.2.cell 3;simp at x0;go_simp
   try go_simp
   refine alH 12 ?_
   have hnob := (takeS_facts HO.out).1
   have hnol : no ≤ 64 := by have := HC.out.1;have := HLL.out.2.2.2.2;omega
   refine wpOp_of rfl rfl (wp_app (P := Tryz.prog) (.tmp 82) (.tmp 83) 136 205 rfl i205 _ 2 16 Tryz.underlying136 e0 e1 e2 e3 rfl (by decide) wx.heap.size (.slice A7 nx c7) (by rfl) nx (ecells f.ext) HD.out.2.2.1 AO no cO (by rfl) (ecells l) (by rw [ecells_length, ← HC.out.1]) HD.out.2.2.2.1 (ecells_one _) (by omega) (by decide) HD.out.2.2.2.2.2.2.1 ?_)
   intro A9 c9 w9 hr9 hg9
   rw [← ecells_app] at hr9
   have hne9 : ∀ y,y < wx.heap.size → (Value.slice A7 nx c7).ownBlock ≠ some y := fun y hy e => by have := (HD.out.2.2.1.lt y e).1;omega
   have hS9 : Blk w9 R #[.slice (some ⟨g2,0,none⟩) n cF, .slice A1 n1 c1, .int .i64 most] 130 ∧ Blk w9 H8 #[.string FN, .string FD, .slice aE nx cE, .int .i64 (en : Int)] 138 := ⟨HD.out.1.grown hg9 (hne9 R (by have := HS.out.1;have := HS.out.2.2.1;omega)),HD.out.2.1.grown hg9 (hne9 H8 (by have := HS.out.2.1;have := HS.out.2.2.1;omega))⟩
   have hYl : ∀ y ∈ R :: (fb A1 ++ Y),y < wx.heap.size := fun y hy => by
    have hW1x := HS.out.2.2.1
    rcases List.mem_cons.1 hy with rfl | hy
    ·have := HS.out.1;omega
    ·rcases List.mem_append.1 hy with h1 | h1
     ·exact (HD.out.2.2.2.2.2.2.2 y h1).2
     ·have := HA1.out.lt y (List.mem_cons_of_mem _ h1);omega
   have R9 := HD.out.2.2.2.2.1.keep (w' := w9) (fun y hy => hg9.block y (Nat.lt_of_lt_of_le (hYl y hy) HD.out.2.2.2.2.2.2.1) (fun e => hne9 y (hYl y hy) e.symm))
   have R9b := R9.more A9 205 (Typed.of_row hr9) (.inr (.inr (.inr rfl))) (by decide)
   have hM9 : Mv (R :: Y) (R :: (fb A9 ++ (fb A1 ++ Y))) W1 w9 := ⟨⟨hg9.os.trans HD.out.2.2.2.2.2.1.frm.os,hg9.tape.trans HD.out.2.2.2.2.2.1.frm.tape,hg9.output.trans HD.out.2.2.2.2.2.1.frm.output,Nat.le_trans HD.out.2.2.2.2.2.1.size hg9.size,fun k hk hn => (hg9.block k (Nat.lt_of_lt_of_le hk HD.out.2.2.2.2.2.1.size) (fun e => hne9 k (by have := HS.out.2.2.1;omega) e.symm)).trans (HD.out.2.2.2.2.2.1.frm.block k hk hn)⟩,fun x hx => by
    rcases List.mem_cons.1 hx with rfl | hx
    ·exact .inl (List.mem_cons_self ..)
    ·rcases List.mem_append.1 hx with h1 | h1
     ·obtain ⟨a,rfl,rfl⟩ := mem_fb h1
      have := (hr9.lt a.block rfl).1
      have := HS.out.2.2.1
      right;omega
     ·exact HD.out.2.2.2.2.2.1.sub x (List.mem_cons_of_mem _ h1)⟩
   have HE := Lib.hid (And.intro R9b (And.intro hM9 (And.intro hr9 hS9)))
   clear R9 R9b hM9 hYl hne9
   refine ⟨hS9, ?_⟩
   try go_simp
   clear hS0 hr9 hg9
   refine tkQ 15 (.agg #[.string NM, .string (FD ++ DT), .slice A9 (nx + no) c9, .int .i64 (en : Int)]) rfl hS9 ?_
   try go_simp
   refine tkQ 16 (.pointer (some ⟨g2,i * 4,none⟩)) rfl hS9 ?_
   try go_simp
   refine alH 17 ?_
   have hrow9 := HE.out.1.row
   rw [HN.out.1] at hrow9
   have hrl := rcells_length G
   rw [HN.out.1] at hrl
   have gl := (hrow9.lt g2 rfl).2
   have c0 := hrow9.cellAt (i * 4) (by omega)
   have c1' := hrow9.cellAt (i * 4 + 1) (by omega)
   have c2 := hrow9.cellAt (i * 4 + 2) (by omega)
   have c3 := hrow9.cellAt (i * 4 + 3) (by omega)
   have f0 := hrow9.frozenAt (i * 4)
   have f1 := hrow9.frozenAt (i * 4 + 1)
   have f2 := hrow9.frozenAt (i * 4 + 2)
   have f3 := hrow9.frozenAt (i * 4 + 3)
   rw [HX.out.1.1] at c0
   rw [HX.out.1.2.1] at c1'
   rw [HX.out.1.2.2.1] at c2
   rw [HX.out.1.2.2.2] at c3
   unfold wpOp
   go_simp
   have hgR : g2 ≠ R := fun e => by
    obtain ⟨c,fz,h1⟩ := row_kind hrow9 g2 rfl
    have h2 := HE.out.2.2.2.1
    unfold Blk at h2
    rw [← e,h1] at h2
    injection h2 with h2
    injection h2 with _ h3 _
    exact absurd h3 (by decide)
   have hgH : g2 ≠ H8 := fun e => by
    have h3 := HA.out.lt g2 (List.mem_cons_of_mem _ (HA.out.inF _ rfl))
    have := HS.out.2.2.2.2
    omega
   have s0 := hrow9.stored (i * 4) (.string NM)
   have s1 := s0.1.stored (i * 4 + 1) (.string (FD ++ DT))
   have s2 := s1.1.stored (i * 4 + 2) (.slice A9 (nx + no) c9)
   have s3 := s2.1.stored (i * 4 + 3) (.int .i64 (en : Int))
   have hg := ((s0.2.trans s1.2).trans s2.2).trans s3.2
   have hr := s3.1
   rw [rcells_set ((⟨name,f.data ++ data,f.ext ++ l,f.entry⟩ : PF),A9,c9) (.string NM) (.string (FD ++ DT)) (.slice A9 (nx + no) c9) (.int .i64 (en : Int)) (by
    obtain ⟨m1,m2,m3,m4,m5⟩ := HM.out
    simp only [rcell,List.length_append]
    rw [m1,m5, ← mk_app,m4,m2,HN.out.2.2.1, ← HC.out.1]) G i (by rw [HN.out.1];exact i3)] at hr
   obtain ⟨w4,hw4⟩ : ∃ q,((((w9.setCell ⟨g2,i * 4,none⟩ (.string NM)).setCell ⟨g2,i * 4 + 1,none⟩ (.string (FD ++ DT))).setCell ⟨g2,i * 4 + 2,none⟩ (.slice A9 (nx + no) c9)).setCell ⟨g2,i * 4 + 3,none⟩ (.int .i64 (en : Int))) = q := ⟨_,rfl⟩
   rw [hw4] at hg hr ⊢
   clear hw4 s0 s1 s2 s3
   have hB4 := hS9.1.grown hg (fun e => hgR (by simpa [Value.ownBlock] using e))
   have hX4 := hS9.2.grown hg (fun e => hgH (by simpa [Value.ownBlock] using e))
   have hf4 : Frm (R :: fb (some ⟨g2,0,none⟩)) w9 w4 := ⟨hg.os,hg.tape,hg.output,hg.size,fun k hk hn => hg.block k hk (fun e => hn (List.mem_cons_of_mem _ (by
    have e2 : k = g2 := by simpa [Value.ownBlock] using e
    rw [e2];exact List.mem_cons_self ..)))⟩
   have HY9 := Lib.hid (And.intro hr (And.intro hB4 hf4))
   first | refine .inl ⟨⟨hB4,hX4⟩, ?_⟩ | refine ⟨⟨hB4,hX4⟩, ?_⟩
   refine wpAnyH_done (by kernel_rfl) ?_ _
   have hrE := HE.out.2.2.1
   clear hS9 hrl gl c0 c1' c2 c3 f0 f1 f2 f3 hg hr hB4 hX4 hf4 hgR hgH hrow9 hrE
   go_wp2
   go_ret
   have hGl : (G.set i (((⟨name,f.data ++ data,f.ext ++ l,f.entry⟩ : PF),A9,c9) : PG)).length = n := by rw [List.length_set,HN.out.1]
   obtain ⟨Y',h1,h2⟩ := HE.out.1.setF (G' := G.set i (((⟨name,f.data ++ data,f.ext ++ l,f.entry⟩ : PF),A9,c9) : PG)) (a' := some ⟨g2,0,none⟩) (c' := cF) HY9.out.2.2 (by rw [hGl, ← HC.out.2.1];exact HY9.out.2.1) (by rw [hGl];exact HY9.out.1) (fun z hz => by
    rcases List.mem_or_eq_of_mem_set hz with h | h
    ·exact HE.out.1.exts z h
    ·subst h
     exact ⟨Lies.of_row HE.out.2.2.1,Typed.of_row HE.out.2.2.1,fun a ha => List.mem_append_left _ (by subst ha;exact List.mem_cons_self ..)⟩) (fun b hb => .inl hb)
   refine ⟨rfl,Y', ?_,((Mv.of_below (R :: Y) HB.out.2.1).trans HE.out.2.1).trans h2⟩
   rw [List.map_set,HA.out.files] at h1
   exact h1
open Go.RowKit
def StP (X : List Nat) (S D Lg M : Nat) (m : StoM) (w : World) (e : Ending) (w' : World) : Prop :=
 ∃ (n : Nat) (X' : List Nat) (m' : StoM),e = .returned (.int .i64 n) ∧ Mv (S :: M :: X) (S :: M :: X') w w' ∧ Sto w' X' S D Lg M m' ∧ Inv m' ∧ m'.most = m.most ∧ m'.T.length = m.T.length
theorem StP.same {X : List Nat} {S D Lg M : Nat} {m : StoM} {w w' : World} {n : Nat} (h : Sto w' X S D Lg M m) (hi : Inv m) (hb : Below w.heap.size w w') : StP X S D Lg M m w (.returned (.int .i64 (n : Nat))) w' :=
 ⟨n,X,m,rfl,Mv.of_below _ hb,h,hi,rfl,rfl⟩
theorem inv_same_len {m : StoM} {C : List Cmd} {F : List FileM} {T : List Bool} (h : Inv m) (h2 : Inv ⟨(DS.run C m.ds).2,F,T,m.most,m.off⟩) : T.length = m.T.length := by
 have a := h.b.ll
 have b : T.length + m.most + 7 = (DS.run C m.ds).2.L.length := h2.b.ll
 have c := (run_len C m.ds).1
 omega
theorem preW_zero {m : StoM} {name data : Bs} {q : List Bool × FileM} (h : (preW m name data).2 = some q) : preW m name data = (0,some q) := by
 unfold preW at h ⊢
 split
 ·rename_i h1;rw [if_pos h1] at h;cases h
 ·rename_i h1;rw [if_neg h1] at h
  split
  ·rename_i h2;rw [if_pos h2] at h;cases h
  ·rename_i h2;rw [if_neg h2] at h
   cases hs : slotW m name with
   | none => rw [hs] at h;cases h
   | some i =>
    rw [hs] at h
    dsimp only at h ⊢
    cases ht : takeS m.T (needsN data.length) 64 with
    | none => rw [ht] at h;cases h
    | some p =>
     obtain ⟨l,T1⟩ := p
     rw [ht] at h
     dsimp only at h ⊢
     cases hu : turnS false T1 (oldX m.F name) with
     | none => rw [hu] at h;cases h
     | some T3 => rw [hu] at h;dsimp only at h ⊢;rw [h]
theorem preA_zero {m : StoM} {name data : Bs} {q : List Bool × List Nat × Bs × FileM} (h : (preA m name data).2 = some q) : preA m name data = (0,some q) := by
 unfold preA at h ⊢
 split
 ·rename_i h1;rw [if_pos h1] at h;cases h
 ·rename_i h1;rw [if_neg h1] at h
  cases hf : fileOf m.F name with
  | none => rw [hf] at h;cases h
  | some f =>
   rw [hf] at h
   dsimp only at h ⊢
   split
   ·rename_i h2;rw [if_pos h2] at h;cases h
   ·rename_i h2;rw [if_neg h2] at h
    split
    ·rename_i h3;rw [if_pos h3] at h;cases h
    ·rename_i h3;rw [if_neg h3] at h
     cases ht : takeS m.T (needsN (f.size + data.length) - sumN f.ext) (64 - f.ext.length) with
     | none => rw [ht] at h;cases h
     | some p => rw [ht] at h;dsimp only at h ⊢;rw [h]
theorem preN_zero {m : StoM} {name dest : Bs} {q : List Bool × List (Nat × Bs) × List FileM} (h : (preN m name dest).2 = some q) : preN m name dest = (0,some q) := by
 unfold preN at h ⊢
 split
 ·rename_i h1;rw [if_pos h1] at h;cases h
 ·rename_i h1;rw [if_neg h1] at h
  cases hf : fileOf m.F name with
  | none => rw [hf] at h;cases h
  | some f =>
   rw [hf] at h
   dsimp only at h ⊢
   split
   ·rename_i h2;rw [if_pos h2] at h;cases h
   ·rename_i h2;rw [if_neg h2] at h
    cases hd : fileOf m.F dest with
    | none => rw [hd] at h;dsimp only at h ⊢;rw [h]
    | some g =>
     rw [hd] at h
     dsimp only at h ⊢
     cases ht : turnS false m.T g.ext with
     | none => rw [ht] at h;cases h
     | some T3 => rw [ht] at h;dsimp only at h ⊢;rw [h]
theorem preR_zero {m : StoM} {name : Bs} {q : List Bool × FileM} (h : (preR m name).2 = some q) : goodF name = true ∧ fileOf m.F name = some q.2 ∧ preR m name = (0,some q) := by
 unfold preR at h ⊢
 split
 ·rename_i h1;rw [if_pos h1] at h;cases h
 ·rename_i h1;rw [if_neg h1] at h
  cases hf : fileOf m.F name with
  | none => rw [hf] at h;cases h
  | some f =>
   rw [hf] at h
   dsimp only at h ⊢
   cases ht : turnS false m.T f.ext with
   | none => rw [ht] at h;cases h
   | some T3 => rw [ht] at h;dsimp only at h ⊢;rw [← Option.some.inj h];exact ⟨by simpa using h1,rfl,rfl⟩
def toM (f : PF) : FileM := ⟨f.name,f.entry,f.data.length,f.ext⟩
def refM (F : List PF) (T : List Bool) (most : Nat) : StoM := ⟨⟨List.replicate (T.length + most + 7) zeroS,[],none,false⟩,F.map toM,T,most,false⟩
theorem inv_idle {m' : StoM} {F' : List PF} {T' : List Bool} {most : Nat} (h : Inv m') (hp : m'.F.Perm (F'.map toM)) (hT : m'.T = T') (hm : m'.most = most) : Inv (refM F' T' most) := by
 subst hT hm
 refine inv_mk (m' := refM F' m'.T m'.most) (F'.map toM) (List.Perm.refl _) (fun f hf => h.fin (hp.mem_iff.2 hf)) ((hp.map (·.name)).nodup_iff.1 h.names) ((hp.map (·.entry)).nodup_iff.1 h.entries) ((unitsF_perm hp).nodup_iff.1 h.once) (fun j => (h.taken j).trans (unitsF_perm hp).mem_iff) h.b.mo h.b.tl ?_ rfl rfl rfl rfl
 simp [refM]
theorem idxF_cons (f : PF) (F : List PF) (t : Bs) : idxF (f :: F) t = if f.name = t then some 0 else (idxF F t).map (· + 1) := by
 unfold idxF
 rw [List.findIdx?_cons]
 by_cases h : f.name = t
 ·rw [if_pos h,if_pos (by simpa using h)]
 ·rw [if_neg h,if_neg (by simpa using h)]
theorem fileOf_idx (t : Bs) : ∀ F : List PF,fileOf (F.map toM) t = (idxF F t).bind fun i => F[i]?.map toM := by
 intro F
 induction F with
 | nil => rfl
 | cons f F ih =>
  rw [List.map_cons,fileOf_cons,idxF_cons]
  by_cases h : f.name = t
  ·rw [if_pos (show (toM f).name = t from h),if_pos h];rfl
  ·rw [if_neg (show ¬ (toM f).name = t from h),if_neg h,ih]
   cases idxF F t with
   | none => rfl
   | some i => simp
theorem idxF_some {F : List PF} {t : Bs} {i : Nat} (h : idxF F t = some i) : ∃ hi : i < F.length,F[i].name = t ∧ fileOf (F.map toM) t = some (toM F[i]) := by
 have h1 := List.findIdx?_eq_some_iff_getElem.1 h
 obtain ⟨hi,h2,_⟩ := h1
 refine ⟨hi,by simpa using h2, ?_⟩
 rw [fileOf_idx,h,Option.bind_some,List.getElem?_eq_getElem hi,Option.map_some]
theorem idxF_none {F : List PF} {t : Bs} (h : idxF F t = none) : fileOf (F.map toM) t = none ∧ ∀ f ∈ F,f.name ≠ t := by
 refine ⟨by rw [fileOf_idx,h];rfl,fun f hf e => ?_⟩
 have := List.findIdx?_eq_none_iff.1 h f hf
 simp [e] at this
theorem delF_idx (t : Bs) : ∀ (F : List PF) (i : Nat),((F.map toM).map (·.name)).Nodup → idxF F t = some i → delF (F.map toM) t = (F.eraseIdx i).map toM := by
 intro F
 induction F with
 | nil => intro i _ h;cases h
 | cons f F ih =>
  intro i hn h
  rw [List.map_cons,List.map_cons,List.nodup_cons] at hn
  rw [idxF_cons] at h
  rw [List.map_cons,delF_cons]
  by_cases e : f.name = t
  ·rw [if_pos e] at h
   cases h
   rw [if_pos (show (toM f).name = t from e),List.eraseIdx_cons_zero]
   refine del_none (fileOf_none.2 fun g hg hgn => hn.1 ?_)
   rw [show (toM f).name = t from e, ← hgn]
   exact List.mem_map.2 ⟨g,hg,rfl⟩
  ·rw [if_neg e] at h
   obtain ⟨k,hk,rfl⟩ := Option.map_eq_some_iff.1 h
   rw [if_neg (show ¬ (toM f).name = t from e),List.eraseIdx_cons_succ,List.map_cons,ih k hn.2 hk]
theorem set_perm {α : Type} (x : α) : ∀ (F : List α) (i : Nat),i < F.length → (F.set i x).Perm (x :: F.eraseIdx i) := by
 intro F
 induction F with
 | nil => intro i h;simp at h
 | cons f F ih =>
  intro i h
  cases i with
  | zero => exact List.Perm.refl _
  | succ i =>
   rw [List.set_cons_succ,List.eraseIdx_cons_succ]
   exact ((ih i (by simpa using h)).cons f).trans (List.Perm.swap x f _)
theorem range_le : ∀ (n : Nat) (E : List Nat),(∀ i,i < n → i ∈ E) → n ≤ E.length := by
 intro n
 induction n with
 | zero => intro E _;exact Nat.zero_le _
 | succ n ih =>
  intro E h
  have h1 := ih (E.erase n) (fun i hi => (List.mem_erase_of_ne (by omega)).2 (h i (by omega)))
  rw [List.length_erase_of_mem (h n (by omega))] at h1
  have := List.length_pos_of_mem (h n (by omega))
  omega
theorem vacN_some {F : List FileM} {most i : Nat} (h : vacN F most = some i) : i < most ∧ (∀ f ∈ F,f.entry ≠ i) ∧ ∀ e,e < i → ∃ f ∈ F,f.entry = e := by
 refine ⟨(vacN_lt h).1,(vacN_lt h).2,fun e he => ?_⟩
 have hi := (vacN_lt h).1
 unfold vacN at h
 obtain ⟨h1,h2,h3⟩ := List.findIdx?_eq_some_iff_getElem.1 h
 have := h3 e he
 simp only [List.getElem_map,List.getElem_range,beq_iff_eq,Bool.not_eq_false,List.any_eq_true] at this
 simpa using this
theorem vacN_none {F : List FileM} {most : Nat} (h : vacN F most = none) : ∀ e,e < most → ∃ f ∈ F,f.entry = e := by
 intro e he
 unfold vacN at h
 have := List.findIdx?_eq_none_iff.1 h ((F.any fun f => f.entry == e)) (List.mem_map.2 ⟨e,List.mem_range.2 he,rfl⟩)
 simpa using this
def enF (F : List PF) (most : Nat) : Nat := (vacN (F.map toM) most).getD most
theorem enF_facts {F : List PF} {T : List Bool} {most : Nat} (h : Inv (refM F T most)) : (∀ f ∈ F,f.entry ≠ enF F most) ∧ (∀ e,e < enF F most → ∃ f ∈ F,f.entry = e) ∧ enF F most ≤ 1000 ∧ (vacN (F.map toM) most = none ↔ F.length = most) := by
 have hm : most ≤ 256 := h.b.mo.2
 have hlt : ∀ f ∈ F,f.entry < most := fun f hf => h.b.ent (toM f) (List.mem_map.2 ⟨f,hf,rfl⟩)
 have hnd : ((F.map toM).map (·.entry)).Nodup := h.entries
 have hle : F.length ≤ most := by
  have := nodup_lt most _ hnd (fun x hx => by
   obtain ⟨g,hg,rfl⟩ := List.mem_map.1 hx
   obtain ⟨f,hf,rfl⟩ := List.mem_map.1 hg
   exact hlt f hf)
  simpa using this
 unfold enF
 cases hv : vacN (F.map toM) most with
 | none =>
  have h1 := vacN_none hv
  refine ⟨fun f hf => by have := hlt f hf;simp only [Option.getD_none];omega,fun e he => ?_,by simp only [Option.getD_none];omega,⟨fun _ => ?_,fun _ => rfl⟩⟩
  ·obtain ⟨g,hg,he2⟩ := h1 e he
   obtain ⟨f,hf,rfl⟩ := List.mem_map.1 hg
   exact ⟨f,hf,he2⟩
  ·have := range_le most ((F.map toM).map (·.entry)) (fun i hi => by
    obtain ⟨g,hg,he2⟩ := h1 i hi
    exact List.mem_map.2 ⟨g,hg,he2⟩)
   simp at this
   omega
 | some i =>
  obtain ⟨h1,h2,h3⟩ := vacN_some hv
  refine ⟨fun f hf => h2 (toM f) (List.mem_map.2 ⟨f,hf,rfl⟩),fun e he => ?_,by simp only [Option.getD_some];omega,⟨(fun e => by cases e),fun e => ?_⟩⟩
  ·obtain ⟨g,hg,he2⟩ := h3 e he
   obtain ⟨f,hf,rfl⟩ := List.mem_map.1 hg
   exact ⟨f,hf,he2⟩
  ·exfalso
   have := nodup_lt most (i :: (F.map toM).map (·.entry)) (List.nodup_cons.2 ⟨fun hm => by
    obtain ⟨g,hg,he2⟩ := List.mem_map.1 hm
    exact h2 g hg he2,hnd⟩) (fun x hx => by
    rcases List.mem_cons.1 hx with rfl | hx
    ·exact h1
    ·obtain ⟨g,hg,rfl⟩ := List.mem_map.1 hx
     obtain ⟨f,hf,rfl⟩ := List.mem_map.1 hg
     exact hlt f hf)
   simp at this
   omega
theorem ref_write {F : List PF} {T : List Bool} {most : Nat} (h : Inv (refM F T most)) (name data : Bs) :
  ∃ r F' T',wriS F T most (enF F most) name data = some (r,F',T') ∧ Inv (refM F' T' most) ∧ r = (preW (refM F T most) name data).1 ∧
   match (preW (refM F T most) name data).2 with
   | none => F' = F ∧ T' = T
   | some (T2,f) => T' = T2 ∧ (F'.map toM).Perm (putF (F.map toM) f) ∧ ∀ g ∈ F',(g.name = name ∧ g.data = data ∧ toM g = f) ∨ (g ∈ F ∧ g.name ≠ name) := by
 have hp0 : ∀ q,preW (refM F T most) name data = (0,some q) → Inv ⟨(DS.run (putC most q.1 (secL (most + 7) q.2.ext) data q.2) (refM F T most).ds).2,putF (F.map toM) q.2,q.1,most,false⟩ := fun q hq => (inv_put h (T2 := q.1) (f := q.2) hq).2
 obtain ⟨_,_,_,hvn⟩ := enF_facts h
 unfold wriS
 generalize hpw : preW (refM F T most) name data = P at hp0 ⊢
 unfold preW at hpw
 cases hg : goodF name with
 | false =>
  rw [if_pos hg] at hpw
  subst hpw
  exact ⟨11,F,T,by rw [if_pos rfl],h,rfl,rfl,rfl⟩
 | true =>
  rw [if_neg (by rw [hg];decide)] at hpw
  rw [if_neg (by decide)]
  by_cases hd : 1048576 < data.length
  ·rw [if_pos hd] at hpw
   rw [if_pos hd]
   subst hpw
   exact ⟨6,F,T,rfl,h,rfl,rfl,rfl⟩
  ·rw [if_neg hd] at hpw
   rw [if_neg hd]
   cases hf : idxF F name with
   | none =>
    obtain ⟨hfo,hnn⟩ := idxF_none hf
    have hsl : slotW (refM F T most) name = vacN (F.map toM) most := by unfold slotW;rw [show fileOf (refM F T most).F name = none from hfo];rfl
    have hox : oldX (refM F T most).F name = [] := by unfold oldX;rw [show fileOf (refM F T most).F name = none from hfo];rfl
    rw [hsl,hox] at hpw
    cases hv : vacN (F.map toM) most with
    | none =>
     rw [hv] at hpw
     simp only at hpw ⊢
     rw [if_pos (hvn.1 hv)]
     subst hpw
     exact ⟨8,F,T,rfl,h,rfl,rfl,rfl⟩
    | some i =>
     rw [hv] at hpw
     simp only at hpw ⊢
     rw [if_neg (fun e => by rw [hvn.2 e] at hv;cases hv)]
     cases ht : takeS T (needsN data.length) 64 with
     | none =>
      rw [show takeS (refM F T most).T (needsN data.length) 64 = none from ht] at hpw
      simp only at hpw ⊢
      subst hpw
      exact ⟨8,F,T,rfl,h,rfl,rfl,rfl⟩
     | some p =>
      obtain ⟨l,T1⟩ := p
      rw [show takeS (refM F T most).T (needsN data.length) 64 = some (l,T1) from ht] at hpw
      simp only [turnS] at hpw ⊢
      subst hpw
      have hi := hp0 _ rfl
      have hen : enF F most = i := by unfold enF;rw [hv];rfl
      have hput : putF (F.map toM) ⟨name,i,data.length,l⟩ = (F ++ [(⟨name,data,l,enF F most⟩ : PF)]).map toM := by
       unfold putF
       rw [show fileOf (F.map toM) name = none from hfo,hen]
       simp [toM]
      refine ⟨0,_,T1,rfl,inv_idle hi (by rw [hput]) rfl rfl,rfl,rfl,by rw [hput],fun g hg => ?_⟩
      rcases List.mem_append.1 hg with h1 | h1
      ·exact .inr ⟨h1,hnn g h1⟩
      ·obtain rfl := List.mem_singleton.1 h1
       exact .inl ⟨rfl,rfl,by rw [hen];rfl⟩
   | some i =>
    obtain ⟨hil,hin,hfo⟩ := idxF_some hf
    have hsl : slotW (refM F T most) name = some F[i].entry := by unfold slotW;rw [show fileOf (refM F T most).F name = some (toM F[i]) from hfo];rfl
    have hox : oldX (refM F T most).F name = F[i].ext := by unfold oldX;rw [show fileOf (refM F T most).F name = some (toM F[i]) from hfo];rfl
    rw [hsl] at hpw
    simp only at hpw ⊢
    cases ht : takeS T (needsN data.length) 64 with
    | none =>
     rw [show takeS (refM F T most).T (needsN data.length) 64 = none from ht] at hpw
     simp only at hpw ⊢
     subst hpw
     exact ⟨8,F,T,rfl,h,rfl,rfl,rfl⟩
    | some p =>
     obtain ⟨l,T1⟩ := p
     rw [show takeS (refM F T most).T (needsN data.length) 64 = some (l,T1) from ht] at hpw
     simp only at hpw ⊢
     obtain ⟨T2,ht2⟩ : ∃ T2,turnS false T1 F[i].ext = some T2 := by
      obtain ⟨o1,o2,o3⟩ := old_facts h name
      rw [hox] at o1 o2 o3
      obtain ⟨_,_,_,b4,_,b6⟩ := takeS_facts ht
      obtain ⟨T2,h1,_⟩ := turnS_give F[i].ext T1 (fun x hx => by rw [b4];exact o1 x hx) o2 (fun j hj => by
       have h2 : T.getD j false = true := o3 j hj
       rw [getD_two] at h2 ⊢
       rw [b6,b4]
       revert h2
       cases decide (j < T.length) <;> cases T.getD j true <;> simp)
      exact ⟨T2,h1⟩
     rw [hox,ht2] at hpw
     simp only at hpw
     rw [List.getElem?_eq_getElem hil,Option.map_some,Option.getD_some,Option.map_some,Option.getD_some,ht2,Option.map_some]
     subst hpw
     have hi := hp0 _ rfl
     have hperm : ((F.set i (⟨name,data,l,F[i].entry⟩ : PF)).map toM).Perm (putF (F.map toM) ⟨name,F[i].entry,data.length,l⟩) := by
      have h1 := perm_put (F.map toM) ⟨name,F[i].entry,data.length,l⟩ h.names
      have h2 := (set_perm (⟨name,data,l,F[i].entry⟩ : PF) F i hil).map toM
      rw [List.map_cons, ← delF_idx name F i h.names hf] at h2
      exact h2.trans h1.symm
     refine ⟨0,_,T2,rfl,inv_idle hi hperm.symm rfl rfl,rfl,rfl,hperm,fun g hg => ?_⟩
     have hg2 := (set_perm (⟨name,data,l,F[i].entry⟩ : PF) F i hil).mem_iff.1 hg
     rcases List.mem_cons.1 hg2 with rfl | h1
     ·exact .inl ⟨rfl,rfl,rfl⟩
     ·refine .inr ⟨List.mem_of_mem_eraseIdx h1,fun e => ?_⟩
      have h3 : toM g ∈ delF (F.map toM) name := by rw [delF_idx name F i h.names hf];exact List.mem_map.2 ⟨g,h1,rfl⟩
      have h4 := (List.mem_filter.1 h3).2
      simp [show (toM g).name = name from e] at h4
theorem takeS_zero (T : List Bool) (k : Nat) : takeS T 0 k = some ([],T) := by
 have e : trimR (runs T 0 0) 0 = ([],0) := by
  cases runs T 0 0 with
  | nil => rfl
  | cons x r => unfold trimR;simp
 unfold takeS
 rw [e,if_neg (by simp)]
 simp [turnS]
theorem erase_ne {F : List PF} {T : List Bool} {most i : Nat} {name : Bs} (h : Inv (refM F T most)) (hf : idxF F name = some i) {g : PF} (hg : g ∈ F.eraseIdx i) : g ∈ F ∧ g.name ≠ name := by
 refine ⟨List.mem_of_mem_eraseIdx hg,fun e => ?_⟩
 have h3 : toM g ∈ delF (F.map toM) name := by rw [delF_idx name F i h.names hf];exact List.mem_map.2 ⟨g,hg,rfl⟩
 have h4 := (List.mem_filter.1 h3).2
 simp [show (toM g).name = name from e] at h4
theorem ref_append {F : List PF} {T : List Bool} {most : Nat} (h : Inv (refM F T most)) (name data : Bs) :
  ∃ r F' T',appS F T name data = some (r,F',T') ∧ Inv (refM F' T' most) ∧ r = (preA (refM F T most) name data).1 ∧
   match (preA (refM F T most) name data).2 with
   | none => F' = F ∧ T' = T
   | some (T2,_,_,f) => T' = T2 ∧ (F'.map toM).Perm (putF (F.map toM) f) ∧ ∀ g ∈ F',(g.name = name ∧ (∃ g0 ∈ F,g0.name = name ∧ g.data = g0.data ++ data) ∧ toM g = f) ∨ (g ∈ F ∧ g.name ≠ name) := by
 have hp0 : ∀ q,preA (refM F T most) name data = (0,some q) → Inv ⟨(DS.run (putC most q.1 q.2.1 q.2.2.1 q.2.2.2) (refM F T most).ds).2,putF (F.map toM) q.2.2.2,q.1,most,false⟩ := fun q hq => (inv_append h (T1 := q.1) (L := q.2.1) (dt := q.2.2.1) (f' := q.2.2.2) hq).2
 unfold appS
 generalize hpw : preA (refM F T most) name data = P at hp0 ⊢
 unfold preA at hpw
 cases hg : goodF name with
 | false =>
  rw [if_pos hg] at hpw
  subst hpw
  exact ⟨11,F,T,by rw [if_pos rfl],h,rfl,rfl,rfl⟩
 | true =>
  rw [if_neg (by rw [hg];decide)] at hpw
  rw [if_neg (by decide)]
  cases hf : idxF F name with
  | none =>
   obtain ⟨hfo,_⟩ := idxF_none hf
   rw [show fileOf (refM F T most).F name = none from hfo] at hpw
   simp only at hpw ⊢
   subst hpw
   exact ⟨9,F,T,rfl,h,rfl,rfl,rfl⟩
  | some i =>
   obtain ⟨hil,hin,hfo⟩ := idxF_some hf
   rw [show fileOf (refM F T most).F name = some (toM F[i]) from hfo] at hpw
   simp only at hpw ⊢
   rw [List.getElem?_eq_getElem hil]
   simp only
   have hsz : (toM F[i]).size = F[i].data.length := rfl
   have hxt : (toM F[i]).ext = F[i].ext := rfl
   have hsum : sumN F[i].ext = needsN F[i].data.length := h.sum (toM F[i]) (List.mem_map.2 ⟨F[i],List.getElem_mem hil,rfl⟩)
   rw [hsz,hxt,hsum] at hpw
   by_cases hl : 1048576 < F[i].data.length + data.length
   ·rw [if_pos hl] at hpw
    rw [if_pos hl]
    subst hpw
    exact ⟨6,F,T,rfl,h,rfl,rfl,rfl⟩
   ·rw [if_neg hl] at hpw
    rw [if_neg hl]
    by_cases hd : data = []
    ·rw [if_pos hd] at hpw
     subst hpw hd
     simp only [List.length_nil,Nat.add_zero,Nat.sub_self,takeS_zero,List.append_nil]
     have e : F.set i ⟨name,F[i].data,F[i].ext,F[i].entry⟩ = F := by
      rw [show (⟨name,F[i].data,F[i].ext,F[i].entry⟩ : PF) = F[i] by rw [← hin]]
      exact List.set_getElem_self hil
     rw [e]
     exact ⟨0,F,T,rfl,h,rfl,rfl,rfl⟩
    ·rw [if_neg hd] at hpw
     cases ht : takeS T (needsN (F[i].data.length + data.length) - needsN F[i].data.length) (64 - F[i].ext.length) with
     | none =>
      rw [show takeS (refM F T most).T (needsN (F[i].data.length + data.length) - needsN F[i].data.length) (64 - F[i].ext.length) = none from ht] at hpw
      simp only at hpw ⊢
      subst hpw
      exact ⟨8,F,T,rfl,h,rfl,rfl,rfl⟩
     | some p =>
      obtain ⟨l,T1⟩ := p
      rw [show takeS (refM F T most).T (needsN (F[i].data.length + data.length) - needsN F[i].data.length) (64 - F[i].ext.length) = some (l,T1) from ht] at hpw
      simp only at hpw ⊢
      subst hpw
      have hi := hp0 _ rfl
      simp only at hi
      have hperm : ((F.set i (⟨name,F[i].data ++ data,F[i].ext ++ l,F[i].entry⟩ : PF)).map toM).Perm (putF (F.map toM) ⟨name,(toM F[i]).entry,F[i].data.length + data.length,F[i].ext ++ l⟩) := by
       have h1 := perm_put (F.map toM) ⟨name,(toM F[i]).entry,F[i].data.length + data.length,F[i].ext ++ l⟩ h.names
       have h2 := (set_perm (⟨name,F[i].data ++ data,F[i].ext ++ l,F[i].entry⟩ : PF) F i hil).map toM
       rw [List.map_cons, ← delF_idx name F i h.names hf,show toM ⟨name,F[i].data ++ data,F[i].ext ++ l,F[i].entry⟩ = ⟨name,(toM F[i]).entry,F[i].data.length + data.length,F[i].ext ++ l⟩ by unfold toM;rw [List.length_append]] at h2
       exact h2.trans h1.symm
      refine ⟨0,_,T1,rfl,inv_idle hi hperm.symm rfl rfl,rfl,rfl,hperm,fun g hg => ?_⟩
      have hg2 := (set_perm (⟨name,F[i].data ++ data,F[i].ext ++ l,F[i].entry⟩ : PF) F i hil).mem_iff.1 hg
      rcases List.mem_cons.1 hg2 with rfl | h1
      ·exact .inl ⟨rfl,⟨F[i],List.getElem_mem hil,hin,rfl⟩,by unfold toM;rw [List.length_append]⟩
      ·exact .inr (erase_ne h hf h1)
theorem ref_remove {F : List PF} {T : List Bool} {most : Nat} (h : Inv (refM F T most)) (name : Bs) :
  ∃ r F' T',remS F T name = some (r,F',T') ∧ Inv (refM F' T' most) ∧ r = (preR (refM F T most) name).1 ∧
   match (preR (refM F T most) name).2 with
   | none => F' = F ∧ T' = T
   | some (T2,f) => T' = T2 ∧ F'.map toM = delF (F.map toM) f.name ∧ f.name = name ∧ ∀ g ∈ F',g ∈ F ∧ g.name ≠ name := by
 unfold remS
 cases hg : goodF name with
 | false =>
  have hpw : preR (refM F T most) name = (11,none) := by unfold preR;rw [if_pos hg]
  rw [hpw]
  exact ⟨11,F,T,by rw [if_pos rfl],h,rfl,rfl,rfl⟩
 | true =>
  rw [if_neg (by decide)]
  cases hf : idxF F name with
  | none =>
   obtain ⟨hfo,_⟩ := idxF_none hf
   have hpw : preR (refM F T most) name = (9,none) := by unfold preR;rw [if_neg (by rw [hg];decide),show fileOf (refM F T most).F name = none from hfo]
   rw [hpw]
   rw [show F.findIdx? (fun f => f.name == name) = none from hf]
   exact ⟨9,F,T,rfl,h,rfl,rfl,rfl⟩
  | some i =>
   obtain ⟨hil,hin,hfo⟩ := idxF_some hf
   obtain ⟨T2,h1,_,h3,_⟩ := inv_remove h hg (f := toM F[i]) hfo
   rw [h1]
   rw [show F.findIdx? (fun f => f.name == name) = some i from hf]
   simp only
   rw [List.getElem?_eq_getElem hil,Option.map_some,Option.getD_some]
   have ht : turnS false T F[i].ext = some T2 := by
    unfold preR at h1
    rw [if_neg (by rw [hg];decide),show fileOf (refM F T most).F name = some (toM F[i]) from hfo] at h1
    simp only at h1
    cases hq : turnS false (refM F T most).T (toM F[i]).ext with
    | none => rw [hq] at h1;simp at h1
    | some T3 => rw [hq] at h1;simp only [Prod.mk.injEq,Option.some.injEq,and_true,true_and] at h1;rw [← h1];exact hq
   rw [ht,Option.map_some]
   have hd := delF_idx name F i h.names hf
   exact ⟨0,_,T2,rfl,inv_idle h3 (by rw [← hd];exact List.Perm.refl _) rfl rfl,rfl,rfl,by rw [show (toM F[i]).name = name from hin,hd],hin,fun g hg => erase_ne h hf hg⟩
theorem delF_comm (F : List FileM) (a b : Bs) : delF (delF F a) b = delF (delF F b) a := by
 unfold delF
 rw [List.filter_filter,List.filter_filter]
 exact List.filter_congr fun g _ => Bool.and_comm _ _
theorem ref_rename {F : List PF} {T : List Bool} {most : Nat} (h : Inv (refM F T most)) (name dest : Bs) :
  ∃ r F' T',renS F T name dest = some (r,F',T') ∧ Inv (refM F' T' most) ∧ r = (preN (refM F T most) name dest).1 ∧
   match (preN (refM F T most) name dest).2 with
   | none => F' = F ∧ T' = T
   | some (T2,_,F2) => T' = T2 ∧ (F'.map toM).Perm F2 ∧ ∀ g ∈ F',(g.name = dest ∧ ∃ g0 ∈ F,g0.name = name ∧ g.data = g0.data ∧ g.ext = g0.ext) ∨ (g ∈ F ∧ g.name ≠ name ∧ g.name ≠ dest) := by
 have hp0 : ∀ q,preN (refM F T most) name dest = (0,some q) → Inv ⟨(DS.run (settleC most q.1 q.2.1) (refM F T most).ds).2,q.2.2,q.1,most,false⟩ := fun q hq => (inv_rename h (T2 := q.1) (C := q.2.1) (F2 := q.2.2) hq).2
 unfold renS
 generalize hpw : preN (refM F T most) name dest = P at hp0 ⊢
 unfold preN at hpw
 by_cases hg : goodF name = false ∨ goodF dest = false
 ·rw [if_pos hg] at hpw
  subst hpw
  exact ⟨11,F,T,by rw [if_pos hg],h,rfl,rfl,rfl⟩
 ·rw [if_neg hg] at hpw
  rw [if_neg hg]
  cases hf : idxF F name with
  | none =>
   obtain ⟨hfo,_⟩ := idxF_none hf
   rw [show fileOf (refM F T most).F name = none from hfo] at hpw
   simp only at hpw ⊢
   subst hpw
   exact ⟨9,F,T,rfl,h,rfl,rfl,rfl⟩
  | some i =>
   obtain ⟨hil,hin,hfo⟩ := idxF_some hf
   rw [show fileOf (refM F T most).F name = some (toM F[i]) from hfo] at hpw
   simp only at hpw ⊢
   by_cases hnd : name = dest
   ·rw [if_pos hnd] at hpw
    rw [if_pos hnd]
    subst hpw
    exact ⟨0,F,T,rfl,h,rfl,rfl,rfl⟩
   ·rw [if_neg hnd] at hpw
    rw [if_neg hnd]
    have hdel := delF_idx name F i h.names hf
    have hnd2 : (((delF (F.map toM) name).map (·.name))).Nodup := ((List.filter_sublist).map _).nodup h.names
    cases hf2 : idxF F dest with
    | none =>
     obtain ⟨hfo2,hnn⟩ := idxF_none hf2
     rw [show fileOf (refM F T most).F dest = none from hfo2] at hpw
     simp only at hpw ⊢
     subst hpw
     have hi := hp0 _ rfl
     simp only at hi
     have hset : setName F i dest = F.set i ⟨dest,F[i].data,F[i].ext,F[i].entry⟩ := by unfold setName;rw [List.getElem?_eq_getElem hil]
     have hperm : ((setName F i dest).map toM).Perm (putF (delF (F.map toM) name) (renF (toM F[i]) dest)) := by
      have h1 := perm_put (delF (F.map toM) name) (renF (toM F[i]) dest) hnd2
      have h2 := (set_perm (⟨dest,F[i].data,F[i].ext,F[i].entry⟩ : PF) F i hil).map toM
      have h3 : delF (delF (F.map toM) name) (renF (toM F[i]) dest).name = delF (F.map toM) name := del_none (by
       show fileOf (delF (F.map toM) name) dest = none
       rw [fileOf_del (fun e => hnd e.symm)];exact hfo2)
      rw [h3] at h1
      rw [List.map_cons, ← hdel] at h2
      rw [hset]
      exact h2.trans h1.symm
     refine ⟨0,_,T,rfl,inv_idle hi hperm.symm rfl rfl,rfl,rfl,hperm,fun g hg => ?_⟩
     rw [hset] at hg
     have hg2 := (set_perm (⟨dest,F[i].data,F[i].ext,F[i].entry⟩ : PF) F i hil).mem_iff.1 hg
     rcases List.mem_cons.1 hg2 with rfl | h1
     ·exact .inl ⟨rfl,F[i],List.getElem_mem hil,hin,rfl,rfl⟩
     ·obtain ⟨a1,a2⟩ := erase_ne h hf h1
      exact .inr ⟨a1,a2,hnn g a1⟩
    | some j =>
     obtain ⟨hjl,hjn,hfo2⟩ := idxF_some hf2
     rw [show fileOf (refM F T most).F dest = some (toM F[j]) from hfo2] at hpw
     simp only at hpw ⊢
     obtain ⟨T2,ht2⟩ : ∃ T2,turnS false T F[j].ext = some T2 := by
      obtain ⟨o1,o2,o3⟩ := old_facts h dest
      have hox : oldX (refM F T most).F dest = F[j].ext := by unfold oldX;rw [show fileOf (refM F T most).F dest = some (toM F[j]) from hfo2];rfl
      rw [hox] at o1 o2 o3
      obtain ⟨T2,h1,_⟩ := turnS_give F[j].ext T o1 o2 o3
      exact ⟨T2,h1⟩
     rw [show turnS false (refM F T most).T (toM F[j]).ext = some T2 from ht2] at hpw
     simp only at hpw
     rw [List.getElem?_eq_getElem hjl,Option.map_some,Option.getD_some,ht2,Option.bind_some]
     subst hpw
     have hi := hp0 _ rfl
     simp only at hi
     have hdelj := delF_idx dest F j h.names hf2
     have hname : fileOf ((F.eraseIdx j).map toM) name = some (toM F[i]) := by rw [← hdelj,fileOf_del hnd];exact hfo
     have hndj : ((((F.eraseIdx j).map toM).map (·.name))).Nodup := by rw [← hdelj];exact ((List.filter_sublist).map _).nodup h.names
     obtain ⟨k,hk⟩ : ∃ k,idxF (F.eraseIdx j) name = some k := by
      cases hq : idxF (F.eraseIdx j) name with
      | none => rw [(idxF_none hq).1] at hname;cases hname
      | some k => exact ⟨k,rfl⟩
     obtain ⟨hkl,hkn,hkf⟩ := idxF_some hk
     rw [hname] at hkf
     have hke : toM F[i] = toM (F.eraseIdx j)[k] := Option.some.inj hkf
     rw [hk,Option.map_some]
     have hset : setName (F.eraseIdx j) k dest = (F.eraseIdx j).set k ⟨dest,(F.eraseIdx j)[k].data,(F.eraseIdx j)[k].ext,(F.eraseIdx j)[k].entry⟩ := by unfold setName;rw [List.getElem?_eq_getElem hkl]
     have hdelk := delF_idx name (F.eraseIdx j) k hndj hk
     have hperm : ((setName (F.eraseIdx j) k dest).map toM).Perm (putF (delF (F.map toM) name) (renF (toM F[i]) dest)) := by
      have h1 := perm_put (delF (F.map toM) name) (renF (toM F[i]) dest) hnd2
      have h2 := (set_perm (⟨dest,(F.eraseIdx j)[k].data,(F.eraseIdx j)[k].ext,(F.eraseIdx j)[k].entry⟩ : PF) (F.eraseIdx j) k hkl).map toM
      rw [List.map_cons, ← hdelk, ← hdelj,delF_comm] at h2
      rw [hset]
      have h4 : toM ⟨dest,(F.eraseIdx j)[k].data,(F.eraseIdx j)[k].ext,(F.eraseIdx j)[k].entry⟩ = renF (toM F[i]) dest := by rw [hke];rfl
      rw [h4] at h2
      exact h2.trans h1.symm
     refine ⟨0,_,T2,rfl,inv_idle hi hperm.symm rfl rfl,rfl,rfl,hperm,fun g hg => ?_⟩
     rw [hset] at hg
     have hg2 := (set_perm (⟨dest,(F.eraseIdx j)[k].data,(F.eraseIdx j)[k].ext,(F.eraseIdx j)[k].entry⟩ : PF) (F.eraseIdx j) k hkl).mem_iff.1 hg
     rcases List.mem_cons.1 hg2 with rfl | h1
     ·exact .inl ⟨rfl,(F.eraseIdx j)[k],List.mem_of_mem_eraseIdx (List.getElem_mem hkl),hkn,rfl,rfl⟩
     ·have h3 : toM g ∈ delF ((F.eraseIdx j).map toM) name := by rw [hdelk];exact List.mem_map.2 ⟨g,h1,rfl⟩
      have h4 := (List.mem_filter.1 h3).2
      have h5 : g.name ≠ name := fun e => by simp [show (toM g).name = name from e] at h4
      obtain ⟨a1,a2⟩ := erase_ne h hf2 (List.mem_of_mem_eraseIdx h1)
      exact .inr ⟨a1,h5,a2⟩
open Go.RowKit
def textN (b i k : Nat) : Nat := (b + i * 31 + k + k / 512) % 256
def textL (n : Int) : Nat := (min (max n 0) 6000).toNat
def textB (n : Int) (b i : Nat) : Bs := (List.range (textL n)).map fun k => UInt8.ofNat (textN b i k)
def tbuf (n b i k : Nat) : List Nat := (List.range n).map fun j => if j < k then textN b i j else 0
theorem tbuf_length (n b i k : Nat) : (tbuf n b i k).length = n := by simp [tbuf]
theorem tbuf_step (n b i k : Nat) : (tbuf n b i k).set k (textN b i k) = tbuf n b i (k + 1) := by
 refine List.ext_getElem (by simp [tbuf]) fun j h1 h2 => ?_
 rw [List.getElem_set]
 simp only [tbuf,List.getElem_map,List.getElem_range]
 by_cases e : k = j
 ·subst e;simp
 ·rw [if_neg e]
  by_cases h : j < k
  ·rw [if_pos h,if_pos (by omega)]
  ·rw [if_neg h,if_neg (by omega)]
theorem tbuf_start (n b i : Nat) : tbuf n b i 0 = List.replicate n 0 := by
 rw [List.eq_replicate_iff]
 refine ⟨by simp [tbuf],fun x hx => ?_⟩
 obtain ⟨j,_,rfl⟩ := List.mem_map.1 hx
 simp
theorem textB_length (n : Int) (b i : Nat) : (textB n b i).length = textL n := by simp [textB]
theorem textL_le (n : Int) : textL n ≤ 6000 := by unfold textL;omega
theorem made_u8 (m : Nat) : madeCells (Value.int .u8 0).cells m = ((List.replicate m 0).map (fun b : Nat => Value.int .u8 (b : Int))).toArray := by
 refine Array.ext (by simp [madeCells]) fun i h1 h2 => ?_
 simp [madeCells,Value.cells,Nat.mod_one]

set_option maxRecDepth 100000 in
set_option maxHeartbeats 2000000 in
theorem text_any (what : Int) (name dest : ByteArray) (n : Int) (b i : Nat) (w : World) (hi : i ≤ 1000) :
  Calls Tryz.prog 15 #[.agg #[.int .i64 what, .string name, .string dest, .int .i64 n, .int .u8 b], .int .i64 i] w fun e w' => e = .returned (.string (mk (textB n b i))) ∧ Below w.heap.size w w' := by
 obtain ⟨i5,hi0,hi1,hi2,hi3⟩ := info_parts info5
 have hL := textL_le n
 have hLZ : min (max n 0) 6000 = ((textL n : Nat) : Int) := by unfold textL;omega
 have hBS : ∀ k (hk : k < textL n),(textB n b i)[k]? = some (UInt8.ofNat (textN b i k)) := fun k hk => by simp [textB,hk]
 have hBL := textB_length n b i
 obtain ⟨q,hq⟩ : ∃ q,textL n = q := ⟨_,rfl⟩
 obtain ⟨T,hT⟩ : ∃ q,textB n b i = q := ⟨_,rfl⟩
 rw [hT] at hBS hBL ⊢
 rw [hq] at hBS hBL hL hLZ
 have hmk := run_make (P := Tryz.prog) (w.alloc (.cells #[.int .i64 what, .string name, .string dest, .int .i64 n, .int .u8 b] 26)) 62 5 i5 _ Tryz.underlying62 hi0 hi1 .i64 .i64 (q : Int) (q : Int) (by omega) (by omega) (by rw [hi3];omega) (by omega)
 have hmc : madeCells (Value.cells (.int .u8 0)) ((q : Int).toNat * i5.size) = ((tbuf q b i 0).map (fun b : Nat => Value.int .u8 (b : Int))).toArray := by
  rw [hi2,Nat.mul_one,Int.toNat_natCast,tbuf_start]
  exact made_u8 q
 rw [hmc,Int.toNat_natCast] at hmk
 have hB0 := (Blk.new w #[.int .i64 what, .string name, .string dest, .int .i64 n, .int .u8 b] 26).alloc (.cells ((tbuf q b i 0).map (fun b : Nat => Value.int .u8 (b : Int))).toArray 5)
 have hbuf : Buf ((w.alloc (.cells #[.int .i64 what, .string name, .string dest, .int .i64 n, .int .u8 b] 26)).alloc (.cells ((tbuf q b i 0).map (fun b : Nat => Value.int .u8 (b : Int))).toArray 5)) (w.heap.size + 1) 5 (tbuf q b i 0) :=
  ⟨[],0,0,by
   have := heap_alloc_new (w.alloc (.cells #[.int .i64 what, .string name, .string dest, .int .i64 n, .int .u8 b] 26)) (.cells ((tbuf q b i 0).map (fun b : Nat => Value.int .u8 (b : Int))).toArray 5)
   rw [World.size_alloc] at this
   rw [List.append_nil];exact this, .inl rfl⟩
 have hbw := ((Below.refl w.heap.size w).alloc (Nat.le_refl _) (.cells #[.int .i64 what, .string name, .string dest, .int .i64 n, .int .u8 b] 26)).alloc (by simp) (.cells ((tbuf q b i 0).map (fun b : Nat => Value.int .u8 (b : Int))).toArray 5)
 have hcell : (w.alloc (.cells #[.int .i64 what, .string name, .string dest, .int .i64 n, .int .u8 b] 26)).cell? ⟨w.heap.size,3,none⟩ = some (.int .i64 n) := by
  rw [(Blk.new w #[.int .i64 what, .string name, .string dest, .int .i64 n, .int .u8 b] 26).cell 3];rfl
 rw [World.size_alloc] at hmk
 obtain ⟨H,hH⟩ : ∃ q,w.heap.size = q := ⟨_,rfl⟩
 simp only [hH] at hmk hB0 hbuf hbw
 obtain ⟨W1,hW1⟩ : ∃ z,(w.alloc (.cells #[.int .i64 what, .string name, .string dest, .int .i64 n, .int .u8 b] 26)).alloc (.cells ((tbuf q b i 0).map (fun b : Nat => Value.int .u8 (b : Int))).toArray 5) = z := ⟨_,rfl⟩
 rw [hW1] at hmk hB0 hbuf hbw
 have HB0 := Lib.hid hB0
 have HBUF := Lib.hid hbuf
 have HBW := Lib.hid hbw
 have HBS := Lib.hid hBS
 have HBL := Lib.hid hBL
 have HH := Lib.hid hH
 have hi31 : IntKind.i64.wrap ((i : Int) * 31) = ((i * 31 : Nat) : Int) := by simp [IntKind.wrap,IntKind.bits,IntKind.signed];omega
 rw [hH]
 clear hi0 hi1 hi2 hi3 hmc hB0 hbuf hbw hBS hBL hT hq hH hW1
 go_enter Tryz.func15,Tryz.ntmps15
 go_wp2
 try simp only [HH.out]
 go_loopw [7] (fun kv wr => ∃ k : Nat,k ≤ q ∧ kv = .int .i64 k ∧ Buf wr (H + 1) 5 (tbuf q b i k) ∧ Blk wr H #[.int .i64 what, .string name, .string dest, .int .i64 n, .int .u8 b] 26 ∧ Below H w wr) (fun kv _ => q - (intOf kv).toNat)
 case atStart => exact ⟨0,Nat.zero_le _,rfl,HBUF.out,HB0.out,HBW.out⟩
 case round =>
  clear HBUF HB0 HBW
  obtain ⟨k,hk,rfl,hbu,hB0,hbw⟩ := hrel
  by_cases hkq : k < q
  ·have k0 : (0 : Int) ≤ (k : Int) := by omega
   have k1 : (k : Int) < (q : Int) := by omega
   have c4 := hB0.cell 4
   simp at c4
   have hHl := hB0.lt
   have hGl := hbu.lt
   have d0 := hbu.cell (i := k) (by rw [tbuf_length];exact hkq)
   have f0 := hbu.frozen (i := k) (by rw [tbuf_length];exact hkq)
   have HFN := Lib.hid (And.intro hbu (And.intro hB0 hbw))
   clear hbu hB0 hbw
   go_wp2
   have hv : ((b : Int) + (i : Int) * 31 + (k : Int) + (k : Int) / 512) % 256 = ((textN b i k : Nat) : Int) := by unfold textN;omega
   rw [hv]
   go_roundw
   case rel => exact ⟨k + 1,by omega,by go_num,by rw [← tbuf_step];exact HFN.out.1.set (by rw [tbuf_length];exact hkq) _,(Below.heap_setCell _ _ _ _ (by simp)).trans HFN.out.2.1,below_set HFN.out.2.2 (H + 1) k _ (by omega)⟩
   case measure => simp [intOf];omega
  ·obtain rfl : k = q := by omega
   have hcv : (convert 62 9 (.slice (some ⟨H + 1,0,none⟩) k k)).run Tryz.prog wr = .ok (.string (mk T)) wr := by
    have h := run_convert_bytes_back (P := Tryz.prog) wr 62 9 5 ⟨H + 1,0,none⟩ k T Tryz.underlying62 Tryz.underlying5 Tryz.underlying9 (fun j hj => by
     have hj' : j < k := by have := HBL.out;omega
     have e := HBS.out j hj'
     rw [List.getElem?_eq_getElem hj,Option.some.injEq] at e
     rw [add_lit',Nat.zero_add,hbu.cell (by rw [tbuf_length];exact hj'),e]
     simp only [tbuf,List.getElem_map,List.getElem_range,if_pos hj']
     rw [UInt8.toNat_ofNat',Nat.mod_eq_of_lt (by unfold textN;omega)])
    rwa [HBL.out] at h
   have HBW := Lib.hid hbw
   clear hbu hB0 hbw
   go_wp2
   go_ret
   exact ⟨rfl,HBW.out⟩
open Go.RowKit
structure ActM where
 what : Int
 name : Bs
 dest : Bs
 n : Int
 b : Nat
structure ActOk (a : ActM) : Prop where
 name : a.name.length ≤ maxLen
 dest : a.dest.length ≤ maxLen
 what : -9223372036854775808 ≤ a.what ∧ a.what ≤ 9223372036854775807
def actV (a : ActM) : List Value := [.int .i64 a.what, .string (mk a.name), .string (mk a.dest), .int .i64 a.n, .int .u8 a.b]
def acells (l : List ActM) : List Value := l.flatMap actV
theorem acells_length (l : List ActM) : (acells l).length = l.length * 5 := by
 induction l with
 | nil => rfl
 | cons a l ih => unfold acells at ih ⊢;rw [List.flatMap_cons,List.length_append,ih];simp [actV];omega
theorem acells_at : ∀ (l : List ActM) (j : Nat) (h : j < l.length),(acells l)[j * 5]? = some (.int .i64 l[j].what) ∧ (acells l)[j * 5 + 1]? = some (.string (mk l[j].name)) ∧ (acells l)[j * 5 + 2]? = some (.string (mk l[j].dest)) ∧ (acells l)[j * 5 + 3]? = some (.int .i64 l[j].n) ∧ (acells l)[j * 5 + 4]? = some (.int .u8 l[j].b) := by
 intro l
 induction l with
 | nil => intro j h;simp at h
 | cons a l ih =>
  intro j h
  have e : acells (a :: l) = .int .i64 a.what :: .string (mk a.name) :: .string (mk a.dest) :: .int .i64 a.n :: .int .u8 a.b :: acells l := rfl
  rw [e]
  cases j with
  | zero => exact ⟨rfl,rfl,rfl,rfl,rfl⟩
  | succ j =>
   have := ih j (by simpa using h)
   rw [show (j + 1) * 5 = j * 5 + 1 + 1 + 1 + 1 + 1 by omega,show j * 5 + 1 + 1 + 1 + 1 + 1 + 1 = (j * 5 + 1) + 1 + 1 + 1 + 1 + 1 by omega,show j * 5 + 1 + 1 + 1 + 1 + 1 + 2 = (j * 5 + 2) + 1 + 1 + 1 + 1 + 1 by omega,show j * 5 + 1 + 1 + 1 + 1 + 1 + 3 = (j * 5 + 3) + 1 + 1 + 1 + 1 + 1 by omega,show j * 5 + 1 + 1 + 1 + 1 + 1 + 4 = (j * 5 + 4) + 1 + 1 + 1 + 1 + 1 by omega]
   simpa using this
theorem rem_bounds (x m : Int) (hm : 1 ≤ m) : -m < x.tmod m ∧ x.tmod m < m := by
 have h1 := Int.tmod_lt_of_pos x (b := m) (by omega)
 have h2 := Int.tmod_lt_of_pos (-x) (b := m) (by omega)
 rw [Int.neg_tmod] at h2
 omega
def whatN (x m : Int) : Int := (x.tmod m + m).tmod m
theorem what_bounds (x m : Int) (hm : 1 ≤ m) : 0 ≤ whatN x m ∧ whatN x m < m := by
 have h1 := rem_bounds x m hm
 unfold whatN
 exact ⟨Int.tmod_nonneg _ (by omega),Int.tmod_lt_of_pos _ (by omega)⟩
open Go.RowKit
open Go.RowKit
theorem lies_cells (w : World) (xs : List Value) (e : TypeId) : Lies (w.alloc (.cells xs.toArray e)) (some ⟨w.heap.size,0,none⟩) xs := fun _ => by
 have hB := Blk.new w xs.toArray e
 refine ⟨w.heap.size,0,rfl,hB.lt,fun j u hu => ?_⟩
 rw [Nat.zero_add,hB.cell j]
 simpa using hu
set_option maxRecDepth 100000 in
set_option maxHeartbeats 2000000 in
theorem rnew_some (s f : Nat) (w : World) (hs : s ≤ 100000) (h1 : 1 ≤ f) (h2 : f ≤ 256) (h3 : f + 8 ≤ s) :
  Calls Tryz.prog 27 #[.int .i64 s, .int .i64 f] w fun e w' => ∃ R Y,e = .returned (.pointer (some ⟨R,0,none⟩)) ∧ RSt w' Y R [] (List.replicate (s - f - 7) false) f ∧ Below w.heap.size w w' ∧ w.heap.size ≤ R ∧ ∀ y ∈ Y,w.heap.size ≤ y := by
 obtain ⟨i4,hi0,hi1,hi2,hi3⟩ := info_parts info4
 obtain ⟨n,hn⟩ : ∃ q,s - f - 7 = q := ⟨_,rfl⟩
 have hmk := fun (w : World) => run_make (P := Tryz.prog) w 125 4 i4 _ Tryz.underlying125 hi0 hi1 .i64 .i64 (n : Int) (n : Int) (by omega) (by omega) (by rw [hi3];omega) (by omega)
 have hmc : madeCells (Value.cells (.bool false)) ((n : Int).toNat * i4.size) = (List.replicate n (Value.bool false)).toArray := by
  rw [hi2,Nat.mul_one,Int.toNat_natCast]
  exact made_bool n
 rw [hmc,Int.toNat_natCast] at hmk
 replace hmk := hmk w
 have g1 : ¬ ((f : Int) < 1) := by omega
 have g2 : ¬ ((f : Int) > 256) := by omega
 have g2' : ¬ ((256 : Int) < (f : Int)) := by omega
 have g3 : ¬ ((s : Int) < (f : Int) + 8) := by omega
 have hN := Blk.new w (List.replicate n (Value.bool false)).toArray 4
 have hsub : (s : Int) - (f : Int) - 7 = (n : Int) := by omega
 have hRow := lies_cells w (List.replicate n (Value.bool false)) 4
 obtain ⟨wa,wb,wc⟩ : IntKind.i64.wrap ((f : Int) + 8) = (f : Int) + 8 ∧ IntKind.i64.wrap ((s : Int) - (f : Int)) = (s : Int) - (f : Int) ∧ IntKind.i64.wrap ((s : Int) - (f : Int) - 7) = (n : Int) := ⟨wrI (by omega) (by omega),wrI (by omega) (by omega),(wrI (by omega) (by omega)).trans hsub⟩
 have HN := Lib.hid hn
 have HR := Lib.hid (And.intro hRow hN)
 obtain ⟨W1,hW⟩ : ∃ q,w.alloc (.cells (List.replicate n (Value.bool false)).toArray 4) = q := ⟨_,rfl⟩
 have HW := Lib.hid (show Below w.heap.size w W1 ∧ W1.heap.size = w.heap.size + 1 from by rw [← hW];exact ⟨below_alloc w _,by simp⟩)
 rw [hW] at hmk HR
 clear hN hRow hW hn hs h1 h2 h3 hmc hsub
 go_enter Tryz.func27,Tryz.ntmps27
 go_wp2
 go_ret
 have hRl : W1.heap.size = w.heap.size + 1 := HW.out.2
 refine ⟨W1.heap.size,rfl,[w.heap.size],⟨none,0,some ⟨w.heap.size,0,none⟩,n,[], ?_⟩,HW.out.1.alloc HW.out.1.size _,by omega,fun y hy => by simp at hy;omega⟩
 have hb1 := below_alloc W1 (.cells #[.slice none 0 0, .slice (some ⟨w.heap.size,0,none⟩) n n, .int .i64 (f : Int)] 130)
 have hB := HR.out.2.below hb1
 exact {
  files := rfl
  blk := by
   have := Blk.new W1 #[.slice none 0 0, .slice (some ⟨w.heap.size,0,none⟩) n n, .int .i64 (f : Int)] 130
   rw [HN.out]
   simpa using this
  row := World.ownsRow_nil _ _ _ _
  units := by
   rw [HN.out]
   have := HR.out.1.below (Nat.le_refl _) hb1
   simpa [tcells] using this
  utyp := fun a ha => by cases ha;exact ⟨_,_,hB⟩
  exts := fun x hx => by cases hx
  inF := fun a ha => by cases ha
  inT := fun a ha => by cases ha;exact List.mem_cons_self ..
  apart := by simp;omega
  typ := fun y hy => by
   simp at hy
   subst hy
   exact ⟨_,4,_,hB, .inr (.inr (.inl rfl))⟩ }
end Go.Proofs.YtcmcdddnckcpcaaGreatDoor
