/- Packed: Pr, Pl, Sn, Ln, Mt, Bt, Qa, Dv, Ct, Pq, Qb, Qc, Qd, Rc, Od, Oe, Of, Rl. -/
import Derived.Test.YtmjdmijloanfnaaGreatDoorPD1
import Derived.Test.YtmjdmijloanfnaaGreatDoorPD5
import Derived.StillTailTactics
import Derived.Test.YtmjdmijloanfnaaGreatDoorPD3
import Derived.Test.YtmjdmijloanfnaaGreatDoorPD2
import Derived.Laws.LoneSync
namespace Go.Proofs.YtmjdmijloanfnaaGreatDoor
open Go.RowKit
def ParseP (t : Bs) (w : World) (e : Ending) (w' : World) : Prop :=
 ∃ nm' sz' A' n' c',e = .returned (.tuple #[.string nm', .agg #[.int .i64 0, .int .i64 sz', .slice A' n' c'], .bool (parseP t).isSome]) ∧ Below w.heap.size w w' ∧ nm'.size ≤ 512 ∧
  ∀ nm sz l,parseP t = some (nm,sz,l) → nm' = mk nm ∧ sz' = ((sz : Nat) : Int) ∧ n' = l.length ∧ w'.ownsRow w.heap.size 172 2 (.slice A' n' c') n' (ecells l)
theorem frm_below {B : Nat} {a w w' : World} {Y : List Nat} (h : Below B a w) (hf : Frm Y w w') (hB : B ≤ w.heap.size) (hy : ∀ y ∈ Y,B ≤ y) : Below B a w' :=
 h.trans ⟨hf.os,hf.tape,hf.output,hf.size,fun k hk => hf.block k (Nat.lt_of_lt_of_le hk hB) (fun hm => by have := hy k hm;omega)⟩
theorem lies_newP (w : World) (xs : List Value) (e : TypeId) : Lies (w.alloc (.cells xs.toArray e)) (some ⟨w.heap.size,0,none⟩) xs := fun _ => by
 have hB := Blk.new w xs.toArray e
 refine ⟨w.heap.size,0,rfl,hB.lt,fun j u hu => ?_⟩
 rw [Nat.zero_add,hB.cell j]
 simpa using hu
set_option maxRecDepth 100000 in
set_option maxHeartbeats 4000000 in
theorem parse_any (t : Bs) (w : World) (ht : t.length = 512) (hT : TB w) (hw : 1 < w.heap.size) : Calls Tryz.prog 108 #[.string (mk t)] w (ParseP t w) := by
 have KX := next_any (mk t)
 rw [mk_data] at KX
 have hnb : (nextB t).2.1 ≤ t.length := by
  by_cases h : (nextB t).2.2 = 0
  ·exact (nextB_ok t h).2
  ·revert h;unfold nextB;generalize getB t = g;obtain ⟨n,k,e⟩ := g;dsimp only
   split
   ·simp
   ·split
    ·simp
    ·split
     ·simp
     ·intro h;simp at h
 obtain ⟨MT,hMT⟩ : ∃ q,mk t = q := ⟨_,rfl⟩
 have hsz : MT.size = 512 := by rw [← hMT,mk_size,ht]
 have hext : MT.extract (nextB t).2.1 MT.size = mk (t.drop (nextB t).2.1) := by
  have := ext_mk' MT (nextB t).2.1 (t.length - (nextB t).2.1)
  rw [show (nextB t).2.1 + (t.length - (nextB t).2.1) = t.length by omega] at this
  rw [hsz, ← ht,this, ← hMT,mk_data,List.take_of_length_le (by rw [List.length_drop];exact Nat.le_refl _)]
 rw [hMT] at KX ⊢
 have hpd : ∀ P : Bs × Nat × Nat → Prop,P (nextB t) → P ((nextB t).1,(nextB t).2.1,(nextB t).2.2) := fun P h => h
 obtain ⟨nm,hnm⟩ : ∃ q,(nextB t).1 = q := ⟨_,rfl⟩
 obtain ⟨nk,hnk⟩ : ∃ q,(nextB t).2.1 = q := ⟨_,rfl⟩
 obtain ⟨ne,hne⟩ : ∃ q,(nextB t).2.2 = q := ⟨_,rfl⟩
 simp only [hnm,hnk,hne] at KX hext hnb
 obtain ⟨MN,hMN⟩ : ∃ q,mk nm = q := ⟨_,rfl⟩
 obtain ⟨r0,hr0⟩ : ∃ q,t.drop nk = q := ⟨_,rfl⟩
 have hr0l : r0.length ≤ 512 := by rw [← hr0,List.length_drop];omega
 rw [hr0] at hext
 obtain ⟨R0,hR0⟩ : ∃ q,mk r0 = q := ⟨_,rfl⟩
 rw [hR0] at hext
 have hsl := fun (w : World) => run_slice_string_l (P := Tryz.prog) (w := w) (t := 9) (s := MT) Tryz.underlying9 .i64 (nk : Int) (by omega) (by rw [hsz];omega)
 rw [Int.toNat_natCast,hext] at hsl
 simp only [hMN] at KX
 have KX0 := fun w => KX w (by rw [hsz];omega)
 have HS := Lib.hid (And.intro hnm (And.intro hnk (And.intro hne (And.intro hr0 (And.intro hR0 (And.intro hMN (And.intro hMT ht)))))))
 have HB := Lib.hid (And.intro hT hw)
 have hb0 := below_alloc w (.cells #[.int .i64 0, .int .i64 0, .slice none 0 0] 97)
 have h30 := Blk.new w #[.int .i64 0, .int .i64 0, .slice none 0 0] 97
 obtain ⟨W0,hW0⟩ : ∃ q,w.alloc (.cells #[.int .i64 0, .int .i64 0, .slice none 0 0] 97) = q := ⟨_,rfl⟩
 have hs0 : W0.heap.size = w.heap.size + 1 := by rw [← hW0];simp
 rw [hW0] at hb0 h30
 have KN := KX0 W0
 have H0 := Lib.hid (And.intro hb0 (And.intro h30 hs0))
 have HW := Lib.hid hW0
 clear KX KX0 hpd hnm hnk hne hr0 hR0 hMN hMT hnb hext ht hT hw hb0 h30 hW0 hs0
 go_enter Tryz.func108,Tryz.ntmps108
 go_upto_region 1 with (fail)
 try rw [HW.out]
 try simp only [HW.out]
 go_upto_region 4 with (first
  | (go_at_call 135;refine KN.mono ?_;rintro e w1 ⟨rfl,hb⟩;have H1 := Lib.hid hb;clear hb KN))
 have hB7 := (Blk.new w1 #[.int .i64 (ne : Int)] 24).alloc (.cells #[.string R0] 9)
 have hB8 := Blk.new (w1.alloc (.cells #[.int .i64 (ne : Int)] 24)) #[.string R0] 9
 rw [World.size_alloc] at hB8
 have hb2 := (H1.out.alloc H1.out.size (.cells #[.int .i64 (ne : Int)] 24)).alloc (by have := H1.out.size;simp;omega) (.cells #[.string R0] 9)
 have hge := H1.out.size
 obtain ⟨B7,hB7e⟩ : ∃ q,w1.heap.size = q := ⟨_,rfl⟩
 obtain ⟨W2,hW2⟩ : ∃ q,(w1.alloc (.cells #[.int .i64 (ne : Int)] 24)).alloc (.cells #[.string R0] 9) = q := ⟨_,rfl⟩
 rw [hB7e] at hB7 hB8 hge
 rw [hW2] at hB7 hB8 hb2 ⊢
 simp only [hB7e]
 have HG := Lib.hid hge
 have KA := number_any (B7 + 1) B7 r0 ne W2 (by rw [HS.out.2.2.2.2.1];exact hB8) hB7 (by omega) (by omega)
 have hn1 := numP_le (r0,ne)
 have hn1s := numP_sub (r0,ne)
 obtain ⟨s1,hs1⟩ : ∃ q,numP (r0,ne) = q := ⟨_,rfl⟩
 rw [hs1] at KA hn1 hn1s
 obtain ⟨sz,r1,e1⟩ := s1
 dsimp only at KA hn1 hn1s
 have HP1 := Lib.hid hs1
 have HB2 := Lib.hid hb2
 clear hB7 hB8 hb2 hge hB7e hW2 hs1 H1
 go_upto_region 5 with (first
  | (go_at_call 136;refine KA.mono ?_;rintro e w3 ⟨rfl,h8,h7,hf⟩;have H3 := Lib.hid (And.intro h8 (And.intro h7 hf));clear h8 h7 hf KA))
 have hB10 := Blk.new w3 #[.int .i64 0, .int .i64 (sz : Int), .slice none 0 0] 97
 have hB84 := H3.out.1.alloc (.cells #[.int .i64 0, .int .i64 (sz : Int), .slice none 0 0] 97)
 have hB74 := H3.out.2.1.alloc (.cells #[.int .i64 0, .int .i64 (sz : Int), .slice none 0 0] 97)
 have hf4 := H3.out.2.2.alloc (.cells #[.int .i64 0, .int .i64 (sz : Int), .slice none 0 0] 97)
 have hlt8 := H3.out.1.lt
 have hs4 : (w3.alloc (.cells #[.int .i64 0, .int .i64 (sz : Int), .slice none 0 0] 97)).heap.size = w3.heap.size + 1 := by simp
 obtain ⟨B10,hB10e⟩ : ∃ q,w3.heap.size = q := ⟨_,rfl⟩
 obtain ⟨W4,hW4⟩ : ∃ q,w3.alloc (.cells #[.int .i64 0, .int .i64 (sz : Int), .slice none 0 0] 97) = q := ⟨_,rfl⟩
 rw [hB10e] at hB10 hlt8 hs4
 rw [hW4] at hB10 hB84 hB74 hf4 hs4 ⊢
 try simp only [hB10e]
 have KB := number_any (B7 + 1) B7 r1 e1 W4 hB84 hB74 (by omega) (by omega)
 have hn2 := numP_le (r1,e1)
 have hn2s := numP_sub (r1,e1)
 obtain ⟨s2,hs2⟩ : ∃ q,numP (r1,e1) = q := ⟨_,rfl⟩
 rw [hs2] at KB hn2 hn2s
 obtain ⟨cn,r2,e2⟩ := s2
 dsimp only at KB hn2 hn2s
 have HP2 := Lib.hid hs2
 have H4 := Lib.hid (And.intro hB10 (And.intro hf4 (And.intro hlt8 hs4)))
 clear hB10 hB84 hB74 hf4 hlt8 hs4 hB10e hW4 hs2 H3
 obtain ⟨K,hK⟩ : ∃ q,min cn 65 = q := ⟨_,rfl⟩
 have hKi : min (cn : Int) 65 = (K : Int) := by omega
 have hK65 : K ≤ 65 := by omega
 have HK := Lib.hid hK
 go_wp2_with (first
  | (go_at_call 136;refine KB.mono ?_;rintro e w5 ⟨rfl,h8,h7,hf⟩;have H5 := Lib.hid (And.intro h8 (And.intro h7 hf));clear h8 h7 hf KB))
 have hb5 : Below W0.heap.size W0 w5 := by
  have h1 := HG.out
  refine frm_below (frm_below HB2.out H4.out.2.1 HB2.out.size (fun y hy => ?_)) H5.out.2.2 (Nat.le_trans HB2.out.size H4.out.2.1.size) (fun y hy => ?_)
  ·simp at hy;rcases hy with rfl | rfl <;> omega
  ·simp at hy;rcases hy with rfl | rfl <;> omega
 have hB105 : Blk w5 B10 #[.int .i64 0, .int .i64 (sz : Int), .slice none 0 0] 97 := H5.out.2.2.blk H4.out.1 (by have := H4.out.2.2.1;simp;omega)
 obtain ⟨i90,hi0,hi1,hi2,hi3⟩ := info_parts info90
 have mixed := mixedT
 have HL := Lib.hid (And.intro hb5 (And.intro hB105 (And.intro H5.out.1 (And.intro H5.out.2.1 (show B10 < w5.heap.size from hB105.lt)))))
 have HH := Lib.hid (And.intro H4.out.2.2.1 HG.out)
 have HR := Lib.hid hn2s
 obtain ⟨W5,hW5⟩ : ∃ q,w5 = q := ⟨_,rfl⟩
 rw [hW5] at HL ⊢
 clear hW5 hb5 hB105 H5 H4
 go_loopw [27] (fun iv wr => ∃ (k : Nat) (A : Option Addr) (c : Nat) (l : List (Nat × Nat)) (r : Bs) (e : Nat),k ≤ K ∧ iv = .int .i64 k ∧ extsP k (r2,e2) = (l,(r,e)) ∧ Blk wr B10 #[.int .i64 0, .int .i64 (sz : Int), .slice A k c] 97 ∧ Blk wr (B7 + 1) #[.string (mk r)] 9 ∧ Blk wr B7 #[.int .i64 (e : Int)] 24 ∧ wr.ownsRow W5.heap.size 172 2 (.slice A k c) k (ecells l) ∧ Below W0.heap.size W0 wr ∧ W5.heap.size ≤ wr.heap.size) (fun iv _ => K - (intOf iv).toNat)
 case atStart => exact ⟨0,none,0,[],r2,e2,Nat.zero_le _,rfl,rfl,HL.out.2.1,HL.out.2.2.1,HL.out.2.2.2.1,World.ownsRow_nil _ _ _ _,HL.out.1,Nat.le_refl _⟩
 case round =>
  obtain ⟨k,A,c,l,r,e,hk,rfl,hx,h10,h8,h7,hrow,hbw,hsz5⟩ := hrel
  have k0 : (0 : Int) ≤ (k : Int) := by omega
  by_cases hlt : k < K
  ·have k1 : (k : Int) < (K : Int) := by omega
   have hrl : r.length ≤ 512 := by
    have := extsP_sub (r2,e2) k
    rw [hx] at this
    simp only at this
    have := HR.out
    omega
   have HK1 := Lib.hid (And.intro hx (And.intro h10 (And.intro h8 (And.intro h7 (And.intro hrow (And.intro hbw hsz5))))))
   go_upto_region 7 with (fail)
   refine wp_region_S 10 (fun _ => True) (fun w' => Blk w' B10 #[.int .i64 0, .int .i64 (sz : Int), .slice A k c] 97) mixed ?_
   change wpAnyS _ _ _ _ _ _ _ _ _ _ wr.drew
   have KC := number_any (B7 + 1) B7 r e wr.drew h8 h7 (by omega) (by omega)
   have HD := Lib.hid (show Blk wr.drew B10 #[.int .i64 0, .int .i64 (sz : Int), .slice A k c] 97 ∧ wr.drew.ownsRow W5.heap.size 172 2 (.slice A k c) k (ecells l) ∧ Below W0.heap.size W0 wr.drew ∧ W5.heap.size ≤ wr.drew.heap.size from ⟨h10,hrow,hbw.drew,hsz5⟩)
   obtain ⟨wd,hwd⟩ : ∃ q,wr.drew = q := ⟨_,rfl⟩
   rw [hwd] at KC HD ⊢
   have hn3 := numP_sub (r,e)
   obtain ⟨s3,hs3⟩ : ∃ q,numP (r,e) = q := ⟨_,rfl⟩
   rw [hs3] at KC hn3
   obtain ⟨f,r3,e3⟩ := s3
   dsimp only at KC hn3
   obtain ⟨s4,hs4⟩ : ∃ q,numP (r3,e3) = q := ⟨_,rfl⟩
   obtain ⟨m,r4,e4⟩ := s4
   have HN := Lib.hid (And.intro hs3 hs4)
   have hr3l : r3.length ≤ 512 := by omega
   clear hwd hx h10 h8 h7 hrow hbw hsz5 hs3 hn3 hrl
   have hE0 : ∀ L : Array Bool,HeldS 10 (fun _ => True) (fun w' => Blk w' B10 #[.int .i64 0, .int .i64 (sz : Int), .slice A k c] 97) L wd := fun L => ⟨trivial,fun _ => HD.out.1⟩
   refine tkS 0 (.pointer (some ⟨B10,2,none⟩)) rfl (hE0 _) (fun w' hS => ?_) ?_
   ·clear hS;go_simp
   try go_simp
   refine wpAnyS_take2 (i := 1) (v := .slice A k c) rfl (by decide) rfl (by kernel_rfl) (by kernel_rfl) (by kernel_rfl) (by kernel_rfl) (by kernel_rfl) (fun c a w h => h) (.inl ⟨by kernel_rfl,fun w' hS => ?_⟩) (hE0 _) ?_
   ·have x0 := hS.2.cell 2;simp at x0;go_simp
   try go_simp
   refine tkS 2 (.func (Fn.func 136) #[] #[.pointer (some ⟨B7 + 1,0,none⟩), .pointer (some ⟨B7,0,none⟩)]) rfl (hE0 _) (fun w' hS => ?_) ?_
   ·clear hS;go_simp
   try go_simp
   refine tkS 4 (.func (Fn.func 136) #[] #[.pointer (some ⟨B7 + 1,0,none⟩), .pointer (some ⟨B7,0,none⟩)]) rfl (hE0 _) (fun w' hS => ?_) ?_
   ·clear hS;go_simp
   try go_simp
   refine alS 3 ?_
   unfold wpOp
   go_simp
   refine .inl ?_
   go_at_call 136
   refine KC.mono ?_
   rintro e w6 ⟨rfl,h8,h7,hf⟩
   have hB1 := HH.out.1
   have hB2 := HH.out.2
   have hWl := HL.out.2.2.2.2
   have h106 := hf.blk HD.out.1 (by simp;omega)
   have hr6 := row_block HD.out.2.1 (w' := w6) (fun g hg => hf.block g (HD.out.2.1.lt g hg).2 (by have := (HD.out.2.1.lt g hg).1;simp;omega))
   have hb6 := frm_below HD.out.2.2.1 hf HD.out.2.2.1.size (fun y hy => by simp at hy;rcases hy with rfl | rfl <;> omega)
   have hs6 := Nat.le_trans HD.out.2.2.2 hf.size
   have hE6 : ∀ L : Array Bool,HeldS 10 (fun _ => True) (fun w' => Blk w' B10 #[.int .i64 0, .int .i64 (sz : Int), .slice A k c] 97) L w6 := fun L => ⟨trivial,fun _ => h106⟩
   have KE := number_any (B7 + 1) B7 r3 e3 w6 h8 h7 (by omega) (by omega)
   rw [HN.out.2] at KE
   dsimp only at KE
   have H6 := Lib.hid (And.intro h106 (And.intro hr6 (And.intro hb6 hs6)))
   clear hf h8 h7 h106 hr6 hb6 hs6 KC
   refine ⟨hE6 _, ?_⟩
   try go_simp
   refine alS 5 ?_
   unfold wpOp
   go_simp
   refine .inl ?_
   go_at_call 136
   refine KE.mono ?_
   rintro e w7 ⟨rfl,h8,h7,hf⟩
   have h107 := hf.blk H6.out.1 (by simp;omega)
   have hr7 := row_block H6.out.2.1 (w' := w7) (fun g hg => hf.block g (H6.out.2.1.lt g hg).2 (by have := (H6.out.2.1.lt g hg).1;simp;omega))
   have hb7 := frm_below H6.out.2.2.1 hf H6.out.2.2.1.size (fun y hy => by simp at hy;rcases hy with rfl | rfl <;> omega)
   have hs7 := Nat.le_trans H6.out.2.2.2 hf.size
   have hE7 : ∀ L : Array Bool,HeldS 10 (fun _ => True) (fun w' => Blk w' B10 #[.int .i64 0, .int .i64 (sz : Int), .slice A k c] 97) L w7 := fun L => ⟨trivial,fun _ => h107⟩
   have H7 := Lib.hid (And.intro h107 (And.intro h8 (And.intro h7 (And.intro hr7 (And.intro hb7 hs7)))))
   clear hf h8 h7 h107 hr7 hb7 hs7 KE hE6 hE0 H6
   refine ⟨hE7 _, ?_⟩
   try go_simp
   refine tkS 6 (.agg #[.int .i64 (f : Int), .int .i64 (m : Int)]) rfl (hE7 _) (fun w' hS => ?_) ?_
   ·clear hS;go_simp
   try go_simp
   refine alS 7 ?_
   unfold wpOp
   go_simp
   have hb8 := below_alloc w7 (.cells #[.int .i64 (f : Int), .int .i64 (m : Int)] 172)
   have hLN := lies_newP w7 [.int .i64 (f : Int), .int .i64 (m : Int)] 172
   have h108 := H7.out.1.below hb8
   have h88 := H7.out.2.1.below hb8
   have h78 := H7.out.2.2.1.below hb8
   have hr8 := World.ownsRow.alloc H7.out.2.2.2.1 (.cells #[.int .i64 (f : Int), .int .i64 (m : Int)] 172)
   have hbT8 := H7.out.2.2.2.2.1.alloc H7.out.2.2.2.2.1.size (.cells #[.int .i64 (f : Int), .int .i64 (m : Int)] 172)
   have hs8 := Nat.le_trans H7.out.2.2.2.2.2 hb8.size
   obtain ⟨Z,hZ⟩ : ∃ q,w7.heap.size = q := ⟨_,rfl⟩
   obtain ⟨w8,hw8⟩ : ∃ q,w7.alloc (.cells #[.int .i64 (f : Int), .int .i64 (m : Int)] 172) = q := ⟨_,rfl⟩
   change Lies (w7.alloc (.cells #[.int .i64 (f : Int), .int .i64 (m : Int)] 172)) _ _ at hLN
   rw [hw8] at hLN h108 h88 h78 hr8 hbT8 hs8 ⊢
   rw [hZ] at hLN
   try rw [hZ]
   have hE8 : ∀ L : Array Bool,HeldS 10 (fun _ => True) (fun w' => Blk w' B10 #[.int .i64 0, .int .i64 (sz : Int), .slice A k c] 97) L w8 := fun L => ⟨trivial,fun _ => h108⟩
   clear hw8 hZ hb8 hE7 H7
   first | refine .inl ⟨hE8 _, ?_⟩ | refine ⟨hE8 _, ?_⟩
   refine alS 8 ?_
   refine wpOp_of rfl rfl (wp_app (P := Tryz.prog) (.tmp 30) (.tmp 36) 95 172 rfl i90 _ 2 16 Tryz.underlying95 hi0 hi1 hi2 hi3 (by rfl) (by decide) W5.heap.size (.slice A k c) (by rfl) k (ecells l) hr8 (some ⟨Z,0,none⟩) 1 1 (by rfl) [.int .i64 (f : Int), .int .i64 (m : Int)] (by rfl) hLN (by simp [Value.oneCell']) (by omega) (by decide) hs8 ?_)
   intro A9 c9 w9 hr9 hg9
   have hne9 : ∀ y,y < W5.heap.size → (Value.slice A k c).ownBlock ≠ some y := fun y hy e => by have := (hr8.lt y e).1;omega
   have h109 := h108.grown hg9 (hne9 B10 hWl)
   have h89 := h88.grown hg9 (hne9 (B7 + 1) (by omega))
   have h79 := h78.grown hg9 (hne9 B7 (by omega))
   have hb9 := hbT8.grown hg9 hbT8.size (fun q hq => by have := (hr8.lt q hq).1;have := HL.out.1.size;omega)
   have hs9 := Nat.le_trans hs8 hg9.size
   have hE9 : ∀ L : Array Bool,HeldS 10 (fun _ => True) (fun w' => Blk w' B10 #[.int .i64 0, .int .i64 (sz : Int), .slice A k c] 97) L w9 := fun L => ⟨trivial,fun _ => h109⟩
   have H9 := Lib.hid (And.intro h109 (And.intro h89 (And.intro h79 (And.intro hr9 (And.intro hb9 hs9)))))
   clear hLN h108 h88 h78 hr8 hbT8 hs8 hr9 hg9 hne9 h109 h89 h79 hb9 hs9 hE8
   refine ⟨hE9 _, ?_⟩
   try go_simp
   refine tkS 9 (.pointer (some ⟨B10,2,none⟩)) rfl (hE9 _) (fun w' hS => ?_) ?_
   ·clear hS;go_simp
   try go_simp
   refine alS 10 ?_
   have x2 := H9.out.1.cell 2
   have xf := H9.out.1.frozen 2
   have xl := H9.out.1.lt
   simp at x2
   unfold wpOp
   go_simp
   have hE10 : ∀ L : Array Bool,L.getD 10 false = true → HeldS 10 (fun _ => True) (fun w' => Blk w' B10 #[.int .i64 0, .int .i64 (sz : Int), .slice A k c] 97) L (w9.setCell ⟨B10,2,none⟩ (.slice A9 (k + 1) c9)) := fun L hL => ⟨trivial,fun e => by rw [hL] at e;cases e⟩
   first | refine .inl ⟨hE10 _ (by kernel_rfl), ?_⟩ | refine ⟨hE10 _ (by kernel_rfl), ?_⟩
   refine wpAnyS_done (by kernel_rfl) ?_ _
   clear hE9 hE10 x2 xf xl
   go_wp2
   go_roundw
   case rel =>
    have hg := grown_set w9 B10 2 (.slice A9 (k + 1) c9)
    have hge := HL.out.1.size
    have hB105 : W0.heap.size ≤ B10 := by omega
    refine ⟨k + 1,A9,c9,l ++ [(f,m)],r4,e4,by omega,by go_num, ?_,H9.out.1.set 2 (.slice A9 (k + 1) c9),H9.out.2.1.grown hg (by simp;omega),H9.out.2.2.1.grown hg (by simp;omega), ?_,below_set H9.out.2.2.2.2.1 B10 2 _ hB105,by simpa using H9.out.2.2.2.2.2⟩
    ·rw [extsP,HK1.out.1]
     simp only
     rw [HN.out.1]
     simp only
     rw [HN.out.2]
    ·have := row_block H9.out.2.2.2.1 (w' := w9.setCell ⟨B10,2,none⟩ (.slice A9 (k + 1) c9)) (fun g hg => Below.heap_setCell w9 ⟨B10,2,none⟩ _ g (fun e => by have h1 := (H9.out.2.2.2.1.lt g hg).1;have h2 : g = B10 := e;omega))
     rw [ecells_app]
     exact this
   case measure => simp [intOf];omega
  ·obtain rfl : k = K := by omega
   have hll : l.length = k := by have := extsP_len (r2,e2) k;rw [hx] at this;exact this
   have hp1 : p1 t = (sz,(r1,e1)) := by unfold p1;rw [HS.out.2.1,HS.out.2.2.1,HS.out.2.2.2.1,HP1.out]
   have hp2 : p2 t = (cn,(r2,e2)) := by unfold p2;rw [hp1];exact HP2.out
   have hp3 : p3 t = (l,(r,e)) := by unfold p3;rw [hp2];simp only;rw [HK.out,hx]
   have hok : okP t = (decide (e = 0) && (goodF nm && (decide (sz ≤ 1048576) && (decide (k ≤ 64) && (decide (sumN l = needsN sz) && (decide (4 ≤ r.length) && (t == entryB nm sz l))))))) := by
    unfold okP;rw [hp3,hp1,HS.out.1];simp only;rw [hll]
   have hpp : parseP t = if okP t then some (nm,sz,l) else none := by unfold parseP;rw [hp3,hp1,HS.out.1]
   have hbody : e = 0 → k ≤ 64 → 512 = (bodyB nm sz l).length + r.length := fun h1 h2 => by
    have := p3_body t (by rw [hp3];exact h1) (by rw [hp3];simp only;omega)
    rw [hp3,hp1,HS.out.1,HS.out.2.2.2.2.2.2.2] at this
    exact this
   have hxle : ∀ x ∈ l,x.1 ≤ 1099511627776 ∧ x.2 ≤ 1099511627776 := by have := extsP_le (r2,e2) k;rw [hx] at this;exact this
   have hrl : r.length ≤ 512 := by
    have := extsP_sub (r2,e2) k
    rw [hx] at this
    simp only at this
    have := HR.out
    omega
   have hnl : nm.length ≤ 512 := by
    rw [← HS.out.1, ← HS.out.2.2.2.2.2.2.2]
    unfold nextB;generalize getB t = g;obtain ⟨n,q,er⟩ := g;dsimp only
    split
    ·simp
    ·split
     ·simp
     ·split
      ·simp
      ·simp only [List.length_take,List.length_drop];omega
   have KG := fun w1 => good_any nm w1 (by omega)
   have KC0 := fun (w1 : World) (h : Below wr.heap.size wr w1) => count_any A c l w1 (by omega) ((Lies.of_row hrow).below (Nat.le_refl _) h)
   have KC := fun (w1 : World) (h : Below wr.heap.size wr w1) => hll ▸ KC0 w1 h
   clear KC0
   obtain ⟨CT,hCT⟩ : ∃ q,min (sumN l) 1099511627776 = q := ⟨_,rfl⟩
   obtain ⟨ND,hND⟩ : ∃ q,needsN sz = q := ⟨_,rfl⟩
   have HX := Lib.hid (show Below W0.heap.size W0 wr ∧ wr.ownsRow W5.heap.size 172 2 (.slice A k c) k (ecells l) ∧ wr.cell? ⟨B7,0,none⟩ = some (.int .i64 (e : Int)) ∧ (wr.cell? ⟨B10,1,none⟩ = some (.int .i64 (sz : Int)) ∧ wr.cell? ⟨B10,2,none⟩ = some (.slice A k c)) ∧ B7 < wr.heap.size ∧ B10 < wr.heap.size ∧ Blk wr B10 #[.int .i64 0, .int .i64 (sz : Int), .slice A k c] 97 ∧ Blk wr (B7 + 1) #[.string (mk r)] 9 ∧ W5.heap.size ≤ wr.heap.size from
    ⟨hbw,hrow,by simpa using h7.cell 0,⟨by simpa using h10.cell 1,by simpa using h10.cell 2⟩,h7.lt,h10.lt,h10,h8,hsz5⟩)
   have HP := Lib.hid (And.intro hpp (And.intro hok (And.intro hbody (And.intro hxle hll))))
   simp only [hCT] at KC
   rw [HS.out.2.2.2.2.2.1] at KG
   clear hx h10 h8 h7 hrow hbw hsz5 hp1 hp2 hp3 hok hpp hbody hll
   go_upto_region 9 with (fail)
   refine wp_region_held (S := fun w' => Below wr.heap.size wr w') mixed ?_
   change wpAnyH _ _ _ _ _ _ _ _ wr.drew
   have hS0 : Below wr.heap.size wr wr.drew := (Below.refl _ _).drew
   obtain ⟨W9,hW9⟩ : ∃ q,wr.drew = q := ⟨_,rfl⟩
   rw [hW9] at hS0 ⊢
   clear hW9
   by_cases h1 : e = 0
   ·by_cases h2 : goodF nm = true
    ·by_cases h3 : sz ≤ 1048576
     ·by_cases h4 : k ≤ 64
      ·have hNDb : ND ≤ 2049 := by rw [← hND];unfold needsN;omega
       have KD := fun w1 => needs_any sz w1 (by omega)
       simp only [show (sz + 511) / 512 = ND from hND] at KD
       by_cases h5 : sumN l = needsN sz
       ·have hCN : CT = ND := by omega
        have he : (e : Int) = 0 := by omega
        have hc2 : goodF nm = true := h2
        have h3' : ¬ ((sz : Int) > 1048576) := by omega
        have h3'' : ¬ ((1048576 : Int) < (sz : Int)) := by omega
        have h4' : ¬ ((k : Int) > 64) := by omega
        have h4'' : ¬ ((64 : Int) < (k : Int)) := by omega
        have h5' : (CT : Int) = (ND : Int) := by omega
        rw [hc2] at KG
        refine tkH 0 (.int .i64 (e : Int)) rfl hS0 (fun w' hS => ?_) ?_
        ·have q := (hS.cell (p := ⟨B7,0,none⟩) HX.out.2.2.2.2.1).trans HX.out.2.2.1;go_simp
        try go_simp
        refine tkQ 1 (.bool false) rfl hS0 ?_
        try go_simp
        refine tkQ 2 (.bool false) rfl hS0 ?_
        try go_simp
        refine tkQ 3 (.string MN) rfl hS0 ?_
        try go_simp
        refine alH 4 ?_
        unfold wpOp
        go_simp
        refine .inl ?_
        go_at_call 78
        refine (KG W9).mono ?_
        rintro e wg ⟨rfl,hbg⟩
        have hS1 := hS0.trans (hbg.mono hS0.size)
        clear hbg
        refine ⟨hS1, ?_⟩
        try go_simp
        refine tkQ 5 (.bool false) rfl hS1 ?_
        try go_simp
        refine tkQ 6 (.bool false) rfl hS1 ?_
        try go_simp
        refine tkQ 7 (.bool false) rfl hS1 ?_
        try go_simp
        refine tkQ 8 (.pointer (some ⟨B10,1,none⟩)) rfl hS1 ?_
        try go_simp
        refine tkH 9 (.int .i64 (sz : Int)) rfl hS1 (fun w' hS => ?_) ?_
        ·have q := (hS.cell (p := ⟨B10,1,none⟩) HX.out.2.2.2.2.2.1).trans HX.out.2.2.2.1.1;go_simp
        try go_simp
        refine tkQ 10 (.bool false) rfl hS1 ?_
        try go_simp
        refine tkQ 11 (.bool false) rfl hS1 ?_
        try go_simp
        refine tkQ 12 (.bool false) rfl hS1 ?_
        try go_simp
        refine tkQ 13 (.pointer (some ⟨B10,2,none⟩)) rfl hS1 ?_
        try go_simp
        refine tkH 14 (.slice A k c) rfl hS1 (fun w' hS => ?_) ?_
        ·have q := (hS.cell (p := ⟨B10,2,none⟩) HX.out.2.2.2.2.2.1).trans HX.out.2.2.2.1.2;go_simp
        try go_simp
        refine tkQ 15 (.int .i64 (k : Int)) rfl hS1 ?_
        try go_simp
        refine tkQ 16 (.bool false) rfl hS1 ?_
        try go_simp
        refine tkQ 17 (.bool false) rfl hS1 ?_
        try go_simp
        refine tkQ 18 (.bool false) rfl hS1 ?_
        try go_simp
        refine tkQ 19 (.pointer (some ⟨B10,2,none⟩)) rfl hS1 ?_
        try go_simp
        refine tkH 20 (.slice A k c) rfl hS1 (fun w' hS => ?_) ?_
        ·have q := (hS.cell (p := ⟨B10,2,none⟩) HX.out.2.2.2.2.2.1).trans HX.out.2.2.2.1.2;go_simp
        try go_simp
        refine tkQ 22 (.pointer (some ⟨B10,1,none⟩)) rfl hS1 ?_
        try go_simp
        refine tkH 23 (.int .i64 (sz : Int)) rfl hS1 (fun w' hS => ?_) ?_
        ·have q := (hS.cell (p := ⟨B10,1,none⟩) HX.out.2.2.2.2.2.1).trans HX.out.2.2.2.1.1;go_simp
        try go_simp
        refine alH 21 ?_
        unfold wpOp
        go_simp
        refine .inl ?_
        go_at_call 138
        refine (KC wg hS1).mono ?_
        rintro e wc ⟨rfl,hbc⟩
        have hS2 := hS1.trans (hbc.mono hS1.size)
        clear hbc
        refine ⟨hS2, ?_⟩
        try go_simp
        refine alH 24 ?_
        unfold wpOp
        go_simp
        refine .inl ?_
        go_at_call 53
        refine (KD wc).mono ?_
        rintro e wn ⟨rfl,hw⟩
        obtain rfl := hw.symm
        refine ⟨hS2, ?_⟩
        try go_simp
        refine tkQ 25 (.bool false) rfl hS2 ?_
        try go_simp
        refine tkQ 26 (.bool false) rfl hS2 ?_
        try go_simp
        refine wpAnyH_done (by kernel_rfl) ?_ _
        have hbz := HX.out.1.trans (hS2.mono HX.out.1.size)
        have hok1 : okP t = (decide (4 ≤ r.length) && (t == entryB nm sz l)) := by
         rw [HP.out.2.1,h2,decide_eq_true h1,decide_eq_true h3,decide_eq_true h4,decide_eq_true h5];simp only [Bool.true_and]
        have HOK := Lib.hid hok1
        have H45 := Lib.hid (And.intro h1 (And.intro h3 h4))
        have hX1 := HX.out.2.2.2.2.2.2.1.below hS2
        have hX2 := HX.out.2.2.2.2.2.2.2.1.below hS2
        have hX3 := row_block HX.out.2.1 (w' := wc) (fun g hg => hS2.block g (HX.out.2.1.lt g hg).2)
        have HC := Lib.hid (And.intro hX1 (And.intro hX2 (And.intro hX3 hbz)))
        have HND := Lib.hid (And.intro hnl hrl)
        clear hX1 hX2 hX3 hbz hS0 hS1 hS2 h1 h2 h3 h4 h5 hok1 hc2 hNDb hCN KC KD KG hND hCT hnl he h3' h3'' h4' h4'' h5'
        obtain ⟨MR,hMR⟩ : ∃ q,mk r = q := ⟨_,rfl⟩
        obtain ⟨rl,hrl'⟩ : ∃ q,r.length = q := ⟨_,rfl⟩
        have hMRs : MR.size = rl := by rw [← hMR,mk_size,hrl']
        have hrli : (MR.size : Int) = (rl : Int) := by rw [hMRs]
        have HRL := Lib.hid hrl'
        go_upto_region 11 with (fail)
        refine wp_region_held (S := fun w' => Blk w' B10 #[.int .i64 0, .int .i64 (sz : Int), .slice A k c] 97 ∧ Blk w' (B7 + 1) #[.string MR] 9) mixed ?_
        change wpAnyH _ _ _ _ _ _ _ _ wc.drew
        have hD : Blk wc.drew B10 #[.int .i64 0, .int .i64 (sz : Int), .slice A k c] 97 ∧ Blk wc.drew (B7 + 1) #[.string MR] 9 ∧ wc.drew.ownsRow W5.heap.size 172 2 (.slice A k c) k (ecells l) ∧ Below W0.heap.size W0 wc.drew := ⟨HC.out.1,by rw [← hMR];exact HC.out.2.1,HC.out.2.2.1,HC.out.2.2.2.drew⟩
        obtain ⟨wd,hwd⟩ : ∃ q,wc.drew = q := ⟨_,rfl⟩
        rw [hwd] at hD ⊢
        have HD := Lib.hid hD
        have hS0 := And.intro hD.1 hD.2.1
        clear hwd hD hMR hrl' hrl
        refine tkQ 0 (.string MN) rfl hS0 ?_
        try go_simp
        refine tkH 1 (.agg #[.int .i64 0, .int .i64 (sz : Int), .slice A k c]) rfl hS0 (fun w' hS => ?_) ?_
        ·have x0 := hS.1.cell 0;have x1 := hS.1.cell 1;have x2 := hS.1.cell 2;simp at x0 x1 x2;go_simp
        try go_simp
        refine tkH 2 (.string MR) rfl hS0 (fun w' hS => ?_) ?_
        ·have x0 := hS.2.cell 0;simp at x0;go_simp
        try go_simp
        refine tkQ 3 (.int .i64 (rl : Int)) rfl hS0 ?_
        try go_simp
        by_cases hr4 : 4 ≤ rl
        ·have hr5 : (rl : Int) ≥ 4 := by omega
         have hr6 : (4 : Int) ≤ (rl : Int) := by omega
         refine tkQ 4 (.bool true) rfl hS0 ?_
         try go_simp
         refine tkQ 5 (.bool true) rfl hS0 ?_
         try go_simp
         refine tkQ 6 (.string MT) rfl hS0 ?_
         try go_simp
         refine tkQ 7 (.string MN) rfl hS0 ?_
         try go_simp
         refine tkH 8 (.agg #[.int .i64 0, .int .i64 (sz : Int), .slice A k c]) rfl hS0 (fun w' hS => ?_) ?_
         ·have x0 := hS.1.cell 0;have x1 := hS.1.cell 1;have x2 := hS.1.cell 2;simp at x0 x1 x2;go_simp
         try go_simp
         have KE := entry_any nm 0 sz A c l wd (Lies.of_row HD.out.2.2.1) (by have := H45.out.2.1;omega) (by have := HP.out.2.2.2.2;have := H45.out.2.2;omega) HP.out.2.2.2.1 (by have := HP.out.2.2.1 H45.out.1 H45.out.2.2;have := HRL.out;omega) (HB.out.1.below HB.out.2 ((by rw [← HW.out];exact below_alloc w _ : Below w.heap.size w W0).trans (HD.out.2.2.2.mono H0.out.1.size))) (Nat.lt_of_lt_of_le HB.out.2 (Nat.le_trans H0.out.1.size HD.out.2.2.2.size))
         rw [HS.out.2.2.2.2.2.1,HP.out.2.2.2.2] at KE
         have hte := text_eq t (entryB nm sz l)
         rw [HS.out.2.2.2.2.2.2.1] at hte
         obtain ⟨EB,hEB⟩ : ∃ q,mk (entryB nm sz l) = q := ⟨_,rfl⟩
         rw [hEB] at KE hte
         obtain ⟨bv,hbv⟩ : ∃ q,(t == entryB nm sz l) = q := ⟨_,rfl⟩
         rw [hbv] at hte
         have HOK2 := Lib.hid (show okP t = bv by rw [HOK.out,hbv,HRL.out,decide_eq_true hr4,Bool.true_and])
         clear hEB hbv
         refine alH 9 ?_
         unfold wpOp
         go_simp
         refine .inl ?_
         go_at_call 79
         refine KE.mono ?_
         rintro e wE ⟨rfl,hbE⟩
         have hS1 := And.intro (HD.out.1.below hbE) (HD.out.2.1.below hbE)
         have HE := Lib.hid (And.intro (row_block HD.out.2.2.1 (w' := wE) (fun g hg => hbE.block g (HD.out.2.2.1.lt g hg).2)) (HD.out.2.2.2.trans (hbE.mono HD.out.2.2.2.size)))
         clear hbE KE
         refine ⟨hS1, ?_⟩
         try go_simp
         refine tkQ 10 (.bool bv) rfl hS1 ?_
         try go_simp
         refine tkQ 11 (.bool bv) rfl hS1 ?_
         try go_simp
         refine tkQ 12 (.string MN) rfl hS1 ?_
         try go_simp
         refine alH 13 ?_
         have h3b := H0.out.2.1.below HE.out.2
         have a0 := h3b.cell 0
         have a1 := h3b.cell 1
         have a2 := h3b.cell 2
         have f0 := h3b.frozen 0
         have f1 := h3b.frozen 1
         have f2 := h3b.frozen 2
         have fl := h3b.lt
         simp at a0 a1 a2
         unfold wpOp
         go_simp
         have h3c := ((h3b.set 0 (.int .i64 0)).set 1 (.int .i64 (sz : Int))).set 2 (.slice A k c)
         have hne10 : B10 ≠ w.heap.size := by have := HH.out.1;have := HH.out.2;have := H0.out.2.2;omega
         have hne8 : B7 + 1 ≠ w.heap.size := by have := HH.out.2;have := H0.out.2.2;omega
         have hS2 : Blk (((wE.setCell ⟨w.heap.size,0,none⟩ (.int .i64 0)).setCell ⟨w.heap.size,1,none⟩ (.int .i64 (sz : Int))).setCell ⟨w.heap.size,2,none⟩ (.slice A k c)) B10 #[.int .i64 0, .int .i64 (sz : Int), .slice A k c] 97 ∧ Blk (((wE.setCell ⟨w.heap.size,0,none⟩ (.int .i64 0)).setCell ⟨w.heap.size,1,none⟩ (.int .i64 (sz : Int))).setCell ⟨w.heap.size,2,none⟩ (.slice A k c)) (B7 + 1) #[.string MR] 9 :=
          ⟨((Below.heap_setCell _ ⟨w.heap.size,2,none⟩ _ B10 hne10).trans ((Below.heap_setCell _ ⟨w.heap.size,1,none⟩ _ B10 hne10).trans (Below.heap_setCell wE ⟨w.heap.size,0,none⟩ _ B10 hne10))).trans hS1.1,((Below.heap_setCell _ ⟨w.heap.size,2,none⟩ _ (B7 + 1) hne8).trans ((Below.heap_setCell _ ⟨w.heap.size,1,none⟩ _ (B7 + 1) hne8).trans (Below.heap_setCell wE ⟨w.heap.size,0,none⟩ _ (B7 + 1) hne8))).trans hS1.2⟩
         have hb4 := below_set (below_set (below_set ((by rw [← HW.out];exact below_alloc w _ : Below w.heap.size w W0).trans (HE.out.2.mono H0.out.1.size)) w.heap.size 0 (.int .i64 0) (Nat.le_refl _)) w.heap.size 1 (.int .i64 (sz : Int)) (Nat.le_refl _)) w.heap.size 2 (.slice A k c) (Nat.le_refl _)
         have hneR : ∀ g,(Value.slice A k c).ownBlock = some g → g ≠ w.heap.size := fun g hg => by have h1 := (HE.out.1.lt g hg).1;have := HL.out.2.2.2.2;have := HH.out.1;have := HH.out.2;have := H0.out.2.2;omega
         have hr4 := row_block HE.out.1 (w' := (((wE.setCell ⟨w.heap.size,0,none⟩ (.int .i64 0)).setCell ⟨w.heap.size,1,none⟩ (.int .i64 (sz : Int))).setCell ⟨w.heap.size,2,none⟩ (.slice A k c))) (fun g hg => (Below.heap_setCell _ ⟨w.heap.size,2,none⟩ _ g (hneR g hg)).trans ((Below.heap_setCell _ ⟨w.heap.size,1,none⟩ _ g (hneR g hg)).trans (Below.heap_setCell wE ⟨w.heap.size,0,none⟩ _ g (hneR g hg))))
         obtain ⟨wF,hwF⟩ : ∃ q,(((wE.setCell ⟨w.heap.size,0,none⟩ (.int .i64 0)).setCell ⟨w.heap.size,1,none⟩ (.int .i64 (sz : Int))).setCell ⟨w.heap.size,2,none⟩ (.slice A k c)) = q := ⟨_,rfl⟩
         rw [hwF] at h3c hS2 hb4 hr4 ⊢
         have HF2 := Lib.hid (And.intro h3c (And.intro hb4 hr4))
         clear h3b a0 a1 a2 f0 f1 f2 fl hne10 hne8 hneR hwF hS1
         first | refine .inl ⟨hS2, ?_⟩ | refine ⟨hS2, ?_⟩
         refine alH 14 ?_
         unfold wpOp
         go_simp
         first | refine .inl ⟨hS2, ?_⟩ | refine ⟨hS2, ?_⟩ | refine .inl ?_ | skip
         refine wpAnyH_done (by kernel_rfl) ?_ _
         have b0 := h3c.cell 0
         have b1 := h3c.cell 1
         have b2 := h3c.cell 2
         simp at b0 b1 b2
         clear h3c hS2 hb4 hr4
         go_wp2
         refine bodyPost_ret (v := .tuple #[.string MN, .agg #[.int .i64 0, .int .i64 (sz : Int), .slice A k c], .bool bv]) ?_ rfl ?_
         ·simp [results,Tryz.f108,go_sem,b0,b1,b2]
         ·have hsome : (parseP t).isSome = bv := by rw [HP.out.1,HOK2.out];cases bv <;> rfl
          refine ⟨MN,sz,A,k,c,by rw [hsome],HF2.out.2.1,by rw [← HS.out.2.2.2.2.2.1,mk_size];exact HND.out.1,fun nm2 sz2 l2 h => ?_⟩
          rw [HP.out.1,HOK2.out] at h
          cases bv with
          | false => cases h
          | true =>
           simp only [if_true,Option.some.injEq,Prod.mk.injEq] at h
           obtain ⟨rfl,rfl,rfl⟩ := h
           exact ⟨HS.out.2.2.2.2.2.1.symm,rfl,HP.out.2.2.2.2.symm,own_weaken HF2.out.2.2 (by have := HL.out.1.size;have := H0.out.1.size;omega)⟩
        ·have hr5 : ¬ ((rl : Int) ≥ 4) := by omega
         have hr6 : ¬ ((4 : Int) ≤ (rl : Int)) := by omega
         have HOK2 := Lib.hid (show okP t = false by rw [HOK.out,HRL.out,decide_eq_false hr4,Bool.false_and])
         refine tkQ 4 (.bool false) rfl hS0 ?_
         try go_simp
         refine tkQ 5 (.bool false) rfl hS0 ?_
         try go_simp
         refine tkN 6 rfl hS0 ?_
         try go_simp
         refine tkN 7 rfl hS0 ?_
         try go_simp
         refine tkN 8 rfl hS0 ?_
         try go_simp
         refine tkN 9 rfl hS0 ?_
         try go_simp
         refine tkN 10 rfl hS0 ?_
         try go_simp
         refine tkQ 11 (.bool false) rfl hS0 ?_
         try go_simp
         have HE := Lib.hid (And.intro HD.out.2.2.1 HD.out.2.2.2)
         obtain ⟨wE,hwE⟩ : ∃ q,wd = q := ⟨_,rfl⟩
         rw [hwE] at hS0 HE ⊢
         have hS1 := hS0
         clear hwE hS0
         refine tkQ 12 (.string MN) rfl hS1 ?_
         try go_simp
         refine alH 13 ?_
         have h3b := H0.out.2.1.below HE.out.2
         have a0 := h3b.cell 0
         have a1 := h3b.cell 1
         have a2 := h3b.cell 2
         have f0 := h3b.frozen 0
         have f1 := h3b.frozen 1
         have f2 := h3b.frozen 2
         have fl := h3b.lt
         simp at a0 a1 a2
         unfold wpOp
         go_simp
         have h3c := ((h3b.set 0 (.int .i64 0)).set 1 (.int .i64 (sz : Int))).set 2 (.slice A k c)
         have hne10 : B10 ≠ w.heap.size := by have := HH.out.1;have := HH.out.2;have := H0.out.2.2;omega
         have hne8 : B7 + 1 ≠ w.heap.size := by have := HH.out.2;have := H0.out.2.2;omega
         have hS2 : Blk (((wE.setCell ⟨w.heap.size,0,none⟩ (.int .i64 0)).setCell ⟨w.heap.size,1,none⟩ (.int .i64 (sz : Int))).setCell ⟨w.heap.size,2,none⟩ (.slice A k c)) B10 #[.int .i64 0, .int .i64 (sz : Int), .slice A k c] 97 ∧ Blk (((wE.setCell ⟨w.heap.size,0,none⟩ (.int .i64 0)).setCell ⟨w.heap.size,1,none⟩ (.int .i64 (sz : Int))).setCell ⟨w.heap.size,2,none⟩ (.slice A k c)) (B7 + 1) #[.string MR] 9 :=
          ⟨((Below.heap_setCell _ ⟨w.heap.size,2,none⟩ _ B10 hne10).trans ((Below.heap_setCell _ ⟨w.heap.size,1,none⟩ _ B10 hne10).trans (Below.heap_setCell wE ⟨w.heap.size,0,none⟩ _ B10 hne10))).trans hS1.1,((Below.heap_setCell _ ⟨w.heap.size,2,none⟩ _ (B7 + 1) hne8).trans ((Below.heap_setCell _ ⟨w.heap.size,1,none⟩ _ (B7 + 1) hne8).trans (Below.heap_setCell wE ⟨w.heap.size,0,none⟩ _ (B7 + 1) hne8))).trans hS1.2⟩
         have hb4 := below_set (below_set (below_set ((by rw [← HW.out];exact below_alloc w _ : Below w.heap.size w W0).trans (HE.out.2.mono H0.out.1.size)) w.heap.size 0 (.int .i64 0) (Nat.le_refl _)) w.heap.size 1 (.int .i64 (sz : Int)) (Nat.le_refl _)) w.heap.size 2 (.slice A k c) (Nat.le_refl _)
         have hneR : ∀ g,(Value.slice A k c).ownBlock = some g → g ≠ w.heap.size := fun g hg => by have h1 := (HE.out.1.lt g hg).1;have := HL.out.2.2.2.2;have := HH.out.1;have := HH.out.2;have := H0.out.2.2;omega
         have hr4 := row_block HE.out.1 (w' := (((wE.setCell ⟨w.heap.size,0,none⟩ (.int .i64 0)).setCell ⟨w.heap.size,1,none⟩ (.int .i64 (sz : Int))).setCell ⟨w.heap.size,2,none⟩ (.slice A k c))) (fun g hg => (Below.heap_setCell _ ⟨w.heap.size,2,none⟩ _ g (hneR g hg)).trans ((Below.heap_setCell _ ⟨w.heap.size,1,none⟩ _ g (hneR g hg)).trans (Below.heap_setCell wE ⟨w.heap.size,0,none⟩ _ g (hneR g hg))))
         obtain ⟨wF,hwF⟩ : ∃ q,(((wE.setCell ⟨w.heap.size,0,none⟩ (.int .i64 0)).setCell ⟨w.heap.size,1,none⟩ (.int .i64 (sz : Int))).setCell ⟨w.heap.size,2,none⟩ (.slice A k c)) = q := ⟨_,rfl⟩
         rw [hwF] at h3c hS2 hb4 hr4 ⊢
         have HF2 := Lib.hid (And.intro h3c (And.intro hb4 hr4))
         clear h3b a0 a1 a2 f0 f1 f2 fl hne10 hne8 hneR hwF hS1
         first | refine .inl ⟨hS2, ?_⟩ | refine ⟨hS2, ?_⟩
         refine alH 14 ?_
         unfold wpOp
         go_simp
         first | refine .inl ⟨hS2, ?_⟩ | refine ⟨hS2, ?_⟩ | refine .inl ?_ | skip
         refine wpAnyH_done (by kernel_rfl) ?_ _
         have b0 := h3c.cell 0
         have b1 := h3c.cell 1
         have b2 := h3c.cell 2
         simp at b0 b1 b2
         clear h3c hS2 hb4 hr4
         go_wp2
         refine bodyPost_ret (v := .tuple #[.string MN, .agg #[.int .i64 0, .int .i64 (sz : Int), .slice A k c], .bool false]) ?_ rfl ?_
         ·simp [results,Tryz.f108,go_sem,b0,b1,b2]
         ·have hsome : (parseP t).isSome = false := by rw [HP.out.1,HOK2.out];rfl
          refine ⟨MN,sz,A,k,c,by rw [hsome],HF2.out.2.1,by rw [← HS.out.2.2.2.2.2.1,mk_size];exact HND.out.1,fun nm2 sz2 l2 h => ?_⟩
          rw [HP.out.1,HOK2.out] at h
          cases h
       ·have hCN : CT ≠ ND := by omega
        have HF := Lib.hid (show parseP t = none by rw [HP.out.1,HP.out.2.1,decide_eq_false h5];simp)
        have he : (e : Int) = 0 := by omega
        have hc2 : goodF nm = true := h2
        have h3' : ¬ ((sz : Int) > 1048576) := by omega
        have h3'' : ¬ ((1048576 : Int) < (sz : Int)) := by omega
        have h4' : ¬ ((k : Int) > 64) := by omega
        have h4'' : ¬ ((64 : Int) < (k : Int)) := by omega
        have h5' : ¬ ((CT : Int) = (ND : Int)) := by omega
        have h5'' : ((CT : Int) == (ND : Int)) = false := by simp;omega
        rw [hc2] at KG
        refine tkH 0 (.int .i64 (e : Int)) rfl hS0 (fun w' hS => ?_) ?_
        ·have q := (hS.cell (p := ⟨B7,0,none⟩) HX.out.2.2.2.2.1).trans HX.out.2.2.1;go_simp
        try go_simp
        refine tkQ 1 (.bool false) rfl hS0 ?_
        try go_simp
        refine tkQ 2 (.bool false) rfl hS0 ?_
        try go_simp
        refine tkQ 3 (.string MN) rfl hS0 ?_
        try go_simp
        refine alH 4 ?_
        unfold wpOp
        go_simp
        refine .inl ?_
        go_at_call 78
        refine (KG W9).mono ?_
        rintro e wg ⟨rfl,hbg⟩
        have hS1 := hS0.trans (hbg.mono hS0.size)
        clear hbg
        refine ⟨hS1, ?_⟩
        try go_simp
        refine tkQ 5 (.bool false) rfl hS1 ?_
        try go_simp
        refine tkQ 6 (.bool false) rfl hS1 ?_
        try go_simp
        refine tkQ 7 (.bool false) rfl hS1 ?_
        try go_simp
        refine tkQ 8 (.pointer (some ⟨B10,1,none⟩)) rfl hS1 ?_
        try go_simp
        refine tkH 9 (.int .i64 (sz : Int)) rfl hS1 (fun w' hS => ?_) ?_
        ·have q := (hS.cell (p := ⟨B10,1,none⟩) HX.out.2.2.2.2.2.1).trans HX.out.2.2.2.1.1;go_simp
        try go_simp
        refine tkQ 10 (.bool false) rfl hS1 ?_
        try go_simp
        refine tkQ 11 (.bool false) rfl hS1 ?_
        try go_simp
        refine tkQ 12 (.bool false) rfl hS1 ?_
        try go_simp
        refine tkQ 13 (.pointer (some ⟨B10,2,none⟩)) rfl hS1 ?_
        try go_simp
        refine tkH 14 (.slice A k c) rfl hS1 (fun w' hS => ?_) ?_
        ·have q := (hS.cell (p := ⟨B10,2,none⟩) HX.out.2.2.2.2.2.1).trans HX.out.2.2.2.1.2;go_simp
        try go_simp
        refine tkQ 15 (.int .i64 (k : Int)) rfl hS1 ?_
        try go_simp
        refine tkQ 16 (.bool false) rfl hS1 ?_
        try go_simp
        refine tkQ 17 (.bool false) rfl hS1 ?_
        try go_simp
        refine tkQ 18 (.bool false) rfl hS1 ?_
        try go_simp
        refine tkQ 19 (.pointer (some ⟨B10,2,none⟩)) rfl hS1 ?_
        try go_simp
        refine tkH 20 (.slice A k c) rfl hS1 (fun w' hS => ?_) ?_
        ·have q := (hS.cell (p := ⟨B10,2,none⟩) HX.out.2.2.2.2.2.1).trans HX.out.2.2.2.1.2;go_simp
        try go_simp
        refine tkQ 22 (.pointer (some ⟨B10,1,none⟩)) rfl hS1 ?_
        try go_simp
        refine tkH 23 (.int .i64 (sz : Int)) rfl hS1 (fun w' hS => ?_) ?_
        ·have q := (hS.cell (p := ⟨B10,1,none⟩) HX.out.2.2.2.2.2.1).trans HX.out.2.2.2.1.1;go_simp
        try go_simp
        refine alH 21 ?_
        unfold wpOp
        go_simp
        refine .inl ?_
        go_at_call 138
        refine (KC wg hS1).mono ?_
        rintro e wc ⟨rfl,hbc⟩
        have hS2 := hS1.trans (hbc.mono hS1.size)
        clear hbc
        refine ⟨hS2, ?_⟩
        try go_simp
        refine alH 24 ?_
        unfold wpOp
        go_simp
        refine .inl ?_
        go_at_call 53
        refine (KD wc).mono ?_
        rintro e wn ⟨rfl,hw⟩
        obtain rfl := hw.symm
        refine ⟨hS2, ?_⟩
        try go_simp
        refine tkQ 25 (.bool true) rfl hS2 ?_
        try go_simp
        refine tkQ 26 (.bool true) rfl hS2 ?_
        try go_simp
        refine wpAnyH_done (by kernel_rfl) ?_ _
        have hbz := HX.out.1.trans (hS2.mono HX.out.1.size)
        have h3b := H0.out.2.1.below hbz
        have a0 := h3b.cell 0
        have a1 := h3b.cell 1
        have a2 := h3b.cell 2
        have f0 := h3b.frozen 0
        have f1 := h3b.frozen 1
        have f2 := h3b.frozen 2
        have fl := h3b.lt
        simp at a0 a1 a2
        have HZ := Lib.hid (And.intro hbz h3b)
        clear hbz h3b
        go_wp2
        have h3c := ((HZ.out.2.set 0 (.int .i64 0)).set 1 (.int .i64 0)).set 2 (.slice none 0 0)
        have b0 := h3c.cell 0
        have b1 := h3c.cell 1
        have b2 := h3c.cell 2
        simp at b0 b1 b2
        refine bodyPost_ret (v := .tuple #[.string ⟨#[]⟩, .agg #[.int .i64 0, .int .i64 0, .slice none 0 0], .bool false]) ?_ rfl ?_
        ·simp [results,Tryz.f108,go_sem,b0,b1,b2]
        ·refine ⟨⟨#[]⟩,0,none,0,0,by rw [HF.out];rfl, ?_,by decide,fun nm sz l h => by rw [HF.out] at h;cases h⟩
         exact below_set (below_set (below_set ((by rw [← HW.out];exact below_alloc w _ : Below w.heap.size w W0).trans (HZ.out.1.mono H0.out.1.size)) w.heap.size 0 _ (Nat.le_refl _)) w.heap.size 1 _ (Nat.le_refl _)) w.heap.size 2 _ (Nat.le_refl _)
      ·have HF := Lib.hid (show parseP t = none by rw [HP.out.1,HP.out.2.1,decide_eq_false h4];simp)
       have he : (e : Int) = 0 := by omega
       have hc2 : goodF nm = true := h2
       have h3' : ¬ ((sz : Int) > 1048576) := by omega
       have h3'' : ¬ ((1048576 : Int) < (sz : Int)) := by omega
       have h4' : (k : Int) > 64 := by omega
       have h4'' : (64 : Int) < (k : Int) := by omega
       rw [hc2] at KG
       refine tkH 0 (.int .i64 (e : Int)) rfl hS0 (fun w' hS => ?_) ?_
       ·have q := (hS.cell (p := ⟨B7,0,none⟩) HX.out.2.2.2.2.1).trans HX.out.2.2.1;go_simp
       try go_simp
       refine tkQ 1 (.bool false) rfl hS0 ?_
       try go_simp
       refine tkQ 2 (.bool false) rfl hS0 ?_
       try go_simp
       refine tkQ 3 (.string MN) rfl hS0 ?_
       try go_simp
       refine alH 4 ?_
       unfold wpOp
       go_simp
       refine .inl ?_
       go_at_call 78
       refine (KG W9).mono ?_
       rintro e wg ⟨rfl,hbg⟩
       have hS1 := hS0.trans (hbg.mono hS0.size)
       clear hbg
       refine ⟨hS1, ?_⟩
       try go_simp
       refine tkQ 5 (.bool false) rfl hS1 ?_
       try go_simp
       refine tkQ 6 (.bool false) rfl hS1 ?_
       try go_simp
       refine tkQ 7 (.bool false) rfl hS1 ?_
       try go_simp
       refine tkQ 8 (.pointer (some ⟨B10,1,none⟩)) rfl hS1 ?_
       try go_simp
       refine tkH 9 (.int .i64 (sz : Int)) rfl hS1 (fun w' hS => ?_) ?_
       ·have q := (hS.cell (p := ⟨B10,1,none⟩) HX.out.2.2.2.2.2.1).trans HX.out.2.2.2.1.1;go_simp
       try go_simp
       refine tkQ 10 (.bool false) rfl hS1 ?_
       try go_simp
       refine tkQ 11 (.bool false) rfl hS1 ?_
       try go_simp
       refine tkQ 12 (.bool false) rfl hS1 ?_
       try go_simp
       refine tkQ 13 (.pointer (some ⟨B10,2,none⟩)) rfl hS1 ?_
       try go_simp
       refine tkH 14 (.slice A k c) rfl hS1 (fun w' hS => ?_) ?_
       ·have q := (hS.cell (p := ⟨B10,2,none⟩) HX.out.2.2.2.2.2.1).trans HX.out.2.2.2.1.2;go_simp
       try go_simp
       refine tkQ 15 (.int .i64 (k : Int)) rfl hS1 ?_
       try go_simp
       refine tkQ 16 (.bool true) rfl hS1 ?_
       try go_simp
       refine tkQ 17 (.bool true) rfl hS1 ?_
       try go_simp
       refine tkQ 18 (.bool true) rfl hS1 ?_
       try go_simp
       refine tkN 19 rfl hS1 ?_
       try go_simp
       refine tkN 20 rfl hS1 ?_
       try go_simp
       refine tkN 21 rfl hS1 ?_
       try go_simp
       refine tkN 22 rfl hS1 ?_
       try go_simp
       refine tkN 23 rfl hS1 ?_
       try go_simp
       refine tkN 24 rfl hS1 ?_
       try go_simp
       refine tkN 25 rfl hS1 ?_
       try go_simp
       refine tkQ 26 (.bool true) rfl hS1 ?_
       try go_simp
       refine wpAnyH_done (by kernel_rfl) ?_ _
       have hbz := HX.out.1.trans (hS1.mono HX.out.1.size)
       have h3b := H0.out.2.1.below hbz
       have a0 := h3b.cell 0
       have a1 := h3b.cell 1
       have a2 := h3b.cell 2
       have f0 := h3b.frozen 0
       have f1 := h3b.frozen 1
       have f2 := h3b.frozen 2
       have fl := h3b.lt
       simp at a0 a1 a2
       have HZ := Lib.hid (And.intro hbz h3b)
       clear hbz h3b
       go_wp2
       have h3c := ((HZ.out.2.set 0 (.int .i64 0)).set 1 (.int .i64 0)).set 2 (.slice none 0 0)
       have b0 := h3c.cell 0
       have b1 := h3c.cell 1
       have b2 := h3c.cell 2
       simp at b0 b1 b2
       refine bodyPost_ret (v := .tuple #[.string ⟨#[]⟩, .agg #[.int .i64 0, .int .i64 0, .slice none 0 0], .bool false]) ?_ rfl ?_
       ·simp [results,Tryz.f108,go_sem,b0,b1,b2]
       ·refine ⟨⟨#[]⟩,0,none,0,0,by rw [HF.out];rfl, ?_,by decide,fun nm sz l h => by rw [HF.out] at h;cases h⟩
        exact below_set (below_set (below_set ((by rw [← HW.out];exact below_alloc w _ : Below w.heap.size w W0).trans (HZ.out.1.mono H0.out.1.size)) w.heap.size 0 _ (Nat.le_refl _)) w.heap.size 1 _ (Nat.le_refl _)) w.heap.size 2 _ (Nat.le_refl _)
     ·have HF := Lib.hid (show parseP t = none by rw [HP.out.1,HP.out.2.1,decide_eq_false h3];simp)
      have he : (e : Int) = 0 := by omega
      have hc2 : goodF nm = true := h2
      have h3' : (sz : Int) > 1048576 := by omega
      have h3'' : (1048576 : Int) < (sz : Int) := by omega
      rw [hc2] at KG
      refine tkH 0 (.int .i64 (e : Int)) rfl hS0 (fun w' hS => ?_) ?_
      ·have q := (hS.cell (p := ⟨B7,0,none⟩) HX.out.2.2.2.2.1).trans HX.out.2.2.1;go_simp
      try go_simp
      refine tkQ 1 (.bool false) rfl hS0 ?_
      try go_simp
      refine tkQ 2 (.bool false) rfl hS0 ?_
      try go_simp
      refine tkQ 3 (.string MN) rfl hS0 ?_
      try go_simp
      refine alH 4 ?_
      unfold wpOp
      go_simp
      refine .inl ?_
      go_at_call 78
      refine (KG W9).mono ?_
      rintro e wg ⟨rfl,hbg⟩
      have hS1 := hS0.trans (hbg.mono hS0.size)
      clear hbg
      refine ⟨hS1, ?_⟩
      try go_simp
      refine tkQ 5 (.bool false) rfl hS1 ?_
      try go_simp
      refine tkQ 6 (.bool false) rfl hS1 ?_
      try go_simp
      refine tkQ 7 (.bool false) rfl hS1 ?_
      try go_simp
      refine tkQ 8 (.pointer (some ⟨B10,1,none⟩)) rfl hS1 ?_
      try go_simp
      refine tkH 9 (.int .i64 (sz : Int)) rfl hS1 (fun w' hS => ?_) ?_
      ·have q := (hS.cell (p := ⟨B10,1,none⟩) HX.out.2.2.2.2.2.1).trans HX.out.2.2.2.1.1;go_simp
      try go_simp
      refine tkQ 10 (.bool true) rfl hS1 ?_
      try go_simp
      refine tkQ 11 (.bool true) rfl hS1 ?_
      try go_simp
      refine tkQ 12 (.bool true) rfl hS1 ?_
      try go_simp
      refine tkN 13 rfl hS1 ?_
      try go_simp
      refine tkN 14 rfl hS1 ?_
      try go_simp
      refine tkN 15 rfl hS1 ?_
      try go_simp
      refine tkN 16 rfl hS1 ?_
      try go_simp
      refine tkQ 17 (.bool true) rfl hS1 ?_
      try go_simp
      refine tkQ 18 (.bool true) rfl hS1 ?_
      try go_simp
      refine tkN 19 rfl hS1 ?_
      try go_simp
      refine tkN 20 rfl hS1 ?_
      try go_simp
      refine tkN 21 rfl hS1 ?_
      try go_simp
      refine tkN 22 rfl hS1 ?_
      try go_simp
      refine tkN 23 rfl hS1 ?_
      try go_simp
      refine tkN 24 rfl hS1 ?_
      try go_simp
      refine tkN 25 rfl hS1 ?_
      try go_simp
      refine tkQ 26 (.bool true) rfl hS1 ?_
      try go_simp
      refine wpAnyH_done (by kernel_rfl) ?_ _
      have hbz := HX.out.1.trans (hS1.mono HX.out.1.size)
      have h3b := H0.out.2.1.below hbz
      have a0 := h3b.cell 0
      have a1 := h3b.cell 1
      have a2 := h3b.cell 2
      have f0 := h3b.frozen 0
      have f1 := h3b.frozen 1
      have f2 := h3b.frozen 2
      have fl := h3b.lt
      simp at a0 a1 a2
      have HZ := Lib.hid (And.intro hbz h3b)
      clear hbz h3b
      go_wp2
      have h3c := ((HZ.out.2.set 0 (.int .i64 0)).set 1 (.int .i64 0)).set 2 (.slice none 0 0)
      have b0 := h3c.cell 0
      have b1 := h3c.cell 1
      have b2 := h3c.cell 2
      simp at b0 b1 b2
      refine bodyPost_ret (v := .tuple #[.string ⟨#[]⟩, .agg #[.int .i64 0, .int .i64 0, .slice none 0 0], .bool false]) ?_ rfl ?_
      ·simp [results,Tryz.f108,go_sem,b0,b1,b2]
      ·refine ⟨⟨#[]⟩,0,none,0,0,by rw [HF.out];rfl, ?_,by decide,fun nm sz l h => by rw [HF.out] at h;cases h⟩
       exact below_set (below_set (below_set ((by rw [← HW.out];exact below_alloc w _ : Below w.heap.size w W0).trans (HZ.out.1.mono H0.out.1.size)) w.heap.size 0 _ (Nat.le_refl _)) w.heap.size 1 _ (Nat.le_refl _)) w.heap.size 2 _ (Nat.le_refl _)
    ·have h2 : goodF nm = false := by simpa using h2
     have HF := Lib.hid (show parseP t = none by rw [HP.out.1,HP.out.2.1,h2];simp)
     have he : (e : Int) = 0 := by omega
     have hc2 : goodF nm = false := h2
     rw [hc2] at KG
     refine tkH 0 (.int .i64 (e : Int)) rfl hS0 (fun w' hS => ?_) ?_
     ·have q := (hS.cell (p := ⟨B7,0,none⟩) HX.out.2.2.2.2.1).trans HX.out.2.2.1;go_simp
     try go_simp
     refine tkQ 1 (.bool false) rfl hS0 ?_
     try go_simp
     refine tkQ 2 (.bool false) rfl hS0 ?_
     try go_simp
     refine tkQ 3 (.string MN) rfl hS0 ?_
     try go_simp
     refine alH 4 ?_
     unfold wpOp
     go_simp
     refine .inl ?_
     go_at_call 78
     refine (KG W9).mono ?_
     rintro e wg ⟨rfl,hbg⟩
     have hS1 := hS0.trans (hbg.mono hS0.size)
     clear hbg
     refine ⟨hS1, ?_⟩
     try go_simp
     refine tkQ 5 (.bool true) rfl hS1 ?_
     try go_simp
     refine tkQ 6 (.bool true) rfl hS1 ?_
     try go_simp
     refine tkQ 7 (.bool true) rfl hS1 ?_
     try go_simp
     refine tkN 8 rfl hS1 ?_
     try go_simp
     refine tkN 9 rfl hS1 ?_
     try go_simp
     refine tkN 10 rfl hS1 ?_
     try go_simp
     refine tkQ 11 (.bool true) rfl hS1 ?_
     try go_simp
     refine tkQ 12 (.bool true) rfl hS1 ?_
     try go_simp
     refine tkN 13 rfl hS1 ?_
     try go_simp
     refine tkN 14 rfl hS1 ?_
     try go_simp
     refine tkN 15 rfl hS1 ?_
     try go_simp
     refine tkN 16 rfl hS1 ?_
     try go_simp
     refine tkQ 17 (.bool true) rfl hS1 ?_
     try go_simp
     refine tkQ 18 (.bool true) rfl hS1 ?_
     try go_simp
     refine tkN 19 rfl hS1 ?_
     try go_simp
     refine tkN 20 rfl hS1 ?_
     try go_simp
     refine tkN 21 rfl hS1 ?_
     try go_simp
     refine tkN 22 rfl hS1 ?_
     try go_simp
     refine tkN 23 rfl hS1 ?_
     try go_simp
     refine tkN 24 rfl hS1 ?_
     try go_simp
     refine tkN 25 rfl hS1 ?_
     try go_simp
     refine tkQ 26 (.bool true) rfl hS1 ?_
     try go_simp
     refine wpAnyH_done (by kernel_rfl) ?_ _
     have hbz := HX.out.1.trans (hS1.mono HX.out.1.size)
     have h3b := H0.out.2.1.below hbz
     have a0 := h3b.cell 0
     have a1 := h3b.cell 1
     have a2 := h3b.cell 2
     have f0 := h3b.frozen 0
     have f1 := h3b.frozen 1
     have f2 := h3b.frozen 2
     have fl := h3b.lt
     simp at a0 a1 a2
     have HZ := Lib.hid (And.intro hbz h3b)
     clear hbz h3b
     go_wp2
     have h3c := ((HZ.out.2.set 0 (.int .i64 0)).set 1 (.int .i64 0)).set 2 (.slice none 0 0)
     have b0 := h3c.cell 0
     have b1 := h3c.cell 1
     have b2 := h3c.cell 2
     simp at b0 b1 b2
     refine bodyPost_ret (v := .tuple #[.string ⟨#[]⟩, .agg #[.int .i64 0, .int .i64 0, .slice none 0 0], .bool false]) ?_ rfl ?_
     ·simp [results,Tryz.f108,go_sem,b0,b1,b2]
     ·refine ⟨⟨#[]⟩,0,none,0,0,by rw [HF.out];rfl, ?_,by decide,fun nm sz l h => by rw [HF.out] at h;cases h⟩
      exact below_set (below_set (below_set ((by rw [← HW.out];exact below_alloc w _ : Below w.heap.size w W0).trans (HZ.out.1.mono H0.out.1.size)) w.heap.size 0 _ (Nat.le_refl _)) w.heap.size 1 _ (Nat.le_refl _)) w.heap.size 2 _ (Nat.le_refl _)
   ·have HF := Lib.hid (show parseP t = none by rw [HP.out.1,HP.out.2.1,decide_eq_false h1];simp)
    have he : ¬ ((e : Int) = 0) := by omega
    have he2 : ((e : Int) == 0) = false := by simp;omega
    refine tkH 0 (.int .i64 (e : Int)) rfl hS0 (fun w' hS => ?_) ?_
    ·have q := (hS.cell (p := ⟨B7,0,none⟩) HX.out.2.2.2.2.1).trans HX.out.2.2.1;go_simp
    try go_simp
    refine tkQ 1 (.bool true) rfl hS0 ?_
    try go_simp
    refine tkQ 2 (.bool true) rfl hS0 ?_
    try go_simp
    refine tkN 3 rfl hS0 ?_
    try go_simp
    refine tkN 4 rfl hS0 ?_
    try go_simp
    refine tkN 5 rfl hS0 ?_
    try go_simp
    refine tkQ 6 (.bool true) rfl hS0 ?_
    try go_simp
    refine tkQ 7 (.bool true) rfl hS0 ?_
    try go_simp
    refine tkN 8 rfl hS0 ?_
    try go_simp
    refine tkN 9 rfl hS0 ?_
    try go_simp
    refine tkN 10 rfl hS0 ?_
    try go_simp
    refine tkQ 11 (.bool true) rfl hS0 ?_
    try go_simp
    refine tkQ 12 (.bool true) rfl hS0 ?_
    try go_simp
    refine tkN 13 rfl hS0 ?_
    try go_simp
    refine tkN 14 rfl hS0 ?_
    try go_simp
    refine tkN 15 rfl hS0 ?_
    try go_simp
    refine tkN 16 rfl hS0 ?_
    try go_simp
    refine tkQ 17 (.bool true) rfl hS0 ?_
    try go_simp
    refine tkQ 18 (.bool true) rfl hS0 ?_
    try go_simp
    refine tkN 19 rfl hS0 ?_
    try go_simp
    refine tkN 20 rfl hS0 ?_
    try go_simp
    refine tkN 21 rfl hS0 ?_
    try go_simp
    refine tkN 22 rfl hS0 ?_
    try go_simp
    refine tkN 23 rfl hS0 ?_
    try go_simp
    refine tkN 24 rfl hS0 ?_
    try go_simp
    refine tkN 25 rfl hS0 ?_
    try go_simp
    refine tkQ 26 (.bool true) rfl hS0 ?_
    try go_simp
    refine wpAnyH_done (by kernel_rfl) ?_ _
    have hbz := HX.out.1.trans (hS0.mono HX.out.1.size)
    have h3b := H0.out.2.1.below hbz
    have a0 := h3b.cell 0
    have a1 := h3b.cell 1
    have a2 := h3b.cell 2
    have f0 := h3b.frozen 0
    have f1 := h3b.frozen 1
    have f2 := h3b.frozen 2
    have fl := h3b.lt
    simp at a0 a1 a2
    have HZ := Lib.hid (And.intro hbz h3b)
    clear hbz h3b
    go_wp2
    have h3c := ((HZ.out.2.set 0 (.int .i64 0)).set 1 (.int .i64 0)).set 2 (.slice none 0 0)
    have b0 := h3c.cell 0
    have b1 := h3c.cell 1
    have b2 := h3c.cell 2
    simp at b0 b1 b2
    refine bodyPost_ret (v := .tuple #[.string ⟨#[]⟩, .agg #[.int .i64 0, .int .i64 0, .slice none 0 0], .bool false]) ?_ rfl ?_
    ·simp [results,Tryz.f108,go_sem,b0,b1,b2]
    ·refine ⟨⟨#[]⟩,0,none,0,0,by rw [HF.out];rfl, ?_,by decide,fun nm sz l h => by rw [HF.out] at h;cases h⟩
     exact below_set (below_set (below_set ((by rw [← HW.out];exact below_alloc w _ : Below w.heap.size w W0).trans (HZ.out.1.mono H0.out.1.size)) w.heap.size 0 _ (Nat.le_refl _)) w.heap.size 1 _ (Nat.le_refl _)) w.heap.size 2 _ (Nat.le_refl _)
def bitsB (u : Nat) (s : Bs) : List Bool := (List.range u).map fun i => decide ((s.getD (i / 8) 0).toNat / 2 ^ (i % 8) % 2 = 1)
def spareB (u : Nat) (s : Bs) : Bool := decide (u % 8 = 0) || decide ((s.getD (u / 8) 0).toNat / 2 ^ (u % 8) = 0)
theorem bitsB_length (u : Nat) (s : Bs) : (bitsB u s).length = u := by simp [bitsB]
theorem bitsB_at (u : Nat) (s : Bs) (i : Nat) : (bitsB u s).getD i false = (decide (i < u) && decide ((s.getD (i / 8) 0).toNat / 2 ^ (i % 8) % 2 = 1)) := by
 unfold bitsB
 rw [List.getD_eq_getElem?_getD,List.getElem?_map]
 by_cases h : i < u
 ·rw [List.getElem?_range h];simp [h]
 ·rw [List.getElem?_eq_none (by simpa using h)];simp [h]
theorem div_zero_pow {c r k : Nat} (h : c / 2 ^ r = 0) (hk : r ≤ k) : c / 2 ^ k = 0 := by
 have h2 : 0 < 2 ^ r := Nat.pow_pos (by omega)
 have h1 : c < 2 ^ r := by
  rcases Nat.lt_or_ge c (2 ^ r) with h3 | h3
  ·exact h3
  ·have := Nat.div_pos h3 h2;omega
 exact Nat.div_eq_of_lt (Nat.lt_of_lt_of_le h1 (Nat.pow_le_pow_right (by omega) hk))
theorem bits_pack (u : Nat) (s : Bs) (hl : s.length = (u + 7) / 8) (hs : spareB u s = true) : packB (bitsB u s) = s := by
 refine List.ext_getElem? fun j => ?_
 unfold packB
 rw [bitsB_length,List.getElem?_map]
 by_cases hj : j < (u + 7) / 8
 ·rw [List.getElem?_range hj]
  simp only [Option.map_some]
  rw [List.getElem?_eq_getElem (by omega)]
  congr 1
  have hc : s.getD j 0 = s[j]'(by omega) := by rw [List.getD_eq_getElem?_getD,List.getElem?_eq_getElem (by omega)];rfl
  have hb : ∀ k,k < 8 → bitN (bitsB u s) (8 * j + k) = s[j].toNat / 2 ^ k % 2 := fun k hk => by
   unfold bitN
   rw [bitsB_at,show (8 * j + k) / 8 = j by omega,show (8 * j + k) % 8 = k by omega,hc]
   by_cases h1 : 8 * j + k < u
   ·rw [decide_eq_true h1,Bool.true_and]
    by_cases h2 : s[j].toNat / 2 ^ k % 2 = 1
    ·rw [if_pos (by simpa using h2),h2]
    ·rw [if_neg (by simpa using h2)];omega
   ·rw [decide_eq_false h1,Bool.false_and,if_neg (by decide)]
    have hju : j = u / 8 := by omega
    have hr : ¬ u % 8 = 0 := by omega
    have hsp : s[j].toNat / 2 ^ (u % 8) = 0 := by
     unfold spareB at hs
     rw [Bool.or_eq_true,decide_eq_true_eq,decide_eq_true_eq] at hs
     rcases hs with h2 | h2
     ·exact absurd h2 hr
     ·rw [← hju,hc] at h2;exact h2
    rw [div_zero_pow hsp (by omega)]
  apply UInt8.toNat.inj
  rw [UInt8.toNat_ofNat',Nat.mod_eq_of_lt (byteN_lt _ _)]
  unfold byteN
  have e0 := hb 0 (by omega);have e1 := hb 1 (by omega);have e2 := hb 2 (by omega);have e3 := hb 3 (by omega)
  have e4 := hb 4 (by omega);have e5 := hb 5 (by omega);have e6 := hb 6 (by omega);have e7 := hb 7 (by omega)
  rw [Nat.add_zero] at e0
  have hlt := UInt8.toNat_lt s[j]
  simp only [Nat.reducePow] at e0 e1 e2 e3 e4 e5 e6 e7 hlt
  omega
 ·rw [List.getElem?_eq_none (by simpa using hj),List.getElem?_eq_none (by omega)];rfl
theorem bits_inj {T : List Bool} {U : List Bool} (h : packB T = packB U) (hl : T.length = U.length) : T = U := by
 refine List.ext_getElem hl fun i h1 h2 => ?_
 have hj : i / 8 < (T.length + 7) / 8 := by omega
 have e1 := byteN_bit T (i / 8) (i % 8) (by omega)
 have e2 := byteN_bit U (i / 8) (i % 8) (by omega)
 have e : byteN T (i / 8) = byteN U (i / 8) := by
  have a := packB_at T (i / 8) hj
  have b := packB_at U (i / 8) (by omega)
  rw [h,b] at a
  have a' := congrArg UInt8.toNat (Option.some.inj a)
  rw [UInt8.toNat_ofNat',UInt8.toNat_ofNat',Nat.mod_eq_of_lt (byteN_lt _ _),Nat.mod_eq_of_lt (byteN_lt _ _)] at a'
  exact a'.symm
 rw [e] at e1
 have e3 := e1.symm.trans e2
 rw [show 8 * (i / 8) + i % 8 = i by omega] at e3
 unfold bitN at e3
 rw [List.getD_eq_getElem?_getD,List.getElem?_eq_getElem h1,List.getD_eq_getElem?_getD,List.getElem?_eq_getElem h2] at e3
 simp only [Option.getD_some] at e3
 cases hT : T[i] <;> cases hU : U[i] <;> simp [hT,hU] at e3 ⊢
def stepL (v : List Bs) (i : Nat) (st : List FileM × List Bool) : Option (List FileM × List Bool) :=
 if secAt v (2 + i) = zeroS then some st else match parseP (secAt v (2 + i)) with
 | none => none
 | some (nm,sz,l) => if (fileOf st.1 nm).isSome then none else (turnS true st.2 l).map fun T => (st.1 ++ [⟨nm,i,sz,l⟩],T)
def foldL (v : List Bs) (u : Nat) : Nat → Option (List FileM × List Bool)
 | 0 => some ([],List.replicate u false)
 | k + 1 => (foldL v u k).bind (stepL v k)
theorem foldL_none (v : List Bs) (u k : Nat) (h : foldL v u k = none) : ∀ n,k ≤ n → foldL v u n = none := by
 intro n
 induction n with
 | zero => intro hk; obtain rfl : k = 0 := by omega
           exact h
 | succ n ih =>
  intro hk
  rcases Nat.lt_or_ge n k with h1 | h1
  ·obtain rfl : k = n + 1 := by omega
   exact h
  ·rw [foldL,ih h1];rfl
def mapL (v : List Bs) (u : Nat) : Option (List Bool) :=
 if spareB u ((secAt v 1).take ((u + 7) / 8)) = true ∧ secAt v 1 = fullB ((secAt v 1).take ((u + 7) / 8)) then some (bitsB u ((secAt v 1).take ((u + 7) / 8))) else none
def learnL (v : List Bs) (u most : Nat) : Option (List FileM × List Bool) :=
 (mapL v u).bind fun T => (foldL v u most).bind fun st => if st.2 = T then some st else none
open Go.RowKit
set_option maxRecDepth 100000 in
theorem sparse_bad (n : Nat) (s : Bs) (w : World) (hl : s.length = (n + 7) / 8) (hn : n ≤ 4096) (hs : spareB n s = false) : Calls Tryz.prog 106 #[.int .i64 n, .string (mk s)] w fun e w' => e = .returned (.tuple #[.agg #[.int .i64 0, .string ⟨#[]⟩], .int .i64 2]) ∧ Below w.heap.size w w' := by
 have K := fun w => spnew_any n w hn
 have hzl : (mk (packB (List.replicate n false))).size = (n + 7) / 8 := by rw [mk_size,packB_length,List.length_replicate]
 unfold spareB at hs
 rw [Bool.or_eq_false_iff,decide_eq_false_iff_not,decide_eq_false_iff_not] at hs
 obtain ⟨hr1,hsp⟩ := hs
 unfold spv at K
 rw [List.length_replicate] at K
 obtain ⟨X,hX⟩ : ∃ X,mk s = X := ⟨_,rfl⟩
 have hxs : X.size = (n + 7) / 8 := by rw [← hX,mk_size,hl]
 obtain ⟨Z,hZ⟩ : ∃ X,mk (packB (List.replicate n false)) = X := ⟨_,rfl⟩
 rw [hZ] at hzl K
 have hjl : n / 8 < s.length := by omega
 obtain ⟨c,hcT⟩ : ∃ c,s.getD (n / 8) 0 = c := ⟨_,rfl⟩
 rw [hcT] at hsp
 have hcX : ∃ h : n / 8 < X.size,X[n / 8]'h = c := by
  refine ⟨by omega, ?_⟩
  have h2 : X.data.toList[n / 8]? = some c := by
   rw [← hX,mk_data, ← hcT,List.getD_eq_getElem?_getD,List.getElem?_eq_getElem hjl];rfl
  rw [Array.getElem?_toList,Array.getElem?_eq_getElem (by show n / 8 < X.size;omega)] at h2
  exact Option.some.inj h2
 rw [hX]
 obtain ⟨r,hr⟩ : ∃ r,n % 8 = r := ⟨_,rfl⟩
 rw [hr] at hsp hr1
 have tm : (n : Int).tmod 8 = (r : Int) := by rw [Int.tmod_eq_emod_of_nonneg (by omega)];omega
 have hzx : (Z.size : Int) = (X.size : Int) := by omega
 have hin : ∀ w1,Below (w.alloc (.cells #[.int .i64 0, .string ⟨#[]⟩] 104)).heap.size (w.alloc (.cells #[.int .i64 0, .string ⟨#[]⟩] 104)) w1 → Blk w1 w.heap.size #[.int .i64 0, .string ⟨#[]⟩] 104 := fun w1 hb => (Blk.new w #[.int .i64 0, .string ⟨#[]⟩] 104).below hb
 have HIN := Lib.hid hin
 obtain ⟨hj,hcX⟩ := hcX
 have hxm : ((X.size : Int) - 1) = ((n / 8 : Nat) : Int) := by omega
 obtain ⟨j,hjj⟩ : ∃ j,n / 8 = j := ⟨_,rfl⟩
 have hjn : j ≤ 512 := by omega
 rw [hjj] at hxm
 have hj' : j < X.size := by omega
 have hcX' : X[j]'hj' = c := by subst hjj;exact hcX
 have hshi : ¬ ((c.toNat : Int) / 2 ^ r) = 0 := fun e => hsp (by
  have : ((c.toNat / 2 ^ r : Nat) : Int) = 0 := by simpa using e
  omega)
 have hj0 : (0 : Int) ≤ (j : Int) := by omega
 have hj1 : (j : Int) < (X.size : Int) := by omega
 have r0 : (0 : Int) < (r : Int) := by omega
 have r1 : (0 : Int) ≤ (r : Int) := by omega
 have r2 : (r : Int) ≤ 8 := by omega
 clear hX hZ hin hcT hsp hr hjj hcX hj hzl hxs hr1 hjl hl
 go_enter Tryz.func106,Tryz.ntmps106
 go_wp2_with (go_at_call 107;refine (K _).mono ?_;rintro e1 w1 ⟨rfl,hbw⟩;have HW := Lib.hid hbw;have hB1 := HIN.out w1 hbw;clear hbw;have c0 := hB1.cell 0;have c1 := hB1.cell 1;have f0 := hB1.frozen 0;have f1 := hB1.frozen 1;have hl1 := hB1.lt;simp at c0 c1;clear hB1)
 refine bodyPost_ret (v := .tuple #[.agg #[.int .i64 0, .string ⟨#[]⟩], .int .i64 2]) ?_ rfl ?_
 ·rw [results_cell_tmp Tryz.results106]
  go_simp
 ·refine ⟨rfl, ?_⟩
  have hz := (below_alloc w (.cells #[.int .i64 0, .string ⟨#[]⟩] 104)).trans (HW.out.mono (by simp))
  first | exact (below_set (below_set (hz.alloc (by simp;omega) _) _ 0 _ (Nat.le_refl _)) _ 1 _ (Nat.le_refl _)) | exact (below_set (below_set hz _ 0 _ (Nat.le_refl _)) _ 1 _ (Nat.le_refl _)).alloc (by simp;omega) _
theorem sparse_all (n : Nat) (s : Bs) (w : World) (hl : s.length = (n + 7) / 8) (hn : n ≤ 4096) : Calls Tryz.prog 106 #[.int .i64 n, .string (mk s)] w fun e w' =>
  e = .returned (if spareB n s = true then .tuple #[.agg #[.int .i64 n, .string (mk s)], .int .i64 0] else .tuple #[.agg #[.int .i64 0, .string ⟨#[]⟩], .int .i64 2]) ∧ Below w.heap.size w w' := by
 cases hs : spareB n s with
 | false => simpa using sparse_bad n s w hl hn hs
 | true =>
  have h := sparse_any (bitsB n s) w (by rw [bitsB_length];exact hn)
  unfold spv at h
  rw [bits_pack n s hl hs,bitsB_length] at h
  simpa using h
open Go.RowKit Go.Maps
theorem Sto.away2 {w w' : World} {X : List Nat} {S D Lg M H : Nat} {m : StoM} {cs : Array Value} {t0 : TypeId} (h : Sto w X S D Lg M m) (hg : w.grownBy w' (some H)) (hH : Blk w H cs t0) (h79 : t0 ≠ 107) (h165 : t0 ≠ 179) (h90 : t0 ≠ 172) (hX : H ∉ X) (h0 : 1 < H) : Sto w' X S D Lg M m := by
 obtain ⟨ad,h1,h2⟩ := h.map
 have hfr : Frm [H] w w' := ⟨hg.os,hg.tape,hg.output,hg.size,fun k hk hx => hg.block k hk (by simpa using hx)⟩
 have hne : ∀ {b : Nat} {c : Array Value} {t : TypeId},Blk w b c t → t0 ≠ t → b ∉ [H] := fun {b c t} hb ht hx => by
  have e : b = H := by simpa using hx
  subst e
  unfold Blk at hb hH
  rw [hb] at hH
  simp only [Option.some.injEq,Obj.cells.injEq] at hH
  exact ht hH.2.1.symm
 refine ⟨hfr.blk h.blk (hne h.blk h79),h.dsk.frm hfr (fun x hx e => hX (by simp at e;rwa [← e])),hfr.blk h.log (hne h.log h165),⟨ad,h1.kept hg (fun e => by cases e;exact h1.not_cells hH rfl),h2.grown hg (fun g e c fr hc => by
  cases e
  unfold Blk at hH
  rw [hc] at hH
  simp only [Option.some.injEq,Obj.cells.injEq] at hH
  exact h90 hH.2.1.symm)⟩,h.apart,fun k hk => (hfr.cell (p := ⟨1,k,none⟩) h.pos (by simp;omega)).trans (h.tb k hk),Nat.lt_of_lt_of_le h.pos hg.size⟩
theorem Mv.hideM {Y Z : List Nat} {H : Nat} {w w1 w2 : World} (h : Mv Y Z w w1) (k : w1.grownBy w2 (some H)) (hH : w.heap.size ≤ H) : Mv Y Z w w2 :=
 ⟨⟨k.os.trans h.frm.os,k.tape.trans h.frm.tape,k.output.trans h.frm.output,Nat.le_trans h.size k.size,fun b hb hx => (k.block b (Nat.lt_of_lt_of_le hb h.size) (fun e => by cases e;omega)).trans (h.frm.block b hb hx)⟩,h.sub⟩
theorem foldL_len (v : List Bs) (u : Nat) : ∀ k F V,foldL v u k = some (F,V) → V.length = u ∧ F.length ≤ k ∧ ∀ f ∈ F,f.entry < k ∧ f.name.length ≤ 80 := by
 intro k
 induction k with
 | zero =>
  intro F V h
  simp only [foldL,Option.some.injEq,Prod.mk.injEq] at h
  obtain ⟨rfl,rfl⟩ := h
  exact ⟨by simp,Nat.le_refl _,fun f hf => by cases hf⟩
 | succ k ih =>
  intro F V h
  rw [foldL] at h
  obtain ⟨⟨F0,V0⟩,h0,h1⟩ := Option.bind_eq_some_iff.1 h
  obtain ⟨a1,a2,a3⟩ := ih F0 V0 h0
  unfold stepL at h1
  split at h1
  ·simp only [Option.some.injEq,Prod.mk.injEq] at h1
   obtain ⟨rfl,rfl⟩ := h1
   exact ⟨a1,by omega,fun f hf => ⟨by have := (a3 f hf).1;omega,(a3 f hf).2⟩⟩
  ·split at h1
   ·cases h1
   ·rename_i nm sz l hp
    split at h1
    ·cases h1
    ·obtain ⟨T,ht,he⟩ := Option.map_eq_some_iff.1 h1
     simp only [Prod.mk.injEq] at he
     obtain ⟨rfl,rfl⟩ := he
     refine ⟨(turnS_len _ _ _ _ ht).trans a1,by simp;omega,fun f hf => ?_⟩
     rcases List.mem_append.1 hf with h2 | h2
     ·exact ⟨by have := (a3 f h2).1;omega,(a3 f h2).2⟩
     ·obtain rfl := List.mem_singleton.1 h2
      refine ⟨by simp only;omega, ?_⟩
      have hg := (parse_some hp).2.1
      unfold goodF at hg
      simp only [Bool.and_eq_true,decide_eq_true_eq] at hg
      exact hg.1.2
def LearnP (X : List Nat) (S D Lg M : Nat) (ds : DS) (most : Nat) (R : Option (List FileM × List Bool)) (w : World) (e : Ending) (w' : World) : Prop :=
 Dsk w' X D ds ∧ Mv (S :: M :: X) (S :: M :: X) w w' ∧ match R with
 | some (F,T) => e = .returned (.int .i64 0) ∧ Sto w' X S D Lg M ⟨ds,F,T,most,false⟩
 | none => e = .returned (.int .i64 14)
set_option maxRecDepth 100000 in
set_option maxHeartbeats 4000000 in
theorem learn_any (X : List Nat) (S D Lg M : Nat) (ds : DS) (most u : Nat) (w : World) (h : Sto w X S D Lg M ⟨ds,[],[],most,false⟩) (ho : ds.off = false) (hm : 1 ≤ most ∧ most ≤ 256) (hu : u + most + 7 = ds.L.length) (hu1 : 1 ≤ u) (hu2 : u ≤ 4096) :
  Calls Tryz.prog 65 #[.pointer (some ⟨S,0,none⟩)] w (LearnP X S D Lg M ds most (learnL ds.vis u most) w) := by
 obtain ⟨R,hR⟩ : ∃ q,learnL ds.vis u most = q := ⟨_,rfl⟩
 rw [hR]
 have hgd : DGood ds := h.dsk.good
 have hN4 : ds.L.length ≤ 4096 := hgd.small
 obtain ⟨b,hb⟩ : ∃ q,secAt ds.vis 1 = q := ⟨_,rfl⟩
 have hbl : b.length = 512 := by rw [← hb];exact vis_sec hgd 1 (by omega)
 have KZ := fun (w1 : World) (hw : Below w.heap.size w w1) => size_any X D ds w1 (h.dsk.below hw)
 have KA := fun w1 => dataAt_any most w1 (by omega)
 have KR1 := fun (w1 : World) (hw : Below w.heap.size w w1) => read_any X D ds 1 w1 (h.dsk.below hw) (by omega) ho
 have hr1 : ds.vis[1]?.getD [] = b := hb
 rw [hr1] at KR1
 obtain ⟨n,hn⟩ : ∃ q,(u + 7) / 8 = q := ⟨_,rfl⟩
 have hnb : n ≤ 512 := by omega
 obtain ⟨p,hp⟩ : ∃ q,b.take n = q := ⟨_,rfl⟩
 have hpl : p.length = n := by rw [← hp,List.length_take];omega
 have KPS := fun w1 => sparse_all u p w1 (by rw [hpl,hn]) (by omega)
 have KPD := fun w1 => padded_any p w1 (by omega)
 have KP0 := fun w1 => padded_any [] w1 (by simp)
 rw [fullB_nil] at KP0
 have KN := fun w1 => spnew_any u w1 (by omega)
 unfold spv at KN
 rw [List.length_replicate] at KN
 have zF : (mk b).size = 512 := by rw [mk_size,hbl]
 have hsl := fun (w : World) => run_slice_string_h (P := Tryz.prog) (w := w) (t := 9) (s := mk b) Tryz.underlying9 .i64 (n : Int) (by omega) (by rw [zF];omega)
 have e1 : (mk b).extract 0 n = mk p := by
  have := ext_mk' (mk b) 0 n
  rw [Nat.zero_add,mk_data,List.drop_zero] at this
  rw [this,hp]
 rw [Int.toNat_natCast,e1] at hsl
 have hdiv : ((u : Int) + 7).tdiv 8 = (n : Int) := by rw [Int.tdiv_eq_ediv_of_nonneg (by omega)];omega
 have HKR2 := Lib.hid (fun (w1 : World) (i : Nat) (hi : i < most) (hw : Dsk w1 X D ds) => read_any X D ds (2 + i) w1 hw (by omega) ho)
 have HSEC := Lib.hid (fun (i : Nat) (hi : i < most) => vis_sec hgd (2 + i) (by omega))
 have hwn : wrap64 (n : Int) = (n : Int) := Go.IntWalk.wrap64_in _ (by omega)
 have hte := text_eq b (fullB p)
 have HRL := Lib.hid (show R = (if spareB u p = true ∧ b = fullB p then some (bitsB u p) else none : Option (List Bool)).bind fun T => (foldL ds.vis u most).bind fun st => if st.2 = T then some st else none by
  rw [← hR];unfold learnL mapL;rw [hb,hn,hp])
 have HPK := Lib.hid (fun hs => bits_pack u p (by rw [hpl,hn]) hs)
 obtain ⟨FB,hFB⟩ : ∃ q,mk b = q := ⟨_,rfl⟩
 obtain ⟨PB,hPB⟩ : ∃ q,mk p = q := ⟨_,rfl⟩
 obtain ⟨FP,hFP⟩ : ∃ q,mk (fullB p) = q := ⟨_,rfl⟩
 obtain ⟨Z,hZ⟩ : ∃ q,mk zeroS = q := ⟨_,rfl⟩
 obtain ⟨P0,hP0⟩ : ∃ q,mk (packB (List.replicate u false)) = q := ⟨_,rfl⟩
 rw [hFB] at KR1 zF hte
 rw [hFP] at hte
 simp only [hFB,hPB] at hsl
 simp only [hPB,hFP] at KPS KPD
 rw [hP0] at KN
 rw [show mk [] = (⟨#[]⟩ : ByteArray) from rfl,hZ] at KP0
 have HM := Lib.hid (And.intro hFB (And.intro hPB (And.intro hFP (And.intro hZ hP0))))
 have x0 := h.blk.cell 0
 have x5 := h.blk.cell 5
 simp at x0 x5
 have hSl := h.blk.lt
 have HST := Lib.hid h
 have HB := Lib.hid h.blk
 have HDS := Lib.hid h.dsk
 obtain ⟨N,hN⟩ : ∃ q,ds.L.length = q := ⟨_,rfl⟩
 rw [hN] at hu KZ hN4
 have HKR1 := Lib.hid KR1
 have HKZ := Lib.hid KZ
 have hmost : (most : Int) ≤ 256 := by omega
 have mixed := mixedT
 have hui : (u : Int) ≤ 4096 := by omega
 clear h ho hgd KR1 KZ hR hb hbl hr1 hn hp hpl e1 hFB hPB hFP hZ hP0 hN
 go_enter Tryz.func65,Tryz.ntmps65
 go_upto_region 1 with (fail)
 go_quiet ((first
  | (go_at_call 61;exact Calls.quiet_of_same (HKZ.out _ (bdN (Below.refl _ _) _)))
  | (go_at_call 62;exact Calls.quiet_of_same (KA _))))
 have hsub : ((N : Int) - ((most : Int) + 7)) = (u : Int) := by omega
 rw [hsub]
 have hb1 : Below w.heap.size w (w.drewN nq) := bdN (Below.refl _ _) _
 obtain ⟨W1,hW1⟩ : ∃ q,w.drewN nq = q := ⟨_,rfl⟩
 rw [hW1] at hb1
 simp only [hW1]
 have y0 := (hb1.cell (p := ⟨S,0,none⟩) hSl).trans x0
 have KR1 := HKR1.out W1 hb1
 have HB1 := Lib.hid hb1
 have hl1 : S < W1.heap.size := Nat.lt_of_lt_of_le hSl hb1.size
 clear hsub hW1 hb1 x0 x5 hu KA
 go_upto_region 7 with (first
  | (go_at_call 29;refine KR1.mono ?_;rintro e w1 ⟨rfl,hw⟩;obtain rfl := hw.symm;clear KR1))
 have HSLI := Lib.hid hsl
 have hsl1 := hsl W1
 have KPS1 := KPS W1
 try simp only [hwn]
 clear hsl KPS hdiv hwn
 cases hsp : spareB u p with
 | false =>
  have hRn : R = none := by rw [HRL.out,hsp];rfl
  rw [hsp,if_neg (by decide)] at KPS1
  subst hRn
  clear hsp
  go_wp2_with (first
   | (go_at_call 106;refine KPS1.mono ?_;rintro e w2 ⟨rfl,hb2⟩;have hB2 := (HB.out.below HB1.out).below hb2;have d2 := hB2.cell 2;have d3 := hB2.cell 3;have q2 := hB2.frozen 2;have q3 := hB2.frozen 3;simp at d2 d3;have hl2 := hB2.lt;have HB2 := Lib.hid hb2;clear hb2 hB2 KPS1))
  go_ret
  have hst2 := (HST.out.below HB1.out).below HB2.out
  have hg := grown_set2 w2 S 2 3 (.int .i64 0) (.string ⟨#[]⟩)
  have hst3 : Sto ((w2.setCell ⟨S,2,none⟩ (.int .i64 0)).setCell ⟨S,3,none⟩ (.string ⟨#[]⟩)) X S D Lg M ⟨ds,[],[],most,false⟩ := hst2.own hg (T := []) (off := false) (by
   have := (hst2.blk.set 2 (.int .i64 0)).set 3 (.string ⟨#[]⟩)
   have e : mk (packB []) = (⟨#[]⟩ : ByteArray) := by rw [show packB [] = [] from rfl];rfl
   simpa [stoCells,e] using this)
  exact ⟨hst3.dsk,(Mv.of_below _ (HB1.out.trans (HB2.out.mono HB1.out.size))).trans (Mv.of_grown hg (by simp)),rfl⟩
 | true =>
  rw [hsp,if_pos rfl] at KPS1
  go_upto_region 8 with (first
   | (go_at_call 106;refine KPS1.mono ?_;rintro e w2 ⟨rfl,hb2⟩;have hB2 := (HB.out.below HB1.out).below hb2;have d2 := hB2.cell 2;have d3 := hB2.cell 3;have q2 := hB2.frozen 2;have q3 := hB2.frozen 3;simp at d2 d3;have hl2 := hB2.lt;have HB2 := Lib.hid hb2;clear hb2 hB2 KPS1))
  have hst2 := (HST.out.below HB1.out).below HB2.out
  have hPK := HPK.out hsp
  have hst3 : Sto ((w2.setCell ⟨S,2,none⟩ (.int .i64 (u : Int))).setCell ⟨S,3,none⟩ (.string PB)) X S D Lg M ⟨ds,[],bitsB u p,most,false⟩ := hst2.own (grown_set2 w2 S 2 3 _ _) (T := bitsB u p) (off := false) (by
   have := (hst2.blk.set 2 (.int .i64 (u : Int))).set 3 (.string PB)
   simpa [stoCells,hPK,bitsB_length,HM.out.2.1] using this)
  have hmv : Mv (S :: M :: X) (S :: M :: X) w ((w2.setCell ⟨S,2,none⟩ (.int .i64 (u : Int))).setCell ⟨S,3,none⟩ (.string PB)) := (Mv.of_below _ (HB1.out.trans (HB2.out.mono HB1.out.size))).trans (Mv.of_grown (grown_set2 w2 S 2 3 _ _) (by simp))
  obtain ⟨T,hT⟩ : ∃ q,bitsB u p = q := ⟨_,rfl⟩
  obtain ⟨W3,hW3⟩ : ∃ q,(w2.setCell ⟨S,2,none⟩ (.int .i64 (u : Int))).setCell ⟨S,3,none⟩ (.string PB) = q := ⟨_,rfl⟩
  rw [hW3] at hst3 hmv ⊢
  rw [hT] at hst3 hPK
  have hTl : T.length = u := by rw [← hT,bitsB_length]
  have HS3 := Lib.hid (And.intro hst3 hmv)
  have HT := Lib.hid (And.intro hT (And.intro hTl hPK))
  have hsl3 := HSLI.out W3
  have KPD3 := KPD W3
  clear hW3 hst3 hmv hst2 y0 hl1 hsl1 d2 d3 q2 q3 hl2 KPD hT hTl hPK
  by_cases hbf : b = fullB p
  ·rw [beq_iff_eq.2 hbf] at hte
   have HRF := Lib.hid (show R = (foldL ds.vis u most).bind fun st => if st.2 = T then some st else none by rw [HRL.out,if_pos ⟨hsp,hbf⟩,Option.bind_some,HT.out.1])
   clear hsp hbf
   go_upto_region 10 with (first
    | (go_at_call 101;refine KPD3.mono ?_;rintro e w4 ⟨rfl,hb4⟩;have HB4 := Lib.hid hb4;have KN4 := KN w4;clear hb4 KPD3))
   have hst4 := HS3.out.1.below HB4.out
   have z5 := hst4.blk.cell 5
   simp at z5
   have zl := hst4.blk.lt
   have HST4 := Lib.hid hst4
   clear hst4 hsl3 KN
   go_wp2_with (first
    | (go_at_call 107;refine KN4.mono ?_;rintro e w5 ⟨rfl,hb5⟩;have hst5 := HST4.out.below hb5;have z5' := hst5.blk.cell 5;simp at z5';have zl' := hst5.blk.lt;have HB5 := Lib.hid hb5;have HST5 := Lib.hid hst5;clear hb5 hst5 KN4))
   have hB8 := Blk.new w5 #[.int .i64 (u : Int), .string P0] 104
   have hst6 := HST5.out.below (below_alloc w5 (.cells #[.int .i64 (u : Int), .string P0] 104))
   have hmv6 := (HS3.out.2.below (HB4.out.trans (HB5.out.mono HB4.out.size))).below (below_alloc w5 (.cells #[.int .i64 (u : Int), .string P0] 104))
   have hSH : S < w5.heap.size := HST5.out.blk.lt
   have hXH : ∀ x ∈ X,x < w5.heap.size := HST5.out.dsk.lt
   have h0H : 1 < w5.heap.size := HST5.out.pos
   obtain ⟨H8,hH8⟩ : ∃ q,w5.heap.size = q := ⟨_,rfl⟩
   rw [hH8] at hB8 hSH hXH h0H
   obtain ⟨W6,hW6⟩ : ∃ q,w5.alloc (.cells #[.int .i64 (u : Int), .string P0] 104) = q := ⟨_,rfl⟩
   simp only [hW6] at hB8 hst6 hmv6 ⊢
   try simp only [hH8]
   have HS6 := Lib.hid (And.intro hst6 (And.intro hmv6 hB8))
   have HSH := Lib.hid (And.intro hSH (And.intro (show H8 ∉ X from fun hx => Nat.lt_irrefl _ (hXH _ hx)) (And.intro h0H (show w.heap.size ≤ H8 from by rw [← hH8];exact Nat.le_trans HS3.out.2.size (Nat.le_trans HB4.out.size HB5.out.size)))))
   clear hB8 hst6 hmv6 hSH hXH h0H hH8 hW6 z5 zl z5' zl'
   go_loopw [73] (fun i wr => ∃ (k : Nat) (F : List FileM) (V : List Bool),k ≤ most ∧ i = .int .i64 k ∧ foldL ds.vis u k = some (F,V) ∧ Sto wr X S D Lg M ⟨ds,F,T,most,false⟩ ∧ Mv (S :: M :: X) (S :: M :: X) w wr ∧ Blk wr H8 #[.int .i64 (u : Int), .string (mk (packB V))] 104) (fun i _ => most - (intOf i).toNat)
   case atStart => exact ⟨0,[],_,Nat.zero_le _,rfl,rfl,HS6.out.1,HS6.out.2.1,by rw [HM.out.2.2.2.2];exact HS6.out.2.2⟩
   case round =>
    obtain ⟨k,F,V,hk,rfl,hf,hst,hmv,hB8⟩ := hrel
    obtain ⟨hVl,hFl,hFe⟩ := foldL_len _ _ _ _ _ hf
    have k0 : (0 : Int) ≤ (k : Int) := by omega
    by_cases hlt : k < most
    ·have KR := HKR2.out wr k hlt hst.dsk
     rw [show ((2 + k : Nat) : Int) = 2 + (k : Int) by push_cast;rfl] at KR
     obtain ⟨t,ht⟩ : ∃ q,secAt ds.vis (2 + k) = q := ⟨_,rfl⟩
     have hr2 : ds.vis[2 + k]?.getD [] = t := ht
     rw [hr2] at KR
     have htl : t.length = 512 := by rw [← ht];exact HSEC.out k hlt
     have hstep := show foldL ds.vis u (k + 1) = stepL ds.vis k (F,V) by rw [foldL,hf];rfl
     unfold stepL at hstep
     rw [ht] at hstep
     have hte2 := text_eq t zeroS
     rw [HM.out.2.2.2.1] at hte2
     obtain ⟨MT,hMT⟩ : ∃ q,mk t = q := ⟨_,rfl⟩
     rw [hMT] at KR hte2
     have x0 := hst.blk.cell 0
     simp at x0
     have HH := Lib.hid (And.intro hst (And.intro hmv hB8))
     have HF := Lib.hid (And.intro hf (And.intro hVl (And.intro hFl hFe)))
     have KP := KP0 wr
     have k1 : (k : Int) < (most : Int) := by omega
     have htb := hst.tb
     have hpos := hst.pos
     by_cases hz : t = zeroS
     ·rw [beq_iff_eq.2 hz] at hte2
      rw [if_pos hz] at hstep
      have HSTP := Lib.hid hstep
      clear hst hmv hB8 hf hVl hFl hFe ht hr2 hstep hMT hz htb hpos htl
      go_wp2_with (first
       | (go_at_call 29;refine KR.mono ?_;rintro e w1 ⟨rfl,hw⟩;obtain rfl := hw.symm;clear KR)
       | (go_at_call 101;refine KP.mono ?_;rintro e w7 ⟨rfl,hb7⟩;have HB7 := Lib.hid hb7;clear KP hb7))
      go_roundw
      case rel => exact ⟨k + 1,F,V,by omega,by go_num,HSTP.out,HH.out.1.below HB7.out,HH.out.2.1.below HB7.out,HH.out.2.2.below HB7.out⟩
      case measure => simp [intOf];omega
     ·rw [beq_eq_false_iff_ne.2 hz] at hte2
      rw [if_neg hz] at hstep
      have KPA := fun (w1 : World) (hb : Below wr.heap.size wr w1) => parse_any t w1 htl (htb.below hpos hb) (Nat.lt_of_lt_of_le hpos hb.size)
      rw [hMT] at KPA
      have HSTP := Lib.hid hstep
      clear hst hmv hB8 hf hVl hFl hFe ht hr2 hstep hMT hz htb hpos htl
      go_upto_region 18 with (first
       | (go_at_call 29;refine KR.mono ?_;rintro e w1 ⟨rfl,hw⟩;obtain rfl := hw.symm;clear KR)
       | (go_at_call 101;refine KP.mono ?_;rintro e w7 ⟨rfl,hb7⟩;have HB7 := Lib.hid hb7;have KPA7 := KPA w7 hb7;clear KP hb7 KPA))
      unfold ParseP at KPA7
      obtain ⟨ok,hokk⟩ : ∃ q,(parseP t).isSome = q := ⟨_,rfl⟩
      rw [hokk] at KPA7
      have HOK := Lib.hid hokk
      clear hokk
      go_upto_region 19 with (first
       | (go_at_call 108;refine KPA7.mono ?_;rintro e w8 ⟨nm',sz',A',n',c',rfl,hb8,hnz,hok⟩;have HP8 := Lib.hid (And.intro hb8 (And.intro hnz hok));clear hb8 hnz hok KPA7))
      have hb81 : Below wr.heap.size wr w8 := HB7.out.trans (HP8.out.1.mono HB7.out.size)
      have hba := below_alloc w8 (.cells #[.int .i64 0, .int .i64 sz', .slice A' n' c'] 97)
      have hB14 := Blk.new w8 #[.int .i64 0, .int .i64 sz', .slice A' n' c'] 97
      have hst9 := (HH.out.1.below hb81).below hba
      have hB89 := (HH.out.2.2.below hb81).below hba
      have hmv9 := (HH.out.2.1.below hb81).below hba
      have hH8l : H8 < w8.heap.size := (HH.out.2.2.below hb81).lt
      have hX14 : w8.heap.size ∉ X := fun hx => Nat.lt_irrefl _ ((HH.out.1.below hb81).dsk.lt _ hx)
      have hrA : ∀ nm sz l,parseP t = some (nm,sz,l) → nm' = mk nm ∧ sz' = ((sz : Nat) : Int) ∧ n' = l.length ∧ (w8.alloc (.cells #[.int .i64 0, .int .i64 sz', .slice A' n' c'] 97)).ownsRow w7.heap.size 172 2 (.slice A' n' c') n' (ecells l) := fun nm sz l h => by
       obtain ⟨a1,a2,a3,a4⟩ := HP8.out.2.2 nm sz l h
       exact ⟨a1,a2,a3,World.ownsRow.alloc a4 _⟩
      have hw7 : ∀ x ∈ X,x < w7.heap.size := (HH.out.1.below HB7.out).dsk.lt
      obtain ⟨H14,hH14⟩ : ∃ q,w8.heap.size = q := ⟨_,rfl⟩
      obtain ⟨W9,hW9⟩ : ∃ q,w8.alloc (.cells #[.int .i64 0, .int .i64 sz', .slice A' n' c'] 97) = q := ⟨_,rfl⟩
      rw [hH14] at hB14 hH8l hX14
      simp only [hW9] at hB14 hst9 hB89 hmv9 hrA ⊢
      try simp only [hH14]
      obtain ⟨nb,hnb'⟩ : ∃ q : Bs,nm' = mk q := ⟨nm'.data.toList,(mk_list nm').symm⟩
      obtain ⟨ad,hFM,hEX⟩ := hst9.map
      have hlk := hFM.look nb (by have := HP8.out.2.1;rw [hnb',mk_size] at this;unfold maxLen;omega)
      rw [← hnb'] at hlk
      obtain ⟨a,b2,q1,q2,q3,hv⟩ : ∃ a b2 q1 q2 q3,((fileOf F nb).map (inoV ad)).getD inoZ = .agg #[.int .i64 a, .int .i64 b2, .slice q1 q2 q3] := by
       cases fileOf F nb with
       | none => exact ⟨0,0,none,0,0,rfl⟩
       | some f => exact ⟨f.entry,f.size,_,_,_,rfl⟩
      obtain ⟨tw,htw⟩ : ∃ q,(fileOf F nb).isSome = q := ⟨_,rfl⟩
      have hlk2 : (Instr.lookup 105 (.map (some M)) (.string nm') true).run Tryz.prog W9 = .ok (.tuple #[.agg #[.int .i64 a, .int .i64 b2, .slice q1 q2 q3], .bool tw]) W9 := by rw [← hv, ← htw];exact hlk
      have x4 := hst9.blk.cell 4
      simp at x4
      have xl := hst9.blk.lt
      have hgeX : ∀ x ∈ X,x < w7.heap.size := hw7
      have H9 := Lib.hid (And.intro hst9 (And.intro hmv9 (And.intro hB89 (And.intro hB14 (And.intro hrA (And.intro hH8l (And.intro hX14 hgeX)))))))
      have HNB := Lib.hid (And.intro hnb' htw)
      clear hb81 hba hst9 hmv9 hB89 hB14 hrA hH8l hX14 hH14 hW9 hnb' hFM hEX hlk hv htw hw7 hgeX
      go_upto_region 20 with (fail)
      have hba := below_alloc W9 (.cells #[.int .i64 a, .int .i64 b2, .slice q1 q2 q3] 97)
      have h10 := H9.out.1.below hba
      have hm10 := H9.out.2.1.below hba
      have h810 := H9.out.2.2.1.below hba
      have h1410 := H9.out.2.2.2.1.below hba
      have hrB : ∀ nm sz l,parseP t = some (nm,sz,l) → nm' = mk nm ∧ sz' = ((sz : Nat) : Int) ∧ n' = l.length ∧ (W9.alloc (.cells #[.int .i64 a, .int .i64 b2, .slice q1 q2 q3] 97)).ownsRow w7.heap.size 172 2 (.slice A' n' c') n' (ecells l) := fun nm sz l h => by
       obtain ⟨a1,a2,a3,a4⟩ := H9.out.2.2.2.2.1 nm sz l h
       exact ⟨a1,a2,a3,World.ownsRow.alloc a4 _⟩
      obtain ⟨W10,hW10⟩ : ∃ q,W9.alloc (.cells #[.int .i64 a, .int .i64 b2, .slice q1 q2 q3] 97) = q := ⟨_,rfl⟩
      simp only [hW10] at h10 hm10 h810 h1410 hrB ⊢
      have H10 := Lib.hid (And.intro h10 (And.intro hm10 (And.intro h810 (And.intro h1410 hrB))))
      clear hba h10 hm10 h810 h1410 hrB hW10 hlk2 x4 xl
      cases ok with
      | false =>
       have hRn : R = none := by
        have h1 := HSTP.out
        have h2 : parseP t = none := by have := HOK.out;revert this;cases parseP t <;> simp
        rw [h2] at h1
        rw [HRF.out,foldL_none _ _ _ h1 most (by omega)];rfl
       subst hRn
       go_wp2
       go_ret
       exact ⟨H10.out.1.dsk,H10.out.2.1,rfl⟩
      | true =>
       obtain ⟨nm,sz,l,hpp⟩ : ∃ nm sz l,parseP t = some (nm,sz,l) := by
        have := HOK.out;revert this;cases hq : parseP t with
        | none => simp
        | some x => intro _;exact ⟨x.1,x.2.1,x.2.2,rfl⟩
       have hstep := HSTP.out
       rw [hpp] at hstep
       simp only at hstep
       obtain ⟨rnm,rsz,rn,rrow⟩ := H10.out.2.2.2.2 nm sz l hpp
       have hnbn : nb = nm := by
        have h1 := HNB.out.1
        rw [rnm] at h1
        have h2 := congrArg (fun x : ByteArray => x.data.toList) h1
        simp only [mk_data] at h2
        exact h2.symm
       cases tw with
       | true =>
        have hRn : R = none := by
         rw [← hnbn,if_pos HNB.out.2] at hstep
         rw [HRF.out,foldL_none _ _ _ hstep most (by omega)];rfl
        subst hRn
        clear hstep rnm rsz rn rrow hnbn hpp
        go_wp2
        go_ret
        exact ⟨H10.out.1.dsk,H10.out.2.1,rfl⟩
       | false =>
        have hnf : fileOf F nm = none := by have := HNB.out.2;rw [hnbn] at this;simpa using this
        rw [hnf,if_neg (by simp)] at hstep
        subst rsz
        subst rn
        obtain ⟨pr1,pr2,pr3,pr4,pr5,pr6⟩ := parse_some hpp
        have hnm80 : nm.length ≤ 80 := by
         unfold goodF at pr2
         simp only [Bool.and_eq_true,decide_eq_true_eq] at pr2
         exact pr2.1.2
        have HR := Lib.hid (And.intro rnm (And.intro rrow (And.intro hnf (And.intro hnm80 (And.intro pr3 (And.intro pr4 pr6))))))
        have HSTP2 := Lib.hid hstep
        have z0 := H10.out.2.2.2.1.cell 0
        have zf := H10.out.2.2.2.1.frozen 0
        have zl := H10.out.2.2.2.1.lt
        simp at z0
        clear hstep rnm rrow hnf hnm80 pr1 pr2 pr3 pr4 pr5 pr6 hnbn hpp
        go_upto_region 23 with (fail)
        have hg11 := grown_set W10 H14 0 (.int .i64 (k : Int))
        have hX14 := H9.out.2.2.2.2.2.2.1
        have h14n : H8 < H14 := H9.out.2.2.2.2.2.1
        have h11 := H10.out.1.away2 hg11 H10.out.2.2.2.1 (by decide) (by decide) (by decide) hX14 (Nat.lt_trans HSH.out.2.2.1 h14n)
        have hm11 := H10.out.2.1.hideM hg11 (by have := HSH.out.2.2.2;omega)
        have h811 := H10.out.2.2.1.grown hg11 (by simp;omega)
        have h1411 := H10.out.2.2.2.1.set 0 (.int .i64 (k : Int))
        have hr11 := row_block HR.out.2.1 (w' := W10.setCell ⟨H14,0,none⟩ (.int .i64 (k : Int))) (fun g hg => Below.heap_setCell W10 ⟨H14,0,none⟩ _ g (fun e => own_ne_blk HR.out.2.1 H10.out.2.2.2.1 (by decide) (by have h3 : g = H14 := e;rw [← h3];exact hg)))
        obtain ⟨W11,hW11⟩ : ∃ q,W10.setCell ⟨H14,0,none⟩ (.int .i64 (k : Int)) = q := ⟨_,rfl⟩
        rw [hW11] at h11 hm11 h811 h1411 hr11 ⊢
        have KCL := claim_any V l A' c' W11 (by have := HF.out.2.1;omega) (Lies.of_row hr11) (fun x hx => by have := HR.out.2.2.2.2.2.2 x hx;omega) (by have := HR.out.2.2.2.2.2.1;omega)
        unfold spv at KCL
        rw [HF.out.2.1] at KCL
        have H11 := Lib.hid (And.intro h11 (And.intro hm11 (And.intro h811 (And.intro h1411 hr11))))
        have y0 := h811.cell 0
        have y1 := h811.cell 1
        have yl := h811.lt
        have v2 := h1411.cell 2
        have vl := h1411.lt
        simp at y0 y1 v2
        clear hg11 hX14 h14n h11 hm11 h811 h1411 hr11 hW11 z0 zf zl
        cases htn : turnS true V l with
        | none =>
         have hRn : R = none := by
          have hstep := HSTP2.out
          rw [htn] at hstep
          rw [HRF.out,foldL_none _ _ _ hstep most (by omega)];rfl
         subst hRn
         rw [htn] at KCL
         unfold turnV at KCL
         clear htn
         go_wp2_with (first
          | (go_at_call 97;refine KCL.mono ?_;rintro e w12 ⟨rfl,hb12⟩;have h812 := H11.out.2.2.1.below hb12;have y0 := h812.cell 0;have y1 := h812.cell 1;have yf0 := h812.frozen 0;have yf1 := h812.frozen 1;have yl := h812.lt;simp at y0 y1;have H12 := Lib.hid (And.intro hb12 h812);clear hb12 h812 KCL))
         go_ret
         have hg13 := grown_set2 w12 H8 0 1 (.int .i64 0) (.string ⟨#[]⟩)
         exact ⟨((H11.out.1.below H12.out.1).away2 hg13 H12.out.2 (by decide) (by decide) (by decide) HSH.out.2.1 HSH.out.2.2.1).dsk,(H11.out.2.1.below H12.out.1).hideM hg13 HSH.out.2.2.2,rfl⟩
        | some V2 =>
         have hV2 := (turnS_len _ _ _ _ htn).trans HF.out.2.1
         have hstep := HSTP2.out
         rw [htn] at hstep KCL
         simp only [turnV,spv,hV2] at KCL
         have HV2 := Lib.hid (show foldL ds.vis u (k + 1) = some (F ++ [⟨nm,k,sz,l⟩],V2) ∧ V2.length = u from ⟨hstep,hV2⟩)
         clear hstep hV2 htn
         go_upto_region 24 with (first
          | (go_at_call 97;refine KCL.mono ?_;rintro e w12 ⟨rfl,hb12⟩;have h812 := H11.out.2.2.1.below hb12;have y0 := h812.cell 0;have y1 := h812.cell 1;have yf0 := h812.frozen 0;have yf1 := h812.frozen 1;have yl := h812.lt;simp at y0 y1;have H12 := Lib.hid (And.intro hb12 h812);clear hb12 h812 KCL))
         have hg13 := grown_set2 w12 H8 0 1 (.int .i64 (u : Int)) (.string (mk (packB V2)))
         have hst13 := (H11.out.1.below H12.out.1).away2 hg13 H12.out.2 (by decide) (by decide) (by decide) HSH.out.2.1 HSH.out.2.2.1
         have hmv13 := (H11.out.2.1.below H12.out.1).hideM hg13 HSH.out.2.2.2
         have h813 := (H12.out.2.set 0 (.int .i64 (u : Int))).set 1 (.string (mk (packB V2)))
         have h1413 := (H11.out.2.2.2.1.below H12.out.1).grown hg13 (by have := H9.out.2.2.2.2.2.1;simp;omega)
         have hr12 := row_block H11.out.2.2.2.2 (w' := w12) (fun g hg => H12.out.1.block g (H11.out.2.2.2.2.lt g hg).2)
         have hr13 := row_block hr12 (w' := (w12.setCell ⟨H8,0,none⟩ (.int .i64 (u : Int))).setCell ⟨H8,1,none⟩ (.string (mk (packB V2)))) (fun g hg => hg13.block g (hr12.lt g hg).2 (fun e => own_ne_blk hr12 H12.out.2 (by decide) (by cases e;exact hg)))
         obtain ⟨W13,hW13⟩ : ∃ q,(w12.setCell ⟨H8,0,none⟩ (.int .i64 (u : Int))).setCell ⟨H8,1,none⟩ (.string (mk (packB V2))) = q := ⟨_,rfl⟩
         rw [hW13] at hst13 hmv13 h813 h1413 hr13 ⊢
         obtain ⟨ad2,hFM,hEX⟩ := hst13.map
         have hFM' : FM W13.drew M ad2 F := hFM
         obtain ⟨W14,hrun,hFM14,hg14'⟩ := hFM'.store ⟨nm,k,sz,l⟩ A' c' (by have := HF.out.2.2.1;unfold maxLen;omega) (by have := HR.out.2.2.2.1;show nm.length ≤ maxLen;unfold maxLen;omega)
         simp only at hrun
         rw [← HR.out.1] at hrun
         have hg14 : W13.grownBy W14 (some M) := ⟨hg14'.os,hg14'.tape,hg14'.output,hg14'.size,hg14'.block⟩
         have hput : putF F ⟨nm,k,sz,l⟩ = F ++ [⟨nm,k,sz,l⟩] := by unfold putF;rw [show fileOf F nm = none from HR.out.2.2.1];rfl
         have hne6 : ∀ g,some M = some g → ∀ c fr,W13.heap[g]? ≠ some (.cells c 172 fr) := fun g e c fr hc => by cases e;exact (hFM.not_cells hc) rfl
         have hA5 := Lies.of_row hr13
         have hAT5 := Typed.of_row hr13
         have hE14 := (hEX.grown hg14 hne6).put (f := ⟨nm,k,sz,l⟩) (A := A') (c := c') (fun h0 => by
          obtain ⟨g,o,e,hl,hc⟩ := hA5 h0
          obtain ⟨cs,fr,hh⟩ := hAT5 _ e
          have := hg14.block g hl (fun e2 => hne6 g e2.symm cs fr hh)
          exact ⟨g,o,e,Nat.lt_of_lt_of_le hl hg14.size,fun j u hu => (World.cell?_of_block (a := ⟨g,o + j,none⟩) this).trans (hc j u hu)⟩) (fun a ha => by
          obtain ⟨cs,fr,hh⟩ := hAT5 a ha
          exact ⟨cs,fr,(hg14.block _ (Array.getElem?_eq_some_iff.1 hh).1 (fun e2 => hne6 _ e2.symm cs fr hh)).trans hh⟩) (fun a ha hx => by
          have h1 := own_ge hr13 a ha
          have h2 := H9.out.2.2.2.2.2.2.2 _ hx
          omega)
         have hst14 := hst13.store hg14 hFM14 hE14
         rw [hput] at hst14
         have hmv14 := hmv13.trans (Mv.of_grown hg14 (by simp))
         have h814 := h813.grown hg14 (fun e => hFM.not_cells h813 (by cases e;rfl))
         have h1414 := h1413.grown hg14 (fun e => hFM.not_cells h1413 (by cases e;rfl))
         have x4 := hst13.blk.cell 4
         simp at x4
         have x44 := (World.cell?_of_block (a := ⟨S,4,none⟩) (hg14.block S hst13.blk.lt (fun e => hst13.ne.2.1 (by cases e;rfl)))).trans x4
         have H14e := Lib.hid (And.intro hst14 (And.intro hmv14 h814))
         have HRUN := Lib.hid hrun
         have HS13 := Lib.hid (And.intro x4 (And.intro h1413 (And.intro x44 h1414)))
         clear hg13 hst13 hmv13 h813 h1413 hr12 hr13 hW13 hFM hFM' hEX hFM14 hg14 hg14' hput hne6 hA5 hAT5 hE14 hst14 hmv14 h814 h1414 x4 x44 y0 y1 yf0 yf1 yl v2 vl hrun
         go_upto_region 26 with (fail)
         refine wp_region_held (S := fun w' => w'.cell? ⟨S,4,none⟩ = some (.map (some M)) ∧ Blk w' H14 #[.int .i64 (k : Int), .int .i64 (sz : Int), .slice A' l.length c'] 97) mixed ?_
         change wpAnyH _ _ _ _ _ _ _ _ W13.drew
         have hS8 : W13.drew.cell? ⟨S,4,none⟩ = some (.map (some M)) ∧ Blk W13.drew H14 #[.int .i64 (k : Int), .int .i64 (sz : Int), .slice A' l.length c'] 97 := ⟨HS13.out.1,HS13.out.2.1⟩
         have hS9 : W14.cell? ⟨S,4,none⟩ = some (.map (some M)) ∧ Blk W14 H14 #[.int .i64 (k : Int), .int .i64 (sz : Int), .slice A' l.length c'] 97 := ⟨HS13.out.2.2.1,HS13.out.2.2.2⟩
         refine tkQ 0 (.pointer (some ⟨S,0,none⟩)) rfl hS8 ?_
         try go_simp
         refine tkQ 1 (.pointer (some ⟨S,0,none⟩)) rfl hS8 ?_
         try go_simp
         refine tkQ 2 (.pointer (some ⟨S,4,none⟩)) rfl hS8 ?_
         try go_simp
         refine tkH 3 (.map (some M)) rfl hS8 (fun w' hS => ?_) ?_
         ·have q0 := hS.1;go_simp
         try go_simp
         refine tkQ 4 (.string nm') rfl hS8 ?_
         try go_simp
         refine tkH 5 (.agg #[.int .i64 (k : Int), .int .i64 (sz : Int), .slice A' l.length c']) rfl hS8 (fun w' hS => ?_) ?_
         ·have q0 := hS.2.cell 0;have q1 := hS.2.cell 1;have q2 := hS.2.cell 2;simp at q0 q1 q2;go_simp
         try go_simp
         refine alH 6 ?_
         refine wpOp_mapUpdate rfl rfl 105 (.tmp 126) (.tmp 127) (.tmp 128) rfl _ _ _ (by rfl) (by rfl) (by rfl) HRUN.out ?_
         refine ⟨hS9, ?_⟩
         refine wpAnyH_done (by kernel_rfl) ?_ _
         clear hS8 hS9
         go_wp2
         go_roundw
         case rel => exact ⟨k + 1,F ++ [⟨nm,k,sz,l⟩],V2,by omega,by go_num,HV2.out.1,H14e.out.1,H14e.out.2.1,H14e.out.2.2⟩
         case measure => simp [intOf];omega
    ·obtain rfl : k = most := by omega
     have y2 := hst.blk.cell 2
     have y3 := hst.blk.cell 3
     have hTt : mk (packB T) = PB := by rw [HT.out.2.2];exact HM.out.2.1
     simp only [stoCells,hTt,HT.out.2.1] at y2 y3
     have e0 := hB8.cell 0
     have e1 := hB8.cell 1
     simp at y2 y3 e0 e1
     have hteV := text_eq (packB V) (packB T)
     rw [hTt] at hteV
     have HH := Lib.hid (And.intro hst hmv)
     have HVl := Lib.hid (And.intro hVl hf)
     by_cases hVT : V = T
     ·subst hVT
      rw [beq_self_eq_true] at hteV
      have hRs : R = some (F,V) := by rw [HRF.out,hf,Option.bind_some,if_pos rfl]
      subst hRs
      rw [hTt] at e1 hteV
      clear hst hmv hB8 hVl hf hFl hFe hTt
      go_upto_region 28 with (fail)
      go_quiet (fail)
      go_wp2
      go_ret
      have hs9 := HH.out.1.below (bdN (Below.refl _ _) nq)
      exact ⟨hs9.dsk,HH.out.2.below (bdN (Below.refl _ _) _),rfl,hs9⟩
     ·have hne : packB V ≠ packB T := fun e => hVT (bits_inj e (by rw [hVl,HT.out.2.1]))
      rw [beq_eq_false_iff_ne.2 hne] at hteV
      have hRn : R = none := by rw [HRF.out,hf,Option.bind_some,if_neg hVT]
      subst hRn
      obtain ⟨PV,hPV⟩ : ∃ q,mk (packB V) = q := ⟨_,rfl⟩
      rw [hPV] at e1 hteV
      clear hst hmv hB8 hVl hf hFl hFe hTt hne hVT hPV
      go_upto_region 28 with (fail)
      go_quiet (fail)
      go_wp2
      go_ret
      have hs9 := HH.out.1.below (bdN (Below.refl _ _) nq)
      exact ⟨hs9.dsk,HH.out.2.below (bdN (Below.refl _ _) _),rfl⟩
  ·rw [beq_eq_false_iff_ne.2 hbf] at hte
   have hRn : R = none := by rw [HRL.out,if_neg (fun hh => hbf hh.2)];rfl
   subst hRn
   clear hsp hbf
   go_wp2_with (first
    | (go_at_call 101;refine KPD3.mono ?_;rintro e w4 ⟨rfl,hb4⟩;have HB4 := Lib.hid hb4;clear hb4 KPD3))
   go_ret
   exact ⟨(HS3.out.1.below HB4.out).dsk,HS3.out.2.below HB4.out,rfl⟩
open Go.RowKit Go.Maps
def filesH (h : Bs) : Nat := byteAt h 4 * 256 + byteAt h 5
def headOk (ds : DS) : Bool := decide (1 ≤ filesH (secAt ds.vis 0)) && (decide (filesH (secAt ds.vis 0) ≤ 256) && (decide (filesH (secAt ds.vis 0) + 8 ≤ ds.L.length) && (secAt ds.vis 0 == headB ds.L.length (filesH (secAt ds.vis 0)))))
def logR (ds : DS) (files : Nat) : Nat × DS := DS.run (openC (saidB ds.vis (2 + files) 5) (2 + files)) ds
def mountM (ds : DS) : Nat × DS × Option (List FileM × List Bool) :=
 if headOk ds = false then (2,ds,none) else
  if (logR ds (filesH (secAt ds.vis 0))).1 ≠ 0 then (7,(logR ds (filesH (secAt ds.vis 0))).2,none) else
   match learnL (logR ds (filesH (secAt ds.vis 0))).2.vis (ds.L.length - (filesH (secAt ds.vis 0) + 7)) (filesH (secAt ds.vis 0)) with
   | none => (14,(logR ds (filesH (secAt ds.vis 0))).2,none)
   | some st => (0,(logR ds (filesH (secAt ds.vis 0))).2,some st)
def MountP (X : List Nat) (D : Nat) (files : Nat) (R : Nat × DS × Option (List FileM × List Bool)) (w : World) (e : Ending) (w' : World) : Prop :=
 ∃ X',Dsk w' X' D R.2.1 ∧ Mv X X' w w' ∧ match R.2.2 with
 | some (F,T) => ∃ S Lg M,e = .returned (.tuple #[.pointer (some ⟨S,0,none⟩), .int .i64 0]) ∧ Sto w' X' S D Lg M ⟨R.2.1,F,T,files,false⟩ ∧ w.heap.size ≤ S ∧ w.heap.size ≤ M ∧ w.heap.size ≤ Lg
 | none => e = .returned (.tuple #[.pointer none, .int .i64 ((R.1 : Nat) : Int)])
theorem Mv.hide2 {X X' : List Nat} {S M : Nat} {w w4 w5 : World} (h : Mv X X' w w4) (k : Mv (S :: M :: X') (S :: M :: X') w4 w5) (hS : w.heap.size ≤ S) (hM : w.heap.size ≤ M) : Mv X X' w w5 := by
 refine ⟨⟨k.frm.os.trans h.frm.os,k.frm.tape.trans h.frm.tape,k.frm.output.trans h.frm.output,Nat.le_trans h.size k.size,fun b hb hx => ?_⟩,h.sub⟩
 refine (k.frm.block b (Nat.lt_of_lt_of_le hb h.size) (fun hm => ?_)).trans (h.frm.block b hb hx)
 rcases List.mem_cons.1 hm with rfl | hm
 ·omega
 ·rcases List.mem_cons.1 hm with rfl | hm
  ·omega
  ·exact h.apart hx hb hm
theorem run_off (l : List Cmd) : ∀ d,d.off = false → (DS.run l d).1 = 0 → (DS.run l d).2.off = false := by
 induction l with
 | nil => intro d h _;exact h
 | cons c l ih =>
  intro d h h0
  have hst : ∀ d : DS,d.step.1 = 0 → d.step.2.off = false := fun d h => by
   unfold DS.step at h ⊢
   split at h
   ·cases h
   ·rename_i ho
    rw [if_neg ho]
    split at h
    ·simpa using ho
    ·split at h
     ·cases h
     ·rename_i hn
      rw [if_neg hn]
  have hc : (d.cmd c).1 = 0 → (d.cmd c).2.off = false := fun h => by
   cases c with
   | wr i b => change (d.write i b).1 = 0 at h
               show (d.write i b).2.off = false
               unfold DS.write at h ⊢; split at h
               ·rename_i h1; rw [if_pos h1]; exact hst d h1
               ·rename_i h1; exact absurd h h1
   | sy => change d.sync.1 = 0 at h
           show d.sync.2.off = false
           unfold DS.sync at h ⊢; split at h
           ·rename_i h1; rw [if_pos h1]; exact hst d h1
           ·rename_i h1; exact absurd h h1
  rw [DS.run] at h0 ⊢
  split at h0
  ·rename_i h1
   rw [if_pos h1]
   exact ih _ (hc h1) h0
  ·rename_i h1
   exact absurd h0 h1
set_option maxRecDepth 100000 in
set_option maxHeartbeats 4000000 in
theorem mount_any (X : List Nat) (D : Nat) (ds : DS) (w : World) (h : Dsk w X D ds) (ho : ds.off = false) (hL : 1 ≤ ds.L.length) (hS : ds.S.length ≤ 990000) (hT : TB w) (hw : 1 < w.heap.size) (hX0 : 1 ∉ X) :
  Calls Tryz.prog 23 #[.pointer (some ⟨D,0,none⟩)] w (MountP X D (filesH (secAt ds.vis 0)) (mountM ds) w) := by
 obtain ⟨R,hR⟩ : ∃ q,mountM ds = q := ⟨_,rfl⟩
 rw [hR]
 unfold mountM at hR
 have hgd : DGood ds := h.good
 have hN4 : ds.L.length ≤ 4096 := hgd.small
 have KR1 := read_any X D ds 0 w h (by omega) ho
 have hr1 : ds.vis[0]?.getD [] = secAt ds.vis 0 := rfl
 rw [hr1] at KR1
 have hHl : (secAt ds.vis 0).length = 512 := vis_sec hgd 0 (by omega)
 obtain ⟨hd,hhd⟩ : ∃ q,secAt ds.vis 0 = q := ⟨_,rfl⟩
 rw [hhd] at KR1 hHl hR ⊢
 have hok : headOk ds = (decide (1 ≤ filesH hd) && (decide (filesH hd ≤ 256) && (decide (filesH hd + 8 ≤ ds.L.length) && (hd == headB ds.L.length (filesH hd))))) := by unfold headOk;rw [hhd]
 have q1 : byteAt hd 4 < 256 := byteAt_lt _ _
 have q2 : byteAt hd 5 < 256 := byteAt_lt _ _
 obtain ⟨f,hf⟩ : ∃ q,filesH hd = q := ⟨_,rfl⟩
 have hhb : byteAt hd 4 * 256 + byteAt hd 5 = f := hf
 rw [hf] at hR hok ⊢
 have KZ := fun (w1 : World) (hw : Below w.heap.size w w1) => size_any X D ds w1 (h.below hw)
 have KA := fun w1 => dataAt_any f w1 (by omega)
 have KH := fun w1 => head_any ds.L.length f w1 (by omega) (by omega)
 have KO := fun (hf8 : f + 8 ≤ ds.L.length) (w1 : World) (hb : Below w.heap.size w w1) => open_any X D ds (2 + f) 5 w1 (h.below hb) (by omega) (by omega) (by omega) ho hS (hT.below hw hb) (Nat.lt_of_lt_of_le hw hb.size)
 unfold OpenP at KO
 obtain ⟨r,hr⟩ : ∃ q,logR ds f = q := ⟨_,rfl⟩
 have hr0 : DS.run (openC (saidB ds.vis (2 + f) 5) (2 + f)) ds = r := hr
 simp only [hr0] at KO
 rw [hr] at hR
 have hrl : r.2.L.length = ds.L.length := by rw [← hr];exact (run_len _ _).1
 have hro : r.1 = 0 → r.2.off = false := by rw [← hr];exact run_off _ _ ho
 have KL := fun (hf1 : 1 ≤ f) (hf2 : f ≤ 256) (hf8 : f + 8 ≤ ds.L.length) (h0 : r.1 = 0) (X1 : List Nat) (S Lg M : Nat) (w1 : World) (hs : Sto w1 X1 S D Lg M ⟨r.2,[],[],f,false⟩) => learn_any X1 S D Lg M r.2 f (ds.L.length - (f + 7)) w1 hs (hro h0) ⟨hf1,hf2⟩ (by rw [hrl];omega) (by omega) (by omega)
 have hte := text_eq hd (headB ds.L.length f)
 obtain ⟨HS,hHS⟩ : ∃ q,mk hd = q := ⟨_,rfl⟩
 rw [hHS] at KR1 hte
 obtain ⟨HX,hHX⟩ : ∃ q,mk (headB ds.L.length f) = q := ⟨_,rfl⟩
 simp only [hHX] at KH
 rw [hHX] at hte
 obtain ⟨ja,jb⟩ := at_mkH hd HS hHS 4 (by omega)
 obtain ⟨jc,jd⟩ := at_mkH hd HS hHS 5 (by omega)
 have zH : HS.size = 512 := by rw [← hHS,mk_size,hHl]
 obtain ⟨a1,ha1⟩ : ∃ q,byteAt hd 4 = q := ⟨_,rfl⟩
 obtain ⟨a2,ha2⟩ : ∃ q,byteAt hd 5 = q := ⟨_,rfl⟩
 rw [ha1] at jb hhb q1
 rw [ha2] at jd hhb q2
 have hfb : f ≤ 65535 := by omega
 have hfi : (f : Int) ≤ 65535 := by omega
 have q3 : (0 : Int) ≤ (a1 : Int) ∧ (a1 : Int) < 256 := by omega
 have q4 : (0 : Int) ≤ (a2 : Int) ∧ (a2 : Int) < 256 := by omega
 obtain ⟨N,hN⟩ : ∃ q,ds.L.length = q := ⟨_,rfl⟩
 have hor := or_i64 a1 a2 (by omega) q2
 have w4 : wrap64 (a2 : Int) = (a2 : Int) := word64 q4.1 q4.2 (by decide)
 rw [w4,hhb] at hor
 have w3 : wrap64 (a1 : Int) = (a1 : Int) := word64 q3.1 q3.2 (by decide)
 have w7 : IntKind.i64.wrap (a1 : Int) = (a1 : Int) := by rw [Go.IntWalk.i64_left];exact w3
 have w8 : IntKind.i64.wrap (a2 : Int) = (a2 : Int) := by rw [Go.IntWalk.i64_left];exact w4
 have w5 : IntKind.i64.wrap ((a1 : Int) * 256) = (a1 : Int) * 256 := word256 q3.1 q3.2
 have HD := Lib.hid h
 have HT := Lib.hid (And.intro hT (And.intro hw hX0))
 have HLT := Lib.hid h.lt
 simp only [hN] at KZ KH KO KL hR hok hte
 have HKZ := Lib.hid KZ
 have HKO := Lib.hid KO
 have HKL := Lib.hid KL
 have HRR := Lib.hid hR
 have HOK := Lib.hid hok
 have HRO := Lib.hid (And.intro hro hrl)
 have mixed := mixedT
 clear h ho hL hS hT hw hX0 hr1 KZ KO KL hHl hHS ha1 ha2 hhb hN hR hok hf hr hr0 hrl hro hhd hN4 hgd hHX
 go_enter Tryz.func23,Tryz.ntmps23
 go_upto_region 6 with (first | (go_at_call 29;refine KR1.mono ?_;rintro e w1 ⟨rfl,hw⟩;obtain rfl := hw.symm;clear KR1))
 refine wp_region_held (S := fun _ => True) mixed ?_
 change wpAnyH _ _ _ _ _ _ _ _ w.drew
 have hb0 : Below w.heap.size w w.drew := (Below.refl _ _).drew
 obtain ⟨W0,hW0⟩ : ∃ q,w.drew = q := ⟨_,rfl⟩
 rw [hW0] at hb0 ⊢
 clear hW0
 refine tkQ 0 (.string HS) rfl trivial ?_
 try go_simp
 refine tkQ 1 (.int .u8 (a1 : Int)) rfl trivial ?_
 try go_simp
 refine tkQ 2 (.int .i64 (a1 : Int)) rfl trivial ?_
 try go_simp
 refine tkQ 3 (.int .i64 ((a1 : Int) * 256)) rfl trivial ?_
 try go_simp
 refine tkQ 4 (.string HS) rfl trivial ?_
 try go_simp
 refine tkQ 5 (.int .u8 (a2 : Int)) rfl trivial ?_
 try go_simp
 refine tkQ 6 (.int .i64 (a2 : Int)) rfl trivial ?_
 try go_simp
 refine tkQ 7 (.int .i64 (f : Int)) rfl trivial ?_
 try go_simp
 refine tkQ 8 (.int .i64 (f : Int)) rfl trivial ?_
 try go_simp
 refine wpAnyH_done (by kernel_rfl) ?_ _
 have HB0 := Lib.hid hb0
 clear hor w3 w4 w5 w7 w8 ja jb jc jd q1 q2 q3 q4 zH
 by_cases g1 : f < 1
 ·have hRn : R = (2,ds,none) := by rw [← HRR.out,HOK.out,decide_eq_false (show ¬ 1 ≤ f by omega),Bool.false_and,if_pos rfl]
  subst hRn
  have g1' : (f : Int) < 1 := by omega
  clear g1
  go_wp2_with (first
   | (go_at_call 61;refine (HKZ.out _ hb0).mono ?_;rintro e w1 ⟨rfl,hw⟩;obtain rfl := hw.symm)
   | (go_at_call 62;refine (KA _).mono ?_;rintro e w1 ⟨rfl,hw⟩;obtain rfl := hw.symm))
  go_ret2
  exact ⟨X,HD.out.below HB0.out,Mv.of_below _ HB0.out,rfl⟩
 have g1' : ¬ ((f : Int) < 1) := by omega
 have g1n : 1 ≤ f := by omega
 by_cases g2 : 256 < f
 ·have hRn : R = (2,ds,none) := by rw [← HRR.out,HOK.out,decide_eq_false (show ¬ f ≤ 256 by omega),Bool.false_and,Bool.and_false,if_pos rfl]
  subst hRn
  have g2' : (256 : Int) < (f : Int) := by omega
  have g2'' : (f : Int) > 256 := by omega
  clear g1 g2 g1n
  go_wp2_with (first
   | (go_at_call 61;refine (HKZ.out _ hb0).mono ?_;rintro e w1 ⟨rfl,hw⟩;obtain rfl := hw.symm)
   | (go_at_call 62;refine (KA _).mono ?_;rintro e w1 ⟨rfl,hw⟩;obtain rfl := hw.symm))
  go_ret2
  exact ⟨X,HD.out.below HB0.out,Mv.of_below _ HB0.out,rfl⟩
 have g2' : ¬ ((256 : Int) < (f : Int)) := by omega
 have g2'' : ¬ ((f : Int) > 256) := by omega
 have g2n : f ≤ 256 := by omega
 by_cases g3 : N < f + 8
 ·have hRn : R = (2,ds,none) := by rw [← HRR.out,HOK.out,decide_eq_false (show ¬ f + 8 ≤ N by omega),Bool.false_and,Bool.and_false,Bool.and_false,if_pos rfl]
  subst hRn
  have g3' : (N : Int) < (f : Int) + 7 + 1 := by omega
  clear g1 g2 g3 g1n g2n
  go_wp2_with (first
   | (go_at_call 61;refine (HKZ.out _ hb0).mono ?_;rintro e w1 ⟨rfl,hw⟩;obtain rfl := hw.symm)
   | (go_at_call 62;refine (KA _).mono ?_;rintro e w1 ⟨rfl,hw⟩;obtain rfl := hw.symm))
  go_ret2
  exact ⟨X,HD.out.below HB0.out,Mv.of_below _ HB0.out,rfl⟩
 have g3' : ¬ ((N : Int) < (f : Int) + 7 + 1) := by omega
 have g3n : f + 8 ≤ N := by omega
 have KH1 := KH W0
 by_cases g4 : hd = headB N f
 ·rw [beq_iff_eq.2 g4] at hte
  have HRR2 := Lib.hid (show (if r.1 ≠ 0 then (7,r.2,none) else match learnL r.2.vis (N - (f + 7)) f with | none => (14,r.2,none) | some st => (0,r.2,some st)) = R by
   rw [← HRR.out,HOK.out,decide_eq_true g1n,decide_eq_true g2n,decide_eq_true g3n,beq_iff_eq.2 g4];rfl)
  clear g1 g2 g3 g4 KH
  go_upto_region 9 with (first
   | (go_at_call 61;refine (HKZ.out _ hb0).mono ?_;rintro e w1 ⟨rfl,hw⟩;obtain rfl := hw.symm)
   | (go_at_call 62;refine (KA _).mono ?_;rintro e w1 ⟨rfl,hw⟩;obtain rfl := hw.symm)
   | (go_at_call 63;refine KH1.mono ?_;rintro e w2 ⟨rfl,hb2⟩;have HB2 := Lib.hid (HB0.out.trans (hb2.mono HB0.out.size));clear hb2 KH1))
  clear KA g1' g2' g2'' g3' hb0
  have hmm := @run_makeMap Tryz.prog
  go_upto_region 10 with (fail)
  clear hmm
  have hM0 := FM.made w2 (fun _ => (none,0))
  have hbS := Blk.new (w2.alloc (.map #[] 0)) #[.pointer (some ⟨D,0,none⟩), .pointer none, .int .i64 0, .string ⟨#[]⟩, .map (some w2.heap.size), .int .i64 (f : Int), .bool false] 107
  have hb3 := (HB2.out.alloc HB2.out.size (.map #[] 0)).alloc (by have := HB2.out.size;simp;omega) (.cells #[.pointer (some ⟨D,0,none⟩), .pointer none, .int .i64 0, .string ⟨#[]⟩, .map (some w2.heap.size), .int .i64 (f : Int), .bool false] 107)
  have hM1 := hM0.block (Below.heap_alloc (w2.alloc (.map #[] 0)) (.cells #[.pointer (some ⟨D,0,none⟩), .pointer none, .int .i64 0, .string ⟨#[]⟩, .map (some w2.heap.size), .int .i64 (f : Int), .bool false] 107) w2.heap.size hM0.lt)
  rw [World.size_alloc] at hbS
  have hMge : w.heap.size ≤ w2.heap.size := HB2.out.size
  obtain ⟨W3,hW3⟩ : ∃ q,(w2.alloc (.map #[] 0)).alloc (.cells #[.pointer (some ⟨D,0,none⟩), .pointer none, .int .i64 0, .string ⟨#[]⟩, .map (some w2.heap.size), .int .i64 (f : Int), .bool false] 107) = q := ⟨_,rfl⟩
  simp only [hW3] at hbS hb3 hM1 ⊢
  obtain ⟨M,hMe⟩ : ∃ q,w2.heap.size = q := ⟨_,rfl⟩
  rw [hMe] at hbS hM1 hMge
  try simp only [hMe]
  have KO := HKO.out g3n W3 hb3
  rw [show ((2 + f : Nat) : Int) = 2 + (f : Int) by push_cast;rfl] at KO
  have HS3 := Lib.hid (And.intro hbS (And.intro hb3 (And.intro hM1 hMge)))
  clear hM0 hbS hb3 hM1 hMge hW3 hMe
  by_cases hr0 : r.1 = 0
  ·have HR0 := Lib.hid hr0
   clear hr0
   go_upto_region 11 with (first
    | (go_at_call 64;refine KO.mono ?_;rintro e w4 ⟨X',hd4,hm4,hok,hno⟩;obtain ⟨Lg,n4,rfl,hge,hLX,hWL⟩ := hok HR0.out;have hS4 := hm4.blk HS3.out.1 (fun hx => by have := HLT.out _ hx;have := HS3.out.2.2.2;omega);have y1 := hS4.cell 1;have f1 := hS4.frozen 1;simp at y1;have l4 := hS4.lt;have HW4 := Lib.hid (And.intro hd4 (And.intro hm4 (And.intro hge (And.intro hLX (And.intro hWL hS4)))));clear hd4 hm4 hok hno hge hLX hWL hS4 KO))
   have hst5 : Sto (w4.setCell ⟨M + 1,1,none⟩ (.pointer (some ⟨Lg,0,none⟩))) X' (M + 1) D Lg M ⟨r.2,[],[],f,false⟩ := by
    obtain ⟨hd4,hm4,hge,hLX,hWL,hS4⟩ := HW4.out
    obtain ⟨hbS,hb3,hM1,hMge⟩ := HS3.out
    have hg := grown_set w4 (M + 1) 1 (.pointer (some ⟨Lg,0,none⟩))
    have hSl := hbS.lt
    have hXn : ∀ x ∈ X,x < w.heap.size := HLT.out
    have hSX : M + 1 ∉ X := fun hx => by have := hXn _ hx;omega
    have hMX : M ∉ X := fun hx => by have := hXn _ hx;omega
    have hSX' := hm4.apart hSX hSl
    have hMX' := hm4.apart hMX hM1.lt
    have h0X' := hm4.apart HT.out.2.2 (Nat.lt_of_lt_of_le HT.out.2.1 hb3.size)
    have hfr : Frm [M + 1] w4 (w4.setCell ⟨M + 1,1,none⟩ (.pointer (some ⟨Lg,0,none⟩))) := ⟨hg.os,hg.tape,hg.output,hg.size,fun k hk hx => hg.block k hk (by simpa using hx)⟩
    have htb := ((HT.out.1.below HT.out.2.1 hb3).mv hm4 (Nat.lt_of_lt_of_le HT.out.2.1 hb3.size) HT.out.2.2)
    have htb5 := htb.1.mv (Mv.of_frm hfr) htb.2.1 (by have h1w := HT.out.2.1;simp;omega)
    have hM4 : FM w4 M (fun _ => (none,0)) [] := hM1.block (hm4.frm.block M hM1.lt hMX)
    refine ⟨?_,hd4.frm hfr (fun x hx e => hSX' (by simp at e;rwa [← e])),hfr.blk hWL (by simp;omega),⟨fun _ => (none,0),hM4.block (hg.block M hM4.lt (by simp)),fun f hf => by cases hf⟩,⟨hSX',hLX,hMX',h0X'⟩,htb5.1,htb5.2.1⟩
    have := hS4.set 1 (.pointer (some ⟨Lg,0,none⟩))
    have e : mk (packB []) = (⟨#[]⟩ : ByteArray) := by rw [show packB [] = [] from rfl];rfl
    simpa [stoCells,e] using this
   have hmv5 : Mv X X' w (w4.setCell ⟨M + 1,1,none⟩ (.pointer (some ⟨Lg,0,none⟩))) :=
    ((Mv.of_below X HS3.out.2.1).trans HW4.out.2.1).hide (S := M + 1) (Mv.of_grown (grown_set w4 (M + 1) 1 _) (by simp)) (by have := HS3.out.2.2.2;omega)
   obtain ⟨W5,hW5⟩ : ∃ q,w4.setCell ⟨M + 1,1,none⟩ (.pointer (some ⟨Lg,0,none⟩)) = q := ⟨_,rfl⟩
   rw [hW5] at hst5 hmv5 ⊢
   have KL := HKL.out g1n g2n g3n HR0.out X' (M + 1) Lg M W5 hst5
   have hge5 : w.heap.size ≤ Lg := Nat.le_trans HS3.out.2.1.size HW4.out.2.2.1
   have HMV := Lib.hid hmv5
   have HMG := Lib.hid (And.intro HS3.out.2.2.2 hge5)
   clear hW5 hst5 hmv5 y1 f1 l4 hge5 HW4 HS3
   have HRR3 := HRR2.out
   rw [if_neg (by rw [HR0.out];simp)] at HRR3
   obtain ⟨Q,hQ⟩ : ∃ q,learnL r.2.vis (N - (f + 7)) f = q := ⟨_,rfl⟩
   rw [hQ] at KL HRR3
   unfold LearnP at KL
   cases Q with
   | none =>
    simp only at HRR3
    subst HRR3
    clear hQ
    go_wp2_with (first
     | (go_at_call 65;refine KL.mono ?_;rintro e w6 ⟨hd6,hmv6,rfl⟩;have H6 := Lib.hid (And.intro hd6 hmv6);clear hd6 hmv6 KL))
    go_ret2
    exact ⟨X',H6.out.1,HMV.out.hide2 H6.out.2 (by have := HMG.out.1;omega) HMG.out.1,rfl⟩
   | some st =>
    obtain ⟨F,T⟩ := st
    simp only at HRR3
    subst HRR3
    clear hQ
    go_wp2_with (first
     | (go_at_call 65;refine KL.mono ?_;rintro e w6 ⟨hd6,hmv6,rfl,hst6⟩;have H6 := Lib.hid (And.intro hst6 (And.intro hd6 hmv6));clear hst6 hd6 hmv6 KL))
    go_ret2
    exact ⟨X',H6.out.2.1,HMV.out.hide2 H6.out.2.2 (by have := HMG.out.1;omega) HMG.out.1,M + 1,Lg,M,rfl,H6.out.1,by have := HMG.out.1;omega,HMG.out.1,HMG.out.2⟩
  ·have HR0 := Lib.hid hr0
   have HRR3 := HRR2.out
   rw [if_pos hr0] at HRR3
   subst HRR3
   clear hr0
   go_wp2_with (first
    | (go_at_call 64;refine KO.mono ?_;rintro e w4 ⟨X',hd4,hm4,hok,hno⟩;obtain rfl := hno HR0.out;have hS4 := hm4.blk HS3.out.1 (fun hx => by have := HLT.out _ hx;have := HS3.out.2.2.2;omega);have y1 := hS4.cell 1;have f1 := hS4.frozen 1;simp at y1;have l4 := hS4.lt;have HW4 := Lib.hid (And.intro hd4 (And.intro hm4 hS4));clear hd4 hm4 hok hno hS4 KO))
   go_ret2
   have hg := grown_set w4 (M + 1) 1 (.pointer none)
   have hfr : Frm [M + 1] w4 (w4.setCell ⟨M + 1,1,none⟩ (.pointer none)) := ⟨hg.os,hg.tape,hg.output,hg.size,fun k hk hx => hg.block k hk (by simpa using hx)⟩
   have hSX : M + 1 ∉ X := fun hx => by have := HLT.out _ hx;have := HS3.out.2.2.2;omega
   have hSX' := HW4.out.2.1.apart hSX HS3.out.1.lt
   exact ⟨X',HW4.out.1.frm hfr (fun x hx e => hSX' (by simp at e;rwa [← e])),((Mv.of_below X HS3.out.2.1).trans HW4.out.2.1).hide (S := M + 1) (Mv.of_grown hg (by simp)) (by have := HS3.out.2.2.2;omega),rfl⟩
 ·rw [beq_eq_false_iff_ne.2 g4] at hte
  have hRn : R = (2,ds,none) := by rw [← HRR.out,HOK.out,beq_eq_false_iff_ne.2 g4,Bool.and_false,Bool.and_false,Bool.and_false,if_pos rfl]
  subst hRn
  clear g1 g2 g3 g1n g2n g3n g4 KH
  go_wp2_with (first
   | (go_at_call 61;refine (HKZ.out _ hb0).mono ?_;rintro e w1 ⟨rfl,hw⟩;obtain rfl := hw.symm)
   | (go_at_call 62;refine (KA _).mono ?_;rintro e w1 ⟨rfl,hw⟩;obtain rfl := hw.symm)
   | (go_at_call 63;refine KH1.mono ?_;rintro e w2 ⟨rfl,hb2⟩;have HB2 := Lib.hid (HB0.out.trans (hb2.mono HB0.out.size));clear hb2 KH1))
  go_ret2
  exact ⟨X,HD.out.below HB2.out,Mv.of_below _ HB2.out,rfl⟩
open Go.RowKit
theorem Sto.frm {w w' : World} {X Z : List Nat} {S D Lg M : Nat} {m : StoM} (h : Sto w X S D Lg M m) (hf : Frm Z w w') (hS : S ∉ Z) (hL : Lg ∉ Z) (hM : M ∉ Z) (h0 : 1 ∉ Z) (hX : ∀ x ∈ X,x ∉ Z) (hE : ∀ z ∈ Z, ∀ cs fr,w.heap[z]? ≠ some (.cells cs 172 fr)) : Sto w' X S D Lg M m := by
 obtain ⟨ad,h1,h2⟩ := h.map
 refine ⟨hf.blk h.blk hS,h.dsk.frm hf hX,hf.blk h.log hL,⟨ad,h1.block (hf.block M h1.lt hM),fun f hfm => ?_⟩,h.apart,fun k hk => (hf.cell (p := ⟨1,k,none⟩) h.pos h0).trans (h.tb k hk),Nat.lt_of_lt_of_le h.pos hf.size⟩
 obtain ⟨a1,a2,a3⟩ := h2 f hfm
 have hk : ∀ a,(ad f.name).1 = some a → w'.heap[a.block]? = w.heap[a.block]? := fun a ha => by
  obtain ⟨cs,fr,hc⟩ := a2 a ha
  exact hf.block _ (Array.getElem?_eq_some_iff.1 hc).1 (fun hz => hE _ hz cs fr hc)
 exact ⟨lies_block a1 hk,typed_block a2 hk,a3⟩
theorem RSt.lt {w : World} {Y : List Nat} {R : Nat} {F : List PF} {T : List Bool} {most : Nat} (h : RSt w Y R F T most) : ∀ y ∈ R :: Y,y < w.heap.size := by
 obtain ⟨_,_,_,_,_,h⟩ := h
 exact h.lt
theorem RSt.frm {w w' : World} {Y Z : List Nat} {R : Nat} {F : List PF} {T : List Bool} {most : Nat} (h : RSt w Y R F T most) (hf : Frm Z w w') (hz : ∀ y ∈ R :: Y,y ∉ Z) : RSt w' Y R F T most := by
 have hl := h.lt
 obtain ⟨a,b,c,d,e,h⟩ := h
 exact ⟨a,b,c,d,e,h.keep fun y hy => hf.block y (hl y hy) (hz y hy)⟩
structure Two (w : World) (X : List Nat) (S D Lg M : Nat) (m : StoM) (Y : List Nat) (R : Nat) (F : List PF) (T : List Bool) (most : Nat) : Prop where
 sto : Sto w X S D Lg M m
 rst : RSt w Y R F T most
 ap : ∀ y ∈ R :: Y,y ≠ S ∧ y ≠ Lg ∧ y ≠ M ∧ y ∉ X ∧ y ≠ 1
theorem Two.below {w w' : World} {X : List Nat} {S D Lg M : Nat} {m : StoM} {Y : List Nat} {R : Nat} {F : List PF} {T : List Bool} {most : Nat} (h : Two w X S D Lg M m Y R F T most) (hb : Below w.heap.size w w') : Two w' X S D Lg M m Y R F T most :=
 ⟨h.sto.below hb,h.rst.below hb,h.ap⟩
theorem Two.real {w w' : World} {X X' : List Nat} {S D Lg M : Nat} {m m' : StoM} {Y : List Nat} {R : Nat} {F : List PF} {T : List Bool} {most : Nat} (h : Two w X S D Lg M m Y R F T most) (hm : Mv (S :: M :: X) (S :: M :: X') w w') (hs : Sto w' X' S D Lg M m') : Two w' X' S D Lg M m' Y R F T most := by
 have hl := h.rst.lt
 refine ⟨hs,h.rst.frm hm.frm (fun y hy hz => ?_),fun y hy => ?_⟩
 ·obtain ⟨a1,_,a3,a4,_⟩ := h.ap y hy
  rcases List.mem_cons.1 hz with e | hz
  ·exact a1 e
  ·rcases List.mem_cons.1 hz with e | hz
   ·exact a3 e
   ·exact a4 hz
 ·obtain ⟨a1,a2,a3,a4,a5⟩ := h.ap y hy
  refine ⟨a1,a2,a3,fun hx => ?_,a5⟩
  rcases hm.sub y (List.mem_cons_of_mem _ (List.mem_cons_of_mem _ hx)) with hz | hz
  ·rcases List.mem_cons.1 hz with e | hz
   ·exact a1 e
   ·rcases List.mem_cons.1 hz with e | hz
    ·exact a3 e
    ·exact a4 hz
  ·have := hl y hy;omega
structure Rdy (m : StoM) : Prop where
 b : StoB m
 up : m.off = false
 on : m.ds.off = false
 sum : ∀ f ∈ m.F,sumN f.ext = needsN f.size
 ent : (m.F.map (·.entry)).Nodup
theorem Inv.rdy {m : StoM} (h : Inv m) : Rdy m := ⟨h.b,h.up,h.on,h.sum,h.entries⟩
def finW (r : Nat × DS) (F : List FileM) (T : List Bool) (m : StoM) : Nat × StoM := if r.1 = 0 then (0,⟨r.2,F,T,m.most,m.off⟩) else (r.1,⟨r.2,m.F,m.T,m.most,true⟩)
def opW (m : StoM) (n d : Bs) : Nat × StoM := match (preW m n d).2 with
 | none => ((preW m n d).1,m)
 | some (T2,f) => finW (DS.run (putC m.most T2 (secL (m.most + 7) f.ext) d f) m.ds) (putF m.F f) T2 m
def opN (m : StoM) (a b : Bs) : Nat × StoM := match (preN m a b).2 with
 | none => ((preN m a b).1,m)
 | some (T2,C,F2) => finW (DS.run (settleC m.most T2 C) m.ds) F2 T2 m
def opR (m : StoM) (n : Bs) : Nat × StoM := match (preR m n).2 with
 | none => ((preR m n).1,m)
 | some (T2,f) => finW (DS.run (settleC m.most T2 [(f.entry,[])]) m.ds) (delF m.F f.name) T2 m
def OpP (X : List Nat) (S D Lg M : Nat) (r : Nat × StoM) (w : World) (e : Ending) (w' : World) : Prop :=
 e = .returned (.int .i64 ((r.1 : Nat) : Int)) ∧ ∃ X',Mv (S :: M :: X) (S :: M :: X') w w' ∧ Sto w' X' S D Lg M r.2
theorem opP_fin {X : List Nat} {S D Lg M : Nat} {m : StoM} {w w' : World} {e : Ending} {r : Nat × DS} {F : List FileM} {T : List Bool}
  (h : e = .returned (.int .i64 (r.1 : Nat)) ∧ ∃ X',Mv (S :: M :: X) (S :: M :: X') w w' ∧ (r.1 = 0 → Sto w' X' S D Lg M ⟨r.2,F,T,m.most,m.off⟩) ∧ (r.1 ≠ 0 → Sto w' X' S D Lg M ⟨r.2,m.F,m.T,m.most,true⟩)) : OpP X S D Lg M (finW r F T m) w e w' := by
 obtain ⟨rfl,X',h1,h2,h3⟩ := h
 unfold finW
 by_cases h0 : r.1 = 0
 ·rw [if_pos h0];exact ⟨by rw [h0],X',h1,h2 h0⟩
 ·rw [if_neg h0];exact ⟨rfl,X',h1,h3 h0⟩
theorem opW_any (X : List Nat) (S D Lg M : Nat) (m : StoM) (name data : Bs) (w : World) (h : Sto w X S D Lg M m) (hi : Rdy m) (hn : name.length ≤ maxLen) :
  Calls Tryz.prog 20 #[.pointer (some ⟨S,0,none⟩), .string (mk name), .string (mk data)] w (OpP X S D Lg M (opW m name data) w) := by
 refine (fwrite_any X S D Lg M m name data w h hi.b hi.up hi.on hn).mono ?_
 intro e w' hp
 unfold opW
 cases hq : (preW m name data).2 with
 | none => obtain ⟨rfl,h2,h3⟩ := hp.1 hq;exact ⟨rfl,X,Mv.of_below _ h2,h3⟩
 | some q => obtain ⟨T2,f⟩ := q;exact opP_fin (hp.2 T2 f hq)
theorem opN_any (X : List Nat) (S D Lg M : Nat) (m : StoM) (name dest : Bs) (w : World) (h : Sto w X S D Lg M m) (hi : Rdy m) (hn : name.length ≤ maxLen) (hn2 : dest.length ≤ maxLen) :
  Calls Tryz.prog 35 #[.pointer (some ⟨S,0,none⟩), .string (mk name), .string (mk dest)] w (OpP X S D Lg M (opN m name dest) w) := by
 refine (frename_any X S D Lg M m name dest w h hi.b hi.up hi.on hn hn2 hi.ent).mono ?_
 intro e w' hp
 unfold opN
 cases hq : (preN m name dest).2 with
 | none => obtain ⟨rfl,h2,h3⟩ := hp.1 hq;exact ⟨rfl,X,Mv.of_below _ h2,h3⟩
 | some q => obtain ⟨T2,C,F2⟩ := q;exact opP_fin (hp.2 T2 C F2 hq)
theorem opR_any (X : List Nat) (S D Lg M : Nat) (m : StoM) (name : Bs) (w : World) (h : Sto w X S D Lg M m) (hi : Rdy m) (hn : name.length ≤ maxLen) :
  Calls Tryz.prog 39 #[.pointer (some ⟨S,0,none⟩), .string (mk name)] w (OpP X S D Lg M (opR m name) w) := by
 refine (fremove_any X S D Lg M m name w h hi.b hi.up hi.on hn).mono ?_
 intro e w' hp
 unfold opR
 cases hq : (preR m name).2 with
 | none => obtain ⟨rfl,h2,h3⟩ := hp.1 hq;exact ⟨rfl,X,Mv.of_below _ h2,h3⟩
 | some q => obtain ⟨T2,f⟩ := q;exact opP_fin (hp.2 T2 f hq)
theorem opS_any (X : List Nat) (S D Lg M : Nat) (m : StoM) (name : Bs) (w : World) (h : Sto w X S D Lg M m) (hi : Rdy m) (hn : name.length ≤ maxLen) :
  Calls Tryz.prog 37 #[.pointer (some ⟨S,0,none⟩), .string (mk name)] w fun e w' => e = .returned (.tuple #[.string (mk (readW m name)), .int .i64 (findE m.F name : Nat)]) ∧ Below w.heap.size w w' :=
 fread_any X S D Lg M m name w h hi.b hi.up hi.on hn (fun f hf => by rw [hi.sum f hf];unfold needsN;omega) (fun f hf => by rw [hi.sum f hf];have := hi.b.siz f hf;unfold needsN;omega)
open Go.RowKit
structure Loo (w : World) (X : List Nat) (S D Lg M : Nat) (m : StoM) (L : Nat) (p q r : Nat) : Prop where
 sto : Sto w X S D Lg M m
 blk : Blk w L #[.pointer (some ⟨S,0,none⟩), .int .i64 (p : Int), .int .i64 (q : Int), .int .i64 (r : Int)] 75
 apart : L ∉ S :: M :: X ∧ 1 < L
 rt : RT w
 zero : 0 ∉ S :: M :: X
theorem Loo.below {w w' : World} {X : List Nat} {S D Lg M : Nat} {m : StoM} {L p q r : Nat} (h : Loo w X S D Lg M m L p q r) (hb : Below w.heap.size w w') : Loo w' X S D Lg M m L p q r :=
 ⟨h.sto.below hb,h.blk.below hb,h.apart,h.rt.below (by have := h.blk.lt;omega) hb,h.zero⟩
theorem Loo.mv {w w' : World} {X X' : List Nat} {S D Lg M : Nat} {m m' : StoM} {L p q r : Nat} (h : Loo w X S D Lg M m L p q r) (hm : Mv (S :: M :: X) (S :: M :: X') w w') (hs : Sto w' X' S D Lg M m') : Loo w' X' S D Lg M m' L p q r where
 sto := hs
 blk := hm.frm.blk h.blk h.apart.1
 apart := ⟨hm.apart h.apart.1 h.blk.lt,h.apart.2⟩
 rt := fun k hk => (hm.frm.cell (p := ⟨0,k,none⟩) (by have := h.blk.lt;show 0 < _;omega) h.zero).trans (h.rt k hk)
 zero := hm.apart h.zero (by have := h.blk.lt;omega)
theorem Loo.pos {w : World} {X : List Nat} {S D Lg M : Nat} {m : StoM} {L p q r : Nat} (h : Loo w X S D Lg M m L p q r) : 0 < w.heap.size := by have := h.blk.lt;omega
theorem name_any (id : Bs) (w : World) (h : id.length = 32) : Calls Tryz.prog 36 #[.string (mk id)] w fun e w' => e = .returned (.string (mk (nameL id))) ∧ Below w.heap.size w w' := by
 have KH := hex_any id w h
 have hsum := run_sum [111] (hexB id) (by rw [hexB_length,h];decide)
 rw [show [111] ++ hexB id = nameL id from rfl,show mk [111] = ⟨#[111]⟩ from rfl] at hsum
 obtain ⟨X,hX⟩ : ∃ q,mk id = q := ⟨_,rfl⟩
 obtain ⟨Y,hY⟩ : ∃ q,mk (hexB id) = q := ⟨_,rfl⟩
 obtain ⟨Z,hZ⟩ : ∃ q,mk (nameL id) = q := ⟨_,rfl⟩
 rw [hY,hZ] at hsum
 rw [hX,hY] at KH
 rw [hX,hZ]
 have HK := Lib.hid KH
 clear hX hY hZ KH h
 go_enter Tryz.func36,Tryz.ntmps36
 go_wp2_with (go_at_call 81;refine HK.out.mono ?_;rintro e w1 ⟨rfl,hb⟩)
 go_ret
 exact ⟨rfl,hb⟩
set_option maxRecDepth 100000 in
set_option maxHeartbeats 1000000 in
theorem known_any {X : List Nat} {S D Lg M : Nat} {m : StoM} {L p q r : Nat} (id : Bs) (w : World) (h : Loo w X S D Lg M m L p q r) (hi : Rdy m) (hd : id.length = 32) :
  Calls Tryz.prog 33 #[.pointer (some ⟨L,0,none⟩), .string (mk id)] w fun e w' => e = .returned (.int .i64 ((findE m.F (nameL id) : Nat) : Int)) ∧ Below w.heap.size w w' := by
 have hnl : (nameL id).length ≤ maxLen := by rw [nameL_length,hd];decide
 have KN := fun (w1 : World) => name_any id w1 hd
 have KS := fun (w1 : World) (hb : Below w.heap.size w w1) => fsize_any X S D Lg M m (nameL id) w1 (h.sto.below hb) hi.up hi.on hnl
 have c0 := fun (w1 : World) (hb : Below w.heap.size w w1) => (h.blk.below hb).cell 0
 simp at c0
 have zs : (mk id).size = 32 := by rw [mk_size,hd]
 obtain ⟨Y,hY⟩ : ∃ q,mk id = q := ⟨_,rfl⟩
 obtain ⟨Z,hZ⟩ : ∃ q,mk (nameL id) = q := ⟨_,rfl⟩
 obtain ⟨E,hE⟩ : ∃ q,findE m.F (nameL id) = q := ⟨_,rfl⟩
 obtain ⟨SZ,hSZ⟩ : ∃ q,sizeW m.F (nameL id) = q := ⟨_,rfl⟩
 rw [hY] at KN zs ⊢
 rw [hE]
 simp only [hZ,hE,hSZ] at KN KS
 have HKN := Lib.hid KN
 have HKS := Lib.hid KS
 have HC := Lib.hid c0
 have mixed := mixedT
 clear KN KS c0 hY hZ hE hSZ h hi hnl hd
 go_enter Tryz.func33,Tryz.ntmps33
 go_wp2
 refine wp_region_held (S := fun w' => Below w.heap.size w w') mixed ?_
 change wpAnyH _ _ _ _ _ _ _ _ w.drew
 have hS0 : Below w.heap.size w w.drew := (Below.refl _ _).drew
 obtain ⟨W0,hW0⟩ : ∃ q,w.drew = q := ⟨_,rfl⟩
 rw [hW0] at hS0 ⊢
 clear hW0
 refine tkQ 0 (.pointer (some ⟨L,0,none⟩)) rfl hS0 ?_
 try go_simp
 refine tkQ 1 (.pointer (some ⟨L,0,none⟩)) rfl hS0 ?_
 try go_simp
 refine tkQ 2 (.pointer (some ⟨L,0,none⟩)) rfl hS0 ?_
 try go_simp
 refine tkH 3 (.pointer (some ⟨S,0,none⟩)) rfl hS0 (fun w' hS => ?_) ?_
 ·have q0 := HC.out w' hS;go_simp
 try go_simp
 refine tkQ 4 (.string Y) rfl hS0 ?_
 try go_simp
 refine alH 5 ?_
 unfold wpOp
 go_simp
 refine .inl ?_
 refine (HKN.out W0).mono ?_
 rintro e w1 ⟨rfl,hb1⟩
 have hS1 := hS0.trans (hb1.mono hS0.size)
 refine ⟨hS1, ?_⟩
 try go_simp
 clear hS0 hb1
 refine alH 6 ?_
 unfold wpOp
 go_simp
 refine .inl ?_
 refine (HKS.out w1 hS1).mono ?_
 rintro e w2 ⟨rfl,hb2⟩
 have hS2 := hS1.trans (hb2.mono hS1.size)
 refine ⟨hS2, ?_⟩
 try go_simp
 clear hS1 hb2
 refine tkQ 7 (.tuple #[.int .i64 (SZ : Int), .int .i64 (E : Int)]) rfl hS2 ?_
 try go_simp
 refine tkQ 8 (.int .i64 (SZ : Int)) rfl hS2 ?_
 try go_simp
 refine tkQ 9 (.int .i64 (E : Int)) rfl hS2 ?_
 try go_simp
 refine tkQ 10 (.int .i64 (SZ : Int)) rfl hS2 ?_
 try go_simp
 refine tkQ 11 (.int .i64 (E : Int)) rfl hS2 ?_
 try go_simp
 refine wpAnyH_done (by kernel_rfl) ?_ _
 have HS2 := Lib.hid hS2
 clear hS2
 go_wp2
 go_ret
 exact ⟨rfl,HS2.out⟩
theorem lhas_any {X : List Nat} {S D Lg M : Nat} {m : StoM} {L p q r : Nat} (id : Bs) (w : World) (h : Loo w X S D Lg M m L p q r) (hi : Rdy m) (hd : id.length = 32) :
  Calls Tryz.prog 12 #[.pointer (some ⟨L,0,none⟩), .string (mk id)] w fun e w' => e = .returned (.bool (findE m.F (nameL id) == 0)) ∧ Below w.heap.size w w' := by
 have HK := Lib.hid (known_any id w h hi hd)
 obtain ⟨Y,hY⟩ : ∃ q,mk id = q := ⟨_,rfl⟩
 rw [hY] at HK ⊢
 obtain ⟨E,hE⟩ : ∃ q,findE m.F (nameL id) = q := ⟨_,rfl⟩
 rw [hE] at HK ⊢
 clear hY hE h hi hd
 go_enter Tryz.func12,Tryz.ntmps12
 go_wp2_with (go_at_call 33;refine HK.out.mono ?_;rintro e w1 ⟨rfl,hb⟩)
 go_ret
 exact ⟨congrArg (fun b => Ending.returned (Value.bool b)) (show ((E : Int) == 0) = (E == 0) by rw [Bool.eq_iff_iff];simp),hb⟩
open Go.RowKit
def layR : List Nat → Bs → List (Nat × Bs)
 | [],_ => []
 | i :: l,d => (i,d.take 512) :: layR l (d.drop 512)
theorem layX_eq (l : List Nat) (d : Bs) : layX l d = layR l d := by
 have key : ∀ (l : List Nat) (k : Nat),(l.zipIdx k).map (fun c => (c.1,(d.drop (512 * c.2)).take 512)) = layR l (d.drop (512 * k)) := by
  intro l
  induction l with
  | nil => intro k;rfl
  | cons i l ih =>
   intro k
   rw [List.zipIdx_cons,List.map_cons,layR,ih (k + 1),List.drop_drop,show 512 * (k + 1) = 512 * k + 512 by omega]
 have := key l 0
 rw [Nat.mul_zero,List.drop_zero] at this
 exact this
theorem layR_sec (l : List Nat) : ∀ d : Bs,(layR l d).map (·.1) = l := by
 induction l with
 | nil => intro d;rfl
 | cons i l ih => intro d;rw [layR,List.map_cons,ih]
theorem secsB_congr {v v' : List Bs} {l : List Nat} (h : ∀ i ∈ l,secAt v' i = secAt v i) : secsB v' l = secsB v l := by
 unfold secsB
 induction l with
 | nil => rfl
 | cons i l ih => rw [List.flatMap_cons,List.flatMap_cons,h i (List.mem_cons_self ..),ih (fun j hj => h j (List.mem_cons_of_mem _ hj))]
theorem full_app (d : Bs) (n : Nat) (h : d.length ≤ 512 * (n + 1)) : fullB (d.take 512) ++ (d.drop 512 ++ List.replicate (512 * n - (d.drop 512).length) 0) = d ++ List.replicate (512 * (n + 1) - d.length) 0 := by
 unfold fullB
 by_cases h1 : 512 ≤ d.length
 ·have e0 : (d.take 512).length = 512 := by rw [List.length_take];omega
  have e1 : 512 * n - (d.drop 512).length = 512 * (n + 1) - d.length := by rw [List.length_drop];omega
  have e2 : List.replicate (512 - (d.take 512).length) (0 : UInt8) = [] := by rw [e0];exact List.replicate_zero
  rw [e2,e1,List.append_nil, ← List.append_assoc,List.take_append_drop]
 ·have e1 : 512 * (n + 1) - d.length = (512 - d.length) + 512 * n := by omega
  rw [List.take_of_length_le (by omega),List.drop_eq_nil_of_le (by omega),List.nil_append,List.length_nil,Nat.sub_zero,List.append_assoc,List.replicate_append_replicate,e1]
theorem secs_lay : ∀ (l : List Nat) (d : Bs) (v : List Bs),l.Nodup → (∀ i ∈ l,i < v.length) → d.length ≤ 512 * l.length →
  secsB (overlay v (fulls (layR l d))) l = d ++ List.replicate (512 * l.length - d.length) 0 := by
 intro l
 induction l with
 | nil => intro d v _ _ h; have : d = [] := by simpa using h
          subst this; rfl
 | cons i l ih =>
  intro d v hn hv h
  rw [List.nodup_cons] at hn
  have e1 : overlay v (fulls (layR (i :: l) d)) = overlay (v.set i (fullB (d.take 512))) (fulls (layR l (d.drop 512))) := rfl
  rw [e1]
  have h2 := ih (d.drop 512) (v.set i (fullB (d.take 512))) hn.2 (fun j hj => by rw [List.length_set];exact hv j (List.mem_cons_of_mem _ hj)) (by rw [List.length_drop];simp at h;omega)
  show secAt _ i ++ secsB _ l = _
  rw [h2,secAt_ne _ _ _ (by rw [layR_sec];exact hn.1),secAt_set _ _ _ (hv i (List.mem_cons_self ..))]
  rw [List.length_cons] at h ⊢
  exact full_app d l.length h
theorem secL_map (b : Nat) (l : List (Nat × Nat)) : secL b l = (unitsL l).map (b + ·) := by
 unfold secL unitsL
 rw [List.map_flatMap]
 congr 1
 funext x
 unfold secX
 rw [List.range'_eq_map_range,List.map_map]
 refine List.map_congr_left fun i _ => ?_
 show b + x.1 + i = b + (x.1 + i)
 omega
theorem mem_secL {b i : Nat} {l : List (Nat × Nat)} : i ∈ secL b l ↔ ∃ u ∈ unitsL l,i = b + u := by
 rw [secL_map,List.mem_map]
 exact ⟨fun ⟨u,h,e⟩ => ⟨u,h,e.symm⟩,fun ⟨u,h,e⟩ => ⟨u,h,e.symm⟩⟩
theorem secL_nodup {b : Nat} {l : List (Nat × Nat)} (h : (unitsL l).Nodup) : (secL b l).Nodup := by
 rw [secL_map]
 exact List.pairwise_map.2 (List.Pairwise.imp (fun hne e => hne (by omega)) h)
theorem imgs_low (x : List (Nat × Bs)) (f : Nat) : ∀ c ∈ imgs x f,c.1 < f + 1 + x.length := by
 intro c hc
 obtain ⟨k,hk,rfl⟩ := List.getElem_of_mem hc
 rw [imgs_length] at hk
 rw [imgs_at x f k hk]
 show f + 1 + k < _
 omega
theorem settle_low {most : Nat} {T : List Bool} {C : List (Nat × Bs)} (hC : ∀ c ∈ C,c.1 < most) (hl : C.length ≤ 2) (i : Nat) (hi : most + 7 ≤ i) : i ∉ (wrOf (settleC most T C)).map (·.1) := by
 intro hm
 have e : wrOf (settleC most T C) = imgs (settleX T C) (2 + most) ++ ((2 + most,headW (settleX T C)) :: (settleX T C ++ [(2 + most,[])])) := by
  unfold settleC commitC
  simp only [wrOf_append,wrOf_wrs]
  simp [wrOf]
 rw [e,List.map_append,List.mem_append] at hm
 rcases hm with hm | hm
 ·obtain ⟨c,hc,he⟩ := List.mem_map.1 hm
  have := imgs_low _ _ c hc
  rw [settleX_length] at this
  omega
 ·rw [List.map_cons,List.mem_cons,List.map_append,List.mem_append] at hm
  rcases hm with hm | hm | hm
  ·simp only at hm;omega
  ·obtain ⟨c,hc,he⟩ := List.mem_map.1 hm
   unfold settleX at hc
   rcases List.mem_cons.1 hc with rfl | hc
   ·simp only at he;omega
   ·obtain ⟨d,hd,rfl⟩ := List.mem_map.1 hc
    have := hC d hd
    simp only at he;omega
  ·simp at hm;omega
theorem wrOf_lay (L : List Nat) (dt : Bs) : wrOf (layC L dt) = layR L dt := by
 unfold layC
 split
 ·rename_i h;subst h;rfl
 ·rw [wrOf_append,wrOf_wrs,layX_eq];simp [wrOf]
theorem put_sec {d : DS} (h1 : d.cut = none) (h2 : d.off = false) (L : List Nat) (dt : Bs) {most : Nat} {T : List Bool} {C : List (Nat × Bs)} (hC : ∀ c ∈ C,c.1 < most) (hl : C.length ≤ 2) (i : Nat) (hi : most + 7 ≤ i) :
  secAt (DS.run (layC L dt ++ settleC most T C) d).2.vis i = secAt (overlay d.vis (fulls (layR L dt))) i := by
 obtain ⟨_,_,_,hv⟩ := run_on (layC L dt ++ settleC most T C) d h1 h2
 rw [hv,wrOf_append,wrOf_lay]
 have e : overlay d.vis (fulls (layR L dt ++ wrOf (settleC most T C))) = overlay (overlay d.vis (fulls (layR L dt))) (fulls (wrOf (settleC most T C))) := by
  unfold overlay fulls;rw [List.map_append,List.foldl_append]
 rw [e,secAt_ne _ _ _ (settle_low hC hl i hi)]
theorem put_other {d : DS} (h1 : d.cut = none) (h2 : d.off = false) (L : List Nat) (dt : Bs) {most : Nat} {T : List Bool} {C : List (Nat × Bs)} (hC : ∀ c ∈ C,c.1 < most) (hl : C.length ≤ 2) (i : Nat) (hi : most + 7 ≤ i) (hL : i ∉ L) :
  secAt (DS.run (layC L dt ++ settleC most T C) d).2.vis i = secAt d.vis i := by
 rw [put_sec h1 h2 L dt hC hl i hi,secAt_ne _ _ _ (by rw [layR_sec];exact hL)]
theorem put_new {d : DS} (h1 : d.cut = none) (h2 : d.off = false) (L : List Nat) (dt : Bs) {most : Nat} {T : List Bool} {C : List (Nat × Bs)} (hC : ∀ c ∈ C,c.1 < most) (hl : C.length ≤ 2) (hL : ∀ i ∈ L,most + 7 ≤ i) (hn : L.Nodup) (hv : ∀ i ∈ L,i < d.L.length) (hd : dt.length ≤ 512 * L.length) :
  secsB (DS.run (layC L dt ++ settleC most T C) d).2.vis L = dt ++ List.replicate (512 * L.length - dt.length) 0 := by
 rw [secsB_congr (v := overlay d.vis (fulls (layR L dt))) (fun i hi => put_sec h1 h2 L dt hC hl i (hL i hi))]
 exact secs_lay L dt d.vis hn (fun i hi => by rw [vis_length];exact hv i hi) hd
theorem secL_ge {b i : Nat} {l : List (Nat × Nat)} (h : i ∈ secL b l) : b ≤ i := by obtain ⟨u,_,rfl⟩ := mem_secL.1 h;omega
theorem readF_len {m : StoM} (h : Inv m) (hd : DGood m.ds) {f : FileM} (hf : f ∈ m.F) : (readF m f).length = f.size := by
 have hfi := h.fin hf
 have hb := h.b.ll
 unfold readF
 rw [List.length_take,secsB_len hd _ (fun i hi => by
  obtain ⟨x,hx,h1,h2⟩ := secL_mem hi
  have := (hfi.exb x hx).2
  omega),secL_length,hfi.sum]
 unfold needsN
 omega
open Go.RowKit Go.Maps
theorem finW_ok {r : Nat × DS} {F : List FileM} {T : List Bool} {m : StoM} (h : r.1 = 0) : finW r F T m = (0,⟨r.2,F,T,m.most,m.off⟩) := by unfold finW;rw [if_pos h]
theorem opW_inv {m : StoM} (h : Inv m) (n d : Bs) : Inv (opW m n d).2 ∧ (opW m n d).2.most = m.most ∧ (opW m n d).2.T.length = m.T.length := by
 unfold opW
 cases hq : (preW m n d).2 with
 | none => exact ⟨h,rfl,rfl⟩
 | some q =>
  obtain ⟨T2,f⟩ := q
  obtain ⟨h1,h2⟩ := inv_put h (preW_zero hq)
  simp only
  rw [finW_ok h1]
  exact ⟨h2,rfl,inv_same_len h h2⟩
theorem opN_inv {m : StoM} (h : Inv m) (a b : Bs) : Inv (opN m a b).2 ∧ (opN m a b).2.most = m.most ∧ (opN m a b).2.T.length = m.T.length := by
 unfold opN
 cases hq : (preN m a b).2 with
 | none => exact ⟨h,rfl,rfl⟩
 | some q =>
  obtain ⟨T2,C,F2⟩ := q
  obtain ⟨h1,h2⟩ := inv_rename h (preN_zero hq)
  simp only
  rw [finW_ok h1]
  exact ⟨h2,rfl,inv_same_len h h2⟩
theorem turnS_bd (taken : Bool) : ∀ (l : List (Nat × Nat)) (T T' : List Bool),turnS taken T l = some T' → ∀ x ∈ l,1 ≤ x.2 ∧ x.1 + x.2 ≤ T.length := by
 intro l
 induction l with
 | nil => intro T T' _ x hx;cases hx
 | cons y l ih =>
  intro T T' h x hx
  rw [turnS] at h
  split at h
  ·cases h
  ·rename_i hc
   obtain ⟨T1,h1,h2⟩ := Option.bind_eq_some_iff.1 h
   rcases List.mem_cons.1 hx with rfl | hx
   ·omega
   ·have := ih T1 T' h2 x hx
    rw [turn1_len _ _ _ _ _ h1] at this
    exact this
theorem foldL_fin (v : List Bs) (u : Nat) : ∀ k F V,foldL v u k = some (F,V) → (F.map (·.name)).Nodup ∧ (F.map (·.entry)).Nodup ∧ ∀ f ∈ F,FileIn k u f := by
 intro k
 induction k with
 | zero =>
  intro F V h
  simp only [foldL,Option.some.injEq,Prod.mk.injEq] at h
  obtain ⟨rfl,rfl⟩ := h
  exact ⟨by simp,by simp,fun f hf => by cases hf⟩
 | succ k ih =>
  intro F V h
  rw [foldL] at h
  obtain ⟨⟨F0,V0⟩,h0,h1⟩ := Option.bind_eq_some_iff.1 h
  obtain ⟨a1,a2,a3⟩ := ih F0 V0 h0
  have hV := (foldL_len _ _ _ _ _ h0).1
  have hup : ∀ f ∈ F0,FileIn (k + 1) u f := fun f hf => { a3 f hf with ent := by have := (a3 f hf).ent;omega }
  unfold stepL at h1
  split at h1
  ·simp only [Option.some.injEq,Prod.mk.injEq] at h1
   obtain ⟨rfl,rfl⟩ := h1
   exact ⟨a1,a2,hup⟩
  ·split at h1
   ·cases h1
   ·rename_i nm sz l hp
    split at h1
    ·cases h1
    ·rename_i hnf
     obtain ⟨T,ht,he⟩ := Option.map_eq_some_iff.1 h1
     simp only [Prod.mk.injEq] at he
     obtain ⟨rfl,rfl⟩ := he
     obtain ⟨_,b2,b3,b4,b5,_⟩ := parse_some hp
     have hno : ∀ g ∈ F0,g.name ≠ nm := fileOf_none.1 (by simpa using hnf)
     refine ⟨?_, ?_,fun f hf => ?_⟩
     ·rw [List.map_append,List.nodup_append]
      refine ⟨a1,by simp,fun x hx y hy e => ?_⟩
      obtain ⟨g,hg,rfl⟩ := List.mem_map.1 hx
      simp at hy
      subst hy
      exact hno g hg e
     ·rw [List.map_append,List.nodup_append]
      refine ⟨a2,by simp,fun x hx y hy e => ?_⟩
      obtain ⟨g,hg,rfl⟩ := List.mem_map.1 hx
      simp at hy
      subst hy
      have := (a3 g hg).ent
      omega
     ·rcases List.mem_append.1 hf with h2 | h2
      ·exact hup f h2
      ·obtain rfl := List.mem_singleton.1 h2
       exact ⟨by simp only;omega,b2,b3,b4,fun x hx => by have := turnS_bd _ _ _ _ ht x hx;simp only at this;rw [hV] at this;exact this,b5⟩
theorem learnL_fin {v : List Bs} {u most : Nat} {F : List FileM} {T : List Bool} (h : learnL v u most = some (F,T)) : T.length = u ∧ F.length ≤ most ∧ (F.map (·.name)).Nodup ∧ (F.map (·.entry)).Nodup ∧ ∀ f ∈ F,FileIn most u f := by
 unfold learnL at h
 obtain ⟨T0,h0,h1⟩ := Option.bind_eq_some_iff.1 h
 obtain ⟨⟨F1,V1⟩,h2,h3⟩ := Option.bind_eq_some_iff.1 h1
 split at h3
 ·simp only [Option.some.injEq,Prod.mk.injEq] at h3
  obtain ⟨rfl,rfl⟩ := h3
  obtain ⟨b1,b2,_⟩ := foldL_len _ _ _ _ _ h2
  obtain ⟨c1,c2,c3⟩ := foldL_fin _ _ _ _ _ h2
  exact ⟨b1,b2,c1,c2,c3⟩
 ·cases h3
theorem learn_rdy {v : List Bs} {ds : DS} {u most : Nat} {F : List FileM} {T : List Bool} (h : learnL v u most = some (F,T)) (hm : 1 ≤ most ∧ most ≤ 256) (hu : u + most + 7 = ds.L.length) (hu2 : u ≤ 4096) (ho : ds.off = false) (hS : ds.S.length ≤ 500000) : Rdy ⟨ds,F,T,most,false⟩ := by
 obtain ⟨a1,a2,a3,a4,a5⟩ := learnL_fin h
 exact {
  b := { ent := fun f hf => (a5 f hf).ent
         nam := fun f hf => goodF_len (a5 f hf).good
         siz := fun f hf => (a5 f hf).siz
         exl := fun f hf => (a5 f hf).exl
         exb := fun f hf x hx => by have := ((a5 f hf).exb x hx).2; simp only; omega
         len := by simp only; omega
         mo := hm
         tl := by simp only; omega
         ll := by simp only; omega
         sl := hS }
  up := rfl
  on := ho
  sum := fun f hf => (a5 f hf).sum
  ent := a4 }
theorem readF_len2 {m : StoM} (h : Rdy m) (hd : DGood m.ds) {f : FileM} (hf : f ∈ m.F) : (readF m f).length = f.size := by
 have hb := h.b.ll
 unfold readF
 rw [List.length_take,secsB_len hd _ (fun i hi => by
  obtain ⟨x,hx,h1,h2⟩ := secL_mem hi
  have := h.b.exb f hf x hx
  omega),secL_length,h.sum f hf]
 unfold needsN
 omega
open Go.RowKit
theorem add1_any (a : Addr) (n : Int) (w : World) (h0 : 0 ≤ n) (h1 : n < 1000000) (hc : w.cell? a = some (.int .i64 n)) (hz : w.frozen? a = false) :
  Calls Tryz.prog 34 #[.pointer (some a), .int .i64 1] w fun e w' => (∃ v,e = .returned v) ∧ w' = w.setCell a (.int .i64 (n + 1)) := by
 have hadd := run_call_add (P := Tryz.prog) Tryz.func76 (by kernel_rfl) (by kernel_rfl) (by kernel_rfl) .i64 (by kernel_rfl) (y := 1) (s := n + 1) hc hz (by simp [go_sem];rw [Go.IntWalk.i64_left,Go.IntWalk.wrap64_in _ (by omega)])
 go_enter Tryz.func34,Tryz.ntmps34
 go_wp2
 go_ret
 exact ⟨⟨_,rfl⟩,rfl⟩
theorem Loo.set {w : World} {X : List Nat} {S D Lg M : Nat} {m : StoM} {L p q r : Nat} (h : Loo w X S D Lg M m L p q r) (i : Nat) (v : Value) (p' q' r' : Nat)
  (hcs : (#[.pointer (some ⟨S,0,none⟩), .int .i64 (p : Int), .int .i64 (q : Int), .int .i64 (r : Int)] : Array Value).setIfInBounds i v = #[.pointer (some ⟨S,0,none⟩), .int .i64 (p' : Int), .int .i64 (q' : Int), .int .i64 (r' : Int)]) :
  Loo (w.setCell ⟨L,i,none⟩ v) X S D Lg M m L p' q' r' where
 sto := h.sto.away2 (grown_set w L i v) h.blk (by decide) (by decide) (by decide) (fun hx => h.apart.1 (List.mem_cons_of_mem _ (List.mem_cons_of_mem _ hx))) h.apart.2
 blk := by have := h.blk.set i v;rwa [hcs] at this
 apart := h.apart
 rt := fun k hk => (World.cell?_of_block (Below.heap_setCell w ⟨L,i,none⟩ v 0 (by have := h.apart.2;show 0 ≠ L;omega))).trans (h.rt k hk)
 zero := h.zero
theorem findE_name (F : List FileM) {id : Bs} (h : id.length ≤ 32) : findE F (nameL id) = 0 ∨ findE F (nameL id) = 9 := by
 unfold findE
 rw [if_pos (nameL_good h)]
 split
 ·exact .inl rfl
 ·exact .inr rfl
theorem findE_tmp (F : List FileM) : findE F tmpL = 0 ∨ findE F tmpL = 9 := by
 unfold findE
 rw [if_pos (by decide)]
 split
 ·exact .inl rfl
 ·exact .inr rfl
def putL (m : StoM) (p q : Nat) (d : Bs) : (Bs × Nat) × StoM × Nat × Nat :=
 if 262208 < d.length then (([],6),m,p,q) else
 if findE m.F (nameL (shaS d)) = 0 then ((shaS d,0),m,p,q + 1) else
 if (opW m tmpL d).1 = 0 then
  (if (opN (opW m tmpL d).2 tmpL (nameL (shaS d))).1 = 0 then ((shaS d,0),(opN (opW m tmpL d).2 tmpL (nameL (shaS d))).2,p + 1,q)
   else (([],(opN (opW m tmpL d).2 tmpL (nameL (shaS d))).1),(opN (opW m tmpL d).2 tmpL (nameL (shaS d))).2,p,q))
 else (([],(opW m tmpL d).1),(opW m tmpL d).2,p,q)
def PutLP (X : List Nat) (S D Lg M L : Nat) (o : (Bs × Nat) × StoM × Nat × Nat) (r : Nat) (w : World) (e : Ending) (w' : World) : Prop :=
 e = .returned (.tuple #[.string (mk o.1.1), .int .i64 (o.1.2 : Int)]) ∧ ∃ X',Mv (L :: S :: M :: X) (L :: S :: M :: X') w w' ∧ Loo w' X' S D Lg M o.2.1 L o.2.2.1 o.2.2.2 r
set_option maxRecDepth 100000 in
set_option maxHeartbeats 2000000 in
theorem put_loose {X : List Nat} {S D Lg M : Nat} {m : StoM} {L p q r : Nat} (d : Bs) (w : World) (h : Loo w X S D Lg M m L p q r) (hi : Inv m) (hd : d.length ≤ 1000000000) (hp : p < 1000000) (hq : q < 1000000) :
  Calls Tryz.prog 8 #[.pointer (some ⟨L,0,none⟩), .string (mk d)] w (PutLP X S D Lg M L (putL m p q d) r w) := by
 have hs32 := shaS_length d
 have hnl : (nameL (shaS d)).length ≤ maxLen := by rw [nameL_length,hs32];decide
 have htl : tmpL.length ≤ maxLen := by decide
 have hi2 := (opW_inv hi tmpL d).1
 have zd : (mk d).size = d.length := mk_size d
 have hE2 := findE_name m.F (id := shaS d) (by omega)
 have hE1 := findE_tmp m.F
 obtain ⟨ID,hID⟩ : ∃ q,shaS d = q := ⟨_,rfl⟩
 obtain ⟨a,ha⟩ : ∃ q,opW m tmpL d = q := ⟨_,rfl⟩
 obtain ⟨b,hb⟩ : ∃ q,opN a.2 tmpL (nameL ID) = q := ⟨_,rfl⟩
 obtain ⟨E1,hE⟩ : ∃ q,findE m.F tmpL = q := ⟨_,rfl⟩
 obtain ⟨E2,hEE⟩ : ∃ q,findE m.F (nameL ID) = q := ⟨_,rfl⟩
 obtain ⟨Z1,hZ⟩ : ∃ q,sizeW m.F tmpL = q := ⟨_,rfl⟩
 obtain ⟨Y,hY⟩ : ∃ q,mk d = q := ⟨_,rfl⟩
 obtain ⟨I,hI⟩ : ∃ q,mk ID = q := ⟨_,rfl⟩
 obtain ⟨NM,hNM⟩ : ∃ q,mk (nameL ID) = q := ⟨_,rfl⟩
 obtain ⟨A1,hA1⟩ : ∃ q,a.1 = q := ⟨_,rfl⟩
 obtain ⟨B1,hB1⟩ : ∃ q,b.1 = q := ⟨_,rfl⟩
 have KS : Calls Tryz.prog 32 #[.pointer (some ⟨S,0,none⟩), .string ⟨#[116,109,112]⟩] w fun e w' => e = .returned (.tuple #[.int .i64 (Z1 : Nat), .int .i64 (E1 : Nat)]) ∧ Below w.heap.size w w' := by
  rw [← hZ, ← hE];exact fsize_any X S D Lg M m tmpL w h.sto hi.up hi.on htl
 have KSUM : ∀ (g : Nat) (w1 : World),Below w.heap.size w w1 → w1.cell? ⟨g,0,none⟩ = some (.string Y) → Calls Tryz.prog 31 #[.slice (some ⟨g,0,none⟩) 1 1] w1 fun e w' => e = .returned (.string I) ∧ Below w1.heap.size w1 w' := fun g w1 hb hc => by
  rw [← hI, ← hID];exact sum1_any d g 0 1 w1 (by rw [hc,hY]) hd (h.rt.below h.pos hb) (Nat.lt_of_lt_of_le h.pos hb.size)
 have KK : ∀ w1,Below w.heap.size w w1 → Calls Tryz.prog 33 #[.pointer (some ⟨L,0,none⟩), .string I] w1 fun e w' => e = .returned (.int .i64 (E2 : Nat)) ∧ Below w1.heap.size w1 w' := fun w1 hb => by
  rw [← hI, ← hEE, ← hID];exact known_any (shaS d) w1 (h.below hb) hi.rdy hs32
 have KW : ∀ w1,Below w.heap.size w w1 → Calls Tryz.prog 20 #[.pointer (some ⟨S,0,none⟩), .string ⟨#[116,109,112]⟩, .string Y] w1 fun e w' => e = .returned (.int .i64 (A1 : Nat)) ∧ ∃ X',Mv (S :: M :: X) (S :: M :: X') w1 w' ∧ Sto w' X' S D Lg M a.2 := fun w1 hb => by
  rw [← hA1, ← ha, ← hY];exact opW_any X S D Lg M m tmpL d w1 (h.below hb).sto hi.rdy htl
 have KM : ∀ w1,Calls Tryz.prog 36 #[.string I] w1 fun e w' => e = .returned (.string NM) ∧ Below w1.heap.size w1 w' := fun w1 => by
  rw [← hI, ← hNM, ← hID];exact name_any (shaS d) w1 hs32
 have KR : ∀ X1 w1,Sto w1 X1 S D Lg M a.2 → Calls Tryz.prog 35 #[.pointer (some ⟨S,0,none⟩), .string ⟨#[116,109,112]⟩, .string NM] w1 fun e w' => e = .returned (.int .i64 (B1 : Nat)) ∧ ∃ X',Mv (S :: M :: X1) (S :: M :: X') w1 w' ∧ Sto w' X' S D Lg M b.2 := fun X1 w1 h1 => by
  rw [ha] at hi2
  rw [hID] at hnl
  rw [← hB1, ← hb, ← hNM];exact opN_any X1 S D Lg M a.2 tmpL (nameL ID) w1 h1 hi2.rdy htl hnl
 have hP : putL m p q d = if 262208 < d.length then (([],6),m,p,q) else if E2 = 0 then ((ID,0),m,p,q + 1) else if A1 = 0 then (if B1 = 0 then ((ID,0),b.2,p + 1,q) else (([],B1),b.2,p,q)) else (([],A1),a.2,p,q) := by
  unfold putL
  rw [hID,hEE,ha,hA1,hb,hB1]
 have c0 := fun (w1 : World) (hb : Below w.heap.size w w1) => (h.blk.below hb).cell 0
 have c2 := fun (w1 : World) (hb : Below w.heap.size w w1) => (h.blk.below hb).cell 2
 have f2 := fun (w1 : World) (hb : Below w.heap.size w w1) => (h.blk.below hb).frozen 2
 simp at c0 c2
 have c00 := c0 w (Below.refl _ _)
 rw [hE] at hE1
 rw [hID,hEE] at hE2
 have e7 : ((E1 : Int) == 7) = false := by rcases hE1 with rfl | rfl <;> rfl
 have HI := Lib.hid hI
 obtain ⟨dl,hdl⟩ : ∃ q,d.length = q := ⟨_,rfl⟩
 rw [hdl] at zd hd hP
 rw [hY] at zd ⊢
 obtain ⟨P,hPP⟩ : ∃ t,putL m p q d = t := ⟨_,rfl⟩
 rw [hPP] at hP ⊢
 have HKS := Lib.hid KS
 have HKSUM := Lib.hid KSUM
 have HKK := Lib.hid KK
 have HKW := Lib.hid KW
 have HKM := Lib.hid KM
 have HKR := Lib.hid KR
 have HC := Lib.hid (And.intro c0 (And.intro c2 f2))
 have HH := Lib.hid h
 have mixed := mixedT
 clear KS KSUM KK KW KM KR c0 c2 f2 hi2 hE hZ hE1 hY hI hNM hdl hi h hs32 hnl htl hID ha hb hEE hA1 hB1 hPP
 by_cases hlong : 262208 < dl
 ·rw [if_pos hlong] at hP
  have HP := Lib.hid hP
  have hl2 : (262208 : Int) < (dl : Int) := by omega
  clear hP hE2
  go_enter Tryz.func8,Tryz.ntmps8
  go_wp2_with (go_at_call 32;refine HKS.out.mono ?_;rintro e w1 ⟨rfl,hb1⟩;have HB1 := Lib.hid hb1;clear hb1)
  go_ret2
  unfold PutLP
  rw [HP.out]
  exact ⟨rfl,X,Mv.of_below _ HB1.out,HH.out.below HB1.out⟩
 ·rw [if_neg hlong] at hP
  have hl2 : (dl : Int) ≤ 262208 := by omega
  rcases hE2 with rfl | rfl
  ·rw [if_pos rfl] at hP
   have HP := Lib.hid hP
   clear hP hlong
   go_enter Tryz.func8,Tryz.ntmps8
   go_wp2_with (first
    | (go_at_call 32;refine HKS.out.mono ?_;rintro e w1 ⟨rfl,hb1⟩;have HB1 := Lib.hid hb1;clear hb1)
    | (go_at_call 31;refine (HKSUM.out _ _ (HB1.out.alloc HB1.out.size (.cells #[.string Y] 9)) ((Blk.new _ #[.string Y] 9).cell 0)).mono ?_;rintro e w2 ⟨rfl,hb2⟩;have HB2 := Lib.hid (below_step (HB1.out.alloc HB1.out.size (.cells #[.string Y] 9)) hb2);clear hb2)
    | (go_at_call 33;refine (HKK.out _ HB2.out).mono ?_;rintro e w3 ⟨rfl,hb3⟩;have HB3 := Lib.hid (below_step HB2.out hb3);clear hb3)
    | (go_at_call 34;refine (add1_any ⟨L,2,none⟩ q w3 (by omega) (by omega) (HC.out.2.1 w3 HB3.out) (HC.out.2.2 w3 HB3.out)).mono ?_;rintro e w4 ⟨⟨v4,rfl⟩,rfl⟩))
   go_ret2
   unfold PutLP
   rw [HP.out]
   exact ⟨congrArg (fun t => Ending.returned (Value.tuple #[.string t, .int .i64 0])) HI.out.symm,X,(Mv.of_below _ HB3.out).trans (Mv.of_grown (grown_set w3 L 2 _) (List.mem_cons_self ..)),(HH.out.below HB3.out).set 2 _ p (q + 1) r (by simp)⟩
  ·rw [if_neg (by decide)] at hP
   by_cases hA : A1 = 0
   ·rw [if_pos hA] at hP
    subst hA
    by_cases hB : B1 = 0
    ·rw [if_pos hB] at hP
     have HP := Lib.hid hP
     subst hB
     clear hP hlong
     go_enter Tryz.func8,Tryz.ntmps8
     go_wp2_with (first
    | (go_at_call 32;refine HKS.out.mono ?_;rintro e w1 ⟨rfl,hb1⟩;have HB1 := Lib.hid hb1;clear hb1)
    | (go_at_call 31;refine (HKSUM.out _ _ (HB1.out.alloc HB1.out.size (.cells #[.string Y] 9)) ((Blk.new _ #[.string Y] 9).cell 0)).mono ?_;rintro e w2 ⟨rfl,hb2⟩;have HB2 := Lib.hid (below_step (HB1.out.alloc HB1.out.size (.cells #[.string Y] 9)) hb2);clear hb2)
    | (go_at_call 33;refine (HKK.out _ HB2.out).mono ?_;rintro e w3 ⟨rfl,hb3⟩;have HB3 := Lib.hid (below_step HB2.out hb3);have c03 := HC.out.1 w3 HB3.out;clear hb3)
    | (go_at_call 20;refine (HKW.out w3 HB3.out).mono ?_;rintro e w4 ⟨rfl,X4,hm4,hs4⟩;have HL4 := Lib.hid (And.intro ((HH.out.below HB3.out).mv hm4 hs4) ((Mv.of_below _ HB3.out).trans (hm4.cons L)));clear hm4 hs4))
     have hL4 := HL4.out.1.below ((Below.refl w4.heap.size w4).drew)
     have hm4 := HL4.out.2.trans (Mv.of_below (L :: S :: M :: X4) ((Below.refl w4.heap.size w4).drew))
     refine wp_region_held (S := fun w' => Blk w' L #[.pointer (some ⟨S,0,none⟩), .int .i64 (p : Int), .int .i64 (q : Int), .int .i64 (r : Int)] 75) mixed ?_
     change wpAnyH _ _ _ _ _ _ _ _ w4.drew
     obtain ⟨W0,hW0⟩ : ∃ t,w4.drew = t := ⟨_,rfl⟩
     rw [hW0] at hL4 hm4 ⊢
     clear hW0
     have hS0 := hL4.blk
     refine tkQ 0 (.pointer (some ⟨L,0,none⟩)) rfl hS0 ?_
     try go_simp
     refine tkQ 1 (.pointer (some ⟨L,0,none⟩)) rfl hS0 ?_
     try go_simp
     refine tkQ 2 (.pointer (some ⟨L,0,none⟩)) rfl hS0 ?_
     try go_simp
     refine tkH 3 (.pointer (some ⟨S,0,none⟩)) rfl hS0 (fun w' hS => ?_) ?_
     ·have q0 := hS.cell 0;simp at q0;go_simp
     try go_simp
     refine tkQ 4 (.string I) rfl hS0 ?_
     try go_simp
     refine alH 5 ?_
     unfold wpOp
     go_simp
     refine .inl ?_
     refine (HKM.out W0).mono ?_
     rintro e w5 ⟨rfl,hb5⟩
     have hL5 := hL4.below hb5
     have hm5 := hm4.trans (Mv.of_below (L :: S :: M :: X4) hb5)
     have hS1 := hL5.blk
     refine ⟨hS1, ?_⟩
     try go_simp
     clear hS0 hb5 hL4 hm4
     refine alH 6 ?_
     unfold wpOp
     go_simp
     refine .inl ?_
     refine (HKR.out X4 w5 hL5.sto).mono ?_
     rintro e w6 ⟨rfl,X6,hm6,hs6⟩
     have HL6 := Lib.hid (And.intro (hL5.mv hm6 hs6) (hm5.trans (hm6.cons L)))
     have hS2 := HL6.out.1.blk
     refine ⟨hS2, ?_⟩
     try go_simp
     clear hS1 hL5 hm5 hm6 hs6
     refine tkQ 7 (.int .i64 0) rfl hS2 ?_
     try go_simp
     refine wpAnyH_done (by kernel_rfl) ?_ _
     have c1 := HL6.out.1.blk.cell 1
     have f1 := HL6.out.1.blk.frozen 1
     simp at c1
     have HCC := Lib.hid (And.intro c1 f1)
     clear hS2 c1 f1
     go_wp2_with (go_at_call 34;refine (add1_any ⟨L,1,none⟩ p w6 (by omega) (by omega) HCC.out.1 HCC.out.2).mono ?_;rintro e w7 ⟨⟨v7,rfl⟩,rfl⟩)
     go_ret2
     unfold PutLP
     rw [HP.out]
     exact ⟨congrArg (fun t => Ending.returned (Value.tuple #[.string t, .int .i64 0])) HI.out.symm,X6,HL6.out.2.trans (Mv.of_grown (grown_set w6 L 1 _) (List.mem_cons_self ..)),HL6.out.1.set 1 _ (p + 1) q r (by simp)⟩
    ·rw [if_neg hB] at hP
     have HP := Lib.hid hP
     have a1 : ((B1 : Int) == 0) = false := by simpa using hB
     have a2 : ((B1 : Int) != 0) = true := by simpa using hB
     have a3 : ¬ (B1 : Int) = 0 := by omega
     clear hP hlong hB
     go_enter Tryz.func8,Tryz.ntmps8
     go_wp2_with (first
    | (go_at_call 32;refine HKS.out.mono ?_;rintro e w1 ⟨rfl,hb1⟩;have HB1 := Lib.hid hb1;clear hb1)
    | (go_at_call 31;refine (HKSUM.out _ _ (HB1.out.alloc HB1.out.size (.cells #[.string Y] 9)) ((Blk.new _ #[.string Y] 9).cell 0)).mono ?_;rintro e w2 ⟨rfl,hb2⟩;have HB2 := Lib.hid (below_step (HB1.out.alloc HB1.out.size (.cells #[.string Y] 9)) hb2);clear hb2)
    | (go_at_call 33;refine (HKK.out _ HB2.out).mono ?_;rintro e w3 ⟨rfl,hb3⟩;have HB3 := Lib.hid (below_step HB2.out hb3);have c03 := HC.out.1 w3 HB3.out;clear hb3)
    | (go_at_call 20;refine (HKW.out w3 HB3.out).mono ?_;rintro e w4 ⟨rfl,X4,hm4,hs4⟩;have HL4 := Lib.hid (And.intro ((HH.out.below HB3.out).mv hm4 hs4) ((Mv.of_below _ HB3.out).trans (hm4.cons L)));clear hm4 hs4))
     have hL4 := HL4.out.1.below ((Below.refl w4.heap.size w4).drew)
     have hm4 := HL4.out.2.trans (Mv.of_below (L :: S :: M :: X4) ((Below.refl w4.heap.size w4).drew))
     refine wp_region_held (S := fun w' => Blk w' L #[.pointer (some ⟨S,0,none⟩), .int .i64 (p : Int), .int .i64 (q : Int), .int .i64 (r : Int)] 75) mixed ?_
     change wpAnyH _ _ _ _ _ _ _ _ w4.drew
     obtain ⟨W0,hW0⟩ : ∃ t,w4.drew = t := ⟨_,rfl⟩
     rw [hW0] at hL4 hm4 ⊢
     clear hW0
     have hS0 := hL4.blk
     refine tkQ 0 (.pointer (some ⟨L,0,none⟩)) rfl hS0 ?_
     try go_simp
     refine tkQ 1 (.pointer (some ⟨L,0,none⟩)) rfl hS0 ?_
     try go_simp
     refine tkQ 2 (.pointer (some ⟨L,0,none⟩)) rfl hS0 ?_
     try go_simp
     refine tkH 3 (.pointer (some ⟨S,0,none⟩)) rfl hS0 (fun w' hS => ?_) ?_
     ·have q0 := hS.cell 0;simp at q0;go_simp
     try go_simp
     refine tkQ 4 (.string I) rfl hS0 ?_
     try go_simp
     refine alH 5 ?_
     unfold wpOp
     go_simp
     refine .inl ?_
     refine (HKM.out W0).mono ?_
     rintro e w5 ⟨rfl,hb5⟩
     have hL5 := hL4.below hb5
     have hm5 := hm4.trans (Mv.of_below (L :: S :: M :: X4) hb5)
     have hS1 := hL5.blk
     refine ⟨hS1, ?_⟩
     try go_simp
     clear hS0 hb5 hL4 hm4
     refine alH 6 ?_
     unfold wpOp
     go_simp
     refine .inl ?_
     refine (HKR.out X4 w5 hL5.sto).mono ?_
     rintro e w6 ⟨rfl,X6,hm6,hs6⟩
     have HL6 := Lib.hid (And.intro (hL5.mv hm6 hs6) (hm5.trans (hm6.cons L)))
     have hS2 := HL6.out.1.blk
     refine ⟨hS2, ?_⟩
     try go_simp
     clear hS1 hL5 hm5 hm6 hs6
     refine tkQ 7 (.int .i64 (B1 : Int)) rfl hS2 ?_
     try go_simp
     refine wpAnyH_done (by kernel_rfl) ?_ _
     clear hS2
     go_wp2
     go_ret2
     unfold PutLP
     rw [HP.out]
     exact ⟨rfl,X6,HL6.out.2,HL6.out.1⟩
   ·rw [if_neg hA] at hP
    have HP := Lib.hid hP
    have a1 : ((A1 : Int) == 0) = false := by simpa using hA
    have a2 : ((A1 : Int) != 0) = true := by simpa using hA
    have a3 : ¬ (A1 : Int) = 0 := by omega
    clear hP hlong hA
    go_enter Tryz.func8,Tryz.ntmps8
    go_wp2_with (first
    | (go_at_call 32;refine HKS.out.mono ?_;rintro e w1 ⟨rfl,hb1⟩;have HB1 := Lib.hid hb1;clear hb1)
    | (go_at_call 31;refine (HKSUM.out _ _ (HB1.out.alloc HB1.out.size (.cells #[.string Y] 9)) ((Blk.new _ #[.string Y] 9).cell 0)).mono ?_;rintro e w2 ⟨rfl,hb2⟩;have HB2 := Lib.hid (below_step (HB1.out.alloc HB1.out.size (.cells #[.string Y] 9)) hb2);clear hb2)
    | (go_at_call 33;refine (HKK.out _ HB2.out).mono ?_;rintro e w3 ⟨rfl,hb3⟩;have HB3 := Lib.hid (below_step HB2.out hb3);have c03 := HC.out.1 w3 HB3.out;clear hb3)
    | (go_at_call 20;refine (HKW.out w3 HB3.out).mono ?_;rintro e w4 ⟨rfl,X4,hm4,hs4⟩;have HL4 := Lib.hid (And.intro ((HH.out.below HB3.out).mv hm4 hs4) ((Mv.of_below _ HB3.out).trans (hm4.cons L)));clear hm4 hs4))
    go_ret2
    unfold PutLP
    rw [HP.out]
    exact ⟨rfl,X4,HL4.out.2,HL4.out.1⟩
open Go.RowKit
def getL (m : StoM) (r : Nat) (id : Bs) : (Bs × Nat) × Nat :=
 if findE m.F (nameL id) = 0 then (if shaS (readW m (nameL id)) = id then ((readW m (nameL id),0),r + 1) else (([],14),r)) else (([],findE m.F (nameL id)),r)
def GetLP (X : List Nat) (S D Lg M L : Nat) (m : StoM) (p q : Nat) (o : (Bs × Nat) × Nat) (w : World) (e : Ending) (w' : World) : Prop :=
 e = .returned (.tuple #[.string (mk o.1.1), .int .i64 (o.1.2 : Int)]) ∧ Mv (L :: S :: M :: X) (L :: S :: M :: X) w w' ∧ Loo w' X S D Lg M m L p q o.2
set_option maxRecDepth 100000 in
set_option maxHeartbeats 2000000 in
theorem get_loose {X : List Nat} {S D Lg M : Nat} {m : StoM} {L p q r : Nat} (id : Bs) (w : World) (h : Loo w X S D Lg M m L p q r) (hi : Rdy m) (hd : id.length = 32) (hr : r < 1000000) (hrd : (readW m (nameL id)).length ≤ 1000000000) :
  Calls Tryz.prog 9 #[.pointer (some ⟨L,0,none⟩), .string (mk id)] w (GetLP X S D Lg M L m p q (getL m r id) w) := by
 have hnl : (nameL id).length ≤ maxLen := by rw [nameL_length,hd];decide
 have zs : (mk id).size = 32 := by rw [mk_size,hd]
 have hE2 := findE_name m.F (id := id) (by omega)
 obtain ⟨E,hE⟩ : ∃ t,findE m.F (nameL id) = t := ⟨_,rfl⟩
 obtain ⟨v,hv⟩ : ∃ t,readW m (nameL id) = t := ⟨_,rfl⟩
 obtain ⟨Y,hY⟩ : ∃ t,mk id = t := ⟨_,rfl⟩
 obtain ⟨V,hV⟩ : ∃ t,mk v = t := ⟨_,rfl⟩
 obtain ⟨NM,hNM⟩ : ∃ t,mk (nameL id) = t := ⟨_,rfl⟩
 obtain ⟨I,hI⟩ : ∃ t,mk (shaS v) = t := ⟨_,rfl⟩
 have KM : ∀ w1,Calls Tryz.prog 36 #[.string Y] w1 fun e w' => e = .returned (.string NM) ∧ Below w1.heap.size w1 w' := fun w1 => by
  rw [← hY, ← hNM];exact name_any id w1 hd
 have KR : ∀ w1,Below w.heap.size w w1 → Calls Tryz.prog 37 #[.pointer (some ⟨S,0,none⟩), .string NM] w1 fun e w' => e = .returned (.tuple #[.string V, .int .i64 (E : Nat)]) ∧ Below w1.heap.size w1 w' := fun w1 hb => by
  rw [← hE, ← hNM, ← hV, ← hv];exact opS_any X S D Lg M m (nameL id) w1 (h.below hb).sto hi hnl
 have KSUM : ∀ (g : Nat) (w1 : World),Below w.heap.size w w1 → w1.cell? ⟨g,0,none⟩ = some (.string V) → Calls Tryz.prog 31 #[.slice (some ⟨g,0,none⟩) 1 1] w1 fun e w' => e = .returned (.string I) ∧ Below w1.heap.size w1 w' := fun g w1 hb hc => by
  rw [← hI];exact sum1_any v g 0 1 w1 (by rw [hc,hV]) (by rw [← hv];exact hrd) (h.rt.below h.pos hb) (Nat.lt_of_lt_of_le h.pos hb.size)
 have c0 := fun (w1 : World) (hb : Below w.heap.size w w1) => (h.blk.below hb).cell 0
 simp at c0
 have hP : getL m r id = if E = 0 then (if shaS v = id then ((v,0),r + 1) else (([],14),r)) else (([],E),r) := by unfold getL;rw [hE,hv]
 obtain ⟨P,hPP⟩ : ∃ t,getL m r id = t := ⟨_,rfl⟩
 rw [hPP] at hP ⊢
 rw [hY] at zs ⊢
 rw [hE] at hE2
 have hcmp : (I.toList == Y.toList) = decide (shaS v = id) := by
  rw [← hI, ← hY,mk_toList',mk_toList']
  rw [Bool.eq_iff_iff];simp
 have HKM := Lib.hid KM
 have HKR := Lib.hid KR
 have HKSUM := Lib.hid KSUM
 have HC := Lib.hid c0
 have HH := Lib.hid h
 have HV := Lib.hid hV
 have mixed := mixedT
 clear hnl hE hv hY hV hNM hI KM KR KSUM c0 hPP h hi hd hrd
 rcases hE2 with rfl | rfl
 ·rw [if_pos rfl] at hP
  by_cases hs : shaS v = id
  ·rw [if_pos hs] at hP
   rw [decide_eq_true hs] at hcmp
   have hcm2 : (I.toList != Y.toList) = false := by rw [bne,hcmp];rfl
   have HP := Lib.hid hP
   clear hP hs
   go_enter Tryz.func9,Tryz.ntmps9
   go_wp2
   refine wp_region_held (S := fun w' => Below w.heap.size w w') mixed ?_
   change wpAnyH _ _ _ _ _ _ _ _ w.drew
   have hS0 : Below w.heap.size w w.drew := (Below.refl _ _).drew
   obtain ⟨W0,hW0⟩ : ∃ t,w.drew = t := ⟨_,rfl⟩
   rw [hW0] at hS0 ⊢
   clear hW0
   refine tkQ 0 (.pointer (some ⟨L,0,none⟩)) rfl hS0 ?_
   try go_simp
   refine tkQ 1 (.pointer (some ⟨L,0,none⟩)) rfl hS0 ?_
   try go_simp
   refine tkQ 2 (.pointer (some ⟨L,0,none⟩)) rfl hS0 ?_
   try go_simp
   refine tkH 3 (.pointer (some ⟨S,0,none⟩)) rfl hS0 (fun w' hS => ?_) ?_
   ·have q0 := HC.out w' hS;go_simp
   try go_simp
   refine tkQ 4 (.string Y) rfl hS0 ?_
   try go_simp
   refine alH 5 ?_
   unfold wpOp
   go_simp
   refine .inl ?_
   refine (HKM.out W0).mono ?_
   rintro e w1 ⟨rfl,hb1⟩
   have hS1 := hS0.trans (hb1.mono hS0.size)
   refine ⟨hS1, ?_⟩
   try go_simp
   clear hS0 hb1
   refine alH 6 ?_
   unfold wpOp
   go_simp
   refine .inl ?_
   refine (HKR.out w1 hS1).mono ?_
   rintro e w2 ⟨rfl,hb2⟩
   have hS2 := hS1.trans (hb2.mono hS1.size)
   refine ⟨hS2, ?_⟩
   try go_simp
   clear hS1 hb2
   refine tkQ 7 (.tuple #[.string V, .int .i64 0]) rfl hS2 ?_
   try go_simp
   refine tkQ 8 (.string V) rfl hS2 ?_
   try go_simp
   refine tkQ 9 (.int .i64 0) rfl hS2 ?_
   try go_simp
   refine tkQ 10 (.string V) rfl hS2 ?_
   try go_simp
   refine tkQ 11 (.int .i64 0) rfl hS2 ?_
   try go_simp
   refine wpAnyH_done (by kernel_rfl) ?_ _
   have HS2 := Lib.hid hS2
   clear hS2
   go_wp2_with (go_at_call 31;refine (HKSUM.out _ _ (HS2.out.alloc HS2.out.size (.cells #[.string V] 9)) ((Blk.new _ #[.string V] 9).cell 0)).mono ?_;rintro e w3 ⟨rfl,hb3⟩;have HB3 := Lib.hid (below_step (HS2.out.alloc HS2.out.size (.cells #[.string V] 9)) hb3);clear hb3)
   have c3 := (HH.out.below HB3.out).blk.cell 3
   have f3 := (HH.out.below HB3.out).blk.frozen 3
   simp at c3
   have HCC := Lib.hid (And.intro c3 f3)
   clear c3 f3
   go_wp2_with (go_at_call 34;refine (add1_any ⟨L,3,none⟩ r w3 (by omega) (by omega) HCC.out.1 HCC.out.2).mono ?_;rintro e w7 ⟨⟨v7,rfl⟩,rfl⟩)
   go_ret2
   unfold GetLP
   rw [HP.out]
   exact ⟨congrArg (fun t => Ending.returned (Value.tuple #[.string t, .int .i64 0])) HV.out.symm,(Mv.of_below _ HB3.out).trans (Mv.of_grown (grown_set w3 L 3 _) (List.mem_cons_self ..)),(HH.out.below HB3.out).set 3 _ p q (r + 1) (by simp)⟩
  ·rw [if_neg hs] at hP
   rw [decide_eq_false hs] at hcmp
   have hcm2 : (I.toList != Y.toList) = true := by rw [bne,hcmp];rfl
   have HP := Lib.hid hP
   clear hP hs
   go_enter Tryz.func9,Tryz.ntmps9
   go_wp2
   refine wp_region_held (S := fun w' => Below w.heap.size w w') mixed ?_
   change wpAnyH _ _ _ _ _ _ _ _ w.drew
   have hS0 : Below w.heap.size w w.drew := (Below.refl _ _).drew
   obtain ⟨W0,hW0⟩ : ∃ t,w.drew = t := ⟨_,rfl⟩
   rw [hW0] at hS0 ⊢
   clear hW0
   refine tkQ 0 (.pointer (some ⟨L,0,none⟩)) rfl hS0 ?_
   try go_simp
   refine tkQ 1 (.pointer (some ⟨L,0,none⟩)) rfl hS0 ?_
   try go_simp
   refine tkQ 2 (.pointer (some ⟨L,0,none⟩)) rfl hS0 ?_
   try go_simp
   refine tkH 3 (.pointer (some ⟨S,0,none⟩)) rfl hS0 (fun w' hS => ?_) ?_
   ·have q0 := HC.out w' hS;go_simp
   try go_simp
   refine tkQ 4 (.string Y) rfl hS0 ?_
   try go_simp
   refine alH 5 ?_
   unfold wpOp
   go_simp
   refine .inl ?_
   refine (HKM.out W0).mono ?_
   rintro e w1 ⟨rfl,hb1⟩
   have hS1 := hS0.trans (hb1.mono hS0.size)
   refine ⟨hS1, ?_⟩
   try go_simp
   clear hS0 hb1
   refine alH 6 ?_
   unfold wpOp
   go_simp
   refine .inl ?_
   refine (HKR.out w1 hS1).mono ?_
   rintro e w2 ⟨rfl,hb2⟩
   have hS2 := hS1.trans (hb2.mono hS1.size)
   refine ⟨hS2, ?_⟩
   try go_simp
   clear hS1 hb2
   refine tkQ 7 (.tuple #[.string V, .int .i64 0]) rfl hS2 ?_
   try go_simp
   refine tkQ 8 (.string V) rfl hS2 ?_
   try go_simp
   refine tkQ 9 (.int .i64 0) rfl hS2 ?_
   try go_simp
   refine tkQ 10 (.string V) rfl hS2 ?_
   try go_simp
   refine tkQ 11 (.int .i64 0) rfl hS2 ?_
   try go_simp
   refine wpAnyH_done (by kernel_rfl) ?_ _
   have HS2 := Lib.hid hS2
   clear hS2
   go_wp2_with (go_at_call 31;refine (HKSUM.out _ _ (HS2.out.alloc HS2.out.size (.cells #[.string V] 9)) ((Blk.new _ #[.string V] 9).cell 0)).mono ?_;rintro e w3 ⟨rfl,hb3⟩;have HB3 := Lib.hid (below_step (HS2.out.alloc HS2.out.size (.cells #[.string V] 9)) hb3);clear hb3)
   go_ret2
   unfold GetLP
   rw [HP.out]
   exact ⟨rfl,Mv.of_below _ HB3.out,HH.out.below HB3.out⟩
 ·rw [if_neg (by decide)] at hP
  have HP := Lib.hid hP
  clear hP hcmp
  go_enter Tryz.func9,Tryz.ntmps9
  go_wp2
  refine wp_region_held (S := fun w' => Below w.heap.size w w') mixed ?_
  change wpAnyH _ _ _ _ _ _ _ _ w.drew
  have hS0 : Below w.heap.size w w.drew := (Below.refl _ _).drew
  obtain ⟨W0,hW0⟩ : ∃ t,w.drew = t := ⟨_,rfl⟩
  rw [hW0] at hS0 ⊢
  clear hW0
  refine tkQ 0 (.pointer (some ⟨L,0,none⟩)) rfl hS0 ?_
  try go_simp
  refine tkQ 1 (.pointer (some ⟨L,0,none⟩)) rfl hS0 ?_
  try go_simp
  refine tkQ 2 (.pointer (some ⟨L,0,none⟩)) rfl hS0 ?_
  try go_simp
  refine tkH 3 (.pointer (some ⟨S,0,none⟩)) rfl hS0 (fun w' hS => ?_) ?_
  ·have q0 := HC.out w' hS;go_simp
  try go_simp
  refine tkQ 4 (.string Y) rfl hS0 ?_
  try go_simp
  refine alH 5 ?_
  unfold wpOp
  go_simp
  refine .inl ?_
  refine (HKM.out W0).mono ?_
  rintro e w1 ⟨rfl,hb1⟩
  have hS1 := hS0.trans (hb1.mono hS0.size)
  refine ⟨hS1, ?_⟩
  try go_simp
  clear hS0 hb1
  refine alH 6 ?_
  unfold wpOp
  go_simp
  refine .inl ?_
  refine (HKR.out w1 hS1).mono ?_
  rintro e w2 ⟨rfl,hb2⟩
  have hS2 := hS1.trans (hb2.mono hS1.size)
  refine ⟨hS2, ?_⟩
  try go_simp
  clear hS1 hb2
  refine tkQ 7 (.tuple #[.string V, .int .i64 9]) rfl hS2 ?_
  try go_simp
  refine tkQ 8 (.string V) rfl hS2 ?_
  try go_simp
  refine tkQ 9 (.int .i64 9) rfl hS2 ?_
  try go_simp
  refine tkQ 10 (.string V) rfl hS2 ?_
  try go_simp
  refine tkQ 11 (.int .i64 9) rfl hS2 ?_
  try go_simp
  refine wpAnyH_done (by kernel_rfl) ?_ _
  have HS2 := Lib.hid hS2
  clear hS2
  go_wp2
  go_ret2
  unfold GetLP
  rw [HP.out]
  exact ⟨rfl,Mv.of_below _ HS2.out,HH.out.below HS2.out⟩
open Go.RowKit
theorem parse_all (s : Bs) (w : World) : Calls Tryz.prog 42 #[.string (mk s)] w fun e w' => e = .returned (.tuple #[.string (mk (parseR s).1), .bool (parseR s).2]) ∧ Below w.heap.size w w' := by
 by_cases h : s.length = 64
 ·exact parse_64 s w h
 ·have : parseR s = ([],false) := by unfold parseR;rw [if_neg h]
  rw [this]
  exact parse_bad s w h
theorem idOf_eq (nm : Bs) : idOf nm = if (Lib.hasPrefix nm [111] && (parseR (Lib.trimPrefix nm [111])).2) = true then some (parseR (Lib.trimPrefix nm [111])).1 else none := by
 unfold Lib.trimPrefix Lib.hasPrefix
 match nm with
 | [] => rfl
 | c :: h =>
  by_cases hc : c = 111
  ·subst hc
   have e : ([111] : Bs).isPrefixOf (111 :: h) = true := by simp [List.isPrefixOf]
   rw [e,if_pos rfl]
   show (if h.length = 64 then parseH h else none) = _
   simp only [List.length_cons,List.length_nil,Nat.zero_add,List.drop_succ_cons,List.drop_zero,Bool.true_and]
   unfold parseR
   by_cases hl : h.length = 64
   ·rw [if_pos hl,if_pos hl]
    cases parseH h <;> rfl
   ·rw [if_neg hl,if_neg hl];rfl
  ·have e : ([111] : Bs).isPrefixOf (c :: h) = false := by
    simp [List.isPrefixOf]
    exact fun e => hc e.symm
   rw [e]
   have : idOf (c :: h) = none := by
    unfold idOf
    split
    ·rename_i heq
     injection heq with h1 _
     exact absurd h1 hc
    ·rfl
   rw [this]
   rfl
theorem listL_snoc (l : List Bs) (nm : Bs) : listL (l ++ [nm]) = listL l ++ (match idOf nm with | some i => [i] | none => []) := by
 unfold listL
 rw [List.filterMap_append]
 congr 1
 cases h : idOf nm <;> simp [h]
set_option maxRecDepth 100000 in
set_option maxHeartbeats 2000000 in
theorem list_loose {X : List Nat} {S D Lg M : Nat} {m : StoM} {L p q r : Nat} (w : World) (h : Loo w X S D Lg M m L p q r) (hF : m.F.length ≤ 1000) :
  Calls Tryz.prog 14 #[.pointer (some ⟨L,0,none⟩)] w fun e w' => ∃ A c,e = .returned (.slice A (listL (namesS m.F)).length c) ∧ w'.ownsRow w.heap.size 9 1 (.slice A (listL (namesS m.F)).length c) (listL (namesS m.F)).length (txc (listL (namesS m.F))) ∧ Below w.heap.size w w' := by
 obtain ⟨i9,hi0,hi1,hi2,hi3⟩ := info_parts info9
 have KN := fnames_any X S D Lg M m w h.sto hF
 have hnl : (namesS m.F).length ≤ 1000 := by unfold namesS;rw [List.length_mergeSort,List.length_map];exact hF
 have c0 := h.blk.cell 0
 simp at c0
 obtain ⟨N,hN⟩ : ∃ t,namesS m.F = t := ⟨_,rfl⟩
 rw [hN] at KN hnl ⊢
 have htx : N.map encStr = txc N := rfl
 rw [htx] at KN
 obtain ⟨n,hn⟩ : ∃ t,N.length = t := ⟨_,rfl⟩
 rw [hn] at KN hnl
 have HKN := Lib.hid KN
 have HN := Lib.hid hn
 clear KN hN htx hn h hF
 go_enter Tryz.func14,Tryz.ntmps14
 go_wp2_with (go_at_call 40;refine HKN.out.mono ?_;rintro e w1 ⟨A,c,rfl,hrow1,hb1⟩;have HW1 := Lib.hid (And.intro (row_lies hrow1) hb1);clear hrow1 hb1)
 obtain ⟨B,hB⟩ : ∃ t,w1.heap.size = t := ⟨_,rfl⟩
 have HB := Lib.hid (show w.heap.size ≤ B from by rw [← hB];exact HW1.out.2.size)
 have HI := Lib.hid (And.intro hi0 (And.intro hi1 (And.intro hi2 hi3)))
 go_loopw [3,18] (fun ov kv wr => ∃ k : Nat,k ≤ n ∧ kv = .int .i64 (k : Int) ∧ wr.ownsRow B 9 1 ov (listL (N.take k)).length (txc (listL (N.take k))) ∧ Below B w1 wr) (fun _ kv _ => n - (intOf kv).toNat)
 case atStart => exact ⟨0,by omega,rfl,World.ownsRow_nil _ _ _ _,by rw [← hB];exact Below.refl _ _⟩
 case round =>
  obtain ⟨k,hk,rfl,hown,hbl⟩ := hrel
  obtain ⟨A3,c3,rfl⟩ := row_form hown
  have hsz : B ≤ wr.heap.size := by rw [← hB];exact hbl.size
  by_cases hkt : k < n
  ·have k0 : (0 : Int) ≤ (k : Int) := by omega
   have k1 : (k : Int) < (n : Int) := by omega
   have hkN : k < N.length := by rw [HN.out];exact hkt
   have hl2 : Lies wr A (txc N) := HW1.out.1.below (by rw [hB];exact Nat.le_refl B) hbl
   obtain ⟨g,o,rfl,hg,hcell⟩ := hl2 (by simp [txc];omega)
   have hx := hcell k _ (txc_at N k hkN)
   have htk : listL (N.take (k + 1)) = listL (N.take k) ++ (match idOf N[k] with | some i => [i] | none => []) := by
    rw [List.take_succ_eq_append_getElem hkN,listL_snoc]
   obtain ⟨nm,hnm⟩ : ∃ t,N[k] = t := ⟨_,rfl⟩
   rw [hnm] at hx htk
   rw [idOf_eq] at htk
   have KC := Tryz.strings_CutPrefix (mk nm) ⟨#[111]⟩ wr
   rw [mk_data,show (ByteArray.data ⟨#[111]⟩).toList = [111] from rfl,show (⟨(Lib.trimPrefix nm [111]).toArray⟩ : ByteArray) = mk (Lib.trimPrefix nm [111]) from rfl] at KC
   obtain ⟨hex,hhex⟩ : ∃ t,Lib.trimPrefix nm [111] = t := ⟨_,rfl⟩
   rw [hhex] at KC htk
   have KP := parse_all hex wr
   obtain ⟨PR,hPR⟩ : ∃ t,parseR hex = t := ⟨_,rfl⟩
   obtain ⟨id,is⟩ := PR
   rw [hPR] at KP htk
   dsimp only at KP htk
   obtain ⟨NM,hNM⟩ : ∃ t,mk nm = t := ⟨_,rfl⟩
   obtain ⟨HX,hHX⟩ : ∃ t,mk hex = t := ⟨_,rfl⟩
   obtain ⟨ID,hID⟩ : ∃ t,mk id = t := ⟨_,rfl⟩
   rw [hNM] at hx KC
   rw [hHX] at KC KP
   rw [hID] at KP
   obtain ⟨lk,hlk⟩ : ∃ t,(listL (N.take k)).length = t := ⟨_,rfl⟩
   have hlkn : lk ≤ 1000 := by
    have h1 := List.length_filterMap_le idOf (N.take k)
    have h2 : (N.take k).length ≤ k := List.length_take_le _ _
    have h3 : (listL (N.take k)).length = ((N.take k).filterMap idOf).length := rfl
    omega
   rw [hlk] at hown ⊢
   have HKC := Lib.hid KC
   have HKP := Lib.hid KP
   have HT := Lib.hid htk
   have HOB := Lib.hid (And.intro hown (And.intro hbl hsz))
   have HID := Lib.hid (And.intro hID hlk)
   have HHB := Lib.hid hB
   clear KC KP htk hl2 hcell hnm hhex hPR hNM hHX hID hown hbl hlk hkN
   cases hok : Lib.hasPrefix nm [111] with
   | false =>
    rw [hok] at HKC HT
    rw [Bool.false_and,if_neg (by decide)] at HT
    clear hB
    go_wp2_with (first
     | (go_at_call 41;refine HKC.out.mono ?_;rintro e w2 ⟨rfl,rfl⟩)
     | (go_at_call 42;refine HKP.out.mono ?_;rintro e w3 ⟨rfl,hb3⟩;have HB3 := Lib.hid (below_step (w0 := w2) (Below.refl _ _) hb3);clear hb3))
    go_roundw
    case rel =>
     refine ⟨k + 1,by omega,by go_num, ?_,HOB.out.2.1.trans (HB3.out.mono HOB.out.2.2)⟩
     rw [HT.out,List.append_nil,HID.out.2]
     exact own_below HOB.out.1 HB3.out
    case measure => simp [intOf];omega
   | true =>
    rw [hok] at HKC HT
    rw [Bool.true_and] at HT
    cases is with
    | false =>
     rw [if_neg (by decide)] at HT
     clear hB
     go_wp2_with (first
      | (go_at_call 41;refine HKC.out.mono ?_;rintro e w2 ⟨rfl,rfl⟩)
      | (go_at_call 42;refine HKP.out.mono ?_;rintro e w3 ⟨rfl,hb3⟩;have HB3 := Lib.hid (below_step (w0 := w2) (Below.refl _ _) hb3);clear hb3))
     go_roundw
     case rel =>
      refine ⟨k + 1,by omega,by go_num, ?_,HOB.out.2.1.trans (HB3.out.mono HOB.out.2.2)⟩
      rw [HT.out,List.append_nil,HID.out.2]
      exact own_below HOB.out.1 HB3.out
     case measure => simp [intOf];omega
    | true =>
     rw [if_pos rfl] at HT
     clear hB
     go_wp2_with (first
      | (go_at_call 41;refine HKC.out.mono ?_;rintro e w2 ⟨rfl,rfl⟩)
      | (go_at_call 42;refine HKP.out.mono ?_;rintro e w3 ⟨rfl,hb3⟩;have HNW := Lib.hid (show (w3.alloc (.cells #[.string ID] 9)).ownsRow B 9 1 (.slice A3 lk c3) lk (txc (listL (N.take k))) ∧ Below B w1 (w3.alloc (.cells #[.string ID] 9)) ∧ B ≤ w3.heap.size from ⟨World.ownsRow.alloc (own_below HOB.out.1 hb3) _,(HOB.out.2.1.trans (hb3.mono HOB.out.2.2)).alloc (Nat.le_trans HOB.out.2.2 hb3.size) _,Nat.le_trans HOB.out.2.2 hb3.size⟩);clear hb3)
      | (at_builtin;refine wpList_append_lies _ rfl (.tmp 36) (.tmp 38) 33 rfl B 9 i9 _ 1 16 Tryz.underlying33 HI.out.1 HI.out.2.1 HI.out.2.2.1 HI.out.2.2.2 rfl (by decide) (.slice A3 lk c3) lk _ rfl HNW.out.1 ⟨_,0,none⟩ 1 1 [.string ID] rfl rfl (World.news_of_block (heap_alloc_new w3 (.cells #[.string ID] 9))) (by simp [Value.oneCell']) (by omega) (by unfold maxLen;omega) (by omega) (by have := HNW.out.2.2;simp;omega) _ rfl ?_;intro g4 c4 W4 hS4 hg4 _ _;have HS4 := Lib.hid (And.intro hS4 (HNW.out.2.1.grown hg4 (by have := HNW.out.2.2;simp;omega) (fun y hy => (HNW.out.1.lt y hy).1)));clear hS4 hg4))
     go_roundw
     case rel =>
      refine ⟨k + 1,by omega,by go_num, ?_,HS4.out.2⟩
      rw [HT.out,List.length_append,HID.out.2,show txc (listL (N.take k) ++ [id]) = txc (listL (N.take k)) ++ [.string ID] by rw [txc_snoc,HID.out.1]]
      exact HS4.out.1
     case measure => simp [intOf];omega
  ·obtain rfl : n = k := by omega
   rw [List.take_of_length_le (by rw [HN.out];exact Nat.le_refl _)] at hown
   rw [List.take_of_length_le (by rw [HN.out];exact Nat.le_refl _)]
   have HF := Lib.hid (And.intro (own_weaken hown HB.out) (HW1.out.2.trans (hbl.mono HB.out)))
   clear hown hbl hB hsz hk hkt
   go_wp2
   go_ret
   exact ⟨A3,c3,rfl,HF.out⟩
theorem read_same {m m' : StoM} {f : FileM} (hm : m'.most = m.most) (h : ∀ i ∈ secL (m.most + 7) f.ext,secAt m'.ds.vis i = secAt m.ds.vis i) : readF m' f = readF m f := by
 unfold readF
 rw [hm,secsB_congr h]
theorem settle_read {m : StoM} (h : Inv m) {T2 T' : List Bool} {C : List (Nat × Bs)} {F' : List FileM} {o : Bool} (hC : ∀ c ∈ C,c.1 < m.most) (hl : C.length ≤ 2) (g : FileM) :
  readF ⟨(DS.run (settleC m.most T2 C) m.ds).2,F',T',m.most,o⟩ g = readF m g :=
 read_same rfl (fun i hi => put_other h.cut h.on [] [] hC hl i (secL_ge hi) (by simp))
theorem put_read {m : StoM} (h : Inv m) {T2 : List Bool} {L : List Nat} {dt : Bs} {f : FileM} {F' : List FileM} {o : Bool} (he : f.entry < m.most) (g : FileM) (hg : ∀ i ∈ secL (m.most + 7) g.ext,i ∉ L) :
  readF ⟨(DS.run (putC m.most T2 L dt f) m.ds).2,F',T2,m.most,o⟩ g = readF m g :=
 read_same rfl (fun i hi => put_other h.cut h.on L dt (fun c hc => by
  have : c = (f.entry,entryB f.name f.size f.ext) := by simpa using hc
  subst this;exact he) (by simp) i (secL_ge hi) (hg i hi))
theorem mem_unitsF {j : Nat} {F : List FileM} : j ∈ unitsF F ↔ ∃ f ∈ F,j ∈ unitsL f.ext := List.mem_flatMap
theorem write_read {m : StoM} {name data : Bs} {T2 : List Bool} {f : FileM} (h : Inv m) (hp : preW m name data = (0,some (T2,f))) :
  f.name = name ∧ readF ⟨(DS.run (putC m.most T2 (secL (m.most + 7) f.ext) data f) m.ds).2,putF m.F f,T2,m.most,m.off⟩ f = data ∧
   ∀ g ∈ delF m.F name,readF ⟨(DS.run (putC m.most T2 (secL (m.most + 7) f.ext) data f) m.ds).2,putF m.F f,T2,m.most,m.off⟩ g = readF m g := by
 obtain ⟨p1,p2,p3,p4,p5,T1,p6,p7⟩ := preW_some hp
 obtain ⟨u1,u2,u3⟩ := put_units h p6 p7
 obtain ⟨s1,s2⟩ := slot_fresh h p3
 obtain ⟨a1,a2,a3,_,a5,_⟩ := takeS_facts p6
 have hu := List.nodup_append.1 u2
 refine ⟨p4, ?_,fun g hg => put_read h s1 g (fun i hi hL => ?_)⟩
 ·have hn := put_new h.cut h.on (secL (m.most + 7) f.ext) data (most := m.most) (T := T2) (C := [(f.entry,entryB f.name f.size f.ext)]) (fun c hc => by
   have : c = (f.entry,entryB f.name f.size f.ext) := by simpa using hc
   subst this;exact s1) (by simp) (fun i hi => secL_ge hi) (secL_nodup hu.1) (put_secs h.b a3) (by rw [secL_length,a5];unfold needsN;omega)
  show (secsB (DS.run (layC (secL (m.most + 7) f.ext) data ++ settleC m.most T2 [(f.entry,entryB f.name f.size f.ext)]) m.ds).2.vis (secL (m.most + 7) f.ext)).take f.size = data
  rw [hn,p5,List.take_left]
 ·obtain ⟨u,hu1,e1⟩ := mem_secL.1 hi
  obtain ⟨v,hv1,e2⟩ := mem_secL.1 hL
  have : u = v := by omega
  subst this
  exact hu.2.2 u hv1 u (mem_unitsF.2 ⟨g,hg,hu1⟩) rfl
structure Od (m : StoM) : Prop where
 head : secAt m.ds.vis 0 = headB m.ds.L.length m.most
 map : secAt m.ds.vis 1 = fullB (packB m.T)
 ent : ∀ f ∈ m.F,secAt m.ds.vis (2 + f.entry) = entryB f.name f.size f.ext
 vac : ∀ e,e < m.most → (∀ f ∈ m.F,f.entry ≠ e) → secAt m.ds.vis (2 + e) = zeroS
 log : secAt m.ds.vis (2 + m.most) = zeroS
 some : 1 ≤ m.T.length
theorem mem_delF {F : List FileM} {t : Bs} {g : FileM} : g ∈ delF F t ↔ g ∈ F ∧ g.name ≠ t := by
 unfold delF;rw [List.mem_filter];simp
theorem fin_on {m : StoM} {l : List Cmd} {F : List FileM} {T : List Bool} (h1 : m.ds.cut = none) (h2 : m.ds.off = false) : finW (DS.run l m.ds) F T m = (0,⟨(DS.run l m.ds).2,F,T,m.most,m.off⟩) := by
 unfold finW
 rw [if_pos (run_on l m.ds h1 h2).1]
theorem two2_mem {i j : Nat} {t u : Bs} {c : Nat × Bs} : c ∈ two2 i t j u ↔ c = (i,t) ∨ c = (j,u) := by
 unfold two2
 split
 ·simp
 ·simp [or_comm]
structure Rel (m : StoM) (F : List PF) (T : List Bool) : Prop where
 t : m.T = T
 perm : m.F.Perm (F.map toM)
 data : ∀ g ∈ F,readF m (toM g) = g.data
end Go.Proofs.YtmjdmijloanfnaaGreatDoor
