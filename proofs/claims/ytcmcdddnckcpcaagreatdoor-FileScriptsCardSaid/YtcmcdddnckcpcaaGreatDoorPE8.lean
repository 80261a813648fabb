/- Packed: Mt, Bt, Dv, Ct, Pq, Rc, Od, Oe, Of, Rl, Ro, Sm, Fe, Fv, Fu, Ba, Aa. -/
import Derived.Test.YtcmcdddnckcpcaaGreatDoorPE1
import Derived.Test.YtcmcdddnckcpcaaGreatDoorPE7
import Derived.Test.YtcmcdddnckcpcaaGreatDoorPE4
import Derived.Test.YtcmcdddnckcpcaaGreatDoorPE6
import Derived.Laws.Cover1
import Derived.Deep.CutBlock
import Derived.Test.YtcmcdddnckcpcaaGreatDoorRows
import Derived.ProofKit
import Derived.LaidMore
import Derived.OpenShut
import Derived.ShutString
import Derived.Deep.DeepHandedRow
import Derived.Shelf.Vars
import Derived.MakeChecks
import Derived.Lib.LaidTab
import Derived.Deep.Slices
import Derived.SizedLaws
namespace Go.Proofs.YtcmcdddnckcpcaaGreatDoor
open Go.RowKit Go.Maps
def filesH (h : Bs) : Nat := byteAt h 4 * 256 + byteAt h 5
def headOk (ds : DS) : Bool := decide (1 ≤ filesH (secAt ds.vis 0)) && (decide (filesH (secAt ds.vis 0) ≤ 256) && (decide (filesH (secAt ds.vis 0) + 8 ≤ ds.L.length) && (secAt ds.vis 0 == headB ds.L.length (filesH (secAt ds.vis 0)))))
def logR (ds : DS) (files : Nat) : Nat × DS := DS.run (openC (saidB ds.vis (2 + files) 5) (2 + files)) ds
def mountM (ds : DS) : Nat × DS × Option (List FileM × List Bool) :=
 if headOk ds = false then (2,ds,none) else
  if (logR ds (filesH (secAt ds.vis 0))).1 ≠ 0 then (7,(logR ds (filesH (secAt ds.vis 0))).2,none) else
   match learnL (logR ds (filesH (secAt ds.vis 0))).2.vis (ds.L.length - (filesH (secAt ds.vis 0) + 7)) (filesH (secAt ds.vis 0)) with
   | none => (14,(logR ds (filesH (secAt ds.vis 0))).2,none)
   | some st => (0,(logR ds (filesH (secAt ds.vis 0))).2,some st)
def MountP (X : List Nat) (D : Nat) (files : Nat) (R : Nat × DS × Option (List FileM × List Bool)) (w : World) (e : Ending) (w' : World) : Prop :=
 ∃ X',Dsk w' X' D R.2.1 ∧ Mv X X' w w' ∧ match R.2.2 with
 | some (F,T) => ∃ S Lg M,e = .returned (.tuple #[.pointer (some ⟨S,0,none⟩), .int .i64 0]) ∧ Sto w' X' S D Lg M ⟨R.2.1,F,T,files,false⟩ ∧ w.heap.size ≤ S ∧ w.heap.size ≤ M ∧ w.heap.size ≤ Lg
 | none => e = .returned (.tuple #[.pointer none, .int .i64 ((R.1 : Nat) : Int)])
theorem Mv.hide2 {X X' : List Nat} {S M : Nat} {w w4 w5 : World} (h : Mv X X' w w4) (k : Mv (S :: M :: X') (S :: M :: X') w4 w5) (hS : w.heap.size ≤ S) (hM : w.heap.size ≤ M) : Mv X X' w w5 := by
 refine ⟨⟨k.frm.os.trans h.frm.os,k.frm.tape.trans h.frm.tape,k.frm.output.trans h.frm.output,Nat.le_trans h.size k.size,fun b hb hx => ?_⟩,h.sub⟩
 refine (k.frm.block b (Nat.lt_of_lt_of_le hb h.size) (fun hm => ?_)).trans (h.frm.block b hb hx)
 rcases List.mem_cons.1 hm with rfl | hm
 ·omega
 ·rcases List.mem_cons.1 hm with rfl | hm
  ·omega
  ·exact h.apart hx hb hm
theorem run_off (l : List Cmd) : ∀ d,d.off = false → (DS.run l d).1 = 0 → (DS.run l d).2.off = false := by
 induction l with
 | nil => intro d h _;exact h
 | cons c l ih =>
  intro d h h0
  have hst : ∀ d : DS,d.step.1 = 0 → d.step.2.off = false := fun d h => by
   unfold DS.step at h ⊢
   split at h
   ·cases h
   ·rename_i ho
    rw [if_neg ho]
    split at h
    ·simpa using ho
    ·split at h
     ·cases h
     ·rename_i hn
      rw [if_neg hn]
  have hc : (d.cmd c).1 = 0 → (d.cmd c).2.off = false := fun h => by
   cases c with
   | wr i b => change (d.write i b).1 = 0 at h
               show (d.write i b).2.off = false
               unfold DS.write at h ⊢;split at h
               ·rename_i h1;rw [if_pos h1];exact hst d h1
               ·rename_i h1;exact absurd h h1
   | sy => change d.sync.1 = 0 at h
           show d.sync.2.off = false
           unfold DS.sync at h ⊢;split at h
           ·rename_i h1;rw [if_pos h1];exact hst d h1
           ·rename_i h1;exact absurd h h1
  rw [DS.run] at h0 ⊢
  split at h0
  ·rename_i h1
   rw [if_pos h1]
   exact ih _ (hc h1) h0
  ·rename_i h1
   exact absurd h0 h1
set_option maxRecDepth 100000 in
set_option maxHeartbeats 4000000 in
theorem mount_any (X : List Nat) (D : Nat) (ds : DS) (w : World) (h : Dsk w X D ds) (ho : ds.off = false) (hL : 1 ≤ ds.L.length) (hS : ds.S.length ≤ 990000) (hT : TB w) (hw : 0 < w.heap.size) (hX0 : 0 ∉ X) :
  Calls Tryz.prog 24 #[.pointer (some ⟨D,0,none⟩)] w (MountP X D (filesH (secAt ds.vis 0)) (mountM ds) w) := by
 obtain ⟨R,hR⟩ : ∃ q,mountM ds = q := ⟨_,rfl⟩
 rw [hR]
 unfold mountM at hR
 have hgd : DGood ds := h.good
 have hN4 : ds.L.length ≤ 4096 := hgd.small
 have KR1 := read_any X D ds 0 w h (by omega) ho
 have hr1 : ds.vis[0]?.getD [] = secAt ds.vis 0 := rfl
 rw [hr1] at KR1
 have hHl : (secAt ds.vis 0).length = 512 := vis_sec hgd 0 (by omega)
 obtain ⟨hd,hhd⟩ : ∃ q,secAt ds.vis 0 = q := ⟨_,rfl⟩
 rw [hhd] at KR1 hHl hR ⊢
 have hok : headOk ds = (decide (1 ≤ filesH hd) && (decide (filesH hd ≤ 256) && (decide (filesH hd + 8 ≤ ds.L.length) && (hd == headB ds.L.length (filesH hd))))) := by unfold headOk;rw [hhd]
 have q1 : byteAt hd 4 < 256 := byteAt_lt _ _
 have q2 : byteAt hd 5 < 256 := byteAt_lt _ _
 obtain ⟨f,hf⟩ : ∃ q,filesH hd = q := ⟨_,rfl⟩
 have hhb : byteAt hd 4 * 256 + byteAt hd 5 = f := hf
 rw [hf] at hR hok ⊢
 have KZ := fun (w1 : World) (hw : Below w.heap.size w w1) => size_any X D ds w1 (h.below hw)
 have KA := fun w1 => dataAt_any f w1 (by omega)
 have KH := fun w1 => head_any ds.L.length f w1 (by omega) (by omega)
 have KO := fun (hf8 : f + 8 ≤ ds.L.length) (w1 : World) (hb : Below w.heap.size w w1) => open_any X D ds (2 + f) 5 w1 (h.below hb) (by omega) (by omega) (by omega) ho hS (hT.below hw hb) (Nat.lt_of_lt_of_le hw hb.size)
 unfold OpenP at KO
 obtain ⟨r,hr⟩ : ∃ q,logR ds f = q := ⟨_,rfl⟩
 have hr0 : DS.run (openC (saidB ds.vis (2 + f) 5) (2 + f)) ds = r := hr
 simp only [hr0] at KO
 rw [hr] at hR
 have hrl : r.2.L.length = ds.L.length := by rw [← hr];exact (run_len _ _).1
 have hro : r.1 = 0 → r.2.off = false := by rw [← hr];exact run_off _ _ ho
 have KL := fun (hf1 : 1 ≤ f) (hf2 : f ≤ 256) (hf8 : f + 8 ≤ ds.L.length) (h0 : r.1 = 0) (X1 : List Nat) (S Lg M : Nat) (w1 : World) (hs : Sto w1 X1 S D Lg M ⟨r.2,[],[],f,false⟩) => learn_any X1 S D Lg M r.2 f (ds.L.length - (f + 7)) w1 hs (hro h0) ⟨hf1,hf2⟩ (by rw [hrl];omega) (by omega) (by omega)
 have hte := text_eq hd (headB ds.L.length f)
 obtain ⟨HS,hHS⟩ : ∃ q,mk hd = q := ⟨_,rfl⟩
 rw [hHS] at KR1 hte
 obtain ⟨HX,hHX⟩ : ∃ q,mk (headB ds.L.length f) = q := ⟨_,rfl⟩
 simp only [hHX] at KH
 rw [hHX] at hte
 obtain ⟨ja,jb⟩ := at_mkH hd HS hHS 4 (by omega)
 obtain ⟨jc,jd⟩ := at_mkH hd HS hHS 5 (by omega)
 have zH : HS.size = 512 := by rw [← hHS,mk_size,hHl]
 obtain ⟨a1,ha1⟩ : ∃ q,byteAt hd 4 = q := ⟨_,rfl⟩
 obtain ⟨a2,ha2⟩ : ∃ q,byteAt hd 5 = q := ⟨_,rfl⟩
 rw [ha1] at jb hhb q1
 rw [ha2] at jd hhb q2
 have hfb : f ≤ 65535 := by omega
 have hfi : (f : Int) ≤ 65535 := by omega
 have q3 : (0 : Int) ≤ (a1 : Int) ∧ (a1 : Int) < 256 := by omega
 have q4 : (0 : Int) ≤ (a2 : Int) ∧ (a2 : Int) < 256 := by omega
 obtain ⟨N,hN⟩ : ∃ q,ds.L.length = q := ⟨_,rfl⟩
 have hor := or_i64 a1 a2 (by omega) q2
 have w4 : wrap64 (a2 : Int) = (a2 : Int) := word64 q4.1 q4.2 (by decide)
 rw [w4,hhb] at hor
 have w3 : wrap64 (a1 : Int) = (a1 : Int) := word64 q3.1 q3.2 (by decide)
 have w7 : IntKind.i64.wrap (a1 : Int) = (a1 : Int) := by rw [Go.IntWalk.i64_left];exact w3
 have w8 : IntKind.i64.wrap (a2 : Int) = (a2 : Int) := by rw [Go.IntWalk.i64_left];exact w4
 have w5 : IntKind.i64.wrap ((a1 : Int) * 256) = (a1 : Int) * 256 := word256 q3.1 q3.2
 have HD := Lib.hid h
 have HT := Lib.hid (And.intro hT (And.intro hw hX0))
 have HLT := Lib.hid h.lt
 simp only [hN] at KZ KH KO KL hR hok hte
 have HKZ := Lib.hid KZ
 have HKO := Lib.hid KO
 have HKL := Lib.hid KL
 have HRR := Lib.hid hR
 have HOK := Lib.hid hok
 have HRO := Lib.hid (And.intro hro hrl)
 have mixed := mixedT
 clear h ho hL hS hT hw hX0 hr1 KZ KO KL hHl hHS ha1 ha2 hhb hN hR hok hf hr hr0 hrl hro hhd hN4 hgd hHX
 go_enter Tryz.func24,Tryz.ntmps24
 go_upto_region 6 with (first | (go_at_call 33;refine KR1.mono ?_;rintro e w1 ⟨rfl,hw⟩;obtain rfl := hw.symm;clear KR1))
 refine wp_region_held (S := fun _ => True) mixed ?_
 change wpAnyH _ _ _ _ _ _ _ _ w.drew
 have hb0 : Below w.heap.size w w.drew := (Below.refl _ _).drew
 obtain ⟨W0,hW0⟩ : ∃ q,w.drew = q := ⟨_,rfl⟩
 rw [hW0] at hb0 ⊢
 clear hW0
 refine tkQ 0 (.string HS) rfl trivial ?_
 try go_simp
 refine tkQ 1 (.int .u8 (a1 : Int)) rfl trivial ?_
 try go_simp
 refine tkQ 2 (.int .i64 (a1 : Int)) rfl trivial ?_
 try go_simp
 refine tkQ 3 (.int .i64 ((a1 : Int) * 256)) rfl trivial ?_
 try go_simp
 refine tkQ 4 (.string HS) rfl trivial ?_
 try go_simp
 refine tkQ 5 (.int .u8 (a2 : Int)) rfl trivial ?_
 try go_simp
 refine tkQ 6 (.int .i64 (a2 : Int)) rfl trivial ?_
 try go_simp
 refine tkQ 7 (.int .i64 (f : Int)) rfl trivial ?_
 try go_simp
 refine tkQ 8 (.int .i64 (f : Int)) rfl trivial ?_
 try go_simp
 refine wpAnyH_done (by kernel_rfl) ?_ _
 have HB0 := Lib.hid hb0
 clear hor w3 w4 w5 w7 w8 ja jb jc jd q1 q2 q3 q4 zH
 by_cases g1 : f < 1
 ·have hRn : R = (2,ds,none) := by rw [← HRR.out,HOK.out,decide_eq_false (show ¬ 1 ≤ f by omega),Bool.false_and,if_pos rfl]
  subst hRn
  have g1' : (f : Int) < 1 := by omega
  clear g1
  go_wp2_with (first
   | (go_at_call 53;refine (HKZ.out _ hb0).mono ?_;rintro e w1 ⟨rfl,hw⟩;obtain rfl := hw.symm)
   | (go_at_call 54;refine (KA _).mono ?_;rintro e w1 ⟨rfl,hw⟩;obtain rfl := hw.symm))
  go_ret2
  exact ⟨X,HD.out.below HB0.out,Mv.of_below _ HB0.out,rfl⟩
 have g1' : ¬ ((f : Int) < 1) := by omega
 have g1n : 1 ≤ f := by omega
 by_cases g2 : 256 < f
 ·have hRn : R = (2,ds,none) := by rw [← HRR.out,HOK.out,decide_eq_false (show ¬ f ≤ 256 by omega),Bool.false_and,Bool.and_false,if_pos rfl]
  subst hRn
  have g2' : (256 : Int) < (f : Int) := by omega
  have g2'' : (f : Int) > 256 := by omega
  clear g1 g2 g1n
  go_wp2_with (first
   | (go_at_call 53;refine (HKZ.out _ hb0).mono ?_;rintro e w1 ⟨rfl,hw⟩;obtain rfl := hw.symm)
   | (go_at_call 54;refine (KA _).mono ?_;rintro e w1 ⟨rfl,hw⟩;obtain rfl := hw.symm))
  go_ret2
  exact ⟨X,HD.out.below HB0.out,Mv.of_below _ HB0.out,rfl⟩
 have g2' : ¬ ((256 : Int) < (f : Int)) := by omega
 have g2'' : ¬ ((f : Int) > 256) := by omega
 have g2n : f ≤ 256 := by omega
 by_cases g3 : N < f + 8
 ·have hRn : R = (2,ds,none) := by rw [← HRR.out,HOK.out,decide_eq_false (show ¬ f + 8 ≤ N by omega),Bool.false_and,Bool.and_false,Bool.and_false,if_pos rfl]
  subst hRn
  have g3' : (N : Int) < (f : Int) + 7 + 1 := by omega
  clear g1 g2 g3 g1n g2n
  go_wp2_with (first
   | (go_at_call 53;refine (HKZ.out _ hb0).mono ?_;rintro e w1 ⟨rfl,hw⟩;obtain rfl := hw.symm)
   | (go_at_call 54;refine (KA _).mono ?_;rintro e w1 ⟨rfl,hw⟩;obtain rfl := hw.symm))
  go_ret2
  exact ⟨X,HD.out.below HB0.out,Mv.of_below _ HB0.out,rfl⟩
 have g3' : ¬ ((N : Int) < (f : Int) + 7 + 1) := by omega
 have g3n : f + 8 ≤ N := by omega
 have KH1 := KH W0
 by_cases g4 : hd = headB N f
 ·rw [beq_iff_eq.2 g4] at hte
  have HRR2 := Lib.hid (show (if r.1 ≠ 0 then (7,r.2,none) else match learnL r.2.vis (N - (f + 7)) f with | none => (14,r.2,none) | some st => (0,r.2,some st)) = R by
   rw [← HRR.out,HOK.out,decide_eq_true g1n,decide_eq_true g2n,decide_eq_true g3n,beq_iff_eq.2 g4];rfl)
  clear g1 g2 g3 g4 KH
  go_upto_region 9 with (first
   | (go_at_call 53;refine (HKZ.out _ hb0).mono ?_;rintro e w1 ⟨rfl,hw⟩;obtain rfl := hw.symm)
   | (go_at_call 54;refine (KA _).mono ?_;rintro e w1 ⟨rfl,hw⟩;obtain rfl := hw.symm)
   | (go_at_call 55;refine KH1.mono ?_;rintro e w2 ⟨rfl,hb2⟩;have HB2 := Lib.hid (HB0.out.trans (hb2.mono HB0.out.size));clear hb2 KH1))
  clear KA g1' g2' g2'' g3' hb0
  have hmm := @run_makeMap Tryz.prog
  go_upto_region 10 with (fail)
  clear hmm
  have hM0 := FM.made w2 (fun _ => (none,0))
  have hbS := Blk.new (w2.alloc (.map #[] 0)) #[.pointer (some ⟨D,0,none⟩), .pointer none, .int .i64 0, .string ⟨#[]⟩, .map (some w2.heap.size), .int .i64 (f : Int), .bool false] 79
  have hb3 := (HB2.out.alloc HB2.out.size (.map #[] 0)).alloc (by have := HB2.out.size;simp;omega) (.cells #[.pointer (some ⟨D,0,none⟩), .pointer none, .int .i64 0, .string ⟨#[]⟩, .map (some w2.heap.size), .int .i64 (f : Int), .bool false] 79)
  have hM1 := hM0.block (Below.heap_alloc (w2.alloc (.map #[] 0)) (.cells #[.pointer (some ⟨D,0,none⟩), .pointer none, .int .i64 0, .string ⟨#[]⟩, .map (some w2.heap.size), .int .i64 (f : Int), .bool false] 79) w2.heap.size hM0.lt)
  rw [World.size_alloc] at hbS
  have hMge : w.heap.size ≤ w2.heap.size := HB2.out.size
  obtain ⟨W3,hW3⟩ : ∃ q,(w2.alloc (.map #[] 0)).alloc (.cells #[.pointer (some ⟨D,0,none⟩), .pointer none, .int .i64 0, .string ⟨#[]⟩, .map (some w2.heap.size), .int .i64 (f : Int), .bool false] 79) = q := ⟨_,rfl⟩
  simp only [hW3] at hbS hb3 hM1 ⊢
  obtain ⟨M,hMe⟩ : ∃ q,w2.heap.size = q := ⟨_,rfl⟩
  rw [hMe] at hbS hM1 hMge
  try simp only [hMe]
  have KO := HKO.out g3n W3 hb3
  rw [show ((2 + f : Nat) : Int) = 2 + (f : Int) by push_cast;rfl] at KO
  have HS3 := Lib.hid (And.intro hbS (And.intro hb3 (And.intro hM1 hMge)))
  clear hM0 hbS hb3 hM1 hMge hW3 hMe
  by_cases hr0 : r.1 = 0
  ·have HR0 := Lib.hid hr0
   clear hr0
   go_upto_region 11 with (first
    | (go_at_call 58;refine KO.mono ?_;rintro e w4 ⟨X',hd4,hm4,hok,hno⟩;obtain ⟨Lg,n4,rfl,hge,hLX,hWL⟩ := hok HR0.out;have hS4 := hm4.blk HS3.out.1 (fun hx => by have := HLT.out _ hx;have := HS3.out.2.2.2;omega);have y1 := hS4.cell 1;have f1 := hS4.frozen 1;simp at y1;have l4 := hS4.lt;have HW4 := Lib.hid (And.intro hd4 (And.intro hm4 (And.intro hge (And.intro hLX (And.intro hWL hS4)))));clear hd4 hm4 hok hno hge hLX hWL hS4 KO))
   have hst5 : Sto (w4.setCell ⟨M + 1,1,none⟩ (.pointer (some ⟨Lg,0,none⟩))) X' (M + 1) D Lg M ⟨r.2,[],[],f,false⟩ := by
    obtain ⟨hd4,hm4,hge,hLX,hWL,hS4⟩ := HW4.out
    obtain ⟨hbS,hb3,hM1,hMge⟩ := HS3.out
    have hg := grown_set w4 (M + 1) 1 (.pointer (some ⟨Lg,0,none⟩))
    have hSl := hbS.lt
    have hXn : ∀ x ∈ X,x < w.heap.size := HLT.out
    have hSX : M + 1 ∉ X := fun hx => by have := hXn _ hx;omega
    have hMX : M ∉ X := fun hx => by have := hXn _ hx;omega
    have hSX' := hm4.apart hSX hSl
    have hMX' := hm4.apart hMX hM1.lt
    have h0X' := hm4.apart HT.out.2.2 (Nat.lt_of_lt_of_le HT.out.2.1 hb3.size)
    have hfr : Frm [M + 1] w4 (w4.setCell ⟨M + 1,1,none⟩ (.pointer (some ⟨Lg,0,none⟩))) := ⟨hg.os,hg.tape,hg.output,hg.size,fun k hk hx => hg.block k hk (by simpa using hx)⟩
    have htb := ((HT.out.1.below HT.out.2.1 hb3).mv hm4 (Nat.lt_of_lt_of_le HT.out.2.1 hb3.size) HT.out.2.2)
    have htb5 := htb.1.mv (Mv.of_frm hfr) htb.2.1 (by simp)
    have hM4 : FM w4 M (fun _ => (none,0)) [] := hM1.block (hm4.frm.block M hM1.lt hMX)
    refine ⟨?_,hd4.frm hfr (fun x hx e => hSX' (by simp at e;rwa [← e])),hfr.blk hWL (by simp;omega),⟨fun _ => (none,0),hM4.block (hg.block M hM4.lt (by simp)),fun f hf => by cases hf⟩,⟨hSX',hLX,hMX',h0X'⟩,htb5.1,htb5.2.1⟩
    have := hS4.set 1 (.pointer (some ⟨Lg,0,none⟩))
    have e : mk (packB []) = (⟨#[]⟩ : ByteArray) := by rw [show packB [] = [] from rfl];rfl
    simpa [stoCells,e] using this
   have hmv5 : Mv X X' w (w4.setCell ⟨M + 1,1,none⟩ (.pointer (some ⟨Lg,0,none⟩))) :=
    ((Mv.of_below X HS3.out.2.1).trans HW4.out.2.1).hide (S := M + 1) (Mv.of_grown (grown_set w4 (M + 1) 1 _) (by simp)) (by have := HS3.out.2.2.2;omega)
   obtain ⟨W5,hW5⟩ : ∃ q,w4.setCell ⟨M + 1,1,none⟩ (.pointer (some ⟨Lg,0,none⟩)) = q := ⟨_,rfl⟩
   rw [hW5] at hst5 hmv5 ⊢
   have KL := HKL.out g1n g2n g3n HR0.out X' (M + 1) Lg M W5 hst5
   have hge5 : w.heap.size ≤ Lg := Nat.le_trans HS3.out.2.1.size HW4.out.2.2.1
   have HMV := Lib.hid hmv5
   have HMG := Lib.hid (And.intro HS3.out.2.2.2 hge5)
   clear hW5 hst5 hmv5 y1 f1 l4 hge5 HW4 HS3
   have HRR3 := HRR2.out
   rw [if_neg (by rw [HR0.out];simp)] at HRR3
   obtain ⟨Q,hQ⟩ : ∃ q,learnL r.2.vis (N - (f + 7)) f = q := ⟨_,rfl⟩
   rw [hQ] at KL HRR3
   unfold LearnP at KL
   cases Q with
   | none =>
    simp only at HRR3
    subst HRR3
    clear hQ
    go_wp2_with (first
     | (go_at_call 59;refine KL.mono ?_;rintro e w6 ⟨hd6,hmv6,rfl⟩;have H6 := Lib.hid (And.intro hd6 hmv6);clear hd6 hmv6 KL))
    go_ret2
    exact ⟨X',H6.out.1,HMV.out.hide2 H6.out.2 (by have := HMG.out.1;omega) HMG.out.1,rfl⟩
   | some st =>
    obtain ⟨F,T⟩ := st
    simp only at HRR3
    subst HRR3
    clear hQ
    go_wp2_with (first
     | (go_at_call 59;refine KL.mono ?_;rintro e w6 ⟨hd6,hmv6,rfl,hst6⟩;have H6 := Lib.hid (And.intro hst6 (And.intro hd6 hmv6));clear hst6 hd6 hmv6 KL))
    go_ret2
    exact ⟨X',H6.out.2.1,HMV.out.hide2 H6.out.2.2 (by have := HMG.out.1;omega) HMG.out.1,M + 1,Lg,M,rfl,H6.out.1,by have := HMG.out.1;omega,HMG.out.1,HMG.out.2⟩
  ·have HR0 := Lib.hid hr0
   have HRR3 := HRR2.out
   rw [if_pos hr0] at HRR3
   subst HRR3
   clear hr0
   go_wp2_with (first
    | (go_at_call 58;refine KO.mono ?_;rintro e w4 ⟨X',hd4,hm4,hok,hno⟩;obtain rfl := hno HR0.out;have hS4 := hm4.blk HS3.out.1 (fun hx => by have := HLT.out _ hx;have := HS3.out.2.2.2;omega);have y1 := hS4.cell 1;have f1 := hS4.frozen 1;simp at y1;have l4 := hS4.lt;have HW4 := Lib.hid (And.intro hd4 (And.intro hm4 hS4));clear hd4 hm4 hok hno hS4 KO))
   go_ret2
   have hg := grown_set w4 (M + 1) 1 (.pointer none)
   have hfr : Frm [M + 1] w4 (w4.setCell ⟨M + 1,1,none⟩ (.pointer none)) := ⟨hg.os,hg.tape,hg.output,hg.size,fun k hk hx => hg.block k hk (by simpa using hx)⟩
   have hSX : M + 1 ∉ X := fun hx => by have := HLT.out _ hx;have := HS3.out.2.2.2;omega
   have hSX' := HW4.out.2.1.apart hSX HS3.out.1.lt
   exact ⟨X',HW4.out.1.frm hfr (fun x hx e => hSX' (by simp at e;rwa [← e])),((Mv.of_below X HS3.out.2.1).trans HW4.out.2.1).hide (S := M + 1) (Mv.of_grown hg (by simp)) (by have := HS3.out.2.2.2;omega),rfl⟩
 ·rw [beq_eq_false_iff_ne.2 g4] at hte
  have hRn : R = (2,ds,none) := by rw [← HRR.out,HOK.out,beq_eq_false_iff_ne.2 g4,Bool.and_false,Bool.and_false,Bool.and_false,if_pos rfl]
  subst hRn
  clear g1 g2 g3 g1n g2n g3n g4 KH
  go_wp2_with (first
   | (go_at_call 53;refine (HKZ.out _ hb0).mono ?_;rintro e w1 ⟨rfl,hw⟩;obtain rfl := hw.symm)
   | (go_at_call 54;refine (KA _).mono ?_;rintro e w1 ⟨rfl,hw⟩;obtain rfl := hw.symm)
   | (go_at_call 55;refine KH1.mono ?_;rintro e w2 ⟨rfl,hb2⟩;have HB2 := Lib.hid (HB0.out.trans (hb2.mono HB0.out.size));clear hb2 KH1))
  go_ret2
  exact ⟨X,HD.out.below HB2.out,Mv.of_below _ HB2.out,rfl⟩
open Go.RowKit
theorem Sto.frm {w w' : World} {X Z : List Nat} {S D Lg M : Nat} {m : StoM} (h : Sto w X S D Lg M m) (hf : Frm Z w w') (hS : S ∉ Z) (hL : Lg ∉ Z) (hM : M ∉ Z) (h0 : 0 ∉ Z) (hX : ∀ x ∈ X,x ∉ Z) (hE : ∀ z ∈ Z, ∀ cs fr,w.heap[z]? ≠ some (.cells cs 90 fr)) : Sto w' X S D Lg M m := by
 obtain ⟨ad,h1,h2⟩ := h.map
 refine ⟨hf.blk h.blk hS,h.dsk.frm hf hX,hf.blk h.log hL,⟨ad,h1.block (hf.block M h1.lt hM),fun f hfm => ?_⟩,h.apart,fun k hk => (hf.cell (p := ⟨0,k,none⟩) h.pos h0).trans (h.tb k hk),Nat.lt_of_lt_of_le h.pos hf.size⟩
 obtain ⟨a1,a2,a3⟩ := h2 f hfm
 have hk : ∀ a,(ad f.name).1 = some a → w'.heap[a.block]? = w.heap[a.block]? := fun a ha => by
  obtain ⟨cs,fr,hc⟩ := a2 a ha
  exact hf.block _ (Array.getElem?_eq_some_iff.1 hc).1 (fun hz => hE _ hz cs fr hc)
 exact ⟨lies_block a1 hk,typed_block a2 hk,a3⟩
theorem RSt.lt {w : World} {Y : List Nat} {R : Nat} {F : List PF} {T : List Bool} {most : Nat} (h : RSt w Y R F T most) : ∀ y ∈ R :: Y,y < w.heap.size := by
 obtain ⟨_,_,_,_,_,h⟩ := h
 exact h.lt
theorem RSt.frm {w w' : World} {Y Z : List Nat} {R : Nat} {F : List PF} {T : List Bool} {most : Nat} (h : RSt w Y R F T most) (hf : Frm Z w w') (hz : ∀ y ∈ R :: Y,y ∉ Z) : RSt w' Y R F T most := by
 have hl := h.lt
 obtain ⟨a,b,c,d,e,h⟩ := h
 exact ⟨a,b,c,d,e,h.keep fun y hy => hf.block y (hl y hy) (hz y hy)⟩
theorem RSt.kinds {w : World} {Y : List Nat} {R : Nat} {F : List PF} {T : List Bool} {most : Nat} (h : RSt w Y R F T most) : ∀ y ∈ R :: Y, ∃ cs t fr,w.heap[y]? = some (.cells cs t fr) ∧ okT t := by
 obtain ⟨_,_,_,_,_,h⟩ := h
 intro y hy
 rcases List.mem_cons.1 hy with rfl | hy
 ·exact ⟨_,130,_,h.blk, .inl rfl⟩
 ·exact h.typ y hy
structure Two (w : World) (X : List Nat) (S D Lg M : Nat) (m : StoM) (Y : List Nat) (R : Nat) (F : List PF) (T : List Bool) (most : Nat) : Prop where
 sto : Sto w X S D Lg M m
 rst : RSt w Y R F T most
 ap : ∀ y ∈ R :: Y,y ≠ S ∧ y ≠ Lg ∧ y ≠ M ∧ y ∉ X ∧ y ≠ 0
theorem Two.below {w w' : World} {X : List Nat} {S D Lg M : Nat} {m : StoM} {Y : List Nat} {R : Nat} {F : List PF} {T : List Bool} {most : Nat} (h : Two w X S D Lg M m Y R F T most) (hb : Below w.heap.size w w') : Two w' X S D Lg M m Y R F T most :=
 ⟨h.sto.below hb,h.rst.below hb,h.ap⟩
theorem Two.real {w w' : World} {X X' : List Nat} {S D Lg M : Nat} {m m' : StoM} {Y : List Nat} {R : Nat} {F : List PF} {T : List Bool} {most : Nat} (h : Two w X S D Lg M m Y R F T most) (hm : Mv (S :: M :: X) (S :: M :: X') w w') (hs : Sto w' X' S D Lg M m') : Two w' X' S D Lg M m' Y R F T most := by
 have hl := h.rst.lt
 refine ⟨hs,h.rst.frm hm.frm (fun y hy hz => ?_),fun y hy => ?_⟩
 ·obtain ⟨a1,_,a3,a4,_⟩ := h.ap y hy
  rcases List.mem_cons.1 hz with e | hz
  ·exact a1 e
  ·rcases List.mem_cons.1 hz with e | hz
   ·exact a3 e
   ·exact a4 hz
 ·obtain ⟨a1,a2,a3,a4,a5⟩ := h.ap y hy
  refine ⟨a1,a2,a3,fun hx => ?_,a5⟩
  rcases hm.sub y (List.mem_cons_of_mem _ (List.mem_cons_of_mem _ hx)) with hz | hz
  ·rcases List.mem_cons.1 hz with e | hz
   ·exact a1 e
   ·rcases List.mem_cons.1 hz with e | hz
    ·exact a3 e
    ·exact a4 hz
  ·have := hl y hy;omega
theorem Two.ref {w w' : World} {X : List Nat} {S D Lg M : Nat} {m : StoM} {Y Y' : List Nat} {R : Nat} {F F' : List PF} {T T' : List Bool} {most : Nat} (h : Two w X S D Lg M m Y R F T most) (hm : Mv (R :: Y) (R :: Y') w w') (hs : RSt w' Y' R F' T' most) : Two w' X S D Lg M m Y' R F' T' most := by
 have hk := h.rst.kinds
 refine ⟨h.sto.frm hm.frm (fun hz => (h.ap _ hz).1 rfl) (fun hz => (h.ap _ hz).2.1 rfl) (fun hz => (h.ap _ hz).2.2.1 rfl) (fun hz => (h.ap _ hz).2.2.2.2 rfl) (fun x hx hz => (h.ap _ hz).2.2.2.1 hx) (fun z hz cs fr hc => ?_),hs,fun y hy => ?_⟩
 ·obtain ⟨cs2,t,fr2,hc2,ho⟩ := hk z hz
  rw [hc] at hc2
  simp only [Option.some.injEq,Obj.cells.injEq] at hc2
  rcases ho with e | e | e | e <;> rw [← hc2.2.1] at e <;> exact absurd e (by decide)
 ·rcases hm.sub y hy with hz | hz
  ·exact h.ap y hz
  ·have h1 := h.sto.blk.lt
   have h2 := Blk.lt h.sto.log
   obtain ⟨ad,h3,_⟩ := h.sto.map
   have h3 := h3.lt
   have h4 := h.sto.dsk.lt
   have h5 := h.sto.pos
   exact ⟨by omega,by omega,by omega,fun hx => by have := h4 y hx;omega,by omega⟩
structure Rdy (m : StoM) : Prop where
 b : StoB m
 up : m.off = false
 on : m.ds.off = false
 sum : ∀ f ∈ m.F,sumN f.ext = needsN f.size
 ent : (m.F.map (·.entry)).Nodup
theorem Inv.rdy {m : StoM} (h : Inv m) : Rdy m := ⟨h.b,h.up,h.on,h.sum,h.entries⟩
def finW (r : Nat × DS) (F : List FileM) (T : List Bool) (m : StoM) : Nat × StoM := if r.1 = 0 then (0,⟨r.2,F,T,m.most,m.off⟩) else (r.1,⟨r.2,m.F,m.T,m.most,true⟩)
def opW (m : StoM) (n d : Bs) : Nat × StoM := match (preW m n d).2 with
 | none => ((preW m n d).1,m)
 | some (T2,f) => finW (DS.run (putC m.most T2 (secL (m.most + 7) f.ext) d f) m.ds) (putF m.F f) T2 m
def opA (m : StoM) (n d : Bs) : Nat × StoM := match (preA m n d).2 with
 | none => ((preA m n d).1,m)
 | some (T2,L,dt,f) => finW (DS.run (putC m.most T2 L dt f) m.ds) (putF m.F f) T2 m
def opN (m : StoM) (a b : Bs) : Nat × StoM := match (preN m a b).2 with
 | none => ((preN m a b).1,m)
 | some (T2,C,F2) => finW (DS.run (settleC m.most T2 C) m.ds) F2 T2 m
def opR (m : StoM) (n : Bs) : Nat × StoM := match (preR m n).2 with
 | none => ((preR m n).1,m)
 | some (T2,f) => finW (DS.run (settleC m.most T2 [(f.entry,[])]) m.ds) (delF m.F f.name) T2 m
def OpP (X : List Nat) (S D Lg M : Nat) (r : Nat × StoM) (w : World) (e : Ending) (w' : World) : Prop :=
 e = .returned (.int .i64 ((r.1 : Nat) : Int)) ∧ ∃ X',Mv (S :: M :: X) (S :: M :: X') w w' ∧ Sto w' X' S D Lg M r.2
theorem opP_fin {X : List Nat} {S D Lg M : Nat} {m : StoM} {w w' : World} {e : Ending} {r : Nat × DS} {F : List FileM} {T : List Bool}
  (h : e = .returned (.int .i64 (r.1 : Nat)) ∧ ∃ X',Mv (S :: M :: X) (S :: M :: X') w w' ∧ (r.1 = 0 → Sto w' X' S D Lg M ⟨r.2,F,T,m.most,m.off⟩) ∧ (r.1 ≠ 0 → Sto w' X' S D Lg M ⟨r.2,m.F,m.T,m.most,true⟩)) : OpP X S D Lg M (finW r F T m) w e w' := by
 obtain ⟨rfl,X',h1,h2,h3⟩ := h
 unfold finW
 by_cases h0 : r.1 = 0
 ·rw [if_pos h0];exact ⟨by rw [h0],X',h1,h2 h0⟩
 ·rw [if_neg h0];exact ⟨rfl,X',h1,h3 h0⟩
theorem opW_any (X : List Nat) (S D Lg M : Nat) (m : StoM) (name data : Bs) (w : World) (h : Sto w X S D Lg M m) (hi : Rdy m) (hn : name.length ≤ maxLen) :
  Calls Tryz.prog 14 #[.pointer (some ⟨S,0,none⟩), .string (mk name), .string (mk data)] w (OpP X S D Lg M (opW m name data) w) := by
 refine (fwrite_any X S D Lg M m name data w h hi.b hi.up hi.on hn).mono ?_
 intro e w' hp
 unfold opW
 cases hq : (preW m name data).2 with
 | none => obtain ⟨rfl,h2,h3⟩ := hp.1 hq;exact ⟨rfl,X,Mv.of_below _ h2,h3⟩
 | some q => obtain ⟨T2,f⟩ := q;exact opP_fin (hp.2 T2 f hq)
theorem opA_any (X : List Nat) (S D Lg M : Nat) (m : StoM) (name data : Bs) (w : World) (h : Sto w X S D Lg M m) (hi : Rdy m) (hn : name.length ≤ maxLen) (hd : data.length ≤ 1099511627776) :
  Calls Tryz.prog 16 #[.pointer (some ⟨S,0,none⟩), .string (mk name), .string (mk data)] w (OpP X S D Lg M (opA m name data) w) := by
 refine (fappend_any X S D Lg M m name data w h hi.b hi.up hi.on hn hd hi.sum).mono ?_
 intro e w' hp
 unfold opA
 cases hq : (preA m name data).2 with
 | none => obtain ⟨rfl,h2,h3⟩ := hp.1 hq;exact ⟨rfl,X,Mv.of_below _ h2,h3⟩
 | some q => obtain ⟨T2,L,dt,f⟩ := q;exact opP_fin (hp.2 T2 L dt f hq)
theorem opN_any (X : List Nat) (S D Lg M : Nat) (m : StoM) (name dest : Bs) (w : World) (h : Sto w X S D Lg M m) (hi : Rdy m) (hn : name.length ≤ maxLen) (hn2 : dest.length ≤ maxLen) :
  Calls Tryz.prog 20 #[.pointer (some ⟨S,0,none⟩), .string (mk name), .string (mk dest)] w (OpP X S D Lg M (opN m name dest) w) := by
 refine (frename_any X S D Lg M m name dest w h hi.b hi.up hi.on hn hn2 hi.ent).mono ?_
 intro e w' hp
 unfold opN
 cases hq : (preN m name dest).2 with
 | none => obtain ⟨rfl,h2,h3⟩ := hp.1 hq;exact ⟨rfl,X,Mv.of_below _ h2,h3⟩
 | some q => obtain ⟨T2,C,F2⟩ := q;exact opP_fin (hp.2 T2 C F2 hq)
theorem opR_any (X : List Nat) (S D Lg M : Nat) (m : StoM) (name : Bs) (w : World) (h : Sto w X S D Lg M m) (hi : Rdy m) (hn : name.length ≤ maxLen) :
  Calls Tryz.prog 21 #[.pointer (some ⟨S,0,none⟩), .string (mk name)] w (OpP X S D Lg M (opR m name) w) := by
 refine (fremove_any X S D Lg M m name w h hi.b hi.up hi.on hn).mono ?_
 intro e w' hp
 unfold opR
 cases hq : (preR m name).2 with
 | none => obtain ⟨rfl,h2,h3⟩ := hp.1 hq;exact ⟨rfl,X,Mv.of_below _ h2,h3⟩
 | some q => obtain ⟨T2,f⟩ := q;exact opP_fin (hp.2 T2 f hq)
theorem opS_any (X : List Nat) (S D Lg M : Nat) (m : StoM) (name : Bs) (w : World) (h : Sto w X S D Lg M m) (hi : Rdy m) (hn : name.length ≤ maxLen) :
  Calls Tryz.prog 17 #[.pointer (some ⟨S,0,none⟩), .string (mk name)] w fun e w' => e = .returned (.tuple #[.string (mk (readW m name)), .int .i64 (findE m.F name : Nat)]) ∧ Below w.heap.size w w' :=
 fread_any X S D Lg M m name w h hi.b hi.up hi.on hn (fun f hf => by rw [hi.sum f hf];unfold needsN;omega) (fun f hf => by rw [hi.sum f hf];have := hi.b.siz f hf;unfold needsN;omega)
theorem rappend_any (Y : List Nat) (R : Nat) (F F' : List PF) (T T' : List Bool) (most r : Nat) (name data : Bs) (w : World) (h : RSt w Y R F T most) (hF : F.length ≤ 1000) (hT : T.length ≤ 100000) (hnm : name.length ≤ maxLen) (hdn : data.length ≤ 1000000000)
  (hl : ∀ f ∈ F,f.ext.length ≤ 64 ∧ f.data.length ≤ 1048576) (hp : appS F T name data = some (r,F',T')) :
  Calls Tryz.prog 65 #[.pointer (some ⟨R,0,none⟩), .string (mk name), .string (mk data)] w fun e w' => e = .returned (.int .i64 (r : Nat)) ∧ ∃ Y',RSt w' Y' R F' T' most ∧ Mv (R :: Y) (R :: Y') w w' := by
 unfold appS at hp
 cases hg : goodF name with
 | false =>
  rw [if_pos hg] at hp
  simp only [Option.some.injEq,Prod.mk.injEq] at hp
  obtain ⟨rfl,rfl,rfl⟩ := hp
  exact rappend_bad Y R F T most name data w h hnm hg
 | true =>
  rw [if_neg (by rw [hg];decide)] at hp
  cases hf : idxF F name with
  | none =>
   rw [hf] at hp
   simp only [Option.some.injEq,Prod.mk.injEq] at hp
   obtain ⟨rfl,rfl,rfl⟩ := hp
   exact rappend_none Y R F T most name data w h hF hnm hg hf
  | some i =>
   rw [hf] at hp
   obtain ⟨hil,_,_⟩ := idxF_some hf
   simp only at hp
   obtain ⟨f,hfe⟩ : ∃ f,F[i] = f := ⟨_,rfl⟩
   have hfe2 : F[i]? = some f := by rw [List.getElem?_eq_getElem hil,hfe]
   obtain ⟨b1,b2⟩ := hl f (by rw [← hfe];exact List.getElem_mem hil)
   rw [hfe2] at hp
   simp only at hp
   by_cases hlong : 1048576 < f.data.length + data.length
   ·rw [if_pos hlong] at hp
    simp only [Option.some.injEq,Prod.mk.injEq] at hp
    obtain ⟨rfl,rfl,rfl⟩ := hp
    exact rappend_long Y R F T most i f name data w h hF hnm hdn hg hf hfe2 b2 hlong
   ·rw [if_neg hlong] at hp
    have K := rappend_at Y R F T most i f name data w h hF hT hnm hg hf hfe2 b1 (by omega)
    cases ht : takeS T (needsN (f.data.length + data.length) - needsN f.data.length) (64 - f.ext.length) with
    | none =>
     rw [ht] at hp
     simp only [ht] at K
     simp only [Option.some.injEq,Prod.mk.injEq] at hp
     obtain ⟨rfl,rfl,rfl⟩ := hp
     exact K
    | some p =>
     obtain ⟨l,T1⟩ := p
     rw [ht] at hp
     simp only [ht] at K
     simp only [Option.some.injEq,Prod.mk.injEq] at hp
     obtain ⟨rfl,rfl,rfl⟩ := hp
     exact K
def RefP (Y : List Nat) (R : Nat) (most : Nat) (r : Nat) (F' : List PF) (T' : List Bool) (w : World) (e : Ending) (w' : World) : Prop :=
 e = .returned (.int .i64 ((r : Nat) : Int)) ∧ ∃ Y',RSt w' Y' R F' T' most ∧ Mv (R :: Y) (R :: Y') w w'
theorem rbound {F : List PF} {T : List Bool} {most : Nat} (h : Inv (refM F T most)) : F.length ≤ 1000 ∧ T.length ≤ 100000 ∧ most ≤ 1000 ∧ ∀ f ∈ F,f.ext.length ≤ 64 ∧ f.data.length ≤ 1048576 ∧ f.entry ≤ 1000 := by
 have h1 : (F.map toM).length ≤ 1000 := h.b.len
 have h2 : T.length ≤ 4096 := h.b.tl
 have h3 : most ≤ 256 := h.b.mo.2
 refine ⟨by simpa using h1,by omega,by omega,fun f hf => ?_⟩
 have hm : toM f ∈ (refM F T most).F := List.mem_map.2 ⟨f,hf,rfl⟩
 have a := h.b.exl _ hm
 have b := h.b.siz _ hm
 have c := h.b.ent _ hm
 have c' : f.entry < most := c
 exact ⟨a,b,by omega⟩
theorem refW_any (Y : List Nat) (R : Nat) {F F' : List PF} {T T' : List Bool} {most r : Nat} (name data : Bs) (w : World) (h : RSt w Y R F T most) (hi : Inv (refM F T most)) (hn : name.length ≤ maxLen) (hp : wriS F T most (enF F most) name data = some (r,F',T')) :
  Calls Tryz.prog 64 #[.pointer (some ⟨R,0,none⟩), .string (mk name), .string (mk data)] w (RefP Y R most r F' T' w) := by
 obtain ⟨b1,b2,b3,b4⟩ := rbound hi
 obtain ⟨e1,e2,e3,_⟩ := enF_facts hi
 exact rwrite_any Y R F F' T T' most (enF F most) r name data w h b1 b2 b3 hn (fun f hf => ⟨by have := (b4 f hf).1;omega,(b4 f hf).2.2⟩) e1 e2 e3 hp
theorem refA_any (Y : List Nat) (R : Nat) {F F' : List PF} {T T' : List Bool} {most r : Nat} (name data : Bs) (w : World) (h : RSt w Y R F T most) (hi : Inv (refM F T most)) (hn : name.length ≤ maxLen) (hd : data.length ≤ 1000000000) (hp : appS F T name data = some (r,F',T')) :
  Calls Tryz.prog 65 #[.pointer (some ⟨R,0,none⟩), .string (mk name), .string (mk data)] w (RefP Y R most r F' T' w) := by
 obtain ⟨b1,b2,b3,b4⟩ := rbound hi
 exact rappend_any Y R F F' T T' most r name data w h b1 b2 hn hd (fun f hf => ⟨(b4 f hf).1,(b4 f hf).2.1⟩) hp
theorem refN_any (Y : List Nat) (R : Nat) {F F' : List PF} {T T' : List Bool} {most r : Nat} (a b : Bs) (w : World) (h : RSt w Y R F T most) (hi : Inv (refM F T most)) (hn : a.length ≤ maxLen) (hn2 : b.length ≤ maxLen) (hp : renS F T a b = some (r,F',T')) :
  Calls Tryz.prog 66 #[.pointer (some ⟨R,0,none⟩), .string (mk a), .string (mk b)] w (RefP Y R most r F' T' w) := by
 obtain ⟨b1,b2,b3,b4⟩ := rbound hi
 exact rrename_any Y R F F' T T' most r a b w h b1 b2 (fun f hf => by have := (b4 f hf).1;omega) hn hn2 hp
theorem refR_any (Y : List Nat) (R : Nat) {F F' : List PF} {T T' : List Bool} {most r : Nat} (name : Bs) (w : World) (h : RSt w Y R F T most) (hi : Inv (refM F T most)) (hn : name.length ≤ maxLen) (hp : remS F T name = some (r,F',T')) :
  Calls Tryz.prog 67 #[.pointer (some ⟨R,0,none⟩), .string (mk name)] w (RefP Y R most r F' T' w) := by
 obtain ⟨b1,b2,b3,b4⟩ := rbound hi
 exact rremove_any Y R F F' T T' most r name w h b1 b2 (fun f hf => by have := (b4 f hf).1;omega) hn hp
open Go.RowKit
theorem Mv.wideR {A B Z : List Nat} {w w' : World} (h : Mv A B w w') : Mv (A ++ Z) (B ++ Z) w w' :=
 ⟨h.frm.mono (fun x hx => List.mem_append_left _ hx),fun x hx => by
  rcases List.mem_append.1 hx with h1 | h1
  ·rcases h.sub x h1 with h2 | h2
   ·exact .inl (List.mem_append_left _ h2)
   ·exact .inr h2
  ·exact .inl (List.mem_append_right _ h1)⟩
theorem Mv.wideL {A B Z : List Nat} {w w' : World} (h : Mv A B w w') : Mv (Z ++ A) (Z ++ B) w w' :=
 ⟨h.frm.mono (fun x hx => List.mem_append_right _ hx),fun x hx => by
  rcases List.mem_append.1 hx with h1 | h1
  ·exact .inl (List.mem_append_left _ h1)
  ·rcases h.sub x h1 with h2 | h2
   ·exact .inl (List.mem_append_right _ h2)
   ·exact .inr h2⟩
def findR (F : List PF) (name : Bs) : Nat := if goodF name = false then 11 else match idxF F name with
 | none => 9
 | some _ => 0
def actS (F : List PF) (T : List Bool) (most : Nat) (a : ActM) (i : Nat) : Option (Nat × List PF × List Bool) :=
 if whatN a.what 8 < 2 then wriS F T most (enF F most) a.name (textB a.n a.b i) else if whatN a.what 8 < 4 then appS F T a.name (textB a.n a.b i) else
 if whatN a.what 8 = 4 then renS F T a.name a.dest else if whatN a.what 8 = 5 then remS F T a.name else some (findR F a.name,F,T)
def actO (m : StoM) (a : ActM) (i : Nat) : Nat × StoM :=
 if whatN a.what 8 < 2 then opW m a.name (textB a.n a.b i) else if whatN a.what 8 < 4 then opA m a.name (textB a.n a.b i) else
 if whatN a.what 8 = 4 then opN m a.name a.dest else if whatN a.what 8 = 5 then opR m a.name else (findE m.F a.name,m)
def DoP (X : List Nat) (S D Lg M : Nat) (Y : List Nat) (R most : Nat) (o : Nat × StoM) (r : Nat) (F' : List PF) (T' : List Bool) (w : World) (e : Ending) (w' : World) : Prop :=
 e = .returned (.tuple #[.int .i64 ((o.1 : Nat) : Int), .int .i64 ((r : Nat) : Int)]) ∧ ∃ X' Y',Two w' X' S D Lg M o.2 Y' R F' T' most ∧ Mv ((S :: M :: X) ++ (R :: Y)) ((S :: M :: X') ++ (R :: Y')) w w'
set_option maxRecDepth 100000 in
set_option maxHeartbeats 8000000 in
theorem do_any (X : List Nat) (S D Lg M : Nat) (m : StoM) (Y : List Nat) (R : Nat) (F F' : List PF) (T T' : List Bool) (most r i : Nat) (a : ActM) (w : World) (h : Two w X S D Lg M m Y R F T most) (hr : Rdy m) (hi : Inv (refM F T most)) (hok : ActOk a) (hii : i ≤ 1000) (hp : actS F T most a i = some (r,F',T')) :
  Calls Tryz.prog 29 #[.pointer (some ⟨S,0,none⟩), .pointer (some ⟨R,0,none⟩), .agg (actV a).toArray, .int .i64 i] w (DoP X S D Lg M Y R most (actO m a i) r F' T' w) := by
 obtain ⟨wh,nm,ds,nn,bb⟩ := a
 have hn : nm.length ≤ maxLen := hok.name
 have hn2 : ds.length ≤ maxLen := hok.dest
 have hrb := rem_bounds wh 8 (by omega)
 have hwb := what_bounds wh 8 (by omega)
 obtain ⟨O,hO⟩ : ∃ q,actO m ⟨wh,nm,ds,nn,bb⟩ i = q := ⟨_,rfl⟩
 rw [hO]
 unfold actO at hO
 unfold actS at hp
 dsimp only at hO hp
 have htl : (textB nn bb i).length ≤ 6000 := by rw [textB_length];exact textL_le nn
 have KT0 := fun (w1 : World) => text_any wh (mk nm) (mk ds) nn bb i w1 hii
 have KW := fun (w1 : World) (hb : Below w.heap.size w w1) => opW_any X S D Lg M m nm (textB nn bb i) w1 (h.sto.below hb) hr hn
 have KA := fun (w1 : World) (hb : Below w.heap.size w w1) => opA_any X S D Lg M m nm (textB nn bb i) w1 (h.sto.below hb) hr hn (by omega)
 have KN := fun (w1 : World) (hb : Below w.heap.size w w1) => opN_any X S D Lg M m nm ds w1 (h.sto.below hb) hr hn hn2
 have KR := fun (w1 : World) (hb : Below w.heap.size w w1) => opR_any X S D Lg M m nm w1 (h.sto.below hb) hr hn
 have KS := fun (w1 : World) (hb : Below w.heap.size w w1) => opS_any X S D Lg M m nm w1 (h.sto.below hb) hr hn
 have KZ := fun (w1 : World) (hb : Below w.heap.size w w1) => fsize_any X S D Lg M m nm w1 (h.sto.below hb) hr.up hr.on hn
 have RW := fun (hq : wriS F T most (enF F most) nm (textB nn bb i) = some (r,F',T')) (w1 : World) (h1 : RSt w1 Y R F T most) => refW_any Y R nm (textB nn bb i) w1 h1 hi hn hq
 have RA := fun (hq : appS F T nm (textB nn bb i) = some (r,F',T')) (w1 : World) (h1 : RSt w1 Y R F T most) => refA_any Y R nm (textB nn bb i) w1 h1 hi hn (by omega) hq
 have RN := fun (hq : renS F T nm ds = some (r,F',T')) (w1 : World) (h1 : RSt w1 Y R F T most) => refN_any Y R nm ds w1 h1 hi hn hn2 hq
 have RR := fun (hq : remS F T nm = some (r,F',T')) (w1 : World) (h1 : RSt w1 Y R F T most) => refR_any Y R nm w1 h1 hi hn hq
 have RG := fun (w1 : World) => rgood_any (mk nm) w1 (by rw [mk_size];exact hn)
 have RF := fun (w1 : World) (h1 : RSt w1 Y R F T most) => rfind_any Y R F T most nm w1 h1 (rbound hi).1
 rw [mk_data] at RG
 obtain ⟨NM,hNM⟩ : ∃ q,mk nm = q := ⟨_,rfl⟩
 obtain ⟨DM,hDM⟩ : ∃ q,mk ds = q := ⟨_,rfl⟩
 obtain ⟨TX,hTX⟩ : ∃ q,mk (textB nn bb i) = q := ⟨_,rfl⟩
 rw [show (actV ⟨wh,nm,ds,nn,bb⟩).toArray = #[.int .i64 wh, .string NM, .string DM, .int .i64 nn, .int .u8 bb] by rw [← hNM, ← hDM];rfl]
 simp only [hNM,hDM,hTX] at KT0 KW KA KN KR KS KZ RW RA RN RR RG RF
 have hH := below_alloc w (.cells #[.int .i64 wh, .string NM, .string DM, .int .i64 nn, .int .u8 bb] 26)
 have hB := Blk.new w #[.int .i64 wh, .string NM, .string DM, .int .i64 nn, .int .u8 bb] 26
 have hap : w.heap.size ∉ S :: M :: X := fun hm => by
  have h1 := h.sto.blk.lt
  obtain ⟨ad,h3,_⟩ := h.sto.map
  have h3 := h3.lt
  rcases List.mem_cons.1 hm with e | hm
  ·omega
  ·rcases List.mem_cons.1 hm with e | hm
   ·omega
   ·have := h.sto.dsk.lt _ hm;omega
 have hapR : w.heap.size ∉ R :: Y := fun hm => by have := h.rst.lt _ hm;omega
 obtain ⟨H,hHe⟩ : ∃ q,w.heap.size = q := ⟨_,rfl⟩
 obtain ⟨W0,hW0⟩ : ∃ q,w.alloc (.cells #[.int .i64 wh, .string NM, .string DM, .int .i64 nn, .int .u8 bb] 26) = q := ⟨_,rfl⟩
 have hs0 : W0.heap.size = H + 1 := by rw [← hW0];simp [hHe]
 rw [hHe] at hB hap hapR
 rw [hW0] at hB hH
 have HW := Lib.hid (And.intro hW0 (And.intro hHe hs0))
 have HH := Lib.hid (And.intro hH (And.intro hap hapR))
 have H2 := Lib.hid h
 have HK := Lib.hid (And.intro KW (And.intro KA (And.intro KN (And.intro KR (And.intro KS KZ)))))
 have HR := Lib.hid (And.intro RW (And.intro RA (And.intro RN (And.intro RR (And.intro RG RF)))))
 have KT := KT0 W0
 have HO := Lib.hid hO
 have HPP := Lib.hid hp
 have y0 := hB.cell 0
 have y1 := hB.cell 1
 have y2 := hB.cell 2
 have y3 := hB.cell 3
 have y4 := hB.cell 4
 have yl := hB.lt
 simp at y0 y1 y2 y3 y4
 have HB := Lib.hid hB
 have mixed := mixedT
 unfold whatN at hwb
 obtain ⟨q,hq⟩ : ∃ q,(wh.tmod 8 + 8).tmod 8 = q := ⟨_,rfl⟩
 rw [hq] at hwb
 have HQ := Lib.hid (show whatN wh 8 = q from hq)
 have hq8 : q = 0 ∨ q = 1 ∨ q = 2 ∨ q = 3 ∨ q = 4 ∨ q = 5 ∨ q = 6 ∨ q = 7 := by omega
 clear h hr hi hok hp hO KT0 KW KA KN KR KS KZ RW RA RN RR RG RF hH hB hap hapR hW0 hHe hs0 hn hn2 htl hNM hDM hTX hwb
 go_enter Tryz.func29,Tryz.ntmps29
 go_upto_region 1 with (fail)
 try rw [HW.out.1,HW.out.2.1]
 try simp only [HW.out.1,HW.out.2.1]
 go_upto_region 2 with (first
  | (go_at_call 15;refine KT.mono ?_;rintro e w4 ⟨rfl,hb4⟩;have hB4 := HB.out.below hb4;have H4 := Lib.hid (And.intro (HH.out.1.trans (hb4.mono HH.out.1.size)) (And.intro hB4 hb4));clear hb4 hB4 KT))
 clear y0 y1 y2 y3 y4 yl
 have y0 := H4.out.2.1.cell 0
 have yl := H4.out.2.1.lt
 simp at y0
 rcases hq8 with rfl | rfl | rfl | rfl | rfl | rfl | rfl | rfl
 ·skip
  go_upto_region 5 with (fail)
  have HO2 := Lib.hid (show opW m nm (textB nn bb i) = O by rw [← HO.out,HQ.out];rfl)
  have HP2 := Lib.hid (show wriS F T most (enF F most) nm (textB nn bb i) = some (r,F',T') by have := HPP.out;rw [HQ.out] at this;exact this)
  refine wp_region_held (S := fun w' => w'.cell? ⟨H,1,none⟩ = some (.string NM)) mixed ?_
  change wpAnyH _ _ _ _ _ _ _ _ w4.drew
  have hD : Below w.heap.size w w4.drew := H4.out.1.drew
  have z1 := H4.out.2.1.cell 1
  simp at z1
  have hS0 : w4.drew.cell? ⟨H,1,none⟩ = some (.string NM) := z1
  obtain ⟨wd,hwd⟩ : ∃ q,w4.drew = q := ⟨_,rfl⟩
  have hlt : H < wd.heap.size := by rw [← hwd];exact H4.out.2.1.lt
  rw [hwd] at hD hS0 ⊢
  clear hwd z1 y0 yl
  have HD := Lib.hid (And.intro hD hlt)
  refine tkQ 0 (.pointer (some ⟨S,0,none⟩)) rfl hS0 ?_
  try go_simp
  refine tkQ 1 (.pointer (some ⟨H,1,none⟩)) rfl hS0 ?_
  try go_simp
  refine tkH 2 (.string NM) rfl hS0 (fun w' hS => ?_) ?_
  ·have q1 := hS;go_simp
  try go_simp
  refine tkQ 3 (.string TX) rfl hS0 ?_
  try go_simp
  refine tkQ 5 (.pointer (some ⟨R,0,none⟩)) rfl hS0 ?_
  try go_simp
  refine tkQ 6 (.pointer (some ⟨H,1,none⟩)) rfl hS0 ?_
  try go_simp
  refine tkH 7 (.string NM) rfl hS0 (fun w' hS => ?_) ?_
  ·have q1 := hS;go_simp
  try go_simp
  refine tkQ 8 (.string TX) rfl hS0 ?_
  try go_simp
  refine alH 4 ?_
  unfold wpOp
  go_simp
  refine .inl ?_
  go_at_call 14
  have KK := HK.out.1 wd HD.out.1
  rw [HO2.out] at KK
  refine KK.mono ?_
  rintro e w5 ⟨rfl,X5,hm5,hs5⟩
  have hS1 : w5.cell? ⟨H,1,none⟩ = some (.string NM) := (hm5.frm.cell (p := ⟨H,1,none⟩) HD.out.2 HH.out.2.1).trans hS0
  have h25 := (H2.out.below HD.out.1).real hm5 hs5
  have hlt5 : H < w5.heap.size := Nat.lt_of_lt_of_le HD.out.2 hm5.size
  have KQ := HR.out.1 HP2.out w5 h25.rst
  have H5 := Lib.hid (And.intro h25 (And.intro ((Mv.of_below (S :: M :: X) HD.out.1).trans hm5) hlt5))
  refine ⟨hS1, ?_⟩
  try go_simp
  clear hm5 hs5 h25 hlt5 KK hS0
  refine alH 9 ?_
  unfold wpOp
  go_simp
  refine .inl ?_
  go_at_call 64
  refine KQ.mono ?_
  rintro e w6 ⟨rfl,Y6,hs6,hm6⟩
  have hS0 : w6.cell? ⟨H,1,none⟩ = some (.string NM) := (hm6.frm.cell (p := ⟨H,1,none⟩) H5.out.2.2 HH.out.2.2).trans hS1
  have H6 := Lib.hid (And.intro (H5.out.1.ref hm6 hs6) ((H5.out.2.1.wideR (Z := R :: Y)).trans (hm6.wideL (Z := S :: M :: X5))))
  refine ⟨hS0, ?_⟩
  try go_simp
  clear hm6 hs6 KQ hS1
  refine tkQ 10 (.int .i64 ((O.1 : Nat) : Int)) rfl hS0 ?_
  try go_simp
  refine tkQ 11 (.int .i64 ((r : Nat) : Int)) rfl hS0 ?_
  try go_simp
  refine wpAnyH_done (by kernel_rfl) ?_ _
  clear hS0
  go_wp2
  go_ret2
  exact ⟨rfl,X5,Y6,H6.out.1,H6.out.2⟩
 ·skip
  go_upto_region 5 with (fail)
  have HO2 := Lib.hid (show opW m nm (textB nn bb i) = O by rw [← HO.out,HQ.out];rfl)
  have HP2 := Lib.hid (show wriS F T most (enF F most) nm (textB nn bb i) = some (r,F',T') by have := HPP.out;rw [HQ.out] at this;exact this)
  refine wp_region_held (S := fun w' => w'.cell? ⟨H,1,none⟩ = some (.string NM)) mixed ?_
  change wpAnyH _ _ _ _ _ _ _ _ w4.drew
  have hD : Below w.heap.size w w4.drew := H4.out.1.drew
  have z1 := H4.out.2.1.cell 1
  simp at z1
  have hS0 : w4.drew.cell? ⟨H,1,none⟩ = some (.string NM) := z1
  obtain ⟨wd,hwd⟩ : ∃ q,w4.drew = q := ⟨_,rfl⟩
  have hlt : H < wd.heap.size := by rw [← hwd];exact H4.out.2.1.lt
  rw [hwd] at hD hS0 ⊢
  clear hwd z1 y0 yl
  have HD := Lib.hid (And.intro hD hlt)
  refine tkQ 0 (.pointer (some ⟨S,0,none⟩)) rfl hS0 ?_
  try go_simp
  refine tkQ 1 (.pointer (some ⟨H,1,none⟩)) rfl hS0 ?_
  try go_simp
  refine tkH 2 (.string NM) rfl hS0 (fun w' hS => ?_) ?_
  ·have q1 := hS;go_simp
  try go_simp
  refine tkQ 3 (.string TX) rfl hS0 ?_
  try go_simp
  refine tkQ 5 (.pointer (some ⟨R,0,none⟩)) rfl hS0 ?_
  try go_simp
  refine tkQ 6 (.pointer (some ⟨H,1,none⟩)) rfl hS0 ?_
  try go_simp
  refine tkH 7 (.string NM) rfl hS0 (fun w' hS => ?_) ?_
  ·have q1 := hS;go_simp
  try go_simp
  refine tkQ 8 (.string TX) rfl hS0 ?_
  try go_simp
  refine alH 4 ?_
  unfold wpOp
  go_simp
  refine .inl ?_
  go_at_call 14
  have KK := HK.out.1 wd HD.out.1
  rw [HO2.out] at KK
  refine KK.mono ?_
  rintro e w5 ⟨rfl,X5,hm5,hs5⟩
  have hS1 : w5.cell? ⟨H,1,none⟩ = some (.string NM) := (hm5.frm.cell (p := ⟨H,1,none⟩) HD.out.2 HH.out.2.1).trans hS0
  have h25 := (H2.out.below HD.out.1).real hm5 hs5
  have hlt5 : H < w5.heap.size := Nat.lt_of_lt_of_le HD.out.2 hm5.size
  have KQ := HR.out.1 HP2.out w5 h25.rst
  have H5 := Lib.hid (And.intro h25 (And.intro ((Mv.of_below (S :: M :: X) HD.out.1).trans hm5) hlt5))
  refine ⟨hS1, ?_⟩
  try go_simp
  clear hm5 hs5 h25 hlt5 KK hS0
  refine alH 9 ?_
  unfold wpOp
  go_simp
  refine .inl ?_
  go_at_call 64
  refine KQ.mono ?_
  rintro e w6 ⟨rfl,Y6,hs6,hm6⟩
  have hS0 : w6.cell? ⟨H,1,none⟩ = some (.string NM) := (hm6.frm.cell (p := ⟨H,1,none⟩) H5.out.2.2 HH.out.2.2).trans hS1
  have H6 := Lib.hid (And.intro (H5.out.1.ref hm6 hs6) ((H5.out.2.1.wideR (Z := R :: Y)).trans (hm6.wideL (Z := S :: M :: X5))))
  refine ⟨hS0, ?_⟩
  try go_simp
  clear hm6 hs6 KQ hS1
  refine tkQ 10 (.int .i64 ((O.1 : Nat) : Int)) rfl hS0 ?_
  try go_simp
  refine tkQ 11 (.int .i64 ((r : Nat) : Int)) rfl hS0 ?_
  try go_simp
  refine wpAnyH_done (by kernel_rfl) ?_ _
  clear hS0
  go_wp2
  go_ret2
  exact ⟨rfl,X5,Y6,H6.out.1,H6.out.2⟩
 ·skip
  go_upto_region 8 with (fail)
  have HO2 := Lib.hid (show opA m nm (textB nn bb i) = O by rw [← HO.out,HQ.out];rfl)
  have HP2 := Lib.hid (show appS F T nm (textB nn bb i) = some (r,F',T') by have := HPP.out;rw [HQ.out] at this;exact this)
  refine wp_region_held (S := fun w' => w'.cell? ⟨H,1,none⟩ = some (.string NM)) mixed ?_
  change wpAnyH _ _ _ _ _ _ _ _ w4.drew
  have hD : Below w.heap.size w w4.drew := H4.out.1.drew
  have z1 := H4.out.2.1.cell 1
  simp at z1
  have hS0 : w4.drew.cell? ⟨H,1,none⟩ = some (.string NM) := z1
  obtain ⟨wd,hwd⟩ : ∃ q,w4.drew = q := ⟨_,rfl⟩
  have hlt : H < wd.heap.size := by rw [← hwd];exact H4.out.2.1.lt
  rw [hwd] at hD hS0 ⊢
  clear hwd z1 y0 yl
  have HD := Lib.hid (And.intro hD hlt)
  refine tkQ 0 (.pointer (some ⟨S,0,none⟩)) rfl hS0 ?_
  try go_simp
  refine tkQ 1 (.pointer (some ⟨H,1,none⟩)) rfl hS0 ?_
  try go_simp
  refine tkH 2 (.string NM) rfl hS0 (fun w' hS => ?_) ?_
  ·have q1 := hS;go_simp
  try go_simp
  refine tkQ 3 (.string TX) rfl hS0 ?_
  try go_simp
  refine tkQ 5 (.pointer (some ⟨R,0,none⟩)) rfl hS0 ?_
  try go_simp
  refine tkQ 6 (.pointer (some ⟨H,1,none⟩)) rfl hS0 ?_
  try go_simp
  refine tkH 7 (.string NM) rfl hS0 (fun w' hS => ?_) ?_
  ·have q1 := hS;go_simp
  try go_simp
  refine tkQ 8 (.string TX) rfl hS0 ?_
  try go_simp
  refine alH 4 ?_
  unfold wpOp
  go_simp
  refine .inl ?_
  go_at_call 16
  have KK := HK.out.2.1 wd HD.out.1
  rw [HO2.out] at KK
  refine KK.mono ?_
  rintro e w5 ⟨rfl,X5,hm5,hs5⟩
  have hS1 : w5.cell? ⟨H,1,none⟩ = some (.string NM) := (hm5.frm.cell (p := ⟨H,1,none⟩) HD.out.2 HH.out.2.1).trans hS0
  have h25 := (H2.out.below HD.out.1).real hm5 hs5
  have hlt5 : H < w5.heap.size := Nat.lt_of_lt_of_le HD.out.2 hm5.size
  have KQ := HR.out.2.1 HP2.out w5 h25.rst
  have H5 := Lib.hid (And.intro h25 (And.intro ((Mv.of_below (S :: M :: X) HD.out.1).trans hm5) hlt5))
  refine ⟨hS1, ?_⟩
  try go_simp
  clear hm5 hs5 h25 hlt5 KK hS0
  refine alH 9 ?_
  unfold wpOp
  go_simp
  refine .inl ?_
  go_at_call 65
  refine KQ.mono ?_
  rintro e w6 ⟨rfl,Y6,hs6,hm6⟩
  have hS0 : w6.cell? ⟨H,1,none⟩ = some (.string NM) := (hm6.frm.cell (p := ⟨H,1,none⟩) H5.out.2.2 HH.out.2.2).trans hS1
  have H6 := Lib.hid (And.intro (H5.out.1.ref hm6 hs6) ((H5.out.2.1.wideR (Z := R :: Y)).trans (hm6.wideL (Z := S :: M :: X5))))
  refine ⟨hS0, ?_⟩
  try go_simp
  clear hm6 hs6 KQ hS1
  refine tkQ 10 (.int .i64 ((O.1 : Nat) : Int)) rfl hS0 ?_
  try go_simp
  refine tkQ 11 (.int .i64 ((r : Nat) : Int)) rfl hS0 ?_
  try go_simp
  refine wpAnyH_done (by kernel_rfl) ?_ _
  clear hS0
  go_wp2
  go_ret2
  exact ⟨rfl,X5,Y6,H6.out.1,H6.out.2⟩
 ·skip
  go_upto_region 8 with (fail)
  have HO2 := Lib.hid (show opA m nm (textB nn bb i) = O by rw [← HO.out,HQ.out];rfl)
  have HP2 := Lib.hid (show appS F T nm (textB nn bb i) = some (r,F',T') by have := HPP.out;rw [HQ.out] at this;exact this)
  refine wp_region_held (S := fun w' => w'.cell? ⟨H,1,none⟩ = some (.string NM)) mixed ?_
  change wpAnyH _ _ _ _ _ _ _ _ w4.drew
  have hD : Below w.heap.size w w4.drew := H4.out.1.drew
  have z1 := H4.out.2.1.cell 1
  simp at z1
  have hS0 : w4.drew.cell? ⟨H,1,none⟩ = some (.string NM) := z1
  obtain ⟨wd,hwd⟩ : ∃ q,w4.drew = q := ⟨_,rfl⟩
  have hlt : H < wd.heap.size := by rw [← hwd];exact H4.out.2.1.lt
  rw [hwd] at hD hS0 ⊢
  clear hwd z1 y0 yl
  have HD := Lib.hid (And.intro hD hlt)
  refine tkQ 0 (.pointer (some ⟨S,0,none⟩)) rfl hS0 ?_
  try go_simp
  refine tkQ 1 (.pointer (some ⟨H,1,none⟩)) rfl hS0 ?_
  try go_simp
  refine tkH 2 (.string NM) rfl hS0 (fun w' hS => ?_) ?_
  ·have q1 := hS;go_simp
  try go_simp
  refine tkQ 3 (.string TX) rfl hS0 ?_
  try go_simp
  refine tkQ 5 (.pointer (some ⟨R,0,none⟩)) rfl hS0 ?_
  try go_simp
  refine tkQ 6 (.pointer (some ⟨H,1,none⟩)) rfl hS0 ?_
  try go_simp
  refine tkH 7 (.string NM) rfl hS0 (fun w' hS => ?_) ?_
  ·have q1 := hS;go_simp
  try go_simp
  refine tkQ 8 (.string TX) rfl hS0 ?_
  try go_simp
  refine alH 4 ?_
  unfold wpOp
  go_simp
  refine .inl ?_
  go_at_call 16
  have KK := HK.out.2.1 wd HD.out.1
  rw [HO2.out] at KK
  refine KK.mono ?_
  rintro e w5 ⟨rfl,X5,hm5,hs5⟩
  have hS1 : w5.cell? ⟨H,1,none⟩ = some (.string NM) := (hm5.frm.cell (p := ⟨H,1,none⟩) HD.out.2 HH.out.2.1).trans hS0
  have h25 := (H2.out.below HD.out.1).real hm5 hs5
  have hlt5 : H < w5.heap.size := Nat.lt_of_lt_of_le HD.out.2 hm5.size
  have KQ := HR.out.2.1 HP2.out w5 h25.rst
  have H5 := Lib.hid (And.intro h25 (And.intro ((Mv.of_below (S :: M :: X) HD.out.1).trans hm5) hlt5))
  refine ⟨hS1, ?_⟩
  try go_simp
  clear hm5 hs5 h25 hlt5 KK hS0
  refine alH 9 ?_
  unfold wpOp
  go_simp
  refine .inl ?_
  go_at_call 65
  refine KQ.mono ?_
  rintro e w6 ⟨rfl,Y6,hs6,hm6⟩
  have hS0 : w6.cell? ⟨H,1,none⟩ = some (.string NM) := (hm6.frm.cell (p := ⟨H,1,none⟩) H5.out.2.2 HH.out.2.2).trans hS1
  have H6 := Lib.hid (And.intro (H5.out.1.ref hm6 hs6) ((H5.out.2.1.wideR (Z := R :: Y)).trans (hm6.wideL (Z := S :: M :: X5))))
  refine ⟨hS0, ?_⟩
  try go_simp
  clear hm6 hs6 KQ hS1
  refine tkQ 10 (.int .i64 ((O.1 : Nat) : Int)) rfl hS0 ?_
  try go_simp
  refine tkQ 11 (.int .i64 ((r : Nat) : Int)) rfl hS0 ?_
  try go_simp
  refine wpAnyH_done (by kernel_rfl) ?_ _
  clear hS0
  go_wp2
  go_ret2
  exact ⟨rfl,X5,Y6,H6.out.1,H6.out.2⟩
 ·skip
  go_upto_region 10 with (fail)
  have HO2 := Lib.hid (show opN m nm ds = O by rw [← HO.out,HQ.out];rfl)
  have HP2 := Lib.hid (show renS F T nm ds = some (r,F',T') by have := HPP.out;rw [HQ.out] at this;exact this)
  refine wp_region_held (S := fun w' => w'.cell? ⟨H,1,none⟩ = some (.string NM) ∧ w'.cell? ⟨H,2,none⟩ = some (.string DM)) mixed ?_
  change wpAnyH _ _ _ _ _ _ _ _ w4.drew
  have hD : Below w.heap.size w w4.drew := H4.out.1.drew
  have z1 := H4.out.2.1.cell 1
  have z2 := H4.out.2.1.cell 2
  simp at z1 z2
  have hS0 : w4.drew.cell? ⟨H,1,none⟩ = some (.string NM) ∧ w4.drew.cell? ⟨H,2,none⟩ = some (.string DM) := ⟨z1,z2⟩
  obtain ⟨wd,hwd⟩ : ∃ q,w4.drew = q := ⟨_,rfl⟩
  have hlt : H < wd.heap.size := by rw [← hwd];exact H4.out.2.1.lt
  rw [hwd] at hD hS0 ⊢
  clear hwd z1 y0 yl z2
  have HD := Lib.hid (And.intro hD hlt)
  refine tkQ 0 (.pointer (some ⟨S,0,none⟩)) rfl hS0 ?_
  try go_simp
  refine tkQ 1 (.pointer (some ⟨H,1,none⟩)) rfl hS0 ?_
  try go_simp
  refine tkH 2 (.string NM) rfl hS0 (fun w' hS => ?_) ?_
  ·have q1 := hS.1;have q2 := hS.2;go_simp
  try go_simp
  refine tkQ 3 (.pointer (some ⟨H,2,none⟩)) rfl hS0 ?_
  try go_simp
  refine tkH 4 (.string DM) rfl hS0 (fun w' hS => ?_) ?_
  ·have q1 := hS.1;have q2 := hS.2;go_simp
  try go_simp
  refine tkQ 6 (.pointer (some ⟨R,0,none⟩)) rfl hS0 ?_
  try go_simp
  refine tkQ 7 (.pointer (some ⟨H,1,none⟩)) rfl hS0 ?_
  try go_simp
  refine tkH 8 (.string NM) rfl hS0 (fun w' hS => ?_) ?_
  ·have q1 := hS.1;have q2 := hS.2;go_simp
  try go_simp
  refine tkQ 9 (.pointer (some ⟨H,2,none⟩)) rfl hS0 ?_
  try go_simp
  refine tkH 10 (.string DM) rfl hS0 (fun w' hS => ?_) ?_
  ·have q1 := hS.1;have q2 := hS.2;go_simp
  try go_simp
  refine alH 5 ?_
  unfold wpOp
  go_simp
  refine .inl ?_
  go_at_call 20
  have KK := HK.out.2.2.1 wd HD.out.1
  rw [HO2.out] at KK
  refine KK.mono ?_
  rintro e w5 ⟨rfl,X5,hm5,hs5⟩
  have hS1 : w5.cell? ⟨H,1,none⟩ = some (.string NM) ∧ w5.cell? ⟨H,2,none⟩ = some (.string DM) := ⟨(hm5.frm.cell (p := ⟨H,1,none⟩) HD.out.2 HH.out.2.1).trans hS0.1,(hm5.frm.cell (p := ⟨H,2,none⟩) HD.out.2 HH.out.2.1).trans hS0.2⟩
  have h25 := (H2.out.below HD.out.1).real hm5 hs5
  have hlt5 : H < w5.heap.size := Nat.lt_of_lt_of_le HD.out.2 hm5.size
  have KQ := HR.out.2.2.1 HP2.out w5 h25.rst
  have H5 := Lib.hid (And.intro h25 (And.intro ((Mv.of_below (S :: M :: X) HD.out.1).trans hm5) hlt5))
  refine ⟨hS1, ?_⟩
  try go_simp
  clear hm5 hs5 h25 hlt5 KK hS0
  refine alH 11 ?_
  unfold wpOp
  go_simp
  refine .inl ?_
  go_at_call 66
  refine KQ.mono ?_
  rintro e w6 ⟨rfl,Y6,hs6,hm6⟩
  have hS0 : w6.cell? ⟨H,1,none⟩ = some (.string NM) ∧ w6.cell? ⟨H,2,none⟩ = some (.string DM) := ⟨(hm6.frm.cell (p := ⟨H,1,none⟩) H5.out.2.2 HH.out.2.2).trans hS1.1,(hm6.frm.cell (p := ⟨H,2,none⟩) H5.out.2.2 HH.out.2.2).trans hS1.2⟩
  have H6 := Lib.hid (And.intro (H5.out.1.ref hm6 hs6) ((H5.out.2.1.wideR (Z := R :: Y)).trans (hm6.wideL (Z := S :: M :: X5))))
  refine ⟨hS0, ?_⟩
  try go_simp
  clear hm6 hs6 KQ hS1
  refine tkQ 12 (.int .i64 ((O.1 : Nat) : Int)) rfl hS0 ?_
  try go_simp
  refine tkQ 13 (.int .i64 ((r : Nat) : Int)) rfl hS0 ?_
  try go_simp
  refine wpAnyH_done (by kernel_rfl) ?_ _
  clear hS0
  go_wp2
  go_ret2
  exact ⟨rfl,X5,Y6,H6.out.1,H6.out.2⟩
 ·skip
  go_upto_region 12 with (fail)
  have HO2 := Lib.hid (show opR m nm = O by rw [← HO.out,HQ.out];rfl)
  have HP2 := Lib.hid (show remS F T nm = some (r,F',T') by have := HPP.out;rw [HQ.out] at this;exact this)
  refine wp_region_held (S := fun w' => w'.cell? ⟨H,1,none⟩ = some (.string NM)) mixed ?_
  change wpAnyH _ _ _ _ _ _ _ _ w4.drew
  have hD : Below w.heap.size w w4.drew := H4.out.1.drew
  have z1 := H4.out.2.1.cell 1
  simp at z1
  have hS0 : w4.drew.cell? ⟨H,1,none⟩ = some (.string NM) := z1
  obtain ⟨wd,hwd⟩ : ∃ q,w4.drew = q := ⟨_,rfl⟩
  have hlt : H < wd.heap.size := by rw [← hwd];exact H4.out.2.1.lt
  rw [hwd] at hD hS0 ⊢
  clear hwd z1 y0 yl
  have HD := Lib.hid (And.intro hD hlt)
  refine tkQ 0 (.pointer (some ⟨S,0,none⟩)) rfl hS0 ?_
  try go_simp
  refine tkQ 1 (.pointer (some ⟨H,1,none⟩)) rfl hS0 ?_
  try go_simp
  refine tkH 2 (.string NM) rfl hS0 (fun w' hS => ?_) ?_
  ·have q1 := hS;go_simp
  try go_simp
  refine tkQ 4 (.pointer (some ⟨R,0,none⟩)) rfl hS0 ?_
  try go_simp
  refine tkQ 5 (.pointer (some ⟨H,1,none⟩)) rfl hS0 ?_
  try go_simp
  refine tkH 6 (.string NM) rfl hS0 (fun w' hS => ?_) ?_
  ·have q1 := hS;go_simp
  try go_simp
  refine alH 3 ?_
  unfold wpOp
  go_simp
  refine .inl ?_
  go_at_call 21
  have KK := HK.out.2.2.2.1 wd HD.out.1
  rw [HO2.out] at KK
  refine KK.mono ?_
  rintro e w5 ⟨rfl,X5,hm5,hs5⟩
  have hS1 : w5.cell? ⟨H,1,none⟩ = some (.string NM) := (hm5.frm.cell (p := ⟨H,1,none⟩) HD.out.2 HH.out.2.1).trans hS0
  have h25 := (H2.out.below HD.out.1).real hm5 hs5
  have hlt5 : H < w5.heap.size := Nat.lt_of_lt_of_le HD.out.2 hm5.size
  have KQ := HR.out.2.2.2.1 HP2.out w5 h25.rst
  have H5 := Lib.hid (And.intro h25 (And.intro ((Mv.of_below (S :: M :: X) HD.out.1).trans hm5) hlt5))
  refine ⟨hS1, ?_⟩
  try go_simp
  clear hm5 hs5 h25 hlt5 KK hS0
  refine alH 7 ?_
  unfold wpOp
  go_simp
  refine .inl ?_
  go_at_call 67
  refine KQ.mono ?_
  rintro e w6 ⟨rfl,Y6,hs6,hm6⟩
  have hS0 : w6.cell? ⟨H,1,none⟩ = some (.string NM) := (hm6.frm.cell (p := ⟨H,1,none⟩) H5.out.2.2 HH.out.2.2).trans hS1
  have H6 := Lib.hid (And.intro (H5.out.1.ref hm6 hs6) ((H5.out.2.1.wideR (Z := R :: Y)).trans (hm6.wideL (Z := S :: M :: X5))))
  refine ⟨hS0, ?_⟩
  try go_simp
  clear hm6 hs6 KQ hS1
  refine tkQ 8 (.int .i64 ((O.1 : Nat) : Int)) rfl hS0 ?_
  try go_simp
  refine tkQ 9 (.int .i64 ((r : Nat) : Int)) rfl hS0 ?_
  try go_simp
  refine wpAnyH_done (by kernel_rfl) ?_ _
  clear hS0
  go_wp2
  go_ret2
  exact ⟨rfl,X5,Y6,H6.out.1,H6.out.2⟩
 ·skip
  have hO2 : (findE m.F nm,m) = O := by rw [← HO.out,HQ.out];rfl
  have hP2 : (findR F nm,F,T) = (r,F',T') := by have := HPP.out;rw [HQ.out] at this;exact Option.some.inj this
  simp only [Prod.mk.injEq] at hP2
  obtain ⟨hr1,rfl,rfl⟩ := hP2
  subst hO2
  have KS4 := HK.out.2.2.2.2.1 w4 H4.out.1
  have y1 := H4.out.2.1.cell 1
  simp at y1
  have HR1 := Lib.hid hr1
  clear hr1
  obtain ⟨fe,hfe⟩ : ∃ q,findE m.F nm = q := ⟨_,rfl⟩
  rw [hfe] at KS4
  obtain ⟨RX,hRX⟩ : ∃ q,mk (readW m nm) = q := ⟨_,rfl⟩
  rw [hRX] at KS4
  have HFE := Lib.hid hfe
  clear hRX hfe
  go_upto_region 14 with (first
   | (go_at_call 17;refine KS4.mono ?_;rintro e w5 ⟨rfl,hb5⟩;have KZ5 := HK.out.2.2.2.2.2 w5 (H4.out.1.trans (hb5.mono H4.out.1.size));have hB5 := H4.out.2.1.below hb5;have y1 := hB5.cell 1;have yl := hB5.lt;simp at y1;have H5 := Lib.hid (And.intro (H4.out.1.trans (hb5.mono H4.out.1.size)) hB5);clear hb5 hB5 KS4))
  rw [HFE.out] at KZ5
  obtain ⟨zz,hzz⟩ : ∃ q,sizeW m.F nm = q := ⟨_,rfl⟩
  rw [hzz] at KZ5
  clear hzz
  go_upto_region 16 with (first
   | (go_at_call 18;refine KZ5.mono ?_;rintro e w6 ⟨rfl,hb6⟩;have RG6 := HR.out.2.2.2.2.1 w6;have hB6 := H5.out.2.below hb6;have y1 := hB6.cell 1;have yl := hB6.lt;simp at y1;have H6 := Lib.hid (H5.out.1.trans (hb6.mono H5.out.1.size));clear hb6 hB6 KZ5))
  have RF6 := HR.out.2.2.2.2.2 w6 (H2.out.below H6.out).rst
  have HFR := Lib.hid (show findR F nm = if goodF nm = false then 11 else match idxF F nm with | none => 9 | some _ => 0 from rfl)
  have hEnd : ∀ w7,Below w6.heap.size w6 w7 → Two w7 X S D Lg M m Y R F T most ∧ Mv ((S :: M :: X) ++ (R :: Y)) ((S :: M :: X) ++ (R :: Y)) w w7 := fun w7 hb => ⟨(H2.out.below H6.out).below hb,Mv.of_below _ (H6.out.trans (hb.mono H6.out.size))⟩
  have HEND := Lib.hid hEnd
  clear hEnd
  cases hg : goodF nm with
  | false =>
   have hr2 : r = 11 := by rw [← HR1.out,HFR.out,if_pos hg]
   rw [hg] at RG6
   subst hr2
   clear hg RF6
   go_wp2_with (first
    | (go_at_call 12;refine RG6.mono ?_;rintro e w7 ⟨rfl,rfl⟩;clear RG6))
   go_ret2
   exact ⟨by rw [HFE.out];rfl,X,Y,HEND.out _ (Below.refl _ _)⟩
  | true =>
   rw [hg] at RG6
   cases hx : idxF F nm with
   | none =>
    have hr2 : r = 9 := by rw [← HR1.out,HFR.out,if_neg (by rw [hg];decide),hx]
    rw [show findI F nm = -1 by unfold findI;unfold idxF at hx;rw [hx]] at RF6
    subst hr2
    clear hg hx
    go_wp2_with (first
     | (go_at_call 12;refine RG6.mono ?_;rintro e w7 ⟨rfl,rfl⟩;clear RG6)
     | (go_at_call 68;refine RF6.mono ?_;rintro e w7 ⟨rfl,rfl⟩;clear RF6))
    go_ret2
    exact ⟨by rw [HFE.out];rfl,X,Y,HEND.out _ (Below.refl _ _)⟩
   | some j =>
    have hr2 : r = 0 := by rw [← HR1.out,HFR.out,if_neg (by rw [hg];decide),hx]
    rw [show findI F nm = (j : Int) by unfold findI;unfold idxF at hx;rw [hx]] at RF6
    have j1 : ¬ ((j : Int) < 0) := by omega
    subst hr2
    clear hg hx
    go_wp2_with (first
     | (go_at_call 12;refine RG6.mono ?_;rintro e w7 ⟨rfl,rfl⟩;clear RG6)
     | (go_at_call 68;refine RF6.mono ?_;rintro e w7 ⟨rfl,rfl⟩;clear RF6))
    go_ret2
    exact ⟨by rw [HFE.out];rfl,X,Y,HEND.out _ (Below.refl _ _)⟩
 ·skip
  have hO2 : (findE m.F nm,m) = O := by rw [← HO.out,HQ.out];rfl
  have hP2 : (findR F nm,F,T) = (r,F',T') := by have := HPP.out;rw [HQ.out] at this;exact Option.some.inj this
  simp only [Prod.mk.injEq] at hP2
  obtain ⟨hr1,rfl,rfl⟩ := hP2
  subst hO2
  have KS4 := HK.out.2.2.2.2.1 w4 H4.out.1
  have y1 := H4.out.2.1.cell 1
  simp at y1
  have HR1 := Lib.hid hr1
  clear hr1
  obtain ⟨fe,hfe⟩ : ∃ q,findE m.F nm = q := ⟨_,rfl⟩
  rw [hfe] at KS4
  obtain ⟨RX,hRX⟩ : ∃ q,mk (readW m nm) = q := ⟨_,rfl⟩
  rw [hRX] at KS4
  have HFE := Lib.hid hfe
  clear hRX hfe
  go_upto_region 14 with (first
   | (go_at_call 17;refine KS4.mono ?_;rintro e w5 ⟨rfl,hb5⟩;have KZ5 := HK.out.2.2.2.2.2 w5 (H4.out.1.trans (hb5.mono H4.out.1.size));have hB5 := H4.out.2.1.below hb5;have y1 := hB5.cell 1;have yl := hB5.lt;simp at y1;have H5 := Lib.hid (And.intro (H4.out.1.trans (hb5.mono H4.out.1.size)) hB5);clear hb5 hB5 KS4))
  rw [HFE.out] at KZ5
  obtain ⟨zz,hzz⟩ : ∃ q,sizeW m.F nm = q := ⟨_,rfl⟩
  rw [hzz] at KZ5
  clear hzz
  go_upto_region 16 with (first
   | (go_at_call 18;refine KZ5.mono ?_;rintro e w6 ⟨rfl,hb6⟩;have RG6 := HR.out.2.2.2.2.1 w6;have hB6 := H5.out.2.below hb6;have y1 := hB6.cell 1;have yl := hB6.lt;simp at y1;have H6 := Lib.hid (H5.out.1.trans (hb6.mono H5.out.1.size));clear hb6 hB6 KZ5))
  have RF6 := HR.out.2.2.2.2.2 w6 (H2.out.below H6.out).rst
  have HFR := Lib.hid (show findR F nm = if goodF nm = false then 11 else match idxF F nm with | none => 9 | some _ => 0 from rfl)
  have hEnd : ∀ w7,Below w6.heap.size w6 w7 → Two w7 X S D Lg M m Y R F T most ∧ Mv ((S :: M :: X) ++ (R :: Y)) ((S :: M :: X) ++ (R :: Y)) w w7 := fun w7 hb => ⟨(H2.out.below H6.out).below hb,Mv.of_below _ (H6.out.trans (hb.mono H6.out.size))⟩
  have HEND := Lib.hid hEnd
  clear hEnd
  cases hg : goodF nm with
  | false =>
   have hr2 : r = 11 := by rw [← HR1.out,HFR.out,if_pos hg]
   rw [hg] at RG6
   subst hr2
   clear hg RF6
   go_wp2_with (first
    | (go_at_call 12;refine RG6.mono ?_;rintro e w7 ⟨rfl,rfl⟩;clear RG6))
   go_ret2
   exact ⟨by rw [HFE.out];rfl,X,Y,HEND.out _ (Below.refl _ _)⟩
  | true =>
   rw [hg] at RG6
   cases hx : idxF F nm with
   | none =>
    have hr2 : r = 9 := by rw [← HR1.out,HFR.out,if_neg (by rw [hg];decide),hx]
    rw [show findI F nm = -1 by unfold findI;unfold idxF at hx;rw [hx]] at RF6
    subst hr2
    clear hg hx
    go_wp2_with (first
     | (go_at_call 12;refine RG6.mono ?_;rintro e w7 ⟨rfl,rfl⟩;clear RG6)
     | (go_at_call 68;refine RF6.mono ?_;rintro e w7 ⟨rfl,rfl⟩;clear RF6))
    go_ret2
    exact ⟨by rw [HFE.out];rfl,X,Y,HEND.out _ (Below.refl _ _)⟩
   | some j =>
    have hr2 : r = 0 := by rw [← HR1.out,HFR.out,if_neg (by rw [hg];decide),hx]
    rw [show findI F nm = (j : Int) by unfold findI;unfold idxF at hx;rw [hx]] at RF6
    have j1 : ¬ ((j : Int) < 0) := by omega
    subst hr2
    clear hg hx
    go_wp2_with (first
     | (go_at_call 12;refine RG6.mono ?_;rintro e w7 ⟨rfl,rfl⟩;clear RG6)
     | (go_at_call 68;refine RF6.mono ?_;rintro e w7 ⟨rfl,rfl⟩;clear RF6))
    go_ret2
    exact ⟨by rw [HFE.out];rfl,X,Y,HEND.out _ (Below.refl _ _)⟩
def layR : List Nat → Bs → List (Nat × Bs)
 | [],_ => []
 | i :: l,d => (i,d.take 512) :: layR l (d.drop 512)
theorem layX_eq (l : List Nat) (d : Bs) : layX l d = layR l d := by
 have key : ∀ (l : List Nat) (k : Nat),(l.zipIdx k).map (fun c => (c.1,(d.drop (512 * c.2)).take 512)) = layR l (d.drop (512 * k)) := by
  intro l
  induction l with
  | nil => intro k;rfl
  | cons i l ih =>
   intro k
   rw [List.zipIdx_cons,List.map_cons,layR,ih (k + 1),List.drop_drop,show 512 * (k + 1) = 512 * k + 512 by omega]
 have := key l 0
 rw [Nat.mul_zero,List.drop_zero] at this
 exact this
theorem layR_sec (l : List Nat) : ∀ d : Bs,(layR l d).map (·.1) = l := by
 induction l with
 | nil => intro d;rfl
 | cons i l ih => intro d;rw [layR,List.map_cons,ih]
theorem secsB_congr {v v' : List Bs} {l : List Nat} (h : ∀ i ∈ l,secAt v' i = secAt v i) : secsB v' l = secsB v l := by
 unfold secsB
 induction l with
 | nil => rfl
 | cons i l ih => rw [List.flatMap_cons,List.flatMap_cons,h i (List.mem_cons_self ..),ih (fun j hj => h j (List.mem_cons_of_mem _ hj))]
theorem secsB_app (v : List Bs) (a b : List Nat) : secsB v (a ++ b) = secsB v a ++ secsB v b := by unfold secsB;rw [List.flatMap_append]
theorem full_app (d : Bs) (n : Nat) (h : d.length ≤ 512 * (n + 1)) : fullB (d.take 512) ++ (d.drop 512 ++ List.replicate (512 * n - (d.drop 512).length) 0) = d ++ List.replicate (512 * (n + 1) - d.length) 0 := by
 unfold fullB
 by_cases h1 : 512 ≤ d.length
 ·have e0 : (d.take 512).length = 512 := by rw [List.length_take];omega
  have e1 : 512 * n - (d.drop 512).length = 512 * (n + 1) - d.length := by rw [List.length_drop];omega
  have e2 : List.replicate (512 - (d.take 512).length) (0 : UInt8) = [] := by rw [e0];exact List.replicate_zero
  rw [e2,e1,List.append_nil, ← List.append_assoc,List.take_append_drop]
 ·have e1 : 512 * (n + 1) - d.length = (512 - d.length) + 512 * n := by omega
  rw [List.take_of_length_le (by omega),List.drop_eq_nil_of_le (by omega),List.nil_append,List.length_nil,Nat.sub_zero,List.append_assoc,List.replicate_append_replicate,e1]
theorem secs_lay : ∀ (l : List Nat) (d : Bs) (v : List Bs),l.Nodup → (∀ i ∈ l,i < v.length) → d.length ≤ 512 * l.length →
  secsB (overlay v (fulls (layR l d))) l = d ++ List.replicate (512 * l.length - d.length) 0 := by
 intro l
 induction l with
 | nil => intro d v _ _ h;have : d = [] := by simpa using h
          subst this;rfl
 | cons i l ih =>
  intro d v hn hv h
  rw [List.nodup_cons] at hn
  have e1 : overlay v (fulls (layR (i :: l) d)) = overlay (v.set i (fullB (d.take 512))) (fulls (layR l (d.drop 512))) := rfl
  rw [e1]
  have h2 := ih (d.drop 512) (v.set i (fullB (d.take 512))) hn.2 (fun j hj => by rw [List.length_set];exact hv j (List.mem_cons_of_mem _ hj)) (by rw [List.length_drop];simp at h;omega)
  show secAt _ i ++ secsB _ l = _
  rw [h2,secAt_ne _ _ _ (by rw [layR_sec];exact hn.1),secAt_set _ _ _ (hv i (List.mem_cons_self ..))]
  rw [List.length_cons] at h ⊢
  exact full_app d l.length h
theorem secL_map (b : Nat) (l : List (Nat × Nat)) : secL b l = (unitsL l).map (b + ·) := by
 unfold secL unitsL
 rw [List.map_flatMap]
 congr 1
 funext x
 unfold secX
 rw [List.range'_eq_map_range,List.map_map]
 refine List.map_congr_left fun i _ => ?_
 show b + x.1 + i = b + (x.1 + i)
 omega
theorem mem_secL {b i : Nat} {l : List (Nat × Nat)} : i ∈ secL b l ↔ ∃ u ∈ unitsL l,i = b + u := by
 rw [secL_map,List.mem_map]
 exact ⟨fun ⟨u,h,e⟩ => ⟨u,h,e.symm⟩,fun ⟨u,h,e⟩ => ⟨u,h,e.symm⟩⟩
theorem secL_nodup {b : Nat} {l : List (Nat × Nat)} (h : (unitsL l).Nodup) : (secL b l).Nodup := by
 rw [secL_map]
 exact List.pairwise_map.2 (List.Pairwise.imp (fun hne e => hne (by omega)) h)
theorem secL_app (b : Nat) (a c : List (Nat × Nat)) : secL b (a ++ c) = secL b a ++ secL b c := by unfold secL;rw [List.flatMap_append]
theorem imgs_low (x : List (Nat × Bs)) (f : Nat) : ∀ c ∈ imgs x f,c.1 < f + 1 + x.length := by
 intro c hc
 obtain ⟨k,hk,rfl⟩ := List.getElem_of_mem hc
 rw [imgs_length] at hk
 rw [imgs_at x f k hk]
 show f + 1 + k < _
 omega
theorem settle_low {most : Nat} {T : List Bool} {C : List (Nat × Bs)} (hC : ∀ c ∈ C,c.1 < most) (hl : C.length ≤ 2) (i : Nat) (hi : most + 7 ≤ i) : i ∉ (wrOf (settleC most T C)).map (·.1) := by
 intro hm
 have e : wrOf (settleC most T C) = imgs (settleX T C) (2 + most) ++ ((2 + most,headW (settleX T C)) :: (settleX T C ++ [(2 + most,[])])) := by
  unfold settleC commitC
  simp only [wrOf_append,wrOf_wrs]
  simp [wrOf]
 rw [e,List.map_append,List.mem_append] at hm
 rcases hm with hm | hm
 ·obtain ⟨c,hc,he⟩ := List.mem_map.1 hm
  have := imgs_low _ _ c hc
  rw [settleX_length] at this
  omega
 ·rw [List.map_cons,List.mem_cons,List.map_append,List.mem_append] at hm
  rcases hm with hm | hm | hm
  ·simp only at hm;omega
  ·obtain ⟨c,hc,he⟩ := List.mem_map.1 hm
   unfold settleX at hc
   rcases List.mem_cons.1 hc with rfl | hc
   ·simp only at he;omega
   ·obtain ⟨d,hd,rfl⟩ := List.mem_map.1 hc
    have := hC d hd
    simp only at he;omega
  ·simp at hm;omega
theorem wrOf_lay (L : List Nat) (dt : Bs) : wrOf (layC L dt) = layR L dt := by
 unfold layC
 split
 ·rename_i h;subst h;rfl
 ·rw [wrOf_append,wrOf_wrs,layX_eq];simp [wrOf]
theorem put_sec {d : DS} (h1 : d.cut = none) (h2 : d.off = false) (L : List Nat) (dt : Bs) {most : Nat} {T : List Bool} {C : List (Nat × Bs)} (hC : ∀ c ∈ C,c.1 < most) (hl : C.length ≤ 2) (i : Nat) (hi : most + 7 ≤ i) :
  secAt (DS.run (layC L dt ++ settleC most T C) d).2.vis i = secAt (overlay d.vis (fulls (layR L dt))) i := by
 obtain ⟨_,_,_,hv⟩ := run_on (layC L dt ++ settleC most T C) d h1 h2
 rw [hv,wrOf_append,wrOf_lay]
 have e : overlay d.vis (fulls (layR L dt ++ wrOf (settleC most T C))) = overlay (overlay d.vis (fulls (layR L dt))) (fulls (wrOf (settleC most T C))) := by
  unfold overlay fulls;rw [List.map_append,List.foldl_append]
 rw [e,secAt_ne _ _ _ (settle_low hC hl i hi)]
theorem put_other {d : DS} (h1 : d.cut = none) (h2 : d.off = false) (L : List Nat) (dt : Bs) {most : Nat} {T : List Bool} {C : List (Nat × Bs)} (hC : ∀ c ∈ C,c.1 < most) (hl : C.length ≤ 2) (i : Nat) (hi : most + 7 ≤ i) (hL : i ∉ L) :
  secAt (DS.run (layC L dt ++ settleC most T C) d).2.vis i = secAt d.vis i := by
 rw [put_sec h1 h2 L dt hC hl i hi,secAt_ne _ _ _ (by rw [layR_sec];exact hL)]
theorem put_new {d : DS} (h1 : d.cut = none) (h2 : d.off = false) (L : List Nat) (dt : Bs) {most : Nat} {T : List Bool} {C : List (Nat × Bs)} (hC : ∀ c ∈ C,c.1 < most) (hl : C.length ≤ 2) (hL : ∀ i ∈ L,most + 7 ≤ i) (hn : L.Nodup) (hv : ∀ i ∈ L,i < d.L.length) (hd : dt.length ≤ 512 * L.length) :
  secsB (DS.run (layC L dt ++ settleC most T C) d).2.vis L = dt ++ List.replicate (512 * L.length - dt.length) 0 := by
 rw [secsB_congr (v := overlay d.vis (fulls (layR L dt))) (fun i hi => put_sec h1 h2 L dt hC hl i (hL i hi))]
 exact secs_lay L dt d.vis hn (fun i hi => by rw [vis_length];exact hv i hi) hd
theorem secL_ge {b i : Nat} {l : List (Nat × Nat)} (h : i ∈ secL b l) : b ≤ i := by obtain ⟨u,_,rfl⟩ := mem_secL.1 h;omega
theorem fileOf_perm {F G : List FileM} (h : F.Perm G) (hn : (F.map (·.name)).Nodup) (t : Bs) : fileOf F t = fileOf G t := by
 cases hF : fileOf F t with
 | none =>
  symm
  rw [fileOf_none] at hF ⊢
  exact fun f hf => hF f (h.mem_iff.2 hf)
 | some f =>
  have hf := fileOf_mem hF
  have hfn := fileOf_name hF
  cases hG : fileOf G t with
  | none => exact absurd hfn (fileOf_none.1 hG f (h.mem_iff.1 hf))
  | some g => rw [name_inj hn hf (h.mem_iff.2 (fileOf_mem hG)) (hfn.trans (fileOf_name hG).symm)]
theorem fileOf_put (F : List FileM) (f : FileM) (hn : (F.map (·.name)).Nodup) (t : Bs) : fileOf (putF F f) t = if t = f.name then some f else fileOf F t := by
 rw [fileOf_perm (perm_put F f hn) (putF_nodup hn)]
 by_cases h : t = f.name
 ·subst h
  rw [if_pos rfl]
  unfold fileOf;rw [List.find?_cons];simp
 ·rw [if_neg h]
  show List.find? _ _ = _
  rw [List.find?_cons,show (f.name == t) = false from beq_eq_false_iff_ne.2 (fun e => h e.symm)]
  exact fileOf_del h
theorem fileOf_gone (F : List FileM) (n t : Bs) : fileOf (delF F n) t = if t = n then none else fileOf F t := by
 by_cases h : t = n
 ·subst h
  rw [if_pos rfl,fileOf_none]
  intro f hf e
  have := (List.mem_filter.1 hf).2
  simp [e] at this
 ·rw [if_neg h,fileOf_del h]
theorem readF_len {m : StoM} (h : Inv m) (hd : DGood m.ds) {f : FileM} (hf : f ∈ m.F) : (readF m f).length = f.size := by
 have hfi := h.fin hf
 have hb := h.b.ll
 unfold readF
 rw [List.length_take,secsB_len hd _ (fun i hi => by
  obtain ⟨x,hx,h1,h2⟩ := secL_mem hi
  have := (hfi.exb x hx).2
  omega),secL_length,hfi.sum]
 unfold needsN
 omega
open Go.RowKit Go.Maps
theorem finW_ok {r : Nat × DS} {F : List FileM} {T : List Bool} {m : StoM} (h : r.1 = 0) : finW r F T m = (0,⟨r.2,F,T,m.most,m.off⟩) := by unfold finW;rw [if_pos h]
theorem opW_inv {m : StoM} (h : Inv m) (n d : Bs) : Inv (opW m n d).2 ∧ (opW m n d).2.most = m.most ∧ (opW m n d).2.T.length = m.T.length := by
 unfold opW
 cases hq : (preW m n d).2 with
 | none => exact ⟨h,rfl,rfl⟩
 | some q =>
  obtain ⟨T2,f⟩ := q
  obtain ⟨h1,h2⟩ := inv_put h (preW_zero hq)
  simp only
  rw [finW_ok h1]
  exact ⟨h2,rfl,inv_same_len h h2⟩
theorem opA_inv {m : StoM} (h : Inv m) (n d : Bs) : Inv (opA m n d).2 ∧ (opA m n d).2.most = m.most ∧ (opA m n d).2.T.length = m.T.length := by
 unfold opA
 cases hq : (preA m n d).2 with
 | none => exact ⟨h,rfl,rfl⟩
 | some q =>
  obtain ⟨T2,L,dt,f⟩ := q
  obtain ⟨h1,h2⟩ := inv_append h (preA_zero hq)
  simp only
  rw [finW_ok h1]
  exact ⟨h2,rfl,inv_same_len h h2⟩
theorem opN_inv {m : StoM} (h : Inv m) (a b : Bs) : Inv (opN m a b).2 ∧ (opN m a b).2.most = m.most ∧ (opN m a b).2.T.length = m.T.length := by
 unfold opN
 cases hq : (preN m a b).2 with
 | none => exact ⟨h,rfl,rfl⟩
 | some q =>
  obtain ⟨T2,C,F2⟩ := q
  obtain ⟨h1,h2⟩ := inv_rename h (preN_zero hq)
  simp only
  rw [finW_ok h1]
  exact ⟨h2,rfl,inv_same_len h h2⟩
theorem opR_inv {m : StoM} (h : Inv m) (n : Bs) : Inv (opR m n).2 ∧ (opR m n).2.most = m.most ∧ (opR m n).2.T.length = m.T.length := by
 unfold opR
 cases hq : (preR m n).2 with
 | none => exact ⟨h,rfl,rfl⟩
 | some q =>
  obtain ⟨T2,f⟩ := q
  obtain ⟨hg,hf,hz⟩ := preR_zero hq
  obtain ⟨T3,h0,h1,h2,h3⟩ := inv_remove h hg hf
  rw [hz] at h0
  simp only [Prod.mk.injEq,Option.some.injEq,and_true,true_and] at h0
  subst h0
  simp only
  rw [finW_ok h1]
  have hn := fileOf_name hf
  simp only at hn
  rw [hn]
  exact ⟨h2,rfl,h3⟩
theorem actO_inv {m : StoM} (h : Inv m) (a : ActM) (i : Nat) : Inv (actO m a i).2 ∧ (actO m a i).2.most = m.most ∧ (actO m a i).2.T.length = m.T.length := by
 unfold actO
 split
 ·exact opW_inv h _ _
 ·split
  ·exact opA_inv h _ _
  ·split
   ·exact opN_inv h _ _
   ·split
    ·exact opR_inv h _
    ·exact ⟨h,rfl,rfl⟩
theorem actS_inv {F : List PF} {T : List Bool} {most : Nat} (h : Inv (refM F T most)) (a : ActM) (i : Nat) : ∃ r F' T',actS F T most a i = some (r,F',T') ∧ Inv (refM F' T' most) := by
 unfold actS
 split
 ·obtain ⟨r,F',T',h1,h2,_⟩ := ref_write h a.name (textB a.n a.b i);exact ⟨r,F',T',h1,h2⟩
 ·split
  ·obtain ⟨r,F',T',h1,h2,_⟩ := ref_append h a.name (textB a.n a.b i);exact ⟨r,F',T',h1,h2⟩
  ·split
   ·obtain ⟨r,F',T',h1,h2,_⟩ := ref_rename h a.name a.dest;exact ⟨r,F',T',h1,h2⟩
   ·split
    ·obtain ⟨r,F',T',h1,h2,_⟩ := ref_remove h a.name;exact ⟨r,F',T',h1,h2⟩
    ·exact ⟨_,F,T,rfl,h⟩
theorem inv_new (s f : Nat) (h1 : 1 ≤ f) (h2 : f ≤ 256) (h3 : f + 8 ≤ s) (h4 : s ≤ 4000) : Inv (refM [] (List.replicate (s - f - 7) false) f) :=
 inv_idle (inv_fresh s f h1 h2 h3 h4) (List.Perm.refl _) rfl rfl
theorem turnS_bd (taken : Bool) : ∀ (l : List (Nat × Nat)) (T T' : List Bool),turnS taken T l = some T' → ∀ x ∈ l,1 ≤ x.2 ∧ x.1 + x.2 ≤ T.length := by
 intro l
 induction l with
 | nil => intro T T' _ x hx;cases hx
 | cons y l ih =>
  intro T T' h x hx
  rw [turnS] at h
  split at h
  ·cases h
  ·rename_i hc
   obtain ⟨T1,h1,h2⟩ := Option.bind_eq_some_iff.1 h
   rcases List.mem_cons.1 hx with rfl | hx
   ·omega
   ·have := ih T1 T' h2 x hx
    rw [turn1_len _ _ _ _ _ h1] at this
    exact this
theorem foldL_fin (v : List Bs) (u : Nat) : ∀ k F V,foldL v u k = some (F,V) → (F.map (·.name)).Nodup ∧ (F.map (·.entry)).Nodup ∧ ∀ f ∈ F,FileIn k u f := by
 intro k
 induction k with
 | zero =>
  intro F V h
  simp only [foldL,Option.some.injEq,Prod.mk.injEq] at h
  obtain ⟨rfl,rfl⟩ := h
  exact ⟨by simp,by simp,fun f hf => by cases hf⟩
 | succ k ih =>
  intro F V h
  rw [foldL] at h
  obtain ⟨⟨F0,V0⟩,h0,h1⟩ := Option.bind_eq_some_iff.1 h
  obtain ⟨a1,a2,a3⟩ := ih F0 V0 h0
  have hV := (foldL_len _ _ _ _ _ h0).1
  have hup : ∀ f ∈ F0,FileIn (k + 1) u f := fun f hf => { a3 f hf with ent := by have := (a3 f hf).ent;omega }
  unfold stepL at h1
  split at h1
  ·simp only [Option.some.injEq,Prod.mk.injEq] at h1
   obtain ⟨rfl,rfl⟩ := h1
   exact ⟨a1,a2,hup⟩
  ·split at h1
   ·cases h1
   ·rename_i nm sz l hp
    split at h1
    ·cases h1
    ·rename_i hnf
     obtain ⟨T,ht,he⟩ := Option.map_eq_some_iff.1 h1
     simp only [Prod.mk.injEq] at he
     obtain ⟨rfl,rfl⟩ := he
     obtain ⟨_,b2,b3,b4,b5,_⟩ := parse_some hp
     have hno : ∀ g ∈ F0,g.name ≠ nm := fileOf_none.1 (by simpa using hnf)
     refine ⟨?_, ?_,fun f hf => ?_⟩
     ·rw [List.map_append,List.nodup_append]
      refine ⟨a1,by simp,fun x hx y hy e => ?_⟩
      obtain ⟨g,hg,rfl⟩ := List.mem_map.1 hx
      simp at hy
      subst hy
      exact hno g hg e
     ·rw [List.map_append,List.nodup_append]
      refine ⟨a2,by simp,fun x hx y hy e => ?_⟩
      obtain ⟨g,hg,rfl⟩ := List.mem_map.1 hx
      simp at hy
      subst hy
      have := (a3 g hg).ent
      omega
     ·rcases List.mem_append.1 hf with h2 | h2
      ·exact hup f h2
      ·obtain rfl := List.mem_singleton.1 h2
       exact ⟨by simp only;omega,b2,b3,b4,fun x hx => by have := turnS_bd _ _ _ _ ht x hx;simp only at this;rw [hV] at this;exact this,b5⟩
theorem learnL_fin {v : List Bs} {u most : Nat} {F : List FileM} {T : List Bool} (h : learnL v u most = some (F,T)) : T.length = u ∧ F.length ≤ most ∧ (F.map (·.name)).Nodup ∧ (F.map (·.entry)).Nodup ∧ ∀ f ∈ F,FileIn most u f := by
 unfold learnL at h
 obtain ⟨T0,h0,h1⟩ := Option.bind_eq_some_iff.1 h
 obtain ⟨⟨F1,V1⟩,h2,h3⟩ := Option.bind_eq_some_iff.1 h1
 split at h3
 ·simp only [Option.some.injEq,Prod.mk.injEq] at h3
  obtain ⟨rfl,rfl⟩ := h3
  obtain ⟨b1,b2,_⟩ := foldL_len _ _ _ _ _ h2
  obtain ⟨c1,c2,c3⟩ := foldL_fin _ _ _ _ _ h2
  exact ⟨b1,b2,c1,c2,c3⟩
 ·cases h3
theorem learn_rdy {v : List Bs} {ds : DS} {u most : Nat} {F : List FileM} {T : List Bool} (h : learnL v u most = some (F,T)) (hm : 1 ≤ most ∧ most ≤ 256) (hu : u + most + 7 = ds.L.length) (hu2 : u ≤ 4096) (ho : ds.off = false) (hS : ds.S.length ≤ 500000) : Rdy ⟨ds,F,T,most,false⟩ := by
 obtain ⟨a1,a2,a3,a4,a5⟩ := learnL_fin h
 exact {
  b := { ent := fun f hf => (a5 f hf).ent
         nam := fun f hf => goodF_len (a5 f hf).good
         siz := fun f hf => (a5 f hf).siz
         exl := fun f hf => (a5 f hf).exl
         exb := fun f hf x hx => by have := ((a5 f hf).exb x hx).2;simp only;omega
         len := by simp only;omega
         mo := hm
         tl := by simp only;omega
         ll := by simp only;omega
         sl := hS }
  up := rfl
  on := ho
  sum := fun f hf => (a5 f hf).sum
  ent := a4 }
theorem readF_len2 {m : StoM} (h : Rdy m) (hd : DGood m.ds) {f : FileM} (hf : f ∈ m.F) : (readF m f).length = f.size := by
 have hb := h.b.ll
 unfold readF
 rw [List.length_take,secsB_len hd _ (fun i hi => by
  obtain ⟨x,hx,h1,h2⟩ := secL_mem hi
  have := h.b.exb f hf x hx
  omega),secL_length,h.sum f hf]
 unfold needsN
 omega
theorem names_rise {F : List FileM} (hn : (F.map (·.name)).Nodup) (i : Nat) (h : i + 1 < (namesS F).length) : ¬ ((namesS F)[i + 1] ≤ (namesS F)[i]) := by
 have hp : (namesS F).Perm (F.map (·.name)) := List.mergeSort_perm _ _
 have hnd : (namesS F).Nodup := hp.nodup_iff.2 hn
 have hs : (namesS F).Pairwise (fun a b => leB a b = true) := List.pairwise_mergeSort (le := leB) (fun a b c h1 h2 => by simp only [leB,decide_eq_true_eq] at *;exact List.le_trans h1 h2) (fun a b => by simp only [leB,Bool.or_eq_true,decide_eq_true_eq];exact List.le_total a b) _
 have h1 := List.pairwise_iff_getElem.1 hs i (i + 1) (by omega) h (by omega)
 simp only [leB,decide_eq_true_eq] at h1
 intro h2
 have e := List.le_antisymm h1 h2
 have := (List.pairwise_iff_getElem.1 hnd) i (i + 1) (by omega) h (by omega)
 exact this e
theorem read_same {m m' : StoM} {f : FileM} (hm : m'.most = m.most) (h : ∀ i ∈ secL (m.most + 7) f.ext,secAt m'.ds.vis i = secAt m.ds.vis i) : readF m' f = readF m f := by
 unfold readF
 rw [hm,secsB_congr h]
theorem settle_read {m : StoM} (h : Inv m) {T2 T' : List Bool} {C : List (Nat × Bs)} {F' : List FileM} {o : Bool} (hC : ∀ c ∈ C,c.1 < m.most) (hl : C.length ≤ 2) (g : FileM) :
  readF ⟨(DS.run (settleC m.most T2 C) m.ds).2,F',T',m.most,o⟩ g = readF m g :=
 read_same rfl (fun i hi => put_other h.cut h.on [] [] hC hl i (secL_ge hi) (by simp))
theorem put_read {m : StoM} (h : Inv m) {T2 : List Bool} {L : List Nat} {dt : Bs} {f : FileM} {F' : List FileM} {o : Bool} (he : f.entry < m.most) (g : FileM) (hg : ∀ i ∈ secL (m.most + 7) g.ext,i ∉ L) :
  readF ⟨(DS.run (putC m.most T2 L dt f) m.ds).2,F',T2,m.most,o⟩ g = readF m g :=
 read_same rfl (fun i hi => put_other h.cut h.on L dt (fun c hc => by
  have : c = (f.entry,entryB f.name f.size f.ext) := by simpa using hc
  subst this;exact he) (by simp) i (secL_ge hi) (hg i hi))
theorem mem_unitsF {j : Nat} {F : List FileM} : j ∈ unitsF F ↔ ∃ f ∈ F,j ∈ unitsL f.ext := List.mem_flatMap
theorem take_app_len {α : Type} (a b c : List α) (n : Nat) (h : n = a.length + b.length) : (a ++ (b ++ c)).take n = a ++ b := by
 subst h
 rw [← List.append_assoc, ← List.length_append,List.take_left]
theorem write_read {m : StoM} {name data : Bs} {T2 : List Bool} {f : FileM} (h : Inv m) (hp : preW m name data = (0,some (T2,f))) :
  f.name = name ∧ readF ⟨(DS.run (putC m.most T2 (secL (m.most + 7) f.ext) data f) m.ds).2,putF m.F f,T2,m.most,m.off⟩ f = data ∧
   ∀ g ∈ delF m.F name,readF ⟨(DS.run (putC m.most T2 (secL (m.most + 7) f.ext) data f) m.ds).2,putF m.F f,T2,m.most,m.off⟩ g = readF m g := by
 obtain ⟨p1,p2,p3,p4,p5,T1,p6,p7⟩ := preW_some hp
 obtain ⟨u1,u2,u3⟩ := put_units h p6 p7
 obtain ⟨s1,s2⟩ := slot_fresh h p3
 obtain ⟨a1,a2,a3,_,a5,_⟩ := takeS_facts p6
 have hu := List.nodup_append.1 u2
 refine ⟨p4, ?_,fun g hg => put_read h s1 g (fun i hi hL => ?_)⟩
 ·have hn := put_new h.cut h.on (secL (m.most + 7) f.ext) data (most := m.most) (T := T2) (C := [(f.entry,entryB f.name f.size f.ext)]) (fun c hc => by
   have : c = (f.entry,entryB f.name f.size f.ext) := by simpa using hc
   subst this;exact s1) (by simp) (fun i hi => secL_ge hi) (secL_nodup hu.1) (put_secs h.b a3) (by rw [secL_length,a5];unfold needsN;omega)
  show (secsB (DS.run (layC (secL (m.most + 7) f.ext) data ++ settleC m.most T2 [(f.entry,entryB f.name f.size f.ext)]) m.ds).2.vis (secL (m.most + 7) f.ext)).take f.size = data
  rw [hn,p5,List.take_left]
 ·obtain ⟨u,hu1,e1⟩ := mem_secL.1 hi
  obtain ⟨v,hv1,e2⟩ := mem_secL.1 hL
  have : u = v := by omega
  subst this
  exact hu.2.2 u hv1 u (mem_unitsF.2 ⟨g,hg,hu1⟩) rfl
theorem last_split {α : Type} (l : List α) (n : Nat) (h : l.length = n + 1) (h2 : n < l.length) : l = l.take n ++ [l[n]] := by
 have := List.take_succ_eq_append_getElem h2
 rw [← this,List.take_of_length_le (by omega)]
theorem append_read {m : StoM} {name data : Bs} {T1 : List Bool} {L : List Nat} {dt : Bs} {f' : FileM} (h : Inv m) (hd : DGood m.ds) (hp : preA m name data = (0,some (T1,L,dt,f'))) :
  ∃ f,fileOf m.F name = some f ∧ f'.name = name ∧ f'.size = f.size + data.length ∧ readF ⟨(DS.run (putC m.most T1 L dt f') m.ds).2,putF m.F f',T1,m.most,m.off⟩ f' = readF m f ++ data ∧
   ∀ g ∈ delF m.F name,readF ⟨(DS.run (putC m.most T1 L dt f') m.ds).2,putF m.F f',T1,m.most,m.off⟩ g = readF m g := by
 obtain ⟨f,l,p1,p2,p3,p4,p5,p6,p7,rfl⟩ := preA_some hp
 obtain ⟨a1,a2,a3,a4,a5,_⟩ := takeS_facts p5
 obtain ⟨u1,u2,u3,u4⟩ := take_units h p5
 have hfm := fileOf_mem p2
 have hfi := h.fin hfm
 have hb := h.b.ll
 have hpd := perm_del _ _ _ h.names p2
 have hU := (unitsF_perm hpd).nodup_iff.1 h.once
 rw [unitsF_cons] at hU
 have hUn := List.nodup_append.1 hU
 have hUm : ∀ j,j ∈ unitsF m.F ↔ j ∈ unitsL f.ext ∨ j ∈ unitsF (delF m.F name) := fun j => by
  rw [(unitsF_perm hpd).mem_iff,unitsF_cons,List.mem_append]
 have hin : ∀ i ∈ secL (m.most + 7) f.ext,i < m.ds.L.length := fun i hi => by
  obtain ⟨x,hx,h1,h2⟩ := secL_mem hi
  have := (hfi.exb x hx).2
  omega
 have hLm : ∀ i ∈ L,(∃ v ∈ unitsL l,i = m.most + 7 + v) ∨ (f.size % 512 ≠ 0 ∧ i = lastS m f) := fun i hi => by
  rw [p6] at hi
  rcases List.mem_append.1 hi with hi | hi
  ·unfold appL at hi
   split at hi
   ·cases hi
   ·rename_i hz
    exact .inr ⟨hz,by simpa using hi⟩
  ·exact .inl (mem_secL.1 hi)
 have hlast : f.size % 512 ≠ 0 → ∃ v ∈ unitsL f.ext,lastS m f = m.most + 7 + v := fun hz => by
  obtain ⟨h1,h2,_⟩ := lastS_at (m := m) hfi.sum hz
  have := List.getElem_mem h1
  rw [← h2] at this
  exact mem_secL.1 this
 have hdis : ∀ u,u ∈ unitsF (delF m.F name) → m.most + 7 + u ∉ L := fun u hu hL => by
  rcases hLm _ hL with ⟨v,hv,e⟩ | ⟨hz,e⟩
  ·have : u = v := by omega
   subst this
   exact u3 u hv ((hUm u).2 (.inr hu))
  ·obtain ⟨v,hv,e2⟩ := hlast hz
   have : u = v := by omega
   subst this
   exact hUn.2.2 u hv u hu rfl
 have hC : ∀ c ∈ [(f.entry,entryB name (f.size + data.length) (f.ext ++ l))],c.1 < m.most := fun c hc => by
  have : c = (f.entry,entryB name (f.size + data.length) (f.ext ++ l)) := by simpa using hc
  subst this;exact hfi.ent
 have hnl : (secL (m.most + 7) l).Nodup := secL_nodup u2
 have hne : (secL (m.most + 7) f.ext).Nodup := secL_nodup hUn.1
 have hsd : ∀ i ∈ secL (m.most + 7) f.ext,i ∉ secL (m.most + 7) l := fun i hi hl => by
  obtain ⟨u,hu,e1⟩ := mem_secL.1 hi
  obtain ⟨v,hv,e2⟩ := mem_secL.1 hl
  have : u = v := by omega
  subst this
  exact u3 u hv ((hUm u).2 (.inl hu))
 refine ⟨f,p2,rfl,rfl, ?_,fun g hg => put_read (f := ⟨name,f.entry,f.size + data.length,f.ext ++ l⟩) h hfi.ent g (fun i hi => by
  obtain ⟨u,hu1,rfl⟩ := mem_secL.1 hi
  exact hdis u (mem_unitsF.2 ⟨g,hg,hu1⟩))⟩
 unfold readF putC
 dsimp only
 obtain ⟨v',hv'⟩ : ∃ q,q = (DS.run (layC L dt ++ settleC m.most T1 [(f.entry,entryB name (f.size + data.length) (f.ext ++ l))]) m.ds).2.vis := ⟨_,rfl⟩
 rw [← hv']
 ·skip
  have hlen := secsB_len hd _ hin
  rw [secL_length,hfi.sum] at hlen
  by_cases hz : f.size % 512 = 0
  ·have hL : L = secL (m.most + 7) l := by rw [p6];unfold appL;rw [if_pos hz,List.nil_append]
   have hD : dt = data := by rw [p7];unfold appD;rw [if_pos hz,List.nil_append]
   have hnew := put_new h.cut h.on L dt (most := m.most) (T := T1) hC (by simp) (fun i hi => by rw [hL] at hi;exact secL_ge hi) (by rw [hL];exact hnl) (by rw [hL];exact put_secs h.b a3) (by rw [hL,hD,secL_length,a5,hfi.sum];unfold needsN;omega)
   have hold : secsB v' (secL (m.most + 7) f.ext) = secsB m.ds.vis (secL (m.most + 7) f.ext) := by
    rw [hv']
    exact secsB_congr fun i hi => put_other h.cut h.on L dt hC (by simp) i (secL_ge hi) (by rw [hL];exact hsd i hi)
   rw [← hv'] at hnew
   rw [secL_app,secsB_app,hold, ← hL,hnew,hD]
   have e0 : 512 * needsN f.size = f.size := by unfold needsN;omega
   rw [take_app_len _ _ _ _ (by rw [hlen,e0]),List.take_of_length_le (by omega)]
  ·obtain ⟨h1,h2,h3⟩ := lastS_at (m := m) hfi.sum hz
   have hsl := secL_length (m.most + 7) f.ext
   have hsp := last_split (secL (m.most + 7) f.ext) (sumN f.ext - 1) (by omega) h1
   rw [← h2] at hsp
   obtain ⟨I,hI⟩ : ∃ q,(secL (m.most + 7) f.ext).take (sumN f.ext - 1) = q := ⟨_,rfl⟩
   rw [hI] at hsp
   have hIl : I.length = sumN f.ext - 1 := by rw [← hI,List.length_take];omega
   obtain ⟨E,hE⟩ : ∃ q,secL (m.most + 7) f.ext = q := ⟨_,rfl⟩
   rw [hE] at hsp hin hne hsd hlen
   subst hsp
   have hn2 := List.nodup_append.1 hne
   have hL : L = [lastS m f] ++ secL (m.most + 7) l := by rw [p6];unfold appL;rw [if_neg hz]
   have hD : dt = (secAt m.ds.vis (lastS m f)).take (f.size % 512) ++ data := by rw [p7];unfold appD;rw [if_neg hz]
   have hls := vis_sec hd (lastS m f) (hin _ (by simp))
   have hge : ∀ i ∈ I ++ [lastS m f],m.most + 7 ≤ i := fun i hi => by rw [← hE] at hi;exact secL_ge hi
   have hnL : L.Nodup := by
    rw [hL]
    exact List.nodup_append.2 ⟨by simp,hnl,fun a ha b hb e => by
     have : a = lastS m f := by simpa using ha
     subst this
     exact hsd _ (by simp) (e ▸ hb)⟩
   have hnew := put_new h.cut h.on L dt (most := m.most) (T := T1) hC (by simp) (fun i hi => by
    rw [hL] at hi
    rcases List.mem_append.1 hi with hi | hi
    ·have : i = lastS m f := by simpa using hi
     subst this
     exact hge _ (by simp)
    ·exact secL_ge hi) hnL (fun i hi => by
    rw [hL] at hi
    rcases List.mem_append.1 hi with hi | hi
    ·have : i = lastS m f := by simpa using hi
     subst this
     exact hin _ (by simp)
    ·exact put_secs h.b a3 i hi) (by rw [hL,hD,List.length_append,List.length_append,secL_length,a5,hfi.sum,List.length_take,hls];simp only [List.length_singleton];unfold needsN;omega)
   have hold : secsB v' I = secsB m.ds.vis I := by
    rw [hv']
    refine secsB_congr fun i hi => put_other h.cut h.on L dt hC (by simp) i (hge i (by simp [hi])) ?_
    rw [hL]
    intro hm
    rcases List.mem_append.1 hm with hm | hm
    ·exact hn2.2.2 i hi i hm rfl
    ·exact hsd i (by simp [hi]) hm
   rw [← hv'] at hnew
   have hIn := secsB_len hd I (fun i hi => hin i (by simp [hi]))
   rw [hIl] at hIn
   have hsz : f.size = 512 * (sumN f.ext - 1) + f.size % 512 := by
    have := hfi.sum
    unfold needsN at this
    omega
   have hone : secsB m.ds.vis [lastS m f] = secAt m.ds.vis (lastS m f) := by unfold secsB;simp
   rw [secL_app,hE,List.append_assoc, ← hL,secsB_app,hold,hnew,hD,secsB_app,hone]
   rw [take_app_len (secsB m.ds.vis I) ((secAt m.ds.vis (lastS m f)).take (f.size % 512) ++ data) _ (f.size + data.length) (by rw [hIn,List.length_append,List.length_take,hls];omega)]
   have e9 : f.size - (secsB m.ds.vis I).length = f.size % 512 := by rw [hIn];omega
   rw [List.take_append,e9,List.take_of_length_le (l := secsB m.ds.vis I) (i := f.size) (by rw [hIn];omega),List.append_assoc]
theorem full_full (b : Bs) : fullB (fullB b) = fullB b := by
 have h : 512 - (fullB b).length = 0 := by
  unfold fullB;rw [List.length_append,List.length_replicate];omega
 rw [fullB,h];simp
theorem overlay_app (A B : List (Nat × Bs)) (L : List Bs) : overlay L (A ++ B) = overlay (overlay L A) B := by unfold overlay;rw [List.foldl_append]
theorem fulls_app (A B : List (Nat × Bs)) : fulls (A ++ B) = fulls A ++ fulls B := by unfold fulls;rw [List.map_append]
theorem sec_last (v : List Bs) (A B : List (Nat × Bs)) (c : Nat × Bs) (h : c.1 < v.length) (hB : c.1 ∉ B.map (·.1)) : secAt (overlay v (fulls (A ++ c :: B))) c.1 = fullB c.2 := by
 rw [fulls_app,overlay_app]
 show secAt (overlay ((overlay v (fulls A)).set c.1 (fullB c.2)) (fulls B)) c.1 = _
 rw [secAt_ne B _ _ hB,secAt_set _ _ _ (by rw [overlay_length];exact h)]
theorem wrOf_settle (most : Nat) (T : List Bool) (C : List (Nat × Bs)) : wrOf (settleC most T C) = imgs (settleX T C) (2 + most) ++ ((2 + most,headW (settleX T C)) :: (settleX T C ++ [(2 + most,[])])) := by
 unfold settleC commitC
 simp only [wrOf_append,wrOf_wrs]
 simp [wrOf]
theorem settle_secs {most : Nat} {T : List Bool} {C : List (Nat × Bs)} {d : DS} (h1 : d.cut = none) (h2 : d.off = false) (hC : ∀ c ∈ C,c.1 < most) (hn : (C.map (·.1)).Nodup) (hl : 2 + most < d.L.length) :
  secAt (DS.run (settleC most T C) d).2.vis 0 = secAt d.vis 0 ∧ secAt (DS.run (settleC most T C) d).2.vis 1 = fullB (packB T) ∧
  (∀ c ∈ C,secAt (DS.run (settleC most T C) d).2.vis (2 + c.1) = fullB c.2) ∧ (∀ e,e < most → e ∉ C.map (·.1) → secAt (DS.run (settleC most T C) d).2.vis (2 + e) = secAt d.vis (2 + e)) ∧
  secAt (DS.run (settleC most T C) d).2.vis (2 + most) = zeroS := by
 obtain ⟨_,_,_,hv⟩ := run_on (settleC most T C) d h1 h2
 have hvl : d.vis.length = d.L.length := overlay_length _ _
 have hm : ∀ i,i ∉ (wrOf (settleC most T C)).map (·.1) ↔ (i ∉ (imgs (settleX T C) (2 + most)).map (·.1) ∧ i ≠ 2 + most ∧ i ≠ 1 ∧ ∀ c ∈ C,i ≠ 2 + c.1) := fun i => by
  rw [wrOf_settle]
  unfold settleX
  simp only [List.map_append,List.map_cons,List.map_nil,List.mem_append,List.mem_cons,List.not_mem_nil,or_false,not_or,List.map_map,List.mem_map,Function.comp]
  constructor
  ·rintro ⟨a,b,⟨c,d⟩,e⟩
   exact ⟨a,b,c,fun c hc he => d ⟨c,hc,he.symm⟩⟩
  ·rintro ⟨a,b,c,d⟩
   exact ⟨a,b,⟨c,fun ⟨x,hx,he⟩ => d x hx he.symm⟩,b⟩
 have him : ∀ i,i ≤ 2 + most → i ∉ (imgs (settleX T C) (2 + most)).map (·.1) := fun i hi hx => by
  obtain ⟨c,hc,rfl⟩ := List.mem_map.1 hx
  obtain ⟨k,hk,rfl⟩ := List.getElem_of_mem hc
  rw [imgs_length] at hk
  rw [imgs_at _ _ k hk] at hi
  simp only at hi
  omega
 have hout : ∀ i,i ≤ 2 + most → i ≠ 2 + most → i ≠ 1 → (∀ c ∈ C,i ≠ 2 + c.1) → secAt (DS.run (settleC most T C) d).2.vis i = secAt d.vis i := fun i a b c e => by
  rw [hv];exact secAt_ne _ _ _ ((hm i).2 ⟨him i a,b,c,e⟩)
 refine ⟨hout 0 (by omega) (by omega) (by omega) (fun c _ => by omega), ?_,fun c hc => ?_,fun e he hx => ?_, ?_⟩
 ·rw [hv,wrOf_settle]
  unfold settleX
  have := sec_last d.vis (imgs ((1,packB T) :: C.map fun c => (2 + c.1,c.2)) (2 + most) ++ [(2 + most,headW ((1,packB T) :: C.map fun c => (2 + c.1,c.2)))]) ((C.map fun c => (2 + c.1,c.2)) ++ [(2 + most,[])]) (1,packB T) (by rw [hvl];show 1 < _;omega) (by
   simp only [List.map_append,List.map_cons,List.map_nil,List.mem_append,List.mem_cons,List.not_mem_nil,or_false,List.map_map,List.mem_map,Function.comp]
   rintro (⟨x,hx,he⟩ | he)
   ·omega
   ·omega)
  simpa using this
 ·rw [hv,wrOf_settle]
  obtain ⟨C1,C2,rfl⟩ := List.append_of_mem hc
  rw [List.map_append,List.map_cons,List.nodup_append,List.nodup_cons] at hn
  have := sec_last d.vis (imgs (settleX T (C1 ++ c :: C2)) (2 + most) ++ ((2 + most,headW (settleX T (C1 ++ c :: C2))) :: (1,packB T) :: (C1.map fun c => (2 + c.1,c.2)))) ((C2.map fun c => (2 + c.1,c.2)) ++ [(2 + most,[])]) (2 + c.1,c.2) (by rw [hvl];have := hC c hc;show 2 + c.1 < _;omega) (by
   simp only [List.map_append,List.map_cons,List.map_nil,List.mem_append,List.mem_cons,List.not_mem_nil,or_false,List.map_map,List.mem_map,Function.comp]
   rintro (⟨x,hx,he⟩ | he)
   ·exact hn.2.1.1 (List.mem_map.2 ⟨x,hx,by omega⟩)
   ·have := hC c hc;omega)
  refine Eq.trans ?_ this
  congr 3
  simp [settleX]
 ·exact hout (2 + e) (by omega) (by omega) (by omega) (fun c hc h => hx (List.mem_map.2 ⟨c,hc,by omega⟩))
 ·rw [hv,wrOf_settle]
  have := sec_last d.vis (imgs (settleX T C) (2 + most) ++ ((2 + most,headW (settleX T C)) :: settleX T C)) [] (2 + most,[]) (by rw [hvl];exact hl) (by simp)
  rw [show zeroS = fullB ([] : Bs) by rfl]
  refine Eq.trans ?_ this
  congr 3
  simp
theorem turn1_take : ∀ (m : Nat) (T : List Bool) (i : Nat),i + m ≤ T.length → (∀ j,i ≤ j → j < i + m → T.getD j false = false) →
  ∃ T',turn1 true T i m = some T' ∧ T'.length = T.length ∧ ∀ j,T'.getD j false = (T.getD j false || decide (i ≤ j ∧ j < i + m)) := by
 intro m
 induction m with
 | zero => intro T i _ _;exact ⟨T,rfl,rfl,fun j => by simp;intro _;omega⟩
 | succ m ih =>
  intro T i hl hf
  have h0 := hf i (Nat.le_refl _) (by omega)
  have hil : i < T.length := by omega
  obtain ⟨T',h1,h2,h3⟩ := ih (T.set i true) (i + 1) (by rw [List.length_set];omega) (fun j hj hj2 => by
   rw [set_getD _ _ _ _ hil,if_neg (by omega)];exact hf j (by omega) (by omega))
  refine ⟨T', ?_,by rw [h2,List.length_set],fun j => ?_⟩
  ·rw [turn1,h0,if_neg (by simp)]
   exact h1
  ·rw [h3,set_getD _ _ _ _ hil]
   by_cases e : i = j
   ·subst e;simp
   ·rw [if_neg e]
    congr 1
    exact decide_eq_decide.2 (by constructor <;> intro h <;> omega)
theorem turnS_take : ∀ (l : List (Nat × Nat)) (T : List Bool),(∀ x ∈ l,1 ≤ x.2 ∧ x.1 + x.2 ≤ T.length) → (unitsL l).Nodup → (∀ j ∈ unitsL l,T.getD j false = false) →
  ∃ T',turnS true T l = some T' ∧ T'.length = T.length ∧ ∀ j,T'.getD j false = (T.getD j false || decide (j ∈ unitsL l)) := by
 intro l
 induction l with
 | nil => intro T _ _ _;exact ⟨T,rfl,rfl,fun j => by simp [unitsL]⟩
 | cons x l ih =>
  intro T hb hn ht
  obtain ⟨a1,a2⟩ := hb x (List.mem_cons_self ..)
  rw [unitsL_cons,List.nodup_append] at hn
  obtain ⟨_,n2,n3⟩ := hn
  obtain ⟨T1,b1,b2,b3⟩ := turn1_take x.2 T x.1 a2 (fun j h1 h2 => ht j (by rw [unitsL_cons];exact List.mem_append_left _ (by rw [List.mem_range'_1];exact ⟨h1,h2⟩)))
  obtain ⟨T',c1,c2,c3⟩ := ih T1 (fun y hy => by rw [b2];exact hb y (List.mem_cons_of_mem _ hy)) n2 (fun j hj => by
   rw [b3,ht j (by rw [unitsL_cons];exact List.mem_append_right _ hj),Bool.false_or,decide_eq_false_iff_not]
   intro h
   exact n3 j (by rw [List.mem_range'_1];exact h) j hj rfl)
  refine ⟨T', ?_,by rw [c2,b2],fun j => ?_⟩
  ·rw [turnS,if_neg (by omega),b1];exact c1
  ·rw [c3,b3,unitsL_cons,Bool.or_assoc]
   congr 1
   rw [← Bool.decide_or]
   exact decide_eq_decide.2 (by rw [List.mem_append,List.mem_range'_1])
structure Od (m : StoM) : Prop where
 head : secAt m.ds.vis 0 = headB m.ds.L.length m.most
 map : secAt m.ds.vis 1 = fullB (packB m.T)
 ent : ∀ f ∈ m.F,secAt m.ds.vis (2 + f.entry) = entryB f.name f.size f.ext
 vac : ∀ e,e < m.most → (∀ f ∈ m.F,f.entry ≠ e) → secAt m.ds.vis (2 + e) = zeroS
 log : secAt m.ds.vis (2 + m.most) = zeroS
 some : 1 ≤ m.T.length
def byE (F : List FileM) (k : Nat) : List FileM := (List.range k).filterMap fun e => F.find? fun f => f.entry == e
theorem byE_succ (F : List FileM) (k : Nat) : byE F (k + 1) = byE F k ++ (F.find? fun f => f.entry == k).toList := by
 unfold byE
 rw [List.range_succ,List.filterMap_append]
 cases h : F.find? fun f => f.entry == k <;> simp [h]
theorem find_entry {F : List FileM} (h : (F.map (·.entry)).Nodup) {f : FileM} (hf : f ∈ F) : (F.find? fun g => g.entry == f.entry) = some f := by
 cases hq : F.find? fun g => g.entry == f.entry with
 | none =>
  have := List.find?_eq_none.1 hq f hf
  simp at this
 | some g =>
  have h1 := List.find?_some hq
  have h2 := List.mem_of_find?_eq_some hq
  rw [entry_inj h h2 hf (by simpa using h1)]
theorem mem_byE {F : List FileM} (h : (F.map (·.entry)).Nodup) {k : Nat} {f : FileM} : f ∈ byE F k ↔ f ∈ F ∧ f.entry < k := by
 unfold byE
 rw [List.mem_filterMap]
 constructor
 ·rintro ⟨e,he,hf⟩
  have h1 := List.find?_some hf
  have h2 := List.mem_of_find?_eq_some hf
  have e1 : f.entry = e := by simpa using h1
  exact ⟨h2,e1 ▸ List.mem_range.1 he⟩
 ·rintro ⟨h1,h2⟩
  exact ⟨f.entry,List.mem_range.2 h2,find_entry h h1⟩
theorem byE_nodup {F : List FileM} (h : (F.map (·.entry)).Nodup) : ∀ k,(byE F k).Nodup := by
 intro k
 induction k with
 | zero => simp [byE]
 | succ k ih =>
  rw [byE_succ,List.nodup_append]
  refine ⟨ih, ?_, ?_⟩
  ·cases F.find? fun f => f.entry == k <;> simp
  ·intro a ha b hb e
   subst e
   have h1 := (mem_byE h).1 ha
   rw [Option.mem_toList] at hb
   have h2 := List.find?_some hb
   have : a.entry = k := by simpa using h2
   omega
theorem parse_zero : parseP zeroS = none := by kernel_rfl
theorem flat_sub {F : List FileM} (h : (unitsF F).Nodup) {f : FileM} (hf : f ∈ F) : (unitsL f.ext).Nodup := by
 induction F with
 | nil => cases hf
 | cons a F ih =>
  rw [unitsF_cons,List.nodup_append] at h
  rcases List.mem_cons.1 hf with rfl | hf
  ·exact h.1
  ·exact ih h.2.1 hf
theorem flat_apart {F : List FileM} (h : (unitsF F).Nodup) {f g : FileM} (hf : f ∈ F) (hg : g ∈ F) {j : Nat} (h1 : j ∈ unitsL f.ext) (h2 : j ∈ unitsL g.ext) : f = g := by
 induction F with
 | nil => cases hf
 | cons a F ih =>
  rw [unitsF_cons,List.nodup_append] at h
  rcases List.mem_cons.1 hf with rfl | hf
  ·rcases List.mem_cons.1 hg with rfl | hg
   ·rfl
   ·exact absurd rfl (h.2.2 j h1 j (mem_unitsF.2 ⟨g,hg,h2⟩))
  ·rcases List.mem_cons.1 hg with e | hg
   ·rw [e] at h2;exact absurd rfl (h.2.2 j h2 j (mem_unitsF.2 ⟨f,hf,h1⟩))
   ·exact ih h.2.1 hf hg
theorem getD_replicate_false (n j : Nat) : (List.replicate n false).getD j false = false := by
 rw [List.getD_eq_getElem?_getD,List.getElem?_replicate];split <;> rfl
theorem fold_od {m : StoM} (h : Inv m) (ho : Od m) : ∀ k,k ≤ m.most → ∃ T',foldL m.ds.vis m.T.length k = some (byE m.F k,T') ∧ T'.length = m.T.length ∧ ∀ j,T'.getD j false = decide (j ∈ unitsF (byE m.F k)) := by
 intro k
 induction k with
 | zero => intro _;exact ⟨_,rfl,by simp,fun j => by rw [getD_replicate_false];simp [byE,unitsF]⟩
 | succ k ih =>
  intro hk
  obtain ⟨T1,h1,h2,h3⟩ := ih (by omega)
  rw [foldL,h1,Option.bind_some,stepL,byE_succ]
  cases hf : m.F.find? fun f => f.entry == k with
  | none =>
   have hz := ho.vac k (by omega) (fun f hm e => by
    have := List.find?_eq_none.1 hf f hm
    simp [e] at this)
   rw [if_pos hz]
   exact ⟨T1,by simp,h2,by simpa using h3⟩
  | some f =>
   have hm := List.mem_of_find?_eq_some hf
   have he : f.entry = k := by simpa using List.find?_some hf
   have hin := h.fin hm
   have hs := ho.ent f hm
   rw [he] at hs
   have hp := parse_entry f.name f.size f.ext hin.good hin.siz hin.exl hin.sum (fun x hx => by
    have := hin.exb x hx
    have := h.b.tl
    exact ⟨by omega,by omega⟩)
   rw [hs,if_neg (fun e => by rw [e,parse_zero] at hp;cases hp),hp]
   have hno : fileOf (byE m.F k) f.name = none := fileOf_none.2 (fun g hg e => by
    obtain ⟨a,b⟩ := (mem_byE h.entries).1 hg
    have := name_inj h.names a hm e
    subst this;omega)
   dsimp only
   rw [hno]
   obtain ⟨T2,c1,c2,c3⟩ := turnS_take f.ext T1 (fun x hx => by rw [h2];exact hin.exb x hx) (flat_sub h.once hm) (fun j hj => by
    rw [h3,decide_eq_false_iff_not]
    intro hj2
    obtain ⟨g,hg,hjg⟩ := mem_unitsF.1 hj2
    obtain ⟨a,b⟩ := (mem_byE h.entries).1 hg
    have := flat_apart h.once hm a hj hjg
    subst this;omega)
   rw [c1]
   refine ⟨T2, ?_,c2.trans h2,fun j => ?_⟩
   ·obtain ⟨nm,en,sz,ex⟩ := f
    dsimp only at he
    subst he
    rfl
   ·rw [c3,h3, ← Bool.decide_or]
    refine decide_eq_decide.2 ?_
    rw [mem_unitsF,mem_unitsF]
    simp only [Option.toList_some,List.mem_append,List.mem_singleton]
    constructor
    ·rintro (⟨g,hg,hj⟩ | hj)
     ·exact ⟨g, .inl hg,hj⟩
     ·exact ⟨f, .inr rfl,hj⟩
    ·rintro ⟨g,hg | rfl,hj⟩
     ·exact .inl ⟨g,hg,hj⟩
     ·exact .inr hj
theorem byE_perm {m : StoM} (h : Inv m) : (byE m.F m.most).Perm m.F := by
 have hn : m.F.Nodup := by
  have := h.names
  rw [List.Nodup,List.pairwise_map] at this
  exact this.imp (fun hne e => hne (by rw [e]))
 rw [List.perm_ext_iff_of_nodup (byE_nodup h.entries _) hn]
 intro f
 rw [mem_byE h.entries]
 exact ⟨fun a => a.1,fun a => ⟨a,h.b.ent f a⟩⟩
theorem spare_pack (T : List Bool) : spareB T.length (packB T) = true := by
  unfold spareB
  by_cases h8 : T.length % 8 = 0
  ·simp [h8]
  ·rw [decide_eq_false h8,Bool.false_or,decide_eq_true_eq]
   have hb : ∀ k,T.length % 8 ≤ k → k < 8 → byteN T (T.length / 8) / 2 ^ k % 2 = 0 := fun k h1 h2 => by
    rw [byteN_bit T _ k h2]
    unfold bitN
    rw [List.getD_eq_getElem?_getD,List.getElem?_eq_none (by omega)];rfl
   rw [List.getD_eq_getElem?_getD,packB_at T (T.length / 8) (by omega),Option.getD_some,UInt8.toNat_ofNat',Nat.mod_eq_of_lt (byteN_lt _ _)]
   have hl := byteN_lt T (T.length / 8)
   obtain ⟨r,hr⟩ : ∃ r,T.length % 8 = r := ⟨_,rfl⟩
   obtain ⟨B,hB⟩ : ∃ B,byteN T (T.length / 8) = B := ⟨_,rfl⟩
   rw [hr] at hb h8 ⊢
   rw [hB] at hb hl ⊢
   have hr8 : r < 8 := by omega
   have c1 := hb 1;have c2 := hb 2;have c3 := hb 3;have c4 := hb 4;have c5 := hb 5;have c6 := hb 6;have c7 := hb 7
   simp only [Nat.reducePow] at c1 c2 c3 c4 c5 c6 c7
   have hcase : r = 1 ∨ r = 2 ∨ r = 3 ∨ r = 4 ∨ r = 5 ∨ r = 6 ∨ r = 7 := by omega
   rcases hcase with rfl | rfl | rfl | rfl | rfl | rfl | rfl <;> simp only [Nat.reducePow] <;> omega
theorem bits_of (T : List Bool) : bitsB T.length (packB T) = T := bits_inj (bits_pack _ _ (packB_length T) (spare_pack T)) (bitsB_length _ _)
theorem full_take {b : Bs} {n : Nat} (h : b.length = n) (h2 : n ≤ 512) : (fullB b).take n = b := by
 unfold fullB
 subst h
 rw [List.take_append_of_le_length (Nat.le_refl _),List.take_length]
theorem said_none {v : List Bs} {f s : Nat} (h : secAt v f = zeroS) : saidB v f s = [] := by
 unfold saidB
 rw [if_neg]
 unfold saidOk
 rw [h]
 simp only [Bool.not_eq_true]
 rw [show (zeroS.take 2 == ([87,76] : Bs)) = false by decide]
 simp
theorem files_head {n f : Nat} (h1 : f ≤ 256) : filesH (headB n f) = f := by
 have e : ∀ a b c d : UInt8,filesH (fullB ([83,70] ++ [a,b] ++ [c,d])) = c.toNat * 256 + d.toNat := fun a b c d => rfl
 unfold headB twoB
 rw [e]
 rw [UInt8.toNat_ofNat',UInt8.toNat_ofNat']
 omega
theorem mount_od {m : StoM} (h : Inv m) (ho : Od m) : ∃ F',mountM m.ds = (0,m.ds,some (F',m.T)) ∧ F'.Perm m.F := by
 obtain ⟨T',a1,a2,a3⟩ := fold_od h ho m.most (Nat.le_refl _)
 have hT : T' = m.T := by
  refine List.ext_getElem a2 fun j h1 h2 => ?_
  have e1 := a3 j
  rw [List.getD_eq_getElem?_getD,List.getElem?_eq_getElem h1,Option.getD_some] at e1
  have e2 := h.taken j
  rw [List.getD_eq_getElem?_getD,List.getElem?_eq_getElem h2,Option.getD_some] at e2
  rw [e1,Bool.eq_iff_iff,e2,decide_eq_true_eq]
  exact (unitsF_perm (byE_perm h)).mem_iff
 subst hT
 refine ⟨byE m.F m.most, ?_,byE_perm h⟩
 have hll := h.b.ll
 have hfh : filesH (secAt m.ds.vis 0) = m.most := by rw [ho.head];exact files_head h.b.mo.2
 have hlr : logR m.ds m.most = (0,m.ds) := by
  unfold logR
  rw [said_none ho.log]
  rfl
 unfold mountM
 rw [hfh,hlr]
 have hok : headOk m.ds = true := by
  unfold headOk
  rw [hfh,ho.head]
  simp only [Bool.and_eq_true,decide_eq_true_eq,beq_self_eq_true,and_true]
  exact ⟨h.b.mo.1,h.b.mo.2,by have := ho.some;omega⟩
 rw [hok,if_neg (by simp),if_neg (by simp)]
 have hl : learnL m.ds.vis (m.ds.L.length - (m.most + 7)) m.most = some (byE m.F m.most,m.T) := by
  rw [show m.ds.L.length - (m.most + 7) = m.T.length by omega]
  unfold learnL
  have hmp : mapL m.ds.vis m.T.length = some m.T := by
   unfold mapL
   have ht : (secAt m.ds.vis 1).take ((m.T.length + 7) / 8) = packB m.T := by
    rw [ho.map];exact full_take (packB_length _) (by have := h.b.tl;omega)
   rw [ht,bits_of,if_pos ⟨spare_pack _,ho.map⟩]
  rw [hmp,Option.bind_some,a1,Option.bind_some,if_pos rfl]
 dsimp only
 rw [hl]
theorem od_step {m : StoM} (ho : Od m) (hb : StoB m) {d0 : DS} (h1 : d0.cut = none) (h2 : d0.off = false) (hlen : d0.L.length = m.ds.L.length) (hlow : ∀ i,i < m.most + 7 → secAt d0.vis i = secAt m.ds.vis i)
  {T2 : List Bool} {C : List (Nat × Bs)} {F' : List FileM} {o : Bool} (hC : ∀ c ∈ C,c.1 < m.most) (hn : (C.map (·.1)).Nodup) (hT : T2.length = m.T.length) (he : ∀ f ∈ F',f.entry < m.most)
  (hF : ∀ f ∈ F',(f.entry,entryB f.name f.size f.ext) ∈ C ∨ (f.entry ∉ C.map (·.1) ∧ ∃ g ∈ m.F,g.entry = f.entry ∧ entryB g.name g.size g.ext = entryB f.name f.size f.ext))
  (hV : ∀ e,e < m.most → (∀ f ∈ F',f.entry ≠ e) → (e,[]) ∈ C ∨ (e ∉ C.map (·.1) ∧ ∀ f ∈ m.F,f.entry ≠ e)) :
  Od ⟨(DS.run (settleC m.most T2 C) d0).2,F',T2,m.most,o⟩ := by
 have hll := hb.ll
 obtain ⟨s0,s1,s2,s3,s4⟩ := settle_secs (T := T2) h1 h2 hC hn (by rw [hlen];omega)
 refine ⟨?_,s1,fun f hf => ?_,fun e hel hx => ?_,s4,by show 1 ≤ T2.length;rw [hT];exact ho.some⟩
 ·show secAt _ 0 = headB _ m.most
  rw [s0,hlow 0 (by omega),ho.head,(run_len _ _).1,hlen]
 ·show secAt _ (2 + f.entry) = _
  rcases hF f hf with hc | ⟨hc,g,hg,hge,hgb⟩
  ·rw [s2 _ hc]
   unfold entryB
   rw [full_full]
  ·have := he f hf
   rw [s3 _ this hc,hlow _ (by omega), ← hge,ho.ent g hg,hgb]
 ·show secAt _ (2 + e) = _
  rcases hV e hel hx with hc | ⟨hc,hg⟩
  ·rw [s2 _ hc];rfl
  ·have : e < m.most := hel
   rw [s3 _ this hc,hlow _ (by omega),ho.vac e hel hg]
theorem mem_putF {F : List FileM} {f g : FileM} (h : g ∈ putF F f) : g = f ∨ (g ∈ F ∧ g.name ≠ f.name) := by
 unfold putF at h
 split at h
 ·obtain ⟨x,hx,rfl⟩ := List.mem_map.1 h
  by_cases e : x.name = f.name
  ·exact .inl (by simp [e])
  ·exact .inr (by simp [e,hx])
 ·rename_i hn
  rcases List.mem_append.1 h with hx | hx
  ·refine .inr ⟨hx,fun e => hn ?_⟩
   cases hq : fileOf F f.name with
   | none => exact absurd e (fileOf_none.1 hq g hx)
   | some _ => rfl
  ·exact .inl (by simpa using hx)
theorem put_mem2 {F : List FileM} {f g : FileM} (h : g = f ∨ (g ∈ F ∧ g.name ≠ f.name)) : g ∈ putF F f := by
 unfold putF
 split
 ·rename_i hs
  rcases h with rfl | ⟨h1,h2⟩
  ·cases hq : fileOf F g.name with
   | none => rw [hq] at hs;cases hs
   | some x =>
    exact List.mem_map.2 ⟨x,fileOf_mem hq,by rw [if_pos (by simpa using fileOf_name hq)]⟩
  ·exact List.mem_map.2 ⟨g,h1,by rw [if_neg (by simpa using h2)]⟩
 ·rcases h with rfl | ⟨h1,_⟩
  ·exact List.mem_append_right _ (List.mem_singleton.2 rfl)
  ·exact List.mem_append_left _ h1
theorem mem_delF {F : List FileM} {t : Bs} {g : FileM} : g ∈ delF F t ↔ g ∈ F ∧ g.name ≠ t := by
 unfold delF;rw [List.mem_filter];simp
theorem od_put {m : StoM} (ho : Od m) (hb : StoB m) (h1 : m.ds.cut = none) (h2 : m.ds.off = false) {T2 : List Bool} {f : FileM} {L : List Nat} {dt : Bs} {o : Bool} (hT : T2.length = m.T.length) (he : f.entry < m.most)
  (hL : ∀ i ∈ L,m.most + 7 ≤ i) (ha : ∀ g ∈ m.F,g.name = f.name → g.entry = f.entry) (hd : ∀ g ∈ m.F,g.name ≠ f.name → g.entry ≠ f.entry) : Od ⟨(DS.run (putC m.most T2 L dt f) m.ds).2,putF m.F f,T2,m.most,o⟩ := by
 unfold putC
 obtain ⟨r1,r2,r3,r4⟩ := run_on (layC L dt) m.ds h1 h2
 rw [run_append,if_pos r1]
 have hlay : ∀ i,i < m.most + 7 → i ∉ (wrOf (layC L dt)).map (·.1) := fun i hi hm => by
  rw [wrOf_lay,layR_sec] at hm
  have := hL i hm
  omega
 refine od_step ho hb r2 r3 (run_len _ _).1 (fun i hi => by rw [r4];exact secAt_ne _ _ _ (hlay i hi)) ?_ (by simp) hT ?_ ?_ ?_
 ·intro c hc
  obtain rfl := List.mem_singleton.1 hc
  exact he
 ·intro g hg
  rcases mem_putF hg with rfl | ⟨hg,_⟩
  ·exact he
  ·exact hb.ent g hg
 ·intro g hg
  rcases mem_putF hg with rfl | ⟨hg,hne⟩
  ·exact .inl (List.mem_singleton.2 rfl)
  ·exact .inr ⟨by simpa using hd g hg hne,g,hg,rfl,rfl⟩
 ·intro e _ hx
  refine .inr ⟨?_,fun g hg e2 => ?_⟩
  ·have := hx f (put_mem2 (.inl rfl))
   simp only [List.map_cons,List.map_nil,List.mem_singleton]
   exact fun e2 => this e2.symm
  ·by_cases hne : g.name = f.name
   ·exact hx f (put_mem2 (.inl rfl)) ((ha g hg hne).symm.trans e2)
   ·exact hx g (put_mem2 (.inr ⟨hg,hne⟩)) e2
theorem fin_on {m : StoM} {l : List Cmd} {F : List FileM} {T : List Bool} (h1 : m.ds.cut = none) (h2 : m.ds.off = false) : finW (DS.run l m.ds) F T m = (0,⟨(DS.run l m.ds).2,F,T,m.most,m.off⟩) := by
 unfold finW
 rw [if_pos (run_on l m.ds h1 h2).1]
theorem opW_od {m : StoM} (h : Inv m) (ho : Od m) (n d : Bs) : Od (opW m n d).2 := by
 unfold opW
 cases hq : (preW m n d).2 with
 | none => exact ho
 | some p =>
  obtain ⟨T2,f⟩ := p
  dsimp only
  rw [fin_on h.cut h.on]
  unfold preW at hq
  split at hq
  ·cases hq
  ·split at hq
   ·cases hq
   ·split at hq
    ·cases hq
    ·rename_i i hs
     split at hq
     ·cases hq
     ·rename_i l T1 htk
      split at hq
      ·cases hq
      ·rename_i T3 htn
       simp only [Option.some.injEq,Prod.mk.injEq] at hq
       obtain ⟨rfl,rfl⟩ := hq
       obtain ⟨_,_,_,t1,_⟩ := takeS_facts htk
       refine od_put ho h.b h.cut h.on ((turnS_len _ _ _ _ htn).trans t1) ?_ (fun i hi => secL_ge hi) ?_ ?_
       ·unfold slotW at hs
        cases hf : fileOf m.F n with
        | none => rw [hf] at hs;exact (vacN_some hs).1
        | some g => rw [hf] at hs;cases hs;exact h.b.ent g (fileOf_mem hf)
       ·intro g hg e
        unfold slotW at hs
        cases hf : fileOf m.F n with
        | none => exact absurd e (fileOf_none.1 hf g hg)
        | some g2 =>
         rw [hf] at hs
         cases hs
         rw [name_inj h.names hg (fileOf_mem hf) (Eq.trans e (fileOf_name hf).symm)]
       ·intro g hg e
        unfold slotW at hs
        cases hf : fileOf m.F n with
        | none => rw [hf] at hs;exact (vacN_some hs).2.1 g hg
        | some g2 =>
         rw [hf] at hs
         cases hs
         intro e2
         have := entry_inj h.entries hg (fileOf_mem hf) e2
         exact e (by rw [this];exact fileOf_name hf)
theorem opA_od {m : StoM} (h : Inv m) (ho : Od m) (n d : Bs) : Od (opA m n d).2 := by
 unfold opA
 cases hq : (preA m n d).2 with
 | none => exact ho
 | some p =>
  obtain ⟨T2,L,dt,f⟩ := p
  dsimp only
  rw [fin_on h.cut h.on]
  unfold preA at hq
  split at hq
  ·cases hq
  ·split at hq
   ·cases hq
   ·rename_i g hf
    split at hq
    ·cases hq
    ·split at hq
     ·cases hq
     ·split at hq
      ·cases hq
      ·rename_i l T1 htk
       simp only [Option.some.injEq,Prod.mk.injEq] at hq
       obtain ⟨rfl,rfl,rfl,rfl⟩ := hq
       obtain ⟨_,_,_,t1,_⟩ := takeS_facts htk
       refine od_put ho h.b h.cut h.on t1 (h.b.ent g (fileOf_mem hf)) (fun i hi => ?_) ?_ ?_
       ·rcases List.mem_append.1 hi with hi | hi
        ·unfold appL at hi
         split at hi
         ·cases hi
         ·rename_i hz
          obtain ⟨e1,e2,_⟩ := lastS_at (m := m) (h.sum g (fileOf_mem hf)) hz
          have e3 := List.getElem_mem e1
          rw [← e2] at e3
          obtain rfl := List.mem_singleton.1 hi
          exact secL_ge e3
        ·exact secL_ge hi
       ·intro x hx e
        rw [name_inj h.names hx (fileOf_mem hf) (Eq.trans e (fileOf_name hf).symm)]
       ·intro x hx e e2
        have := entry_inj h.entries hx (fileOf_mem hf) e2
        exact e (by rw [this];exact fileOf_name hf)
theorem opR_od {m : StoM} (h : Inv m) (ho : Od m) (n : Bs) : Od (opR m n).2 := by
 unfold opR
 cases hq : (preR m n).2 with
 | none => exact ho
 | some p =>
  obtain ⟨T2,f⟩ := p
  dsimp only
  rw [fin_on h.cut h.on]
  unfold preR at hq
  split at hq
  ·cases hq
  ·split at hq
   ·cases hq
   ·rename_i g hf
    split at hq
    ·cases hq
    ·rename_i T3 htn
     simp only [Option.some.injEq,Prod.mk.injEq] at hq
     obtain ⟨rfl,rfl⟩ := hq
     have hgm := fileOf_mem hf
     refine od_step ho h.b h.cut h.on rfl (fun _ _ => rfl) ?_ (by simp) (turnS_len _ _ _ _ htn) ?_ ?_ ?_
     ·intro c hc
      obtain rfl := List.mem_singleton.1 hc
      exact h.b.ent g hgm
     ·intro x hx
      exact h.b.ent x (mem_delF.1 hx).1
     ·intro x hx
      obtain ⟨a,b⟩ := mem_delF.1 hx
      refine .inr ⟨?_,x,a,rfl,rfl⟩
      simp only [List.map_cons,List.map_nil,List.mem_singleton]
      intro e
      exact b (by rw [entry_inj h.entries a hgm e])
     ·intro e _ hx
      by_cases hge : g.entry = e
      ·exact .inl (by rw [hge];exact List.mem_singleton.2 rfl)
      ·refine .inr ⟨by simpa using fun e2 => hge e2.symm,fun x hx2 e2 => ?_⟩
       by_cases hn : x.name = g.name
       ·rw [name_inj h.names hx2 hgm hn] at e2;exact hge e2
       ·exact hx x (mem_delF.2 ⟨hx2,hn⟩) e2
theorem two2_mem {i j : Nat} {t u : Bs} {c : Nat × Bs} : c ∈ two2 i t j u ↔ c = (i,t) ∨ c = (j,u) := by
 unfold two2
 split
 ·simp
 ·simp [or_comm]
theorem two2_key {i j e : Nat} {t u : Bs} : e ∈ (two2 i t j u).map (·.1) ↔ e = i ∨ e = j := by
 unfold two2
 split
 ·simp
 ·simp [or_comm]
theorem two2_nodup {i j : Nat} {t u : Bs} (h : i ≠ j) : ((two2 i t j u).map (·.1)).Nodup := by
 unfold two2
 split
 ·simpa using h
 ·simpa using fun e => h e.symm
theorem opN_od {m : StoM} (h : Inv m) (ho : Od m) (a b : Bs) : Od (opN m a b).2 := by
 unfold opN
 cases hq : (preN m a b).2 with
 | none => exact ho
 | some p =>
  obtain ⟨T2,C,F2⟩ := p
  dsimp only
  rw [fin_on h.cut h.on]
  unfold preN at hq
  split at hq
  ·cases hq
  ·split at hq
   ·cases hq
   ·rename_i f hf
    have hfm := fileOf_mem hf
    have hfn := fileOf_name hf
    split at hq
    ·cases hq
    ·rename_i hab
     have hold : ∀ x ∈ putF (delF m.F a) (renF f b),x = renF f b ∨ (x ∈ m.F ∧ x.name ≠ a ∧ x.name ≠ b) := fun x hx => by
      rcases mem_putF hx with rfl | ⟨hx,hn⟩
      ·exact .inl rfl
      ·obtain ⟨c,d⟩ := mem_delF.1 hx
       exact .inr ⟨c,d,hn⟩
     have hnew : renF f b ∈ putF (delF m.F a) (renF f b) := put_mem2 (.inl rfl)
     have hkeep : ∀ x ∈ m.F,x.name ≠ a → x.name ≠ b → x ∈ putF (delF m.F a) (renF f b) := fun x h1 h2 h3 => put_mem2 (.inr ⟨mem_delF.2 ⟨h1,h2⟩,h3⟩)
     have hent : ∀ x ∈ putF (delF m.F a) (renF f b),x.entry < m.most := fun x hx => by
      rcases hold x hx with rfl | ⟨hx,_⟩
      ·exact h.b.ent f hfm
      ·exact h.b.ent x hx
     split at hq
     ·rename_i hb
      simp only [Option.some.injEq,Prod.mk.injEq] at hq
      obtain ⟨rfl,rfl,rfl⟩ := hq
      refine od_step ho h.b h.cut h.on rfl (fun _ _ => rfl) ?_ (by simp) rfl hent ?_ ?_
      ·intro c hc
       obtain rfl := List.mem_singleton.1 hc
       exact h.b.ent f hfm
      ·intro x hx
       rcases hold x hx with rfl | ⟨hx,hn,_⟩
       ·exact .inl (List.mem_singleton.2 rfl)
       ·refine .inr ⟨?_,x,hx,rfl,rfl⟩
        simp only [List.map_cons,List.map_nil,List.mem_singleton]
        intro e
        exact hn (by rw [entry_inj h.entries hx hfm e];exact hfn)
      ·intro e _ hx
       refine .inr ⟨?_,fun x hx2 e2 => ?_⟩
       ·simp only [List.map_cons,List.map_nil,List.mem_singleton]
        exact fun e2 => hx _ hnew e2.symm
       ·by_cases hn : x.name = a
        ·rw [name_inj h.names hx2 hfm (hn.trans hfn.symm)] at e2
         exact hx _ hnew e2
        ·exact hx x (hkeep x hx2 hn (fileOf_none.1 hb x hx2)) e2
     ·rename_i g hg
      have hgm := fileOf_mem hg
      have hgn := fileOf_name hg
      have hfg : f.entry ≠ g.entry := fun e => hab (by rw [← hfn, ← hgn,entry_inj h.entries hfm hgm e])
      split at hq
      ·cases hq
      ·rename_i T3 htn
       simp only [Option.some.injEq,Prod.mk.injEq] at hq
       obtain ⟨rfl,rfl,rfl⟩ := hq
       refine od_step ho h.b h.cut h.on rfl (fun _ _ => rfl) ?_ (two2_nodup hfg) (turnS_len _ _ _ _ htn) hent ?_ ?_
       ·intro c hc
        rcases two2_mem.1 hc with rfl | rfl
        ·exact h.b.ent f hfm
        ·exact h.b.ent g hgm
       ·intro x hx
        rcases hold x hx with rfl | ⟨hx,hn,hn2⟩
        ·exact .inl (two2_mem.2 (.inl rfl))
        ·refine .inr ⟨fun e => ?_,x,hx,rfl,rfl⟩
         rcases two2_key.1 e with e | e
         ·exact hn (by rw [entry_inj h.entries hx hfm e];exact hfn)
         ·exact hn2 (by rw [entry_inj h.entries hx hgm e];exact hgn)
       ·intro e _ hx
        by_cases hge : g.entry = e
        ·exact .inl (two2_mem.2 (.inr (by rw [hge])))
        ·refine .inr ⟨fun e2 => ?_,fun x hx2 e2 => ?_⟩
         ·rcases two2_key.1 e2 with e2 | e2
          ·exact hx _ hnew e2.symm
          ·exact hge e2.symm
         ·by_cases hn : x.name = a
          ·rw [name_inj h.names hx2 hfm (hn.trans hfn.symm)] at e2
           exact hx _ hnew e2
          ·by_cases hn2 : x.name = b
           ·rw [name_inj h.names hx2 hgm (hn2.trans hgn.symm)] at e2
            exact hge e2
           ·exact hx x (hkeep x hx2 hn hn2) e2
theorem actO_od {m : StoM} (h : Inv m) (ho : Od m) (a : ActM) (i : Nat) : Od (actO m a i).2 := by
 unfold actO
 split
 ·exact opW_od h ho _ _
 ·split
  ·exact opA_od h ho _ _
  ·split
   ·exact opN_od h ho _ _
   ·split
    ·exact opR_od h ho _
    ·exact ho
theorem od_fresh (n f : Nat) (h1 : 1 ≤ f) (h3 : f + 8 ≤ n) (h4 : n ≤ 4000) : Od (freshM n f) := by
 have hlen : (freshL n f).length = n := by unfold freshL;rw [List.length_set,List.length_replicate]
 have hz : ∀ i,1 ≤ i → i < n → secAt (freshL n f) i = zeroS := fun i h1 h2 => by
  unfold freshL
  rw [secAt_set_ne _ _ _ _ (by omega)]
  unfold secAt
  rw [List.getElem?_replicate,if_pos h2];rfl
 refine ⟨?_, ?_,fun g hg => (by cases hg),fun e he _ => hz _ (by omega) (by have : e < f := he;omega),hz _ (by omega) (by show 2 + f < n;omega), ?_⟩
 ·show secAt (freshL n f) 0 = headB (freshL n f).length f
  rw [hlen]
  exact secAt_set _ _ _ (by rw [List.length_replicate];omega)
 ·show secAt (freshL n f) 1 = fullB (packB (List.replicate (n - f - 7) false))
  rw [hz 1 (by omega) (by omega),pack_zero _ (by omega)]
 ·show 1 ≤ (List.replicate (n - f - 7) false).length
  rw [List.length_replicate]
  omega
theorem delF_perm {F G : List FileM} (h : F.Perm G) (t : Bs) : (delF F t).Perm (delF G t) := h.filter _
theorem putF_perm {F G : List FileM} (h : F.Perm G) (hn : (F.map (·.name)).Nodup) (f : FileM) : (putF F f).Perm (putF G f) :=
 (perm_put F f hn).trans (((delF_perm h f.name).cons f).trans (perm_put G f ((h.map (·.name)).nodup_iff.1 hn)).symm)
theorem vacN_perm {F G : List FileM} (h : F.Perm G) (most : Nat) : vacN F most = vacN G most := by
 unfold vacN
 congr 1
 refine List.map_congr_left fun i _ => ?_
 rw [Bool.eq_iff_iff,List.any_eq_true,List.any_eq_true]
 exact ⟨fun ⟨x,a,b⟩ => ⟨x,h.mem_iff.1 a,b⟩,fun ⟨x,a,b⟩ => ⟨x,h.mem_iff.2 a,b⟩⟩
structure Rel (m : StoM) (F : List PF) (T : List Bool) : Prop where
 t : m.T = T
 perm : m.F.Perm (F.map toM)
 data : ∀ g ∈ F,readF m (toM g) = g.data
theorem rel_write {m : StoM} {F F' : List PF} {T T' : List Bool} {most r : Nat} (h : Inv m) (hr : Inv (refM F T most)) (hm : m.most = most) (R : Rel m F T) (n d : Bs) (hp : wriS F T most (enF F most) n d = some (r,F',T')) :
  (opW m n d).1 = r ∧ Rel (opW m n d).2 F' T' := by
 have e1 : ∀ t,fileOf m.F t = fileOf (F.map toM) t := fileOf_perm R.perm h.names
 have hpe : preW m n d = preW (refM F T most) n d := by
  unfold preW slotW oldX refM
  dsimp only
  rw [e1,vacN_perm R.perm,R.t,hm]
 obtain ⟨r2,F2,T2',a1,_,a3,a4⟩ := ref_write hr n d
 rw [hp] at a1
 simp only [Option.some.injEq,Prod.mk.injEq] at a1
 obtain ⟨rfl,rfl,rfl⟩ := a1
 rw [← hpe] at a3 a4
 unfold opW
 cases hq : (preW m n d).2 with
 | none =>
  rw [hq] at a4
  obtain ⟨rfl,rfl⟩ := a4
  exact ⟨a3.symm,R⟩
 | some q =>
  obtain ⟨T2,f⟩ := q
  rw [hq] at a4
  dsimp only at a4 ⊢
  obtain ⟨rfl,b2,b3⟩ := a4
  have hz := preW_zero hq
  rw [fin_on h.cut h.on]
  obtain ⟨c1,c2,c3⟩ := write_read h hz
  refine ⟨by rw [a3,hz],rfl,(putF_perm R.perm h.names f).trans b2.symm,fun g hg => ?_⟩
  rcases b3 g hg with ⟨_,g2,g3⟩ | ⟨g1,g2⟩
  ·rw [g3,g2];exact c2
  ·exact (c3 (toM g) (mem_delF.2 ⟨R.perm.mem_iff.2 (List.mem_map.2 ⟨g,g1,rfl⟩),g2⟩)).trans (R.data g g1)
theorem rel_append {m : StoM} {F F' : List PF} {T T' : List Bool} {most r : Nat} (h : Inv m) (hd : DGood m.ds) (hr : Inv (refM F T most)) (R : Rel m F T) (n d : Bs) (hp : appS F T n d = some (r,F',T')) :
  (opA m n d).1 = r ∧ Rel (opA m n d).2 F' T' := by
 have e1 : ∀ t,fileOf m.F t = fileOf (F.map toM) t := fileOf_perm R.perm h.names
 have hp1 : (preA m n d).1 = (preA (refM F T most) n d).1 ∧ (preA m n d).2.map (fun q => (q.1,q.2.2.2)) = (preA (refM F T most) n d).2.map (fun q => (q.1,q.2.2.2)) := by
  unfold preA
  rw [show fileOf (refM F T most).F n = fileOf m.F n from (e1 n).symm,show (refM F T most).T = m.T from R.t.symm]
  split
  ·exact ⟨rfl,rfl⟩
  ·cases hf : fileOf m.F n with
   | none => exact ⟨rfl,rfl⟩
   | some f =>
    dsimp only
    split
    ·exact ⟨rfl,rfl⟩
    ·split
     ·exact ⟨rfl,rfl⟩
     ·cases takeS m.T (needsN (f.size + d.length) - sumN f.ext) (64 - f.ext.length) with
      | none => exact ⟨rfl,rfl⟩
      | some q => exact ⟨rfl,rfl⟩
 obtain ⟨r2,F2,T2',a1,_,a3,a4⟩ := ref_append hr n d
 rw [hp] at a1
 simp only [Option.some.injEq,Prod.mk.injEq] at a1
 obtain ⟨rfl,rfl,rfl⟩ := a1
 rw [← hp1.1] at a3
 have hp2 := hp1.2
 unfold opA
 cases hq : (preA m n d).2 with
 | none =>
  rw [hq] at hp2
  cases hq2 : (preA (refM F T most) n d).2 with
  | none =>
   rw [hq2] at a4
   obtain ⟨rfl,rfl⟩ := a4
   exact ⟨a3.symm,R⟩
  | some q => rw [hq2] at hp2;cases hp2
 | some q =>
  obtain ⟨T2,L,dt,f⟩ := q
  rw [hq] at hp2
  cases hq2 : (preA (refM F T most) n d).2 with
  | none => rw [hq2] at hp2;cases hp2
  | some q2 =>
   obtain ⟨T3,L3,dt3,f3⟩ := q2
   rw [hq2] at hp2 a4
   simp only [Option.map_some,Option.some.injEq,Prod.mk.injEq] at hp2
   obtain ⟨rfl,rfl⟩ := hp2
   dsimp only at a4 ⊢
   obtain ⟨rfl,b2,b3⟩ := a4
   have hz := preA_zero hq
   rw [fin_on h.cut h.on]
   obtain ⟨f0,c1,_,_,c4,c5⟩ := append_read h hd hz
   refine ⟨by rw [a3,hz],rfl,(putF_perm R.perm h.names f).trans b2.symm,fun g hg => ?_⟩
   rcases b3 g hg with ⟨_,⟨g0,k1,k2,k3⟩,g3⟩ | ⟨g1,g2⟩
   ·rw [g3,k3]
    have hm0 : toM g0 ∈ m.F := R.perm.mem_iff.2 (List.mem_map.2 ⟨g0,k1,rfl⟩)
    have : f0 = toM g0 := name_inj h.names (fileOf_mem c1) hm0 ((fileOf_name c1).trans k2.symm)
    refine c4.trans ?_
    rw [this,R.data g0 k1]
   ·exact (c5 (toM g) (mem_delF.2 ⟨R.perm.mem_iff.2 (List.mem_map.2 ⟨g,g1,rfl⟩),g2⟩)).trans (R.data g g1)
theorem rel_rename {m : StoM} {F F' : List PF} {T T' : List Bool} {most r : Nat} (h : Inv m) (hr : Inv (refM F T most)) (R : Rel m F T) (a b : Bs) (hp : renS F T a b = some (r,F',T')) :
  (opN m a b).1 = r ∧ Rel (opN m a b).2 F' T' := by
 have e1 : ∀ t,fileOf m.F t = fileOf (F.map toM) t := fileOf_perm R.perm h.names
 have hp1 : (preN m a b).1 = (preN (refM F T most) a b).1 ∧ ∀ T2 C F2,(preN (refM F T most) a b).2 = some (T2,C,F2) → ∃ F3,(preN m a b).2 = some (T2,C,F3) ∧ F3.Perm F2 := by
  have hdp : ∀ f,(putF (delF m.F a) f).Perm (putF (delF (refM F T most).F a) f) := fun f => putF_perm (delF_perm R.perm a) (List.Nodup.sublist ((List.filter_sublist).map _) h.names) f
  unfold preN
  rw [show fileOf (refM F T most).F a = fileOf m.F a from (e1 a).symm,show fileOf (refM F T most).F b = fileOf m.F b from (e1 b).symm,show (refM F T most).T = m.T from R.t.symm]
  split
  ·exact ⟨rfl,fun T2 C F2 e => by cases e⟩
  ·cases hf : fileOf m.F a with
   | none => exact ⟨rfl,fun T2 C F2 e => by cases e⟩
   | some f =>
    dsimp only
    split
    ·exact ⟨rfl,fun T2 C F2 e => by cases e⟩
    ·cases hg : fileOf m.F b with
     | none =>
      refine ⟨rfl,fun T2 C F2 e => ?_⟩
      simp only [Option.some.injEq,Prod.mk.injEq] at e
      obtain ⟨rfl,rfl,rfl⟩ := e
      exact ⟨_,rfl,hdp _⟩
     | some g =>
      dsimp only
      cases turnS false m.T g.ext with
      | none => exact ⟨rfl,fun T2 C F2 e => by cases e⟩
      | some q =>
       refine ⟨rfl,fun T2 C F2 e => ?_⟩
       simp only [Option.some.injEq,Prod.mk.injEq] at e
       obtain ⟨rfl,rfl,rfl⟩ := e
       exact ⟨_,rfl,hdp _⟩
 obtain ⟨r2,F2,T2',a1,_,a3,a4⟩ := ref_rename hr a b
 rw [hp] at a1
 simp only [Option.some.injEq,Prod.mk.injEq] at a1
 obtain ⟨rfl,rfl,rfl⟩ := a1
 rw [← hp1.1] at a3
 unfold opN
 cases hq : (preN m a b).2 with
 | none =>
  cases hq2 : (preN (refM F T most) a b).2 with
  | none =>
   rw [hq2] at a4
   obtain ⟨rfl,rfl⟩ := a4
   exact ⟨a3.symm,R⟩
  | some q =>
   obtain ⟨T2,C,F2⟩ := q
   obtain ⟨F3,k1,_⟩ := hp1.2 T2 C F2 hq2
   rw [hq] at k1;cases k1
 | some q =>
  obtain ⟨T2,C,F2⟩ := q
  have hz := preN_zero hq
  cases hq2 : (preN (refM F T most) a b).2 with
  | none =>
   exfalso
   obtain ⟨f,g1,g2,g3,g4,_,g6⟩ := preN_some hz
   unfold preN at hq2
   rw [show fileOf (refM F T most).F a = some f from (e1 a).symm.trans g3,show fileOf (refM F T most).F b = fileOf m.F b from (e1 b).symm,show (refM F T most).T = m.T from R.t.symm] at hq2
   rw [if_neg (by simp [g1,g2])] at hq2
   dsimp only at hq2
   rw [if_neg g4] at hq2
   rcases g6 with ⟨k1,_⟩ | ⟨g,k1,k2,_⟩
   ·rw [k1] at hq2;cases hq2
   ·rw [k1] at hq2
    dsimp only at hq2
    rw [k2] at hq2;cases hq2
  | some q2 =>
   obtain ⟨T3,C3,F3⟩ := q2
   obtain ⟨F4,k1,k2⟩ := hp1.2 T3 C3 F3 hq2
   rw [hq] at k1
   simp only [Option.some.injEq,Prod.mk.injEq] at k1
   obtain ⟨rfl,rfl,rfl⟩ := k1
   rw [hq2] at a4
   dsimp only at a4 ⊢
   obtain ⟨rfl,b2,b3⟩ := a4
   rw [fin_on h.cut h.on]
   obtain ⟨f,_,_,g3,g4,_,g6⟩ := preN_some hz
   have hfm := fileOf_mem g3
   have hC : (∀ c ∈ C,c.1 < m.most) ∧ C.length ≤ 2 := by
    rcases g6 with ⟨_,_,rfl⟩ | ⟨g,k1,_,rfl⟩
    ·exact ⟨fun c hc => by obtain rfl := List.mem_singleton.1 hc
                           exact h.b.ent f hfm,by simp⟩
    ·refine ⟨fun c hc => ?_,by unfold two2;split <;> simp⟩
     rcases two2_mem.1 hc with rfl | rfl
     ·exact h.b.ent f hfm
     ·exact h.b.ent g (fileOf_mem k1)
   refine ⟨by rw [a3,hz],rfl,k2.trans b2.symm,fun g hg => ?_⟩
   rw [settle_read h hC.1 hC.2]
   rcases b3 g hg with ⟨_,g0,k1,_,k3,k4⟩ | ⟨g1,_⟩
   ·have e : readF m (toM g) = readF m (toM g0) := by unfold readF toM;dsimp only;rw [k3,k4]
    rw [e,R.data g0 k1,k3]
   ·exact R.data g g1
theorem rel_remove {m : StoM} {F F' : List PF} {T T' : List Bool} {most r : Nat} (h : Inv m) (hr : Inv (refM F T most)) (R : Rel m F T) (n : Bs) (hp : remS F T n = some (r,F',T')) :
  (opR m n).1 = r ∧ Rel (opR m n).2 F' T' := by
 have e1 : ∀ t,fileOf m.F t = fileOf (F.map toM) t := fileOf_perm R.perm h.names
 have hpe : preR m n = preR (refM F T most) n := by
  unfold preR
  rw [show fileOf (refM F T most).F n = fileOf m.F n from (e1 n).symm,show (refM F T most).T = m.T from R.t.symm]
 obtain ⟨r2,F2,T2',a1,_,a3,a4⟩ := ref_remove hr n
 rw [hp] at a1
 simp only [Option.some.injEq,Prod.mk.injEq] at a1
 obtain ⟨rfl,rfl,rfl⟩ := a1
 rw [← hpe] at a3 a4
 unfold opR
 cases hq : (preR m n).2 with
 | none =>
  rw [hq] at a4
  obtain ⟨rfl,rfl⟩ := a4
  exact ⟨a3.symm,R⟩
 | some q =>
  obtain ⟨T2,f⟩ := q
  rw [hq] at a4
  dsimp only at a4 ⊢
  obtain ⟨rfl,b2,b3,b4⟩ := a4
  obtain ⟨_,hf,hz⟩ := preR_zero hq
  rw [fin_on h.cut h.on]
  refine ⟨by rw [a3,hz],rfl, ?_,fun g hg => ?_⟩
  ·show (delF m.F f.name).Perm _
   rw [b2]
   exact delF_perm R.perm _
  ·rw [settle_read h (fun c hc => by
    obtain rfl := List.mem_singleton.1 hc
    exact h.b.ent f (fileOf_mem hf)) (by simp)]
   exact R.data g (b4 g hg).1
theorem rel_find {m : StoM} {F : List PF} {T : List Bool} (h : Inv m) (R : Rel m F T) (n : Bs) : findE m.F n = findR F n := by
 have e1 : fileOf m.F n = fileOf (F.map toM) n := fileOf_perm R.perm h.names n
 unfold findE findR
 rw [e1]
 cases hg : goodF n with
 | false => simp
 | true =>
  simp only [if_true,Bool.true_eq_false,if_false]
  cases hf : idxF F n with
  | none => rw [(idxF_none hf).1];rfl
  | some i => obtain ⟨_,_,h3⟩ := idxF_some hf;rw [h3];rfl
theorem rel_act {m : StoM} {F F' : List PF} {T T' : List Bool} {most r : Nat} (h : Inv m) (hd : DGood m.ds) (hr : Inv (refM F T most)) (hm : m.most = most) (R : Rel m F T) (a : ActM) (i : Nat) (hp : actS F T most a i = some (r,F',T')) :
  (actO m a i).1 = r ∧ Rel (actO m a i).2 F' T' := by
 unfold actS at hp
 unfold actO
 split
 ·rename_i hc
  rw [if_pos hc] at hp
  exact rel_write h hr hm R _ _ hp
 ·rename_i hc
  rw [if_neg hc] at hp
  split
  ·rename_i hc
   rw [if_pos hc] at hp
   exact rel_append h hd hr R _ _ hp
  ·rename_i hc
   rw [if_neg hc] at hp
   split
   ·rename_i hc
    rw [if_pos hc] at hp
    exact rel_rename h hr R _ _ hp
   ·rename_i hc
    rw [if_neg hc] at hp
    split
    ·rename_i hc
     rw [if_pos hc] at hp
     exact rel_remove h hr R _ hp
    ·rename_i hc
     rw [if_neg hc] at hp
     simp only [Option.some.injEq,Prod.mk.injEq] at hp
     obtain ⟨rfl,rfl,rfl⟩ := hp
     exact ⟨rel_find h R _,R⟩
theorem inv_perm {m : StoM} {F' : List FileM} (h : Inv m) (hp : F'.Perm m.F) : Inv ⟨m.ds,F',m.T,m.most,false⟩ :=
 inv_mk m.F hp (fun _ hf => h.fin hf) h.names h.entries h.once h.taken h.b.mo h.b.tl h.b.ll h.cut h.on h.syn rfl
theorem od_perm {m : StoM} {F' : List FileM} (ho : Od m) (hp : F'.Perm m.F) : Od ⟨m.ds,F',m.T,m.most,false⟩ :=
 ⟨ho.head,ho.map,fun f hf => ho.ent f (hp.mem_iff.1 hf),fun e he hx => ho.vac e he (fun f hf => hx f (hp.mem_iff.2 hf)),ho.log,ho.some⟩
theorem mount_rel {m : StoM} {F : List PF} {T : List Bool} (h : Inv m) (ho : Od m) (R : Rel m F T) :
  ∃ F',mountM m.ds = (0,m.ds,some (F',m.T)) ∧ Inv ⟨m.ds,F',m.T,m.most,false⟩ ∧ Od ⟨m.ds,F',m.T,m.most,false⟩ ∧ Rel ⟨m.ds,F',m.T,m.most,false⟩ F T := by
 obtain ⟨F',h1,h2⟩ := mount_od h ho
 exact ⟨F',h1,inv_perm h h2,od_perm ho h2,R.t,h2.trans R.perm,R.data⟩
theorem rel_read {m : StoM} {F : List PF} {T : List Bool} (h : Inv m) (R : Rel m F T) {i : Nat} {n : Bs} (hi : idxF F n = some i) : ∃ hl : i < F.length,F[i].name = n ∧ goodF n = true ∧ findE m.F n = 0 ∧ readW m n = F[i].data ∧ sizeW m.F n = F[i].data.length := by
 obtain ⟨hl,hn,hf⟩ := idxF_some hi
 have e1 : fileOf m.F n = some (toM F[i]) := (fileOf_perm R.perm h.names n).trans hf
 have hg : goodF n = true := by
  have := h.good _ (fileOf_mem e1)
  rw [fileOf_name e1] at this
  exact this
 refine ⟨hl,hn,hg, ?_, ?_, ?_⟩
 ·unfold findE;rw [if_pos hg,e1];rfl
 ·unfold readW
  rw [if_pos hg,e1,Option.map_some,Option.getD_some,R.data _ (List.getElem_mem hl)]
 ·unfold sizeW
  rw [if_pos hg,e1];rfl
theorem rel_len {m : StoM} {F : List PF} {T : List Bool} (R : Rel m F T) : m.F.length = F.length := by rw [R.perm.length_eq,List.length_map]
theorem rel_names {m : StoM} {F : List PF} {T : List Bool} (R : Rel m F T) : (m.F.map (·.name)).Perm (F.map (·.name)) := by
 have := R.perm.map (·.name)
 rw [List.map_map] at this
 exact this
theorem idx_of {F : List PF} {n : Bs} (h : n ∈ F.map (·.name)) : ∃ i,idxF F n = some i := by
 cases hq : idxF F n with
 | some i => exact ⟨i,rfl⟩
 | none =>
  obtain ⟨f,hf,hn⟩ := List.mem_map.1 h
  exact absurd hn ((idxF_none hq).2 f hf)
theorem less_lt : ∀ a b : Bs,Op.bytesLess a b = decide (a < b) := by
 intro a
 induction a with
 | nil =>
  intro b
  cases b with
  | nil => rfl
  | cons y b => simp [Op.bytesLess]
 | cons x a ih =>
  intro b
  cases b with
  | nil => simp [Op.bytesLess]
  | cons y b =>
   rw [Op.bytesLess,ih]
   by_cases h : x < y
   ·simp [h,List.cons_lt_cons_iff]
   ·by_cases e : x = y
    ·subst e;simp
    ·simp [h,e,List.cons_lt_cons_iff]
theorem insB_cons (y : Bs) (out : List Bs) (x : Bs) : insB (y :: out) x = if y < x then y :: insB out x else x :: y :: out := by
 unfold insB
 rw [List.takeWhile_cons,List.dropWhile_cons,less_lt]
 by_cases h : y < x <;> simp [h]
theorem insB_perm (out : List Bs) (x : Bs) : (insB out x).Perm (x :: out) := by
 induction out with
 | nil => exact List.Perm.refl _
 | cons y out ih =>
  rw [insB_cons]
  split
  ·exact (ih.cons y).trans (List.Perm.swap x y out)
  ·exact List.Perm.refl _
theorem insB_sorted (out : List Bs) (x : Bs) (h : out.Pairwise (· ≤ ·)) : (insB out x).Pairwise (· ≤ ·) := by
 induction out with
 | nil => simp [insB]
 | cons y out ih =>
  rw [insB_cons]
  obtain ⟨h1,h2⟩ := List.pairwise_cons.1 h
  split
  ·rename_i hl
   refine List.pairwise_cons.2 ⟨fun z hz => ?_,ih h2⟩
   rcases List.mem_cons.1 ((insB_perm out x).mem_iff.1 hz) with rfl | hz
   ·exact List.le_of_lt hl
   ·exact h1 z hz
  ·rename_i hl
   have hxy : x ≤ y := List.not_lt.1 hl
   refine List.pairwise_cons.2 ⟨fun z hz => ?_,h⟩
   rcases List.mem_cons.1 hz with rfl | hz
   ·exact hxy
   ·exact List.le_trans hxy (h1 z hz)
theorem namesR_facts (F : List PF) : (namesR F).Perm (F.map (·.name)) ∧ (namesR F).Pairwise (· ≤ ·) := by
 have key : ∀ (F : List PF) (out : List Bs),out.Pairwise (· ≤ ·) → (F.foldl (fun out f => insB out f.name) out).Perm (F.map (·.name) ++ out) ∧ (F.foldl (fun out f => insB out f.name) out).Pairwise (· ≤ ·) := by
  intro F
  induction F with
  | nil => intro out h;exact ⟨List.Perm.refl _,h⟩
  | cons f F ih =>
   intro out h
   obtain ⟨a,b⟩ := ih (insB out f.name) (insB_sorted out f.name h)
   refine ⟨a.trans ?_,b⟩
   exact ((insB_perm out f.name).append_left _).trans List.perm_middle
 obtain ⟨a,b⟩ := key F [] List.Pairwise.nil
 rw [List.append_nil] at a
 exact ⟨a,b⟩
theorem sorted_unique : ∀ (a b : List Bs),a.Perm b → a.Pairwise (· ≤ ·) → b.Pairwise (· ≤ ·) → a = b := by
 intro a
 induction a with
 | nil => intro b h _ _;exact (List.nil_perm.1 h).symm
 | cons x a ih =>
  intro b h h1 h2
  cases b with
  | nil => exact absurd h.length_eq (by simp)
  | cons y b =>
   obtain ⟨p1,p2⟩ := List.pairwise_cons.1 h1
   obtain ⟨q1,q2⟩ := List.pairwise_cons.1 h2
   have hxy : x = y := by
    have m1 : x ∈ y :: b := h.mem_iff.1 (List.mem_cons_self ..)
    have m2 : y ∈ x :: a := h.mem_iff.2 (List.mem_cons_self ..)
    rcases List.mem_cons.1 m1 with e | m1
    ·exact e
    ·rcases List.mem_cons.1 m2 with e | m2
     ·exact e.symm
     ·exact List.le_antisymm (p1 y m2) (q1 x m1)
   subst hxy
   rw [ih b (List.Perm.cons_inv h) p2 q2]
theorem rel_sorted {m : StoM} {F : List PF} {T : List Bool} (R : Rel m F T) : namesS m.F = namesR F := by
 obtain ⟨a,b⟩ := namesR_facts F
 refine sorted_unique _ _ ((List.mergeSort_perm _ _).trans ((rel_names R).trans a.symm)) ?_ b
 refine (List.pairwise_mergeSort (le := leB) (fun a b c h1 h2 => ?_) (fun a b => ?_) _).imp (fun h => ?_)
 ·simp only [leB,decide_eq_true_eq] at *;exact List.le_trans h1 h2
 ·simp only [leB,Bool.or_eq_true,decide_eq_true_eq];exact List.le_total a b
 ·simpa [leB] using h
open Go.RowKit Go.Maps
set_option maxRecDepth 100000 in
set_option maxHeartbeats 8000000 in
theorem same_any (X : List Nat) (S D Lg M : Nat) (m : StoM) (Y : List Nat) (R : Nat) (F : List PF) (T : List Bool) (most : Nat) (w : World) (h : Two w X S D Lg M m Y R F T most) (hi : Inv m) (hm : m.most = most) (hrel : Rel m F T) :
  Calls Tryz.prog 30 #[.pointer (some ⟨S,0,none⟩), .pointer (some ⟨R,0,none⟩)] w fun e w' => e = .returned (.bool true) ∧ Below w.heap.size w w' := by
 have hlen : m.F.length = F.length := rel_len hrel
 have hF : F.length ≤ 1000 := by rw [← hlen];exact hi.b.len
 have KNM := fnames_any X S D Lg M m w h.sto hi.b.len
 rw [rel_sorted hrel] at KNM
 have KRN := fun (w1 : World) (hb : Below w.heap.size w w1) => rnames_any Y R F T most w1 (h.rst.below hb) hF
 have KFR := fun (w1 : World) (hb : Below w.heap.size w w1) => ffree_any X S D Lg M m w1 (h.sto.below hb) hi.b.tl (by have := hi.b.mo;omega) hi.b.len
 rw [hrel.t,hm,hlen] at KFR
 have hnl : (namesR F).length = F.length := namesR_length F
 obtain ⟨nl,hnle⟩ : ∃ q,F.length = q := ⟨_,rfl⟩
 rw [hnle] at hnl hF hlen
 simp only [hnle] at KFR
 simp only [hnl] at KNM KRN
 have hmo : most ≤ 256 := by rw [← hm];exact hi.b.mo.2
 have hmn : nl ≤ most := by
  have := nodup_lt m.most _ hi.entries (fun x hx => by obtain ⟨g,hg,rfl⟩ := List.mem_map.1 hx;exact hi.b.ent g hg)
  rw [List.length_map,hlen,hm] at this
  exact this
 have hTl : T.length ≤ 4096 := by rw [← hrel.t];exact hi.b.tl
 have HH := Lib.hid (And.intro h (And.intro hi (And.intro hrel (And.intro hnl hnle))))
 have HM := Lib.hid (And.intro hF (And.intro hmo (And.intro hmn hTl)))
 have HKR := Lib.hid KRN
 have HKF := Lib.hid KFR
 have mixed := mixedT
 clear h hi hm hrel hlen hnl hnle hF hmo hmn hTl KRN KFR
 go_enter Tryz.func30,Tryz.ntmps30
 go_upto_region 3 with (first
  | (go_at_call 22;refine KNM.mono ?_;rintro e w1 ⟨A1,c1,rfl,hrow1,hb1⟩;have K69 := HKR.out w1 hb1;have H1 := Lib.hid (And.intro (Lies.of_row hrow1) hb1);clear hrow1 hb1 KNM)
  | (go_at_call 69;refine K69.mono ?_;rintro e w2 ⟨A2,c2,rfl,hrow2,hb2⟩;have K19 := HKF.out w2 (H1.out.2.trans (hb2.mono H1.out.2.size));have H2 := Lib.hid (And.intro (Lies.of_row hrow2) (And.intro (H1.out.1.below (Nat.le_refl _) hb2) (H1.out.2.trans (hb2.mono H1.out.2.size))));clear hrow2 hb2 K69)
  | (go_at_call 19;refine K19.mono ?_;rintro e w3 ⟨rfl,hb3⟩;have H3 := Lib.hid (And.intro (H2.out.1.below (Nat.le_refl _) hb3) (And.intro (H2.out.2.1.below (Nat.le_refl _) hb3) (H2.out.2.2.trans (hb3.mono H2.out.2.2.size))));clear hb3 K19))
 obtain ⟨aF,cF,aT,cT,G,hra⟩ := (HH.out.1.below H3.out.2.2).rst
 have hGl : G.length = nl := by rw [← HH.out.2.2.2.2, ← hra.files,List.length_map]
 have hblk := hra.blk
 rw [hGl] at hblk
 have hut := hra.units
 obtain ⟨tl,htl⟩ : ∃ q,T.length = q := ⟨_,rfl⟩
 rw [htl] at hblk
 have KF70 := fun (w' : World) (hb : Below w3.heap.size w3 w') => rfree_any aT T cT w' (hut.below (Nat.le_refl _) hb) (by have := HM.out.2.2.2;omega)
 rw [htl] at KF70
 obtain ⟨ct,hct⟩ : ∃ q,T.count false = q := ⟨_,rfl⟩
 simp only [hct] at KF70 ⊢
 have HRA := Lib.hid (And.intro hra (And.intro hGl (And.intro hblk hblk.lt)))
 have hS0 : Below w3.heap.size w3 w3.drew := (Below.refl _ _).drew
 have hw1 : IntKind.i64.wrap ((most : Int) - (nl : Int)) = (most : Int) - (nl : Int) := by
  have h1 := HM.out.2.1
  have h2 := HM.out.2.2.1
  exact wrI (by omega) (by omega)
 clear hra hGl hblk hut htl hct
 refine wp_region_held (S := fun w' => Below w3.heap.size w3 w') mixed ?_
 change wpAnyH _ _ _ _ _ _ _ _ w3.drew
 obtain ⟨wd,hwd⟩ : ∃ q,w3.drew = q := ⟨_,rfl⟩
 rw [hwd] at hS0 ⊢
 clear hwd
 refine tkQ 0 (.slice A1 nl c1) rfl hS0 ?_
 try go_simp
 refine tkQ 1 (.int .i64 (nl : Int)) rfl hS0 ?_
 try go_simp
 refine tkQ 2 (.slice A2 nl c2) rfl hS0 ?_
 try go_simp
 refine tkQ 3 (.int .i64 (nl : Int)) rfl hS0 ?_
 try go_simp
 refine tkQ 4 (.bool false) rfl hS0 ?_
 try go_simp
 refine tkQ 5 (.bool false) rfl hS0 ?_
 try go_simp
 refine tkQ 6 (.int .i64 (ct : Int)) rfl hS0 ?_
 try go_simp
 refine tkQ 7 (.pointer (some ⟨R,0,none⟩)) rfl hS0 ?_
 try go_simp
 refine tkQ 8 (.pointer (some ⟨R,0,none⟩)) rfl hS0 ?_
 try go_simp
 refine tkQ 9 (.pointer (some ⟨R,1,none⟩)) rfl hS0 ?_
 try go_simp
 refine tkH 10 (.agg #[.slice aT tl cT]) rfl hS0 (fun w' hS => ?_) ?_
 ·have q0 := (HRA.out.2.2.1.below hS).cell 1;simp at q0;go_simp
 try go_simp
 refine alH 11 ?_
 unfold wpOp
 go_simp
 refine .inl ?_
 go_at_call 70
 refine (KF70 wd hS0).mono ?_
 rintro e w4 ⟨rfl,hb4⟩
 have hS4 := hS0.trans (hb4.mono hS0.size)
 refine ⟨hS4, ?_⟩
 try go_simp
 clear hS0 hb4 KF70
 refine tkQ 12 (.bool false) rfl hS4 ?_
 try go_simp
 refine tkQ 13 (.bool false) rfl hS4 ?_
 try go_simp
 refine tkQ 14 (.bool false) rfl hS4 ?_
 try go_simp
 refine tkQ 15 (.int .i64 ((most : Int) - (nl : Int))) rfl hS4 ?_
 try go_simp
 refine tkQ 16 (.pointer (some ⟨R,0,none⟩)) rfl hS4 ?_
 try go_simp
 refine tkQ 17 (.pointer (some ⟨R,0,none⟩)) rfl hS4 ?_
 try go_simp
 refine tkQ 18 (.pointer (some ⟨R,2,none⟩)) rfl hS4 ?_
 try go_simp
 refine tkH 19 (.int .i64 (most : Int)) rfl hS4 (fun w' hS => ?_) ?_
 ·have q0 := (HRA.out.2.2.1.below hS).cell 2;simp at q0;go_simp
 try go_simp
 refine tkQ 20 (.pointer (some ⟨R,0,none⟩)) rfl hS4 ?_
 try go_simp
 refine tkQ 21 (.pointer (some ⟨R,0,none⟩)) rfl hS4 ?_
 try go_simp
 refine tkQ 22 (.pointer (some ⟨R,0,none⟩)) rfl hS4 ?_
 try go_simp
 refine tkH 23 (.slice aF nl cF) rfl hS4 (fun w' hS => ?_) ?_
 ·have q0 := (HRA.out.2.2.1.below hS).cell 0;simp at q0;go_simp
 try go_simp
 refine tkQ 24 (.int .i64 (nl : Int)) rfl hS4 ?_
 try go_simp
 refine tkQ 25 (.int .i64 ((most : Int) - (nl : Int))) rfl hS4 ?_
 try go_simp
 refine tkQ 26 (.bool false) rfl hS4 ?_
 try go_simp
 refine tkQ 27 (.bool false) rfl hS4 ?_
 try go_simp
 refine wpAnyH_done (by kernel_rfl) ?_ _
 have H4 := Lib.hid hS4
 clear hS4 hw1
 go_wp2
 go_loopw [9] (fun iv wr => ∃ j : Nat,j ≤ nl ∧ iv = .int .i64 j ∧ Below w3.heap.size w3 wr) (fun iv _ => nl - (intOf iv).toNat)
 case atStart => exact ⟨0,Nat.zero_le _,rfl,H4.out⟩
 case round =>
  obtain ⟨j,hj,rfl,hbj⟩ := hrel
  have j0 : (0 : Int) ≤ (j : Int) := by omega
  by_cases hjl : j < nl
  ·have j1 : (j : Int) < (nl : Int) := by omega
   have hjn : j < (namesR F).length := by rw [HH.out.2.2.2.1];exact hjl
   have htw := HH.out.1.below (H3.out.2.2.trans (hbj.mono H3.out.2.2.size))
   obtain ⟨g1,o1,rfl,hg1,hc1⟩ := (H3.out.2.1.below (Nat.le_refl _) hbj) (by rw [List.length_map];omega)
   obtain ⟨g2,o2,rfl,hg2,hc2⟩ := (H3.out.1.below (Nat.le_refl _) hbj) (by rw [List.length_map];omega)
   have a0 := hc1 j (.string (mk (namesR F)[j])) (by rw [List.getElem?_map,List.getElem?_eq_getElem hjn];rfl)
   have b0 := hc2 j (.string (mk (namesR F)[j])) (by rw [List.getElem?_map,List.getElem?_eq_getElem hjn];rfl)
   have hmem : (namesR F)[j] ∈ F.map (·.name) := (namesR_facts F).1.mem_iff.1 (List.getElem_mem hjn)
   obtain ⟨nm,hnm⟩ : ∃ q,(namesR F)[j] = q := ⟨_,rfl⟩
   rw [hnm] at a0 b0 hmem
   obtain ⟨i,hix⟩ := idx_of hmem
   obtain ⟨hil,hin,hgf,hfe,hrw,hsz⟩ := rel_read HH.out.2.1 HH.out.2.2.1 hix
   have hn80 : nm.length ≤ 80 := goodF_len hgf
   have hrdy := HH.out.2.1.rdy
   have KRD := opS_any X S D Lg M m nm wr htw.sto hrdy (by unfold maxLen;omega)
   rw [hrw,hfe] at KRD
   have KSZ := fun (w7 : World) (hb : Below wr.heap.size wr w7) => fsize_any X S D Lg M m nm w7 (htw.sto.below hb) hrdy.up hrdy.on (by unfold maxLen;omega)
   rw [hfe,hsz] at KSZ
   have KFD := fun (w7 : World) (hb : Below wr.heap.size wr w7) => rfind_any Y R F T most nm w7 (htw.rst.below hb) (by rw [HH.out.2.2.2.2];exact HM.out.1)
   have hfi : findI F nm = (i : Int) := by unfold findI;rw [show F.findIdx? (fun f => f.name == nm) = some i from hix]
   rw [hfi] at KFD
   have hiG : i < G.length := by rw [HRA.out.2.1];rw [← HH.out.2.2.2.2];exact hil
   have hGi : G[i].1 = F[i] := by
    have := HRA.out.1.files
    have h2 : (G.map (·.1))[i]'(by rw [List.length_map];exact hiG) = F[i] := by congr 1
    rw [← h2,List.getElem_map]
   obtain ⟨gF,oF,rfl,hgF,hcF⟩ := ((Lies.of_row HRA.out.1.row).below (Nat.le_refl _) hbj) (by rw [rcells_length];omega)
   obtain ⟨d0,d1,d2,d3⟩ := rcells_at G i hiG
   have e0 := hcF _ _ d0
   have e1 := hcF _ _ d1
   have e2 := hcF _ _ d2
   have e3 := hcF _ _ d3
   rw [hGi] at e0 e1 e2 e3
   have iN : i < nl := by rw [← HRA.out.2.1];exact hiG
   obtain ⟨f,hf⟩ : ∃ q,F[i] = q := ⟨_,rfl⟩
   rw [hf] at KRD KSZ e0 e1 e2 e3
   obtain ⟨ga,hga⟩ : ∃ q,G[i].2 = q := ⟨_,rfl⟩
   rw [hga] at e2
   obtain ⟨NM,hNM⟩ : ∃ q,mk nm = q := ⟨_,rfl⟩
   obtain ⟨DM,hDM⟩ : ∃ q,mk f.data = q := ⟨_,rfl⟩
   have hDs : DM.size = f.data.length := by rw [← hDM,mk_size]
   simp only [hNM] at a0 b0 KRD KSZ KFD
   simp only [hDM] at KRD e1
   obtain ⟨dl,hdl⟩ : ∃ q,f.data.length = q := ⟨_,rfl⟩
   rw [hdl] at hDs
   simp only [hdl] at KSZ
   obtain ⟨FN,hFN⟩ : ∃ q,mk f.name = q := ⟨_,rfl⟩
   obtain ⟨nx,hnx⟩ : ∃ q,f.ext.length = q := ⟨_,rfl⟩
   obtain ⟨en,hen⟩ : ∃ q,f.entry = q := ⟨_,rfl⟩
   obtain ⟨gx,gc⟩ := ga
   rw [hFN] at e0
   rw [hnx] at e2
   rw [hen] at e3
   dsimp only at e2
   rw [← Nat.add_assoc] at e1 e2 e3
   have HC := Lib.hid (And.intro a0 (And.intro b0 (And.intro hg1 (And.intro hg2 (And.intro e0 (And.intro e1 (And.intro e2 (And.intro e3 hgF))))))))
   have HKS := Lib.hid KSZ
   have HKF6 := Lib.hid KFD
   have HBJ := Lib.hid hbj
   have HRB := Lib.hid (HRA.out.2.2.1.below hbj)
   have i0 : (0 : Int) ≤ (i : Int) := by omega
   have i1 : (i : Int) < (nl : Int) := by omega
   subst hDs
   clear htw hc1 hc2 hmem hix hin hgf hfe hrw hsz hn80 hrdy KSZ KFD hfi hGi hcF d0 d1 d2 d3 e0 e1 e2 e3 hf hga hNM hDM hdl hFN hnx hen a0 hg1 hgF hbj hnm hil hiG iN
   go_upto_region 10 with (first
    | (go_at_call 17;refine KRD.mono ?_;rintro e w5 ⟨rfl,hb5⟩;have KS5 := HKS.out w5 hb5;have b0 := (hb5.cell (p := ⟨g2,o2 + j,none⟩) hg2).trans HC.out.2.1;have hg2 := Nat.lt_of_lt_of_le hg2 hb5.size;have H5 := Lib.hid hb5;clear hb5 KRD)
    | (go_at_call 18;refine KS5.mono ?_;rintro e w6 ⟨rfl,hb6⟩;have H6 := Lib.hid (H5.out.trans (hb6.mono H5.out.size));clear hb6 KS5))
   have hS0 : Below wr.heap.size wr w6.drew := H6.out.drew
   clear b0 hg2
   refine wp_region_held (S := fun w' => Below wr.heap.size wr w') mixed ?_
   change wpAnyH _ _ _ _ _ _ _ _ w6.drew
   obtain ⟨WQ,hWQ⟩ : ∃ q,w6.drew = q := ⟨_,rfl⟩
   rw [hWQ] at hS0 ⊢
   clear hWQ
   refine tkQ 0 (.pointer (some ⟨R,0,none⟩)) rfl hS0 ?_
   try go_simp
   refine tkQ 1 (.pointer (some ⟨R,0,none⟩)) rfl hS0 ?_
   try go_simp
   refine tkQ 2 (.pointer (some ⟨R,0,none⟩)) rfl hS0 ?_
   try go_simp
   refine tkH 3 (.slice (some ⟨gF,oF,none⟩) nl cF) rfl hS0 (fun w' hS => ?_) ?_
   ·have q0 := (HRB.out.below hS).cell 0;simp at q0;go_simp
   try go_simp
   refine tkQ 4 (.pointer (some ⟨R,0,none⟩)) rfl hS0 ?_
   try go_simp
   refine tkQ 5 (.slice (some ⟨g2,o2,none⟩) nl c2) rfl hS0 ?_
   try go_simp
   refine tkQ 6 (.int .i64 (j : Int)) rfl hS0 ?_
   try go_simp
   refine tkQ 7 (.pointer (some ⟨g2,o2 + j,none⟩)) rfl hS0 ?_
   try go_simp
   refine tkH 8 (.string NM) rfl hS0 (fun w' hS => ?_) ?_
   ·have q0 := (hS.cell (p := ⟨g2,o2 + j,none⟩) HC.out.2.2.2.1).trans HC.out.2.1;have ql := Nat.lt_of_lt_of_le HC.out.2.2.2.1 hS.size;go_simp
   try go_simp
   refine wpAnyH_all (rs := [9,12]) (by kernel_rfl) (by simp) ?_
   intro ia hia
   simp only [List.mem_cons,List.not_mem_nil,or_false] at hia
   rcases hia with rfl | rfl
   ·skip
    unfold wpOp
    go_simp
    refine .inl ?_
    go_at_call 68
    refine (HKF6.out WQ hS0).mono ?_
    rintro e w' ⟨rfl,hw⟩
    obtain rfl := hw.symm
    refine ⟨hS0, ?_⟩
    try go_simp
    refine tkQ 10 (.pointer (some ⟨gF,oF + i * 4,none⟩)) rfl hS0 ?_
    try go_simp
    refine tkH 11 (.agg #[.string FN, .string DM, .slice gx nx gc, .int .i64 (en : Int)]) rfl hS0 (fun w' hS => ?_) ?_
    ·have q0 := (hS.cell (p := ⟨gF,oF + i * 4,none⟩) HC.out.2.2.2.2.2.2.2.2).trans HC.out.2.2.2.2.1;have q1 := (hS.cell (p := ⟨gF,oF + i * 4 + 1,none⟩) HC.out.2.2.2.2.2.2.2.2).trans HC.out.2.2.2.2.2.1;have q2 := (hS.cell (p := ⟨gF,oF + i * 4 + 2,none⟩) HC.out.2.2.2.2.2.2.2.2).trans HC.out.2.2.2.2.2.2.1;have q3 := (hS.cell (p := ⟨gF,oF + i * 4 + 3,none⟩) HC.out.2.2.2.2.2.2.2.2).trans HC.out.2.2.2.2.2.2.2.1;have ql := Nat.lt_of_lt_of_le HC.out.2.2.2.2.2.2.2.2 hS.size;go_simp
    try go_simp
    clear hw
    refine alH 12 ?_
    unfold wpOp
    go_simp
    have hB14 := Blk.new WQ #[.string ⟨#[]⟩, .string ⟨#[]⟩, .slice none 0 0, .int .i64 0] 138
    have hge := hS0.size
    have hS3 := hS0.alloc hS0.size (.cells #[.string ⟨#[]⟩, .string ⟨#[]⟩, .slice none 0 0, .int .i64 0] 138)
    obtain ⟨H14,hH14⟩ : ∃ q,WQ.heap.size = q := ⟨_,rfl⟩
    rw [hH14] at hB14 hge
    obtain ⟨WR,hWR⟩ : ∃ q,WQ.alloc (.cells #[.string ⟨#[]⟩, .string ⟨#[]⟩, .slice none 0 0, .int .i64 0] 138) = q := ⟨_,rfl⟩
    rw [hWR] at hB14 hS3 ⊢
    try rw [hH14]
    clear hWR hH14 hS0
    first | refine .inl ⟨hS3, ?_⟩ | refine ⟨hS3, ?_⟩
    have hS0 := hS3
    clear hS3
    clear WQ
    obtain ⟨WQ,rfl⟩ : ∃ q,q = WR := ⟨_,rfl⟩
    have HB14 := Lib.hid (And.intro hB14 hge)
    clear hB14 hge
    refine alH 13 ?_
    have x0 := HB14.out.1.cell 0
    have x1 := HB14.out.1.cell 1
    have x2 := HB14.out.1.cell 2
    have x3 := HB14.out.1.cell 3
    have f0 := HB14.out.1.frozen 0
    have f1 := HB14.out.1.frozen 1
    have f2 := HB14.out.1.frozen 2
    have f3 := HB14.out.1.frozen 3
    have l14 := HB14.out.1.lt
    simp at x0 x1 x2 x3
    unfold wpOp
    go_simp
    have hB15 := (((HB14.out.1.set 0 (.string FN)).set 1 (.string DM)).set 2 (.slice gx nx gc)).set 3 (.int .i64 (en : Int))
    simp at hB15
    have hS9 := below_set (below_set (below_set (below_set hS0 H14 0 (.string FN) HB14.out.2) H14 1 (.string DM) HB14.out.2) H14 2 (.slice gx nx gc) HB14.out.2) H14 3 (.int .i64 (en : Int)) HB14.out.2
    obtain ⟨WZ,hWZ⟩ : ∃ q,(((WQ.setCell ⟨H14,0,none⟩ (.string FN)).setCell ⟨H14,1,none⟩ (.string DM)).setCell ⟨H14,2,none⟩ (.slice gx nx gc)).setCell ⟨H14,3,none⟩ (.int .i64 (en : Int)) = q := ⟨_,rfl⟩
    rw [hWZ] at hB15 hS9 ⊢
    clear hWZ x0 x1 x2 x3 f0 f1 f2 f3 l14 hS0 HB14
    first | refine .inl ⟨hS9, ?_⟩ | refine ⟨hS9, ?_⟩
    refine wpAnyH_done (by kernel_rfl) ?_ _
    have HZ := Lib.hid (And.intro hB15 hS9)
    clear hB15 hS9
    go_upto_region 11 with (fail)
    have hS0 : Below wr.heap.size wr WZ.drew ∧ Below WZ.heap.size WZ WZ.drew := ⟨HZ.out.2.drew,(Below.refl _ _).drew⟩
    refine wp_region_held (S := fun w' => Below wr.heap.size wr w' ∧ Below WZ.heap.size WZ w') mixed ?_
    change wpAnyH _ _ _ _ _ _ _ _ WZ.drew
    obtain ⟨WY,hWY⟩ : ∃ q,WZ.drew = q := ⟨_,rfl⟩
    rw [hWY] at hS0 ⊢
    clear hWY
    refine tkQ 0 (.slice (some ⟨g1,o1,none⟩) nl c1) rfl hS0 ?_
    try go_simp
    refine tkQ 1 (.int .i64 (j : Int)) rfl hS0 ?_
    try go_simp
    refine tkQ 2 (.pointer (some ⟨g1,o1 + j,none⟩)) rfl hS0 ?_
    try go_simp
    refine tkH 3 (.string NM) rfl hS0 (fun w' hS => ?_) ?_
    ·have q0 := (hS.1.cell (p := ⟨g1,o1 + j,none⟩) HC.out.2.2.1).trans HC.out.1;have ql := Nat.lt_of_lt_of_le HC.out.2.2.1 hS.1.size;go_simp
    try go_simp
    refine tkQ 4 (.slice (some ⟨g2,o2,none⟩) nl c2) rfl hS0 ?_
    try go_simp
    refine tkQ 5 (.int .i64 (j : Int)) rfl hS0 ?_
    try go_simp
    refine tkQ 6 (.pointer (some ⟨g2,o2 + j,none⟩)) rfl hS0 ?_
    try go_simp
    refine tkH 7 (.string NM) rfl hS0 (fun w' hS => ?_) ?_
    ·have q0 := (hS.1.cell (p := ⟨g2,o2 + j,none⟩) HC.out.2.2.2.1).trans HC.out.2.1;have ql := Nat.lt_of_lt_of_le HC.out.2.2.2.1 hS.1.size;go_simp
    try go_simp
    refine tkQ 8 (.bool false) rfl hS0 ?_
    try go_simp
    refine tkQ 9 (.bool false) rfl hS0 ?_
    try go_simp
    refine tkQ 10 (.int .i64 0) rfl hS0 ?_
    try go_simp
    refine tkQ 11 (.bool false) rfl hS0 ?_
    try go_simp
    refine tkQ 12 (.bool false) rfl hS0 ?_
    try go_simp
    refine tkQ 13 (.bool false) rfl hS0 ?_
    try go_simp
    refine tkQ 14 (.int .i64 0) rfl hS0 ?_
    try go_simp
    refine tkQ 15 (.bool false) rfl hS0 ?_
    try go_simp
    refine tkQ 16 (.bool false) rfl hS0 ?_
    try go_simp
    refine tkQ 17 (.bool false) rfl hS0 ?_
    try go_simp
    refine tkQ 18 (.string DM) rfl hS0 ?_
    try go_simp
    refine tkQ 19 (.pointer (some ⟨H14,1,none⟩)) rfl hS0 ?_
    try go_simp
    refine tkH 20 (.string DM) rfl hS0 (fun w' hS => ?_) ?_
    ·have q0 := (HZ.out.1.below hS.2).cell 1;simp at q0;go_simp
    try go_simp
    refine tkQ 21 (.bool false) rfl hS0 ?_
    try go_simp
    refine tkQ 22 (.bool false) rfl hS0 ?_
    try go_simp
    refine tkQ 23 (.bool false) rfl hS0 ?_
    try go_simp
    refine tkQ 24 (.int .i64 (DM.size : Int)) rfl hS0 ?_
    try go_simp
    refine tkQ 25 (.pointer (some ⟨H14,1,none⟩)) rfl hS0 ?_
    try go_simp
    refine tkH 26 (.string DM) rfl hS0 (fun w' hS => ?_) ?_
    ·have q0 := (HZ.out.1.below hS.2).cell 1;simp at q0;go_simp
    try go_simp
    refine tkQ 27 (.int .i64 (DM.size : Int)) rfl hS0 ?_
    try go_simp
    refine tkQ 28 (.bool false) rfl hS0 ?_
    try go_simp
    refine tkQ 29 (.bool false) rfl hS0 ?_
    try go_simp
    refine wpAnyH_done (by kernel_rfl) ?_ _
    have HY := Lib.hid hS0
    clear hS0
    have hm1 := HM.out.1
    go_wp2
    go_roundw
    case rel => exact ⟨j + 1,by omega,by go_num,HBJ.out.trans (HY.out.1.mono HBJ.out.size)⟩
    case measure => simp [intOf];omega
   ·skip
    unfold wpOp
    go_simp
    have hB14 := Blk.new WQ #[.string ⟨#[]⟩, .string ⟨#[]⟩, .slice none 0 0, .int .i64 0] 138
    have hge := hS0.size
    have hS3 := hS0.alloc hS0.size (.cells #[.string ⟨#[]⟩, .string ⟨#[]⟩, .slice none 0 0, .int .i64 0] 138)
    obtain ⟨H14,hH14⟩ : ∃ q,WQ.heap.size = q := ⟨_,rfl⟩
    rw [hH14] at hB14 hge
    obtain ⟨WR,hWR⟩ : ∃ q,WQ.alloc (.cells #[.string ⟨#[]⟩, .string ⟨#[]⟩, .slice none 0 0, .int .i64 0] 138) = q := ⟨_,rfl⟩
    rw [hWR] at hB14 hS3 ⊢
    try rw [hH14]
    clear hWR hH14 hS0
    first | refine .inl ⟨hS3, ?_⟩ | refine ⟨hS3, ?_⟩
    have hS0 := hS3
    clear hS3
    clear WQ
    obtain ⟨WQ,rfl⟩ : ∃ q,q = WR := ⟨_,rfl⟩
    have HB14 := Lib.hid (And.intro hB14 hge)
    clear hB14 hge
    refine alH 9 ?_
    unfold wpOp
    go_simp
    refine .inl ?_
    go_at_call 68
    refine (HKF6.out WQ hS0).mono ?_
    rintro e w' ⟨rfl,hw⟩
    obtain rfl := hw.symm
    refine ⟨hS0, ?_⟩
    try go_simp
    refine tkQ 10 (.pointer (some ⟨gF,oF + i * 4,none⟩)) rfl hS0 ?_
    try go_simp
    refine tkH 11 (.agg #[.string FN, .string DM, .slice gx nx gc, .int .i64 (en : Int)]) rfl hS0 (fun w' hS => ?_) ?_
    ·have q0 := (hS.cell (p := ⟨gF,oF + i * 4,none⟩) HC.out.2.2.2.2.2.2.2.2).trans HC.out.2.2.2.2.1;have q1 := (hS.cell (p := ⟨gF,oF + i * 4 + 1,none⟩) HC.out.2.2.2.2.2.2.2.2).trans HC.out.2.2.2.2.2.1;have q2 := (hS.cell (p := ⟨gF,oF + i * 4 + 2,none⟩) HC.out.2.2.2.2.2.2.2.2).trans HC.out.2.2.2.2.2.2.1;have q3 := (hS.cell (p := ⟨gF,oF + i * 4 + 3,none⟩) HC.out.2.2.2.2.2.2.2.2).trans HC.out.2.2.2.2.2.2.2.1;have ql := Nat.lt_of_lt_of_le HC.out.2.2.2.2.2.2.2.2 hS.size;go_simp
    try go_simp
    clear hw
    refine alH 13 ?_
    have x0 := HB14.out.1.cell 0
    have x1 := HB14.out.1.cell 1
    have x2 := HB14.out.1.cell 2
    have x3 := HB14.out.1.cell 3
    have f0 := HB14.out.1.frozen 0
    have f1 := HB14.out.1.frozen 1
    have f2 := HB14.out.1.frozen 2
    have f3 := HB14.out.1.frozen 3
    have l14 := HB14.out.1.lt
    simp at x0 x1 x2 x3
    unfold wpOp
    go_simp
    have hB15 := (((HB14.out.1.set 0 (.string FN)).set 1 (.string DM)).set 2 (.slice gx nx gc)).set 3 (.int .i64 (en : Int))
    simp at hB15
    have hS9 := below_set (below_set (below_set (below_set hS0 H14 0 (.string FN) HB14.out.2) H14 1 (.string DM) HB14.out.2) H14 2 (.slice gx nx gc) HB14.out.2) H14 3 (.int .i64 (en : Int)) HB14.out.2
    obtain ⟨WZ,hWZ⟩ : ∃ q,(((WQ.setCell ⟨H14,0,none⟩ (.string FN)).setCell ⟨H14,1,none⟩ (.string DM)).setCell ⟨H14,2,none⟩ (.slice gx nx gc)).setCell ⟨H14,3,none⟩ (.int .i64 (en : Int)) = q := ⟨_,rfl⟩
    rw [hWZ] at hB15 hS9 ⊢
    clear hWZ x0 x1 x2 x3 f0 f1 f2 f3 l14 hS0 HB14
    first | refine .inl ⟨hS9, ?_⟩ | refine ⟨hS9, ?_⟩
    refine wpAnyH_done (by kernel_rfl) ?_ _
    have HZ := Lib.hid (And.intro hB15 hS9)
    clear hB15 hS9
    go_upto_region 11 with (fail)
    have hS0 : Below wr.heap.size wr WZ.drew ∧ Below WZ.heap.size WZ WZ.drew := ⟨HZ.out.2.drew,(Below.refl _ _).drew⟩
    refine wp_region_held (S := fun w' => Below wr.heap.size wr w' ∧ Below WZ.heap.size WZ w') mixed ?_
    change wpAnyH _ _ _ _ _ _ _ _ WZ.drew
    obtain ⟨WY,hWY⟩ : ∃ q,WZ.drew = q := ⟨_,rfl⟩
    rw [hWY] at hS0 ⊢
    clear hWY
    refine tkQ 0 (.slice (some ⟨g1,o1,none⟩) nl c1) rfl hS0 ?_
    try go_simp
    refine tkQ 1 (.int .i64 (j : Int)) rfl hS0 ?_
    try go_simp
    refine tkQ 2 (.pointer (some ⟨g1,o1 + j,none⟩)) rfl hS0 ?_
    try go_simp
    refine tkH 3 (.string NM) rfl hS0 (fun w' hS => ?_) ?_
    ·have q0 := (hS.1.cell (p := ⟨g1,o1 + j,none⟩) HC.out.2.2.1).trans HC.out.1;have ql := Nat.lt_of_lt_of_le HC.out.2.2.1 hS.1.size;go_simp
    try go_simp
    refine tkQ 4 (.slice (some ⟨g2,o2,none⟩) nl c2) rfl hS0 ?_
    try go_simp
    refine tkQ 5 (.int .i64 (j : Int)) rfl hS0 ?_
    try go_simp
    refine tkQ 6 (.pointer (some ⟨g2,o2 + j,none⟩)) rfl hS0 ?_
    try go_simp
    refine tkH 7 (.string NM) rfl hS0 (fun w' hS => ?_) ?_
    ·have q0 := (hS.1.cell (p := ⟨g2,o2 + j,none⟩) HC.out.2.2.2.1).trans HC.out.2.1;have ql := Nat.lt_of_lt_of_le HC.out.2.2.2.1 hS.1.size;go_simp
    try go_simp
    refine tkQ 8 (.bool false) rfl hS0 ?_
    try go_simp
    refine tkQ 9 (.bool false) rfl hS0 ?_
    try go_simp
    refine tkQ 10 (.int .i64 0) rfl hS0 ?_
    try go_simp
    refine tkQ 11 (.bool false) rfl hS0 ?_
    try go_simp
    refine tkQ 12 (.bool false) rfl hS0 ?_
    try go_simp
    refine tkQ 13 (.bool false) rfl hS0 ?_
    try go_simp
    refine tkQ 14 (.int .i64 0) rfl hS0 ?_
    try go_simp
    refine tkQ 15 (.bool false) rfl hS0 ?_
    try go_simp
    refine tkQ 16 (.bool false) rfl hS0 ?_
    try go_simp
    refine tkQ 17 (.bool false) rfl hS0 ?_
    try go_simp
    refine tkQ 18 (.string DM) rfl hS0 ?_
    try go_simp
    refine tkQ 19 (.pointer (some ⟨H14,1,none⟩)) rfl hS0 ?_
    try go_simp
    refine tkH 20 (.string DM) rfl hS0 (fun w' hS => ?_) ?_
    ·have q0 := (HZ.out.1.below hS.2).cell 1;simp at q0;go_simp
    try go_simp
    refine tkQ 21 (.bool false) rfl hS0 ?_
    try go_simp
    refine tkQ 22 (.bool false) rfl hS0 ?_
    try go_simp
    refine tkQ 23 (.bool false) rfl hS0 ?_
    try go_simp
    refine tkQ 24 (.int .i64 (DM.size : Int)) rfl hS0 ?_
    try go_simp
    refine tkQ 25 (.pointer (some ⟨H14,1,none⟩)) rfl hS0 ?_
    try go_simp
    refine tkH 26 (.string DM) rfl hS0 (fun w' hS => ?_) ?_
    ·have q0 := (HZ.out.1.below hS.2).cell 1;simp at q0;go_simp
    try go_simp
    refine tkQ 27 (.int .i64 (DM.size : Int)) rfl hS0 ?_
    try go_simp
    refine tkQ 28 (.bool false) rfl hS0 ?_
    try go_simp
    refine tkQ 29 (.bool false) rfl hS0 ?_
    try go_simp
    refine wpAnyH_done (by kernel_rfl) ?_ _
    have HY := Lib.hid hS0
    clear hS0
    have hm1 := HM.out.1
    go_wp2
    go_roundw
    case rel => exact ⟨j + 1,by omega,by go_num,HBJ.out.trans (HY.out.1.mono HBJ.out.size)⟩
    case measure => simp [intOf];omega
  ·obtain rfl : j = nl := by omega
   have HBJ := Lib.hid hbj
   clear hbj
   go_wp2
   go_ret
   exact ⟨rfl,H3.out.2.2.trans (HBJ.out.mono H3.out.2.2.size)⟩
open Go.RowKit Go.Maps
set_option maxHeartbeats 1000000 in
theorem format_bad (X : List Nat) (D : Nat) (d : DS) (f : Nat) (w : World) (h : Dsk w X D d) (h2 : f ≤ 256) (h3 : f < 1 ∨ d.L.length < f + 8) :
  Calls Tryz.prog 23 #[.pointer (some ⟨D,0,none⟩), .int .i64 f] w fun e w' => e = .returned (.int .i64 1) ∧ w' = w := by
 have hsm : d.L.length ≤ 4096 := h.good.small
 have KZ := size_any X D d w h
 have KA := fun w1 => dataAt_any f w1 (by omega)
 obtain ⟨n,hn⟩ : ∃ q,d.L.length = q := ⟨_,rfl⟩
 rw [hn] at h3 hsm KZ
 clear h hn
 have f2 : ¬ ((256 : Int) < (f : Int)) := by omega
 by_cases h1 : f < 1
 ·have f1 : (f : Int) < 1 := by omega
  clear h3 hsm KZ KA
  go_enter Tryz.func23,Tryz.ntmps23
  go_wp2
  go_ret
  exact ⟨rfl,rfl⟩
 ·have f1 : ¬ ((f : Int) < 1) := by omega
  have f3 : (n : Int) < (f : Int) + 7 + 1 := by omega
  clear h3
  go_enter Tryz.func23,Tryz.ntmps23
  go_wp2_with (first
   | (go_at_call 53;refine KZ.mono ?_;rintro e w1 ⟨rfl,hw⟩;obtain rfl := hw.symm)
   | (go_at_call 54;refine (KA _).mono ?_;rintro e w1 ⟨rfl,hw⟩;obtain rfl := hw.symm))
  go_ret
  exact ⟨rfl,rfl⟩
theorem and_small (a : Int) (k : Nat) (hk : k ≤ 63) : ∃ n : Nat,n ≤ k ∧ bits .and .i64 a (k : Int) = (n : Int) := by
 refine ⟨(BitVec.ofInt 64 a &&& BitVec.ofInt 64 (k : Int)).toNat, ?_, ?_⟩
 ·rw [BitVec.toNat_and]
  refine Nat.le_trans Nat.and_le_right ?_
  rw [BitVec.toNat_ofInt]
  omega
 ·have h : (BitVec.ofInt 64 a &&& BitVec.ofInt 64 (k : Int)).toNat ≤ k := by
   rw [BitVec.toNat_and]
   refine Nat.le_trans Nat.and_le_right ?_
   rw [BitVec.toNat_ofInt]
   omega
  show IntKind.i64.wrap ((BitVec.ofInt 64 a &&& BitVec.ofInt 64 (k : Int)).toNat : Int) = _
  exact wrI (by omega) (by omega)
theorem mount_zero (n : Nat) : mountM ⟨List.replicate n zeroS,[],none,false⟩ = (2,⟨List.replicate n zeroS,[],none,false⟩,none) := by
 have h : headOk ⟨List.replicate n zeroS,[],none,false⟩ = false := by
  have hf : filesH (secAt (DS.vis ⟨List.replicate n zeroS,[],none,false⟩) 0) = 0 := by
   show filesH (secAt (List.replicate n zeroS) 0) = 0
   unfold secAt
   rw [List.getElem?_replicate]
   split <;> rfl
  unfold headOk
  rw [hf]
  rfl
 unfold mountM
 rw [if_pos h]
open Go.RowKit Go.Maps
theorem mount_st {X : List Nat} {D : Nat} {m : StoM} {F : List PF} {T : List Bool} {w : World} (h : Inv m) (ho : Od m) (R : Rel m F T) (hd : Dsk w X D m.ds) (hT : TB w) (hw : 0 < w.heap.size) (hX : 0 ∉ X) :
  Calls Tryz.prog 24 #[.pointer (some ⟨D,0,none⟩)] w fun e w' => ∃ X' S Lg M m',e = .returned (.tuple #[.pointer (some ⟨S,0,none⟩), .int .i64 0]) ∧ Sto w' X' S D Lg M m' ∧ (Inv m' ∧ Od m' ∧ Rel m' F T ∧ m'.most = m.most ∧ m'.T.length = m.T.length) ∧ Mv X X' w w' ∧ w.heap.size ≤ S ∧ w.heap.size ≤ M ∧ w.heap.size ≤ Lg := by
 obtain ⟨F',h1,h2,h3,h4⟩ := mount_rel h ho R
 have hfh : filesH (secAt m.ds.vis 0) = m.most := by rw [ho.head];exact files_head h.b.mo.2
 have hll := h.b.ll
 refine (mount_any X D m.ds w hd h.on (by omega) (by rw [h.syn];simp) hT hw hX).mono ?_
 rintro e w' ⟨X',k1,k2,k3⟩
 rw [h1] at k3
 dsimp only at k3
 obtain ⟨S,Lg,M,rfl,k4,k5,k6,k7⟩ := k3
 rw [hfh] at k4
 exact ⟨X',S,Lg,M,_,rfl,k4,⟨h2,h3,h4,rfl,rfl⟩,k2,k5,k6,k7⟩
theorem two_mount {X X' : List Nat} {S D Lg M : Nat} {m' : StoM} {Y : List Nat} {R : Nat} {F : List PF} {T : List Bool} {most : Nat} {w w' : World} (hr : RSt w Y R F T most) (hs : Sto w' X' S D Lg M m') (hm : Mv X X' w w') (hS : w.heap.size ≤ S) (hM : w.heap.size ≤ M) (hL : w.heap.size ≤ Lg)
  (ha : ∀ y ∈ R :: Y,y ∉ X ∧ y ≠ 0) : Two w' X' S D Lg M m' Y R F T most := by
 have hl := hr.lt
 refine ⟨hs,hr.frm hm.frm (fun y hy => (ha y hy).1),fun y hy => ?_⟩
 have h1 := hl y hy
 refine ⟨by omega,by omega,by omega,fun hx => ?_,(ha y hy).2⟩
 rcases hm.sub y hx with h2 | h2
 ·exact (ha y hy).1 h2
 ·omega
theorem nw_sub {w w' : World} {Y Z : List Nat} (h : Nw w Y w') (hz : ∀ z ∈ Z,z ∈ Y) : Nw w Z w' := ⟨h.below,fun z hh => h.new z (hz z hh)⟩
theorem nw_add {w w' : World} {Y Z : List Nat} (h : Nw w Y w') (hz : ∀ z ∈ Z,w.heap.size ≤ z) : Nw w (Y ++ Z) w' := ⟨h.below,fun z hh => by
 rcases List.mem_append.1 hh with h1 | h1
 ·exact h.new z h1
 ·exact hz z h1⟩
theorem crash_same {m : StoM} (h : Inv m) (keep : List Int) : (⟨(m.ds.fail keep).L,[],none,false⟩ : DS) = m.ds := by
 obtain ⟨⟨L,S,cut,off⟩,F,T,most,up⟩ := m
 have h1 := h.syn
 have h2 := h.cut
 have h3 := h.on
 dsimp only at h1 h2 h3
 subst h1 h2 h3
 rfl
open Go.RowKit Go.Maps
set_option maxRecDepth 100000 in
set_option maxHeartbeats 16000000 in
theorem fileScripts_any (a b : Int) (A : Option Addr) (ac : List ActM) (cap : Nat) (w : World) (hA : Lies w A (acells ac)) (hok : ∀ a ∈ ac,ActOk a) (hl : ac.length ≤ maxLen) (hT : TB w) (hw : 0 < w.heap.size) :
  Calls Tryz.prog 7 #[.int .i64 a, .int .i64 b, .slice A ac.length cap] w fun e w' => e = .returned (.bool true) ∧ Below w.heap.size w w' := by
 have K0 := speaks_any w hT hw
 obtain ⟨n0,hn0,ha⟩ := and_small a 63 (by omega)
 obtain ⟨f,hf15,hb⟩ := and_small b 15 (by omega)
 rw [show ((63 : Nat) : Int) = 63 from rfl] at ha
 rw [show ((15 : Nat) : Int) = 15 from rfl] at hb
 obtain ⟨n,hn⟩ : ∃ n,1 + n0 = n := ⟨_,rfl⟩
 have hn1 : 1 ≤ n := by omega
 have hn64 : n ≤ 64 := by omega
 have KN := fun (w1 : World) => new_any n w1 hn1 (by omega)
 have HTB := Lib.hid (And.intro hT hw)
 have HA := Lib.hid (And.intro hA hok)
 have hlb : ac.length ≤ 9223372036854775807 := by unfold maxLen at hl;omega
 obtain ⟨al,hal⟩ : ∃ q,ac.length = q := ⟨_,rfl⟩
 rw [hal] at hlb ⊢
 have HAL := Lib.hid hal
 have HKN := Lib.hid KN
 have mixed := mixedT
 by_cases hg : 1 ≤ f ∧ f + 8 ≤ n
 ·obtain ⟨g1,g2⟩ := hg
  have KR := fun (w1 : World) => rnew_some n f w1 (by omega) g1 (by omega) g2
  have KF := fun (X : List Nat) (D : Nat) (w1 : World) (hd : Dsk w1 X D ⟨List.replicate n zeroS,[],none,false⟩) => format_ok X D (List.replicate n zeroS) f w1 hd g1 (by omega) (by rw [List.length_replicate];exact g2)
  simp only [List.length_replicate,fmt_fresh] at KF
  have hrel0 : Rel (freshM n f) [] (List.replicate (n - f - 7) false) := ⟨rfl,List.Perm.refl _,fun g hg => by cases hg⟩
  have KM := fun (X : List Nat) (D : Nat) (w1 : World) (hd : Dsk w1 X D ⟨freshL n f,[],none,false⟩) (hT1 : TB w1) (hw1 : 0 < w1.heap.size) (hX : 0 ∉ X) => mount_st (m := freshM n f) (inv_fresh n f g1 (by omega) g2 (by omega)) (od_fresh n f g1 g2 (by omega)) hrel0 hd hT1 hw1 hX
  have hi0 : Inv (refM [] (List.replicate (n - f - 7) false) f) := inv_new n f g1 (by omega) g2 (by omega)
  have hmf : (freshM n f).most = f := rfl
  rw [hmf] at KM
  obtain ⟨T0,hT0⟩ : ∃ q,List.replicate (n - f - 7) false = q := ⟨_,rfl⟩
  rw [hT0] at hi0
  simp only [hT0] at KR KM
  obtain ⟨DZ,hDZ⟩ : ∃ q : DS,⟨List.replicate n zeroS,[],none,false⟩ = q := ⟨_,rfl⟩
  obtain ⟨DF,hDF⟩ : ∃ q : DS,⟨freshL n f,[],none,false⟩ = q := ⟨_,rfl⟩
  simp only [hDZ,hDF] at KF
  simp only [hDF] at KM
  obtain ⟨tl0,htl0⟩ : ∃ q,(freshM n f).T.length = q := ⟨_,rfl⟩
  simp only [htl0] at KM
  have HKF := Lib.hid KF
  have HKM := Lib.hid KM
  have HDZ := Lib.hid hDZ
  have HI0 := Lib.hid hi0
  have wa : IntKind.i64.wrap (1 + (n0 : Int)) = (n : Int) := (wrI (by omega) (by omega)).trans (by omega)
  clear g1 g2 KF KM hDZ hDF hn hn1 hn64 hn0 hf15 hal hA hok hl hT hw KN hrel0 hi0 hmf hT0 htl0
  go_enter Tryz.func7,Tryz.ntmps7
  go_upto_region 14 with (first
   | (go_at_call 10;refine K0.mono ?_;rintro e w1 ⟨rfl,hb1⟩;have KN1 := HKN.out w1;have HB1 := Lib.hid hb1;clear hb1 K0)
   | (go_at_call 26;refine KN1.mono ?_;rintro e w2 ⟨X2,D,rfl,hd2,hm2⟩;have KR2 := KR w2;have H2 := Lib.hid (And.intro (show Dsk w2 X2 D DZ from HDZ.out ▸ hd2) hm2);clear hd2 hm2 KN1)
   | (go_at_call 27;refine KR2.mono ?_;rintro e w3 ⟨R,Y3,rfl,hrs,hb3,hR3,hY3⟩;have KF3 := HKF.out X2 D w3 (H2.out.1.below hb3);have H3 := Lib.hid (And.intro hrs (And.intro hb3 (And.intro hR3 hY3)));clear hrs hb3 hR3 hY3 KR2)
   | (go_at_call 23;refine KF3.mono ?_;rintro e w4 ⟨rfl,X4,hd4,hm4⟩;have ht := (HTB.out.1.below HTB.out.2 HB1.out).mv ((H2.out.2.trans (Mv.of_below X2 H3.out.2.1)).trans hm4) (Nat.lt_of_lt_of_le HTB.out.2 HB1.out.size) (by simp);have KM4 := HKM.out X4 D _ hd4 ht.1 ht.2.1 ht.2.2;have H4 := Lib.hid (And.intro hm4 ht);clear ht hd4 hm4 KF3)
   | (go_at_call 24;refine KM4.mono ?_;rintro e w5 ⟨X5,S,Lg,M,m5,rfl,hst,hinv,hm5,hS,hM,hL⟩;have H5 := Lib.hid (And.intro hst (And.intro hinv (And.intro hm5 (And.intro hS (And.intro hM hL)))));clear hst hinv hm5 hS hM hL KM4))
  have hn4 : Nw w1 X4 w4 := (((Nw.start w1).mv H2.out.2).mv (Mv.of_below X2 H3.out.2.1)).mv H4.out.1
  have hlX2 := H2.out.1.lt
  have hlR := H3.out.1.lt
  have hs12 : w1.heap.size ≤ w2.heap.size := H2.out.2.size
  have hpos1 : 0 < w1.heap.size := Nat.lt_of_lt_of_le HTB.out.2 HB1.out.size
  have hge : ∀ y ∈ R :: Y3,w2.heap.size ≤ y := fun y hy => by
   rcases List.mem_cons.1 hy with rfl | hy
   ·exact H3.out.2.2.1
   ·exact H3.out.2.2.2 y hy
  have hnX2 : ∀ y ∈ R :: Y3,y ∉ X2 := fun y hy hx => by have := hge y hy;have := hlX2 y hx;omega
  have hrs4 : RSt w4 Y3 R [] T0 f := H3.out.1.frm H4.out.1.frm hnX2
  have htwo : Two w5 X5 S D Lg M m5 Y3 R [] T0 f := two_mount hrs4 H5.out.1 H5.out.2.2.1 H5.out.2.2.2.1 H5.out.2.2.2.2.1 H5.out.2.2.2.2.2 (fun y hy => ⟨fun hx => by
   rcases H4.out.1.sub y hx with h1 | h1
   ·exact hnX2 y hy h1
   ·have := hlR y hy;omega,by have := hge y hy;omega⟩)
  have hnw5 : Nw w1 ((S :: M :: X5) ++ (R :: Y3)) w5 := by
   have h5 := hn4.mv H5.out.2.2.1
   have hz := hn4.below.size
   refine nw_add (Y := S :: M :: X5) ⟨h5.below,fun z hz2 => ?_⟩ (fun z hz2 => by have := hge z hz2;omega)
   rcases List.mem_cons.1 hz2 with rfl | hz2
   ·exact Nat.le_trans hz H5.out.2.2.2.1
   ·rcases List.mem_cons.1 hz2 with rfl | hz2
    ·exact Nat.le_trans hz H5.out.2.2.2.2.1
    ·exact h5.new z hz2
  have HW := Lib.hid (And.intro htwo hnw5)
  clear htwo hnw5 hrs4 hnX2 hge hpos1 hs12 hlR hlX2 hn4
  go_wp2
  go_loopw [11,12,13,14,15] (fun s11 _ s13 _ _ wr => ∃ (k : Nat) (X' : List Nat) (S' Lg' M' : Nat) (m' : StoM) (Y' : List Nat) (F : List PF) (T : List Bool),k ≤ al ∧ k ≤ 40 ∧ s13 = .int .i64 k ∧ s11 = .pointer (some ⟨S',0,none⟩) ∧ Two wr X' S' D Lg' M' m' Y' R F T f ∧ (Inv m' ∧ Od m' ∧ Rel m' F T ∧ Inv (refM F T f) ∧ m'.most = f) ∧ Nw w1 ((S' :: M' :: X') ++ (R :: Y')) wr) (fun _ _ s13 _ _ _ => al - (intOf s13).toNat)
  case atStart => exact ⟨0,X5,S,Lg,M,m5,Y3,[],T0,Nat.zero_le _,Nat.zero_le _,rfl,rfl,HW.out.1,⟨H5.out.2.1.1,H5.out.2.1.2.1,H5.out.2.1.2.2.1,HI0.out,H5.out.2.1.2.2.2.1⟩,HW.out.2⟩
  case round =>
   obtain ⟨k,X',S',Lg',M',m',Y',F,T,hk,hk40,rfl,rfl,htw,hin,hnw⟩ := hrel
   obtain ⟨hi,hod,hrl,hir,hmm⟩ := hin
   have k0 : (0 : Int) ≤ (k : Int) := by omega
   have HN := Lib.hid hnw
   by_cases hk1 : k < al
   ·have k1 : (k : Int) < (al : Int) := by omega
    by_cases hk2 : k < 40
    ·have k2 : (k : Int) < 40 := by omega
     have hkc : k < ac.length := by rw [HAL.out];exact hk1
     obtain ⟨r,F',T',hp,hir'⟩ := actS_inv hir ac[k] k
     obtain ⟨hi',hmm',htl'⟩ := actO_inv hi ac[k] k
     obtain ⟨hr1,hrl'⟩ := rel_act hi htw.sto.dsk.good hir hmm hrl ac[k] k hp
     have hod' := actO_od hi hod ac[k] k
     have KD := do_any X' S' D Lg' M' m' Y' R F F' T T' f r k ac[k] wr htw hi.rdy hir (HA.out.2 _ (List.getElem_mem hkc)) (by omega) hp
     obtain ⟨g,o,rfl,hgl,hcs⟩ := (HA.out.1.below (Nat.le_refl _) (HB1.out.trans (hnw.below.mono HB1.out.size))) (by rw [acells_length];omega)
     obtain ⟨d0,d1,d2,d3,d4⟩ := acells_at ac k hkc
     have c0 := hcs _ _ d0
     have c1 := hcs _ _ d1
     have c2 := hcs _ _ d2
     have c3 := hcs _ _ d3
     have c4 := hcs _ _ d4
     rw [← Nat.add_assoc] at c1 c2 c3 c4
     unfold DoP at KD
     obtain ⟨O,hO⟩ : ∃ q,actO m' ac[k] k = q := ⟨_,rfl⟩
     rw [hO] at KD hi' hmm' htl' hr1 hrl' hod'
     rw [hr1] at KD
     have HI := Lib.hid (And.intro hi' (And.intro hod' (And.intro hrl' (And.intro hir' (hmm'.trans hmm)))))
     have KC := crash_any X' D m'.ds none 0 [] wr htw.sto.dsk (fun h => absurd h (by simp [icells])) (fun a h => by cases h) (by decide)
     rw [crash_same hi] at KC
     obtain ⟨⟨wh,nm,dsx,nn,bb⟩,haq⟩ : ∃ q,ac[k] = q := ⟨_,rfl⟩
     rw [haq] at c0 c1 c2 c3 c4 KD
     dsimp only at c0 c1 c2 c3 c4
     have hrb := rem_bounds wh 8 (by omega)
     have hwb := what_bounds wh 8 (by omega)
     unfold whatN at hwb
     obtain ⟨qw,hqw⟩ : ∃ q,(wh.tmod 8 + 8).tmod 8 = q := ⟨_,rfl⟩
     rw [hqw] at hwb
     change Calls Tryz.prog 29 #[.pointer (some ⟨S',0,none⟩), .pointer (some ⟨R,0,none⟩), .agg #[.int .i64 wh, .string (mk nm), .string (mk dsx), .int .i64 nn, .int .u8 (bb : Int)], .int .i64 (k : Int)] wr _ at KD
     obtain ⟨NM,hNM⟩ : ∃ q,mk nm = q := ⟨_,rfl⟩
     obtain ⟨DM,hDM⟩ : ∃ q,mk dsx = q := ⟨_,rfl⟩
     rw [hNM] at c1 KD
     rw [hDM] at c2 KD
     have KSM := fun (m2 : StoM) (X2 : List Nat) (S2 Lg2 M2 : Nat) (Y2 : List Nat) (F2 : List PF) (T2 : List Bool) (w2 : World) (h2 : Two w2 X2 S2 D Lg2 M2 m2 Y2 R F2 T2 f) (i2 : Inv m2) (e2 : m2.most = f) (r2 : Rel m2 F2 T2) => same_any X2 S2 D Lg2 M2 m2 Y2 R F2 T2 f w2 h2 i2 e2 r2
     have HKS := Lib.hid KSM
     have HTW := Lib.hid (And.intro htw (And.intro hi (And.intro hod (And.intro hrl (And.intro hir hmm)))))
     clear htw hi hod hrl hir hmm hnw hp hir' hi' hmm' htl' hr1 hrl' hod' hcs d0 d1 d2 d3 d4 haq hO hNM hDM hkc KSM
     by_cases h7 : qw = 7
     ·subst h7
      clear KD
      have h0X : 0 ∉ X' := fun hx => by
       have h1 := HN.out.new 0 (by simp [hx])
       have h2 := Nat.lt_of_lt_of_le HTB.out.2 HB1.out.size
       omega
      have H0X := Lib.hid h0X
      clear h0X c1 c2 c3 c4
      have HCL := Lib.hid (And.intro c0 hgl)
      go_wp2_with (first
       | (go_at_call 28;refine KC.mono ?_;rintro e w6 ⟨rfl,hd6,hf6⟩;have ht6 := (show TB wr from HTW.out.1.sto.tb).mv (Mv.of_frm hf6) HTW.out.1.sto.pos H0X.out;have KM6 := mount_st HTW.out.2.1 HTW.out.2.2.1 HTW.out.2.2.2.1 hd6 ht6.1 ht6.2.1 ht6.2.2;have H6 := Lib.hid (And.intro hf6 (HTW.out.1.rst.frm hf6 (fun y hy => (HTW.out.1.ap y hy).2.2.2.1)));clear hd6 hf6 ht6 KC)
       | (go_at_call 24;refine KM6.mono ?_;rintro e w7 ⟨X7,S7,Lg7,M7,m7,rfl,hst7,hin7,hm7,hS7,hM7,hL7⟩;have htw7 := two_mount H6.out.2 hst7 hm7 hS7 hM7 hL7 (fun y hy => ⟨(HTW.out.1.ap y hy).2.2.2.1,(HTW.out.1.ap y hy).2.2.2.2⟩);have KS7 := HKS.out _ _ _ _ _ _ _ _ w7 htw7 hin7.1 (hin7.2.2.2.1.trans HTW.out.2.2.2.2.2) hin7.2.2.1;have H7 := Lib.hid (And.intro htw7 (And.intro hin7 (And.intro hm7 (And.intro hS7 hM7))));clear htw7 hst7 hin7 hm7 hS7 hM7 hL7 KM6)
       | (go_at_call 30;refine KS7.mono ?_;rintro e w8 ⟨rfl,hb8⟩;have H8 := Lib.hid hb8;clear hb8 KS7))
      have hn6 := (nw_sub (Z := X') HN.out (fun z hz => by simp [hz])).mv (Mv.of_frm H6.out.1)
      have hn7 := hn6.mv H7.out.2.2.1
      have hz6 := hn6.below.size
      have hnn : Nw w1 ((S7 :: M7 :: X7) ++ (R :: Y')) w7 := nw_add (Y := S7 :: M7 :: X7) ⟨hn7.below,fun z hz => by
       rcases List.mem_cons.1 hz with rfl | hz
       ·exact Nat.le_trans hz6 H7.out.2.2.2.1
       ·rcases List.mem_cons.1 hz with rfl | hz
        ·exact Nat.le_trans hz6 H7.out.2.2.2.2
        ·exact hn7.new z hz⟩ (fun z hz => HN.out.new z (List.mem_append_right _ hz))
      have H9 := Lib.hid (hnn.step H8.out)
      clear hn6 hn7 hz6 hnn
      go_roundw
      case rel => exact ⟨k + 1,X7,S7,Lg7,M7,m7,Y',F,T,by omega,by omega,by go_num,rfl,H7.out.1.below H8.out,⟨H7.out.2.1.1,H7.out.2.1.2.1,H7.out.2.1.2.2.1,HTW.out.2.2.2.2.1,H7.out.2.1.2.2.2.1.trans HTW.out.2.2.2.2.2⟩,H9.out⟩
      case measure => simp [intOf];omega
     ·clear KC
      go_wp2_with (first
       | (go_at_call 29;refine KD.mono ?_;rintro e w6 ⟨rfl,X6,Y6,htw6,hm6⟩;have KS6 := HKS.out _ _ _ _ _ _ _ _ w6 htw6 HI.out.1 HI.out.2.2.2.2 HI.out.2.2.1;have H6 := Lib.hid (And.intro htw6 (HN.out.mv hm6));clear htw6 hm6 KD)
       | (go_at_call 30;refine KS6.mono ?_;rintro e w7 ⟨rfl,hb7⟩;have H7 := Lib.hid (And.intro (H6.out.1.below hb7) (H6.out.2.step hb7));clear hb7 KS6))
      go_roundw
      case rel => exact ⟨k + 1,X6,S',Lg',M',_,Y6,_,_,by omega,by omega,by go_num,rfl,H7.out.1,⟨HI.out.1,HI.out.2.1,HI.out.2.2.1,HI.out.2.2.2.1,HI.out.2.2.2.2⟩,H7.out.2⟩
      case measure => simp [intOf];omega
    ·have k2 : ¬ ((k : Int) < 40) := by omega
     clear htw hi hod hrl hir hmm hnw
     go_wp2
     go_ret
     exact ⟨rfl,HB1.out.trans (HN.out.below.mono HB1.out.size)⟩
   ·have k1 : ¬ ((k : Int) < (al : Int)) := by omega
    clear htw hi hod hrl hir hmm hnw
    go_wp2
    go_ret
    exact ⟨rfl,HB1.out.trans (HN.out.below.mono HB1.out.size)⟩
 ·have KR := fun (w1 : World) => rnew_none n f w1 (by omega) (by omega)
  have KF := fun (X : List Nat) (D : Nat) (w1 : World) (hd : Dsk w1 X D ⟨List.replicate n zeroS,[],none,false⟩) => format_bad X D ⟨List.replicate n zeroS,[],none,false⟩ f w1 hd (by omega) (by rw [List.length_replicate];omega)
  have KM := fun (X : List Nat) (D : Nat) (w1 : World) (hd : Dsk w1 X D ⟨List.replicate n zeroS,[],none,false⟩) (hT1 : TB w1) (hw1 : 0 < w1.heap.size) (hX : 0 ∉ X) => mount_any X D ⟨List.replicate n zeroS,[],none,false⟩ w1 hd rfl (by rw [List.length_replicate];omega) (by simp) hT1 hw1 hX
  simp only [mount_zero] at KM
  unfold MountP at KM
  dsimp only at KM
  obtain ⟨DZ,hDZ⟩ : ∃ q : DS,⟨List.replicate n zeroS,[],none,false⟩ = q := ⟨_,rfl⟩
  simp only [hDZ] at KF KM
  have HKF := Lib.hid KF
  have HKM := Lib.hid KM
  have HDZ := Lib.hid hDZ
  have wa : IntKind.i64.wrap (1 + (n0 : Int)) = (n : Int) := (wrI (by omega) (by omega)).trans (by omega)
  clear hg KF KM hDZ hn hn1 hn64 hn0 hf15 hal hA hok hl hT hw KN
  go_enter Tryz.func7,Tryz.ntmps7
  go_wp2_with (first
   | (go_at_call 10;refine K0.mono ?_;rintro e w1 ⟨rfl,hb1⟩;have KN1 := HKN.out w1;have HB1 := Lib.hid hb1;clear hb1 K0)
   | (go_at_call 26;refine KN1.mono ?_;rintro e w2 ⟨X2,D,rfl,hd2,hm2⟩;have KR2 := KR w2;have KF2 := HKF.out X2 D w2 (HDZ.out ▸ hd2);have H2 := Lib.hid (And.intro (show Dsk w2 X2 D DZ from HDZ.out ▸ hd2) hm2);clear hd2 hm2 KN1)
   | (go_at_call 27;refine KR2.mono ?_;rintro e w3 ⟨rfl,hw3⟩;obtain rfl := hw3.symm;clear KR2)
   | (go_at_call 23;refine KF2.mono ?_;rintro e w4 ⟨rfl,hw4⟩;obtain rfl := hw4.symm;have ht := (HTB.out.1.below HTB.out.2 HB1.out).mv H2.out.2 (Nat.lt_of_lt_of_le HTB.out.2 HB1.out.size) (by simp);have KM4 := HKM.out X2 D _ H2.out.1 ht.1 ht.2.1 ht.2.2;clear ht KF2)
   | (go_at_call 24;refine KM4.mono ?_;rintro e w5 ⟨X5,hd5,hm5,rfl⟩;have H5 := Lib.hid hm5;clear hd5 hm5 KM4))
  go_ret
  have hn := ((Nw.start _).mv H2.out.2).mv H5.out
  exact ⟨rfl,HB1.out.trans (hn.below.mono HB1.out.size)⟩
open Go.ChangeShapes Go.WideShapes Go.ChangeAt Go.RowKit
theorem own : ownKnob Tryz.prog.godebug = none := by kernel_rfl
theorem laidOut : laidOutB Tryz.prog = true := by kernel_rfl
theorem tb_of {W : World} {laid : List (String × DataW Unit)} (hlist : laid = Rows.fileNamesRow.laid) (hmet : laidMetH Tryz.prog laid W) : TB W := by
 subst hlist
 rw [Go.MakeChecks.laidMetH_plain _ _ _ (by kernel_rfl)] at hmet
 rw [show Rows.fileNamesRow.laid = [("stemma/crc.table", (Lib.tabData .u32 tblL : DataW Unit))] by kernel_rfl] at hmet
 have htab : Lib.TabIs Tryz.prog W "stemma/crc.table" .u32 tblL :=
  Lib.tabIs_of_head (g := 0) (t := 186) (e := 153) (n := 16) (by kernel_rfl) (by kernel_rfl) (by kernel_rfl) (by kernel_rfl) (by kernel_rfl) (by kernel_rfl) hmet
 intro k hk
 exact htab.cell (by kernel_rfl) k hk
theorem tb_pos {W : World} (h : TB W) : 0 < W.heap.size := by
 have := h 0 (by decide)
 rcases Nat.eq_zero_or_pos W.heap.size with h0 | h0
 ·rw [World.cell?,Array.getElem?_eq_none (by simp [h0])] at this;cases this
 ·exact h0
noncomputable def laidW (os : Os) : World := World.doorLaid Tryz.prog 400 os
theorem laid_met (os : Os) (args : Array Value) : laidMet Tryz.prog Rows.fileNamesRow.laid ((laidW os).forCall (fun _ _ => 0) ⟨#[],args,[]⟩).memory :=
 laidMet_of_run' 8 (by kernel_rfl) (by kernel_rfl)
open Go.ChangeShapes Go.WideShapes Go.ChangeAt Go.RowKit
theorem cells26 : Tryz.prog.cellsOf 26 = 5 := by kernel_rfl
theorem cells9 : Tryz.prog.cellsOf 9 = 1 := by kernel_rfl
theorem cells3 : Tryz.prog.cellsOf 3 = 1 := by kernel_rfl
theorem cells5 : Tryz.prog.cellsOf 5 = 1 := by kernel_rfl
theorem addr_block {W : World} {b : Addr} {i : Nat} {v : Value} (g : W.cell? (b.add i) = some v) (hi : i = 0) : ∃ bb off,b = ⟨bb,off,none⟩ ∧ bb < W.heap.size := by
 subst hi
 obtain ⟨bb,off,spot⟩ := b
 have hspot : spot = none := by simpa [Addr.add] using World.cell?_spot g
 subst hspot
 refine ⟨bb,off,rfl, ?_⟩
 rcases Nat.lt_or_ge bb W.heap.size with h | h
 ·exact h
 ·simp [World.cell?,Addr.add,Array.getElem?_eq_none h] at g
instance : Inhabited ActM := ⟨⟨0,[],[],0,0⟩⟩
theorem len_five {α : Type} {l : List α} (h : l.length = 5) : ∃ a b c d e,l = [a,b,c,d,e] := by
 match l,h with
 | [a,b,c,d,e],_ => exact ⟨a,b,c,d,e,rfl⟩
theorem act_cells {H : Type} {enc : TypeId × Value → H} {W : World} {cs : List Value} {fuel : Nat} {sp : Nat → Bool} {held : Bool} {x : DataW H × List MemPlace} (h : DataW.trod enc Tryz.prog W 0 sp held fuel 26 cs = some x) (hl2 : cs.length = 5) :
  ∃ a : ActM,cs = actV a ∧ ActOk a := by
 obtain ⟨xs,k,_,hD,_,hxl,hel⟩ := DataW.trod_struct Tryz.underlying26 h
 have t0 := hel 0 _ rfl
 have t1 := hel 1 _ rfl
 have t2 := hel 2 _ rfl
 have t3 := hel 3 _ rfl
 have t4 := hel 4 _ rfl
 obtain ⟨c0,c1,c2,c3,c4,rfl⟩ := len_five hl2
 obtain ⟨y0,y1,y2,y3,y4,rfl⟩ := len_five (show xs.length = 5 from hxl)
 simp [cells9,cells3,cells5] at t0 t1 t2 t3 t4
 obtain ⟨n0,e0,rfl,w0⟩ := DataW.trod_int Tryz.underlying3 t0
 obtain ⟨s1,e1,rfl,w1⟩ := DataW.trod_string Tryz.underlying9 t1
 obtain ⟨s2,e2,rfl,w2⟩ := DataW.trod_string Tryz.underlying9 t2
 obtain ⟨n3,e3,rfl,_⟩ := DataW.trod_int Tryz.underlying3 t3
 obtain ⟨n4,e4,rfl,w4⟩ := DataW.trod_int Tryz.underlying5 t4
 simp only [List.cons.injEq,and_true] at e0 e1 e2 e3 e4
 subst e0 e1 e2 e3 e4
 simp [Lit.wf] at w0 w4
 have q1 : IntKind.i64.min = -9223372036854775808 := by decide
 have q2 : IntKind.i64.max = 9223372036854775807 := by decide
 have q3 : IntKind.u8.min = 0 := by decide
 have q4 : IntKind.u8.max = 255 := by decide
 have z1 : s1.data.toList.length = s1.size := by rw [Array.length_toList];rfl
 have z2 : s2.data.toList.length = s2.size := by rw [Array.length_toList];rfl
 refine ⟨⟨n0,s1.data.toList,s2.data.toList,n3,n4.toNat⟩, ?_,⟨by show s1.data.toList.length ≤ _;omega,by show s2.data.toList.length ≤ _;omega,by show _ ≤ n0 ∧ n0 ≤ _;omega⟩⟩
 unfold actV
 rw [mk_list,mk_list,show ((n4.toNat : Nat) : Int) = n4 by omega]
set_option maxRecDepth 100000 in
theorem act_arg {H : Type} {enc : TypeId × Value → H} {W W' : World} {v : Value} {r : Reach} {base : Nat} {fuel : Nat} {sp : Nat → Bool} {held : Bool} {x : DataW H × List MemPlace} (hv : Value.okWide Tryz.prog W' r base 26 v) (h : DataW.trod enc Tryz.prog W 0 sp held fuel 26 v.cells.toList = some x) :
  ∃ a : ActM,v = .agg (actV a).toArray ∧ ActOk a := by
 obtain ⟨cs,rfl,hsz⟩ := okWide_struct Tryz.underlying26 hv
 rw [cells26] at hsz
 obtain ⟨a,ha,hok⟩ := act_cells (cs := cs.toList) h (by rw [Array.length_toList];exact hsz)
 exact ⟨a,by rw [← ha],hok⟩
theorem acts_arg {H : Type} {enc : TypeId × Value → H} {W : World} {a : Option Addr} {len cap fuel : Nat} {sp : Nat → Bool} {held : Bool} {x : DataW H × List MemPlace} (h : DataW.trod enc Tryz.prog W 0 sp held fuel 24 (Value.slice a len cap).cells.toList = some x) :
  ∃ l : List ActM,l.length = len ∧ len ≤ maxLen ∧ Lies W a (acells l) ∧ ∀ u ∈ l,ActOk u := by
 rcases Deep.open_slice Tryz.underlying24 h with ⟨hcs,_⟩ | ⟨b,len',cap',m,n,D,Pl,hcs,_,hl,hm,hmm,rfl,hx⟩
 ·simp [Value.cells] at hcs
  obtain ⟨rfl,rfl,rfl⟩ := hcs
  exact ⟨[],rfl,Nat.zero_le _,fun h => absurd h (by simp [acells]),fun p hp => by cases hp⟩
 ·simp [Value.cells] at hcs
  obtain ⟨rfl,rfl,rfl⟩ := hcs
  have hle : len ≤ m := by rw [hmm];split <;> omega
  have each : ∀ i,i < len → ∃ p : ActM,(∀ k (hk : k < 5), ∀ v,(actV p)[k]? = some v → W.cell? (b.add (i * 5 + k)) = some v) ∧ ActOk p := by
   intro i hi
   obtain ⟨cs',hc,ht⟩ := hx i (by omega)
   rw [cells26] at hc
   obtain ⟨_,hl2,hcell⟩ := World.cells?_some hc
   obtain ⟨p,rfl,hok⟩ := act_cells ht hl2
   refine ⟨p,fun k hk v hv => ?_,hok⟩
   have g := hcell k hk
   rw [Deep.add_add] at g
   rw [g]
   exact hv
  obtain ⟨f,hf⟩ := Deep.choose_lt (α := ActM) (p := fun i p => (∀ k (hk : k < 5), ∀ v,(actV p)[k]? = some v → W.cell? (b.add (i * 5 + k)) = some v) ∧ ActOk p) each
  have hfl : ((List.range len).map f).length = len := by simp
  refine ⟨(List.range len).map f,hfl,by omega,fun hp => ?_,fun u hu => ?_⟩
  ·rw [acells_length,hfl] at hp
   obtain ⟨bb,off,rfl,hbb⟩ := addr_block ((hf 0 (by omega)).1 0 (by omega) _ rfl) rfl
   refine ⟨bb,off,rfl,hbb,fun j u hu => ?_⟩
   have hj := (List.getElem?_eq_some_iff.1 hu).1
   rw [acells_length,hfl] at hj
   have hjl : j / 5 < ((List.range len).map f).length := by rw [hfl];omega
   have h5 := (hf (j / 5) (by omega)).1 (j % 5) (by omega) u (by
    obtain ⟨a0,a1,a2,a3,a4⟩ := acells_at ((List.range len).map f) (j / 5) hjl
    have e : ((List.range len).map f)[j / 5] = f (j / 5) := by simp
    rw [e] at a0 a1 a2 a3 a4
    have hm : j % 5 = 0 ∨ j % 5 = 1 ∨ j % 5 = 2 ∨ j % 5 = 3 ∨ j % 5 = 4 := by omega
    rcases hm with hm | hm | hm | hm | hm
    ·rw [show j / 5 * 5 = j by omega] at a0;rw [hm, ← hu,a0];rfl
    ·rw [show j / 5 * 5 + 1 = j by omega] at a1;rw [hm, ← hu,a1];rfl
    ·rw [show j / 5 * 5 + 2 = j by omega] at a2;rw [hm, ← hu,a2];rfl
    ·rw [show j / 5 * 5 + 3 = j by omega] at a3;rw [hm, ← hu,a3];rfl
    ·rw [show j / 5 * 5 + 4 = j by omega] at a4;rw [hm, ← hu,a4];rfl)
   rw [add_lit'] at h5
   rw [show j / 5 * 5 + j % 5 = j by omega] at h5
   exact h5
  ·obtain ⟨i,hi,rfl⟩ := List.mem_map.1 hu
   exact (hf i (List.mem_range.1 hi)).2
end Go.Proofs.YtcmcdddnckcpcaaGreatDoor
