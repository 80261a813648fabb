/- Packed: Hg, Ng, Bu, Nj, Cr, Dz, Dw, Dy, Wh, Wm, Ws, Wk, Wd, Wo, Wc. -/
import Derived.Test.YtmjdmijloanfnaaGreatDoorPD1
import Derived.Deep.QuietTactic
import Derived.BigQuiet
import Derived.Lib.SmallJoins
import Derived.Lib.Builder
import Derived.Lib.AppendStr
import Derived.Laws.Externs
import Derived.Deep.RegionHeld3
import Derived.Deep.AppendLies
namespace Go.Proofs.YtmjdmijloanfnaaGreatDoor
open Go.RowKit
def dg (c : UInt8) : Nat := (digN c).getD 0
def isDig (c : UInt8) : Bool := (digN c).isSome
theorem index_dig (c : UInt8) : Lib.indexByte digB c = if isDig c then (dg c : Int) else -1 := by
 have h : ∀ y : Fin 256,Lib.indexByte digB (UInt8.ofNat y.val) = if isDig (UInt8.ofNat y.val) then (dg (UInt8.ofNat y.val) : Int) else -1 := by decide +kernel
 have := h ⟨c.toNat,UInt8.toNat_lt c⟩
 simpa using this
theorem dg_lt (c : UInt8) : dg c < 16 := by
 have h : ∀ y : Fin 256,dg (UInt8.ofNat y.val) < 16 := by decide +kernel
 have := h ⟨c.toNat,UInt8.toNat_lt c⟩
 simpa using this
def pairH (s : Bs) (k : Nat) : UInt8 := UInt8.ofNat (16 * dg (s.getD (2 * k) 0) + dg (s.getD (2 * k + 1) 0))
theorem parseH_eq : ∀ (n : Nat) (s : Bs),s.length = 2 * n → parseH s = if s.all isDig then some ((List.range n).map (pairH s)) else none := by
 intro n
 induction n with
 | zero =>
  intro s hs
  have : s = [] := List.eq_nil_of_length_eq_zero (by omega)
  subst this
  rfl
 | succ n ih =>
  intro s hs
  match s,hs with
  | a :: b :: l,hs =>
   have hl : l.length = 2 * n := by simp only [List.length_cons] at hs;omega
   rw [parseH,ih l hl]
   have e : (List.range (n + 1)).map (pairH (a :: b :: l)) = UInt8.ofNat (16 * dg a + dg b) :: (List.range n).map (pairH l) := by
    rw [List.range_succ_eq_map,List.map_cons,List.map_map]
    congr 1
   rw [List.all_cons,List.all_cons]
   unfold isDig
   cases ha : digN a with
   | none => simp
   | some x =>
    cases hb : digN b with
    | none => simp
    | some y =>
     have h2 : dg a = x := by unfold dg;rw [ha];rfl
     have h3 : dg b = y := by unfold dg;rw [hb];rfl
     rw [e,h2,h3]
     show (match some x,some y,(if l.all isDig = true then some ((List.range n).map (pairH l)) else none) with | some x,some y,some r => some (UInt8.ofNat (16 * x + y) :: r) | _,_,_ => none) = if (l.all isDig) = true then _ else none
     cases l.all isDig <;> rfl
  | [_],hs => simp at hs;omega
  | [],hs => simp at hs
def readH (s : Bs) (i : Nat) : Bs := (List.range 32).map fun k => if 2 * k + 1 < i then pairH s k else if 2 * k < i then UInt8.ofNat (dg (s.getD (2 * k) 0)) else 0
theorem readH_length (s : Bs) (i : Nat) : (readH s i).length = 32 := by simp [readH]
theorem readH_end (s : Bs) : readH s 64 = (List.range 32).map (pairH s) := by
 unfold readH
 refine List.map_congr_left fun k hk => ?_
 rw [if_pos (by have := List.mem_range.1 hk;omega)]
def nextH (s : Bs) (i : Nat) : Nat := if i % 2 = 0 then dg (s.getD i 0) else 16 * dg (s.getD (i - 1) 0) + dg (s.getD i 0)
theorem readH_at (s : Bs) (i : Nat) (h : i < 64) : (readH s i)[i / 2]? = some (if i % 2 = 0 then 0 else UInt8.ofNat (dg (s.getD (i - 1) 0))) := by
 unfold readH
 rw [List.getElem?_map,List.getElem?_range (by omega)]
 by_cases h2 : i % 2 = 0
 ·rw [if_pos h2,Option.map_some,if_neg (by omega),if_neg (by omega)]
 ·rw [if_neg h2,Option.map_some,if_neg (by omega),if_pos (by omega),show 2 * (i / 2) = i - 1 by omega]
theorem readH_set (s : Bs) (i : Nat) (h : i < 64) : (readH s i).set (i / 2) (UInt8.ofNat (nextH s i)) = readH s (i + 1) := by
 refine List.ext_getElem? fun k => ?_
 rcases Nat.lt_or_ge k 32 with hk | hk
 ·rw [List.getElem?_set]
  by_cases e : i / 2 = k
  ·subst e
   rw [if_pos rfl,if_pos (by rw [readH_length];exact hk)]
   unfold readH
   rw [List.getElem?_map,List.getElem?_range hk,Option.map_some]
   unfold nextH
   by_cases h2 : i % 2 = 0
   ·rw [if_pos h2,if_neg (by omega),if_pos (by omega),show 2 * (i / 2) = i by omega]
   ·rw [if_neg h2,if_pos (by omega)]
    unfold pairH
    rw [show 2 * (i / 2) = i - 1 by omega,show i - 1 + 1 = i by omega]
  ·rw [if_neg e]
   unfold readH
   rw [List.getElem?_map,List.getElem?_map,List.getElem?_range hk,Option.map_some,Option.map_some]
   congr 1
   by_cases h1 : 2 * k + 1 < i
   ·rw [if_pos h1,if_pos (by omega)]
   ·rw [if_neg h1,if_neg (by omega),if_neg (by omega),if_neg (by omega)]
 ·rw [List.getElem?_eq_none (by rw [List.length_set,readH_length];exact hk),List.getElem?_eq_none (by rw [readH_length];exact hk)]
theorem shl_or (x y : Nat) (hx : x < 16) (hy : y < 16) : bits .or .u8 ((x : Int) * 16) (y : Int) = ((16 * x + y : Nat) : Int) :=
 (by decide +kernel : ∀ (x y : Fin 16),bits .or .u8 ((x.val : Int) * 16) (y.val : Int) = ((16 * x.val + y.val : Nat) : Int)) ⟨x,hx⟩ ⟨y,hy⟩
def parseR (s : Bs) : Bs × Bool := if s.length = 64 then (match parseH s with | some d => (d,true) | none => ([],false)) else ([],false)
theorem parse_bad (s : Bs) (w : World) (h : s.length ≠ 64) : Calls Tryz.prog 42 #[.string (mk s)] w fun e w' => e = .returned (.tuple #[.string ⟨#[]⟩, .bool false]) ∧ Below w.heap.size w w' := by
 have zs : (mk s).size = s.length := mk_size s
 obtain ⟨X,hX⟩ : ∃ X,mk s = X := ⟨_,rfl⟩
 rw [hX] at zs ⊢
 obtain ⟨n,hn⟩ : ∃ q,s.length = q := ⟨_,rfl⟩
 rw [hn] at zs h
 have h2 : ((n : Int) != 64) = true := by simpa using (by omega : ¬ (n : Int) = 64)
 have h3 : ((n : Int) == 64) = false := by simpa using (by omega : ¬ (n : Int) = 64)
 have h4 : ¬ (n : Int) = 64 := by omega
 clear hX hn
 go_enter Tryz.func42,Tryz.ntmps42
 go_wp2
 go_ret2
 exact ⟨rfl,Below.refl _ _⟩
set_option maxRecDepth 100000 in
set_option maxHeartbeats 1000000 in
theorem parse_64 (s : Bs) (w : World) (hs : s.length = 64) : Calls Tryz.prog 42 #[.string (mk s)] w fun e w' => e = .returned (.tuple #[.string (mk (parseR s).1), .bool (parseR s).2]) ∧ Below w.heap.size w w' := by
 have hpR : parseR s = if s.all isDig then ((List.range 32).map (pairH s),true) else ([],false) := by
  unfold parseR
  rw [if_pos hs,parseH_eq 32 s (by omega)]
  cases s.all isDig <;> rfl
 obtain ⟨i5,hi5,hz0,hz1,hz2⟩ := info_parts info5n
 have hmk := run_make (P := Tryz.prog) w 64 5 i5 _ Tryz.underlying64 hi5 hz0 .i64 .i64 32 32 (by omega) (by omega) (by rw [hz2];omega) (by omega)
 rw [show ((32 : Int)).toNat = 32 from rfl,hz1,Nat.mul_one,made_zero] at hmk
 have zs : (mk s).size = 64 := by rw [mk_size,hs]
 obtain ⟨X,hX⟩ : ∃ X,mk s = X := ⟨_,rfl⟩
 rw [hX] at zs ⊢
 have HD := Lib.hid (show ∀ j (h : j < 64),X[j]'(by omega) = s.getD j 0 from fun j h => by
  have h1 : X.data.toList = s := by rw [← hX,mk_data]
  have : X.data.toList[j]'(by rw [h1,hs];exact h) = s[j]'(by rw [hs];exact h) := by simp [h1]
  rw [List.getD_eq_getElem?_getD,List.getElem?_eq_getElem (by rw [hs];exact h),Option.getD_some]
  exact this)
 have b1 := Blk.new w (bcells (List.replicate 32 0)).toArray 5
 have b2 := below_alloc w (.cells (bcells (List.replicate 32 0)).toArray 5)
 obtain ⟨B,hB⟩ : ∃ q,w.heap.size = q := ⟨_,rfl⟩
 obtain ⟨W,hW⟩ : ∃ q,w.alloc (.cells (bcells (List.replicate 32 0)).toArray 5) = q := ⟨_,rfl⟩
 rw [hW,hB] at hmk b1 b2
 have b1' : Blk W B (bcells (readH s 0)).toArray 5 := b1
 have HB := Lib.hid (And.intro b1' b2)
 have HS := Lib.hid (And.intro hs hpR)
 rw [hB]
 clear b1 b1' b2 hB hW hX hs hpR
 go_enter Tryz.func42,Tryz.ntmps42
 go_wp2
 go_loopw [13] (fun jv wr => ∃ j : Nat,j ≤ 64 ∧ jv = .int .i64 (j : Int) ∧ (∀ k,k < j → isDig (s.getD k 0) = true) ∧ Blk wr B (bcells (readH s j)).toArray 5 ∧ Below B w wr) (fun jv _ => 64 - (intOf jv).toNat)
 case atStart => exact ⟨0,by omega,rfl,fun k hk => absurd hk (by omega),HB.out.1,HB.out.2⟩
 case round =>
  clear HB hmk
  obtain ⟨j,hj,rfl,hall,hb,hbl⟩ := hrel
  by_cases hjt : j < 64
  ·have j0 : (0 : Int) ≤ (j : Int) := by omega
   have j8 : (j : Int) < 64 := by omega
   have hx := HD.out j hjt
   have hat := readH_at s j hjt
   have hset := readH_set s j hjt
   have hnx : nextH s j = if j % 2 = 0 then dg (s.getD j 0) else 16 * dg (s.getD (j - 1) 0) + dg (s.getD j 0) := rfl
   have HALL := Lib.hid hall
   obtain ⟨c,hc⟩ : ∃ q,s.getD j 0 = q := ⟨_,rfl⟩
   rw [hc] at hx hnx
   have HC := Lib.hid hc
   have KI := Tryz.strings_IndexByte ⟨#[48,49,50,51,52,53,54,55,56,57,97,98,99,100,101,102]⟩ (c.toNat : Int) wr
   rw [show ((c.toNat : Int)).toNat.toUInt8 = c by simp,show (ByteArray.data ⟨#[48,49,50,51,52,53,54,55,56,57,97,98,99,100,101,102]⟩).toList = digB from rfl,index_dig] at KI
   have hd16 := dg_lt c
   obtain ⟨y,hy⟩ : ∃ q,dg c = q := ⟨_,rfl⟩
   rw [hy] at KI hd16 hnx
   cases hdc : isDig c with
   | false =>
    rw [hdc,if_neg (by decide)] at KI
    have HK := Lib.hid KI
    have HN := Lib.hid (show parseR s = ([],false) by
     rw [HS.out.2,if_neg]
     intro h
     rw [List.all_eq_true] at h
     have := h c (by rw [← HC.out,List.getD_eq_getElem?_getD,List.getElem?_eq_getElem (by rw [HS.out.1];exact hjt),Option.getD_some];exact List.getElem_mem _)
     rw [hdc] at this
     cases this)
    clear KI hall hat hset hnx hy hc hb
    go_wp2_with (go_at_call 88;refine HK.out.mono ?_;rintro e w2 ⟨rfl,rfl⟩)
    go_ret2
    exact ⟨by rw [HN.out];rfl,hbl⟩
   | true =>
    rw [hdc,if_pos rfl] at KI
    have HK := Lib.hid KI
    have y0 : (0 : Int) ≤ (y : Int) := by omega
    have y1 : (y : Int) < 16 := by omega
    have hp := hb.frozen (j / 2)
    obtain ⟨x,hxx⟩ : ∃ q,(if j % 2 = 0 then 0 else dg (s.getD (j - 1) 0)) = q := ⟨_,rfl⟩
    have hx16 : x < 16 := by rw [← hxx];split;omega;exact dg_lt _
    have hcell : wr.cell? ⟨B,j / 2,none⟩ = some (.int .u8 (x : Int)) := by
     rw [hb.cell,List.getElem?_toArray,show bcells (readH s j) = (readH s j).map (fun c => .int .u8 (c.toNat : Int)) from rfl,List.getElem?_map,hat,Option.map_some, ← hxx]
     by_cases h2 : j % 2 = 0
     ·rw [if_pos h2,if_pos h2];rfl
     ·rw [if_neg h2,if_neg h2,UInt8.toNat_ofNat',Nat.mod_eq_of_lt (by have := dg_lt (s.getD (j - 1) 0);omega)]
    have HOR := Lib.hid (shl_or x y hx16 hd16)
    have hnn : nextH s j = 16 * x + y := by rw [hnx, ← hxx];split <;> omega
    have HV := Lib.hid (show ((16 * x + y : Nat) : Int) = ((UInt8.ofNat (nextH s j)).toNat : Int) by rw [hnn,UInt8.toNat_ofNat',Nat.mod_eq_of_lt (by omega)])
    obtain ⟨p,hpp⟩ : ∃ q,j / 2 = q := ⟨_,rfl⟩
    have hjp : (j : Int) / 2 = (p : Int) := by omega
    have hp32 : (p : Int) < 32 := by omega
    have hp0 : (0 : Int) ≤ (p : Int) := by omega
    have htd : (j : Int).tdiv 2 = (p : Int) := by rw [Int.tdiv_eq_ediv_of_nonneg (by omega)];exact hjp
    rw [hpp] at hp hcell hset
    have x0 : (0 : Int) ≤ (x : Int) := by omega
    have x1 : (x : Int) < 16 := by omega
    have HB := Lib.hid (And.intro hb hbl)
    have HSE := Lib.hid hset
    have HDC := Lib.hid hdc
    clear KI hall hat hset hnx hy hc hb hbl hxx hnn hpp hdc
    go_wp2_with (go_at_call 88;refine HK.out.mono ?_;rintro e w2 ⟨rfl,rfl⟩)
    go_roundw
    case rel =>
     refine ⟨j + 1,by omega,by go_num,fun k hk => ?_, ?_,HB.out.2.setCell (p := ⟨B,p,none⟩) (Nat.le_refl _) _⟩
     ·rcases Nat.lt_or_ge k j with h1 | h1
      ·exact HALL.out k h1
      ·rw [show k = j by omega,HC.out];exact HDC.out
     ·rw [← HSE.out, ← bcells_set, ← HV.out,HOR.out]
      exact HB.out.1.set p _
    case measure => simp [intOf];omega
  ·obtain rfl : j = 64 := by omega
   have hl : s.all isDig = true := by
    rw [List.all_eq_true]
    intro c hc
    obtain ⟨k,hk,rfl⟩ := List.mem_iff_getElem.1 hc
    have := hall k (by rw [← HS.out.1];exact hk)
    rwa [List.getD_eq_getElem?_getD,List.getElem?_eq_getElem hk,Option.getD_some] at this
   have hpp := HS.out.2
   rw [if_pos hl, ← readH_end] at hpp
   obtain ⟨R,hR⟩ : ∃ q,readH s 64 = q := ⟨_,rfl⟩
   have hRl : R.length = 32 := by rw [← hR];exact readH_length _ _
   rw [hR] at hb hpp
   have hcv := run_convert_bytes_back (P := Tryz.prog) wr 64 9 5 ⟨B,0,none⟩ 32 R Tryz.underlying64 Tryz.underlying5 Tryz.underlying9 (fun q hq => by
    rw [Go.Lib.add_plain,Nat.zero_add,hb.cell q]
    simp [bcells,hq])
   rw [hRl,show (⟨R.toArray⟩ : ByteArray) = mk R from rfl] at hcv
   obtain ⟨G,hG⟩ : ∃ q,mk R = q := ⟨_,rfl⟩
   rw [hG] at hcv
   have HP := Lib.hid (And.intro hpp hG)
   clear hl hpp hR hRl hG hj hjt hall hb
   go_wp2
   go_ret2
   exact ⟨by rw [HP.out.1];exact congrArg (fun q => Ending.returned (Value.tuple #[.string q, .bool true])) HP.out.2.symm,hbl⟩
open Go.RowKit
theorem lead_int : ∀ c : Fin 256,bits BinOp.xor IntKind.u8 (if IntKind.u8.signed = true then -1 else IntKind.u8.max) (c.val : Int) = ((255 - c.val : Nat) : Int) ∧ (8 - (Lib.bitLen (255 - c.val) : Int)) = (lead1 (UInt8.ofNat c.val) : Int) := by decide +kernel
theorem and_mask : ∀ (k : Fin 6) (c : Fin 256),bits BinOp.and IntKind.u8 (c.val : Int) ((255 / 2 ^ k.val : Nat) : Int) = ((c.val % 2 ^ (8 - k.val) : Nat) : Int) := by decide +kernel
theorem num_snoc (a : Nat) (l : Bs) (c : UInt8) : num a (l ++ [c]) = num a l * 256 + c.toNat := by simp [num]
theorem num_lt (l : Bs) : ∀ a,num a l < (a + 1) * 256 ^ l.length := by
 induction l with
 | nil => intro a;simp [num]
 | cons c l ih =>
  intro a
  have h1 := ih (a * 256 + c.toNat)
  have h2 := c.toNat_lt
  simp only [num,List.foldl_cons] at h1 ⊢
  refine Nat.lt_of_lt_of_le h1 ?_
  rw [List.length_cons,Nat.pow_succ,Nat.mul_comm (256 ^ l.length) 256, ← Nat.mul_assoc]
  exact Nat.mul_le_mul_right _ (by omega)
theorem or_i64 (N b : Nat) (hN : N < 1099511627776) (hb : b < 256) : bits BinOp.or IntKind.i64 ((N : Int) * 256) (wrap64 (b : Int)) = ((N * 256 + b : Nat) : Int) := by
 have hw : wrap64 (b : Int) = (b : Int) := by rw [Go.IntWalk.wrap64_in _ (by omega)]
 rw [hw,show (N : Int) * 256 = ((N * 256 : Nat) : Int) by omega]
 have h1 : (BitVec.ofInt 64 ((N * 256 : Nat) : Int)).toNat = N * 256 := by
  rw [BitVec.ofInt_natCast,BitVec.toNat_ofNat];exact Nat.mod_eq_of_lt (by omega)
 have h2 : (BitVec.ofInt 64 (b : Int)).toNat = b := by
  rw [BitVec.ofInt_natCast,BitVec.toNat_ofNat];exact Nat.mod_eq_of_lt (by omega)
 show IntKind.i64.wrap ((BitVec.ofInt 64 ((N * 256 : Nat) : Int) ||| BitVec.ofInt 64 (b : Int)).toNat : Int) = _
 have h3 := Nat.two_pow_add_eq_or_of_lt (i := 8) (b := b) (by omega) N
 rw [show 2 ^ 8 * N = N * 256 by omega] at h3
 rw [BitVec.toNat_or,h1,h2, ← h3,IntKind.wrap_i64]
 omega
set_option maxRecDepth 100000 in
set_option maxHeartbeats 4000000 in
theorem get_any' (s : ByteArray) (w : World) (hs : s.size ≤ 9223372036854775807) : Calls Tryz.prog 137 #[.string s] w fun e w' => e = .returned (.tuple #[.int .i64 (getB s.data.toList).1, .int .i64 (getB s.data.toList).2.1, .int .i64 (getB s.data.toList).2.2]) ∧ Below w.heap.size w w' := by
 rcases Nat.eq_zero_or_pos s.size with h0 | hp
 ·have hsz : s.data.toList = [] := List.length_eq_zero_iff.1 (by simpa using h0)
  have he : s.toList = [] := by rw [ByteArray.toList_eq];exact hsz
  have HE := Lib.hid hsz
  clear hsz h0
  go_enter Tryz.func137,Tryz.ntmps137
  go_wp2
  go_ret3
  rw [HE.out]
  exact ⟨rfl,Below.refl _ _⟩
 ·have hlen : s.data.toList.length = s.size := by simp
  have hne : s.toList.isEmpty = false := by
   rw [ByteArray.toList_eq]
   cases h : s.data.toList with
   | nil => rw [h] at hlen;simp at hlen;omega
   | cons => rfl
  have hne2 : (!s.toList.isEmpty) = true := by rw [hne];rfl
  have hnil : s.toList ≠ [] := by intro e;rw [e] at hne;simp at hne
  obtain ⟨c,r,hcr⟩ : ∃ c r,s.data.toList = c :: r := by
   cases h : s.data.toList with
   | nil => rw [h] at hlen;simp at hlen;omega
   | cons c r => exact ⟨c,r,rfl⟩
  have hc0 : s[0]'hp = c := by
   have : s.data.toList[0]'(by omega) = c := by simp [hcr]
   exact this
  have hat : ∀ i (h : i + 1 < s.size),r[i]? = some s[i + 1] := by
   intro i h
   have : s.data.toList[i + 1]? = some s[i + 1] := by rw [Array.getElem?_toList,Array.getElem?_eq_getElem h];rfl
   rw [hcr,List.getElem?_cons_succ] at this
   exact this
  have hrl : r.length + 1 = s.size := by rw [← hlen,hcr];rfl
  have hx := lead_int ⟨c.toNat,c.toNat_lt⟩
  simp only [UInt8.ofNat_toNat] at hx
  obtain ⟨hx1,hx2⟩ := hx
  have KL := Tryz.bits_LeadingZeros8 ((255 - c.toNat : Nat) : Int) w (by omega) (by have := c.toNat_lt;omega)
  rw [Int.toNat_natCast,hx2] at KL
  have hg : getB s.data.toList = getB (c :: r) := by rw [hcr]
  have HG := Lib.hid hg
  have HAT := Lib.hid hat
  have hk8 : lead1 c ≤ 8 := by unfold lead1; repeat' split
                               all_goals omega
  obtain ⟨k,hk⟩ : ∃ k,lead1 c = k := ⟨_,rfl⟩
  rw [hk] at KL hk8
  have HK := Lib.hid hk
  have k0 : (0 : Int) ≤ (k : Int) := by omega
  have k8 : (k : Int) ≤ 8 := by omega
  have n0 : (s.size : Int) ≤ 9223372036854775807 := by omega
  clear hcr hat hg hk hx2 hlen hnil
  rcases Nat.lt_or_ge 5 k with hk5 | hk5
  ·have hk5' : (5 : Int) < (k : Int) := by omega
   have HR : Hid (getB (c :: r) = (0,0,2)) := Lib.hid (by unfold getB;simp only;rw [HK.out,if_pos hk5])
   clear hk5 hrl
   go_enter Tryz.func137,Tryz.ntmps137
   go_wp2_with (go_at_call 157;refine KL.mono ?_;rintro e w' ⟨rfl,rfl⟩)
   go_ret3
   exact ⟨by rw [HG.out,HR.out];rfl,Below.refl _ _⟩
  ·have hk5' : ¬ (5 : Int) < (k : Int) := by omega
   rcases Nat.lt_or_ge r.length k with hkr | hkr
   ·have hkr' : (s.size : Int) ≤ (k : Int) := by omega
    have HR : Hid (getB (c :: r) = (0,0,3)) := Lib.hid (by unfold getB;simp only;rw [HK.out,if_neg (by omega),if_pos hkr])
    clear hk5 hkr hrl
    go_enter Tryz.func137,Tryz.ntmps137
    go_wp2_with (go_at_call 157;refine KL.mono ?_;rintro e w' ⟨rfl,rfl⟩)
    go_ret3
    exact ⟨by rw [HG.out,HR.out];rfl,Below.refl _ _⟩
   ·have hkr' : ¬ (s.size : Int) ≤ (k : Int) := by omega
    have hm := and_mask ⟨k,by omega⟩ ⟨c.toNat,c.toNat_lt⟩
    simp only at hm
    obtain ⟨a0,ha0⟩ : ∃ a,c.toNat % 2 ^ (8 - k) = a := ⟨_,rfl⟩
    have hal : a0 < 128 * 2 := by have := Nat.mod_lt c.toNat (show 0 < 2 ^ (8 - k) from Nat.pow_pos (by omega));have h2 : 2 ^ (8 - k) ≤ 2 ^ 8 := Nat.pow_le_pow_right (by omega) (by omega);omega
    rw [ha0,Int.natCast_ediv,Int.natCast_pow] at hm
    have hm : bits BinOp.and IntKind.u8 (c.toNat : Int) ((255 : Int) / 2 ^ k) = (a0 : Int) := hm
    have a00 : (0 : Int) ≤ (a0 : Int) := by omega
    have a01 : (a0 : Int) < 256 := by omega
    have HA0 := Lib.hid ha0
    have HRL := Lib.hid hrl
    have HKR := Lib.hid hkr
    have k5 : (k : Int) ≤ 5 := by omega
    clear ha0 hrl hkr hk8
    go_enter Tryz.func137,Tryz.ntmps137
    go_wp2_with (go_at_call 157;refine KL.mono ?_;rintro e w' ⟨rfl,rfl⟩)
    go_quiet (fail)
    obtain ⟨W,hW⟩ : ∃ W,w'.drewN nq = W := ⟨_,rfl⟩
    have HBW : Hid (Below w'.heap.size w' W) := Lib.hid (by rw [← hW];exact Go.Joins.below_draws _ _ _)
    rw [hW]
    clear KL hm hx1 hW hc0 hne hne2
    go_wp2
    go_loop [6,7] (fun nv iv => ∃ q : Nat,1 ≤ q ∧ q ≤ k + 1 ∧ iv = .int .i64 (q : Int) ∧ nv = .int .i64 ((num a0 (r.take (q - 1)) : Nat) : Int)) (fun _ iv => (7 - intOf iv).toNat)
    case atStart => exact ⟨1,by omega,by omega,rfl,by simp [num]⟩
    case round =>
     obtain ⟨q,hq1,hq,rfl,rfl⟩ := hrel
     have hnl := num_lt (r.take (q - 1)) a0
     rw [List.length_take,Nat.min_eq_left (by have := HKR.out;omega)] at hnl
     rcases Nat.lt_or_ge k q with hge | hlt
     ·obtain rfl : q = k + 1 := by omega
      rw [Nat.add_sub_cancel] at hnl ⊢
      have hp5 : 256 ^ k ≤ 256 ^ 5 := Nat.pow_le_pow_right (by omega) (by omega)
      have hNl : num a0 (r.take k) < 281474976710656 := by
       refine Nat.lt_of_lt_of_le hnl (Nat.le_trans (Nat.mul_le_mul (show a0 + 1 ≤ 256 by omega) hp5) (by decide))
      have hgb : getB (c :: r) = if 1099511627776 < num a0 (r.take k) ∨ kOf (num a0 (r.take k)) ≠ k then (0,0,2) else (num a0 (r.take k),k + 1,0) := by
       unfold getB
       simp only
       rw [HK.out,if_neg (by omega),if_neg (by have := HKR.out;omega),HA0.out]
      obtain ⟨N,hN⟩ : ∃ N,num a0 (r.take k) = N := ⟨_,rfl⟩
      rw [hN] at hNl hgb ⊢
      have KBH := behind_any N W (by omega)
      have N0 : (0 : Int) ≤ (N : Int) := by omega
      have N1 : (N : Int) ≤ 9223372036854775807 := by omega
      obtain ⟨m,hm2⟩ : ∃ m,kOf N = m := ⟨_,rfl⟩
      rw [hm2] at KBH hgb
      have HGB := Lib.hid hgb
      clear hgb hnl hp5 hN hm2 hNl
      rcases Nat.lt_or_ge 1099511627776 N with hbig | hsm
      ·have hb' : (1099511627776 : Int) < (N : Int) := by omega
       have HR : Hid (getB (c :: r) = (0,0,2)) := Lib.hid (by rw [HGB.out,if_pos (.inl hbig)])
       clear hbig
       go_wp2
       go_ret3
       exact ⟨by rw [HG.out,HR.out];rfl,HBW.out⟩
      ·have hb' : ¬ (1099511627776 : Int) < (N : Int) := by omega
       by_cases hmk : m = k
       ·have HR : Hid (getB (c :: r) = (N,k + 1,0)) := Lib.hid (by rw [HGB.out,if_neg (by omega)])
        subst hmk
        have hne : ((m : Int) != (m : Int)) = false := by simp
        clear hsm
        go_wp2_with (go_at_call 145;refine KBH.mono ?_;rintro e w2 ⟨rfl,rfl⟩)
        go_ret3
        exact ⟨by rw [HG.out,HR.out];rfl,HBW.out⟩
       ·have HR : Hid (getB (c :: r) = (0,0,2)) := Lib.hid (by rw [HGB.out,if_pos (.inr hmk)])
        have hne : ((m : Int) != (k : Int)) = true := by simp;omega
        have hne2 : ¬ (m : Int) = (k : Int) := by omega
        clear hsm hmk
        go_wp2_with (go_at_call 145;refine KBH.mono ?_;rintro e w2 ⟨rfl,rfl⟩)
        go_ret3
        exact ⟨by rw [HG.out,HR.out];rfl,HBW.out⟩
     ·have hp4 : 256 ^ (q - 1) ≤ 256 ^ 4 := Nat.pow_le_pow_right (by omega) (by omega)
      have hqs : q < s.size := by have := HRL.out;have := HKR.out;omega
      have hsn : num a0 (r.take q) = num a0 (r.take (q - 1)) * 256 + s[q].toNat := by
       obtain ⟨j,rfl⟩ : ∃ j,q = j + 1 := ⟨q - 1,by omega⟩
       rw [Nat.add_sub_cancel]
       have hjr : j < r.length := by have := HKR.out;omega
       rw [List.take_succ_eq_append_getElem hjr,num_snoc]
       have := HAT.out j (by have := HRL.out;omega)
       rw [List.getElem?_eq_getElem hjr] at this
       rw [Option.some.inj this]
      obtain ⟨N,hN⟩ : ∃ N,num a0 (r.take (q - 1)) = N := ⟨_,rfl⟩
      rw [hN] at hsn hnl ⊢
      have hNl : N < 1099511627776 := by
       refine Nat.lt_of_lt_of_le hnl (Nat.le_trans (Nat.mul_le_mul (show a0 + 1 ≤ 256 by omega) hp4) (by decide))
      have HSN := Lib.hid hsn
      have N0 : (0 : Int) ≤ (N : Int) := by omega
      have N1 : (N : Int) < 1099511627776 := by omega
      have q0 : (0 : Int) ≤ (q : Int) := by omega
      have q1 : (q : Int) ≤ (k : Int) := by omega
      have q2 : (q : Int) < (s.size : Int) := by omega
      clear hp4 hnl hsn hN
      go_wp2
      go_round
      case rel => exact ⟨q + 1,by omega,by omega,by go_num,by rw [or_i64 N _ hNl (UInt8.toNat_lt _),Nat.add_sub_cancel,HSN.out]⟩
      case measure => simp [intOf];omega
theorem getB_bd (s : Bs) : (getB s).1 ≤ 1099511627776 ∧ (getB s).2.1 ≤ s.length ∧ (getB s).2.1 ≤ 6 ∧ (getB s).2.2 ≤ 3 := by
 unfold getB
 cases s with
 | nil => simp
 | cons c r =>
  simp only
  split
  ·simp
  ·split
   ·simp
   ·split
    ·simp
    ·simp only [List.length_cons]
     refine ⟨by omega,by omega,by omega,by omega⟩
theorem ext_mkN' (s : ByteArray) (a b : Nat) : s.extract a (a + b) = mk ((s.data.toList.drop a).take b) := by
 apply ByteArray.ext
 rw [ByteArray.data_extract]
 apply Array.toList_inj.1
 simp [mk,List.extract_eq_take_drop]
set_option maxRecDepth 100000 in
set_option maxHeartbeats 4000000 in
theorem next_any (s : ByteArray) (w : World) (hs : s.size ≤ 9223372036854775807) : Calls Tryz.prog 135 #[.string s] w fun e w' => e = .returned (.tuple #[.string (mk (nextB s.data.toList).1), .int .i64 (nextB s.data.toList).2.1, .int .i64 (nextB s.data.toList).2.2]) ∧ Below w.heap.size w w' := by
 have KG := get_any' s w hs
 have hbd := getB_bd s.data.toList
 have hlen : s.data.toList.length = s.size := by simp
 have hnx : nextB s.data.toList = nextB s.data.toList := rfl
 conv at hnx => rhs;unfold nextB
 rw [hlen] at hbd hnx
 obtain ⟨n,k,e,hg⟩ : ∃ n k e,getB s.data.toList = (n,k,e) := ⟨_,_,_,rfl⟩
 rw [hg] at KG hbd hnx
 simp only at KG hbd hnx
 obtain ⟨hn,hk,hk6,he3⟩ := hbd
 have HNX := Lib.hid hnx
 have n0 : (0 : Int) ≤ (n : Int) := by omega
 have n1 : (n : Int) ≤ 1099511627776 := by omega
 have k0 : (0 : Int) ≤ (k : Int) := by omega
 have k1 : (k : Int) ≤ 6 := by omega
 have k2 : (k : Int) ≤ (s.size : Int) := by omega
 have z0 : (s.size : Int) ≤ 9223372036854775807 := by omega
 clear hnx hlen hg
 by_cases he : e = 0
 ·subst he
  rcases Nat.lt_or_ge 262144 n with hL | hL
  ·have hL' : (262144 : Int) < (n : Int) := by omega
   have HR : Hid (nextB s.data.toList = ([],0,6)) := Lib.hid (by rw [HNX.out,if_neg (by simp),if_pos hL])
   clear hL
   go_enter Tryz.func135,Tryz.ntmps135
   go_wp2_with (go_at_call 137;refine KG.mono ?_;rintro e w' ⟨rfl,hb⟩;have HB := Lib.hid hb;clear hb)
   go_ret3
   exact ⟨by rw [HR.out];rfl,HB.out⟩
  ·have hL' : ¬ (262144 : Int) < (n : Int) := by omega
   rcases Nat.lt_or_ge s.size (n + k) with hS | hS
   ·have hS' : (s.size : Int) - (k : Int) < (n : Int) := by omega
    have HR : Hid (nextB s.data.toList = ([],0,3)) := Lib.hid (by rw [HNX.out,if_neg (by simp),if_neg (by omega),if_pos hS])
    clear hL hS
    go_enter Tryz.func135,Tryz.ntmps135
    go_wp2_with (go_at_call 137;refine KG.mono ?_;rintro e w' ⟨rfl,hb⟩;have HB := Lib.hid hb;clear hb)
    go_ret3
    exact ⟨by rw [HR.out];rfl,HB.out⟩
   ·have hS' : ¬ (s.size : Int) - (k : Int) < (n : Int) := by omega
    have HR : Hid (nextB s.data.toList = ((s.data.toList.drop k).take n,k + n,0)) := Lib.hid (by rw [HNX.out,if_neg (by simp),if_neg (by omega),if_neg (by omega)])
    have hsl := fun (w : World) => run_slice_string (P := Tryz.prog) (w := w) 9 s .i64 .i64 (k : Int) ((k : Int) + (n : Int)) Tryz.underlying9 (by omega) (by omega) (by omega)
    rw [show ((k : Int) + (n : Int)).toNat = k + n by omega,show ((k : Int)).toNat = k by omega,ext_mkN'] at hsl
    clear hL hS
    go_enter Tryz.func135,Tryz.ntmps135
    go_wp2_with (go_at_call 137;refine KG.mono ?_;rintro e w' ⟨rfl,hb⟩;have HB := Lib.hid hb;clear hb)
    go_ret3
    exact ⟨by rw [HR.out];rfl,HB.out⟩
 ·have he' : ((e : Int) != 0) = true := by simp;omega
  have he2 : ¬ (e : Int) = 0 := by omega
  have HR : Hid (nextB s.data.toList = ([],0,e)) := Lib.hid (by rw [HNX.out,if_pos he])
  clear he
  go_enter Tryz.func135,Tryz.ntmps135
  go_wp2_with (go_at_call 137;refine KG.mono ?_;rintro e w' ⟨rfl,hb⟩;have HB := Lib.hid hb;clear hb)
  go_ret3
  exact ⟨by rw [HR.out];rfl,HB.out⟩
open Go.RowKit
theorem info5 : (Tryz.prog.info? 5).map (fun i => (i.zero,i.size,i.bytes)) = some (some (.int .u8 0),1,1) := by kernel_rfl
theorem size101 : (Tryz.prog.info? 153).map (·.size) = some 2 := by kernel_rfl
set_option maxHeartbeats 1000000 in
set_option maxRecDepth 100000 in
theorem check_used (b : Nat) (w : World) (h0 : w.cell? ⟨b,0,none⟩ = some (.pointer (some ⟨b,0,none⟩))) :
  Calls Tryz.prog 123 #[.pointer (some ⟨b,0,none⟩)] w fun e w' => e = .returned (.tuple #[]) ∧ w' = w := by
 obtain ⟨j,hj,_⟩ := Option.map_eq_some_iff.1 size101
 go_enter Tryz.func123,Tryz.ntmps123
 go_wp2
 rw [Lib.run_neq_ptr_same w _ Tryz.underlying151 hj]
 go_wp2
 go_end0
 exact ⟨rfl,rfl⟩
set_option maxHeartbeats 1000000 in
set_option maxRecDepth 100000 in
theorem check_fresh (b : Nat) (w : World) (h0 : w.cell? ⟨b,0,none⟩ = some (.pointer none)) (hsh : w.shape? b = some (153,2)) (hfz : w.frozen? ⟨b,0,none⟩ = false) :
  Calls Tryz.prog 123 #[.pointer (some ⟨b,0,none⟩)] w fun e w' => e = .returned (.tuple #[]) ∧ w' = w.setCell ⟨b,0,none⟩ (.pointer (some ⟨b,0,none⟩)) := by
 obtain ⟨j,hj,hjs⟩ := Option.map_eq_some_iff.1 size101
 go_enter Tryz.func123,Tryz.ntmps123
 go_wp2
 rw [Lib.run_to_unsafe w ⟨b,0,none⟩ Tryz.underlying151 Tryz.underlying221 hj (by rw [hjs];decide) hsh (Nat.zero_lt_succ 1)]
 simp only [Result.andThen]
 rw [Oper.upon_value]
 go_wp2
 rw [run_callFunc_extern Tryz.func149 (by kernel_rfl) (by kernel_rfl) (by kernel_rfl) (e := Extern.AbiNoEscape.same) (by kernel_rfl)]
 rw [Lib.run_noEscape]
 simp only [Result.andThen]
 rw [Oper.upon_value]
 go_wp2
 rw [Lib.run_from_unsafe w ⟨b,0,none⟩ Tryz.underlying221 Tryz.underlying151 hj hsh (by kernel_rfl)]
 simp only [Result.andThen]
 rw [Oper.upon_value]
 go_wp2
 go_end0
 exact ⟨rfl,rfl⟩
def Others (b : Nat) (w w' : World) : Prop := ∀ (g : Nat) (cs : Array Value) (t : TypeId) (fr : Nat × Nat),t ≠ 5 → g ≠ b → w.heap[g]? = some (.cells cs t fr) → w'.heap[g]? = some (.cells cs t fr)
theorem Others.of {w w' : World} {b : Nat} (h : w.grownBy w' (some b)) : Others b w w' := fun g _ _ _ _ hb hh => (h.block g (Array.getElem?_eq_some_iff.1 hh).1 (fun e => hb (by cases e;rfl))).trans hh
theorem check_any (B b : Nat) (bs : List Value) (w : World) (h : Lib.IsBuilder 153 5 B b bs w) :
  Calls Tryz.prog 123 #[.pointer (some ⟨b,0,none⟩)] w fun e w' => e = .returned (.tuple #[]) ∧ (Lib.BuilderAt 153 5 B b (.pointer (some ⟨b,0,none⟩)) bs w' ∧ Below B w w' ∧ Others b w w') := by
 rcases h with h | h
 ·refine (check_fresh b w h.cell0 h.shape h.frozen0).mono ?_
  rintro e w' ⟨rfl,rfl⟩
  exact ⟨rfl,h.used _,(Below.refl B w).setCell (p := ⟨b,0,none⟩) h.1 _,Others.of (grown_set _ _ _ _)⟩
 ·refine (check_used b w h.cell0).mono ?_
  rintro e w' ⟨rfl,rfl⟩
  exact ⟨rfl,h,Below.refl B _,fun _ _ _ _ _ _ h => h⟩
set_option maxHeartbeats 2000000 in
set_option maxRecDepth 100000 in
theorem bwrite_any (B b : Nat) (bs : List Value) (s : ByteArray) (w : World) (h : Lib.IsBuilder 153 5 B b bs w) (hlen : bs.length + s.size ≤ 140737488355328) (hBw : B ≤ w.heap.size) :
  Calls Tryz.prog 82 #[.pointer (some ⟨b,0,none⟩), .string s] w fun e w' => e = .returned (.tuple #[.int .i64 s.size, .nilIface]) ∧ (Lib.BuilderAt 153 5 B b (.pointer (some ⟨b,0,none⟩)) (bs ++ Lib.strCells s) w' ∧ Below B w w' ∧ Others b w w') := by
 obtain ⟨i0,hi,hz0,hz1,hz2⟩ := info_parts info5
 have KC := check_any B b bs w h
 go_enter Tryz.func82,Tryz.ntmps82
 go_wp2_with (go_at_call 123;refine KC.mono ?_)
 rintro e w1 ⟨rfl,h1,hb1,hot1⟩
 clear KC
 obtain ⟨hB,v,hbk,hown,hne⟩ := h1
 have c0 : w1.cell? ⟨b,0,none⟩ = some (.pointer (some ⟨b,0,none⟩)) := by rw [Lib.cell_of_heap hbk];rfl
 have c1 : w1.cell? ⟨b,1,none⟩ = some v := by rw [Lib.cell_of_heap hbk];rfl
 go_wp2_with (at_builtin;refine Lib.wpList_append_own_string _ rfl _ _ 64 9 rfl B 5 i0 Tryz.underlying64 Tryz.underlying9 hi hz0 hz1 hz2 _ _ _ rfl hown s rfl ?c3 ?c4 ?c5 ?_)
 case c3 => unfold maxLen;omega
 case c4 => omega
 case c5 => have := hb1.size;omega
 intro v' w2 hown' hgrow _
 have hlt : b < w1.heap.size := by
  rcases Nat.lt_or_ge b w1.heap.size with h' | h'
  ·exact h'
  ·simp [Array.getElem?_eq_none h'] at hbk
 have hb2 : w2.heap[b]? = some (.cells #[.pointer (some ⟨b,0,none⟩),v] 153 (0,0)) := by
  rw [hgrow.block b hlt (fun e => hne e.symm)]
  exact hbk
 have d0 : w2.cell? ⟨b,0,none⟩ = some (.pointer (some ⟨b,0,none⟩)) := by rw [Lib.cell_of_heap hb2];rfl
 have d1 : w2.cell? ⟨b,1,none⟩ = some v := by rw [Lib.cell_of_heap hb2];rfl
 have f1 : w2.frozen? ⟨b,1,none⟩ = false := Lib.frozen_of_heap hb2 1
 obtain ⟨ao,n',cap,rfl⟩ : ∃ ao n' cap,v' = .slice ao n' cap := by
  rcases hown'.2 with ⟨hv,_⟩ | ⟨g,cap,cur,hv,_⟩
  ·exact ⟨_,_,_,hv⟩
  ·exact ⟨_,_,_,hv⟩
 go_wp2
 go_ret2
 refine ⟨rfl, ?_, ?_, ?_⟩
 ·exact Lib.BuilderAt.put (T := 153) (e := 5) hB hb2 (bs' := bs ++ Lib.strCells s) (by simpa [Lib.strCells_length] using hown') (by decide)
 ·exact (hb1.grown hgrow (by have := hb1.size;omega) (fun k hk => (hown.lt k hk).1)).setCell (p := ⟨b,1,none⟩) hB _
 ·intro g cs t fr ht hg hh
  have h1 := hot1 g cs t fr ht hg hh
  have h2 : w2.heap[g]? = some (.cells cs t fr) := by
   refine (hgrow.block g (Array.getElem?_eq_some_iff.1 h1).1 (fun e => ?_)).trans h1
   rcases hown.2 with ⟨rfl,_⟩ | ⟨g1,c1,cur1,rfl,_,hg1,_⟩
   ·simp [Value.ownBlock] at e
   ·simp only [Value.ownBlock,Option.some.injEq] at e
    subst e
    rw [hg1] at h1
    simp only [Option.some.injEq,Obj.cells.injEq] at h1
    exact ht h1.2.1.symm
  exact Others.of (grown_set w2 b 1 _) g cs t fr ht hg h2
open Go.RowKit
theorem joinB_take (l : List Bs) (k : Nat) : (joinB (l.take k)).length ≤ (joinB l).length := by
 have : joinB l = joinB (l.take k) ++ joinB (l.drop k) := by
  unfold joinB;rw [← List.flatMap_append,List.take_append_drop]
 rw [this,List.length_append];omega
theorem isb_below {T e : TypeId} {B b : Nat} {bs : List Value} {w w' : World} (h : Lib.IsBuilder T e B b bs w) (hb : Below w.heap.size w w') : Lib.IsBuilder T e B b bs w' := by
 have hat : ∀ p,Lib.BuilderAt T e B b p bs w → Lib.BuilderAt T e B b p bs w' := fun p ⟨h1,v,h2,h3,h4⟩ => ⟨h1,v,(hb.block b (Array.getElem?_eq_some_iff.1 h2).1).trans h2,own_below h3 hb,h4⟩
 exact h.imp (hat _) (hat _)
set_option maxRecDepth 100000 in
set_option maxHeartbeats 4000000 in
theorem join_any (A : Option Addr) (cap : Nat) (l : List Bs) (w : World) (hA : Lies w A (txc l)) (hn : l.length ≤ 1000000) (hsz : (joinB l).length ≤ 1099511627776) :
  Calls Tryz.prog 116 #[.slice A l.length cap] w fun e w' => e = .returned (.string (mk (joinB l))) ∧ Below w.heap.size w w' := by
 obtain ⟨n,hl⟩ : ∃ n,l.length = n := ⟨_,rfl⟩
 rw [hl] at hn ⊢
 have HL := Lib.hid hA
 have HS := Lib.hid hsz
 have HN := Lib.hid hl
 clear hA hsz hl
 go_enter Tryz.func116,Tryz.ntmps116
 go_wp2
 go_loopw [5,8] (fun _ i wr => ∃ k : Nat,k ≤ n ∧ i = .int .i64 k ∧ Lib.IsBuilder 153 5 w.heap.size w.heap.size (Lib.byteCells (joinB (l.take k))) wr ∧ Below w.heap.size w wr) (fun _ i _ => n - (intOf i).toNat)
 case atStart => exact ⟨0,Nat.zero_le _,rfl,Lib.fresh_isBuilder 153 5 w,(Below.refl _ w).alloc (Nat.le_refl _) _⟩
 case round =>
  obtain ⟨k,hk,rfl,hbu,hB⟩ := hrel
  have hsz := hB.size
  by_cases h : k < n
  ·have hkl : k < l.length := by rw [HN.out];exact h
   obtain ⟨g,off,rfl,hgl,hcs⟩ := HL.out (by simp [txc];omega)
   have d0 := (hB.cell (p := ⟨g,off + k,none⟩) hgl).trans (hcs k _ (txc_at l k hkl))
   have hsn : joinB (l.take (k + 1)) = joinB (l.take k) ++ putB l[k].length ++ l[k] := by
    rw [List.take_succ_eq_append_getElem hkl,joinB_snoc]
   have hln := joinB_take l (k + 1)
   rw [hsn] at hln
   have hln2 := HS.out
   obtain ⟨x,hx⟩ : ∃ x,l[k] = x := ⟨_,rfl⟩
   rw [hx] at d0 hsn hln
   obtain ⟨T,hT⟩ : ∃ T,joinB (l.take k) = T := ⟨_,rfl⟩
   rw [hT] at hbu hsn hln
   have HSN := Lib.hid hsn
   have k0 : (0 : Int) ≤ (k : Int) := by omega
   have k1 : (k : Int) < (n : Int) := by omega
   simp only [List.length_append] at hln
   have KP := fun w' => put_any x.length w' (by omega)
   have s0 : (mk x).size = x.length := mk_size _
   have s1 : (mk (putB x.length)).size = (putB x.length).length := mk_size _
   obtain ⟨X,hX⟩ : ∃ X,mk x = X := ⟨_,rfl⟩
   obtain ⟨Y,hY⟩ : ∃ Y,mk (putB x.length) = Y := ⟨_,rfl⟩
   rw [hX] at d0 s0
   rw [hY] at s1 KP
   have HX := Lib.hid hX
   have HY := Lib.hid hY
   rw [← s0] at KP
   have HB := Lib.hid hB
   have HBU := Lib.hid hbu
   have KW := fun (w4 : World) (h4 : Below wr.heap.size wr w4) => bwrite_any w.heap.size w.heap.size (Lib.byteCells T) Y w4 (isb_below HBU.out h4) (by simp [Lib.byteCells];omega) (Nat.le_trans hsz h4.size)
   have KW2 := fun (w5 : World) (h5 : Lib.BuilderAt 153 5 w.heap.size w.heap.size (.pointer (some ⟨w.heap.size,0,none⟩)) (Lib.byteCells T ++ Lib.strCells Y) w5) (h6 : w.heap.size ≤ w5.heap.size) => bwrite_any w.heap.size w.heap.size (Lib.byteCells T ++ Lib.strCells Y) X w5 (.inr h5) (by simp [Lib.byteCells,Lib.strCells];omega) h6
   have Hs0 := Lib.hid s0
   clear hcs hsn hx hT hX hY hB hbu hln hln2 s0 s1
   go_wp2_with (first
    | (go_at_call 117;refine (KP _).mono ?_;rintro e w4 ⟨rfl,hb4⟩;have K1 := KW w4 hb4;have H4 := Lib.hid hb4;clear hb4 KW KP)
    | (go_at_call 82;(with_reducible refine K1.mono ?_);rintro e w5 ⟨rfl,hbu5,hb5,_⟩;have K2 := KW2 w5 hbu5 (by have := hb5.size;have := H4.out.size;omega);have H5 := Lib.hid hb5;clear hb5 hbu5 K1 KW2)
    | (go_at_call 82;(with_reducible refine K2.mono ?_);rintro e w6 ⟨rfl,hbu6,hb6,_⟩;have H6 := Lib.hid hb6;have HU6 := Lib.hid hbu6;clear hb6 hbu6 K2))
   have hfin : Lib.byteCells T ++ Lib.strCells Y ++ Lib.strCells X = Lib.byteCells (joinB (l.take (k + 1))) := by
    rw [HSN.out, ← HX.out, ← HY.out]
    simp [Lib.byteCells,Lib.strCells,mk_data]
   have HF := Lib.hid hfin
   clear hfin
   go_roundw
   case rel => exact ⟨k + 1,by omega,by go_num, .inr (by rw [← HF.out];exact HU6.out),(((HB.out.trans (H4.out.mono hsz)).trans H5.out).trans H6.out)⟩
   case measure => simp [intOf];omega
  ·obtain rfl : k = n := by omega
   have e : l.take k = l := List.take_of_length_le (by rw [HN.out];exact Nat.le_refl _)
   rw [e] at hbu
   have KS := Tryz.Builder_String_any w.heap.size w.heap.size (joinB l) wr hbu hsz
   clear hbu
   go_wp2_with (go_at_call 83;refine KS.mono ?_;rintro e2 w2 ⟨rfl,hb2⟩)
   go_ret
   exact ⟨rfl,hB.trans hb2⟩
open Go.RowKit
def tblL : List Int := [0,498536548,997073096,651767980,1994146192,1802195444,1303535960,1342533948,3988292384,4027552580,3604390888,3412177804,2607071920,2262029012,2685067896,3183342108]
def TB (w : World) : Prop := ∀ k,k < 16 → w.cell? ⟨1,k,none⟩ = some (.int .u32 (tblL.getD k 0))
theorem TB.below {w w' : World} {B : Nat} (h : TB w) (hB : 1 < B) (hb : Below B w w') : TB w' := fun k hk => (hb.cell (p := ⟨1,k,none⟩) hB).trans (h k hk)
def half (r : Int) : Int := bits .xor .u32 (r / 16) (tblL.getD (bits .and .u32 r 15).toNat 0)
def crcStep (r : Int) (c : UInt8) : Int := half (half (bits .xor .u32 r c.toNat))
def crcR (s : Bs) : Int := s.foldl crcStep 4294967295
def crcI (s : Bs) : Int := bits .xor .u32 4294967295 (crcR s)
theorem crcR_take (s : Bs) (k : Nat) (h : k < s.length) : crcR (s.take (k + 1)) = crcStep (crcR (s.take k)) s[k] := by
 rw [List.take_succ_eq_append_getElem h];unfold crcR;rw [List.foldl_append];rfl
theorem and_fifteen (z : Int) : ∃ q : Nat,q ≤ 15 ∧ bits .and .u32 z 15 = (q : Int) := by
 refine ⟨(BitVec.ofInt 32 z).toNat &&& 15,Nat.and_le_right, ?_⟩
 show IntKind.u32.wrap ((BitVec.ofInt 32 z &&& BitVec.ofInt 32 15).toNat : Int) = _
 have h : (BitVec.ofInt 32 z &&& BitVec.ofInt 32 15).toNat = (BitVec.ofInt 32 z).toNat &&& 15 := by rw [BitVec.toNat_and];rfl
 rw [h]
 have h2 : (BitVec.ofInt 32 z).toNat &&& 15 ≤ 15 := Nat.and_le_right
 generalize (BitVec.ofInt 32 z).toNat &&& 15 = r at h2
 simp [IntKind.wrap,IntKind.bits,IntKind.signed]
 omega
set_option maxRecDepth 100000 in
set_option maxHeartbeats 1000000 in
theorem sum_any (s : Bs) (w : World) (hT : TB w) (hs : s.length ≤ 9223372036854775807) : Calls Tryz.prog 118 #[.string (mk s)] w fun e w' => e = .returned (.int .u32 (crcI s)) ∧ w' = w := by
 have zs : (mk s).size = s.length := mk_size s
 obtain ⟨X,hX⟩ : ∃ X,mk s = X := ⟨_,rfl⟩
 rw [hX] at zs ⊢
 obtain ⟨n,hn⟩ : ∃ n,s.length = n := ⟨_,rfl⟩
 rw [hn] at zs hs
 have HX := Lib.hid hX
 have HN := Lib.hid hn
 have HT := Lib.hid hT
 clear hX hn hT
 go_enter Tryz.func118,Tryz.ntmps118
 go_wp2
 go_loopw [3,7] (fun rv kv wr => ∃ k : Nat,k ≤ n ∧ kv = .int .i64 k ∧ rv = .int .u32 (crcR (s.take k)) ∧ wr = w) (fun _ kv _ => n - (intOf kv).toNat)
 case atStart => exact ⟨0,by omega,rfl,rfl,rfl⟩
 case round =>
  obtain ⟨k,hk,rfl,rfl,rfl⟩ := hrel
  have k0 : (0 : Int) ≤ (k : Int) := by omega
  by_cases hkn : k < n
  ·have k1 : (k : Int) < (n : Int) := by omega
   have hc : X[k]'(by omega) = s[k]'(by rw [HN.out];exact hkn) := by
    have h1 : X.data.toList = s := by rw [← HX.out,mk_data]
    have : X.data.toList[k]'(by rw [h1,HN.out];exact hkn) = s[k]'(by rw [HN.out];exact hkn) := by simp [h1]
    exact this
   obtain ⟨r,hr⟩ : ∃ r,crcR (s.take k) = r := ⟨_,rfl⟩
   obtain ⟨c,hcc⟩ : ∃ c,s[k]'(by rw [HN.out];exact hkn) = c := ⟨_,rfl⟩
   rw [hcc] at hc
   rw [hr]
   have hcw : (c.toNat : Int) % 4294967296 = c.toNat := by have := c.toNat_lt;omega
   obtain ⟨r1,hr1⟩ : ∃ r1,bits .xor .u32 r (c.toNat : Int) = r1 := ⟨_,rfl⟩
   obtain ⟨q1,hq1,ha1⟩ := and_fifteen r1
   have t1 := HT.out q1 (by omega)
   obtain ⟨v1,hv1⟩ : ∃ v1,tblL.getD q1 0 = v1 := ⟨_,rfl⟩
   rw [hv1] at t1
   obtain ⟨r2,hr2⟩ : ∃ r2,bits .xor .u32 (r1 / 16) v1 = r2 := ⟨_,rfl⟩
   obtain ⟨q2,hq2,ha2⟩ := and_fifteen r2
   have t2 := HT.out q2 (by omega)
   obtain ⟨v2,hv2⟩ : ∃ v2,tblL.getD q2 0 = v2 := ⟨_,rfl⟩
   rw [hv2] at t2
   obtain ⟨r3,hr3⟩ : ∃ r3,bits .xor .u32 (r2 / 16) v2 = r3 := ⟨_,rfl⟩
   have HR := Lib.hid (show crcR (s.take (k + 1)) = r3 by
    rw [crcR_take s k (by rw [HN.out];exact hkn),hr,hcc]
    unfold crcStep half
    rw [hr1,ha1,Int.toNat_natCast,hv1,hr2,ha2,Int.toNat_natCast,hv2,hr3])
   have p1 : (0 : Int) ≤ (q1 : Int) := by omega
   have p2 : (q1 : Int) < 16 := by omega
   have p3 : (0 : Int) ≤ (q2 : Int) := by omega
   have p4 : (q2 : Int) < 16 := by omega
   have p5 : (q1 : Int) ≤ 15 := by omega
   have p6 : (q2 : Int) ≤ 15 := by omega
   clear hr hcc hv1 hv2
   go_wp2
   go_roundw
   case rel => exact ⟨k + 1,by omega,by go_num,by rw [HR.out],trivial⟩
   case measure => simp [intOf];omega
  ·obtain rfl : k = n := by omega
   have HR := Lib.hid (show crcR (s.take k) = crcR s by rw [List.take_of_length_le (by rw [HN.out];exact Nat.le_refl _)])
   have HF := Lib.hid (show bits .xor .u32 4294967295 (crcR s) = crcI s from rfl)
   go_wp2
   go_ret
   exact ⟨by rw [HR.out];rfl,rfl⟩
open Go.RowKit
theorem icells_at (l : List Int) (j : Nat) (h : j < l.length) : (icells l)[j]? = some (.int .i64 l[j]) := by simp [icells,h]
theorem txc_set (L : List Bs) (i : Nat) (d : Bs) : txc (L.set i d) = (txc L).set i (.string (mk d)) := by simp [txc,List.map_set]
theorem row_ne_row {w : World} {B B' size size' n n' : Nat} {e e' : TypeId} {v v' : Value} {xs xs' : List Value} (h : w.ownsRow B e size v n xs) (h' : w.ownsRow B' e' size' v' n' xs') (he : e ≠ e') : v.ownBlock = none ∨ v.ownBlock ≠ v'.ownBlock := by
 cases hv : v.ownBlock with
 | none => exact .inl rfl
 | some g =>
  refine .inr fun e2 => ?_
  obtain ⟨c,fz,h1⟩ := row_kind h g hv
  obtain ⟨c',fz',h2⟩ := row_kind h' g e2.symm
  rw [h1] at h2
  simp only [Option.some.injEq,Obj.cells.injEq] at h2
  exact he h2.2.1
theorem Lies.grown {w w' : World} {A : Option Addr} {xs : List Value} {e : TypeId} {r : Option Nat} (h : Lies w A xs) (ht : Typed w A e) (hg : w.grownBy w' r) (hr : ∀ g,r = some g → ∃ c t fr,w.heap[g]? = some (.cells c t fr) ∧ t ≠ e) : Lies w' A xs ∧ Typed w' A e := by
 have hne : ∀ a,A = some a → some a.block ≠ r := fun a ha he => by
  obtain ⟨cs,fr,hc⟩ := ht a ha
  obtain ⟨c,t,fr',h1,h2⟩ := hr a.block he.symm
  rw [hc] at h1
  simp only [Option.some.injEq,Obj.cells.injEq] at h1
  exact h2 h1.2.1.symm
 refine ⟨fun h0 => ?_,fun a ha => ?_⟩
 ·obtain ⟨g,o,rfl,hl,hc⟩ := h h0
  have := hg.block g hl (hne _ rfl)
  exact ⟨g,o,rfl,Nat.lt_of_lt_of_le hl hg.size,fun j u hu => (World.cell?_of_block (a := ⟨g,o + j,none⟩) this).trans (hc j u hu)⟩
 ·obtain ⟨cs,fr,hc⟩ := ht a ha
  exact ⟨cs,fr,(hg.block _ (Array.getElem?_eq_some_iff.1 hc).1 (hne a ha)).trans hc⟩
theorem CutAt.grown {w w' : World} {X : List Nat} {v : Value} {o : Option (Nat × List Int)} {r : Option Nat} (h : CutAt w X v o) (hg : w.grownBy w' r) (hr : ∀ g,r = some g → ∃ c t fr,w.heap[g]? = some (.cells c t fr) ∧ t ≠ 3 ∧ t ≠ 231) : CutAt w' X v o := by
 cases o with
 | none => exact h
 | some p =>
  obtain ⟨n,keep⟩ := p
  obtain ⟨h1,h2,h3,C,A,c,h4,h5,h6,h7,h8,h9⟩ := h
  obtain ⟨k1,k2⟩ := h7.grown h8 hg (fun g hgr => by obtain ⟨c,t,fr,a,b,_⟩ := hr g hgr;exact ⟨c,t,fr,a,b⟩)
  refine ⟨h1,h2,h3,C,A,c,h4,h5,h6.grown hg (fun e => ?_),k1,k2,h9⟩
  obtain ⟨c,t,fr,a,_,b⟩ := hr C e
  unfold Blk at h6
  rw [h6] at a
  simp only [Option.some.injEq,Obj.cells.injEq] at a
  exact b a.2.1.symm
theorem own_set3' {w : World} {B s n X : Nat} {e e' : TypeId} {v : Value} {xs : List Value} {cs : Array Value} (h : w.ownsRow B e s v n xs) (hX : Blk w X cs e') (he : e ≠ e') (i j k : Nat) (a b c : Value) : (((w.setCell ⟨X,i,none⟩ a).setCell ⟨X,j,none⟩ b).setCell ⟨X,k,none⟩ c).ownsRow B e s v n xs :=
 own_set (own_set (own_set h hX he i a) (hX.set i a) he j b) ((hX.set i a).set j b) he k c
theorem CutAt.alloc {w : World} {X : List Nat} {v : Value} {o : Option (Nat × List Int)} (h : CutAt w X v o) (b : Obj) : CutAt (w.alloc b) X v o := h.grown (World.grownBy_alloc w b none) (fun g e => by cases e)
theorem CutAt.drew {w : World} {X : List Nat} {v : Value} {o : Option (Nat × List Int)} (h : CutAt w X v o) : CutAt w.drew X v o := h
theorem CutAt.set {w : World} {X : List Nat} {v : Value} {o : Option (Nat × List Int)} {b : Nat} {cs : Array Value} {t : TypeId} {fr : Nat × Nat} (h : CutAt w X v o) (hb : w.heap[b]? = some (.cells cs t fr)) (h3 : t ≠ 3) (h115 : t ≠ 231) (i : Nat) (u : Value) : CutAt (w.setCell ⟨b,i,none⟩ u) X v o :=
 h.grown (grown_set w b i u) (fun g e => by cases e;exact ⟨_,_,_,hb,h3,h115⟩)
theorem row_blk {w : World} {B e size n : Nat} {g c : Nat} {xs : List Value} (h : w.ownsRow B e size (.slice (some ⟨g,0,none⟩) n c) n xs) : ∃ cs fr,w.heap[g]? = some (.cells cs e fr) := row_kind h g rfl
set_option maxRecDepth 100000 in
set_option maxHeartbeats 2000000 in
theorem fail_core (X : List Nat) (D : Nat) (d : DS) (A : Option Addr) (cap : Nat) (keep : List Int) (w : World) (gL cL : Nat) (vS vC : Value) (off : Bool) (cnt : Int) (hB : Blk w D #[.slice (some ⟨gL,0,none⟩) d.L.length cL,vS,vC, .bool off, .int .i64 cnt] 124) (hL : w.ownsRow 0 9 1 (.slice (some ⟨gL,0,none⟩) d.L.length cL) d.L.length (txc d.L))
  (hSr : w.ownsRow 0 134 2 vS d.S.length (scells d.S)) (hgX : gL ∈ X) (hgd : DGood d) (hmem : D ∈ X) (hlt : ∀ x ∈ X,x < w.heap.size) (hl : Lies w A (icells keep)) (ht : Typed w A 3) (hk : keep.length ≤ 9223372036854775807) :
  Calls Tryz.prog 60 #[.pointer (some ⟨D,0,none⟩), .slice A keep.length cap] w fun e w' => e = .returned (.tuple #[]) ∧ Dsk w' X D (d.fail keep) ∧ Frm X w w' := by
 have HG := Lib.hid hgd
 have HMEM := Lib.hid (And.intro hmem hlt)
 have HGX := Lib.hid hgX
 have hDl := hB.lt
 unfold DS.fail
 have hov : ∀ k,overK (keptI keep) 0 d.L (d.S.take (k + 1)) = if k < d.S.length then (if keptI keep k then (overK (keptI keep) 0 d.L (d.S.take k)).set (d.S.getD k (0,[])).1 (d.S.getD k (0,[])).2 else overK (keptI keep) 0 d.L (d.S.take k)) else overK (keptI keep) 0 d.L (d.S.take k) := fun k => by
  by_cases hk : k < d.S.length
  ·rw [if_pos hk,List.take_succ_eq_append_getElem hk,overK_snoc,List.length_take,Nat.zero_add,Nat.min_eq_left (Nat.le_of_lt hk)]
   simp [hk]
  ·rw [if_neg hk,List.take_of_length_le (by omega),List.take_of_length_le (by omega)]
 have HOV := Lib.hid hov
 obtain ⟨L,hLe⟩ : ∃ L,d.L = L := ⟨_,rfl⟩
 obtain ⟨S,hSe⟩ : ∃ L,d.S = L := ⟨_,rfl⟩
 rw [hLe] at hB hL
 rw [hSe] at hSr
 rw [hLe,hSe] at HOV
 rw [hLe,hSe]
 obtain ⟨n,hn⟩ : ∃ n,L.length = n := ⟨_,rfl⟩
 obtain ⟨m,hm⟩ : ∃ m,S.length = m := ⟨_,rfl⟩
 rw [hn] at hB hL
 rw [hm] at hSr
 obtain ⟨As,cS,hvS⟩ : ∃ A c,vS = .slice A m c := row_form hSr
 rw [hvS] at hB hSr
 have hm63 : m ≤ 9223372036854775807 := len63 hSr
 have HX := Lib.hid (And.intro hLe (And.intro hSe (And.intro hn hm)))
 obtain ⟨kl,hkl⟩ : ∃ kl,keep.length = kl := ⟨_,rfl⟩
 rw [hkl] at hk ⊢
 have HKL := Lib.hid hkl
 have hST : Blk w D #[.slice (some ⟨gL,0,none⟩) n cL, .slice As m cS,vC, .bool off, .int .i64 cnt] 124 ∧ w.ownsRow 0 9 1 (.slice (some ⟨gL,0,none⟩) n cL) n (txc (overK (keptI keep) 0 L (S.take 0))) ∧ w.ownsRow 0 134 2 (.slice As m cS) m (scells S) ∧ Lies w A (icells keep) ∧ Typed w A 3 ∧ Frm X w w := ⟨hB,by simpa [overK] using hL,hSr,hl,ht,Frm.refl X w⟩
 have HST := Lib.hid hST
 have x1 := hB.cell 1
 simp at x1
 clear hB hL hSr hl ht hLe hSe hn hm hvS hST hov hkl hgX hgd hmem hlt
 go_enter Tryz.func60,Tryz.ntmps60
 have mixed := mixedT
 go_wp2
 clear x1
 go_loopw [11] (fun kv wr => ∃ k : Nat,k ≤ m ∧ kv = .int .i64 k ∧ Blk wr D #[.slice (some ⟨gL,0,none⟩) n cL, .slice As m cS,vC, .bool off, .int .i64 cnt] 124 ∧ wr.ownsRow 0 9 1 (.slice (some ⟨gL,0,none⟩) n cL) n (txc (overK (keptI keep) 0 L (S.take k))) ∧ wr.ownsRow 0 134 2 (.slice As m cS) m (scells S) ∧ Lies wr A (icells keep) ∧ Typed wr A 3 ∧ Frm X w wr) (fun kv _ => m - (intOf kv).toNat)
 case atStart => exact ⟨0,by omega,rfl,HST.out⟩
 case round =>
  obtain ⟨k,hkm,rfl,hB,hL,hSr,hl,ht,hF⟩ := hrel
  by_cases hlt : k < m
  ·have hkl : k < S.length := by have := HX.out.2.2.2;omega
   obtain ⟨g,c',hA,s0,s1⟩ := since_at hSr HX.out.2.2.2 k hkl
   injection hA with hA1 _ hA3
   subst hA1 hA3
   have hq : S[k].1 < n := by
    have := (HG.out.wrote S[k] (by rw [HX.out.2.1];exact List.getElem_mem hkl)).1
    rw [HX.out.1,HX.out.2.2.1] at this
    exact this
   have HOK := Lib.hid (show overK (keptI keep) 0 L (S.take (k + 1)) = if keptI keep k then (overK (keptI keep) 0 L (S.take k)).set S[k].1 S[k].2 else overK (keptI keep) 0 L (S.take k) by
    rw [HOV.out k,if_pos hkl];simp [hkl])
   have HLN := Lib.hid (show (overK (keptI keep) 0 L (S.take k)).length = n by rw [overK_length,HX.out.2.2.1])
   obtain ⟨z,hz⟩ : ∃ z,S[k].1 = z := ⟨_,rfl⟩
   obtain ⟨bs,hbs⟩ : ∃ Y,S[k].2 = Y := ⟨_,rfl⟩
   obtain ⟨Y,hY⟩ : ∃ Y,mk bs = Y := ⟨_,rfl⟩
   rw [hz] at s0 hq
   rw [hbs,hY] at s1
   rw [hz,hbs] at HOK
   have HY := Lib.hid hY
   obtain ⟨L1,hL1⟩ : ∃ L1,overK (keptI keep) 0 L (S.take k) = L1 := ⟨_,rfl⟩
   rw [hL1] at hL HOK HLN
   obtain ⟨k1,hk1⟩ : ∃ k1,keptI keep k = k1 := ⟨_,rfl⟩
   rw [hk1] at HOK
   have hk1' := hk1
   unfold keptI at hk1'
   rw [HKL.out] at hk1'
   have HB := Lib.hid hB
   have HL := Lib.hid hL
   have HSr := Lib.hid hSr
   have HF := Lib.hid hF
   have HLI := Lib.hid hl
   have HTY := Lib.hid ht
   have k0 : (0 : Int) ≤ (k : Int) := by omega
   have kk1 : (k : Int) < (m : Int) := by omega
   have z0 : (0 : Int) ≤ (z : Int) := by omega
   have z1 : (z : Int) < (n : Int) := by omega
   have HEND := Lib.hid (fun (hf : k1 = false) => (show Blk (wr.alloc (.cells #[.int .i64 z, .string Y] 134)) D #[.slice (some ⟨gL,0,none⟩) n cL, .slice (some ⟨g,0,none⟩) m cS,vC, .bool off, .int .i64 cnt] 124 ∧ (wr.alloc (.cells #[.int .i64 z, .string Y] 134)).ownsRow 0 9 1 (.slice (some ⟨gL,0,none⟩) n cL) n (txc (overK (keptI keep) 0 L (S.take (k + 1)))) ∧ (wr.alloc (.cells #[.int .i64 z, .string Y] 134)).ownsRow 0 134 2 (.slice (some ⟨g,0,none⟩) m cS) m (scells S) ∧ Lies (wr.alloc (.cells #[.int .i64 z, .string Y] 134)) A (icells keep) ∧ Typed (wr.alloc (.cells #[.int .i64 z, .string Y] 134)) A 3 ∧ Frm X w (wr.alloc (.cells #[.int .i64 z, .string Y] 134)) from
    ⟨HB.out.alloc _,by rw [HOK.out,hf];exact World.ownsRow.alloc HL.out _,World.ownsRow.alloc HSr.out _,HLI.out.below (Nat.le_refl _) (below_alloc _ _),HTY.out.below (below_alloc _ _),HF.out.alloc _⟩))
   clear hB hL hSr hF hl ht hz hbs hY hL1 hk1
   by_cases hke : 0 < kl
   ·have hke' : ¬ (kl = 0) := by omega
    obtain ⟨q,hqq⟩ : ∃ q,k % kl = q := ⟨_,rfl⟩
    have hql : q < kl := by rw [← hqq];exact Nat.mod_lt _ hke
    have htm : ((k : Int)).tmod (kl : Int) = (q : Int) := by rw [← hqq];rfl
    have hmd : (k : Int) % (kl : Int) = (q : Int) := by rw [← hqq];rfl
    have hqk : q < keep.length := by rw [HKL.out];exact hql
    obtain ⟨ga,oa,rfl,hga,hca⟩ := HLI.out (by simp [icells];omega)
    have c0 := hca q _ (icells_at keep q hqk)
    obtain ⟨y,hy⟩ : ∃ y,keep[q] = y := ⟨_,rfl⟩
    obtain ⟨b,hb⟩ : ∃ b,bits .and .i64 y 1 = b := ⟨_,rfl⟩
    rw [hy] at c0
    have hd : keep.getD q 0 = y := by rw [List.getD_eq_getElem?_getD,List.getElem?_eq_getElem hqk,hy];rfl
    rw [hqq,hd,hb] at hk1'
    have hde : decide (0 < kl) = true := by simpa using hke
    rw [hde,Bool.true_and] at hk1'
    have kp : (0 : Int) < (kl : Int) := by omega
    have q0 : (0 : Int) ≤ (q : Int) := by omega
    have q1 : (q : Int) < (kl : Int) := by omega
    clear hca hy hd hqq hde hqk hke hke' hql hlt hkl
    cases k1 with
    | true =>
     have hb1 : b = 1 := by simpa using hk1'
     clear HEND hk1'
     subst hb1
     go_wp2
     have hB1 := HB.out.alloc (.cells #[.int .i64 z, .string Y] 134)
     have hL1 := World.ownsRow.alloc HL.out (.cells #[.int .i64 z, .string Y] 134)
     have hS1 := World.ownsRow.alloc HSr.out (.cells #[.int .i64 z, .string Y] 134)
     have hl1 : Lies (wr.alloc (.cells #[.int .i64 z, .string Y] 134)) (some ⟨ga,oa,none⟩) (icells keep) := HLI.out.below (Nat.le_refl _) (below_alloc _ _)
     have ht1 : Typed (wr.alloc (.cells #[.int .i64 z, .string Y] 134)) (some ⟨ga,oa,none⟩) 3 := HTY.out.below (below_alloc _ _)
     have hF1 := (HF.out.alloc (.cells #[.int .i64 z, .string Y] 134))
     have hZ1 := Blk.new wr #[.int .i64 z, .string Y] 134
     obtain ⟨Z,hZ⟩ : ∃ Z,wr.heap.size = Z := ⟨_,rfl⟩
     rw [hZ] at hZ1
     simp only [hZ]
     clear hZ
     refine wp_region_held (S := fun w' => Blk w' D #[.slice (some ⟨gL,0,none⟩) n cL, .slice (some ⟨g,0,none⟩) m cS,vC, .bool off, .int .i64 cnt] 124 ∧ Blk w' Z #[.int .i64 z, .string Y] 134) mixed ?_
     change wpAnyH _ _ _ _ _ _ _ _ (wr.alloc (.cells #[.int .i64 z, .string Y] 134)).drew
     have hB2 : Blk (wr.alloc (.cells #[.int .i64 z, .string Y] 134)).drew D _ 124 := hB1
     have hL2 : (wr.alloc (.cells #[.int .i64 z, .string Y] 134)).drew.ownsRow 0 9 1 (.slice (some ⟨gL,0,none⟩) n cL) n (txc L1) := hL1
     have hS2 : (wr.alloc (.cells #[.int .i64 z, .string Y] 134)).drew.ownsRow 0 134 2 (.slice (some ⟨g,0,none⟩) m cS) m (scells S) := hS1
     have hZ2 : Blk (wr.alloc (.cells #[.int .i64 z, .string Y] 134)).drew Z _ 134 := hZ1
     have hl2 : Lies (wr.alloc (.cells #[.int .i64 z, .string Y] 134)).drew (some ⟨ga,oa,none⟩) (icells keep) := hl1
     have ht2 : Typed (wr.alloc (.cells #[.int .i64 z, .string Y] 134)).drew (some ⟨ga,oa,none⟩) 3 := ht1
     have hF2 : Frm X w (wr.alloc (.cells #[.int .i64 z, .string Y] 134)).drew := hF1.drew
     obtain ⟨W,hW⟩ : ∃ u,(wr.alloc (.cells #[.int .i64 z, .string Y] 134)).drew = u := ⟨_,rfl⟩
     rw [hW] at hB2 hL2 hS2 hZ2 hl2 ht2 hF2 ⊢
     clear hW hB1 hL1 hS1 hZ1 hl1 ht1 hF1 s0 s1 c0
     have hS0 := And.intro hB2 hZ2
     refine tkQ 0 (.pointer (some ⟨D,0,none⟩)) rfl hS0 ?_
     try go_simp
     refine tkQ 1 (.pointer (some ⟨D,0,none⟩)) rfl hS0 ?_
     try go_simp
     refine tkQ 2 (.pointer (some ⟨D,0,none⟩)) rfl hS0 ?_
     try go_simp
     refine tkH 3 (.slice (some ⟨gL,0,none⟩) n cL) rfl hS0 (fun w' hS => ?_) ?_
     ·have q0 := hS.1.cell 0;simp at q0;go_simp
     try go_simp
     refine tkQ 4 (.pointer (some ⟨Z,0,none⟩)) rfl hS0 ?_
     try go_simp
     refine tkH 5 (.int .i64 z) rfl hS0 (fun w' hS => ?_) ?_
     ·have q0 := hS.2.cell 0;simp at q0;go_simp
     try go_simp
     refine tkQ 6 (.pointer (some ⟨Z,1,none⟩)) rfl hS0 ?_
     try go_simp
     refine tkH 7 (.string Y) rfl hS0 (fun w' hS => ?_) ?_
     ·have q0 := hS.2.cell 1;simp at q0;go_simp
     try go_simp
     refine tkQ 8 (.pointer (some ⟨gL,z,none⟩)) rfl hS0 ?_
     try go_simp
     refine alH 9 ?_
     have r0 := hL2.cellAt z (by omega)
     have f0 := hL2.frozenAt z
     rw [txc_at _ z (by rw [HLN.out];exact hq)] at r0
     unfold wpOp
     go_simp
     have hne : gL ≠ D := fun e => own_ne_blk hL2 hB2 (by decide) (by rw [e];rfl)
     have hneZ : gL ≠ Z := fun e => own_ne_blk hL2 hZ2 (by decide) (by rw [e];rfl)
     have hgr := grown_set W gL z (.string Y)
     have hB3 := hB2.grown hgr (by simpa using hne)
     have hZ3 := hZ2.grown hgr (by simpa using hneZ)
     have hL3 := (World.ownsRow.stored hL2 z (.string Y)).1
     have hS3 := hS2.kept hgr (by
      rcases row_ne_row hS2 hL2 (by decide) with e | e
      ·exact .inl e
      ·exact .inr e)
     have hlt3 := hl2.grown ht2 hgr (fun x hx => by
      obtain ⟨cs,fr,hc⟩ := row_blk hL2
      cases hx
      exact ⟨cs,9,fr,hc,by decide⟩)
     have hF3 := hF2.setCell (p := ⟨gL,z,none⟩) (.inl HGX.out) (.string Y)
     have hL4 : (W.setCell ⟨gL,z,none⟩ (.string Y)).ownsRow 0 9 1 (.slice (some ⟨gL,0,none⟩) n cL) n (txc (overK (keptI keep) 0 L (S.take (k + 1)))) := by
      rw [HOK.out];simp only [if_true,txc_set,HY.out];exact hL3
     have HFN := Lib.hid (And.intro hB3 (And.intro hL4 (And.intro hS3 (And.intro hlt3.1 (And.intro hlt3.2 hF3)))))
     first | refine .inl ⟨⟨hB3,hZ3⟩, ?_⟩ | refine ⟨⟨hB3,hZ3⟩, ?_⟩
     refine wpAnyH_done (by kernel_rfl) ?_ _
     clear hB2 hL2 hS2 hZ2 hF2 hS0 r0 f0 hne hneZ hgr hB3 hZ3 hL3 hS3 hF3 hL4 hlt3 hl2 ht2
     go_wp2
     go_roundw
     case rel => exact ⟨k + 1,by omega,by go_num,HFN.out⟩
     case measure => simp [intOf];omega
    | false =>
     have hb1 : ¬ (b = 1) := by simpa using hk1'
     have hb2 : (b == 1) = false := by simpa using hk1'
     have HE := Lib.hid (HEND.out rfl)
     clear HEND HOK hk1'
     go_wp2
     go_roundw
     case rel => exact ⟨k + 1,by omega,by go_num,HE.out⟩
     case measure => simp [intOf];omega
   ·have hke' : kl = 0 := by omega
    have hkf : k1 = false := by rw [← hk1',hke'];rfl
    have HE := Lib.hid (HEND.out hkf)
    subst hke'
    clear HEND HOK hk1' hkf hkl
    go_wp2
    go_roundw
    case rel => exact ⟨k + 1,by omega,by go_num,HE.out⟩
    case measure => simp [intOf];omega
  ·obtain rfl : k = m := by omega
   have f1 := hB.frozen 1
   have f2 := hB.frozen 2
   have f3 := hB.frozen 3
   have x1 := hB.cell 1
   have x2 := hB.cell 2
   have x3 := hB.cell 3
   simp at x1 x2 x3
   have hB1 := ((hB.set 1 (.slice none 0 0)).set 2 (.pointer none)).set 3 (.bool true)
   simp at hB1
   have hL1 := own_set3' hL hB (by decide) 1 2 3 (.slice none 0 0) (.pointer none) (.bool true)
   have hF1 := ((hF.setCell (p := ⟨D,1,none⟩) (.inl HMEM.out.1) (.slice none 0 0)).setCell (p := ⟨D,2,none⟩) (.inl HMEM.out.1) (.pointer none)).setCell (p := ⟨D,3,none⟩) (.inl HMEM.out.1) (.bool true)
   rw [List.take_of_length_le (by rw [HX.out.2.2.2];exact Nat.le_refl _)] at hL1
   have hgd := HG.out
   have hln : (overK (keptI keep) 0 L S).length = n := by rw [overK_length,HX.out.2.2.1]
   have HFN := Lib.hid (show Dsk (((wr.setCell ⟨D,1,none⟩ (.slice none 0 0)).setCell ⟨D,2,none⟩ (.pointer none)).setCell ⟨D,3,none⟩ (.bool true)) X D ⟨overK (keptI keep) 0 L S,[],none,true⟩ ∧ Frm X w (((wr.setCell ⟨D,1,none⟩ (.slice none 0 0)).setCell ⟨D,2,none⟩ (.pointer none)).setCell ⟨D,3,none⟩ (.bool true)) from
    ⟨⟨⟨gL,cL, .slice none 0 0, .pointer none,cnt,by simp only [hln];exact hB1,by simp only [hln];exact hL1,World.ownsRow_nil _ _ _ _,rfl,HGX.out,fun g e => (by cases e)⟩,
     ⟨overK_good _ n S 0 L (fun x hx => hgd.lasts x (by rw [HX.out.1];exact hx)) (fun x hx => by have := hgd.wrote x (by rw [HX.out.2.1];exact hx);rwa [HX.out.1,HX.out.2.2.1] at this),fun x hx => (by cases hx),by simp only [hln];have := hgd.small;rw [HX.out.1,HX.out.2.2.1] at this;exact this⟩,HMEM.out.1,fun x hx => by have := HMEM.out.2 x hx;have := hF1.size;omega⟩,hF1⟩)
   clear hB hL hSr hF hB1 hL1 hF1 hl ht hgd hln
   go_wp2
   go_end0
   exact ⟨rfl,HFN.out⟩
theorem step_off {d : DS} (h : d.off = true) : d.step = (7,d) := by unfold DS.step;rw [h];rfl
theorem step_none {d : DS} (h : d.off = false) (hc : d.cut = none) : d.step = (0,d) := by unfold DS.step;rw [h,hc];rfl
theorem step_last {d : DS} {keep : List Int} (h : d.off = false) (hc : d.cut = some (1,keep)) : d.step = (7,d.fail keep) := by unfold DS.step;rw [h,hc];rfl
theorem step_more {d : DS} {n : Nat} {keep : List Int} (h : d.off = false) (hc : d.cut = some (n,keep)) (hn : n ≠ 1) : d.step = (0,⟨d.L,d.S,some (n - 1,keep),false⟩) := by
 unfold DS.step;rw [h,hc];simp [hn]
set_option maxHeartbeats 1000000 in
theorem step_any (X : List Nat) (D : Nat) (d : DS) (w : World) (h : Dsk w X D d) :
  Calls Tryz.prog 130 #[.pointer (some ⟨D,0,none⟩)] w fun e w' => e = .returned (.int .i64 (d.step.1 : Nat)) ∧ Dsk w' X D d.step.2 ∧ Frm X w w' := by
 obtain ⟨gL,cL,vS,vC,cnt,hB,hL,hSr,hC,hgX,hvX⟩ := h.blk
 have x2 := hB.cell 2
 have x3 := hB.cell 3
 have x4 := hB.cell 4
 have f4 := hB.frozen 4
 simp at x2 x3 x4
 have HD := Lib.hid h
 have HB := Lib.hid hB
 have HL := Lib.hid hL
 have HS := Lib.hid hSr
 have HC := Lib.hid hC
 have HG := Lib.hid hgX
 have HV := Lib.hid hvX
 cases ho : d.off with
 | true =>
  rw [step_off ho]
  rw [ho] at x3
  clear h hB hL hSr hC hgX hvX f4 x4 x2 ho
  go_enter Tryz.func130,Tryz.ntmps130
  go_wp2
  go_ret
  exact ⟨rfl,HD.out,Frm.refl _ _⟩
 | false =>
  rw [ho] at x3
  cases hc : d.cut with
  | none =>
   rw [step_none ho hc]
   rw [hc] at hC
   obtain rfl : vC = .pointer none := hC
   have KA := add_any ⟨D,4,none⟩ cnt w x4 f4
   clear h hB hL hSr hgX hvX f4 x4 hc
   go_enter Tryz.func130,Tryz.ntmps130
   go_wp2_with (go_at_call 34;refine KA.mono ?_;rintro e w1 ⟨⟨v,rfl⟩,rfl⟩)
   go_wp2
   go_ret
   have hs := HB.out.set 4 (.int .i64 (wrap64 (cnt + 1)))
   simp at hs
   exact ⟨rfl,⟨⟨gL,cL,vS, .pointer none,_,hs,own_set HL.out HB.out (by decide) 4 _,own_set HS.out HB.out (by decide) 4 _,HC.out.set HB.out (by decide) (by decide) 4 _,HG.out,HV.out⟩,HD.out.good,HD.out.mem,fun x hx => by simpa using HD.out.lt x hx⟩,(Frm.refl _ w).setCell (p := ⟨D,4,none⟩) (.inl HD.out.mem) _⟩
  | some p =>
   obtain ⟨n,keep⟩ := p
   rw [hc] at hC
   obtain ⟨n1,n2,k1,C,A,c,rfl,hCX,hCB,hKL,hKT,hKX⟩ := hC
   have y0 := hCB.cell 0
   have y1 := hCB.cell 1
   have g0 := hCB.frozen 0
   simp at y0 y1
   have hCD : C ≠ D := fun e => by
    subst e
    unfold Blk at hB hCB
    rw [hB] at hCB
    simp at hCB
   obtain ⟨u,hu⟩ : ∃ u : Value, .int .i64 ((n - 1 : Nat) : Int) = u := ⟨_,rfl⟩
   have hB1 : Blk (w.setCell ⟨C,0,none⟩ u) D _ 124 := (Below.heap_setCell w ⟨C,0,none⟩ u D (fun e => hCD e.symm)).trans hB
   have hCB1 := hCB.set 0 u
   have hL1 := own_set hL hCB (by decide) 0 u
   have hS1 := own_set hSr hCB (by decide) 0 u
   have hKLT := hKL.grown hKT (grown_set w C 0 u) (fun x hx => by cases hx;exact ⟨_,_,_,hCB,by decide⟩)
   have hF1 := (Frm.refl X w).setCell (p := ⟨C,0,none⟩) (.inl hCX) u
   have hlt1 : ∀ x ∈ X,x < (w.setCell ⟨C,0,none⟩ u).heap.size := fun x hx => by simpa using HD.out.lt x hx
   by_cases hn1 : n = 1
   ·subst hn1
    rw [step_last ho hc]
    have KF := fail_core X D d A c keep (w.setCell ⟨C,0,none⟩ u) gL cL vS (.pointer (some ⟨C,0,none⟩)) false cnt (by simpa [ho] using hB1) hL1 hS1 hgX h.good h.mem hlt1 hKLT.1 hKLT.2 k1
    obtain ⟨kl,hkl⟩ : ∃ k,keep.length = k := ⟨_,rfl⟩
    rw [hkl] at KF y1
    have hu0 : u = .int .i64 0 := by rw [← hu];rfl
    subst hu0
    have HF1 := Lib.hid hF1
    clear h hB hL hSr hgX hvX f4 x4 hc hCB hKL hKT hKX hB1 hCB1 hL1 hS1 hKLT hF1 hlt1 hu hkl n1 n2 k1 hCX
    go_enter Tryz.func130,Tryz.ntmps130
    go_wp2_with (go_at_call 60;refine KF.mono ?_;rintro e w1 ⟨rfl,hD1,hF1⟩)
    go_wp2
    go_ret
    exact ⟨rfl,hD1,HF1.out.trans hF1 (fun y hy => .inl hy)⟩
   ·rw [step_more ho hc hn1]
    have hu1 : u = .int .i64 ((n : Int) - 1) := by rw [← hu];congr 1;omega
    subst hu1
    have a4 := hB1.cell 4
    have b4 := hB1.frozen 4
    simp at a4
    have KA := add_any ⟨D,4,none⟩ cnt _ a4 b4
    have hB2 := hB1.set 4 (.int .i64 (wrap64 (cnt + 1)))
    simp at hB2
    have hC2 : Blk _ C _ 231 := (Below.heap_setCell (w.setCell ⟨C,0,none⟩ (.int .i64 ((n : Int) - 1))) ⟨D,4,none⟩ (.int .i64 (wrap64 (cnt + 1))) C hCD).trans hCB1
    have hKLT2 := hKLT.1.grown hKLT.2 (grown_set _ D 4 (.int .i64 (wrap64 (cnt + 1)))) (fun x hx => by cases hx;exact ⟨_,_,_,hB1,by decide⟩)
    have hF2 := hF1.setCell (p := ⟨D,4,none⟩) (.inl h.mem) (.int .i64 (wrap64 (cnt + 1)))
    have hL2 := own_set hL1 hB1 (by decide) 4 (.int .i64 (wrap64 (cnt + 1)))
    have hS2 := own_set hS1 hB1 (by decide) 4 (.int .i64 (wrap64 (cnt + 1)))
    have HFN := Lib.hid (show Dsk ((w.setCell ⟨C,0,none⟩ (.int .i64 ((n : Int) - 1))).setCell ⟨D,4,none⟩ (.int .i64 (wrap64 (cnt + 1)))) X D ⟨d.L,d.S,some (n - 1,keep),false⟩ ∧ Frm X w ((w.setCell ⟨C,0,none⟩ (.int .i64 ((n : Int) - 1))).setCell ⟨D,4,none⟩ (.int .i64 (wrap64 (cnt + 1)))) from
     ⟨⟨⟨gL,cL,vS,_,_,by simpa [ho] using hB2,hL2,hS2,⟨by omega,by omega,k1,C,A,c,rfl,hCX,by
      have : ((n - 1 : Nat) : Int) = (n : Int) - 1 := by omega
      rw [this];simpa using hC2,hKLT2.1,hKLT2.2,hKX⟩,hgX,hvX⟩,⟨h.good.lasts,h.good.wrote,h.good.small⟩,h.mem,fun x hx => by simpa using hlt1 x hx⟩,hF2⟩)
    have n1' : (1 : Int) ≤ (n : Int) := by omega
    have n2' : (n : Int) ≤ 9223372036854775807 := by omega
    have hne : ¬ ((n : Int) - 1 = 0) := by omega
    have hnb : ((n : Int) - 1 == 0) = false := by simpa using hne
    clear h hB hL hSr hgX hvX f4 x4 hc hCB hKL hKT hKX hB1 hCB1 hL1 hS1 hKLT hF1 hlt1 hu hCX a4 b4 hB2 hC2 hKLT2 hF2 hL2 hS2 y1 n1 n2 k1 hn1
    go_enter Tryz.func130,Tryz.ntmps130
    go_wp2_with (go_at_call 34;refine KA.mono ?_;rintro e w1 ⟨⟨v,rfl⟩,rfl⟩)
    go_wp2
    go_ret
    exact ⟨rfl,HFN.out⟩
open Go.RowKit
theorem read_out (X : List Nat) (D : Nat) (d : DS) (i : Int) (w : World) (h : Dsk w X D d) (hi : ¬ (0 ≤ i ∧ i < d.L.length)) :
  Calls Tryz.prog 29 #[.pointer (some ⟨D,0,none⟩), .int .i64 i] w fun e w' => e = .returned (.tuple #[.string ⟨#[]⟩, .int .i64 1]) ∧ w' = w := by
 have K := has_any X D d i w h
 rw [decide_eq_false hi] at K
 clear h hi
 go_enter Tryz.func29,Tryz.ntmps29
 go_wp2_with (go_at_call 70;refine K.mono ?_;rintro e w1 ⟨rfl,rfl⟩)
 go_wp2
 go_ret2
 exact ⟨rfl,rfl⟩
theorem full_length (d : Bs) (h : d.length ≤ 512) : (fullB d).length = 512 := by unfold fullB;rw [List.length_append,List.length_replicate];omega
theorem info141 : (Tryz.prog.info? 134).map (fun i => (i.zero,i.size,i.bytes)) = some (some (.agg #[.int .i64 0, .string ⟨#[]⟩]),2,24) := by kernel_rfl
theorem step_num (d : DS) : d.step.1 = 0 ∨ d.step.1 = 7 := by
 unfold DS.step
 split
 ·exact .inr rfl
 ·split
  ·exact .inl rfl
  ·split
   ·exact .inr rfl
   ·exact .inl rfl
theorem step_len (d : DS) : d.step.2.L.length = d.L.length := by
 unfold DS.step
 split
 ·rfl
 ·split
  ·rfl
  ·split
   ·exact overK_length _ _ _ _
   ·rfl
theorem step_S (d : DS) (h : d.step.1 = 0) : d.step.2.S = d.S ∧ d.step.2.L = d.L ∧ d.step.2.off = false ∧ d.off = false := by
 unfold DS.step at h ⊢
 cases ho : d.off with
 | true => rw [ho] at h;simp at h
 | false =>
  rw [ho] at h
  simp only [Bool.false_eq_true,if_false] at h ⊢
  split at h
  ·exact ⟨rfl,rfl,ho,trivial⟩
  ·split at h
   ·cases h
   ·rename_i hn;simp [hn]
theorem CutAt.mono {w : World} {X Y : List Nat} {v : Value} {o : Option (Nat × List Int)} (h : CutAt w X v o) (hXY : ∀ x ∈ X,x ∈ Y) : CutAt w Y v o := by
 cases o with
 | none => exact h
 | some p =>
  obtain ⟨n,keep⟩ := p
  obtain ⟨h1,h2,h3,C,A,c,h4,h5,h6,h7,h8,h9⟩ := h
  exact ⟨h1,h2,h3,C,A,c,h4,hXY _ h5,h6,h7,h8,fun a ha => hXY _ (h9 a ha)⟩
theorem CutAt.below {w w' : World} {X : List Nat} {v : Value} {o : Option (Nat × List Int)} (h : CutAt w X v o) (hb : Below w.heap.size w w') : CutAt w' X v o := h.frm (Frm.of_below [] hb) (fun _ _ => by simp)
set_option maxRecDepth 100000 in
set_option maxHeartbeats 1000000 in
theorem write_any (XB : List Nat) (D : Nat) (ds : DS) (i : Nat) (d : Bs) (w : World) (h : Dsk w XB D ds) (hi : i < ds.L.length) (hd : d.length ≤ 512) (hS : ds.S.length ≤ 1000000) :
  Calls Tryz.prog 91 #[.pointer (some ⟨D,0,none⟩), .int .i64 i, .string (mk d)] w fun e w' => e = .returned (.int .i64 ((ds.write i d).1 : Nat)) ∧ ∃ X',Dsk w' X' D (ds.write i d).2 ∧ Mv XB X' w w' := by
 have K := has_any XB D ds i w h
 rw [show decide (0 ≤ (i : Int) ∧ (i : Int) < ds.L.length) = true by simp;omega] at K
 have KS := step_any XB D ds w h
 have KF := fun w => full_any d w hd
 rcases step_num ds with hs0 | hs7
 case inr =>
  have hwr : ds.write i d = ds.step := by unfold DS.write;rw [if_neg (by omega)]
  rw [hwr]
  obtain ⟨d7,hd7⟩ : ∃ q,ds.step.2 = q := ⟨_,rfl⟩
  rw [hs7,hd7] at KS
  rw [hs7,hd7]
  have zd : (mk d).size = d.length := mk_size d
  have hdl : ¬ ((512 : Int) < (d.length : Int)) := by omega
  obtain ⟨n,hn⟩ : ∃ n,d.length = n := ⟨_,rfl⟩
  obtain ⟨ii,hii⟩ : ∃ ii : Int,(i : Int) = ii := ⟨_,rfl⟩
  obtain ⟨X,hX⟩ : ∃ X,mk d = X := ⟨_,rfl⟩
  rw [hX,hn] at zd
  rw [hX]
  rw [hn] at hdl
  rw [hii] at K ⊢
  clear h hs7 hd7 hwr hX hii hn hi hd hS KF
  go_enter Tryz.func91,Tryz.ntmps91
  go_wp2_with (first
   | (go_at_call 70;refine K.mono ?_;rintro e w1 ⟨rfl,hw⟩;obtain rfl := hw.symm)
   | (go_at_call 130;refine KS.mono ?_;rintro e w2 ⟨rfl,hD2,hF2⟩))
  go_wp2
  go_ret
  exact ⟨rfl,XB,hD2, .of_frm hF2⟩
 have hwr : ds.write i d = (0,⟨ds.step.2.L,ds.step.2.S ++ [(i,fullB d)],ds.step.2.cut,ds.step.2.off⟩) := by unfold DS.write;rw [if_pos hs0]
 have hln := step_len ds
 have hSe := (step_S ds hs0).1
 rw [hwr]
 rw [← hSe] at hS
 rw [← hln] at hi
 obtain ⟨d1,hd1⟩ : ∃ q,ds.step.2 = q := ⟨_,rfl⟩
 rw [hs0,hd1] at KS
 rw [hd1] at hS hi
 rw [hd1]
 clear hs0 hwr hln hSe hd1
 obtain ⟨i141,hi0,hi1,hi2,hi3⟩ := info_parts info141
 have zd : (mk d).size = d.length := mk_size d
 have hdl : ¬ ((512 : Int) < (d.length : Int)) := by omega
 obtain ⟨ii,hii⟩ : ∃ ii : Int,(i : Int) = ii := ⟨_,rfl⟩
 obtain ⟨X,hX⟩ : ∃ X,mk d = X := ⟨_,rfl⟩
 obtain ⟨R,hR⟩ : ∃ X,mk (fullB d) = X := ⟨_,rfl⟩
 rw [hX] at zd
 rw [hX,hR] at KF
 rw [hX]
 have HR := Lib.hid hR
 obtain ⟨m,hm⟩ : ∃ m,d1.S.length = m := ⟨_,rfl⟩
 rw [hm] at hS
 have HM := Lib.hid hm
 rw [hii] at K ⊢
 have HII := Lib.hid hii
 clear h hX hR hm hii
 go_enter Tryz.func91,Tryz.ntmps91
 go_upto_region 6 with (first
  | (go_at_call 70;refine K.mono ?_;rintro e w1 ⟨rfl,hw⟩;obtain rfl := hw.symm)
  | (go_at_call 130;refine KS.mono ?_;rintro e w2 ⟨rfl,hD2,hF2⟩))
 obtain ⟨gL,cL,vS,vC,cnt,hB,hL,hvS,hC,hgX,hvX⟩ := hD2.blk
 obtain ⟨n,hn⟩ : ∃ n,d1.L.length = n := ⟨_,rfl⟩
 rw [hn] at hB hL
 obtain ⟨off,hoff⟩ : ∃ n,d1.off = n := ⟨_,rfl⟩
 rw [hoff] at hB
 have HN := Lib.hid (And.intro hn hoff)
 clear hn hoff
 obtain ⟨W0,hW0⟩ : ∃ u,w2.drew = u := ⟨_,rfl⟩
 have hB0 : Blk W0 D #[.slice (some ⟨gL,0,none⟩) n cL,vS,vC, .bool off, .int .i64 cnt] 124 := by rw [← hW0];exact hB
 have hL0 : W0.ownsRow 0 9 1 (.slice (some ⟨gL,0,none⟩) n cL) n (txc d1.L) := by rw [← hW0];exact hL
 have hS0 : W0.ownsRow 0 134 2 vS m (scells d1.S) := by rw [← hW0, ← HM.out];exact hvS
 have hC0 : CutAt W0 XB vC d1.cut := by rw [← hW0];exact hC
 have hF0 : Frm XB w W0 := by rw [← hW0];exact hF2.drew
 have hz0 : w2.heap.size ≤ W0.heap.size := by rw [← hW0];exact Nat.le_refl _
 have HGX := Lib.hid (And.intro hgX hvX)
 clear hC hgX hvX
 have HD := Lib.hid hD2
 clear hD2 hF2 hB hL hvS K KS
 have mixed := mixedT
 refine wp_region_S 13 (fun _ => True) (fun w' => w'.cell? ⟨D,1,none⟩ = some vS) mixed ?_
 change wpAnyS _ _ _ _ _ _ _ _ _ _ w2.drew
 rw [hW0]
 clear hW0
 have x0 := hB0.cell 1
 simp at x0
 have HE0 : ∀ L : Array Bool,HeldS 13 (fun _ => True) (fun w' => w'.cell? ⟨D,1,none⟩ = some vS) L W0 := fun L => ⟨trivial,fun _ => x0⟩
 refine tkS 0 (.pointer (some ⟨D,0,none⟩)) rfl (HE0 _) (fun w' hS => ?_) ?_
 ·clear hS;go_simp
 try go_simp
 refine tkS 1 (.pointer (some ⟨D,0,none⟩)) rfl (HE0 _) (fun w' hS => ?_) ?_
 ·clear hS;go_simp
 try go_simp
 refine tkS 2 (.pointer (some ⟨D,0,none⟩)) rfl (HE0 _) (fun w' hS => ?_) ?_
 ·clear hS;go_simp
 try go_simp
 refine tkS 3 (.pointer (some ⟨D,1,none⟩)) rfl (HE0 _) (fun w' hS => ?_) ?_
 ·clear hS;go_simp
 try go_simp
 refine wpAnyS_take2 (i := 4) (v := vS) rfl (by decide) rfl (by kernel_rfl) (by kernel_rfl) (by kernel_rfl) (by kernel_rfl) (by kernel_rfl) (fun c a w h => h) (.inl ⟨by kernel_rfl,fun w' hS => ?_⟩) (HE0 _) ?_
 ·have hS0 := hS.2;go_simp
 try go_simp
 refine tkS 5 (.int .i64 ii) rfl (HE0 _) (fun w' hS => ?_) ?_
 ·clear hS;go_simp
 try go_simp
 refine tkS 6 (.string X) rfl (HE0 _) (fun w' hS => ?_) ?_
 ·clear hS;go_simp
 try go_simp
 refine alS 7 ?_
 unfold wpOp
 go_simp
 refine .inl ?_
 go_at_call 71
 refine (KF _).mono ?_
 rintro e W1 ⟨rfl,hb1⟩
 have hB1 := hB0.below hb1
 have hL1 := own_below hL0 hb1
 have hS1 := own_below hS0 hb1
 have hF1 := hF0.trans (Frm.of_below [] hb1) (by simp)
 have hC1 := hC0.below hb1
 have x1 := hB1.cell 1
 simp at x1
 have HE1 : ∀ L : Array Bool,HeldS 13 (fun _ => True) (fun w' => w'.cell? ⟨D,1,none⟩ = some vS) L W1 := fun L => ⟨trivial,fun _ => x1⟩
 refine ⟨HE1 _, ?_⟩
 try go_simp
 refine tkS 8 (.agg #[.int .i64 ii, .string R]) rfl (HE1 _) (fun w' hS => ?_) ?_
 ·clear hS;go_simp
 try go_simp
 refine alS 9 ?_
 unfold wpOp
 go_simp
 have hN := World.news_of_block (cs := #[.int .i64 ii, .string R]) (heap_alloc_new W1 (.cells #[.int .i64 ii, .string R] 134))
 have hB2 := hB1.alloc (.cells #[.int .i64 ii, .string R] 134)
 have hL2 := World.ownsRow.alloc hL1 (.cells #[.int .i64 ii, .string R] 134)
 have hS2 := World.ownsRow.alloc hS1 (.cells #[.int .i64 ii, .string R] 134)
 have hF2 := hF1.alloc (.cells #[.int .i64 ii, .string R] 134)
 have hC2 := hC1.alloc (.cells #[.int .i64 ii, .string R] 134)
 obtain ⟨Z,hZ⟩ : ∃ Z,W1.heap.size = Z := ⟨_,rfl⟩
 obtain ⟨W2,hW2⟩ : ∃ u,W1.alloc (.cells #[.int .i64 ii, .string R] 134) = u := ⟨_,rfl⟩
 rw [hZ] at hN
 rw [hW2] at hN hB2 hL2 hS2 hF2 hC2
 try rw [hZ]
 rw [hW2]
 have hz2 : W1.heap.size ≤ W2.heap.size := by rw [← hW2];simp
 clear hW2 hZ
 have x2 := hB2.cell 1
 simp at x2
 have HE2 : ∀ L : Array Bool,HeldS 13 (fun _ => True) (fun w' => w'.cell? ⟨D,1,none⟩ = some vS) L W2 := fun L => ⟨trivial,fun _ => x2⟩
 first | refine .inl ⟨HE2 _, ?_⟩ | refine ⟨HE2 _, ?_⟩
 refine alS 10 ?_
 refine wpOp_of rfl rfl (wp_append_lies (P := Tryz.prog) W2 (.tmp 26) (.tmp 31) 121 rfl 0 134 i141 _ 2 24 Tryz.underlying121 hi0 hi1 hi2 hi3 (by rfl) (by decide) vS m (scells d1.S) (by rfl) hS2 ⟨Z,0,none⟩ 1 1 [.int .i64 ii, .string R] (by rfl) (by rfl) hN (by simp [Value.oneCell']) (by omega) (by unfold maxLen;omega) (by omega) (Nat.zero_le _) W2.heap.size rfl ?_)
 intro g3 c3 W3 hS3 hg3 hat3 _
 have hne := own_ne_blk hS2 hB2 (by decide)
 have hB3 := hB2.grown hg3 hne
 have hL3 := hL2.kept hg3 (row_ne_row hL2 hS2 (by decide))
 have hF3 := hF2.grown hg3 (fun k hk => .inl (HGX.out.2 k hk))
 have hC3 := hC2.grown hg3 (fun g hg => by
  obtain ⟨c,fr,hc⟩ := row_kind hS2 g hg
  exact ⟨c,134,fr,hc,by decide,by decide⟩)
 have x3 := hB3.cell 1
 have f3 := hB3.frozen 1
 simp at x3
 have HE3 : ∀ L : Array Bool,HeldS 13 (fun _ => True) (fun w' => w'.cell? ⟨D,1,none⟩ = some vS) L W3 := fun L => ⟨trivial,fun _ => x3⟩
 refine ⟨HE3 _, ?_⟩
 try go_simp
 refine tkS 11 (.pointer (some ⟨D,0,none⟩)) rfl (HE3 _) (fun w' hS => ?_) ?_
 ·clear hS;go_simp
 try go_simp
 refine tkS 12 (.pointer (some ⟨D,1,none⟩)) rfl (HE3 _) (fun w' hS => ?_) ?_
 ·clear hS;go_simp
 try go_simp
 refine alS 13 ?_
 unfold wpOp
 go_simp
 have HE4 : ∀ L : Array Bool,L.getD 13 false = true → HeldS 13 (fun _ => True) (fun w' => w'.cell? ⟨D,1,none⟩ = some vS) L (W3.setCell ⟨D,1,none⟩ (.slice (some ⟨g3,0,none⟩) (m + 1) c3)) := fun L hL => ⟨trivial,fun e => by rw [hL] at e;cases e⟩
 first | refine .inl ⟨HE4 _ (by kernel_rfl), ?_⟩ | refine ⟨HE4 _ (by kernel_rfl), ?_⟩
 refine wpAnyS_done (by kernel_rfl) ?_ _
 have hB4 := hB3.set 1 (.slice (some ⟨g3,0,none⟩) (m + 1) c3)
 simp at hB4
 have hL4 := own_set hL3 hB3 (by decide) 1 (.slice (some ⟨g3,0,none⟩) (m + 1) c3)
 have hS4 := own_set hS3 hB3 (by decide) 1 (.slice (some ⟨g3,0,none⟩) (m + 1) c3)
 have hF4 := hF3.setCell (p := ⟨D,1,none⟩) (.inl HD.out.mem) (.slice (some ⟨g3,0,none⟩) (m + 1) c3)
 have hC4 := hC3.set hB3 (by decide) (by decide) 1 (.slice (some ⟨g3,0,none⟩) (m + 1) c3)
 have hs2 := hF2.size
 have hg3l := (hS4.lt g3 rfl).2
 have HFIN := Lib.hid (show ∃ X',Dsk (W3.setCell ⟨D,1,none⟩ (.slice (some ⟨g3,0,none⟩) (m + 1) c3)) X' D ⟨d1.L,d1.S ++ [(i,fullB d)],d1.cut,d1.off⟩ ∧ Mv XB X' w (W3.setCell ⟨D,1,none⟩ (.slice (some ⟨g3,0,none⟩) (m + 1) c3)) from by
  refine ⟨g3 :: XB,⟨⟨gL,cL, .slice (some ⟨g3,0,none⟩) (m + 1) c3,vC,cnt, ?_, ?_, ?_,hC4.mono (fun x hx => List.mem_cons_of_mem _ hx),List.mem_cons_of_mem _ HGX.out.1,fun g hg => ?_⟩,⟨HD.out.good.lasts,fun x hx => ?_,HD.out.good.small⟩,List.mem_cons_of_mem _ HD.out.mem,fun x hx => ?_⟩,hF4,fun x hx => ?_⟩
  ·simp only [HN.out.1,HN.out.2];exact hB4
  ·simp only [HN.out.1];exact hL4
  ·rw [scells_snoc,List.length_append,HM.out]
   simp only [HII.out,HR.out]
   exact hS4
  ·simp only [Value.ownBlock,Option.some.injEq] at hg
   subst hg
   exact List.mem_cons_self ..
  ·rcases List.mem_append.1 hx with hx | hx
   ·exact HD.out.good.wrote x hx
   ·rw [List.mem_singleton] at hx
    subst hx
    exact ⟨hi,full_length d hd⟩
  ·rcases List.mem_cons.1 hx with rfl | hx
   ·exact hg3l
   ·exact Nat.lt_of_lt_of_le (HD.out.lt x hx) (by have := hb1.size;have := hg3.size;simp;omega)
  ·rcases List.mem_cons.1 hx with rfl | hx
   ·rcases hat3 with e | e
    ·exact .inl (HGX.out.2 _ e)
    ·exact .inr (by omega)
   ·exact .inl hx)
 clear hB0 hB1 hB2 hB3 hB4 hL0 hL1 hL2 hL3 hL4 hS0 hS1 hS2 hS3 hS4 hF0 hF1 hF2 hF3 hF4 hC0 hC1 hC2 hC3 hC4 HE0 HE1 HE2 HE3 HE4 x0 x1 x2 x3 f3 hat3 hne hg3 hN KF
 go_wp2
 go_ret
 exact ⟨rfl,HFIN.out⟩
open Go.RowKit
theorem over_take (L : List Bs) (S : List (Nat × Bs)) (k : Nat) (h : k < S.length) : overlay L (S.take (k + 1)) = (overlay L (S.take k)).set S[k].1 S[k].2 := by
 rw [List.take_succ_eq_append_getElem h,overlay_snoc]
theorem over_good (n : Nat) (S : List (Nat × Bs)) : ∀ L,(∀ x ∈ L,x.length = 512) → (∀ x ∈ S,x.1 < n ∧ x.2.length = 512) → ∀ x ∈ overlay L S,x.length = 512 := by
 induction S with
 | nil => intro L h _;exact h
 | cons y S ih =>
  intro L h hS
  unfold overlay at ih ⊢
  rw [List.foldl_cons]
  refine ih _ (fun x hx => ?_) (fun z hz => hS z (List.mem_cons_of_mem _ hz))
  rcases List.mem_or_eq_of_mem_set hx with hx | rfl
  ·exact h x hx
  ·exact (hS y (List.mem_cons_self ..)).2
set_option maxRecDepth 100000 in
set_option maxHeartbeats 2000000 in
theorem sync_any (XB : List Nat) (D : Nat) (ds : DS) (w : World) (h : Dsk w XB D ds) :
  Calls Tryz.prog 92 #[.pointer (some ⟨D,0,none⟩)] w fun e w' => e = .returned (.int .i64 (ds.sync.1 : Nat)) ∧ Dsk w' XB D ds.sync.2 ∧ Frm XB w w' := by
 have KS := step_any XB D ds w h
 rcases step_num ds with hs0 | hs7
 case inr =>
  have hwr : ds.sync = ds.step := by unfold DS.sync;rw [if_neg (by omega)]
  rw [hwr]
  obtain ⟨d7,hd7⟩ : ∃ q,ds.step.2 = q := ⟨_,rfl⟩
  rw [hs7,hd7] at KS
  rw [hs7,hd7]
  clear h hs7 hd7 hwr
  go_enter Tryz.func92,Tryz.ntmps92
  go_wp2_with (go_at_call 130;refine KS.mono ?_;rintro e w2 ⟨rfl,hD2,hF2⟩)
  go_wp2
  go_ret
  exact ⟨rfl,hD2,hF2⟩
 have hwr : ds.sync = (0,⟨overlay ds.step.2.L ds.step.2.S,[],ds.step.2.cut,ds.step.2.off⟩) := by unfold DS.sync;rw [if_pos hs0]
 rw [hwr]
 obtain ⟨d1,hd1⟩ : ∃ q,ds.step.2 = q := ⟨_,rfl⟩
 rw [hs0,hd1] at KS
 rw [hd1]
 have HLT := Lib.hid h.lt
 clear hs0 hwr hd1 h
 obtain ⟨L,S,ct,off⟩ := d1
 dsimp only
 go_enter Tryz.func92,Tryz.ntmps92
 have mixed := mixedT
 go_upto_region 6 with (go_at_call 130;refine KS.mono ?_;rintro e w2 ⟨rfl,hD2,hF2⟩)
 obtain ⟨gL,cL,vS,vC,cnt,hB,hL,hSr,hC,hgX,hvX⟩ := hD2.blk
 have HGD := Lib.hid (And.intro hD2.good (And.intro hD2.mem (And.intro hD2.lt (And.intro hgX hvX))))
 dsimp only at hB hL hSr hC
 obtain ⟨n,hn⟩ : ∃ n,L.length = n := ⟨_,rfl⟩
 obtain ⟨m,hm⟩ : ∃ m,S.length = m := ⟨_,rfl⟩
 rw [hn] at hB hL
 rw [hm] at hSr
 obtain ⟨A,c,hvS⟩ : ∃ A c,vS = .slice A m c := row_form hSr
 rw [hvS] at hB hSr
 have hm63 : m ≤ 9223372036854775807 := len63 hSr
 have HLN := Lib.hid hn
 have HM := Lib.hid hm
 have HWR := Lib.hid (show (∀ x ∈ L,x.length = 512) ∧ (∀ x ∈ S,x.1 < n ∧ x.2.length = 512) ∧ n ≤ 4096 by
  have := hD2.good
  exact ⟨this.lasts,fun x hx => by have := this.wrote x hx;dsimp only at this;rwa [hn] at this,by have := this.small;dsimp only at this;rwa [hn] at this⟩)
 have x1 := hB.cell 1
 simp at x1
 have HB := Lib.hid hB
 have HL := Lib.hid hL
 have HSr := Lib.hid hSr
 have HC := Lib.hid hC
 have HF := Lib.hid hF2
 clear hD2 hF2 hB hL hSr KS hC hgX hvX hn hm hvS
 go_wp2
 clear x1
 go_loopw [18] (fun kv wr => ∃ k : Nat,k ≤ m ∧ kv = .int .i64 k ∧ Blk wr D #[.slice (some ⟨gL,0,none⟩) n cL, .slice A m c,vC, .bool off, .int .i64 cnt] 124 ∧ wr.ownsRow 0 9 1 (.slice (some ⟨gL,0,none⟩) n cL) n (txc (overlay L (S.take k))) ∧ wr.ownsRow 0 134 2 (.slice A m c) m (scells S) ∧ CutAt wr XB vC ct ∧ Frm XB w wr) (fun kv _ => m - (intOf kv).toNat)
 case atStart => exact ⟨0,by omega,rfl,HB.out,by simpa [overlay] using HL.out,HSr.out,HC.out,HF.out⟩
 case round =>
  obtain ⟨k,hk,rfl,hB,hL,hSr,hC,hF⟩ := hrel
  by_cases hkm : k < m
  ·have hkl : k < S.length := by have := HM.out;omega
   obtain ⟨g,c',hA,s0,s1⟩ := since_at hSr HM.out k hkl
   injection hA with hA1 _ hA3
   subst hA1 hA3
   obtain ⟨hq,_⟩ := HWR.out.2.1 _ (List.getElem_mem hkl)
   have HOT := Lib.hid (over_take L S k hkl)
   obtain ⟨z,hz⟩ : ∃ z,S[k].1 = z := ⟨_,rfl⟩
   obtain ⟨X,hX⟩ : ∃ X,mk S[k].2 = X := ⟨_,rfl⟩
   rw [hz] at s0 hq
   rw [hX] at s1
   have HZX := Lib.hid (And.intro hz hX)
   clear hz hX
   have HB := Lib.hid hB
   have HL := Lib.hid hL
   have HSr := Lib.hid hSr
   have HF := Lib.hid hF
   have HC := Lib.hid hC
   have k0 : (0 : Int) ≤ (k : Int) := by omega
   have k1 : (k : Int) < (m : Int) := by omega
   have z0 : (0 : Int) ≤ (z : Int) := by omega
   have z1 : (z : Int) < (n : Int) := by omega
   clear hB hL hSr hF hC
   go_wp2
   have hB1 := HB.out.alloc (.cells #[.int .i64 z, .string X] 134)
   have hL1 := World.ownsRow.alloc HL.out (.cells #[.int .i64 z, .string X] 134)
   have hS1 := World.ownsRow.alloc HSr.out (.cells #[.int .i64 z, .string X] 134)
   have hF1 := (HF.out.alloc (.cells #[.int .i64 z, .string X] 134)).drew
   have hC1 := (HC.out.alloc (.cells #[.int .i64 z, .string X] 134)).drew
   have hZ1 := Blk.new wr #[.int .i64 z, .string X] 134
   obtain ⟨Z,hZ⟩ : ∃ Z,wr.heap.size = Z := ⟨_,rfl⟩
   rw [hZ] at hZ1
   simp only [hZ]
   clear hZ
   refine wp_region_held (S := fun w' => Blk w' D #[.slice (some ⟨gL,0,none⟩) n cL, .slice (some ⟨g,0,none⟩) m c,vC, .bool off, .int .i64 cnt] 124 ∧ Blk w' Z #[.int .i64 z, .string X] 134) mixed ?_
   change wpAnyH _ _ _ _ _ _ _ _ (wr.alloc (.cells #[.int .i64 z, .string X] 134)).drew
   have hB2 : Blk (wr.alloc (.cells #[.int .i64 z, .string X] 134)).drew D #[.slice (some ⟨gL,0,none⟩) n cL, .slice (some ⟨g,0,none⟩) m c,vC, .bool off, .int .i64 cnt] 124 := hB1
   have hL2 : (wr.alloc (.cells #[.int .i64 z, .string X] 134)).drew.ownsRow 0 9 1 (.slice (some ⟨gL,0,none⟩) n cL) n (txc (overlay L (S.take k))) := hL1
   have hS2 : (wr.alloc (.cells #[.int .i64 z, .string X] 134)).drew.ownsRow 0 134 2 (.slice (some ⟨g,0,none⟩) m c) m (scells S) := hS1
   have hZ2 : Blk (wr.alloc (.cells #[.int .i64 z, .string X] 134)).drew Z #[.int .i64 z, .string X] 134 := hZ1
   obtain ⟨W,hW⟩ : ∃ u,(wr.alloc (.cells #[.int .i64 z, .string X] 134)).drew = u := ⟨_,rfl⟩
   rw [hW] at hB2 hL2 hS2 hZ2 hF1 hC1 ⊢
   clear hW hB1 hL1 hS1 hZ1 s0 s1
   have hS0 := And.intro hB2 hZ2
   refine tkQ 0 (.pointer (some ⟨D,0,none⟩)) rfl hS0 ?_
   try go_simp
   refine tkQ 1 (.pointer (some ⟨D,0,none⟩)) rfl hS0 ?_
   try go_simp
   refine tkQ 2 (.pointer (some ⟨D,0,none⟩)) rfl hS0 ?_
   try go_simp
   refine tkH 3 (.slice (some ⟨gL,0,none⟩) n cL) rfl hS0 (fun w' hS => ?_) ?_
   ·have q0 := hS.1.cell 0;simp at q0;go_simp
   try go_simp
   refine tkQ 4 (.pointer (some ⟨Z,0,none⟩)) rfl hS0 ?_
   try go_simp
   refine tkH 5 (.int .i64 z) rfl hS0 (fun w' hS => ?_) ?_
   ·have q0 := hS.2.cell 0;simp at q0;go_simp
   try go_simp
   refine tkQ 6 (.pointer (some ⟨Z,1,none⟩)) rfl hS0 ?_
   try go_simp
   refine tkH 7 (.string X) rfl hS0 (fun w' hS => ?_) ?_
   ·have q0 := hS.2.cell 1;simp at q0;go_simp
   try go_simp
   refine tkQ 8 (.pointer (some ⟨gL,z,none⟩)) rfl hS0 ?_
   try go_simp
   refine alH 9 ?_
   have hz63 : z < n := by omega
   have r0 := hL2.cellAt z (by omega)
   have f0 := hL2.frozenAt z
   rw [txc_at _ z (by rw [overlay_length,HLN.out];exact hz63)] at r0
   unfold wpOp
   go_simp
   have hne : gL ≠ D := fun e => own_ne_blk hL2 hB2 (by decide) (by rw [e];rfl)
   have hneZ : gL ≠ Z := fun e => own_ne_blk hL2 hZ2 (by decide) (by rw [e];rfl)
   have hgr := grown_set W gL z (.string X)
   have hB3 := hB2.grown hgr (by simpa using hne)
   have hZ3 := hZ2.grown hgr (by simpa using hneZ)
   have hL3 := (World.ownsRow.stored hL2 z (.string X)).1
   have hS3 := hS2.kept hgr (by
    rcases row_ne_row hS2 hL2 (by decide) with e | e
    ·exact .inl e
    ·exact .inr e)
   have hF3 := hF1.setCell (p := ⟨gL,z,none⟩) (.inl HGD.out.2.2.2.1) (.string X)
   have hC3 := (by
    obtain ⟨cs,fr,hc⟩ := row_blk hL2
    exact hC1.set hc (by decide) (by decide) z (.string X) : CutAt (W.setCell ⟨gL,z,none⟩ (.string X)) XB vC ct)
   have hL4 : (W.setCell ⟨gL,z,none⟩ (.string X)).ownsRow 0 9 1 (.slice (some ⟨gL,0,none⟩) n cL) n (txc (overlay L (S.take (k + 1)))) := by
    rw [HOT.out,txc_set,HZX.out.1,HZX.out.2];exact hL3
   have HFN := Lib.hid (And.intro hB3 (And.intro hL4 (And.intro hS3 (And.intro hC3 hF3))))
   first | refine .inl ⟨⟨hB3,hZ3⟩, ?_⟩ | refine ⟨⟨hB3,hZ3⟩, ?_⟩
   refine wpAnyH_done (by kernel_rfl) ?_ _
   clear hB2 hL2 hS2 hZ2 hF1 hC1 hS0 r0 f0 hne hneZ hgr hB3 hZ3 hL3 hS3 hF3 hC3 hL4
   go_wp2
   go_roundw
   case rel => exact ⟨k + 1,by omega,by go_num,HFN.out⟩
   case measure => simp [intOf];omega
  ·obtain rfl : k = m := by omega
   have x1 := hB.cell 1
   have f1 := hB.frozen 1
   simp at x1
   have hB1 := hB.set 1 (.slice none 0 0)
   simp at hB1
   have hL1 := own_set hL hB (by decide) 1 (.slice none 0 0)
   have hF1 := hF.setCell (p := ⟨D,1,none⟩) (.inl HGD.out.2.1) (.slice none 0 0)
   have hC1 := hC.set hB (by decide) (by decide) 1 (.slice none 0 0)
   rw [List.take_of_length_le (by rw [HM.out];exact Nat.le_refl _)] at hL1
   have hon : (overlay L S).length = n := by rw [overlay_length,HLN.out]
   have HFN := Lib.hid (show Dsk (wr.setCell ⟨D,1,none⟩ (.slice none 0 0)) XB D ⟨overlay L S,[],ct,off⟩ ∧ Frm XB w (wr.setCell ⟨D,1,none⟩ (.slice none 0 0)) from
    ⟨⟨⟨gL,cL, .slice none 0 0,vC,cnt,by simp only [hon];exact hB1,by simp only [hon];exact hL1,World.ownsRow_nil _ _ _ _,hC1,HGD.out.2.2.2.1,fun g e => (by cases e)⟩,
     ⟨over_good n S L HWR.out.1 HWR.out.2.1,fun x hx => (by cases hx),by simp only [hon];exact HWR.out.2.2⟩,HGD.out.2.1,fun x hx => Nat.lt_of_lt_of_le (HLT.out x hx) hF1.size⟩,hF1⟩)
   clear hB hL hSr hF hB1 hL1 hF1 hC hC1 hon
   go_wp2
   go_ret
   exact ⟨rfl,HFN.out⟩
open Go.RowKit
def sumB (c : Int) : Bs := (List.range 4).map fun i => UInt8.ofNat (c.toNat / 256 ^ i)
def listB (x : List (Nat × Bs)) : Bs := x.flatMap fun c => twoB c.1
def imgB (x : List (Nat × Bs)) : Bs := x.flatMap fun c => fullB c.2
def sayB (x : List (Nat × Bs)) : Bs := [87,76,UInt8.ofNat x.length] ++ listB x
def headW (x : List (Nat × Bs)) : Bs := sayB x ++ sumB (crcI (sayB x ++ imgB x))
theorem listB_length (x : List (Nat × Bs)) : (listB x).length = x.length * 2 := by
 induction x with
 | nil => rfl
 | cons a x ih => unfold listB at ih ⊢;rw [List.flatMap_cons,List.length_append,ih];simp [twoB];omega
theorem imgB_length (x : List (Nat × Bs)) (h : ∀ c ∈ x,c.2.length ≤ 512) : (imgB x).length = x.length * 512 := by
 induction x with
 | nil => rfl
 | cons a x ih =>
  unfold imgB at ih ⊢
  rw [List.flatMap_cons,List.length_append,ih (fun c hc => h c (List.mem_cons_of_mem _ hc)),full_length _ (h a (List.mem_cons_self ..)),List.length_cons];omega
theorem sayB_length (x : List (Nat × Bs)) : (sayB x).length = 3 + x.length * 2 := by unfold sayB;rw [List.length_append,listB_length];simp
theorem sumB_length (c : Int) : (sumB c).length = 4 := by simp [sumB]
theorem headW_length (x : List (Nat × Bs)) : (headW x).length = 7 + x.length * 2 := by unfold headW;rw [List.length_append,sayB_length,sumB_length];omega
theorem crcI_bd (s : Bs) : 0 ≤ crcI s ∧ crcI s < 4294967296 := by
 unfold crcI bits
 show 0 ≤ IntKind.u32.wrap _ ∧ IntKind.u32.wrap _ < 4294967296
 simp [IntKind.wrap,IntKind.bits,IntKind.signed]
 omega
theorem listB_snoc (x : List (Nat × Bs)) (c : Nat × Bs) : listB (x ++ [c]) = listB x ++ twoB c.1 := by simp [listB]
theorem imgB_snoc (x : List (Nat × Bs)) (c : Nat × Bs) : imgB (x ++ [c]) = imgB x ++ fullB c.2 := by simp [imgB]
theorem conv_one (w : World) (c : UInt8) (v : Int) (hv : v = (c.toNat : Int)) : (convert 64 9 (.slice (some ⟨w.heap.size,0,none⟩) 1 1)).run Tryz.prog (w.alloc (.cells #[.int .u8 v] 5)) = .ok (.string (mk [c])) (w.alloc (.cells #[.int .u8 v] 5)) :=
 conv_blk (l := [c]) (Blk.new w #[.int .u8 v] 5) (fun j hj => by
  have : j = 0 := by simpa using hj
  subst this;simp [hv])
theorem conv_two (w : World) (n : Nat) : (convert 64 9 (.slice (some ⟨w.heap.size,0,none⟩) 2 2)).run Tryz.prog (w.alloc (.cells #[.int .u8 ((n : Int) / 256 % 256), .int .u8 ((n : Int) % 256)] 5)) = .ok (.string (mk (twoB n))) (w.alloc (.cells #[.int .u8 ((n : Int) / 256 % 256), .int .u8 ((n : Int) % 256)] 5)) :=
 conv_blk (l := twoB n) (Blk.new w #[.int .u8 ((n : Int) / 256 % 256), .int .u8 ((n : Int) % 256)] 5) (fun j hj => by
  have h2 : j < 2 := hj
  match j,h2 with
  | 0,_ => simp [twoB]
  | 1,_ => simp [twoB])
set_option maxRecDepth 100000 in
set_option maxHeartbeats 4000000 in
theorem whead_any (A : Option Addr) (cap : Nat) (x : List (Nat × Bs)) (w : World) (hA : Lies w A (scells x)) (hn : x.length ≤ 64) (hx : ∀ c ∈ x,c.1 ≤ 1000000 ∧ c.2.length ≤ 512) (hT : TB w) (hw : 1 < w.heap.size) :
  Calls Tryz.prog 134 #[.slice A x.length cap] w fun e w' => e = .returned (.string (mk (headW x))) ∧ Below w.heap.size w w' := by
 have HIMG := Lib.hid (imgB_length x (fun c hc => (hx c hc).2))
 have HLI := Lib.hid (listB_length x)
 have HSB := Lib.hid (show sayB x = [87,76,UInt8.ofNat x.length] ++ listB x from rfl)
 have HHD := Lib.hid (show headW x = sayB x ++ sumB (crcI (sayB x ++ imgB x)) from rfl)
 obtain ⟨n,hl⟩ : ∃ n,x.length = n := ⟨_,rfl⟩
 rw [hl] at hn HIMG HLI HSB ⊢
 have HL := Lib.hid hA
 have HN := Lib.hid hl
 have HX := Lib.hid hx
 have HT := Lib.hid hT
 have hcv1 := conv_one w (UInt8.ofNat n) (n : Int) (by rw [← byte_int n];omega)
 have hsum1 := run_sum [87,76] [UInt8.ofNat n] (by simp)
 rw [show mk [87,76] = ⟨#[87,76]⟩ from rfl,show ([87,76] ++ [UInt8.ofNat n] : Bs) = [87,76,UInt8.ofNat n] from rfl] at hsum1
 obtain ⟨B1,hB1⟩ : ∃ q,mk [UInt8.ofNat n] = q := ⟨_,rfl⟩
 rw [hB1] at hcv1 hsum1
 obtain ⟨P,hP⟩ : ∃ q : Bs,[87,76,UInt8.ofNat n] = q := ⟨_,rfl⟩
 rw [hP] at hsum1 HSB
 have HPL := Lib.hid (show P.length = 3 by rw [← hP];rfl)
 obtain ⟨P1,hP1⟩ : ∃ q,mk P = q := ⟨_,rfl⟩
 rw [hP1] at hsum1
 have HP1 := Lib.hid hP1
 obtain ⟨R,hR⟩ : ∃ q,mk (headW x) = q := ⟨_,rfl⟩
 rw [hR]
 have HR := Lib.hid hR
 have n0 : (0 : Int) ≤ (n : Int) := by omega
 have n1 : (n : Int) ≤ 64 := by omega
 clear hA hl hx hT hB1 hP hP1 hR
 have mixed := mixedT
 go_enter Tryz.func134,Tryz.ntmps134
 go_wp2
 have HB0 := Lib.hid (below_alloc w (.cells #[.int .u8 (n : Int)] 5))
 clear hcv1 hsum1
 go_loopw [3,19] (fun sv i wr => ∃ k : Nat,k ≤ n ∧ i = .int .i64 k ∧ sv = .string (mk (P ++ listB (x.take k))) ∧ Below w.heap.size w wr) (fun _ i _ => n - (intOf i).toNat)
 case atStart => exact ⟨0,Nat.zero_le _,rfl,by simp [listB,HP1.out],HB0.out⟩
 case round =>
  obtain ⟨k,hk,rfl,rfl,hb⟩ := hrel
  have hsz := hb.size
  by_cases hlt : k < n
  ·have hkl : k < x.length := by rw [HN.out];exact hlt
   obtain ⟨g,off,rfl,hgl,hcs⟩ := HL.out (by rw [scells_length];omega)
   obtain ⟨s0,s1⟩ := scells_at x k hkl
   have d0 := (hb.cell (p := ⟨g,off + k * 2,none⟩) hgl).trans (hcs _ _ s0)
   have d1 := (hb.cell (p := ⟨g,off + (k * 2 + 1),none⟩) hgl).trans (hcs _ _ s1)
   have hq := (HX.out x[k] (List.getElem_mem hkl)).1
   have hsn : P ++ listB (x.take (k + 1)) = (P ++ listB (x.take k)) ++ twoB x[k].1 := by
    rw [List.take_succ_eq_append_getElem hkl,listB_snoc,List.append_assoc]
   have hln : (P ++ listB (x.take k)).length ≤ 1000 := by rw [List.length_append,HPL.out,listB_length,List.length_take];omega
   obtain ⟨z,hz⟩ : ∃ z,x[k].1 = z := ⟨_,rfl⟩
   obtain ⟨Y,hY⟩ : ∃ z,mk x[k].2 = z := ⟨_,rfl⟩
   rw [hz] at d0 hq hsn
   rw [hY, ← Nat.add_assoc] at d1
   have hsum := run_sum (P ++ listB (x.take k)) (twoB z) (by simp [twoB] at hln ⊢;omega)
   rw [← hsn] at hsum
   have hcv := conv_two (wr.alloc (.cells #[.int .i64 z, .string Y] 198)) z
   rw [World.size_alloc] at hcv
   obtain ⟨S0,hS0⟩ : ∃ q,mk (P ++ listB (x.take k)) = q := ⟨_,rfl⟩
   obtain ⟨S1,hS1⟩ : ∃ q,mk (twoB z) = q := ⟨_,rfl⟩
   obtain ⟨S2,hS2⟩ : ∃ q,mk (P ++ listB (x.take (k + 1))) = q := ⟨_,rfl⟩
   rw [hS0,hS1,hS2] at hsum
   rw [hS1] at hcv
   rw [hS0]
   have HS2 := Lib.hid hS2
   have HB := Lib.hid hb
   have k0 : (0 : Int) ≤ (k : Int) := by omega
   have k1 : (k : Int) < (n : Int) := by omega
   have z0 : (0 : Int) ≤ (z : Int) := by omega
   have z1 : (z : Int) ≤ 1000000 := by omega
   clear hb hcs s0 s1 hsn hln hz hY hS0 hS1 hS2 hkl
   go_wp2
   go_roundw
   case rel => exact ⟨k + 1,by omega,by go_num,by rw [HS2.out],(HB.out.alloc hsz _).alloc (by simp;omega) _⟩
   case measure => simp [intOf];omega
  ·obtain rfl : n = k := by omega
   rw [List.take_of_length_le (by rw [HN.out];exact Nat.le_refl _), ← HSB.out]
   have HSL := Lib.hid (show (sayB x).length ≤ 1000 by rw [sayB_length,HN.out];omega)
   have zs : (mk (sayB x)).size = (sayB x).length := mk_size _
   obtain ⟨S,hS⟩ : ∃ q,sayB x = q := ⟨_,rfl⟩
   rw [hS] at HSL zs HHD
   rw [hS]
   obtain ⟨S0,hS0⟩ : ∃ q,mk S = q := ⟨_,rfl⟩
   rw [hS0] at zs
   rw [hS0]
   have HS0 := Lib.hid hS0
   have hb1 := hb.alloc hsz (.cells #[.pointer none, .slice none 0 0] 153)
   have hbu0 := Lib.fresh_isBuilder 153 5 wr
   obtain ⟨Z,hZ⟩ : ∃ Z,wr.heap.size = Z := ⟨_,rfl⟩
   have hz1 : (wr.alloc (.cells #[.pointer none, .slice none 0 0] 153)).heap.size = Z + 1 := by simp [hZ]
   rw [hZ] at hbu0 hsz
   have KW := bwrite_any Z Z [] S0 (wr.alloc (.cells #[.pointer none, .slice none 0 0] 153)) hbu0 (by have := HSL.out;simp;omega) (by omega)
   have HSC := Lib.hid (show Lib.strCells S0 = Lib.byteCells S by rw [← hS0];simp [Lib.strCells,Lib.byteCells,mk_data])
   rw [List.nil_append,HSC.out] at KW
   have HB1 := Lib.hid hb1
   have HZ1 := Lib.hid hz1
   have HZ := Lib.hid hZ
   clear HSB hS hS0 hb hb1 hbu0 hz1
   clear hZ
   go_wp2_with (rw [HZ.out];go_at_call 82;refine KW.mono ?_;rintro e w1 ⟨rfl,hbu1,hb2,_⟩)
   have hb3 := HB1.out.trans (hb2.mono hsz) 
   have HB3 := Lib.hid hb3
   have HBU := Lib.hid hbu1
   clear hbu1 hb2 hb3 KW
   go_loopw [39] (fun i wr2 => ∃ k : Nat,k ≤ n ∧ i = .int .i64 k ∧ Lib.IsBuilder 153 5 Z Z (Lib.byteCells (S ++ imgB (x.take k))) wr2 ∧ Below w.heap.size w wr2) (fun i _ => n - (intOf i).toNat)
   case atStart => exact ⟨0,Nat.zero_le _,rfl, .inr (by simpa [imgB] using HBU.out),HB3.out⟩
   case round =>
    obtain ⟨k,hk,rfl,hbu,hb⟩ := hrel
    have hsz2 := hb.size
    by_cases hlt2 : k < n
    ·have hkl : k < x.length := by rw [HN.out];exact hlt2
     obtain ⟨g,off,rfl,hgl,hcs⟩ := HL.out (by rw [scells_length];omega)
     obtain ⟨s0,s1⟩ := scells_at x k hkl
     have d0 := (hb.cell (p := ⟨g,off + k * 2,none⟩) hgl).trans (hcs _ _ s0)
     have d1 := (hb.cell (p := ⟨g,off + (k * 2 + 1),none⟩) hgl).trans (hcs _ _ s1)
     have hq := (HX.out x[k] (List.getElem_mem hkl)).2
     have hsn : S ++ imgB (x.take (k + 1)) = (S ++ imgB (x.take k)) ++ fullB x[k].2 := by
      rw [List.take_succ_eq_append_getElem hkl,imgB_snoc,List.append_assoc]
     have hln : (S ++ imgB (x.take k)).length ≤ 100000 := by
      have h1 : (imgB (x.take k)).length = k * 512 := by
       rw [imgB_length _ (fun c hc => (HX.out c (List.mem_of_mem_take hc)).2),List.length_take]
       rw [HN.out];omega
      rw [List.length_append,h1];have := HSL.out;omega
     have hfl : (fullB x[k].2).length = 512 := full_length _ hq
     obtain ⟨z,hz⟩ : ∃ z,x[k].1 = z := ⟨_,rfl⟩
     obtain ⟨d,hd⟩ : ∃ z,x[k].2 = z := ⟨_,rfl⟩
     rw [hz] at d0
     rw [hd, ← Nat.add_assoc] at d1
     rw [hd] at hq hsn hfl
     have hsum := run_sum d (List.replicate (512 - d.length) 0) (by simp;omega)
     rw [show d ++ List.replicate (512 - d.length) 0 = fullB d from rfl] at hsum
     have KN := fun w => noughts_any (512 - d.length) (by omega) w
     rw [show ((512 - d.length : Nat) : Int) = 512 - (d.length : Int) by omega] at KN
     obtain ⟨T,hT⟩ : ∃ q,S ++ imgB (x.take k) = q := ⟨_,rfl⟩
     rw [hT] at hbu hsn hln
     have zd : (mk d).size = d.length := mk_size d
     have zf : (mk (fullB d)).size = 512 := by rw [mk_size,hfl]
     obtain ⟨F,hF⟩ : ∃ q,mk (fullB d) = q := ⟨_,rfl⟩
     obtain ⟨N,hN⟩ : ∃ q,mk (List.replicate (512 - d.length) 0) = q := ⟨_,rfl⟩
     obtain ⟨Y,hY⟩ : ∃ q,mk d = q := ⟨_,rfl⟩
     obtain ⟨m,hm⟩ : ∃ q,d.length = q := ⟨_,rfl⟩
     rw [hF,hN,hY] at hsum
     rw [hY,hm] at zd
     rw [hN,hm] at KN
     rw [hY] at d1
     rw [hm] at hq
     rw [hF] at zf
     have KW := fun (w4 : World) (h4 : Below wr.heap.size wr w4) => bwrite_any Z Z (Lib.byteCells T) F w4 (isb_below hbu h4) (by rw [zf];simp [Lib.byteCells];omega) (Nat.le_trans (by rcases hbu with h | h <;> exact Nat.le_of_lt h.lt) h4.size)
     have HFC := Lib.hid (show Lib.byteCells T ++ Lib.strCells F = Lib.byteCells (S ++ imgB (x.take (k + 1))) by
      rw [hsn, ← hF];simp [Lib.byteCells,Lib.strCells,mk_data])
     have HZL := Lib.hid (show Z < wr.heap.size from by rcases hbu with h | h <;> exact h.lt)
     have HB := Lib.hid hb
     have HZF := Lib.hid zf
     have k0 : (0 : Int) ≤ (k : Int) := by omega
     have k1 : (k : Int) < (n : Int) := by omega
     have m0 : (0 : Int) ≤ (m : Int) := by omega
     have m1 : (m : Int) ≤ 512 := by omega
     clear hb hcs s0 s1 hsn hln hz hd hF hN hY hm hT hfl hkl hbu zf
     go_wp2
     have hZ1 := Blk.new wr #[.int .i64 z, .string Y] 198
     have hA1 := below_alloc wr (.cells #[.int .i64 z, .string Y] 198)
     obtain ⟨V,hV⟩ : ∃ V,wr.heap.size = V := ⟨_,rfl⟩
     rw [hV] at hZ1
     simp only [hV]
     have hwrp : IntKind.i64.wrap (512 - (m : Int)) = 512 - (m : Int) := by rw [Go.IntWalk.i64_left,Go.IntWalk.wrap64_in _ (by omega)]
     refine wp_region_held (S := fun w' => Blk w' V #[.int .i64 z, .string Y] 198) mixed ?_
     change wpAnyH _ _ _ _ _ _ _ _ (wr.alloc (.cells #[.int .i64 z, .string Y] 198)).drew
     have hZ2 : Blk (wr.alloc (.cells #[.int .i64 z, .string Y] 198)).drew V _ 198 := hZ1
     have hA2 : Below wr.heap.size wr (wr.alloc (.cells #[.int .i64 z, .string Y] 198)).drew := hA1.drew
     obtain ⟨W,hW⟩ : ∃ u,(wr.alloc (.cells #[.int .i64 z, .string Y] 198)).drew = u := ⟨_,rfl⟩
     rw [hW] at hZ2 hA2 ⊢
     have HV := Lib.hid hV
     clear hW hZ1 hA1 d0 d1 hV
     refine tkQ 0 (.pointer (some ⟨V,1,none⟩)) rfl hZ2 ?_
     try go_simp
     refine tkH 1 (.string Y) rfl hZ2 (fun w' hS => ?_) ?_
     ·have q0 := hS.cell 1;simp at q0;go_simp
     try go_simp
     refine tkQ 2 (.pointer (some ⟨V,1,none⟩)) rfl hZ2 ?_
     try go_simp
     refine tkH 3 (.string Y) rfl hZ2 (fun w' hS => ?_) ?_
     ·have q0 := hS.cell 1;simp at q0;go_simp
     try go_simp
     refine tkQ 4 (.int .i64 (m : Int)) rfl hZ2 ?_
     try go_simp
     refine tkQ 5 (.int .i64 (512 - (m : Int))) rfl hZ2 ?_
     try go_simp
     refine alH 6 ?_
     unfold wpOp
     go_simp
     refine .inl ?_
     go_at_call 112
     refine (KN _).mono ?_
     rintro e W1 ⟨rfl,hb1⟩
     have hZ3 := hZ2.below hb1
     have hA3 := hA2.trans (hb1.mono (by have := hA2.size;omega))
     refine ⟨hZ3, ?_⟩
     try go_simp
     refine tkQ 7 (.string F) rfl hZ3 ?_
     try go_simp
     refine alH 8 ?_
     unfold wpOp
     go_simp
     refine .inl ?_
     go_at_call 82
     refine (KW _ hA3).mono ?_
     rintro e W2 ⟨rfl,hbu2,hb4,hoth⟩
     have hZ4 : Blk W2 V #[.int .i64 z, .string Y] 198 := hoth V _ _ _ (by decide) (by have := HZL.out;have := HV.out;omega) hZ3
     refine ⟨hZ4, ?_⟩
     refine wpAnyH_done (by kernel_rfl) ?_ _
     rw [HFC.out] at hbu2
     have HBU2 := Lib.hid hbu2
     have HBF := Lib.hid (HB.out.trans ((hA3.mono (Nat.le_refl _)).mono hsz2 |>.trans (hb4.mono (by omega))))
     clear hZ2 hA2 hb1 hZ3 hA3 hbu2 hb4 hoth hZ4 KN KW hsum hwrp
     go_wp2
     go_roundw
     case rel => exact ⟨k + 1,by omega,by go_num, .inr HBU2.out,HBF.out⟩
     case measure => simp [intOf];omega
    ·obtain rfl : n = k := by omega
     rw [List.take_of_length_le (by rw [HN.out];exact Nat.le_refl _)] at hbu
     have hzl : Z ≤ wr.heap.size := by rcases hbu with h | h <;> exact Nat.le_of_lt h.lt
     have KS := Tryz.Builder_String_any Z Z (S ++ imgB x) wr hbu hzl
     have KC := fun (w' : World) (hT' : TB w') => sum_any (S ++ imgB x) w' hT' (by rw [List.length_append,HIMG.out];have := HSL.out;omega)
     have hbd := crcI_bd (S ++ imgB x)
     rw [show (⟨(S ++ imgB x).toArray⟩ : ByteArray) = mk (S ++ imgB x) from rfl] at KS
     obtain ⟨C,hC⟩ : ∃ q,crcI (S ++ imgB x) = q := ⟨_,rfl⟩
     rw [hC] at KC hbd HHD
     obtain ⟨U,hU⟩ : ∃ q,mk (S ++ imgB x) = q := ⟨_,rfl⟩
     rw [hU] at KS KC
     have hTw := HT.out.below hw hb
     have HB := Lib.hid hb
     have HTW := Lib.hid hTw
     obtain ⟨hc0,hc1⟩ := hbd
     clear hbu hb hTw hC hU
     go_wp2_with (first
      | (go_at_call 83;refine KS.mono ?_;rintro e w2 ⟨rfl,hb2⟩;have hT2 := HTW.out.below (by omega) hb2;have K2 := KC w2 hT2;have HB2 := Lib.hid (HB.out.trans (hb2.mono (by omega)));clear hb2 hT2)
      | (go_at_call 118;refine K2.mono ?_;rintro e w3 ⟨rfl,hw3⟩;obtain rfl := hw3.symm))
     go_loopw [3,55] (fun sv i wr => ∃ k : Nat,k ≤ 4 ∧ i = .int .i64 k ∧ sv = .string (mk (S ++ (sumB C).take k)) ∧ Below w.heap.size w wr) (fun _ i _ => 4 - (intOf i).toNat)
     case atStart => exact ⟨0,by omega,rfl,by rw [List.take_zero,List.append_nil,HS0.out],HB2.out⟩
     case round =>
      obtain ⟨k,hk,rfl,rfl,hb⟩ := hrel
      obtain ⟨S1,hS1⟩ : ∃ q,mk (S ++ (sumB C).take k) = q := ⟨_,rfl⟩
      rw [hS1]
      have hk4 : k = 0 ∨ k = 1 ∨ k = 2 ∨ k = 3 ∨ k = 4 := by omega
      have HB := Lib.hid hb
      have hln : S.length ≤ 1000 := HSL.out
      rcases hk4 with rfl | rfl | rfl | rfl | rfl
      ·have hcv := conv_one wr (UInt8.ofNat (C.toNat / 256 ^ 0)) (C % 256) (by rw [← byte_int];omega)
       have hst : S ++ (sumB C).take 1 = (S ++ (sumB C).take 0) ++ [UInt8.ofNat (C.toNat / 256 ^ 0)] := by rw [List.append_assoc];rfl
       have hsum := run_sum (S ++ (sumB C).take 0) [UInt8.ofNat (C.toNat / 256 ^ 0)] (by simp;omega)
       rw [← hst,hS1] at hsum
       obtain ⟨S2,hS2⟩ : ∃ q,mk (S ++ (sumB C).take 1) = q := ⟨_,rfl⟩
       obtain ⟨b1,hb1⟩ : ∃ q,mk [UInt8.ofNat (C.toNat / 256 ^ 0)] = q := ⟨_,rfl⟩
       rw [hb1] at hcv hsum
       rw [hS2] at hsum
       have HS2 := Lib.hid hS2
       clear hS1 hS2 hst hb1 hln hb
       go_wp2
       go_roundw
       case rel => exact ⟨1,by omega,rfl,by rw [HS2.out],HB.out.alloc HB.out.size _⟩
       case measure => simp [intOf]
      ·have hcv := conv_one wr (UInt8.ofNat (C.toNat / 256 ^ 1)) (C / 256 % 256) (by rw [← byte_int];omega)
       have hst : S ++ (sumB C).take 2 = (S ++ (sumB C).take 1) ++ [UInt8.ofNat (C.toNat / 256 ^ 1)] := by rw [List.append_assoc];rfl
       have hsum := run_sum (S ++ (sumB C).take 1) [UInt8.ofNat (C.toNat / 256 ^ 1)] (by simp;omega)
       rw [← hst,hS1] at hsum
       obtain ⟨S2,hS2⟩ : ∃ q,mk (S ++ (sumB C).take 2) = q := ⟨_,rfl⟩
       obtain ⟨b1,hb1⟩ : ∃ q,mk [UInt8.ofNat (C.toNat / 256 ^ 1)] = q := ⟨_,rfl⟩
       rw [hb1] at hcv hsum
       rw [hS2] at hsum
       have HS2 := Lib.hid hS2
       clear hS1 hS2 hst hb1 hln hb
       go_wp2
       go_roundw
       case rel => exact ⟨2,by omega,rfl,by rw [HS2.out],HB.out.alloc HB.out.size _⟩
       case measure => simp [intOf]
      ·have hcv := conv_one wr (UInt8.ofNat (C.toNat / 256 ^ 2)) (C / 65536 % 256) (by rw [← byte_int];omega)
       have hst : S ++ (sumB C).take 3 = (S ++ (sumB C).take 2) ++ [UInt8.ofNat (C.toNat / 256 ^ 2)] := by rw [List.append_assoc];rfl
       have hsum := run_sum (S ++ (sumB C).take 2) [UInt8.ofNat (C.toNat / 256 ^ 2)] (by simp;omega)
       rw [← hst,hS1] at hsum
       obtain ⟨S2,hS2⟩ : ∃ q,mk (S ++ (sumB C).take 3) = q := ⟨_,rfl⟩
       obtain ⟨b1,hb1⟩ : ∃ q,mk [UInt8.ofNat (C.toNat / 256 ^ 2)] = q := ⟨_,rfl⟩
       rw [hb1] at hcv hsum
       rw [hS2] at hsum
       have HS2 := Lib.hid hS2
       clear hS1 hS2 hst hb1 hln hb
       go_wp2
       go_roundw
       case rel => exact ⟨3,by omega,rfl,by rw [HS2.out],HB.out.alloc HB.out.size _⟩
       case measure => simp [intOf]
      ·have hcv := conv_one wr (UInt8.ofNat (C.toNat / 256 ^ 3)) (C / 16777216) (by rw [← byte_int];omega)
       have hst : S ++ (sumB C).take 4 = (S ++ (sumB C).take 3) ++ [UInt8.ofNat (C.toNat / 256 ^ 3)] := by rw [List.append_assoc];rfl
       have hsum := run_sum (S ++ (sumB C).take 3) [UInt8.ofNat (C.toNat / 256 ^ 3)] (by simp;omega)
       rw [← hst,hS1] at hsum
       obtain ⟨S2,hS2⟩ : ∃ q,mk (S ++ (sumB C).take 4) = q := ⟨_,rfl⟩
       obtain ⟨b1,hb1⟩ : ∃ q,mk [UInt8.ofNat (C.toNat / 256 ^ 3)] = q := ⟨_,rfl⟩
       rw [hb1] at hcv hsum
       rw [hS2] at hsum
       have HS2 := Lib.hid hS2
       clear hS1 hS2 hst hb1 hln hb
       go_wp2
       go_roundw
       case rel => exact ⟨4,by omega,rfl,by rw [HS2.out],HB.out.alloc HB.out.size _⟩
       case measure => simp [intOf]
      ·have HFN := Lib.hid (show S1 = R by rw [← hS1, ← HR.out,HHD.out];congr 1)
       clear hS1 hln hb
       go_wp2
       go_ret
       obtain rfl := HFN.out
       exact ⟨rfl,HB.out⟩
open Go.RowKit
def WLog (w : World) (b D f s : Nat) : Prop := Blk w b #[.pointer (some ⟨D,0,none⟩), .int .i64 f, .int .i64 s] 179
def ownB (f s i : Nat) : Bool := decide (f ≤ i ∧ i < f + s)
def mayB (n f s i : Nat) : Bool := decide (i < n) && !ownB f s i
set_option maxHeartbeats 1000000 in
theorem own_any (b D f s i : Nat) (w : World) (h : WLog w b D f s) (hf : f ≤ 1000000) (hs : s ≤ 1000000) :
  Calls Tryz.prog 156 #[.pointer (some ⟨b,0,none⟩), .int .i64 i] w fun e w' => e = .returned (.bool (ownB f s i)) ∧ ∃ n,w' = w.drewN n := by
 have x1 := Blk.cell h 1
 have x2 := Blk.cell h 2
 simp at x1 x2
 have f0 : (0 : Int) ≤ (f : Int) := by omega
 have f1 : (f : Int) ≤ 1000000 := by omega
 have s0 : (0 : Int) ≤ (s : Int) := by omega
 have s1 : (s : Int) ≤ 1000000 := by omega
 have hwr : IntKind.i64.wrap ((f : Int) + (s : Int)) = (f : Int) + (s : Int) := by rw [Go.IntWalk.i64_left,Go.IntWalk.wrap64_in _ (by omega)]
 by_cases h1 : f ≤ i
 ·have h1' : decide ((f : Int) ≤ (i : Int)) = true := by simpa using h1
  have h1n : decide (f ≤ i) = true := by simpa using h1
  by_cases h2 : i < f + s
  ·have h2' : decide ((i : Int) < (f : Int) + (s : Int)) = true := by simp;omega
   have HO := Lib.hid (show ownB f s i = true by unfold ownB;simp [h1,h2])
   clear h hf hs
   go_enter Tryz.func156,Tryz.ntmps156
   go_upto_region 1 with (fail)
   go_quiet (fail)
   go_wp2
   go_ret
   exact ⟨by rw [HO.out];rfl,_,rfl⟩
  ·have h2' : decide ((i : Int) < (f : Int) + (s : Int)) = false := by simp;omega
   have HO := Lib.hid (show ownB f s i = false by unfold ownB;simp [h2])
   clear h hf hs
   go_enter Tryz.func156,Tryz.ntmps156
   go_upto_region 1 with (fail)
   go_quiet (fail)
   go_wp2
   go_ret
   exact ⟨by rw [HO.out];rfl,_,rfl⟩
 ·have h1' : decide ((f : Int) ≤ (i : Int)) = false := by simpa using h1
  have h1n : decide (f ≤ i) = false := by simpa using h1
  have HO := Lib.hid (show ownB f s i = false by unfold ownB;simp [h1])
  clear h hf hs
  go_enter Tryz.func156,Tryz.ntmps156
  go_upto_region 1 with (fail)
  go_quiet (fail)
  go_wp2
  go_ret
  exact ⟨by rw [HO.out];rfl,_,rfl⟩
set_option maxHeartbeats 1000000 in
theorem may_any (X : List Nat) (D : Nat) (ds : DS) (b f s i : Nat) (w : World) (hD : Dsk w X D ds) (h : WLog w b D f s) (hf : f ≤ 1000000) (hs : s ≤ 1000000) :
  Calls Tryz.prog 133 #[.pointer (some ⟨b,0,none⟩), .int .i64 i] w fun e w' => e = .returned (.bool (mayB ds.L.length f s i)) ∧ ∃ n,w' = w.drewN n := by
 have KO := own_any b D f s i w h hf hs
 have KZ := size_any X D ds w hD
 have x0 := Blk.cell h 0
 simp at x0
 unfold mayB
 obtain ⟨n,hn⟩ : ∃ n,ds.L.length = n := ⟨_,rfl⟩
 obtain ⟨o,ho⟩ : ∃ n,ownB f s i = n := ⟨_,rfl⟩
 rw [hn] at KZ ⊢
 rw [ho] at KO ⊢
 have i0 : (0 : Int) ≤ (i : Int) := by omega
 by_cases h1 : i < n
 ·have h1' : (i : Int) < (n : Int) := by omega
  have h1n : decide (i < n) = true := by simpa using h1
  rw [h1n,Bool.true_and]
  clear hD h hf hs hn ho h1n
  go_enter Tryz.func133,Tryz.ntmps133
  go_wp2_with (first
   | (go_at_call 61;refine KZ.mono ?_;rintro e w1 ⟨rfl,hw⟩;obtain rfl := hw.symm)
   | (go_at_call 156;refine KO.mono ?_;rintro e w1 ⟨rfl,q,rfl⟩))
  go_ret
  exact ⟨rfl,_,rfl⟩
 ·have h1' : ¬ ((i : Int) < (n : Int)) := by omega
  have h1n : decide (i < n) = false := by simpa using h1
  rw [h1n,Bool.false_and]
  clear hD h hf hs hn ho h1n
  go_enter Tryz.func133,Tryz.ntmps133
  go_wp2_with (go_at_call 61;refine KZ.mono ?_;rintro e w1 ⟨rfl,hw⟩;obtain rfl := hw.symm)
  go_ret
  exact ⟨rfl,0,rfl⟩
theorem most_any (b D f s : Nat) (w : World) (h : WLog w b D f s) (hs : 1 ≤ s ∧ s ≤ 1000000) :
  Calls Tryz.prog 132 #[.pointer (some ⟨b,0,none⟩)] w fun e w' => e = .returned (.int .i64 ((s - 1 : Nat) : Int)) ∧ w' = w := by
 have x2 := Blk.cell h 2
 simp at x2
 have s0 : (1 : Int) ≤ (s : Int) := by omega
 have s1 : (s : Int) ≤ 1000000 := by omega
 rw [show ((s - 1 : Nat) : Int) = (s : Int) - 1 by omega]
 clear h hs
 go_enter Tryz.func132,Tryz.ntmps132
 go_wp2
 go_ret
 exact ⟨rfl,rfl⟩
inductive Cmd where
 | wr (i : Nat) (b : Bs)
 | sy
def DS.cmd (d : DS) : Cmd → Nat × DS
 | .wr i b => d.write i b
 | .sy => d.sync
def DS.run : List Cmd → DS → Nat × DS
 | [],d => (0,d)
 | c :: l,d => if (d.cmd c).1 = 0 then DS.run l (d.cmd c).2 else d.cmd c
theorem run_append (a b : List Cmd) : ∀ d,DS.run (a ++ b) d = if (DS.run a d).1 = 0 then DS.run b (DS.run a d).2 else DS.run a d := by
 induction a with
 | nil => intro d;simp [DS.run]
 | cons c l ih =>
  intro d
  rw [List.cons_append,DS.run,DS.run]
  split
  ·rw [ih]
  ·rfl
theorem run_one (c : Cmd) (d : DS) : DS.run [c] d = d.cmd c := by
 unfold DS.run
 split
 ·rename_i h;rw [DS.run];exact Prod.ext h.symm rfl
 ·rfl
theorem run_snoc (a : List Cmd) (c : Cmd) (d : DS) (h : (DS.run a d).1 = 0) : DS.run (a ++ [c]) d = (DS.run a d).2.cmd c := by rw [run_append,if_pos h,run_one]
theorem run_stop (a b : List Cmd) (d : DS) (h : (DS.run a d).1 ≠ 0) : DS.run (a ++ b) d = DS.run a d := by rw [run_append,if_neg h]
theorem write_len (d : DS) (i : Nat) (b : Bs) : (d.write i b).2.L.length = d.L.length ∧ (d.write i b).2.S.length ≤ d.S.length + 1 := by
 unfold DS.write
 split
 ·rename_i h
  exact ⟨step_len d,by simp only [List.length_append,(step_S d h).1];simp⟩
 ·refine ⟨step_len d, ?_⟩
  rename_i h
  unfold DS.step
  split
  ·simp
  ·split
   ·simp
   ·split
    ·simp [DS.fail]
    ·simp
theorem sync_len (d : DS) : d.sync.2.L.length = d.L.length ∧ d.sync.2.S.length ≤ d.S.length := by
 unfold DS.sync
 split
 ·rename_i h
  exact ⟨by simp only [overlay_length];exact step_len d,by simp⟩
 ·refine ⟨step_len d, ?_⟩
  unfold DS.step
  split
  ·simp
  ·split
   ·simp
   ·split
    ·simp [DS.fail]
    ·simp
theorem cmd_len (d : DS) (c : Cmd) : (d.cmd c).2.L.length = d.L.length ∧ (d.cmd c).2.S.length ≤ d.S.length + 1 := by
 cases c with
 | wr i b => exact write_len d i b
 | sy => exact ⟨(sync_len d).1,Nat.le_succ_of_le (sync_len d).2⟩
theorem run_len (l : List Cmd) : ∀ d,(DS.run l d).2.L.length = d.L.length ∧ (DS.run l d).2.S.length ≤ d.S.length + l.length := by
 induction l with
 | nil => intro d;exact ⟨rfl,Nat.le_refl _⟩
 | cons c l ih =>
  intro d
  have h1 := cmd_len d c
  rw [DS.run]
  split
  ·have := ih (d.cmd c).2
   exact ⟨this.1.trans h1.1,by simp only [List.length_cons];omega⟩
  ·exact ⟨h1.1,by simp only [List.length_cons];omega⟩
open Go.RowKit
theorem write_num (d : DS) (i : Nat) (b : Bs) : (d.write i b).1 = 0 ∨ (d.write i b).1 = 7 := by
 unfold DS.write
 split
 ·exact .inl rfl
 ·exact step_num d
theorem sync_num (d : DS) : d.sync.1 = 0 ∨ d.sync.1 = 7 := by
 unfold DS.sync
 split
 ·exact .inl rfl
 ·exact step_num d
theorem run_num (l : List Cmd) : ∀ d,(DS.run l d).1 = 0 ∨ (DS.run l d).1 = 7 := by
 induction l with
 | nil => intro d;exact .inl rfl
 | cons c l ih =>
  intro d
  rw [DS.run]
  split
  ·exact ih _
  ·cases c with
   | wr i b => exact write_num d i b
   | sy => exact sync_num d
set_option maxRecDepth 100000 in
set_option maxHeartbeats 1000000 in
theorem say_any (X : List Nat) (D : Nat) (ds : DS) (b f s : Nat) (h : Bs) (w : World) (hD : Dsk w X D ds) (hW : WLog w b D f s) (hb : b ∉ X) (hf : f < ds.L.length) (hh : h.length ≤ 512) (hS : ds.S.length ≤ 1000000) :
  Calls Tryz.prog 105 #[.pointer (some ⟨b,0,none⟩), .string (mk h)] w fun e w' => e = .returned (.int .i64 ((DS.run [.wr f h, .sy] ds).1 : Nat)) ∧ ∃ X',Dsk w' X' D (DS.run [.wr f h, .sy] ds).2 ∧ Mv X X' w w' := by
 have KW := write_any X D ds f h w.drew (hD.frm (Y := []) (Frm.refl _ w).drew (fun _ _ => by simp)) hf hh hS
 have HR0 := Lib.hid (fun (h0 : (ds.write f h).1 = 0) => (show DS.run [.wr f h, .sy] ds = (ds.write f h).2.sync by rw [DS.run,show ds.cmd (.wr f h) = ds.write f h from rfl,if_pos h0,run_one];rfl))
 have HR7 := Lib.hid (fun (h0 : (ds.write f h).1 = 7) => (show DS.run [.wr f h, .sy] ds = ds.write f h by rw [DS.run,show ds.cmd (.wr f h) = ds.write f h from rfl,if_neg (by omega)]))
 have hnum := write_num ds f h
 obtain ⟨d1,hd1⟩ : ∃ q,ds.write f h = q := ⟨_,rfl⟩
 obtain ⟨R,hR⟩ : ∃ q,DS.run [.wr f h, .sy] ds = q := ⟨_,rfl⟩
 rw [hd1] at KW HR0 HR7 hnum
 rw [hR] at HR0 HR7 ⊢
 obtain ⟨Y,hY⟩ : ∃ q,mk h = q := ⟨_,rfl⟩
 rw [hY] at KW ⊢
 have HBX := Lib.hid hb
 obtain ⟨d1n,d1⟩ := d1
 dsimp only at KW HR0 HR7 hnum
 have mixed := mixedT
 clear hD hb hf hh hS hd1 hR hY
 rcases hnum with rfl | rfl
 ·have HRE := Lib.hid (HR0.out rfl)
  clear HR0 HR7
  go_enter Tryz.func105,Tryz.ntmps105
  go_upto_region 1 with (fail)
  refine wp_region_held (S := fun w' => WLog w' b D f s) mixed ?_
  change wpAnyH _ _ _ _ _ _ _ _ w.drew
  have hW1 : WLog w.drew b D f s := hW
  refine tkQ 0 (.pointer (some ⟨b,0,none⟩)) rfl hW1 ?_
  try go_simp
  refine tkQ 1 (.pointer (some ⟨b,0,none⟩)) rfl hW1 ?_
  try go_simp
  refine tkQ 2 (.pointer (some ⟨b,0,none⟩)) rfl hW1 ?_
  try go_simp
  refine tkH 3 (.pointer (some ⟨D,0,none⟩)) rfl hW1 (fun w' hS => ?_) ?_
  ·have q0 := Blk.cell hS 0;simp at q0;go_simp
  try go_simp
  refine tkQ 4 (.pointer (some ⟨b,0,none⟩)) rfl hW1 ?_
  try go_simp
  refine tkQ 5 (.pointer (some ⟨b,0,none⟩)) rfl hW1 ?_
  try go_simp
  refine tkQ 6 (.pointer (some ⟨b,1,none⟩)) rfl hW1 ?_
  try go_simp
  refine tkH 7 (.int .i64 (f : Int)) rfl hW1 (fun w' hS => ?_) ?_
  ·have q0 := Blk.cell hS 1;simp at q0;go_simp
  try go_simp
  refine tkQ 8 (.string Y) rfl hW1 ?_
  try go_simp
  refine alH 9 ?_
  unfold wpOp
  go_simp
  refine .inl ?_
  go_at_call 91
  refine KW.mono ?_
  rintro e W1 ⟨rfl,X1,hD1,hM1⟩
  have hW2 : WLog W1 b D f s := hM1.blk hW1 HBX.out
  refine ⟨hW2, ?_⟩
  refine tkQ 10 (.int .i64 0) rfl hW2 ?_
  try go_simp
  refine wpAnyH_done (by kernel_rfl) ?_ _
  have KS := sync_any X1 D d1 W1 hD1
  have x0 := Blk.cell hW2 0
  simp at x0
  have HM := Lib.hid hM1
  clear hM1 hD1 hW hW1 hW2 KW
  go_wp2_with (go_at_call 92;refine KS.mono ?_;rintro e W2 ⟨rfl,hD2,hF2⟩)
  go_wp2
  go_ret
  exact ⟨by rw [HRE.out];rfl,X1,by rw [HRE.out];exact hD2,(Mv.trans (b := W1) ⟨⟨HM.out.frm.os,HM.out.frm.tape,HM.out.frm.output,HM.out.frm.size,HM.out.frm.block⟩,HM.out.sub⟩ (.of_frm hF2))⟩
 ·have HRE := Lib.hid (HR7.out rfl)
  clear HR0 HR7
  go_enter Tryz.func105,Tryz.ntmps105
  go_upto_region 1 with (fail)
  refine wp_region_held (S := fun w' => WLog w' b D f s) mixed ?_
  change wpAnyH _ _ _ _ _ _ _ _ w.drew
  have hW1 : WLog w.drew b D f s := hW
  refine tkQ 0 (.pointer (some ⟨b,0,none⟩)) rfl hW1 ?_
  try go_simp
  refine tkQ 1 (.pointer (some ⟨b,0,none⟩)) rfl hW1 ?_
  try go_simp
  refine tkQ 2 (.pointer (some ⟨b,0,none⟩)) rfl hW1 ?_
  try go_simp
  refine tkH 3 (.pointer (some ⟨D,0,none⟩)) rfl hW1 (fun w' hS => ?_) ?_
  ·have q0 := Blk.cell hS 0;simp at q0;go_simp
  try go_simp
  refine tkQ 4 (.pointer (some ⟨b,0,none⟩)) rfl hW1 ?_
  try go_simp
  refine tkQ 5 (.pointer (some ⟨b,0,none⟩)) rfl hW1 ?_
  try go_simp
  refine tkQ 6 (.pointer (some ⟨b,1,none⟩)) rfl hW1 ?_
  try go_simp
  refine tkH 7 (.int .i64 (f : Int)) rfl hW1 (fun w' hS => ?_) ?_
  ·have q0 := Blk.cell hS 1;simp at q0;go_simp
  try go_simp
  refine tkQ 8 (.string Y) rfl hW1 ?_
  try go_simp
  refine alH 9 ?_
  unfold wpOp
  go_simp
  refine .inl ?_
  go_at_call 91
  refine KW.mono ?_
  rintro e W1 ⟨rfl,X1,hD1,hM1⟩
  have hW2 : WLog W1 b D f s := hM1.blk hW1 HBX.out
  refine ⟨hW2, ?_⟩
  refine tkQ 10 (.int .i64 7) rfl hW2 ?_
  try go_simp
  refine wpAnyH_done (by kernel_rfl) ?_ _
  have HM := Lib.hid hM1
  have HD1 := Lib.hid hD1
  clear hM1 hD1 hW hW1 hW2 KW
  go_wp2
  go_ret
  exact ⟨by rw [HRE.out];rfl,X1,by rw [HRE.out];exact HD1.out,⟨⟨HM.out.frm.os,HM.out.frm.tape,HM.out.frm.output,HM.out.frm.size,HM.out.frm.block⟩,HM.out.sub⟩⟩
open Go.RowKit
def wrs (x : List (Nat × Bs)) : List Cmd := x.map fun c => .wr c.1 c.2
theorem wrs_snoc (x : List (Nat × Bs)) (k : Nat) (h : k < x.length) : wrs (x.take (k + 1)) = wrs (x.take k) ++ [.wr x[k].1 x[k].2] := by
 unfold wrs;rw [List.take_succ_eq_append_getElem h,List.map_append];rfl
theorem wrs_split (x : List (Nat × Bs)) (k : Nat) : wrs x = wrs (x.take k) ++ wrs (x.drop k) := by unfold wrs;rw [← List.map_append,List.take_append_drop]
theorem wrs_length (x : List (Nat × Bs)) : (wrs x).length = x.length := by simp [wrs]
theorem wrs_next (x : List (Nat × Bs)) (l : List Cmd) (ds : DS) (k : Nat) (h : k < x.length) (h0 : (DS.run (wrs (x.take k)) ds).1 = 0) :
  DS.run (wrs (x.take (k + 1))) ds = (DS.run (wrs (x.take k)) ds).2.write x[k].1 x[k].2 ∧ (((DS.run (wrs (x.take k)) ds).2.write x[k].1 x[k].2).1 ≠ 0 → DS.run (wrs x ++ l) ds = (DS.run (wrs (x.take k)) ds).2.write x[k].1 x[k].2) := by
 have e : DS.run (wrs (x.take (k + 1))) ds = (DS.run (wrs (x.take k)) ds).2.write x[k].1 x[k].2 := by rw [wrs_snoc x k h,run_snoc _ _ _ h0];rfl
 refine ⟨e,fun h1 => ?_⟩
 rw [wrs_split x (k + 1),List.append_assoc,run_stop _ _ _ (by rw [e];exact h1),e]
theorem wrs_all (x : List (Nat × Bs)) (ds : DS) (h0 : (DS.run (wrs (x.take x.length)) ds).1 = 0) : DS.run (wrs x ++ [.sy]) ds = (DS.run (wrs (x.take x.length)) ds).2.sync := by
 rw [List.take_of_length_le (Nat.le_refl _)] at h0 ⊢
 rw [run_snoc _ _ _ h0];rfl
theorem wrs_len (x : List (Nat × Bs)) (k : Nat) (ds : DS) : (DS.run (wrs (x.take k)) ds).2.L.length = ds.L.length ∧ (DS.run (wrs (x.take k)) ds).2.S.length ≤ ds.S.length + k := by
 have := run_len (wrs (x.take k)) ds
 rw [wrs_length,List.length_take] at this
 exact ⟨this.1,by omega⟩
theorem Mv.lies {X Y : List Nat} {w w' : World} (h : Mv X Y w w') {A : Option Addr} {xs : List Value} (hl : Lies w A xs) (hx : ∀ a,A = some a → a.block ∉ X) : Lies w' A xs := h.frm.lies hl hx
theorem Dsk.drew {X : List Nat} {w : World} {D : Nat} {d : DS} (h : Dsk w X D d) : Dsk w.drew X D d := h.frm (Y := []) (Frm.refl _ w).drew (fun _ _ => by simp)
theorem Mv.of_drew {X Y : List Nat} {w w' : World} (h : Mv X Y w.drew w') : Mv X Y w w' := ⟨⟨h.frm.os,h.frm.tape,h.frm.output,h.frm.size,h.frm.block⟩,h.sub⟩
set_option maxRecDepth 100000 in
set_option maxHeartbeats 1000000 in
theorem make_any (X : List Nat) (D : Nat) (ds : DS) (b f s : Nat) (A : Option Addr) (cap : Nat) (x : List (Nat × Bs)) (w : World) (hD : Dsk w X D ds) (hW : WLog w b D f s) (hb : b ∉ X) (hA : Lies w A (scells x)) (hAX : ∀ a,A = some a → a.block ∉ X)
  (hx : ∀ c ∈ x,c.1 < ds.L.length ∧ c.2.length ≤ 512) (hn : x.length ≤ 64) (hS : ds.S.length ≤ 999000) :
  Calls Tryz.prog 104 #[.pointer (some ⟨b,0,none⟩), .slice A x.length cap] w fun e w' => e = .returned (.int .i64 ((DS.run (wrs x ++ [.sy]) ds).1 : Nat)) ∧ ∃ X',Dsk w' X' D (DS.run (wrs x ++ [.sy]) ds).2 ∧ Mv X X' w w' := by
 have HNX := Lib.hid (fun k hk h0 => wrs_next x [.sy] ds k hk h0)
 have HAL := Lib.hid (wrs_all x ds)
 have HLN := Lib.hid (fun k => wrs_len x k ds)
 obtain ⟨R,hR⟩ : ∃ q,DS.run (wrs x ++ [.sy]) ds = q := ⟨_,rfl⟩
 rw [hR] at HNX HAL ⊢
 have HX := Lib.hid hx
 have HAX := Lib.hid hAX
 obtain ⟨n,hnn⟩ : ∃ n,x.length = n := ⟨_,rfl⟩
 rw [hnn] at hn HAL ⊢
 have HN := Lib.hid hnn
 have HL := Lib.hid hA
 have HBX := Lib.hid hb
 have HW := Lib.hid hW
 have HD := Lib.hid hD
 have mixed := mixedT
 clear hD hW hb hA hAX hx hnn hR
 go_enter Tryz.func104,Tryz.ntmps104
 go_wp2
 go_loopw [10] (fun i wr => ∃ k : Nat,k ≤ n ∧ i = .int .i64 k ∧ (DS.run (wrs (x.take k)) ds).1 = 0 ∧ ∃ X',Dsk wr X' D (DS.run (wrs (x.take k)) ds).2 ∧ Mv X X' w wr) (fun i _ => n - (intOf i).toNat)
 case atStart => exact ⟨0,Nat.zero_le _,rfl,rfl,X,HD.out,Mv.refl _ _⟩
 case round =>
  obtain ⟨k,hk,rfl,h0,X1,hD1,hM1⟩ := hrel
  have hsz := hM1.size
  by_cases hlt : k < n
  ·have hkl : k < x.length := by rw [HN.out];exact hlt
   obtain ⟨g,off,rfl,hgl,hcs⟩ := HL.out (by rw [scells_length];omega)
   obtain ⟨s0,s1⟩ := scells_at x k hkl
   have hgX : g ∉ X := HAX.out _ rfl
   have d0 := (hM1.frm.cell (p := ⟨g,off + k * 2,none⟩) hgl hgX).trans (hcs _ _ s0)
   have d1 := (hM1.frm.cell (p := ⟨g,off + (k * 2 + 1),none⟩) hgl hgX).trans (hcs _ _ s1)
   have hgr : g < wr.heap.size := by omega
   obtain ⟨hq1,hq2⟩ := HX.out x[k] (List.getElem_mem hkl)
   obtain ⟨hnx,hst⟩ := HNX.out k hkl h0
   obtain ⟨hl1,hl2⟩ := HLN.out k
   have HRK := Lib.hid hnx
   have HST := Lib.hid hst
   obtain ⟨dk,hdk⟩ : ∃ q,(DS.run (wrs (x.take k)) ds).2 = q := ⟨_,rfl⟩
   rw [hdk] at hD1 HRK HST hl1 hl2
   obtain ⟨z,hz⟩ : ∃ z,x[k].1 = z := ⟨_,rfl⟩
   obtain ⟨y,hy⟩ : ∃ z,x[k].2 = z := ⟨_,rfl⟩
   rw [hz] at d0 hq1 HRK HST
   rw [hy, ← Nat.add_assoc] at d1
   rw [hy] at hq2 HRK HST
   have hW1 := hM1.blk HW.out HBX.out
   have hbX1 := hM1.apart HBX.out (Blk.lt HW.out)
   have hnum := write_num dk z y
   obtain ⟨Y,hY⟩ : ∃ q,mk y = q := ⟨_,rfl⟩
   rw [hY] at d1
   have hD2 := (hD1.below (below_alloc wr (.cells #[.int .i64 z, .string Y] 198))).drew
   have KW := write_any X1 D dk z y _ hD2 (by omega) hq2 (by omega)
   rw [hY] at KW
   obtain ⟨d1p,hd1p⟩ : ∃ q,dk.write z y = q := ⟨_,rfl⟩
   rw [hd1p] at KW hnum HRK HST
   obtain ⟨num,d2⟩ := d1p
   dsimp only at KW hnum HST
   have HM1 := Lib.hid hM1
   have HLT := Lib.hid hD1.lt
   have k0 : (0 : Int) ≤ (k : Int) := by omega
   have k1 : (k : Int) < (n : Int) := by omega
   clear hnx hst hdk hz hy hD1 hM1 hcs s0 s1 hq1 hq2 hl1 hl2 hY hD2 hd1p h0 hgX hkl
   go_wp2
   have hW2 : WLog (wr.alloc (.cells #[.int .i64 z, .string Y] 198)).drew b D f s := Blk.alloc hW1 _
   have hZ1 := Blk.new wr #[.int .i64 z, .string Y] 198
   have hA2 := ((below_alloc wr (.cells #[.int .i64 z, .string Y] 198))).drew
   obtain ⟨V,hV⟩ : ∃ V,wr.heap.size = V := ⟨_,rfl⟩
   rw [hV] at hZ1
   simp only [hV]
   refine wp_region_held (S := fun w' => WLog w' b D f s ∧ Blk w' V #[.int .i64 z, .string Y] 198) mixed ?_
   change wpAnyH _ _ _ _ _ _ _ _ (wr.alloc (.cells #[.int .i64 z, .string Y] 198)).drew
   have hZ2 : Blk (wr.alloc (.cells #[.int .i64 z, .string Y] 198)).drew V _ 198 := hZ1
   obtain ⟨W,hWW⟩ : ∃ u,(wr.alloc (.cells #[.int .i64 z, .string Y] 198)).drew = u := ⟨_,rfl⟩
   rw [hWW] at hZ2 hA2 hW2 KW ⊢
   have HV := Lib.hid hV
   have hVX : V ∉ X1 := fun hx => by have := HLT.out V hx;have := HV.out;omega
   clear hWW hZ1 d0 d1 hV
   have hS0 := And.intro hW2 hZ2
   refine tkQ 0 (.pointer (some ⟨b,0,none⟩)) rfl hS0 ?_
   try go_simp
   refine tkQ 1 (.pointer (some ⟨b,0,none⟩)) rfl hS0 ?_
   try go_simp
   refine tkQ 2 (.pointer (some ⟨b,0,none⟩)) rfl hS0 ?_
   try go_simp
   refine tkH 3 (.pointer (some ⟨D,0,none⟩)) rfl hS0 (fun w' hS => ?_) ?_
   ·have q0 := Blk.cell hS.1 0;simp at q0;go_simp
   try go_simp
   refine tkQ 4 (.pointer (some ⟨V,0,none⟩)) rfl hS0 ?_
   try go_simp
   refine tkH 5 (.int .i64 (z : Int)) rfl hS0 (fun w' hS => ?_) ?_
   ·have q0 := Blk.cell hS.2 0;simp at q0;go_simp
   try go_simp
   refine tkQ 6 (.pointer (some ⟨V,1,none⟩)) rfl hS0 ?_
   try go_simp
   refine tkH 7 (.string Y) rfl hS0 (fun w' hS => ?_) ?_
   ·have q0 := Blk.cell hS.2 1;simp at q0;go_simp
   try go_simp
   refine alH 8 ?_
   unfold wpOp
   go_simp
   refine .inl ?_
   go_at_call 91
   refine KW.mono ?_
   rintro e W1 ⟨rfl,X2,hD3,hM2⟩
   have hS1 : WLog W1 b D f s ∧ Blk W1 V #[.int .i64 z, .string Y] 198 := ⟨hM2.blk hW2 hbX1,hM2.blk hZ2 hVX⟩
   refine ⟨hS1, ?_⟩
   rcases hnum with rfl | rfl
   ·
    refine tkQ 9 (.int .i64 0) rfl hS1 ?_
    try go_simp
    refine wpAnyH_done (by kernel_rfl) ?_ _
    have HD3 := Lib.hid hD3
    have HMF := Lib.hid (HM1.out.trans ((Mv.of_below X1 hA2).trans hM2))
    clear hW2 hZ2 hS0 hS1 hD3 hM2 hA2 KW hW1 hVX HST
    go_wp2
    go_roundw
    case rel => exact ⟨k + 1,by omega,by go_num,by rw [HRK.out],X2,by rw [HRK.out];exact HD3.out,HMF.out⟩
    case measure => simp [intOf];omega
   ·
    refine tkQ 9 (.int .i64 7) rfl hS1 ?_
    try go_simp
    refine wpAnyH_done (by kernel_rfl) ?_ _
    have HD3 := Lib.hid hD3
    have HMF := Lib.hid (HM1.out.trans ((Mv.of_below X1 hA2).trans hM2))
    have HRE := Lib.hid (HST.out (by decide))
    clear hW2 hZ2 hS0 hS1 hD3 hM2 hA2 KW hW1 hVX HST
    go_wp2
    go_ret
    exact ⟨by rw [HRE.out];rfl,X2,by rw [HRE.out];exact HD3.out,HMF.out⟩
  ·obtain rfl : n = k := by omega
   have hal := HAL.out (by simpa using h0)
   obtain ⟨dk,hdk⟩ : ∃ q,(DS.run (wrs (x.take n)) ds).2 = q := ⟨_,rfl⟩
   rw [hdk] at hD1 hal
   have HRE := Lib.hid hal
   have KS := sync_any X1 D dk wr hD1
   have hW1 := hM1.blk HW.out HBX.out
   have x0 := Blk.cell hW1 0
   simp at x0
   have HM := Lib.hid hM1
   clear hM1 hD1 hW1 hal hdk h0
   go_wp2_with (go_at_call 92;refine KS.mono ?_;rintro e W2 ⟨rfl,hD2,hF2⟩)
   go_wp2
   go_ret
   exact ⟨by rw [HRE.out];rfl,X1,by rw [HRE.out];exact hD2,HM.out.trans (.of_frm hF2)⟩
open Go.RowKit
def byteAt (h : Bs) (i : Nat) : Nat := (h[i]?.getD 0).toNat
def numAt (h : Bs) (i : Nat) : Nat := byteAt h i * 256 + byteAt h (i + 1)
def secAt (v : List Bs) (i : Nat) : Bs := v[i]?.getD []
def saidX (v : List Bs) (f n : Nat) : List (Nat × Bs) := (List.range n).map fun i => (numAt (secAt v f) (3 + 2 * i),secAt v (f + 1 + i))
def saidOk (v : List Bs) (f s : Nat) : Bool := (secAt v f).take 2 == [87,76] && decide (1 ≤ byteAt (secAt v f) 2) && decide (byteAt (secAt v f) 2 ≤ s - 1) && ((saidX v f (byteAt (secAt v f) 2)).all fun c => mayB v.length f s c.1) && secAt v f == fullB (headW (saidX v f (byteAt (secAt v f) 2)))
def saidB (v : List Bs) (f s : Nat) : List (Nat × Bs) := if saidOk v f s then saidX v f (byteAt (secAt v f) 2) else []
theorem at_mk (l : Bs) (j : Nat) (hj : j < l.length) : ∃ h : j < (mk l).size,((mk l)[j]'h).toNat = byteAt l j := by
 have hs := mk_size l
 refine ⟨by omega, ?_⟩
 have h2 : (mk l).data.toList[j]? = l[j]? := by rw [mk_data]
 rw [Array.getElem?_toList,Array.getElem?_eq_getElem (by show j < (mk l).size;omega)] at h2
 unfold byteAt
 rw [← h2];rfl
theorem at_mkH (l : Bs) (H : ByteArray) (hH : mk l = H) (j : Nat) (hj : j < l.length) : ∃ h : j < H.size,(H[j]'h).toNat = byteAt l j := by subst hH;exact at_mk l j hj
theorem byteAt_lt (l : Bs) (j : Nat) : byteAt l j < 256 := UInt8.toNat_lt _
theorem saidX_length (v : List Bs) (f n : Nat) : (saidX v f n).length = n := by simp [saidX]
theorem saidX_snoc (v : List Bs) (f n : Nat) : saidX v f (n + 1) = saidX v f n ++ [(numAt (secAt v f) (3 + 2 * n),secAt v (f + 1 + n))] := by
 unfold saidX;rw [List.range_succ,List.map_append];rfl
theorem bdN {B : Nat} {a w : World} (h : Below B a w) (n : Nat) : Below B a (w.drewN n) := ⟨h.os,h.tape,h.output,h.size,h.block⟩
theorem word64 {a m : Int} (h0 : 0 ≤ a) (h1 : a < m) (h2 : m ≤ 9223372036854775807) : wrap64 a = a := Go.IntWalk.wrap64_in _ (by omega)
theorem word256 {a : Int} (h0 : 0 ≤ a) (h1 : a < 256) : IntKind.i64.wrap (a * 256) = a * 256 := by rw [Go.IntWalk.i64_left,Go.IntWalk.wrap64_in _ (by omega)]
theorem word1 {a : Int} (h0 : 0 ≤ a) (h1 : a < 512) : IntKind.i64.wrap (a + 1) = a + 1 := by rw [Go.IntWalk.i64_left,Go.IntWalk.wrap64_in _ (by omega)]
theorem row2_at {w : World} {B m : Nat} {e : TypeId} {v : Value} {S : List (Nat × Bs)} (h : w.ownsRow B e 2 v m (scells S)) (hm : S.length = m) (j : Nat) (hj : j < S.length) : ∃ g c,v = .slice (some ⟨g,0,none⟩) m c ∧ g < w.heap.size ∧ w.cell? ⟨g,j * 2,none⟩ = some (.int .i64 S[j].1) ∧ w.cell? ⟨g,j * 2 + 1,none⟩ = some (.string (mk S[j].2)) := by
 obtain ⟨g,cap,rfl,_,hl⟩ := h.form (by omega)
 obtain ⟨h0,h1⟩ := scells_at S j hj
 refine ⟨g,cap,rfl,hl, ?_, ?_⟩
 ·rw [h.cellAt (j * 2) (by omega)];exact h0
 ·rw [h.cellAt (j * 2 + 1) (by omega)];exact h1
theorem info156 : (Tryz.prog.info? 198).map (fun i => (i.zero,i.size,i.bytes)) = some (some (.agg #[.int .i64 0, .string ⟨#[]⟩]),2,24) := by kernel_rfl
theorem vis_length (d : DS) : d.vis.length = d.L.length := overlay_length _ _
theorem vis_sec {d : DS} (h : DGood d) (i : Nat) (hi : i < d.L.length) : (secAt d.vis i).length = 512 := by
 unfold secAt
 have hl := vis_length d
 rw [List.getElem?_eq_getElem (by rw [hl];exact hi)]
 exact over_good d.L.length d.S d.L h.lasts h.wrote _ (List.getElem_mem _)
set_option maxRecDepth 100000 in
set_option maxHeartbeats 2000000 in
theorem said_any (X : List Nat) (D : Nat) (ds : DS) (b f s : Nat) (w : World) (hD : Dsk w X D ds) (hW : WLog w b D f s) (hf : f + s ≤ ds.L.length) (hs : 2 ≤ s) (hs2 : s ≤ 65) (ho : ds.off = false) (hT : TB w) (hw : 1 < w.heap.size) :
  Calls Tryz.prog 103 #[.pointer (some ⟨b,0,none⟩)] w fun e w' => (∃ A c,e = .returned (.tuple #[.slice A (saidB ds.vis f s).length c, .int .i64 0]) ∧ w'.ownsRow w.heap.size 198 2 (.slice A (saidB ds.vis f s).length c) (saidB ds.vis f s).length (scells (saidB ds.vis f s))) ∧ Below w.heap.size w w' := by
 have hsm := hD.good.small
 have hvl := vis_length ds
 have hh := vis_sec hD.good f (by omega)
 have KR := fun (i : Nat) (hi : i < ds.L.length) (w' : World) (hb : Below w.heap.size w w') => read_any X D ds i w' (hD.below hb) hi ho
 have HXG := Lib.hid (show ∀ n ≤ s - 1, ∀ c ∈ saidX ds.vis f n,c.1 ≤ 1000000 ∧ c.2.length = 512 from fun n hn c hc => by
  unfold saidX at hc
  obtain ⟨i,hi,rfl⟩ := List.mem_map.1 hc
  have hi2 := List.mem_range.1 hi
  refine ⟨?_,vis_sec hD.good _ (by omega)⟩
  have h1 := byteAt_lt (secAt ds.vis f) (3 + 2 * i)
  have h2 := byteAt_lt (secAt ds.vis f) (3 + 2 * i + 1)
  show numAt _ _ ≤ _
  unfold numAt
  omega)
 have HKR := Lib.hid KR
 have KR0 := fun (w' : World) (hb : Below w.heap.size w w') => KR f (by omega) w' hb
 simp only [show (ds.vis[f]?.getD []) = secAt ds.vis f from rfl] at KR0
 have x0 := Blk.cell hW 0
 have x1 := Blk.cell hW 1
 simp at x0 x1
 have hsl := fun (w : World) => run_slice_string_h (P := Tryz.prog) (w := w) (t := 9) (s := mk (secAt ds.vis f)) Tryz.underlying9 .i64 2 (by omega) (by rw [mk_size,hh];omega)
 rw [show (2 : Int).toNat = 2 from rfl,show (mk (secAt ds.vis f)).extract 0 2 = mk ((secAt ds.vis f).take 2) by have := ext_mk' (mk (secAt ds.vis f)) 0 2;simpa [mk_data] using this] at hsl
 obtain ⟨nb,hnb⟩ : ∃ q,byteAt (secAt ds.vis f) 2 = q := ⟨_,rfl⟩
 have hnb8 : nb < 256 := by rw [← hnb];exact byteAt_lt _ _
 have hok : saidOk ds.vis f s = ((secAt ds.vis f).take 2 == [87,76] && decide (1 ≤ nb) && decide (nb ≤ s - 1) && ((saidX ds.vis f nb).all fun c => mayB ds.L.length f s c.1) && secAt ds.vis f == fullB (headW (saidX ds.vis f nb))) := by unfold saidOk;rw [hnb,hvl]
 have HSD := Lib.hid (show saidB ds.vis f s = if saidOk ds.vis f s then saidX ds.vis f nb else [] by unfold saidB;rw [hnb])
 have HOK := Lib.hid hok
 obtain ⟨R,hR⟩ : ∃ q,saidB ds.vis f s = q := ⟨_,rfl⟩
 rw [hR] at HSD ⊢
 have HHH := Lib.hid hh
 obtain ⟨hd,hhd⟩ : ∃ q,secAt ds.vis f = q := ⟨_,rfl⟩
 rw [hhd] at hsl hh HOK hnb
 simp only [hhd] at KR0
 have hz := mk_size hd
 rw [hh] at hz
 obtain ⟨H,hHe⟩ : ∃ q,mk hd = q := ⟨_,rfl⟩
 obtain ⟨h2a,h2b⟩ := at_mkH hd H hHe 2 (by omega)
 rw [hnb] at h2b
 rw [hHe] at hsl hz
 simp only [hHe] at KR0
 have HE := Lib.hid (And.intro hhd hHe)
 obtain ⟨i156,hi0,hi1,hi2,hi3⟩ := info_parts info156
 have mixed := mixedT
 have HKR0 := Lib.hid KR0
 have HTW := Lib.hid (And.intro hT hw)
 have HF5 := Lib.hid (show f ≤ 5000 by omega)
 have HFS := Lib.hid (And.intro hf (And.intro hs hs2))
 have HW := Lib.hid hW
 have HD := Lib.hid hD
 have HNIL := Lib.hid (show ∀ w' : World,w'.ownsRow w.heap.size 198 2 (.slice none 0 0) 0 [] from fun w' => World.ownsRow_nil _ _ _ _)
 clear hD hW hf hs hs2 ho hT hw hsm hvl hh KR KR0 hnb hok hR hhd hHe
 by_cases hp1 : hd.take 2 = [87,76]
 case neg =>
  have hne2 : ((mk (hd.take 2)).toList == [87,76]) = false := by rw [mk_toList'];exact beq_eq_false_iff_ne.2 hp1
  have hne3 : ((mk (hd.take 2)).toList == ByteArray.toList ⟨#[87,76]⟩) = false := by rw [mk_toList',show ByteArray.toList ⟨#[87,76]⟩ = [87,76] from mk_toList' [87,76]];exact beq_eq_false_iff_ne.2 hp1
  have HRN := Lib.hid (show R = [] by rw [HSD.out,HOK.out,show (hd.take 2 == [87,76]) = false from beq_eq_false_iff_ne.2 hp1];simp)
  obtain ⟨H2,hH2e⟩ : ∃ q,mk (hd.take 2) = q := ⟨_,rfl⟩
  rw [hH2e] at hne2 hne3 hsl
  obtain rfl := HRN.out
  clear hH2e hp1 HSD HOK h2b HRN
  go_enter Tryz.func103,Tryz.ntmps103
  go_upto_region 1 with (fail)
  go_quiet ((go_at_call 29;exact Calls.quiet_of_same (HKR0.out _ (bdN (Below.refl _ _) _))))
  go_wp2
  go_ret2
  exact ⟨⟨none,0,rfl,HNIL.out _⟩,bdN (Below.refl _ _) _⟩
 rw [hp1] at hsl
 have he2 : (ByteArray.toList ⟨#[87,76]⟩ == [87,76]) = true := by rw [show ByteArray.toList ⟨#[87,76]⟩ = [87,76] from mk_toList' [87,76]];rfl
 rw [show mk [87,76] = ⟨#[87,76]⟩ from rfl] at hsl
 have hwn : wrap64 (nb : Int) = (nb : Int) := Go.IntWalk.wrap64_in _ (by omega)
 by_cases hp2 : 1 ≤ nb
 case neg =>
  have HRN := Lib.hid (show R = [] by rw [HSD.out,HOK.out,show decide (1 ≤ nb) = false by simpa using hp2];simp)
  obtain rfl := HRN.out
  have b0 : (nb : Int) < 1 := by omega
  clear HSD HOK hp1 hp2 hnb8 HRN
  go_enter Tryz.func103,Tryz.ntmps103
  go_upto_region 1 with (fail)
  go_quiet ((go_at_call 29;exact Calls.quiet_of_same (HKR0.out _ (bdN (Below.refl _ _) _))))
  go_wp2
  go_ret2
  exact ⟨⟨none,0,rfl,HNIL.out _⟩,bdN (Below.refl _ _) _⟩
 have hfs := HFS.out
 have KM := fun n => most_any b D f s (w.drewN n) (show WLog (w.drewN n) b D f s from HW.out) (by omega)
 by_cases hp3 : nb ≤ s - 1
 case neg =>
  have HRN := Lib.hid (show R = [] by rw [HSD.out,HOK.out,show decide (nb ≤ s - 1) = false by simpa using hp3];simp)
  obtain rfl := HRN.out
  obtain ⟨s1,hs1⟩ : ∃ q,s - 1 = q := ⟨_,rfl⟩
  rw [hs1] at KM hp3
  have b0 : ¬ ((nb : Int) < 1) := by omega
  have b1 : (s1 : Int) < (nb : Int) := by omega
  clear HSD HOK hp1 hp2 hnb8 HRN hp3 hs1 hfs
  go_enter Tryz.func103,Tryz.ntmps103
  go_upto_region 1 with (fail)
  go_quiet ((go_at_call 29;exact Calls.quiet_of_same (HKR0.out _ (bdN (Below.refl _ _) _))))
  go_wp2_with (go_at_call 132;refine (KM _).mono ?_;rintro e w1 ⟨rfl,hw⟩;obtain rfl := hw.symm)
  go_ret2
  exact ⟨⟨none,0,rfl,HNIL.out _⟩,bdN (Below.refl _ _) _⟩
 have HB63 := Lib.hid (show nb ≤ 64 from by omega)
 have HXG := Lib.hid (HXG.out nb hp3)
 obtain ⟨s1,hs1⟩ : ∃ q,s - 1 = q := ⟨_,rfl⟩
 rw [hs1] at KM
 have b0 : ¬ ((nb : Int) < 1) := by omega
 have b1 : ¬ ((s1 : Int) < (nb : Int)) := by omega
 have b1n : ¬ (s1 < nb) := by omega
 have b2 : (0 : Int) ≤ (nb : Int) := by omega
 have b3 : (nb : Int) ≤ 64 := by omega
 have HOK2 := Lib.hid (show saidOk ds.vis f s = (((saidX ds.vis f nb).all fun c => mayB ds.L.length f s c.1) && hd == fullB (headW (saidX ds.vis f nb))) by
  rw [HOK.out,hp1,show decide (1 ≤ nb) = true by simpa using hp2,show decide (nb ≤ s - 1) = true by simpa using hp3];simp)
 have HS1 := Lib.hid hs1.symm
 clear HOK hp1 hp2 hnb8 hp3 hs1 hfs
 go_enter Tryz.func103,Tryz.ntmps103
 go_upto_region 1 with (fail)
 go_quiet ((go_at_call 29;exact Calls.quiet_of_same (HKR0.out _ (bdN (Below.refl _ _) _))))
 go_wp2_with (go_at_call 132;refine (KM _).mono ?_;rintro e w1 ⟨rfl,hw⟩;obtain rfl := hw.symm)
 go_loopw [7,47] (fun v i wr => ∃ k : Nat,k ≤ nb ∧ i = .int .i64 k ∧ wr.ownsRow w.heap.size 198 2 v k (scells (saidX ds.vis f k)) ∧ Below w.heap.size w wr) (fun _ i _ => nb - (intOf i).toNat)
 case atStart => exact ⟨0,Nat.zero_le _,rfl,World.ownsRow_nil _ _ _ _,bdN (Below.refl _ _) _⟩
 case round =>
  obtain ⟨k,hk,rfl,hrow,hb⟩ := hrel
  by_cases hlt : k < nb
  ·have hsz := hb.size
   have hf3 := HFS.out
   have hnb := HB63.out
   have hn1 : s1 = s - 1 := HS1.out
   have KRk := fun n => HKR.out (f + 1 + k) (by omega) (wr.drewN n) (bdN hb n)
   simp only [show ∀ i : Nat,(ds.vis[i]?.getD []) = secAt ds.vis i from fun _ => rfl] at KRk
   rw [show ((f + 1 + k : Nat) : Int) = (f : Int) + 1 + (k : Int) by omega] at KRk
   obtain ⟨y,hy⟩ : ∃ q,secAt ds.vis (f + 1 + k) = q := ⟨_,rfl⟩
   obtain ⟨Y,hY⟩ : ∃ q,mk y = q := ⟨_,rfl⟩
   simp only [hy,hY] at KRk
   have x0 := Blk.cell (show WLog wr b D f s from HW.out.below hb) 0
   have x1 := Blk.cell (show WLog wr b D f s from HW.out.below hb) 1
   simp at x0 x1
   have hfb : f ≤ 5000 := HF5.out
   have w1 : IntKind.i64.wrap ((f : Int) + 1) = (f : Int) + 1 := by rw [Go.IntWalk.i64_left,Go.IntWalk.wrap64_in _ (by omega)]
   have w2 : IntKind.i64.wrap ((f : Int) + 1 + (k : Int)) = (f : Int) + 1 + (k : Int) := by rw [Go.IntWalk.i64_left,Go.IntWalk.wrap64_in _ (by omega)]
   have k0 : (0 : Int) ≤ (k : Int) := by omega
   have k1 : (k : Int) < (nb : Int) := by omega
   have HROW := Lib.hid hrow
   have HB := Lib.hid hb
   have HY := Lib.hid (And.intro hy hY)
   clear hrow hb hy hY hlt hf3 hnb hn1 hfb
   go_upto_region 11 with (fail)
   go_quiet ((go_at_call 29;exact Calls.quiet_of_same (KRk _)))
   go_upto_region 15 with (fail)
   clear w1 w2
   obtain ⟨j,hj⟩ : ∃ j,3 + 2 * k = j := ⟨_,rfl⟩
   have hji : 3 + 2 * (k : Int) = (j : Int) := by omega
   have hjl : j + 1 < hd.length := by have := HHH.out;rw [HE.out.1] at this;have := HB63.out;omega
   obtain ⟨ja,jb⟩ := at_mkH hd H HE.out.2 j (by omega)
   obtain ⟨jc,jd⟩ := at_mkH hd H HE.out.2 (j + 1) hjl
   obtain ⟨a1,ha1⟩ : ∃ q,byteAt hd j = q := ⟨_,rfl⟩
   obtain ⟨a2,ha2⟩ : ∃ q,byteAt hd (j + 1) = q := ⟨_,rfl⟩
   rw [ha1] at jb
   rw [ha2] at jd
   have q1 : a1 < 256 := by rw [← ha1];exact byteAt_lt _ _
   have q2 : a2 < 256 := by rw [← ha2];exact byteAt_lt _ _
   have q3 : (0 : Int) ≤ (a1 : Int) ∧ (a1 : Int) < 256 := by omega
   have q4 : (0 : Int) ≤ (a2 : Int) ∧ (a2 : Int) < 256 := by omega
   have j0 : (0 : Int) ≤ (j : Int) := by omega
   have j1 : (j : Int) < 512 := by have := HHH.out;rw [HE.out.1] at this;omega
   have jt : ((j : Int) + 1).toNat = j + 1 := by omega
   have jp : (j : Int) + 1 < 512 := by have := HHH.out;rw [HE.out.1] at this;omega
   have jp0 : 0 ≤ (j : Int) + 1 := by omega
   obtain ⟨N,hN⟩ : ∃ q,a1 * 256 + a2 = q := ⟨_,rfl⟩
   have hN1 : a1 < 1099511627776 := by omega
   have HNN := Lib.hid (show numAt hd (3 + 2 * k) = N by unfold numAt;rw [hj,ha1,ha2];exact hN)
   have hor := or_i64 a1 a2 hN1 q2
   have w4 : wrap64 (a2 : Int) = (a2 : Int) := word64 q4.1 q4.2 (by decide)
   rw [w4,hN] at hor
   have w3 : wrap64 (a1 : Int) = (a1 : Int) := word64 q3.1 q3.2 (by decide)
   have w7 : IntKind.i64.wrap (a1 : Int) = (a1 : Int) := by rw [Go.IntWalk.i64_left];exact w3
   have w8 : IntKind.i64.wrap (a2 : Int) = (a2 : Int) := by rw [Go.IntWalk.i64_left];exact w4
   have w5 : IntKind.i64.wrap ((a1 : Int) * 256) = (a1 : Int) * 256 := word256 q3.1 q3.2
   have w6 : IntKind.i64.wrap ((j : Int) + 1) = (j : Int) + 1 := word1 j0 j1
   clear ha1 ha2 hN hjl hN1
   rw [hji]
   refine wp_region_held (S := fun _ => True) mixed ?_
   change wpAnyH _ _ _ _ _ _ _ _ (World.drewN _ _).drew
   have hrow0 := Lib.hid (show (wr.drewN nq).drew.ownsRow w.heap.size 198 2 u7 k (scells (saidX ds.vis f k)) from HROW.out)
   have hb0 := Lib.hid (bdN HB.out nq).drew
   obtain ⟨W0,hW0⟩ : ∃ q,(wr.drewN nq).drew = q := ⟨_,rfl⟩
   rw [hW0] at hrow0 hb0 ⊢
   clear hW0
   refine tkQ 0 (u7) rfl trivial ?_
   try go_simp
   refine tkQ 1 (.string H) rfl trivial ?_
   try go_simp
   refine tkQ 2 (.int .i64 (j : Int)) rfl trivial ?_
   try go_simp
   refine tkQ 3 (.int .u8 (a1 : Int)) rfl trivial ?_
   try go_simp
   refine tkQ 4 (.int .i64 (a1 : Int)) rfl trivial ?_
   try go_simp
   refine tkQ 5 (.int .i64 ((a1 : Int) * 256)) rfl trivial ?_
   try go_simp
   refine tkQ 6 (.string H) rfl trivial ?_
   try go_simp
   refine tkQ 7 (.int .i64 (j : Int)) rfl trivial ?_
   try go_simp
   refine tkQ 8 (.int .i64 ((j : Int) + 1)) rfl trivial ?_
   try go_simp
   refine tkQ 9 (.int .u8 (a2 : Int)) rfl trivial ?_
   try go_simp
   refine tkQ 10 (.int .i64 (a2 : Int)) rfl trivial ?_
   try go_simp
   refine tkQ 11 (.int .i64 (N : Int)) rfl trivial ?_
   try go_simp
   refine tkQ 12 (.string Y) rfl trivial ?_
   try go_simp
   refine tkQ 13 (.agg #[.int .i64 N, .string Y]) rfl trivial ?_
   try go_simp
   refine alH 14 ?_
   unfold wpOp
   go_simp
   have hN2 := World.news_of_block (cs := #[.int .i64 N, .string Y]) (heap_alloc_new W0 (.cells #[.int .i64 N, .string Y] 198))
   have hr2 := World.ownsRow.alloc hrow0.out (.cells #[.int .i64 N, .string Y] 198)
   have hb2 := hb0.out.alloc hb0.out.size (.cells #[.int .i64 N, .string Y] 198)
   obtain ⟨Z,hZ⟩ : ∃ Z,W0.heap.size = Z := ⟨_,rfl⟩
   obtain ⟨W2,hW2⟩ : ∃ u,W0.alloc (.cells #[.int .i64 N, .string Y] 198) = u := ⟨_,rfl⟩
   rw [hZ] at hN2
   rw [hW2] at hN2 hr2 hb2
   try rw [hZ]
   rw [hW2]
   clear hW2 hZ
   first | refine .inl ⟨trivial, ?_⟩ | refine ⟨trivial, ?_⟩ | refine .inl ?_ | skip
   refine alH 15 ?_
   refine wpOp_of rfl rfl (wp_append_lies (P := Tryz.prog) W2 (.tmp 71) (.tmp 85) 180 rfl w.heap.size 198 i156 _ 2 24 Tryz.underlying180 hi0 hi1 hi2 hi3 (by rfl) (by decide) u7 k (scells (saidX ds.vis f k)) (by rfl) hr2 ⟨Z,0,none⟩ 1 1 [.int .i64 N, .string Y] (by rfl) (by rfl) hN2 (by simp [Value.oneCell']) (by omega) (by unfold maxLen;have := HB63.out;omega) (by have := HB63.out;omega) hb2.size W2.heap.size rfl ?_)
   intro g3 c3 W3 hS3 hg3 hat3 _
   have HFN := Lib.hid (show W3.ownsRow w.heap.size 198 2 (.slice (some ⟨g3,0,none⟩) (k + 1) c3) (k + 1) (scells (saidX ds.vis f (k + 1))) ∧ Below w.heap.size w W3 from by
    refine ⟨?_,hb2.grown hg3 hb2.size (fun g hg => (hr2.lt g hg).1)⟩
    rw [saidX_snoc,scells_snoc]
    simp only [HE.out.1,HNN.out,HY.out.1,HY.out.2]
    exact hS3)
   refine ⟨trivial, ?_⟩
   try go_simp
   refine tkQ 16 (.slice (some ⟨g3,0,none⟩) (k + 1) c3) rfl trivial ?_
   try go_simp
   refine wpAnyH_done (by kernel_rfl) ?_ _
   clear hN2 hr2 hb2 hS3 hg3 hat3 hrow0 hb0 KRk hor w3 w4 w5 w6 w7 w8 jb jd jt
   go_wp2
   go_roundw
   case rel => exact ⟨k + 1,by omega,by go_num,HFN.out.1,HFN.out.2⟩
   case measure => simp [intOf];omega
  ·obtain rfl : nb = k := by omega
   obtain ⟨A,cA,rfl⟩ := row_form hrow
   have hx := HXG.out
   have hxl : (saidX ds.vis f nb).length = nb := saidX_length _ _ _
   obtain ⟨x,hxe⟩ : ∃ q,saidX ds.vis f nb = q := ⟨_,rfl⟩
   rw [hxe] at hrow hx hxl HSD HOK2
   have HX := Lib.hid hx
   have HXL := Lib.hid hxl
   have HROW := Lib.hid hrow
   have HB := Lib.hid hb
   clear hrow hb hx hxl hxe hlt
   rename World => wA
   go_upto_region 17 with (fail)
   go_wp2
   go_loopw [90] (fun i wr => ∃ k : Nat,k ≤ nb ∧ i = .int .i64 k ∧ (x.take k).all (fun c => mayB ds.L.length f s c.1) = true ∧ Below wA.heap.size wA wr) (fun i _ => nb - (intOf i).toNat)
   case atStart => exact ⟨0,Nat.zero_le _,rfl,by simp,Below.refl _ _⟩
   case round =>
    obtain ⟨k,hk,rfl,hall,hb2⟩ := hrel
    by_cases hlt : k < nb
    ·have hkl : k < x.length := by rw [HXL.out];exact hlt
     obtain ⟨g,c',hA,hgl,s0,s1⟩ := row2_at HROW.out HXL.out k hkl
     injection hA with hA1 _ hA3
     subst hA1 hA3
     have d0 := (hb2.cell (p := ⟨g,k * 2,none⟩) hgl).trans s0
     have d1 := (hb2.cell (p := ⟨g,k * 2 + 1,none⟩) hgl).trans s1
     have hgr : g < wr.heap.size := Nat.lt_of_lt_of_le hgl hb2.size
     have hma := List.take_succ_eq_append_getElem hkl
     have hAL := Lib.hid (fun (h : mayB ds.L.length f s x[k].1 = true) => (show (x.take (k + 1)).all (fun c => mayB ds.L.length f s c.1) = true by rw [hma,List.all_append,hall];simp [h]))
     have hNA := Lib.hid (fun (h : mayB ds.L.length f s x[k].1 = false) => (show x.all (fun c => mayB ds.L.length f s c.1) = false from List.all_eq_false.2 ⟨x[k],List.getElem_mem hkl,by rw [h];decide⟩))
     obtain ⟨z,hz⟩ : ∃ z,x[k].1 = z := ⟨_,rfl⟩
     obtain ⟨Y,hY⟩ : ∃ z,mk x[k].2 = z := ⟨_,rfl⟩
     rw [hz] at d0 hAL hNA
     rw [hY] at d1
     have hbw := HB.out.trans (hb2.mono HB.out.size)
     have hbw2 := hbw.alloc hbw.size (.cells #[.int .i64 z, .string Y] 198)
     have hf5 := HF5.out
     have hs5 := HFS.out
     have KY := may_any X D ds b f s z (wr.alloc (.cells #[.int .i64 z, .string Y] 198)) (HD.out.below hbw2) (HW.out.below hbw2) (by omega) (by omega)
     obtain ⟨o,hoo⟩ : ∃ o,mayB ds.L.length f s z = o := ⟨_,rfl⟩
     rw [hoo] at KY hAL hNA
     have HB2 := Lib.hid hb2
     have HBW := Lib.hid hbw2
     have k0 : (0 : Int) ≤ (k : Int) := by omega
     have k1 : (k : Int) < (nb : Int) := by omega
     clear hb2 hbw hbw2 hma hz hY hoo s0 s1 hall hf5 hs5 hkl
     cases o with
     | true =>
      have HAL := Lib.hid (hAL.out rfl)
      clear hAL hNA
      go_wp2_with (go_at_call 133;refine KY.mono ?_;rintro e w1 ⟨rfl,q,rfl⟩)
      go_roundw
      case rel => exact ⟨k + 1,by omega,by go_num,HAL.out,bdN (HB2.out.alloc HB2.out.size _) _⟩
      case measure => simp [intOf];omega
     | false =>
      have HRN := Lib.hid (show R = [] by rw [HSD.out,HOK2.out,hNA.out rfl];simp)
      obtain rfl := HRN.out
      clear hAL hNA HRN HSD HOK2
      go_wp2_with (go_at_call 133;refine KY.mono ?_;rintro e w1 ⟨rfl,q,rfl⟩)
      go_ret2
      exact ⟨⟨none,0,rfl,HNIL.out _⟩,bdN HBW.out _⟩
    ·obtain rfl : nb = k := by omega
     rw [List.take_of_length_le (by rw [HXL.out];exact Nat.le_refl _)] at hall
     have hbw := HB.out.trans (hb2.mono HB.out.size)
     have hnb := HB63.out
     have hfl : (headW x).length ≤ 512 := by rw [headW_length,HXL.out];omega
     have KH := whead_any A cA x wr (Lies.below (Lies.of_row HROW.out) (Nat.le_refl _) hb2) (by rw [HXL.out];exact hnb) (fun c hc => ⟨(HX.out c hc).1,Nat.le_of_eq (HX.out c hc).2⟩) (HTW.out.1.below HTW.out.2 hbw) (Nat.lt_of_lt_of_le HTW.out.2 hbw.size)
     have KN := fun w => noughts_any (512 - (headW x).length) (by omega) w
     rw [show ((512 - (headW x).length : Nat) : Int) = 512 - ((headW x).length : Int) by omega] at KN
     have hsum := run_sum (headW x) (List.replicate (512 - (headW x).length) 0) (by simp;omega)
     rw [show headW x ++ List.replicate (512 - (headW x).length) 0 = fullB (headW x) from rfl] at hsum
     have zd : (mk (headW x)).size = (headW x).length := mk_size _
     have hcmp : (H.toList == (mk (fullB (headW x))).toList) = (hd == fullB (headW x)) := by rw [← HE.out.2,mk_toList',mk_toList']
     rw [hall,Bool.true_and] at HOK2
     obtain ⟨F,hF⟩ : ∃ q,mk (fullB (headW x)) = q := ⟨_,rfl⟩
     obtain ⟨N,hN⟩ : ∃ q,mk (List.replicate (512 - (headW x).length) 0) = q := ⟨_,rfl⟩
     obtain ⟨Y,hY⟩ : ∃ q,mk (headW x) = q := ⟨_,rfl⟩
     obtain ⟨m,hm⟩ : ∃ q,(headW x).length = q := ⟨_,rfl⟩
     rw [hF,hN,hY] at hsum
     rw [hY,hm] at zd
     rw [hN,hm] at KN
     rw [hY,HXL.out] at KH
     rw [hF] at hcmp
     rw [hm] at hfl
     obtain ⟨o,hoo⟩ : ∃ o,(hd == fullB (headW x)) = o := ⟨_,rfl⟩
     rw [hoo] at HOK2 hcmp
     have m0 : (0 : Int) ≤ (m : Int) := by omega
     have m1 : (m : Int) ≤ 512 := by omega
     have HB2 := Lib.hid hb2
     have HBW := Lib.hid hbw
     clear hall hb2 hbw hnb hF hN hY hm hoo
     cases o with
     | true =>
      have HRN := Lib.hid (show R = x by rw [HSD.out,HOK2.out];simp)
      have HL := Lib.hid HXL.out
      obtain rfl := HRN.out
      clear HRN HSD HOK2
      go_wp2_with (first
       | (go_at_call 134;refine KH.mono ?_;rintro e w1 ⟨rfl,hb1⟩)
       | (go_at_call 112;refine (KN _).mono ?_;rintro e w2 ⟨rfl,hb2⟩))
      go_ret2
      have hba := HB2.out.trans (hb1.mono HB2.out.size) |>.trans (hb2.mono (Nat.le_trans HB2.out.size hb1.size))
      exact ⟨⟨A,cA,by rw [HL.out];rfl,by rw [HL.out];exact own_below HROW.out hba⟩,HB.out.trans (hba.mono HB.out.size)⟩
     | false =>
      have HRN := Lib.hid (show R = [] by rw [HSD.out,HOK2.out];simp)
      obtain rfl := HRN.out
      clear HRN HSD HOK2
      go_wp2_with (first
       | (go_at_call 134;refine KH.mono ?_;rintro e w1 ⟨rfl,hb1⟩)
       | (go_at_call 112;refine (KN _).mono ?_;rintro e w2 ⟨rfl,hb2⟩))
      go_ret2
      have hba := HB2.out.trans (hb1.mono HB2.out.size) |>.trans (hb2.mono (Nat.le_trans HB2.out.size hb1.size))
      exact ⟨⟨none,0,rfl,HNIL.out _⟩,HB.out.trans (hba.mono HB.out.size)⟩
open Go.RowKit
theorem saidB_bd (d : DS) (f s : Nat) (h : DGood d) (hf : f + s ≤ d.L.length) (hs : 2 ≤ s) : (saidB d.vis f s).length ≤ s - 1 ∧ ∀ c ∈ saidB d.vis f s,c.1 < d.L.length ∧ c.2.length ≤ 512 ∧ ownB f s c.1 = false := by
 unfold saidB
 split
 ·rename_i hok
  unfold saidOk at hok
  simp only [Bool.and_eq_true,decide_eq_true_eq] at hok
  obtain ⟨⟨⟨⟨_,h1⟩,h2⟩,h3⟩,_⟩ := hok
  refine ⟨by rw [saidX_length];exact h2,fun c hc => ?_⟩
  have h4 := List.all_eq_true.1 h3 c hc
  unfold mayB at h4
  rw [vis_length] at h4
  simp only [Bool.and_eq_true,decide_eq_true_eq,Bool.not_eq_true'] at h4
  refine ⟨h4.1, ?_,h4.2⟩
  unfold saidX at hc
  obtain ⟨i,hi,rfl⟩ := List.mem_map.1 hc
  have hi2 := List.mem_range.1 hi
  exact Nat.le_of_eq (vis_sec h _ (by omega))
 ·exact ⟨by simp,fun c hc => (by cases hc)⟩
theorem mk_log {w1 w2 w3 : World} {b D f s : Nat} {X X1 : List Nat} (h : WLog w1 b D f s) (hX : b ∉ X) {B : Nat} (hb : Below B w1 w2) (hm : Mv X X1 w2 w3) (hB : b < B := by first | exact Blk.lt ‹_› | simp) : WLog w3 b D f s ∧ b ∉ X1 := by
 have h2 : WLog w2 b D f s := (hb.block b hB).trans h
 exact ⟨hm.blk h2 hX,hm.apart hX (Blk.lt h2)⟩
def openC (x : List (Nat × Bs)) (f : Nat) : List Cmd := if x = [] then [] else (wrs x ++ [.sy]) ++ [.wr f [], .sy]
def OpenP (X : List Nat) (D : Nat) (ds : DS) (f s : Nat) (w : World) (e : Ending) (w' : World) : Prop :=
 ∃ X',Dsk w' X' D (DS.run (openC (saidB ds.vis f s) f) ds).2 ∧ Mv X X' w w' ∧
  ((DS.run (openC (saidB ds.vis f s) f) ds).1 = 0 → ∃ b n,e = .returned (.tuple #[.pointer (some ⟨b,0,none⟩), .int .i64 (n : Int), .int .i64 0]) ∧ w.heap.size ≤ b ∧ b ∉ X' ∧ WLog w' b D f s) ∧
  ((DS.run (openC (saidB ds.vis f s) f) ds).1 ≠ 0 → e = .returned (.tuple #[.pointer none, .int .i64 0, .int .i64 7]))
set_option maxRecDepth 100000 in
set_option maxHeartbeats 2000000 in
theorem open_any (X : List Nat) (D : Nat) (ds : DS) (f s : Nat) (w : World) (hD : Dsk w X D ds) (hf : f + s ≤ ds.L.length) (hs : 2 ≤ s) (hs2 : s ≤ 65) (ho : ds.off = false) (hS : ds.S.length ≤ 990000) (hT : TB w) (hw : 1 < w.heap.size) :
  Calls Tryz.prog 64 #[.pointer (some ⟨D,0,none⟩), .int .i64 f, .int .i64 s] w (OpenP X D ds f s w) := by
 have hsm := hD.good.small
 have KZ := fun w' (hb : Below w.heap.size w w') => size_any X D ds w' (hD.below hb)
 obtain ⟨hxl,hxc⟩ := saidB_bd ds f s hD.good hf hs
 have hbz := below_alloc w (.cells #[.pointer (some ⟨D,0,none⟩), .int .i64 f, .int .i64 s] 179)
 have hWL : WLog (w.alloc (.cells #[.pointer (some ⟨D,0,none⟩), .int .i64 f, .int .i64 s] 179)) w.heap.size D f s := Blk.new w _ 179
 have hD1 := hD.below hbz
 have KSD := said_any X D ds w.heap.size f s _ hD1 hWL hf hs hs2 ho (hT.below hw hbz) (by simp;omega)
 have hbX : w.heap.size ∉ X := fun h => by have := hD.lt _ h;omega
 have KMK := fun (A : Option Addr) (cap : Nat) (w1 : World) (hb : Below (w.heap.size + 1) (w.alloc (.cells #[.pointer (some ⟨D,0,none⟩), .int .i64 f, .int .i64 s] 179)) w1) (hr : w1.ownsRow (w.heap.size + 1) 198 2 (.slice A (saidB ds.vis f s).length cap) (saidB ds.vis f s).length (scells (saidB ds.vis f s))) =>
  make_any X D ds w.heap.size f s A cap (saidB ds.vis f s) w1 (hD1.below (by simpa using hb)) (Blk.below hWL (by simpa using hb)) hbX (Lies.of_row hr) (fun a ha hx => by
   have h1 := hD.lt _ hx
   rcases hr.2 with ⟨hv,_⟩ | ⟨g,c',cur,hv,hg,_⟩
   ·rw [ha] at hv;cases hv
   ·rw [ha] at hv
    simp only [Value.slice.injEq,Option.some.injEq] at hv
    rw [hv.1] at h1
    simp only at h1
    omega) (fun c hc => ⟨(hxc c hc).1,(hxc c hc).2.1⟩) (by omega) (by omega)
 have hms := run_len (wrs (saidB ds.vis f s) ++ [.sy]) ds
 rw [List.length_append,wrs_length] at hms
 have KSY := fun (X1 : List Nat) (w1 : World) (hD2 : Dsk w1 X1 D (DS.run (wrs (saidB ds.vis f s) ++ [.sy]) ds).2) (hW : WLog w1 w.heap.size D f s) (hb : w.heap.size ∉ X1) =>
  say_any X1 D _ w.heap.size f s [] w1 hD2 hW hb (by rw [hms.1];omega) (by simp) (by have := hms.2;simp at this;omega)
 rw [show mk [] = ⟨#[]⟩ from rfl] at KSY
 have hop : DS.run (openC (saidB ds.vis f s) f) ds = if saidB ds.vis f s = [] then (0,ds) else if (DS.run (wrs (saidB ds.vis f s) ++ [.sy]) ds).1 = 0 then DS.run [.wr f [], .sy] (DS.run (wrs (saidB ds.vis f s) ++ [.sy]) ds).2 else DS.run (wrs (saidB ds.vis f s) ++ [.sy]) ds := by
  unfold openC
  split
  ·rfl
  ·rw [run_append]
 have hn1 := run_num (wrs (saidB ds.vis f s) ++ [.sy]) ds
 unfold OpenP
 obtain ⟨R,hR⟩ : ∃ q,DS.run (openC (saidB ds.vis f s) f) ds = q := ⟨_,rfl⟩
 rw [hR] at hop ⊢
 obtain ⟨r1,hr1⟩ : ∃ q,DS.run (wrs (saidB ds.vis f s) ++ [.sy]) ds = q := ⟨_,rfl⟩
 rw [hr1] at hop hn1
 simp only [hr1] at KMK KSY
 obtain ⟨n1,d2⟩ := r1
 dsimp only at KMK KSY hop hn1
 have hn2 := run_num [.wr f [], .sy] d2
 obtain ⟨r2,hr2⟩ : ∃ q,DS.run [.wr f [], .sy] d2 = q := ⟨_,rfl⟩
 simp only [hr2] at KSY
 rw [hr2] at hop hn2
 obtain ⟨n2,d3⟩ := r2
 dsimp only at KSY hn2
 obtain ⟨x,hx⟩ : ∃ q,saidB ds.vis f s = q := ⟨_,rfl⟩
 rw [hx] at hop KSD hxl
 simp only [hx] at KMK
 have HXX := Lib.hid (show x.length = 0 → x = [] from List.eq_nil_of_length_eq_zero)
 have HXN := Lib.hid (show x.length ≠ 0 → x ≠ [] from fun h e => h (by rw [e];rfl))
 obtain ⟨m,hm⟩ : ∃ q,x.length = q := ⟨_,rfl⟩
 rw [hm] at KSD HXX HXN
 simp only [World.size_alloc] at KSD
 simp only [hm] at KMK
 have HD := Lib.hid hD
 have HWL := Lib.hid hWL
 have HBX := Lib.hid hbX
 have hsl : ds.L.length ≤ 4096 := hsm
 obtain ⟨n,hn⟩ : ∃ q,ds.L.length = q := ⟨_,rfl⟩
 rw [hn] at KZ hsl hf
 have f0 : (0 : Int) ≤ (f : Int) := by omega
 have f0n : ¬ ((f : Int) < 0) := by omega
 have s0 : ¬ ((s : Int) < 2) := by omega
 have s1 : ¬ ((65 : Int) < (s : Int)) := by omega
 have f1 : ¬ ((n : Int) < (f : Int)) := by omega
 have f1n : ¬ (n < f) := by omega
 have f2 : ¬ ((n : Int) - (f : Int) < (s : Int)) := by omega
 have f3 : (f : Int) ≤ 4096 := by omega
 have f4 : (n : Int) ≤ 4096 := by omega
 have m63 : m ≤ 64 := by rw [← hm];omega
 have hbz1 := Lib.hid hbz
 have KZ0 := KZ w (Below.refl _ _)
 clear hD hD1 hWL hbX hbz hR hr1 hr2 hx hm hn hf hs hs2 ho hS hT hw hxc hms hsm hxl
 by_cases hx0 : m = 0
 ·have HR := Lib.hid (show R = (0,ds) by rw [hop,if_pos (HXX.out hx0)])
  obtain rfl := HR.out
  subst hx0
  clear hop KMK KSY hn1 hn2 HR HXX HXN
  go_enter Tryz.func64,Tryz.ntmps64
  go_wp2_with (first
   | (go_at_call 61;refine KZ0.mono ?_;rintro e w1 ⟨rfl,hw⟩;obtain rfl := hw.symm)
   | (go_at_call 103;refine KSD.mono ?_;rintro e w2 ⟨⟨A,c,rfl,hr⟩,hb⟩;have HB := Lib.hid hb;clear hb hr))
  go_ret3
  have hba := hbz1.out.trans (HB.out.mono (by simp))
  exact ⟨X,HD.out.below hba,Mv.of_below X hba,fun _ => ⟨w.heap.size,0,rfl,Nat.le_refl _,HBX.out,Blk.below HWL.out (by simpa using HB.out)⟩,fun h => absurd rfl h⟩
 ·have m0 : (0 : Int) < (m : Int) := by omega
  have m0n : 0 < m := by omega
  rw [if_neg (HXN.out hx0)] at hop
  clear HXX HXN hx0
  rcases hn1 with rfl | rfl
  ·rw [if_pos rfl] at hop
   subst hop
   rcases hn2 with rfl | rfl
   ·
    go_enter Tryz.func64,Tryz.ntmps64
    go_wp2_with (first
     | (go_at_call 61;refine KZ0.mono ?_;rintro e w1 ⟨rfl,hw⟩;obtain rfl := hw.symm)
     | (go_at_call 103;refine KSD.mono ?_;rintro e w2 ⟨⟨A,c,rfl,hr⟩,hb⟩;have K97 := KMK A c w2 hb hr;have HB := Lib.hid hb;clear hb hr KMK KSD)
     | (go_at_call 104;refine K97.mono ?_;rintro e w3 ⟨rfl,X1,hD2,hM2⟩;have HB97 := Lib.hid (mk_log HWL.out HBX.out HB.out hM2);have HM2 := Lib.hid hM2;have HD2 := Lib.hid hD2;have K98 := KSY X1 w3 hD2 HB97.out.1 HB97.out.2;clear hM2 hD2 K97 KSY)
     | (go_at_call 105;refine K98.mono ?_;rintro e w4 ⟨rfl,X2,hD3,hM3⟩;have HM3 := Lib.hid hM3;have HD3 := Lib.hid hD3;clear hM3 hD3 K98))
    go_ret3
    have hba := (hbz1.out.trans (HB.out.mono (by simp)))
    have hlog := mk_log HB97.out.1 HB97.out.2 (Below.refl _ _) HM3.out
    exact ⟨X2,HD3.out,(Mv.of_below X hba).trans (HM2.out.trans HM3.out),fun _ => ⟨w.heap.size,m,rfl,Nat.le_refl _,hlog.2,hlog.1⟩,fun h => absurd rfl h⟩
   ·
    go_enter Tryz.func64,Tryz.ntmps64
    go_wp2_with (first
     | (go_at_call 61;refine KZ0.mono ?_;rintro e w1 ⟨rfl,hw⟩;obtain rfl := hw.symm)
     | (go_at_call 103;refine KSD.mono ?_;rintro e w2 ⟨⟨A,c,rfl,hr⟩,hb⟩;have K97 := KMK A c w2 hb hr;have HB := Lib.hid hb;clear hb hr KMK KSD)
     | (go_at_call 104;refine K97.mono ?_;rintro e w3 ⟨rfl,X1,hD2,hM2⟩;have HB97 := Lib.hid (mk_log HWL.out HBX.out HB.out hM2);have HM2 := Lib.hid hM2;have HD2 := Lib.hid hD2;have K98 := KSY X1 w3 hD2 HB97.out.1 HB97.out.2;clear hM2 hD2 K97 KSY)
     | (go_at_call 105;refine K98.mono ?_;rintro e w4 ⟨rfl,X2,hD3,hM3⟩;have HM3 := Lib.hid hM3;have HD3 := Lib.hid hD3;clear hM3 hD3 K98))
    go_ret3
    have hba := (hbz1.out.trans (HB.out.mono (by simp)))
    exact ⟨X2,HD3.out,(Mv.of_below X hba).trans (HM2.out.trans HM3.out),(fun h => by cases h),fun _ => rfl⟩
  ·rw [if_neg (by decide)] at hop
   subst hop
   go_enter Tryz.func64,Tryz.ntmps64
   go_wp2_with (first
    | (go_at_call 61;refine KZ0.mono ?_;rintro e w1 ⟨rfl,hw⟩;obtain rfl := hw.symm)
    | (go_at_call 103;refine KSD.mono ?_;rintro e w2 ⟨⟨A,c,rfl,hr⟩,hb⟩;have K97 := KMK A c w2 hb hr;have HB := Lib.hid hb;clear hb hr KMK KSD)
    | (go_at_call 104;refine K97.mono ?_;rintro e w3 ⟨rfl,X1,hD2,hM2⟩;have HB97 := Lib.hid (mk_log HWL.out HBX.out HB.out hM2);have HM2 := Lib.hid hM2;have HD2 := Lib.hid hD2;have K98 := KSY X1 w3 hD2 HB97.out.1 HB97.out.2;clear hM2 hD2 K97 KSY)
    | (go_at_call 105;refine K98.mono ?_;rintro e w4 ⟨rfl,X2,hD3,hM3⟩;have HM3 := Lib.hid hM3;have HD3 := Lib.hid hD3;clear hM3 hD3 K98))
   go_ret3
   have hba := (hbz1.out.trans (HB.out.mono (by simp)))
   exact ⟨X1,HD2.out,(Mv.of_below X hba).trans HM2.out,(fun h => by cases h),fun _ => rfl⟩
open Go.RowKit
def imgs (x : List (Nat × Bs)) (f : Nat) : List (Nat × Bs) := x.zipIdx.map fun c => (f + 1 + c.2,c.1.2)
theorem imgs_length (x : List (Nat × Bs)) (f : Nat) : (imgs x f).length = x.length := by simp [imgs]
theorem imgs_at (x : List (Nat × Bs)) (f k : Nat) (h : k < x.length) (h2 : k < (imgs x f).length) : (imgs x f)[k] = (f + 1 + k,x[k].2) := by simp [imgs]
def commitC (x : List (Nat × Bs)) (f : Nat) : List Cmd := (wrs (imgs x f) ++ [.sy]) ++ ([.wr f (headW x), .sy] ++ ((wrs x ++ [.sy]) ++ [.wr f [], .sy]))
def RunP (l : List Cmd) (X : List Nat) (D : Nat) (ds : DS) (w : World) (e : Ending) (w' : World) : Prop :=
 e = .returned (.int .i64 ((DS.run l ds).1 : Nat)) ∧ ∃ X',Dsk w' X' D (DS.run l ds).2 ∧ Mv X X' w w'
theorem TB.mv {w w' : World} {X Y : List Nat} (h : TB w) (hm : Mv X Y w w') (hw : 1 < w.heap.size) (h0 : 1 ∉ X) : TB w' ∧ 1 < w'.heap.size ∧ 1 ∉ Y :=
 ⟨fun k hk => (hm.frm.cell (p := ⟨1,k,none⟩) hw h0).trans (h k hk),Nat.lt_of_lt_of_le hw hm.size,hm.apart h0 hw⟩
set_option maxRecDepth 100000 in
set_option maxHeartbeats 4000000 in
theorem commit_any (X : List Nat) (D : Nat) (ds : DS) (b f s : Nat) (A : Option Addr) (cap : Nat) (x : List (Nat × Bs)) (w : World) (hD : Dsk w X D ds) (hW : WLog w b D f s) (hb : b ∉ X) (hA : Lies w A (scells x)) (hAX : ∀ a,A = some a → a.block ∉ X)
  (hx : ∀ c ∈ x,mayB ds.L.length f s c.1 = true ∧ c.2.length ≤ 512) (hn : x.length ≤ 64) (hn1 : 1 ≤ x.length) (hns : x.length < s) (hf : f + s ≤ ds.L.length) (hS : ds.S.length ≤ 980000) (hT : TB w) (hw : 1 < w.heap.size) (h0X : 1 ∉ X) :
  Calls Tryz.prog 122 #[.pointer (some ⟨b,0,none⟩), .slice A x.length cap] w (RunP (commitC x f) X D ds w) := by
 have hsm := hD.good.small
 have hxm : ∀ c ∈ x,c.1 < ds.L.length ∧ c.2.length ≤ 512 := fun c hc => by
  have := (hx c hc).1
  unfold mayB at this
  simp only [Bool.and_eq_true,decide_eq_true_eq] at this
  exact ⟨this.1,(hx c hc).2⟩
 have hwrs := run_len (wrs (imgs x f)) ds
 rw [wrs_length,imgs_length] at hwrs
 unfold RunP
 have hcm : DS.run (commitC x f) ds = if (DS.run (wrs (imgs x f) ++ [.sy]) ds).1 = 0 then (if (DS.run [.wr f (headW x), .sy] (DS.run (wrs (imgs x f) ++ [.sy]) ds).2).1 = 0 then (if (DS.run (wrs x ++ [.sy]) (DS.run [.wr f (headW x), .sy] (DS.run (wrs (imgs x f) ++ [.sy]) ds).2).2).1 = 0 then DS.run [.wr f [], .sy] (DS.run (wrs x ++ [.sy]) (DS.run [.wr f (headW x), .sy] (DS.run (wrs (imgs x f) ++ [.sy]) ds).2).2).2 else DS.run (wrs x ++ [.sy]) (DS.run [.wr f (headW x), .sy] (DS.run (wrs (imgs x f) ++ [.sy]) ds).2).2) else DS.run [.wr f (headW x), .sy] (DS.run (wrs (imgs x f) ++ [.sy]) ds).2) else DS.run (wrs (imgs x f) ++ [.sy]) ds := by
  unfold commitC
  rw [run_append (wrs (imgs x f) ++ [Cmd.sy]) _ ds,run_append [Cmd.wr f (headW x),Cmd.sy],run_append (wrs x ++ [Cmd.sy])]
 have HNX := Lib.hid (fun k hk h0 => wrs_next (imgs x f) [.sy] ds k hk h0)
 have HAL := Lib.hid (wrs_all (imgs x f) ds)
 have HLN := Lib.hid (fun k => wrs_len (imgs x f) k ds)
 have hl1 := run_len (wrs (imgs x f) ++ [.sy]) ds
 rw [List.length_append,wrs_length,imgs_length] at hl1
 have hl2 := run_len [.wr f (headW x), .sy] (DS.run (wrs (imgs x f) ++ [.sy]) ds).2
 have hl3 := run_len (wrs x ++ [.sy]) (DS.run [.wr f (headW x), .sy] (DS.run (wrs (imgs x f) ++ [.sy]) ds).2).2
 rw [List.length_append,wrs_length] at hl3
 simp only [List.length_cons,List.length_nil] at hl1 hl2 hl3
 have hn2 := run_num (wrs (imgs x f) ++ [.sy]) ds
 have hfl : (headW x).length ≤ 512 := by rw [headW_length];omega
 have KSAY := fun (X1 : List Nat) (w1 : World) hD1 hW1 hb1 => say_any X1 D (DS.run (wrs (imgs x f) ++ [.sy]) ds).2 b f s (headW x) w1 hD1 hW1 hb1 (by rw [hl1.1];omega) hfl (by omega)
 have KMAKE := fun (X1 : List Nat) (w1 : World) hD1 hW1 hb1 hA1 hX1 => make_any X1 D (DS.run [.wr f (headW x), .sy] (DS.run (wrs (imgs x f) ++ [.sy]) ds).2).2 b f s A cap x w1 hD1 hW1 hb1 hA1 hX1 (fun c hc => by rw [hl2.1,hl1.1];exact hxm c hc) hn (by omega)
 have KEND := fun (X1 : List Nat) (w1 : World) hD1 hW1 hb1 => say_any X1 D (DS.run (wrs x ++ [.sy]) (DS.run [.wr f (headW x), .sy] (DS.run (wrs (imgs x f) ++ [.sy]) ds).2).2).2 b f s [] w1 hD1 hW1 hb1 (by rw [hl3.1,hl2.1,hl1.1];omega) (by simp) (by omega)
 rw [show mk [] = ⟨#[]⟩ from rfl] at KEND
 obtain ⟨R,hR⟩ : ∃ q,DS.run (commitC x f) ds = q := ⟨_,rfl⟩
 rw [hR] at hcm ⊢
 obtain ⟨r1,hr1⟩ : ∃ q,DS.run (wrs (imgs x f) ++ [.sy]) ds = q := ⟨_,rfl⟩
 rw [hr1] at hcm hn2 HNX HAL
 simp only [hr1] at KSAY KMAKE KEND
 obtain ⟨n1,d1⟩ := r1
 dsimp only at KSAY KMAKE KEND hcm hn2
 have hn3 := run_num [.wr f (headW x), .sy] d1
 obtain ⟨r2,hr2⟩ : ∃ q,DS.run [.wr f (headW x), .sy] d1 = q := ⟨_,rfl⟩
 rw [hr2] at hcm hn3
 simp only [hr2] at KSAY KMAKE KEND
 obtain ⟨n2,d2⟩ := r2
 dsimp only at KSAY KMAKE KEND hcm hn3
 have hn4 := run_num (wrs x ++ [.sy]) d2
 obtain ⟨r3,hr3⟩ : ∃ q,DS.run (wrs x ++ [.sy]) d2 = q := ⟨_,rfl⟩
 rw [hr3] at hcm hn4
 simp only [hr3] at KMAKE KEND
 obtain ⟨n3,d3⟩ := r3
 dsimp only at KMAKE KEND hcm hn4
 obtain ⟨r4,hr4⟩ : ∃ q,DS.run [.wr f [], .sy] d3 = q := ⟨_,rfl⟩
 rw [hr4] at hcm
 simp only [hr4] at KEND
 obtain ⟨n4,d4⟩ := r4
 dsimp only at KEND
 have HX := Lib.hid hx
 have HXM := Lib.hid hxm
 have HSZ := Lib.hid (And.intro hn hf)
 have HSL := Lib.hid hS
 have KH := fun (w1 : World) (hA1 : Lies w1 A (scells x)) (hT1 : TB w1) (hw1 : 1 < w1.heap.size) => whead_any A cap x w1 hA1 hn (fun c hc => ⟨by have := (hxm c hc).1;omega,(hxm c hc).2⟩) hT1 hw1
 obtain ⟨HS,hHS⟩ : ∃ q,mk (headW x) = q := ⟨_,rfl⟩
 simp only [hHS] at KH KSAY
 have HA := Lib.hid (And.intro hA hAX)
 have HWB := Lib.hid (And.intro hW hb)
 have HD := Lib.hid hD
 have HTW := Lib.hid (And.intro hT (And.intro hw h0X))
 have KMO := most_any b D f s w hW (by omega)
 obtain ⟨s1,hs1⟩ : ∃ q,s - 1 = q := ⟨_,rfl⟩
 rw [hs1] at KMO
 obtain ⟨n,hnn⟩ : ∃ q,x.length = q := ⟨_,rfl⟩
 rw [hnn] at hn hn1 hns
 simp only [hnn] at KMAKE KH
 rw [hnn]
 have HN := Lib.hid hnn
 have b0 : ¬ ((s1 : Int) < (n : Int)) := by omega
 have b0n : ¬ (s1 < n) := by omega
 have b1 : ¬ ((n : Int) = 0) := by omega
 have b1b : ((n : Int) == 0) = false := by simp;omega
 have b2 : ¬ (n = 0) := by omega
 have hfb : f ≤ 5000 := by omega
 have hsb : s ≤ 5000 := by omega
 have mixed := mixedT
 clear hD hW hb hA hAX hx hxm hf hS hT hw h0X hsm hwrs hl1 hl2 hl3 hfl hR hr1 hr2 hr3 hr4 hHS hs1 hnn
 go_enter Tryz.func122,Tryz.ntmps122
 go_wp2_with (go_at_call 132;refine KMO.mono ?_;rintro e w1 ⟨rfl,hw⟩;obtain rfl := hw.symm)
 go_loopw [29] (fun i wr => ∃ k : Nat,k ≤ n ∧ i = .int .i64 k ∧ Below w.heap.size w wr) (fun i _ => n - (intOf i).toNat)
 case atStart => exact ⟨0,Nat.zero_le _,rfl,Below.refl _ _⟩
 case round =>
  obtain ⟨k,hk,rfl,hb⟩ := hrel
  by_cases hlt : k < n
  ·have hkl : k < x.length := by rw [HN.out];exact hlt
   obtain ⟨g,off,rfl,hgl,hcs⟩ := HA.out.1 (by rw [scells_length];omega)
   obtain ⟨s0,s1'⟩ := scells_at x k hkl
   have d0 := (hb.cell (p := ⟨g,off + k * 2,none⟩) hgl).trans (hcs _ _ s0)
   have d1' := (hb.cell (p := ⟨g,off + (k * 2 + 1),none⟩) hgl).trans (hcs _ _ s1')
   have hgr : g < wr.heap.size := Nat.lt_of_lt_of_le hgl hb.size
   obtain ⟨hm,hq⟩ := HX.out x[k] (List.getElem_mem hkl)
   obtain ⟨z,hz⟩ : ∃ z,x[k].1 = z := ⟨_,rfl⟩
   obtain ⟨y,hy⟩ : ∃ z,x[k].2 = z := ⟨_,rfl⟩
   rw [hz] at d0 hm
   rw [hy, ← Nat.add_assoc] at d1'
   rw [hy] at hq
   have zy := mk_size y
   obtain ⟨Y,hY⟩ : ∃ z,mk y = z := ⟨_,rfl⟩
   obtain ⟨yl,hyl⟩ : ∃ z,y.length = z := ⟨_,rfl⟩
   rw [hY,hyl] at zy
   rw [hY] at d1'
   rw [hyl] at hq
   have hbw2 := hb.alloc hb.size (.cells #[.int .i64 z, .string Y] 198)
   have KY := may_any X D ds b f s z (wr.alloc (.cells #[.int .i64 z, .string Y] 198)) (HD.out.below hbw2) (HWB.out.1.below hbw2) (by omega) (by omega)
   rw [hm] at KY
   have hqq : ¬ ((512 : Int) < (yl : Int)) := by omega
   have hqn : ¬ (512 < yl) := by omega
   have HBW := Lib.hid hbw2
   have k0 : (0 : Int) ≤ (k : Int) := by omega
   have k1 : (k : Int) < (n : Int) := by omega
   clear hb hbw2 hcs hz hy hY hyl s0 s1' hm hq hkl
   go_wp2_with (go_at_call 133;refine KY.mono ?_;rintro e w1 ⟨rfl,q,rfl⟩)
   go_roundw
   case rel => exact ⟨k + 1,by omega,by go_num,bdN HBW.out _⟩
   case measure => simp [intOf];omega
  ·obtain rfl : n = k := by omega
   have HB0 := Lib.hid hb
   clear hb hlt
   rename World => wA
   go_wp2
   go_loopw [47] (fun i wr => ∃ k : Nat,k ≤ n ∧ i = .int .i64 k ∧ (DS.run (wrs ((imgs x f).take k)) ds).1 = 0 ∧ ∃ X',Dsk wr X' D (DS.run (wrs ((imgs x f).take k)) ds).2 ∧ Mv X X' w wr) (fun i _ => n - (intOf i).toNat)
   case atStart => exact ⟨0,Nat.zero_le _,rfl,rfl,X,HD.out.below HB0.out,Mv.of_below _ HB0.out⟩
   case round =>
    obtain ⟨k,hk,rfl,h0,X1,hD1,hM1⟩ := hrel
    by_cases hlt : k < n
    ·have hkl : k < x.length := by rw [HN.out];exact hlt
     have hki : k < (imgs x f).length := by rw [imgs_length];exact hkl
     have hat := imgs_at x f k hkl hki
     obtain ⟨g,off,rfl,hgl,hcs⟩ := HA.out.1 (by rw [scells_length];omega)
     obtain ⟨s0,s1'⟩ := scells_at x k hkl
     have hgX : g ∉ X := HA.out.2 _ rfl
     have d0 := (hM1.frm.cell (p := ⟨g,off + k * 2,none⟩) hgl hgX).trans (hcs _ _ s0)
     have d1' := (hM1.frm.cell (p := ⟨g,off + (k * 2 + 1),none⟩) hgl hgX).trans (hcs _ _ s1')
     have hgr : g < wr.heap.size := Nat.lt_of_lt_of_le hgl hM1.size
     have hq := (HX.out x[k] (List.getElem_mem hkl)).2
     obtain ⟨hnx,hst⟩ := HNX.out k hki h0
     obtain ⟨hl1,hl2⟩ := HLN.out k
     rw [hat] at hnx hst
     have HRK := Lib.hid hnx
     have HST := Lib.hid hst
     obtain ⟨dk,hdk⟩ : ∃ q,(DS.run (wrs ((imgs x f).take k)) ds).2 = q := ⟨_,rfl⟩
     rw [hdk] at hD1 HRK HST hl1 hl2
     obtain ⟨z,hz⟩ : ∃ z,x[k].1 = z := ⟨_,rfl⟩
     obtain ⟨y,hy⟩ : ∃ z,x[k].2 = z := ⟨_,rfl⟩
     rw [hz] at d0
     rw [hy, ← Nat.add_assoc] at d1'
     rw [hy] at hq HRK HST
     dsimp only at HRK HST
     have hW1 := hM1.blk HWB.out.1 HWB.out.2
     have hbX1 := hM1.apart HWB.out.2 (Blk.lt HWB.out.1)
     have hnum := write_num dk (f + 1 + k) y
     obtain ⟨Y,hY⟩ : ∃ q,mk y = q := ⟨_,rfl⟩
     rw [hY] at d1'
     have hD2 := (hD1.below (below_alloc wr (.cells #[.int .i64 z, .string Y] 198))).drew
     have hsz := HSZ.out
     have hsl := HSL.out
     have KW := write_any X1 D dk (f + 1 + k) y _ hD2 (by omega) hq (by omega)
     rw [hY,show ((f + 1 + k : Nat) : Int) = (f : Int) + 1 + (k : Int) by omega] at KW
     obtain ⟨d1p,hd1p⟩ : ∃ q,dk.write (f + 1 + k) y = q := ⟨_,rfl⟩
     rw [hd1p] at KW hnum HRK HST
     obtain ⟨num,dn⟩ := d1p
     dsimp only at KW hnum HST
     have HM1 := Lib.hid hM1
     have HLT := Lib.hid hD1.lt
     have k0 : (0 : Int) ≤ (k : Int) := by omega
     have k1 : (k : Int) < (n : Int) := by omega
     have w1 : IntKind.i64.wrap ((f : Int) + 1) = (f : Int) + 1 := by rw [Go.IntWalk.i64_left,Go.IntWalk.wrap64_in _ (by omega)]
     have w2 : IntKind.i64.wrap ((f : Int) + 1 + (k : Int)) = (f : Int) + 1 + (k : Int) := by rw [Go.IntWalk.i64_left,Go.IntWalk.wrap64_in _ (by omega)]
     have HW1 := Lib.hid w1
     have HW2 := Lib.hid w2
     clear hnx hst hdk hz hy hD1 hM1 hcs s0 s1' hq hl1 hl2 hY hD2 hd1p h0 hgX hkl hki hat hsz hsl w1 w2
     go_wp2
     have hW2 : WLog (wr.alloc (.cells #[.int .i64 z, .string Y] 198)).drew b D f s := Blk.alloc hW1 _
     have hZ1 := Blk.new wr #[.int .i64 z, .string Y] 198
     have hA2 := ((below_alloc wr (.cells #[.int .i64 z, .string Y] 198))).drew
     obtain ⟨V,hV⟩ : ∃ V,wr.heap.size = V := ⟨_,rfl⟩
     rw [hV] at hZ1
     simp only [hV]
     refine wp_region_held (S := fun w' => WLog w' b D f s ∧ Blk w' V #[.int .i64 z, .string Y] 198) mixed ?_
     change wpAnyH _ _ _ _ _ _ _ _ (wr.alloc (.cells #[.int .i64 z, .string Y] 198)).drew
     have hZ2 : Blk (wr.alloc (.cells #[.int .i64 z, .string Y] 198)).drew V _ 198 := hZ1
     obtain ⟨W,hWW⟩ : ∃ u,(wr.alloc (.cells #[.int .i64 z, .string Y] 198)).drew = u := ⟨_,rfl⟩
     rw [hWW] at hZ2 hA2 hW2 KW ⊢
     have HV := Lib.hid hV
     have hVX : V ∉ X1 := fun hx => by have := HLT.out V hx;have := HV.out;omega
     clear hWW hZ1 d0 d1' hV
     have hS0 := And.intro hW2 hZ2
     refine tkQ 0 (.pointer (some ⟨b,0,none⟩)) rfl hS0 ?_
     try go_simp
     refine tkQ 1 (.pointer (some ⟨b,0,none⟩)) rfl hS0 ?_
     try go_simp
     refine tkQ 2 (.pointer (some ⟨b,0,none⟩)) rfl hS0 ?_
     try go_simp
     refine tkH 3 (.pointer (some ⟨D,0,none⟩)) rfl hS0 (fun w' hS => ?_) ?_
     ·have q0 := Blk.cell hS.1 0;simp at q0;go_simp
     try go_simp
     refine tkQ 4 (.pointer (some ⟨b,0,none⟩)) rfl hS0 ?_
     try go_simp
     refine tkQ 5 (.pointer (some ⟨b,0,none⟩)) rfl hS0 ?_
     try go_simp
     refine tkQ 6 (.pointer (some ⟨b,1,none⟩)) rfl hS0 ?_
     try go_simp
     refine tkH 7 (.int .i64 (f : Int)) rfl hS0 (fun w' hS => ?_) ?_
     ·have q0 := Blk.cell hS.1 1;simp at q0;go_simp
     try go_simp
     refine tkH 8 (.int .i64 ((f : Int) + 1)) rfl hS0 (fun w' hS => ?_) ?_
     ·clear hS;have w1 := HW1.out;go_simp
     try go_simp
     refine tkQ 9 (.int .i64 (k : Int)) rfl hS0 ?_
     try go_simp
     refine tkH 10 (.int .i64 ((f : Int) + 1 + (k : Int))) rfl hS0 (fun w' hS => ?_) ?_
     ·clear hS;have w2 := HW2.out;go_simp
     try go_simp
     refine tkQ 11 (.pointer (some ⟨V,1,none⟩)) rfl hS0 ?_
     try go_simp
     refine tkH 12 (.string Y) rfl hS0 (fun w' hS => ?_) ?_
     ·have q0 := Blk.cell hS.2 1;simp at q0;go_simp
     try go_simp
     refine alH 13 ?_
     unfold wpOp
     go_simp
     refine .inl ?_
     go_at_call 91
     refine KW.mono ?_
     rintro e W1 ⟨rfl,X2,hD3,hM2⟩
     have hS1 : WLog W1 b D f s ∧ Blk W1 V #[.int .i64 z, .string Y] 198 := ⟨hM2.blk hW2 hbX1,hM2.blk hZ2 hVX⟩
     refine ⟨hS1, ?_⟩
     rcases hnum with rfl | rfl
     ·
      refine tkQ 14 (.int .i64 0) rfl hS1 ?_
      try go_simp
      refine wpAnyH_done (by kernel_rfl) ?_ _
      have HD3 := Lib.hid hD3
      have HMF := Lib.hid (HM1.out.trans ((Mv.of_below X1 hA2).trans hM2))
      clear hW2 hZ2 hS0 hS1 hD3 hM2 hA2 KW hW1 hVX HST
      go_wp2
      go_roundw
      case rel => exact ⟨k + 1,by omega,by go_num,by rw [HRK.out],X2,by rw [HRK.out];exact HD3.out,HMF.out⟩
      case measure => simp [intOf];omega
     ·
      refine tkQ 14 (.int .i64 7) rfl hS1 ?_
      try go_simp
      refine wpAnyH_done (by kernel_rfl) ?_ _
      have HD3 := Lib.hid hD3
      have HMF := Lib.hid (HM1.out.trans ((Mv.of_below X1 hA2).trans hM2))
      have h7 := HST.out (by decide)
      injection h7 with h71 h72
      subst h71 h72
      rw [if_neg (by decide)] at hcm
      subst hcm
      clear hW2 hZ2 hS0 hS1 hD3 hM2 hA2 KW hW1 hVX HST
      go_wp2
      go_ret
      exact ⟨rfl,X2,HD3.out,HMF.out⟩
    ·obtain rfl : n = k := by omega
     have hil : (imgs x f).length = n := by rw [imgs_length];exact HN.out
     have hal := HAL.out (by rw [hil];exact h0)
     rw [hil] at hal
     obtain ⟨dk,hdk⟩ : ∃ q,(DS.run (wrs ((imgs x f).take n)) ds).2 = q := ⟨_,rfl⟩
     rw [hdk] at hD1 hal
     have KS := sync_any X1 D dk wr hD1
     rw [← hal] at KS
     dsimp only at KS
     have hW1 := hM1.blk HWB.out.1 HWB.out.2
     have hbX1 := hM1.apart HWB.out.2 (Blk.lt HWB.out.1)
     have hbl := Blk.lt hW1
     have hLA := hM1.lies HA.out.1 HA.out.2
     have hAX1 : ∀ a,A = some a → a.block ∉ X1 ∧ a.block < wr.heap.size := fun a ha => by
      obtain ⟨g,o,hA,hg,_⟩ := HA.out.1 (by rw [scells_length,HN.out];omega)
      rw [ha] at hA
      cases hA
      exact ⟨hM1.apart (HA.out.2 _ ha) hg,Nat.lt_of_lt_of_le hg hM1.size⟩
     have x0 := Blk.cell hW1 0
     simp at x0
     have HM := Lib.hid hM1
     have HW1 := Lib.hid (And.intro hW1 hbX1)
     have HLA := Lib.hid (And.intro hLA hAX1)
     clear hM1 hD1 hW1 hbX1 hLA hAX1 hal hdk h0 hil HNX HAL HLN
     rcases hn2 with rfl | rfl
     case inr =>
      rw [if_neg (by decide)] at hcm
      subst hcm
      go_wp2_with (go_at_call 92;refine KS.mono ?_;rintro e W2 ⟨rfl,hD2,hF2⟩)
      go_ret
      exact ⟨rfl,X1,hD2,HM.out.trans (.of_frm hF2)⟩
     rw [if_pos rfl] at hcm
     go_upto_region 19 with (go_at_call 92;refine KS.mono ?_;rintro e W2 ⟨rfl,hD2,hF2⟩)
     have hMF := HM.out.trans (.of_frm hF2)
     have hT2 := HTW.out.1.mv hMF HTW.out.2.1 HTW.out.2.2
     have hm2 : Mv X1 X1 wr W2 := .of_frm hF2
     have hLA2 := hm2.lies HLA.out.1 (fun a ha => (HLA.out.2 a ha).1)
     have K117 := KH W2 hLA2 hT2.1 hT2.2.1
     have HW2 := Lib.hid (And.intro (show WLog W2 b D f s from hm2.blk HW1.out.1 HW1.out.2) HW1.out.2)
     have K98 := fun (w3 : World) (hb3 : Below W2.heap.size W2 w3) => KSAY X1 w3 (hD2.below hb3) (Blk.below HW2.out.1 hb3) HW2.out.2
     have HSZ2 := Lib.hid hm2.size
     have HMF := Lib.hid hMF
     have HLA2 := Lib.hid hLA2
     clear hMF hT2 hm2 hLA2 hD2 hF2 KH KSAY KS
     rcases hn3 with rfl | rfl
     case inr =>
      rw [if_neg (by decide)] at hcm
      subst hcm
      go_wp2_with (first
       | (go_at_call 134;refine K117.mono ?_;rintro e w3 ⟨rfl,hb3⟩;have K := K98 w3 hb3;have HB3 := Lib.hid hb3;clear hb3 K98 K117)
       | (go_at_call 105;refine K.mono ?_;rintro e w4 ⟨rfl,X2,hD4,hM4⟩))
      go_ret
      exact ⟨rfl,X2,hD4,(HMF.out.below HB3.out).trans hM4⟩
     rw [if_pos rfl] at hcm
     go_upto_region 22 with (first
       | (go_at_call 134;refine K117.mono ?_;rintro e w3 ⟨rfl,hb3⟩;have K := K98 w3 hb3;have HB3 := Lib.hid hb3;clear hb3 K98 K117)
       | (go_at_call 105;refine K.mono ?_;rintro e w4 ⟨rfl,X2,hD4,hM4⟩))
     have hM24 := (Mv.of_below X1 HB3.out).trans hM4
     have hW4 : WLog w4 b D f s := hM24.blk HW2.out.1 HW2.out.2
     have hbX2 := hM24.apart HW2.out.2 (Blk.lt HW2.out.1)
     have hmF := HMF.out.trans hM24
     have hLA4 := hM24.lies HLA2.out (fun a ha => (HLA.out.2 a ha).1)
     have hAX2 : ∀ a,A = some a → a.block ∉ X2 := fun a ha => hM24.apart (HLA.out.2 a ha).1 (Nat.lt_of_lt_of_le (HLA.out.2 a ha).2 HSZ2.out)
     have K97 := KMAKE X2 w4 hD4 hW4 hbX2 hLA4 hAX2
     have HW4 := Lib.hid (And.intro hW4 hbX2)
     have HMF4 := Lib.hid hmF
     clear hM24 hW4 hbX2 hmF hLA4 hAX2 hD4 hM4 KMAKE K
     rcases hn4 with rfl | rfl
     case inr =>
      rw [if_neg (by decide)] at hcm
      subst hcm
      go_wp2_with (go_at_call 104;refine K97.mono ?_;rintro e w5 ⟨rfl,X3,hD5,hM5⟩)
      go_ret
      exact ⟨rfl,X3,hD5,HMF4.out.trans hM5⟩
     rw [if_pos rfl] at hcm
     subst hcm
     go_wp2_with (first
      | (go_at_call 104;refine K97.mono ?_;rintro e w5 ⟨rfl,X3,hD5,hM5⟩;have K6 := KEND X3 w5 hD5 (hM5.blk HW4.out.1 HW4.out.2) (hM5.apart HW4.out.2 (Blk.lt HW4.out.1));have HM5 := Lib.hid hM5;clear hD5 hM5 K97 KEND)
      | (go_at_call 105;refine K6.mono ?_;rintro e w6 ⟨rfl,X4,hD6,hM6⟩))
     go_ret
     exact ⟨rfl,X4,hD6,(HMF4.out.trans HM5.out).trans hM6⟩
end Go.Proofs.YtmjdmijloanfnaaGreatDoor
