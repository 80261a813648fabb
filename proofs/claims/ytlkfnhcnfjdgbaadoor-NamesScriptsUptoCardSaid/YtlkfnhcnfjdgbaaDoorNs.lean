/- What NamesScripts' walk keeps: a table and the document's in two blocks of the call's own. -/
import Derived.Test.YtlkfnhcnfjdgbaaDoorDc
import Derived.Test.YtlkfnhcnfjdgbaaDoorRa
import Derived.Test.YtlkfnhcnfjdgbaaDoorSa
import Derived.Test.YtlkfnhcnfjdgbaaDoorTn
import Derived.Deep.QuietTactic
import Derived.BigQuiet
import Derived.OrdersHeld
import Derived.Deep.RegionHeld3
import Derived.Deep.CutRange
import Derived.IntWalk
namespace Go.Proofs.YtlkfnhcnfjdgbaaDoor
open Go.RowKit Go.Maps Go.WideMaps
theorem and_three (z : Int) : ∃ q : Nat, q ≤ 3 ∧ bits .and .i64 z 3 = (q : Int) := by
  refine ⟨(BitVec.ofInt 64 z).toNat &&& 3, Nat.and_le_right, ?_⟩
  show IntKind.i64.wrap ((BitVec.ofInt 64 z &&& BitVec.ofInt 64 3).toNat : Int) = _
  have h : (BitVec.ofInt 64 z &&& BitVec.ofInt 64 3).toNat = (BitVec.ofInt 64 z).toNat &&& 3 := by rw [BitVec.toNat_and]; rfl
  rw [h]
  have h2 : (BitVec.ofInt 64 z).toNat &&& 3 ≤ 3 := Nat.and_le_right
  generalize (BitVec.ofInt 64 z).toNat &&& 3 = r at h2
  simp [IntKind.wrap, IntKind.bits, IntKind.signed]
  omega
theorem wp_app {w : World} {P : Program} {o : Oper} {a : Act} {K : Act → World → Prop} {Q : Exit → Act → World → Prop} (s x : Operand) (t e : TypeId)
    (ho : o.op = .call { callee := .builtin .append, args := #[s, x], argTypes := #[t, t] }) (i : TypeInfo) (z : Value) (size bytes : Nat) (ht : P.underlying t = some (.slice e)) (hi : P.info? e = some i) (hz : i.zero = some z) (hs : i.size = size) (hby : i.bytes = bytes) (hzs : z.cells.size = size) (hsz : 0 < size)
    (B : Nat) (v : Value) (hsv : a.eval s = v) (n : Nat) (xs : List Value) (hown : w.ownsRow B e size v n xs) (A : Option Addr) (m c : Nat) (hx : a.eval x = .slice A m c) (news : List Value) (hl : news.length = m * size) (hL : Lies w A news) (h1 : ∀ u ∈ news, u.oneCell' = true) (h63 : n + m ≤ 10000000) (hby2 : bytes ≤ 1000) (hB : B ≤ w.heap.size)
    (hK : ∀ A' c' w', w'.ownsRow B e size (.slice A' (n + m) c') (n + m) (xs ++ news) → w.grownBy w' v.ownBlock → K (a.put o.dst (.slice A' (n + m) c')) w') : o.wp P a w K Q := by
  obtain ⟨A', c', w', hrun, h2, h3⟩ := run_app (P := P) o.type t e i z size bytes ht hi hz hs hby hzs hsz B v n xs hown A m c news hl hL h1 h63 hby2 hB
  unfold Oper.wp execOp
  simp only [ho, resolve, invoke, builtin, Sem.run_bind, Sem.run_pure, Result.andThen_ok, List.map_toArray, List.map_cons, List.map_nil, hsv, hx, hrun]
  exact hK _ _ _ h2 h3
/-- A store to a block of another type keeps a table. -/
theorem tbl_setB {w : World} {t : Tbl} {v : Value} (h : TblAt w t v) {Y : Nat} {cs : Array Value} {e : TypeId} (hY : Blk w Y cs e) (h1 : e ≠ 41) (h2 : e ≠ 39) (i : Nat) (u : Value) : TblAt (w.setCell ⟨Y, i, none⟩ u) t v := by
  refine h.kept (fun g cs' e' fr hh he => Below.heap_setCell w ⟨Y, i, none⟩ u g (fun e1 => ?_)) (by simp)
  have e2 : g = Y := e1
  subst e2
  unfold Blk at hY
  rw [hY] at hh
  simp only [Option.some.injEq, Obj.cells.injEq] at hh
  rcases he with e3 | e3
  · exact h1 (hh.2.1.trans e3)
  · exact h2 (hh.2.1.trans e3)
/-- A row of texts is in no block whose cells 0 and 2 are slices. -/
theorem lies_apart {w : World} {A : Option Addr} {xs : List Value} {s1 s2 : ByteArray} (h : Lies w A xs) (h0 : xs[0]? = some (.string s1)) (h1 : xs[1]? = some (.string s2)) {X e : Nat} {A1 A2 : Option Addr} {n1 c1 n2 c2 : Nat} {u : Value} (hB : Blk w X #[.slice A1 n1 c1, u, .slice A2 n2 c2] e) : ∀ g o, A = some ⟨g, o, none⟩ → g ≠ X := by
  rintro g o rfl rfl
  obtain ⟨g', o', e1, _, hc⟩ := h (by have := (List.getElem?_eq_some_iff.1 h0).1; omega)
  simp only [Option.some.injEq, Addr.mk.injEq, and_true] at e1
  obtain ⟨rfl, rfl⟩ := e1
  have k0 := hc 0 _ h0
  have k1 := hc 1 _ h1
  rw [hB.cell] at k0 k1
  match o with
  | 0 => simp at k0
  | 1 => simp at k1
  | 2 => simp at k0
  | o + 3 => simp at k0
theorem lies_setB {w : World} {A : Option Addr} {xs : List Value} (h : Lies w A xs) (h2 : 0 < xs.length → ∃ s1 s2, xs[0]? = some (.string s1) ∧ xs[1]? = some (.string s2)) {X e : Nat} {A1 A2 : Option Addr} {n1 c1 n2 c2 : Nat} {u : Value} (hB : Blk w X #[.slice A1 n1 c1, u, .slice A2 n2 c2] e) (i : Nat) (v : Value) : Lies (w.setCell ⟨X, i, none⟩ v) A xs := by
  intro h0
  obtain ⟨g, o, hA, hg, hc⟩ := h h0
  obtain ⟨s1, s2, k0, k1⟩ := h2 h0
  have hne := lies_apart h k0 k1 hB g o hA
  refine ⟨g, o, hA, by simpa using hg, fun j y hj => ?_⟩
  exact (World.cell?_of_block (a := ⟨g, o + j, none⟩) (Below.heap_setCell w ⟨X, i, none⟩ v g hne)).trans (hc j y hj)
theorem rcells_two (R : Refs) (h : 0 < (rcells R).length) : ∃ s1 s2, (rcells R)[0]? = some (.string s1) ∧ (rcells R)[1]? = some (.string s2) := by
  cases R with
  | nil => simp [rcells] at h
  | cons r R => exact ⟨_, _, by rw [rcells_cons]; rfl, by rw [rcells_cons]; rfl⟩
theorem ucells_two (R : List Upd) (h : 0 < (ucells R).length) : ∃ s1 s2, (ucells R)[0]? = some (.string s1) ∧ (ucells R)[1]? = some (.string s2) := by
  cases R with
  | nil => simp [ucells] at h
  | cons r R => exact ⟨_, _, by rw [ucells_cons]; rfl, by rw [ucells_cons]; rfl⟩
theorem rtbl_setB {w : World} {t : Tbl} {v : Value} (h : RTblAt w t v) {X e : Nat} {A1 A2 : Option Addr} {n1 c1 n2 c2 : Nat} {u : Value} (hB : Blk w X #[.slice A1 n1 c1, u, .slice A2 n2 c2] e) (i : Nat) (y : Value) : RTblAt (w.setCell ⟨X, i, none⟩ y) t v := by
  obtain ⟨A, c, B, cb, rfl, h1, h2⟩ := h
  exact ⟨A, c, B, cb, rfl, lies_setB h1 (rcells_two _) hB i y, lies_setB h2 (ucells_two _) hB i y⟩
theorem rtbl_form {w : World} {t : Tbl} {v : Value} (h : RTblAt w t v) : ∃ P nR pc hT PB nL pb, v = .agg #[.slice P nR pc, .string hT, .slice PB nL pb] := by
  obtain ⟨A, c, B, cb, rfl, _⟩ := h
  exact ⟨_, _, _, _, _, _, _, rfl⟩
/-- Three stores that lay a table into a block. -/
def put3 (w : World) (X : Nat) (a b c : Value) : World := ((w.setCell ⟨X, 0, none⟩ a).setCell ⟨X, 1, none⟩ b).setCell ⟨X, 2, none⟩ c
section
variable {w : World} {X e : Nat} {A1 A2 : Option Addr} {n1 c1 n2 c2 : Nat} {u : ByteArray} (hB : Blk w X #[.slice A1 n1 c1, .string u, .slice A2 n2 c2] e) (B1 B2 : Option Addr) (m1 d1 m2 d2 : Nat) (y : ByteArray)
include hB
theorem put3_blk : Blk (put3 w X (.slice B1 m1 d1) (.string y) (.slice B2 m2 d2)) X #[.slice B1 m1 d1, .string y, .slice B2 m2 d2] e := by
  have := ((hB.set 0 (.slice B1 m1 d1)).set 1 (.string y)).set 2 (.slice B2 m2 d2)
  simp at this
  exact this
theorem put3_tbl {t : Tbl} {v : Value} (h : TblAt w t v) (h1 : e ≠ 41) (h2 : e ≠ 39) : TblAt (put3 w X (.slice B1 m1 d1) (.string y) (.slice B2 m2 d2)) t v := by
  have s1 := hB.set 0 (.slice B1 m1 d1)
  have s2 := s1.set 1 (.string y)
  have k1 := tbl_setB h hB h1 h2 0 (.slice B1 m1 d1)
  have k2 := tbl_setB k1 s1 h1 h2 1 (.string y)
  exact tbl_setB k2 s2 h1 h2 2 (.slice B2 m2 d2)
theorem put3_rtbl {t : Tbl} {v : Value} (h : RTblAt w t v) : RTblAt (put3 w X (.slice B1 m1 d1) (.string y) (.slice B2 m2 d2)) t v := by
  have s1 := hB.set 0 (.slice B1 m1 d1)
  have s2 := s1.set 1 (.string y)
  simp at s1 s2
  have k1 := rtbl_setB h hB 0 (.slice B1 m1 d1)
  have k2 := rtbl_setB k1 s1 1 (.string y)
  exact rtbl_setB k2 s2 2 (.slice B2 m2 d2)
end
theorem put3_other {w : World} {X Y e' : Nat} {cs : Array Value} (hY : Blk w Y cs e') (hne : Y ≠ X) (a b c : Value) : Blk (put3 w X a b c) Y cs e' :=
  (Below.heap_setCell _ ⟨X, 2, none⟩ _ Y hne).trans ((Below.heap_setCell _ ⟨X, 1, none⟩ _ Y hne).trans ((Below.heap_setCell _ ⟨X, 0, none⟩ _ Y hne).trans hY))
theorem put3_below {B X : Nat} {w0 w : World} (h : Below B w0 w) (hX : B ≤ X) (a b c : Value) : Below B w0 (put3 w X a b c) :=
  ((h.setCell (p := ⟨X, 0, none⟩) hX a).setCell (p := ⟨X, 1, none⟩) hX b).setCell (p := ⟨X, 2, none⟩) hX c
end Go.Proofs.YtlkfnhcnfjdgbaaDoor
/- stemmalaw16.NamesScripts, walked. -/
namespace Go.Proofs.YtlkfnhcnfjdgbaaDoor
open Go.RowKit Go.Maps Go.WideMaps
/-- Table t lies in block Y, and the document's in block Z. -/
def SI (Y Z : Nat) (t : Tbl) (wr : World) : Prop := ∃ T nT ct hT U nU cu T' nT' ct' hT' U' nU' cu', Blk wr Y #[.slice T nT ct, .string hT, .slice U nU cu] 31 ∧ Blk wr Z #[.slice T' nT' ct', .string hT', .slice U' nU' cu'] 45 ∧
  TblAt wr t (.agg #[.slice T nT ct, .string hT, .slice U nU cu]) ∧ RTblAt wr t (.agg #[.slice T' nT' ct', .string hT', .slice U' nU' cu'])
theorem SI.below {Y Z : Nat} {t : Tbl} {w w' : World} (h : SI Y Z t w) (hb : Below w.heap.size w w') : SI Y Z t w' := by
  obtain ⟨T, nT, ct, hT, U, nU, cu, T', nT', ct', hT', U', nU', cu', h1, h2, h3, h4⟩ := h
  exact ⟨T, nT, ct, hT, U, nU, cu, T', nT', ct', hT', U', nU', cu', h1.below hb, h2.below hb, h3.below hb, h4.below hb⟩
theorem rt_none (w : World) : RTblAt w ⟨[], [], []⟩ noTbl := ⟨_, 0, _, 0, rfl, fun h => by simp [rcells] at h, fun h => by simp [ucells] at h⟩
set_option maxRecDepth 100000 in
set_option maxHeartbeats 16000000 in
theorem scripts_any (A : Option Addr) (n cap : Nat) (l : List NTxn) (again m : Int) (w : World) (hln : l.length = n) (hn : n ≤ 9223372036854775807) (hL : Txns w A l) (hok : ∀ y ∈ l, y.ok) (hm : w.cell? ⟨0, 0, none⟩ = some (.int .i64 m)) :
    Calls Tryd.prog 5 #[.slice A n cap, .int .i64 again] w fun e w' => e = .returned (.bool true) ∧ Below w.heap.size w w' := by
  obtain ⟨q, hq, hqb⟩ := and_three again
  have KS := speaks_any m w hm
  have GA := Lib.hid (show ∀ w', Below w.heap.size w w' → w'.cell? ⟨0, 0, none⟩ = some (.int .i64 m) ∧ Txns w' A l from fun w' hb => ⟨(hb.cell (p := ⟨0, 0, none⟩) (cell_lt hm)).trans hm, hL.below (Nat.le_refl _) hb⟩)
  have HOK := Lib.hid hok
  obtain ⟨i39, h390, h391, h392, h393⟩ := info_parts info39
  clear hL hok hm
  go_enter Tryd.func5, Tryd.ntmps5
  go_wp2_with (go_at_call 7; refine KS.mono ?_; rintro e W1 ⟨rfl, hb1⟩)
  have hWs := hb1.size
  have hB2 : Below w.heap.size w ((W1.alloc (.cells #[.slice none 0 0, .string (mk mainB), .slice none 0 0] 31)).alloc (.cells #[.slice none 0 0, .string (mk mainB), .slice none 0 0] 45)) := (hb1.alloc hWs _).alloc (by simp; omega) _
  have hY : Blk ((W1.alloc (.cells #[.slice none 0 0, .string (mk mainB), .slice none 0 0] 31)).alloc (.cells #[.slice none 0 0, .string (mk mainB), .slice none 0 0] 45)) W1.heap.size #[.slice none 0 0, .string (mk mainB), .slice none 0 0] 31 := (Blk.new W1 _ 31).alloc _
  have hZ : Blk ((W1.alloc (.cells #[.slice none 0 0, .string (mk mainB), .slice none 0 0] 31)).alloc (.cells #[.slice none 0 0, .string (mk mainB), .slice none 0 0] 45)) (W1.heap.size + 1) #[.slice none 0 0, .string (mk mainB), .slice none 0 0] 45 := by
    have := Blk.new (W1.alloc (.cells #[.slice none 0 0, .string (mk mainB), .slice none 0 0] 31)) #[.slice none 0 0, .string (mk mainB), .slice none 0 0] 45
    rwa [World.size_alloc] at this
  have HSI : Hid (SI W1.heap.size (W1.heap.size + 1) ⟨[], mainB, []⟩ ((W1.alloc (.cells #[.slice none 0 0, .string (mk mainB), .slice none 0 0] 31)).alloc (.cells #[.slice none 0 0, .string (mk mainB), .slice none 0 0] 45))) := Lib.hid
    ⟨_, _, _, _, _, _, _, _, _, _, _, _, _, _, hY, hZ, ⟨_, 0, _, 0, rfl, fun _ => rfl, fun _ => rfl, fun h => by simp at h, fun h => by simp [ucells] at h, fun a h => by simp at h, fun a h => by simp at h⟩, ⟨_, 0, _, 0, rfl, fun h => by simp [rcells] at h, fun h => by simp [ucells] at h⟩⟩
  have HB2 := Lib.hid hB2
  clear hB2 hY hZ KS hb1
  obtain ⟨Y, hYY⟩ : ∃ Y, W1.heap.size = Y := ⟨_, rfl⟩
  obtain ⟨Z, hZZ⟩ : ∃ Z, Y + 1 = Z := ⟨_, rfl⟩
  simp only [hYY, hZZ] at HSI ⊢
  rw [hYY] at hWs
  clear hYY
  go_loopw [7] (fun i wr => ∃ (k : Nat) (t : Tbl), k ≤ 30 ∧ k ≤ n ∧ i = .int .i64 k ∧ SI Y Z t wr ∧ TG (4 * k) t ∧ Below w.heap.size w wr) (fun i _ => 30 - (intOf i).toNat)
  case atStart => exact ⟨0, _, by omega, by omega, rfl, HSI.out, TG.start, HB2.out⟩
  case round =>
    clear HSI HB2
    obtain ⟨k, t, hk, hkn, rfl, hSI, hTG, hb⟩ := hrel
    by_cases h : k < 30 ∧ k < n
    · obtain ⟨h30, hkn'⟩ := h
      have hkl : k < l.length := by omega
      obtain ⟨hm1, hTx⟩ := GA.out _ hb
      obtain ⟨g, o, rfl, hg, hcs⟩ := hTx (by omega)
      obtain ⟨Bk, ck, c0, c1, hNk⟩ := hcs k hkl
      have hyok := HOK.out _ (List.getElem_mem hkl)
      have HCK := Lib.hid (show ∀ ww, Below w.heap.size w ww → ww.cell? ⟨g, o + k * 2 + 1, none⟩ = some (.string (mk l[k].head)) from fun ww hbw => by
        obtain ⟨g', o', e, _, hcs'⟩ := (GA.out ww hbw).2 (by omega)
        simp only [Option.some.injEq, Addr.mk.injEq, and_true] at e
        obtain ⟨rfl, rfl⟩ := e
        obtain ⟨_, _, _, h1, _⟩ := hcs' k hkl
        exact h1)
      obtain ⟨y, hy⟩ : ∃ y, l[k] = y := ⟨_, rfl⟩
      rw [hy] at c0 c1 hNk hyok HCK
      have KB := both_txn Bk ck y wr hNk hyok.1
      have hul := y.us_len
      have huo := NTxn.us_ok hyok
      have hhl := hyok.2.2
      obtain ⟨ny, hny⟩ : ∃ k, y.l.length = k := ⟨_, rfl⟩
      obtain ⟨hdy, hhdy⟩ : ∃ h, mk y.head = h := ⟨_, rfl⟩
      rw [hny] at c0 KB
      rw [hhdy] at c1 KB HCK
      obtain ⟨us, hus⟩ : ∃ us, y.us = us := ⟨_, rfl⟩
      obtain ⟨N, hN⟩ : ∃ N, us.length = N := ⟨_, rfl⟩
      rw [hus] at KB hul huo
      rw [hN] at KB
      have HNN := Lib.hid hN
      have HUO := Lib.hid huo
      have HHy := Lib.hid hhdy
      have HHL := Lib.hid hhl
      have HSI := Lib.hid hSI
      have HTG := Lib.hid hTG
      have HB := Lib.hid hb
      have hNl : N ≤ 12 := by omega
      have hbs := hb.size
      clear hTx hNk hyok hus hN hcs hy hny hhdy huo hhl hul hSI hTG hb hm1
      have k0 : (0 : Int) ≤ (k : Int) := by omega
      have k1 : (k : Int) < (n : Int) := by omega
      have k2 : (k : Int) < 30 := by omega
      go_upto_region 9 with (go_at_call 12; refine KB.mono ?_; rintro e w3 ⟨A1, d1, A2, d2, rfl, ho1, ho2, hb3⟩)
      go_wp2
      have hbs3 := hb3.size
      have HI0 : Hid (SI Y Z t w3) := Lib.hid (HSI.out.below hb3)
      have HB3 : Hid (Below w.heap.size w w3) := Lib.hid (below_step HB.out hb3)
      have HO1 := Lib.hid (own_weaken ho1 hbs)
      have HO2 := Lib.hid (own_weaken ho2 hbs)
      have HTG' := HTG
      have HUt := Lib.hid hbs
      clear ho1 ho2 hb3 c0 c1 HSI HB hbs hbs3
      go_loopw [10] (fun jv wx => ∃ (j : Nat) (tt : Tbl), j ≤ q + 1 ∧ jv = .int .i64 j ∧ SI Y Z tt wx ∧ TG (4 * k + j) tt ∧ wx.ownsRow w.heap.size 39 3 (.slice A1 N d1) N (ucells us) ∧ wx.ownsRow w.heap.size 66 3 (.slice A2 N d2) N (ucells us) ∧ Below w.heap.size w wx) (fun i _ => 10 - (intOf i).toNat)
      case atStart => exact ⟨0, t, by omega, rfl, HI0.out, HTG.out, HO1.out, HO2.out, HB3.out⟩
      case round =>
        clear HI0 HB3 HO1 HO2
        obtain ⟨j, tt, hj, rfl, hSI, hTG, ho1, ho2, hb⟩ := hrel
        have HTG2 := Lib.hid hTG
        have HO1 := Lib.hid ho1
        have HO2 := Lib.hid ho2
        have HB := Lib.hid hb
        by_cases hjq : j < q + 1
        · obtain ⟨T, nT, ct, hT, U, nU, cu, T', nT', ct', hT', U', nU', cu', hY, hZ, hTA, hRA⟩ := hSI
          have y0 := hY.cell 0
          have y1 := hY.cell 1
          have y2 := hY.cell 2
          simp at y0 y1 y2
          have HY := Lib.hid hY
          have HZ := Lib.hid hZ
          have HTA := Lib.hid hTA
          have HRA := Lib.hid hRA
          have hYl := hY.lt
          have hZl := hZ.lt
          have hws := hb.size
          clear hY hZ hTA hRA hTG ho1 ho2 hb
          have j0 : (0 : Int) ≤ (j : Int) := by omega
          have j1 : (j : Int) < 1 + (q : Int) := by omega
          go_upto_region 13 with fail
          have hX4 := Blk.new wr #[.slice T nT ct, .string hT, .slice U nU cu] 31
          have hb4 := below_alloc wr (.cells #[.slice T nT ct, .string hT, .slice U nU cu] 31)
          have HY := Lib.hid (HY.out.below hb4)
          have HZ := Lib.hid (HZ.out.below hb4)
          have HTA := Lib.hid (HTA.out.below hb4)
          have HRA := Lib.hid (HRA.out.below hb4)
          have HO1 := Lib.hid (own_below HO1.out hb4)
          have HO2 := Lib.hid (own_below HO2.out hb4)
          have HB := Lib.hid (below_step HB.out hb4)
          have HB4 := Lib.hid hb4
          obtain ⟨X, hX⟩ : ∃ X, wr.heap.size = X := ⟨_, rfl⟩
          obtain ⟨WS, hWS⟩ : ∃ u, wr.alloc (.cells #[.slice T nT ct, .string hT, .slice U nU cu] 31) = u := ⟨_, rfl⟩
          rw [hWS] at HY HZ HTA HRA HO1 HO2 HB hX4 HB4
          rw [hX] at hX4 hYl hZl hws
          rw [hWS]
          rw [hX]
          have HX := Lib.hid hX4
          have hXl := hX4.lt
          clear y0 y1 y2 hX4 hb4 hWS hX
          have hrl : tt.refs.length ≤ 1440 := by have := HTG2.out.len; omega
          have hll : tt.log.length ≤ 256 := HTG2.out.logl
          have HUl : Hid ((ucells us).length = N * 3) := Lib.hid (by rw [ucells_length, HNN.out])
          have HU1 := Lib.hid (ucells_one us)
          have HO4 := HO1
          have KA : ∀ ww, Below WS.heap.size WS ww → ∀ A' c', ww.ownsRow WS.heap.size 39 3 (.slice A' N c') N (ucells us) → Calls Tryd.prog 13 #[.agg #[.slice T nT ct, .string hT, .slice U nU cu], .slice A' N c', .string hdy] ww fun e w' => ∃ P nR pc hP PB nL pb, e = .returned (.tuple #[.agg #[.slice P nR pc, .string hP, .slice PB nL pb], .int .i64 (mayE tt.refs us y.head)]) ∧ TblAt w' (tt.res us y.head) (.agg #[.slice P nR pc, .string hP, .slice PB nL pb]) ∧ Below ww.heap.size ww w' := fun ww hw A' c' ho => by
            have ho' := ho
            rw [← HNN.out] at ho'
            have := apply_any tt _ us A' c' y.head m ww (HTA.out.below hw) HTG2.out.sorted (by omega) (by omega) HUO.out (by have := HNN.out; omega) (Upds.of_row ho') (row_none' ho') HHL.out (GA.out _ (below_step HB.out hw)).1
            rw [HHy.out, HNN.out] at this
            exact this
          have KR0 := Lib.hid (show ∀ ww, Below WS.heap.size WS ww → Calls Tryd.prog 14 #[.agg #[.slice T' nT' ct', .string hT', .slice U' nU' cu'], .slice A2 N d2, .string hdy] ww fun e w' => ∃ P nR pc hP PB nL pb, e = .returned (.tuple #[.agg #[.slice P nR pc, .string hP, .slice PB nL pb], .int .i64 (mayE tt.refs us y.head)]) ∧ RTblAt w' (tt.res us y.head) (.agg #[.slice P nR pc, .string hP, .slice PB nL pb]) ∧ Below ww.heap.size ww w' from fun ww hw => by
            have := rapply_any tt _ us A2 d2 y.head ww (HRA.out.below hw) HTG2.out.sorted HTG2.out.ne (by omega) (by omega) HUO.out (by have := HNN.out; omega) (Lies.of_row (own_below HO2.out hw)) HHL.out
            rw [HHy.out, HNN.out] at this
            refine this.mono fun e w' => ?_
            rintro ⟨v, rfl, h1, h2⟩
            obtain ⟨P, nR, pc, hP, PB, nL, pb, rfl⟩ := rtbl_form h1
            exact ⟨P, nR, pc, hP, PB, nL, pb, rfl, h1, h2⟩)
          obtain ⟨E, hE⟩ : ∃ E, mayE tt.refs us y.head = E := ⟨_, rfl⟩
          obtain ⟨tn, htn⟩ : ∃ tn, tt.res us y.head = tn := ⟨_, rfl⟩
          rw [hE, htn] at KA KR0
          have HE := Lib.hid hE
          have HTN := Lib.hid htn
          have GK := Lib.hid (show ∀ ww, Below WS.heap.size WS ww → ww.cell? ⟨Y, 0, none⟩ = some (.slice T nT ct) ∧ ww.cell? ⟨Y, 1, none⟩ = some (.string hT) ∧ ww.cell? ⟨Y, 2, none⟩ = some (.slice U nU cu) ∧ ww.cell? ⟨g, o + k * 2 + 1, none⟩ = some (.string hdy) from fun ww hw =>
            ⟨(HY.out.below hw).cell 0, (HY.out.below hw).cell 1, (HY.out.below hw).cell 2, HCK.out _ (below_step HB.out hw)⟩)
          clear hE htn
          go_cut [12, 13] from 49 to 61 (fun s12 s13 wx => ∃ Z12 P nR pc hP PB nL pb, s12 = .pointer (some ⟨Z12, 0, none⟩) ∧ s13 = .int .i64 E ∧ Blk wx Z12 #[.slice P nR pc, .string hP, .slice PB nL pb] 31 ∧ TblAt wx tn (.agg #[.slice P nR pc, .string hP, .slice PB nL pb]) ∧ Below WS.heap.size WS wx ∧ WS.heap.size ≤ Z12)
          case first =>
            have mixed : Tryd.prog.follows Departure.mixedOrders = true := by kernel_rfl
            refine wp_region_held (S := (fun w' => Below WS.heap.size WS w')) mixed ?_
            change wpAnyH _ _ _ _ _ _ _ _ WS.drew
            have hb0 : Below WS.heap.size WS WS.drew := (Below.refl _ WS).drew
            obtain ⟨w0, hw0⟩ : ∃ u, WS.drew = u := ⟨_, rfl⟩
            rw [hw0] at hb0
            rw [hw0]
            clear hw0
            refine wpAnyH_take (i := 0) (v := .agg #[.slice T nT ct, .string hT, .slice U nU cu]) rfl (by kernel_rfl) (by kernel_rfl) (by kernel_rfl) (fun c a w h => h) (.inl ⟨by kernel_rfl, fun w' hS => ?_⟩) hb0 ?_
            · obtain ⟨q0, q1, q2, q3⟩ := GK.out w' hS; go_simp
            try go_simp
            refine wpAnyH_take (i := 2) (v := .slice A1 N d1) rfl (by kernel_rfl) (by kernel_rfl) (by kernel_rfl) (fun c a w h => h) (.inl ⟨by kernel_rfl, fun w' hS => ?_⟩) hb0 ?_
            · go_simp
            try go_simp
            refine wpAnyH_take (i := 4) (v := .slice (some ⟨g, o, none⟩) n cap) rfl (by kernel_rfl) (by kernel_rfl) (by kernel_rfl) (fun c a w h => h) (.inl ⟨by kernel_rfl, fun w' hS => ?_⟩) hb0 ?_
            · go_simp
            try go_simp
            refine wpAnyH_take (i := 5) (v := .int .i64 k) rfl (by kernel_rfl) (by kernel_rfl) (by kernel_rfl) (fun c a w h => h) (.inl ⟨by kernel_rfl, fun w' hS => ?_⟩) hb0 ?_
            · go_simp
            try go_simp
            refine wpAnyH_take (i := 6) (v := .pointer (some ⟨g, o + k * 2, none⟩)) rfl (by kernel_rfl) (by kernel_rfl) (by kernel_rfl) (fun c a w h => h) (.inl ⟨by kernel_rfl, fun w' hS => ?_⟩) hb0 ?_
            · go_simp
            try go_simp
            refine wpAnyH_take (i := 7) (v := .pointer (some ⟨g, o + k * 2 + 1, none⟩)) rfl (by kernel_rfl) (by kernel_rfl) (by kernel_rfl) (fun c a w h => h) (.inl ⟨by kernel_rfl, fun w' hS => ?_⟩) hb0 ?_
            · go_simp
            try go_simp
            refine wpAnyH_take (i := 8) (v := .string hdy) rfl (by kernel_rfl) (by kernel_rfl) (by kernel_rfl) (fun c a w h => h) (.inl ⟨by kernel_rfl, fun w' hS => ?_⟩) hb0 ?_
            · obtain ⟨q0, q1, q2, q3⟩ := GK.out w' hS; go_simp
            try go_simp
            refine wpAnyH_all (rs := [1, 13]) (by kernel_rfl) (by simp) ?_
            intro i hi
            simp only [List.mem_cons, List.not_mem_nil, or_false] at hi
            rcases hi with rfl | rfl
            · skip
              unfold wpOp
              go_simp
              have hb2 : Below WS.heap.size WS (w0.alloc (.cells #[] 39)) := hb0.alloc hb0.size _
              have ho4 : (w0.alloc (.cells #[] 39)).ownsRow WS.heap.size 39 3 (.slice (some ⟨w0.heap.size, 0, none⟩) 0 0) 0 [] := World.ownsRow_lit w0 #[] 0 hb0.size (by unfold maxLen; omega) rfl
              have zl5 : WS.heap.size ≤ w0.heap.size := hb0.size
              obtain ⟨z3, e6⟩ : ∃ x, w0.heap.size = x := ⟨_, rfl⟩
              obtain ⟨w1, e7⟩ : ∃ u, w0.alloc (.cells #[] 39) = u := ⟨_, rfl⟩
              rw [e6] at ho4 zl5
              rw [e7] at hb2 ho4
              try rw [e6]
              rw [e7]
              clear e6 e7
              first | refine .inl ⟨hb2, ?_⟩ | refine ⟨hb2, ?_⟩
              refine wpAnyH_all (rs := [3, 13]) (by kernel_rfl) (by simp) ?_
              intro i hi
              simp only [List.mem_cons, List.not_mem_nil, or_false] at hi
              rcases hi with rfl | rfl
              · skip
                refine wpOp_of rfl rfl (wp_app (P := Tryd.prog) (.tmp 51) (.tmp 52) 29 39 rfl i39 _ 3 48 Tryd.underlying29 h390 h391 h392 h393 (by rfl) (by decide) WS.heap.size (.slice (some ⟨z3, 0, none⟩) 0 0) (by rfl) 0 [] ho4 A1 N d1 (by rfl) (ucells us) HUl.out (Lies.of_row (own_below HO4.out hb2)) HU1.out (by omega) (by omega) hb2.size ?_)
                intro A12 c13 w8 ho10 hg11
                rw [Nat.zero_add, List.nil_append] at ho10
                have hb9 := hb2.grown hg11 hb2.size (fun k e => (World.ownsRow.lt ho4 k e).1)
                clear hg11
                refine ⟨hb9, ?_⟩
                simp only [Nat.zero_add]
                try go_simp
                refine wpAnyH_all (rs := [9, 13]) (by kernel_rfl) (by simp) ?_
                intro i hi
                simp only [List.mem_cons, List.not_mem_nil, or_false] at hi
                rcases hi with rfl | rfl
                · skip
                  unfold wpOp
                  go_simp
                  refine .inl ?_
                  go_at_call 13
                  refine (KA w8 hb9 A12 c13 ho10).mono ?_
                  rintro e w14 ⟨P, nR, pc, hP, PB, nL, pb, rfl, ht17, h16⟩
                  have hb15 := below_step hb9 h16
                  refine ⟨hb15, ?_⟩
                  try go_simp
                  refine wpAnyH_take (i := 10) (v := .tuple #[.agg #[.slice P nR pc, .string hP, .slice PB nL pb], .int .i64 E]) rfl (by kernel_rfl) (by kernel_rfl) (by kernel_rfl) (fun c a w h => h) (.inl ⟨by kernel_rfl, fun w' hS => ?_⟩) hb15 ?_
                  · go_simp
                  try go_simp
                  refine wpAnyH_take (i := 11) (v := .agg #[.slice P nR pc, .string hP, .slice PB nL pb]) rfl (by kernel_rfl) (by kernel_rfl) (by kernel_rfl) (fun c a w h => h) (.inl ⟨by kernel_rfl, fun w' hS => ?_⟩) hb15 ?_
                  · go_simp
                  try go_simp
                  refine wpAnyH_take (i := 12) (v := .int .i64 E) rfl (by kernel_rfl) (by kernel_rfl) (by kernel_rfl) (fun c a w h => h) (.inl ⟨by kernel_rfl, fun w' hS => ?_⟩) hb15 ?_
                  · go_simp
                  try go_simp
                  refine wpAnyH_all (rs := [13]) (by kernel_rfl) (by simp) ?_
                  intro i hi
                  simp only [List.mem_cons, List.not_mem_nil, or_false] at hi
                  subst hi
                  unfold wpOp
                  go_simp
                  have hb19 : Below WS.heap.size WS (w14.alloc (.cells #[.slice none 0 0, .string ⟨#[]⟩, .slice none 0 0] 31)) := hb15.alloc hb15.size _
                  have ht20 := ht17.below (below_alloc w14 (.cells #[.slice none 0 0, .string ⟨#[]⟩, .slice none 0 0] 31))
                  have hz22 := Blk.new w14 #[.slice none 0 0, .string ⟨#[]⟩, .slice none 0 0] 31
                  have zl23 : WS.heap.size ≤ w14.heap.size := hb15.size
                  obtain ⟨z21, e24⟩ : ∃ x, w14.heap.size = x := ⟨_, rfl⟩
                  obtain ⟨w18, e25⟩ : ∃ u, w14.alloc (.cells #[.slice none 0 0, .string ⟨#[]⟩, .slice none 0 0] 31) = u := ⟨_, rfl⟩
                  rw [e24] at hz22 zl23
                  rw [e25] at hb19 ht20 hz22
                  try rw [e24]
                  rw [e25]
                  clear e24 e25
                  first | refine .inl ⟨hb19, ?_⟩ | refine ⟨hb19, ?_⟩
                  refine wpAnyH_all (rs := [14]) (by kernel_rfl) (by simp) ?_
                  intro i hi
                  simp only [List.mem_cons, List.not_mem_nil, or_false] at hi
                  subst hi
                  have r0 := hz22.cell 0
                  have f0 := hz22.frozen 0
                  have r1 := hz22.cell 1
                  have f1 := hz22.frozen 1
                  have r2 := hz22.cell 2
                  have f2 := hz22.frozen 2
                  simp at r0 r1 r2
                  unfold wpOp
                  go_simp
                  have hb27 := put3_below hb19 zl23 (.slice P nR pc) (.string hP) (.slice PB nL pb)
                  have hz28 := put3_blk hz22 P PB nR pc nL pb hP
                  have ht29 := put3_tbl hz22 P PB nR pc nL pb hP ht20 (by decide) (by decide)
                  clear f0 f1 f2 r0 r1 r2
                  obtain ⟨w26, e30⟩ : ∃ u, put3 w18 z21 (.slice P nR pc) (.string hP) (.slice PB nL pb) = u := ⟨_, rfl⟩
                  rw [e30] at hb27 hz28 ht29
                  unfold put3 at e30
                  rw [e30]
                  clear e30
                  first | refine .inl ⟨hb27, ?_⟩ | refine ⟨hb27, ?_⟩
                  refine wpAnyH_take (i := 15) (v := .int .i64 E) rfl (by kernel_rfl) (by kernel_rfl) (by kernel_rfl) (fun c a w h => h) (.inl ⟨by kernel_rfl, fun w' hS => ?_⟩) hb27 ?_
                  · go_simp
                  try go_simp
                  refine wpAnyH_done (by kernel_rfl) ?_ _
                  go_wp2_with fail
                  go_meet
                  exact ⟨z21, P, nR, pc, hP, PB, nL, pb, rfl, rfl, hz28, ht29, hb27, zl23⟩
                · skip
                  unfold wpOp
                  go_simp
                  have hb32 : Below WS.heap.size WS (w8.alloc (.cells #[.slice none 0 0, .string ⟨#[]⟩, .slice none 0 0] 31)) := hb9.alloc hb9.size _
                  have ho33 := World.ownsRow.alloc ho10 (.cells #[.slice none 0 0, .string ⟨#[]⟩, .slice none 0 0] 31)
                  have hz35 := Blk.new w8 #[.slice none 0 0, .string ⟨#[]⟩, .slice none 0 0] 31
                  have zl36 : WS.heap.size ≤ w8.heap.size := hb9.size
                  obtain ⟨z34, e37⟩ : ∃ x, w8.heap.size = x := ⟨_, rfl⟩
                  obtain ⟨w31, e38⟩ : ∃ u, w8.alloc (.cells #[.slice none 0 0, .string ⟨#[]⟩, .slice none 0 0] 31) = u := ⟨_, rfl⟩
                  rw [e37] at hz35 zl36
                  rw [e38] at hb32 ho33 hz35
                  try rw [e37]
                  rw [e38]
                  clear e37 e38
                  first | refine .inl ⟨hb32, ?_⟩ | refine ⟨hb32, ?_⟩
                  refine wpAnyH_all (rs := [9]) (by kernel_rfl) (by simp) ?_
                  intro i hi
                  simp only [List.mem_cons, List.not_mem_nil, or_false] at hi
                  subst hi
                  unfold wpOp
                  go_simp
                  refine .inl ?_
                  go_at_call 13
                  refine (KA w31 hb32 A12 c13 ho33).mono ?_
                  rintro e w39 ⟨P, nR, pc, hP, PB, nL, pb, rfl, ht42, h41⟩
                  have hb40 := below_step hb32 h41
                  have hz43 := hz35.below h41
                  refine ⟨hb40, ?_⟩
                  try go_simp
                  refine wpAnyH_take (i := 10) (v := .tuple #[.agg #[.slice P nR pc, .string hP, .slice PB nL pb], .int .i64 E]) rfl (by kernel_rfl) (by kernel_rfl) (by kernel_rfl) (fun c a w h => h) (.inl ⟨by kernel_rfl, fun w' hS => ?_⟩) hb40 ?_
                  · go_simp
                  try go_simp
                  refine wpAnyH_take (i := 11) (v := .agg #[.slice P nR pc, .string hP, .slice PB nL pb]) rfl (by kernel_rfl) (by kernel_rfl) (by kernel_rfl) (fun c a w h => h) (.inl ⟨by kernel_rfl, fun w' hS => ?_⟩) hb40 ?_
                  · go_simp
                  try go_simp
                  refine wpAnyH_take (i := 12) (v := .int .i64 E) rfl (by kernel_rfl) (by kernel_rfl) (by kernel_rfl) (fun c a w h => h) (.inl ⟨by kernel_rfl, fun w' hS => ?_⟩) hb40 ?_
                  · go_simp
                  try go_simp
                  refine wpAnyH_all (rs := [14]) (by kernel_rfl) (by simp) ?_
                  intro i hi
                  simp only [List.mem_cons, List.not_mem_nil, or_false] at hi
                  subst hi
                  have r0 := hz43.cell 0
                  have f0 := hz43.frozen 0
                  have r1 := hz43.cell 1
                  have f1 := hz43.frozen 1
                  have r2 := hz43.cell 2
                  have f2 := hz43.frozen 2
                  simp at r0 r1 r2
                  unfold wpOp
                  go_simp
                  have hb45 := put3_below hb40 zl36 (.slice P nR pc) (.string hP) (.slice PB nL pb)
                  have hz46 := put3_blk hz43 P PB nR pc nL pb hP
                  have ht47 := put3_tbl hz43 P PB nR pc nL pb hP ht42 (by decide) (by decide)
                  clear f0 f1 f2 r0 r1 r2
                  obtain ⟨w44, e48⟩ : ∃ u, put3 w39 z34 (.slice P nR pc) (.string hP) (.slice PB nL pb) = u := ⟨_, rfl⟩
                  rw [e48] at hb45 hz46 ht47
                  unfold put3 at e48
                  rw [e48]
                  clear e48
                  first | refine .inl ⟨hb45, ?_⟩ | refine ⟨hb45, ?_⟩
                  refine wpAnyH_take (i := 15) (v := .int .i64 E) rfl (by kernel_rfl) (by kernel_rfl) (by kernel_rfl) (fun c a w h => h) (.inl ⟨by kernel_rfl, fun w' hS => ?_⟩) hb45 ?_
                  · go_simp
                  try go_simp
                  refine wpAnyH_done (by kernel_rfl) ?_ _
                  go_wp2_with fail
                  go_meet
                  exact ⟨z34, P, nR, pc, hP, PB, nL, pb, rfl, rfl, hz46, ht47, hb45, zl36⟩
              · skip
                unfold wpOp
                go_simp
                have hb50 : Below WS.heap.size WS (w1.alloc (.cells #[.slice none 0 0, .string ⟨#[]⟩, .slice none 0 0] 31)) := hb2.alloc hb2.size _
                have ho51 := World.ownsRow.alloc ho4 (.cells #[.slice none 0 0, .string ⟨#[]⟩, .slice none 0 0] 31)
                have hz53 := Blk.new w1 #[.slice none 0 0, .string ⟨#[]⟩, .slice none 0 0] 31
                have zl54 : WS.heap.size ≤ w1.heap.size := hb2.size
                obtain ⟨z52, e55⟩ : ∃ x, w1.heap.size = x := ⟨_, rfl⟩
                obtain ⟨w49, e56⟩ : ∃ u, w1.alloc (.cells #[.slice none 0 0, .string ⟨#[]⟩, .slice none 0 0] 31) = u := ⟨_, rfl⟩
                rw [e55] at hz53 zl54
                rw [e56] at hb50 ho51 hz53
                try rw [e55]
                rw [e56]
                clear e55 e56
                first | refine .inl ⟨hb50, ?_⟩ | refine ⟨hb50, ?_⟩
                refine wpAnyH_all (rs := [3]) (by kernel_rfl) (by simp) ?_
                intro i hi
                simp only [List.mem_cons, List.not_mem_nil, or_false] at hi
                subst hi
                refine wpOp_of rfl rfl (wp_app (P := Tryd.prog) (.tmp 51) (.tmp 52) 29 39 rfl i39 _ 3 48 Tryd.underlying29 h390 h391 h392 h393 (by rfl) (by decide) WS.heap.size (.slice (some ⟨z3, 0, none⟩) 0 0) (by rfl) 0 [] ho51 A1 N d1 (by rfl) (ucells us) HUl.out (Lies.of_row (own_below HO4.out hb50)) HU1.out (by omega) (by omega) hb50.size ?_)
                intro A61 c62 w57 ho59 hg60
                rw [Nat.zero_add, List.nil_append] at ho59
                have hb58 := hb50.grown hg60 hb50.size (fun k e => (World.ownsRow.lt ho51 k e).1)
                have hz63 := hz53.grown hg60 (own_ne_blk ho51 hz53 (by decide))
                clear hg60
                refine ⟨hb58, ?_⟩
                simp only [Nat.zero_add]
                try go_simp
                refine wpAnyH_all (rs := [9]) (by kernel_rfl) (by simp) ?_
                intro i hi
                simp only [List.mem_cons, List.not_mem_nil, or_false] at hi
                subst hi
                unfold wpOp
                go_simp
                refine .inl ?_
                go_at_call 13
                refine (KA w57 hb58 A61 c62 ho59).mono ?_
                rintro e w64 ⟨P, nR, pc, hP, PB, nL, pb, rfl, ht67, h66⟩
                have hb65 := below_step hb58 h66
                have hz68 := hz63.below h66
                refine ⟨hb65, ?_⟩
                try go_simp
                refine wpAnyH_take (i := 10) (v := .tuple #[.agg #[.slice P nR pc, .string hP, .slice PB nL pb], .int .i64 E]) rfl (by kernel_rfl) (by kernel_rfl) (by kernel_rfl) (fun c a w h => h) (.inl ⟨by kernel_rfl, fun w' hS => ?_⟩) hb65 ?_
                · go_simp
                try go_simp
                refine wpAnyH_take (i := 11) (v := .agg #[.slice P nR pc, .string hP, .slice PB nL pb]) rfl (by kernel_rfl) (by kernel_rfl) (by kernel_rfl) (fun c a w h => h) (.inl ⟨by kernel_rfl, fun w' hS => ?_⟩) hb65 ?_
                · go_simp
                try go_simp
                refine wpAnyH_take (i := 12) (v := .int .i64 E) rfl (by kernel_rfl) (by kernel_rfl) (by kernel_rfl) (fun c a w h => h) (.inl ⟨by kernel_rfl, fun w' hS => ?_⟩) hb65 ?_
                · go_simp
                try go_simp
                refine wpAnyH_all (rs := [14]) (by kernel_rfl) (by simp) ?_
                intro i hi
                simp only [List.mem_cons, List.not_mem_nil, or_false] at hi
                subst hi
                have r0 := hz68.cell 0
                have f0 := hz68.frozen 0
                have r1 := hz68.cell 1
                have f1 := hz68.frozen 1
                have r2 := hz68.cell 2
                have f2 := hz68.frozen 2
                simp at r0 r1 r2
                unfold wpOp
                go_simp
                have hb70 := put3_below hb65 zl54 (.slice P nR pc) (.string hP) (.slice PB nL pb)
                have hz71 := put3_blk hz68 P PB nR pc nL pb hP
                have ht72 := put3_tbl hz68 P PB nR pc nL pb hP ht67 (by decide) (by decide)
                clear f0 f1 f2 r0 r1 r2
                obtain ⟨w69, e73⟩ : ∃ u, put3 w64 z52 (.slice P nR pc) (.string hP) (.slice PB nL pb) = u := ⟨_, rfl⟩
                rw [e73] at hb70 hz71 ht72
                unfold put3 at e73
                rw [e73]
                clear e73
                first | refine .inl ⟨hb70, ?_⟩ | refine ⟨hb70, ?_⟩
                refine wpAnyH_take (i := 15) (v := .int .i64 E) rfl (by kernel_rfl) (by kernel_rfl) (by kernel_rfl) (fun c a w h => h) (.inl ⟨by kernel_rfl, fun w' hS => ?_⟩) hb70 ?_
                · go_simp
                try go_simp
                refine wpAnyH_done (by kernel_rfl) ?_ _
                go_wp2_with fail
                go_meet
                exact ⟨z52, P, nR, pc, hP, PB, nL, pb, rfl, rfl, hz71, ht72, hb70, zl54⟩
            · skip
              unfold wpOp
              go_simp
              have hb75 : Below WS.heap.size WS (w0.alloc (.cells #[.slice none 0 0, .string ⟨#[]⟩, .slice none 0 0] 31)) := hb0.alloc hb0.size _
              have hz77 := Blk.new w0 #[.slice none 0 0, .string ⟨#[]⟩, .slice none 0 0] 31
              have zl78 : WS.heap.size ≤ w0.heap.size := hb0.size
              obtain ⟨z76, e79⟩ : ∃ x, w0.heap.size = x := ⟨_, rfl⟩
              obtain ⟨w74, e80⟩ : ∃ u, w0.alloc (.cells #[.slice none 0 0, .string ⟨#[]⟩, .slice none 0 0] 31) = u := ⟨_, rfl⟩
              rw [e79] at hz77 zl78
              rw [e80] at hb75 hz77
              try rw [e79]
              rw [e80]
              clear e79 e80
              first | refine .inl ⟨hb75, ?_⟩ | refine ⟨hb75, ?_⟩
              refine wpAnyH_all (rs := [1]) (by kernel_rfl) (by simp) ?_
              intro i hi
              simp only [List.mem_cons, List.not_mem_nil, or_false] at hi
              subst hi
              unfold wpOp
              go_simp
              have hb82 : Below WS.heap.size WS (w74.alloc (.cells #[] 39)) := hb75.alloc hb75.size _
              have hz83 := hz77.alloc (.cells #[] 39)
              have ho85 : (w74.alloc (.cells #[] 39)).ownsRow WS.heap.size 39 3 (.slice (some ⟨w74.heap.size, 0, none⟩) 0 0) 0 [] := World.ownsRow_lit w74 #[] 0 hb75.size (by unfold maxLen; omega) rfl
              have zl86 : WS.heap.size ≤ w74.heap.size := hb75.size
              obtain ⟨z84, e87⟩ : ∃ x, w74.heap.size = x := ⟨_, rfl⟩
              obtain ⟨w81, e88⟩ : ∃ u, w74.alloc (.cells #[] 39) = u := ⟨_, rfl⟩
              rw [e87] at ho85 zl86
              rw [e88] at hb82 hz83 ho85
              try rw [e87]
              rw [e88]
              clear e87 e88
              first | refine .inl ⟨hb82, ?_⟩ | refine ⟨hb82, ?_⟩
              refine wpAnyH_all (rs := [3]) (by kernel_rfl) (by simp) ?_
              intro i hi
              simp only [List.mem_cons, List.not_mem_nil, or_false] at hi
              subst hi
              refine wpOp_of rfl rfl (wp_app (P := Tryd.prog) (.tmp 51) (.tmp 52) 29 39 rfl i39 _ 3 48 Tryd.underlying29 h390 h391 h392 h393 (by rfl) (by decide) WS.heap.size (.slice (some ⟨z84, 0, none⟩) 0 0) (by rfl) 0 [] ho85 A1 N d1 (by rfl) (ucells us) HUl.out (Lies.of_row (own_below HO4.out hb82)) HU1.out (by omega) (by omega) hb82.size ?_)
              intro A93 c94 w89 ho91 hg92
              rw [Nat.zero_add, List.nil_append] at ho91
              have hb90 := hb82.grown hg92 hb82.size (fun k e => (World.ownsRow.lt ho85 k e).1)
              have hz95 := hz83.grown hg92 (own_ne_blk ho85 hz83 (by decide))
              clear hg92
              refine ⟨hb90, ?_⟩
              simp only [Nat.zero_add]
              try go_simp
              refine wpAnyH_all (rs := [9]) (by kernel_rfl) (by simp) ?_
              intro i hi
              simp only [List.mem_cons, List.not_mem_nil, or_false] at hi
              subst hi
              unfold wpOp
              go_simp
              refine .inl ?_
              go_at_call 13
              refine (KA w89 hb90 A93 c94 ho91).mono ?_
              rintro e w96 ⟨P, nR, pc, hP, PB, nL, pb, rfl, ht99, h98⟩
              have hb97 := below_step hb90 h98
              have hz100 := hz95.below h98
              refine ⟨hb97, ?_⟩
              try go_simp
              refine wpAnyH_take (i := 10) (v := .tuple #[.agg #[.slice P nR pc, .string hP, .slice PB nL pb], .int .i64 E]) rfl (by kernel_rfl) (by kernel_rfl) (by kernel_rfl) (fun c a w h => h) (.inl ⟨by kernel_rfl, fun w' hS => ?_⟩) hb97 ?_
              · go_simp
              try go_simp
              refine wpAnyH_take (i := 11) (v := .agg #[.slice P nR pc, .string hP, .slice PB nL pb]) rfl (by kernel_rfl) (by kernel_rfl) (by kernel_rfl) (fun c a w h => h) (.inl ⟨by kernel_rfl, fun w' hS => ?_⟩) hb97 ?_
              · go_simp
              try go_simp
              refine wpAnyH_take (i := 12) (v := .int .i64 E) rfl (by kernel_rfl) (by kernel_rfl) (by kernel_rfl) (fun c a w h => h) (.inl ⟨by kernel_rfl, fun w' hS => ?_⟩) hb97 ?_
              · go_simp
              try go_simp
              refine wpAnyH_all (rs := [14]) (by kernel_rfl) (by simp) ?_
              intro i hi
              simp only [List.mem_cons, List.not_mem_nil, or_false] at hi
              subst hi
              have r0 := hz100.cell 0
              have f0 := hz100.frozen 0
              have r1 := hz100.cell 1
              have f1 := hz100.frozen 1
              have r2 := hz100.cell 2
              have f2 := hz100.frozen 2
              simp at r0 r1 r2
              unfold wpOp
              go_simp
              have hb102 := put3_below hb97 zl78 (.slice P nR pc) (.string hP) (.slice PB nL pb)
              have hz103 := put3_blk hz100 P PB nR pc nL pb hP
              have ht104 := put3_tbl hz100 P PB nR pc nL pb hP ht99 (by decide) (by decide)
              clear f0 f1 f2 r0 r1 r2
              obtain ⟨w101, e105⟩ : ∃ u, put3 w96 z76 (.slice P nR pc) (.string hP) (.slice PB nL pb) = u := ⟨_, rfl⟩
              rw [e105] at hb102 hz103 ht104
              unfold put3 at e105
              rw [e105]
              clear e105
              first | refine .inl ⟨hb102, ?_⟩ | refine ⟨hb102, ?_⟩
              refine wpAnyH_take (i := 15) (v := .int .i64 E) rfl (by kernel_rfl) (by kernel_rfl) (by kernel_rfl) (fun c a w h => h) (.inl ⟨by kernel_rfl, fun w' hS => ?_⟩) hb102 ?_
              · go_simp
              try go_simp
              refine wpAnyH_done (by kernel_rfl) ?_ _
              go_wp2_with fail
              go_meet
              exact ⟨z76, P, nR, pc, hP, PB, nL, pb, rfl, rfl, hz103, ht104, hb102, zl78⟩
          case rest =>
            rename World => W5
            obtain ⟨Z12, P1, nR1, pc1, hP1, PB1, nL1, pb1, rfl, rfl, hZ12, hT12, hb5, hzl⟩ := hcut
            clear KA GK
            have HY := Lib.hid (HY.out.below hb5)
            have HZ := Lib.hid (HZ.out.below hb5)
            have HX := Lib.hid (HX.out.below hb5)
            have HTA := Lib.hid (HTA.out.below hb5)
            have HRA := Lib.hid (HRA.out.below hb5)
            have HO1 := Lib.hid (own_below HO1.out hb5)
            have HO2 := Lib.hid (own_below HO2.out hb5)
            have HB5 := Lib.hid hb5
            have HB := Lib.hid (below_step HB.out hb5)
            have HT12 := Lib.hid hT12
            have HZ12 := Lib.hid hZ12
            have hz12l := hZ12.lt
            have KR : ∀ ww, Below W5.heap.size W5 ww → Calls Tryd.prog 14 #[.agg #[.slice T' nT' ct', .string hT', .slice U' nU' cu'], .slice A2 N d2, .string hdy] ww fun e w' => ∃ P nR pc hP PB nL pb, e = .returned (.tuple #[.agg #[.slice P nR pc, .string hP, .slice PB nL pb], .int .i64 E]) ∧ RTblAt w' tn (.agg #[.slice P nR pc, .string hP, .slice PB nL pb]) ∧ Below ww.heap.size ww w' := fun ww hw => KR0.out ww (below_step HB5.out hw)
            have GK := Lib.hid (show ∀ ww, Below W5.heap.size W5 ww → ww.cell? ⟨Z, 0, none⟩ = some (.slice T' nT' ct') ∧ ww.cell? ⟨Z, 1, none⟩ = some (.string hT') ∧ ww.cell? ⟨Z, 2, none⟩ = some (.slice U' nU' cu') ∧ ww.cell? ⟨g, o + k * 2 + 1, none⟩ = some (.string hdy) from fun ww hw =>
              ⟨(HZ.out.below hw).cell 0, (HZ.out.below hw).cell 1, (HZ.out.below hw).cell 2, HCK.out _ (below_step HB.out hw)⟩)
            have hs5 := hb5.size
            clear hb5 hT12 hZ12
            go_upto_region 14 with fail
            go_cut [14, 15] from 62 to 72 (fun s14 s15 wx => ∃ Z14 P nR pc hP PB nL pb, s14 = .pointer (some ⟨Z14, 0, none⟩) ∧ s15 = .int .i64 E ∧ Blk wx Z14 #[.slice P nR pc, .string hP, .slice PB nL pb] 45 ∧ RTblAt wx tn (.agg #[.slice P nR pc, .string hP, .slice PB nL pb]) ∧ Below W5.heap.size W5 wx ∧ W5.heap.size ≤ Z14)
            case first =>
              have mixed : Tryd.prog.follows Departure.mixedOrders = true := by kernel_rfl
              refine wp_region_held (S := (fun w' => Below W5.heap.size W5 w')) mixed ?_
              change wpAnyH _ _ _ _ _ _ _ _ W5.drew
              have hb0 : Below W5.heap.size W5 W5.drew := (Below.refl _ W5).drew
              obtain ⟨w0, hw0⟩ : ∃ u, W5.drew = u := ⟨_, rfl⟩
              rw [hw0] at hb0
              rw [hw0]
              clear hw0
              refine wpAnyH_take (i := 0) (v := .agg #[.slice T' nT' ct', .string hT', .slice U' nU' cu']) rfl (by kernel_rfl) (by kernel_rfl) (by kernel_rfl) (fun c a w h => h) (.inl ⟨by kernel_rfl, fun w' hS => ?_⟩) hb0 ?_
              · obtain ⟨q0, q1, q2, q3⟩ := GK.out w' hS; go_simp
              try go_simp
              refine wpAnyH_take (i := 1) (v := .slice A2 N d2) rfl (by kernel_rfl) (by kernel_rfl) (by kernel_rfl) (fun c a w h => h) (.inl ⟨by kernel_rfl, fun w' hS => ?_⟩) hb0 ?_
              · go_simp
              try go_simp
              refine wpAnyH_take (i := 2) (v := .slice (some ⟨g, o, none⟩) n cap) rfl (by kernel_rfl) (by kernel_rfl) (by kernel_rfl) (fun c a w h => h) (.inl ⟨by kernel_rfl, fun w' hS => ?_⟩) hb0 ?_
              · go_simp
              try go_simp
              refine wpAnyH_take (i := 3) (v := .int .i64 k) rfl (by kernel_rfl) (by kernel_rfl) (by kernel_rfl) (fun c a w h => h) (.inl ⟨by kernel_rfl, fun w' hS => ?_⟩) hb0 ?_
              · go_simp
              try go_simp
              refine wpAnyH_take (i := 4) (v := .pointer (some ⟨g, o + k * 2, none⟩)) rfl (by kernel_rfl) (by kernel_rfl) (by kernel_rfl) (fun c a w h => h) (.inl ⟨by kernel_rfl, fun w' hS => ?_⟩) hb0 ?_
              · go_simp
              try go_simp
              refine wpAnyH_take (i := 5) (v := .pointer (some ⟨g, o + k * 2 + 1, none⟩)) rfl (by kernel_rfl) (by kernel_rfl) (by kernel_rfl) (fun c a w h => h) (.inl ⟨by kernel_rfl, fun w' hS => ?_⟩) hb0 ?_
              · go_simp
              try go_simp
              refine wpAnyH_take (i := 6) (v := .string hdy) rfl (by kernel_rfl) (by kernel_rfl) (by kernel_rfl) (fun c a w h => h) (.inl ⟨by kernel_rfl, fun w' hS => ?_⟩) hb0 ?_
              · obtain ⟨q0, q1, q2, q3⟩ := GK.out w' hS; go_simp
              try go_simp
              refine wpAnyH_all (rs := [7, 11]) (by kernel_rfl) (by simp) ?_
              intro i hi
              simp only [List.mem_cons, List.not_mem_nil, or_false] at hi
              rcases hi with rfl | rfl
              · skip
                unfold wpOp
                go_simp
                refine .inl ?_
                go_at_call 14
                refine (KR w0 hb0).mono ?_
                rintro e w106 ⟨P, nR, pc, hP, PB, nL, pb, rfl, ht109, h108⟩
                have hb107 := below_step hb0 h108
                refine ⟨hb107, ?_⟩
                try go_simp
                refine wpAnyH_take (i := 8) (v := .tuple #[.agg #[.slice P nR pc, .string hP, .slice PB nL pb], .int .i64 E]) rfl (by kernel_rfl) (by kernel_rfl) (by kernel_rfl) (fun c a w h => h) (.inl ⟨by kernel_rfl, fun w' hS => ?_⟩) hb107 ?_
                · go_simp
                try go_simp
                refine wpAnyH_take (i := 9) (v := .agg #[.slice P nR pc, .string hP, .slice PB nL pb]) rfl (by kernel_rfl) (by kernel_rfl) (by kernel_rfl) (fun c a w h => h) (.inl ⟨by kernel_rfl, fun w' hS => ?_⟩) hb107 ?_
                · go_simp
                try go_simp
                refine wpAnyH_take (i := 10) (v := .int .i64 E) rfl (by kernel_rfl) (by kernel_rfl) (by kernel_rfl) (fun c a w h => h) (.inl ⟨by kernel_rfl, fun w' hS => ?_⟩) hb107 ?_
                · go_simp
                try go_simp
                refine wpAnyH_all (rs := [11]) (by kernel_rfl) (by simp) ?_
                intro i hi
                simp only [List.mem_cons, List.not_mem_nil, or_false] at hi
                subst hi
                unfold wpOp
                go_simp
                have hb111 : Below W5.heap.size W5 (w106.alloc (.cells #[.slice none 0 0, .string ⟨#[]⟩, .slice none 0 0] 45)) := hb107.alloc hb107.size _
                have ht112 := ht109.below (below_alloc w106 (.cells #[.slice none 0 0, .string ⟨#[]⟩, .slice none 0 0] 45))
                have hz114 := Blk.new w106 #[.slice none 0 0, .string ⟨#[]⟩, .slice none 0 0] 45
                have zl115 : W5.heap.size ≤ w106.heap.size := hb107.size
                obtain ⟨z113, e116⟩ : ∃ x, w106.heap.size = x := ⟨_, rfl⟩
                obtain ⟨w110, e117⟩ : ∃ u, w106.alloc (.cells #[.slice none 0 0, .string ⟨#[]⟩, .slice none 0 0] 45) = u := ⟨_, rfl⟩
                rw [e116] at hz114 zl115
                rw [e117] at hb111 ht112 hz114
                try rw [e116]
                rw [e117]
                clear e116 e117
                first | refine .inl ⟨hb111, ?_⟩ | refine ⟨hb111, ?_⟩
                refine wpAnyH_all (rs := [12]) (by kernel_rfl) (by simp) ?_
                intro i hi
                simp only [List.mem_cons, List.not_mem_nil, or_false] at hi
                subst hi
                have r0 := hz114.cell 0
                have f0 := hz114.frozen 0
                have r1 := hz114.cell 1
                have f1 := hz114.frozen 1
                have r2 := hz114.cell 2
                have f2 := hz114.frozen 2
                simp at r0 r1 r2
                unfold wpOp
                go_simp
                have hb119 := put3_below hb111 zl115 (.slice P nR pc) (.string hP) (.slice PB nL pb)
                have hz120 := put3_blk hz114 P PB nR pc nL pb hP
                have ht121 := put3_rtbl hz114 P PB nR pc nL pb hP ht112
                clear f0 f1 f2 r0 r1 r2
                obtain ⟨w118, e122⟩ : ∃ u, put3 w110 z113 (.slice P nR pc) (.string hP) (.slice PB nL pb) = u := ⟨_, rfl⟩
                rw [e122] at hb119 hz120 ht121
                unfold put3 at e122
                rw [e122]
                clear e122
                first | refine .inl ⟨hb119, ?_⟩ | refine ⟨hb119, ?_⟩
                refine wpAnyH_take (i := 13) (v := .int .i64 E) rfl (by kernel_rfl) (by kernel_rfl) (by kernel_rfl) (fun c a w h => h) (.inl ⟨by kernel_rfl, fun w' hS => ?_⟩) hb119 ?_
                · go_simp
                try go_simp
                refine wpAnyH_done (by kernel_rfl) ?_ _
                go_wp2_with fail
                go_meet
                exact ⟨z113, P, nR, pc, hP, PB, nL, pb, rfl, rfl, hz120, ht121, hb119, zl115⟩
              · skip
                unfold wpOp
                go_simp
                have hb124 : Below W5.heap.size W5 (w0.alloc (.cells #[.slice none 0 0, .string ⟨#[]⟩, .slice none 0 0] 45)) := hb0.alloc hb0.size _
                have hz126 := Blk.new w0 #[.slice none 0 0, .string ⟨#[]⟩, .slice none 0 0] 45
                have zl127 : W5.heap.size ≤ w0.heap.size := hb0.size
                obtain ⟨z125, e128⟩ : ∃ x, w0.heap.size = x := ⟨_, rfl⟩
                obtain ⟨w123, e129⟩ : ∃ u, w0.alloc (.cells #[.slice none 0 0, .string ⟨#[]⟩, .slice none 0 0] 45) = u := ⟨_, rfl⟩
                rw [e128] at hz126 zl127
                rw [e129] at hb124 hz126
                try rw [e128]
                rw [e129]
                clear e128 e129
                first | refine .inl ⟨hb124, ?_⟩ | refine ⟨hb124, ?_⟩
                refine wpAnyH_all (rs := [7]) (by kernel_rfl) (by simp) ?_
                intro i hi
                simp only [List.mem_cons, List.not_mem_nil, or_false] at hi
                subst hi
                unfold wpOp
                go_simp
                refine .inl ?_
                go_at_call 14
                refine (KR w123 hb124).mono ?_
                rintro e w130 ⟨P, nR, pc, hP, PB, nL, pb, rfl, ht133, h132⟩
                have hb131 := below_step hb124 h132
                have hz134 := hz126.below h132
                refine ⟨hb131, ?_⟩
                try go_simp
                refine wpAnyH_take (i := 8) (v := .tuple #[.agg #[.slice P nR pc, .string hP, .slice PB nL pb], .int .i64 E]) rfl (by kernel_rfl) (by kernel_rfl) (by kernel_rfl) (fun c a w h => h) (.inl ⟨by kernel_rfl, fun w' hS => ?_⟩) hb131 ?_
                · go_simp
                try go_simp
                refine wpAnyH_take (i := 9) (v := .agg #[.slice P nR pc, .string hP, .slice PB nL pb]) rfl (by kernel_rfl) (by kernel_rfl) (by kernel_rfl) (fun c a w h => h) (.inl ⟨by kernel_rfl, fun w' hS => ?_⟩) hb131 ?_
                · go_simp
                try go_simp
                refine wpAnyH_take (i := 10) (v := .int .i64 E) rfl (by kernel_rfl) (by kernel_rfl) (by kernel_rfl) (fun c a w h => h) (.inl ⟨by kernel_rfl, fun w' hS => ?_⟩) hb131 ?_
                · go_simp
                try go_simp
                refine wpAnyH_all (rs := [12]) (by kernel_rfl) (by simp) ?_
                intro i hi
                simp only [List.mem_cons, List.not_mem_nil, or_false] at hi
                subst hi
                have r0 := hz134.cell 0
                have f0 := hz134.frozen 0
                have r1 := hz134.cell 1
                have f1 := hz134.frozen 1
                have r2 := hz134.cell 2
                have f2 := hz134.frozen 2
                simp at r0 r1 r2
                unfold wpOp
                go_simp
                have hb136 := put3_below hb131 zl127 (.slice P nR pc) (.string hP) (.slice PB nL pb)
                have hz137 := put3_blk hz134 P PB nR pc nL pb hP
                have ht138 := put3_rtbl hz134 P PB nR pc nL pb hP ht133
                clear f0 f1 f2 r0 r1 r2
                obtain ⟨w135, e139⟩ : ∃ u, put3 w130 z125 (.slice P nR pc) (.string hP) (.slice PB nL pb) = u := ⟨_, rfl⟩
                rw [e139] at hb136 hz137 ht138
                unfold put3 at e139
                rw [e139]
                clear e139
                first | refine .inl ⟨hb136, ?_⟩ | refine ⟨hb136, ?_⟩
                refine wpAnyH_take (i := 13) (v := .int .i64 E) rfl (by kernel_rfl) (by kernel_rfl) (by kernel_rfl) (fun c a w h => h) (.inl ⟨by kernel_rfl, fun w' hS => ?_⟩) hb136 ?_
                · go_simp
                try go_simp
                refine wpAnyH_done (by kernel_rfl) ?_ _
                go_wp2_with fail
                go_meet
                exact ⟨z125, P, nR, pc, hP, PB, nL, pb, rfl, rfl, hz137, ht138, hb136, zl127⟩
            case rest =>
              rename World => W6
              obtain ⟨Z14, P2, nR2, pc2, hP2, PB2, nL2, pb2, rfl, rfl, hZ14, hR14, hb6, hzl2⟩ := hcut
              clear KR GK
              have HY := Lib.hid (HY.out.below hb6)
              have HZ := Lib.hid (HZ.out.below hb6)
              have HX := Lib.hid (HX.out.below hb6)
              have HZ12 := Lib.hid (HZ12.out.below hb6)
              have HT12 := Lib.hid (HT12.out.below hb6)
              have HTA := Lib.hid (HTA.out.below hb6)
              have HRA := Lib.hid (HRA.out.below hb6)
              have HO1 := Lib.hid (own_below HO1.out hb6)
              have HO2 := Lib.hid (own_below HO2.out hb6)
              have HB := Lib.hid (below_step HB.out hb6)
              have HR14 := Lib.hid hR14
              have HZ14 := Lib.hid hZ14
              have hs6 := hb6.size
              have KS1 := same_any tt _ _ W6 HTA.out HRA.out HTG2.out.sorted (by omega) (by omega)
              have x0 := HX.out.cell 0
              have x1 := HX.out.cell 1
              have x2 := HX.out.cell 2
              have z0 := HZ.out.cell 0
              have z1 := HZ.out.cell 1
              have z2 := HZ.out.cell 2
              simp at x0 x1 x2 z0 z1 z2
              clear hb6 hR14 hZ14
              have hwY : w.heap.size ≤ Y := hWs
              have hwZ : w.heap.size ≤ Z := by omega
              by_cases hE0 : E = 0
              · have htn : tn = tt.put us y.head := by rw [← HTN.out]; unfold Tbl.res; rw [if_pos (HE.out.trans hE0)]
                have HTGn : Hid (TG (4 * k + (j + 1)) tn) := Lib.hid (by rw [htn]; exact HTG2.out.put us (by have := HNN.out; omega) _ (HE.out.trans hE0))
                subst hE0
                clear htn
                go_upto_region 18 with (go_at_call 15; refine KS1.mono ?_; rintro e W7 ⟨rfl, hb7⟩)
                have HY := Lib.hid (HY.out.below hb7)
                have HZ := Lib.hid (HZ.out.below hb7)
                have HZ12 := Lib.hid (HZ12.out.below hb7)
                have HZ14 := Lib.hid (HZ14.out.below hb7)
                have HT12 := Lib.hid (HT12.out.below hb7)
                have HR14 := Lib.hid (HR14.out.below hb7)
                have HO1 := Lib.hid (own_below HO1.out hb7)
                have HO2 := Lib.hid (own_below HO2.out hb7)
                have HB := Lib.hid (below_step HB.out hb7)
                clear x0 x1 x2 z0 z1 z2 KS1 hb7
                have mixed : Tryd.prog.follows Departure.mixedOrders = true := by kernel_rfl
                refine wp_region_held (S := (fun w' => Blk w' Z12 #[.slice P1 nR1 pc1, .string hP1, .slice PB1 nL1 pb1] 31 ∧ Blk w' Z14 #[.slice P2 nR2 pc2, .string hP2, .slice PB2 nL2 pb2] 45)) mixed ?_
                change wpAnyH _ _ _ _ _ _ _ _ W7.drew
                have hS0 : Blk W7.drew Z12 #[.slice P1 nR1 pc1, .string hP1, .slice PB1 nL1 pb1] 31 ∧ Blk W7.drew Z14 #[.slice P2 nR2 pc2, .string hP2, .slice PB2 nL2 pb2] 45 := ⟨HZ12.out, HZ14.out⟩
                have hY7 : Blk W7.drew Y #[.slice T nT ct, .string hT, .slice U nU cu] 31 := HY.out
                have hZ7 : Blk W7.drew Z #[.slice T' nT' ct', .string hT', .slice U' nU' cu'] 45 := HZ.out
                have hT7 : TblAt W7.drew tn (.agg #[.slice P1 nR1 pc1, .string hP1, .slice PB1 nL1 pb1]) := HT12.out.kept (fun _ _ _ _ _ _ => rfl) (Nat.le_refl _)
                have hR7 : RTblAt W7.drew tn (.agg #[.slice P2 nR2 pc2, .string hP2, .slice PB2 nL2 pb2]) := HR14.out
                have hA7 : W7.drew.ownsRow w.heap.size 39 3 (.slice A1 N d1) N (ucells us) := HO1.out
                have hC7 : W7.drew.ownsRow w.heap.size 66 3 (.slice A2 N d2) N (ucells us) := HO2.out
                have hB7 : Below w.heap.size w W7.drew := HB.out.drew
                obtain ⟨W8, hW8⟩ : ∃ u, W7.drew = u := ⟨_, rfl⟩
                rw [hW8] at hS0 hY7 hZ7 hT7 hR7 hA7 hC7 hB7
                rw [hW8]
                clear hW8
                refine wpAnyH_take (i := 0) (v := .agg #[.slice P1 nR1 pc1, .string hP1, .slice PB1 nL1 pb1]) rfl (by kernel_rfl) (by kernel_rfl) (by kernel_rfl) (fun c a w h => h) (.inl ⟨by kernel_rfl, fun w' hS => ?_⟩) hS0 ?_
                · have q0 := hS.1.cell 0; have q1 := hS.1.cell 1; have q2 := hS.1.cell 2; simp at q0 q1 q2; go_simp
                try go_simp
                refine wpAnyH_take (i := 1) (v := .agg #[.slice P2 nR2 pc2, .string hP2, .slice PB2 nL2 pb2]) rfl (by kernel_rfl) (by kernel_rfl) (by kernel_rfl) (fun c a w h => h) (.inl ⟨by kernel_rfl, fun w' hS => ?_⟩) hS0 ?_
                · have q0 := hS.2.cell 0; have q1 := hS.2.cell 1; have q2 := hS.2.cell 2; simp at q0 q1 q2; go_simp
                try go_simp
                refine wpAnyH_all (rs := [2]) (by kernel_rfl) (by simp) ?_
                intro i hi
                simp only [List.mem_cons, List.not_mem_nil, or_false] at hi
                subst hi
                have r0 := hY7.cell 0
                have f0 := hY7.frozen 0
                have r1 := hY7.cell 1
                have f1 := hY7.frozen 1
                have r2 := hY7.cell 2
                have f2 := hY7.frozen 2
                simp at r0 r1 r2
                unfold wpOp
                go_simp
                clear f0 f1 f2 r0 r1 r2
                have hS1 : Blk (put3 W8 Y (.slice P1 nR1 pc1) (.string hP1) (.slice PB1 nL1 pb1)) Z12 #[.slice P1 nR1 pc1, .string hP1, .slice PB1 nL1 pb1] 31 ∧ Blk (put3 W8 Y (.slice P1 nR1 pc1) (.string hP1) (.slice PB1 nL1 pb1)) Z14 #[.slice P2 nR2 pc2, .string hP2, .slice PB2 nL2 pb2] 45 := ⟨put3_other hS0.1 (by omega) _ _ _, put3_other hS0.2 (by omega) _ _ _⟩
                have hY8 := put3_blk hY7 P1 PB1 nR1 pc1 nL1 pb1 hP1
                have hZ8 := put3_other hZ7 (X := Y) (by omega) (.slice P1 nR1 pc1) (.string hP1) (.slice PB1 nL1 pb1)
                have hT8 := put3_tbl hY7 P1 PB1 nR1 pc1 nL1 pb1 hP1 hT7 (by decide) (by decide)
                have hR8 := put3_rtbl hY7 P1 PB1 nR1 pc1 nL1 pb1 hP1 hR7
                have hA8 : (put3 W8 Y (.slice P1 nR1 pc1) (.string hP1) (.slice PB1 nL1 pb1)).ownsRow w.heap.size 39 3 (.slice A1 N d1) N (ucells us) := own_set3 hA7 hY7 (by decide) (.slice P1 nR1 pc1) (.string hP1) (.slice PB1 nL1 pb1)
                have hC8 : (put3 W8 Y (.slice P1 nR1 pc1) (.string hP1) (.slice PB1 nL1 pb1)).ownsRow w.heap.size 66 3 (.slice A2 N d2) N (ucells us) := own_set3 hC7 hY7 (by decide) (.slice P1 nR1 pc1) (.string hP1) (.slice PB1 nL1 pb1)
                have hB8 := put3_below hB7 hwY (.slice P1 nR1 pc1) (.string hP1) (.slice PB1 nL1 pb1)
                obtain ⟨W9, hW9⟩ : ∃ u, put3 W8 Y (.slice P1 nR1 pc1) (.string hP1) (.slice PB1 nL1 pb1) = u := ⟨_, rfl⟩
                rw [hW9] at hS1 hY8 hZ8 hT8 hR8 hA8 hC8 hB8
                unfold put3 at hW9
                rw [hW9]
                clear hW9
                first | refine .inl ⟨hS1, ?_⟩ | refine ⟨hS1, ?_⟩
                refine wpAnyH_all (rs := [3]) (by kernel_rfl) (by simp) ?_
                intro i hi
                simp only [List.mem_cons, List.not_mem_nil, or_false] at hi
                subst hi
                have r0 := hZ8.cell 0
                have f0 := hZ8.frozen 0
                have r1 := hZ8.cell 1
                have f1 := hZ8.frozen 1
                have r2 := hZ8.cell 2
                have f2 := hZ8.frozen 2
                simp at r0 r1 r2
                unfold wpOp
                go_simp
                clear f0 f1 f2 r0 r1 r2
                have hS2 : Blk (put3 W9 Z (.slice P2 nR2 pc2) (.string hP2) (.slice PB2 nL2 pb2)) Z12 #[.slice P1 nR1 pc1, .string hP1, .slice PB1 nL1 pb1] 31 ∧ Blk (put3 W9 Z (.slice P2 nR2 pc2) (.string hP2) (.slice PB2 nL2 pb2)) Z14 #[.slice P2 nR2 pc2, .string hP2, .slice PB2 nL2 pb2] 45 := ⟨put3_other hS1.1 (by omega) _ _ _, put3_other hS1.2 (by omega) _ _ _⟩
                have hY9 := put3_other hY8 (X := Z) (by omega) (.slice P2 nR2 pc2) (.string hP2) (.slice PB2 nL2 pb2)
                have hZ9 := put3_blk hZ8 P2 PB2 nR2 pc2 nL2 pb2 hP2
                have hT9 := put3_tbl hZ8 P2 PB2 nR2 pc2 nL2 pb2 hP2 hT8 (by decide) (by decide)
                have hR9 := put3_rtbl hZ8 P2 PB2 nR2 pc2 nL2 pb2 hP2 hR8
                have hA9 : (put3 W9 Z (.slice P2 nR2 pc2) (.string hP2) (.slice PB2 nL2 pb2)).ownsRow w.heap.size 39 3 (.slice A1 N d1) N (ucells us) := own_set3 hA8 hZ8 (by decide) (.slice P2 nR2 pc2) (.string hP2) (.slice PB2 nL2 pb2)
                have hC9 : (put3 W9 Z (.slice P2 nR2 pc2) (.string hP2) (.slice PB2 nL2 pb2)).ownsRow w.heap.size 66 3 (.slice A2 N d2) N (ucells us) := own_set3 hC8 hZ8 (by decide) (.slice P2 nR2 pc2) (.string hP2) (.slice PB2 nL2 pb2)
                have hB9 := put3_below hB8 hwZ (.slice P2 nR2 pc2) (.string hP2) (.slice PB2 nL2 pb2)
                obtain ⟨WA, hWA⟩ : ∃ u, put3 W9 Z (.slice P2 nR2 pc2) (.string hP2) (.slice PB2 nL2 pb2) = u := ⟨_, rfl⟩
                rw [hWA] at hS2 hY9 hZ9 hT9 hR9 hA9 hC9 hB9
                unfold put3 at hWA
                rw [hWA]
                clear hWA
                first | refine .inl ⟨hS2, ?_⟩ | refine ⟨hS2, ?_⟩
                refine wpAnyH_done (by kernel_rfl) ?_ _
                have HFIN := Lib.hid (show SI Y Z tn WA from ⟨_, _, _, _, _, _, _, _, _, _, _, _, _, _, hY9, hZ9, hT9, hR9⟩)
                have HFA := Lib.hid hA9
                have HFC := Lib.hid hC9
                have HFB := Lib.hid hB9
                clear hS0 hS1 hS2 hY7 hZ7 hT7 hR7 hA7 hC7 hB7 hY8 hZ8 hT8 hR8 hA8 hC8 hB8 hY9 hZ9 hT9 hR9 hA9 hC9 hB9
                go_wp2
                go_roundw
                case rel => exact ⟨j + 1, tn, by omega, by go_num, HFIN.out, HTGn.out, HFA.out, HFC.out, HFB.out⟩
                case measure => simp [intOf]; omega
              · have htn : tn = ⟨[], [], []⟩ := by rw [← HTN.out]; unfold Tbl.res; rw [if_neg (fun e => hE0 (HE.out.symm.trans e))]
                have KS2 : ∀ ww, Below W6.heap.size W6 ww → Calls Tryd.prog 15 #[.agg #[.slice P1 nR1 pc1, .string hP1, .slice PB1 nL1 pb1], .agg #[.slice none 0 0, .string ⟨#[]⟩, .slice none 0 0]] ww fun e w' => e = .returned (.bool true) ∧ Below ww.heap.size ww w' := fun ww hw =>
                  same_any ⟨[], [], []⟩ _ _ ww (htn ▸ HT12.out.below hw) (rt_none ww) List.Pairwise.nil (by simp) (by simp)
                have HSIn := Lib.hid (show SI Y Z tt W6 from ⟨_, _, _, _, _, _, _, _, _, _, _, _, _, _, HY.out, HZ.out, HTA.out, HRA.out⟩)
                have hne : (E == 0) = false := beq_eq_false_iff_ne.2 hE0
                have hne1 : (E != 0) = true := by simp [hE0]
                clear htn
                go_upto_region 17 with (first
                  | (go_at_call 15; with_reducible refine KS1.mono ?_; rintro e W7 ⟨rfl, hb7⟩; have p0 := (HZ12.out.below hb7).cell 0; have p1 := (HZ12.out.below hb7).cell 1; have p2 := (HZ12.out.below hb7).cell 2; simp at p0 p1 p2)
                  | (go_at_call 15; with_reducible refine (KS2 _ hb7).mono ?_; rintro e W8 ⟨rfl, hb8⟩))
                have hb8' := below_step hb7 hb8
                have HSIn := Lib.hid (HSIn.out.below hb8')
                have HO1 := Lib.hid (own_below HO1.out hb8')
                have HO2 := Lib.hid (own_below HO2.out hb8')
                have HB := Lib.hid (below_step HB.out hb8')
                have HTGn : Hid (TG (4 * k + (j + 1)) tt) := Lib.hid (HTG2.out.mono (by omega))
                clear x0 x1 x2 z0 z1 z2 KS1 KS2 hb7 hb8 hb8' p0 p1 p2
                go_wp2
                go_roundw
                case rel => exact ⟨j + 1, tt, by omega, by go_num, HSIn.out, HTGn.out, HO1.out, HO2.out, HB.out⟩
                case measure => simp [intOf]; omega
        · rename World => wA
          have hTGn : TG (4 * (k + 1)) tt := hTG.mono (by omega)
          have hsz := hTGn.sizes (by omega)
          have hrl : tt.refs.length ≤ 1440 := by have := hTGn.len; omega
          have hll : tt.log.length ≤ 256 := hTGn.logl
          have HTGn := Lib.hid hTGn
          obtain ⟨T, nT, ct, hT, U, nU, cu, T', nT', ct', hT', U', nU', cu', hY, hZ, hTA, hRA⟩ := hSI
          have KE := encode_any tt _ wA hTA (by omega) (by omega) (by omega)
          have KD : ∀ ww, Below wA.heap.size wA ww → Calls Tryd.prog 17 #[.string (mk (encB tt))] ww fun e w' => ∃ v, e = .returned (.tuple #[v, .int .i64 0]) ∧ TblAt w' tt v ∧ Below ww.heap.size ww w' := fun ww hw => decode_ok tt (4 * (k + 1)) HTGn.out (by omega) m ww (GA.out _ (below_step HB.out hw)).1
          have KQ0 := Lib.hid (show ∀ ww, Below wA.heap.size wA ww → Calls Tryd.prog 18 #[.agg #[.slice T' nT' ct', .string hT', .slice U' nU' cu']] ww fun e w' => e = .returned (.string (mk (encB tt))) ∧ Below ww.heap.size ww w' from fun ww hw => rencode_any tt _ ww (hRA.below hw) (by omega) (by omega) (by omega))
          obtain ⟨SE, hSE⟩ : ∃ s, mk (encB tt) = s := ⟨_, rfl⟩
          rw [hSE] at KE KD KQ0
          have y0 := hY.cell 0
          have y1 := hY.cell 1
          have y2 := hY.cell 2
          simp at y0 y1 y2
          have HY := Lib.hid hY
          have HZ := Lib.hid hZ
          have HTA := Lib.hid hTA
          have HRA := Lib.hid hRA
          clear hSE hsz hY hZ hTA hRA hTG hTGn hb ho1 ho2
          have j0 : (0 : Int) ≤ (j : Int) := by omega
          have j1 : ¬ ((j : Int) < 1 + (q : Int)) := by omega
          go_upto_region 20 with (go_at_call 16; refine KE.mono ?_; rintro e w5 ⟨rfl, hb5⟩)
          go_upto_region 21 with (go_at_call 17; refine (KD _ hb5).mono ?_; rintro e w6 ⟨v, rfl, hT6, hb6⟩; obtain ⟨P, nR, pc, hP, PB, nL, pb, rfl⟩ := hT6.form)
          have hb6' := below_step hb5 hb6
          have hb7 := hb6'.alloc hb6'.size (.cells #[.slice P nR pc, .string hP, .slice PB nL pb] 31)
          have hT7 := hT6.below (below_alloc w6 (.cells #[.slice P nR pc, .string hP, .slice PB nL pb] 31))
          have hV7 := Blk.new w6 #[.slice P nR pc, .string hP, .slice PB nL pb] 31
          obtain ⟨V, hV⟩ : ∃ V, w6.heap.size = V := ⟨_, rfl⟩
          obtain ⟨W7, hW7⟩ : ∃ u, w6.alloc (.cells #[.slice P nR pc, .string hP, .slice PB nL pb] 31) = u := ⟨_, rfl⟩
          rw [hW7] at hb7 hT7 hV7 ⊢
          rw [hV] at hV7 ⊢
          have HY7 := Lib.hid (HY.out.below hb7)
          have HZ7 := Lib.hid (HZ.out.below hb7)
          have HV7 := Lib.hid hV7
          have KS1 := same_any tt _ _ W7 (HTA.out.below hb7) (HRA.out.below hb7) HTGn.out.sorted (by omega) (by omega)
          have KQ : ∀ ww, Below W7.heap.size W7 ww → Calls Tryd.prog 18 #[.agg #[.slice T' nT' ct', .string hT', .slice U' nU' cu']] ww fun e w' => e = .returned (.string SE) ∧ Below ww.heap.size ww w' := fun ww hw => KQ0.out ww (below_step hb7 hw)
          have HB7 := Lib.hid hb7
          have HT7 := Lib.hid hT7
          have KS3 : ∀ ww, Below W7.heap.size W7 ww → Calls Tryd.prog 15 #[.agg #[.slice P nR pc, .string hP, .slice PB nL pb], .agg #[.slice T' nT' ct', .string hT', .slice U' nU' cu']] ww fun e w' => e = .returned (.bool true) ∧ Below ww.heap.size ww w' := fun ww hw => same_any tt _ _ ww (HT7.out.below hw) (HRA.out.below (below_step HB7.out hw)) HTGn.out.sorted (by omega) (by omega)
          have y0 := HY7.out.cell 0
          have y1 := HY7.out.cell 1
          have y2 := HY7.out.cell 2
          have z0 := HZ7.out.cell 0
          have z1 := HZ7.out.cell 1
          have z2 := HZ7.out.cell 2
          simp at y0 y1 y2 z0 z1 z2
          clear hb5 hb6 hb6' hb7 hT6 hT7 hV7 hV hW7 KE KD
          go_upto_region 7 with (first
            | (go_at_call 15; with_reducible refine KS1.mono ?_; rintro e w8 ⟨rfl, hb8⟩; have z0' := (HZ7.out.below hb8).cell 0; have z1' := (HZ7.out.below hb8).cell 1; have z2' := (HZ7.out.below hb8).cell 2; simp at z0' z1' z2')
            | (go_at_call 18; with_reducible refine (KQ _ hb8).mono ?_; rintro e w9 ⟨rfl, hb9⟩; have hb89 := below_step hb8 hb9; have z0'' := (HZ7.out.below hb89).cell 0; have z1'' := (HZ7.out.below hb89).cell 1; have z2'' := (HZ7.out.below hb89).cell 2; have v0 := (HV7.out.below hb89).cell 0; have v1 := (HV7.out.below hb89).cell 1; have v2 := (HV7.out.below hb89).cell 2; simp at z0'' z1'' z2'' v0 v1 v2)
            | (go_at_call 15; with_reducible refine (KS3 _ hb89).mono ?_; rintro e w10 ⟨rfl, hb10⟩))
          have hbA := below_step HB7.out (below_step hb89 hb10)
          have HSIn := Lib.hid (show SI Y Z tt w10 from SI.below ⟨_, _, _, _, _, _, _, _, _, _, _, _, _, _, HY.out, HZ.out, HTA.out, HRA.out⟩ hbA)
          have HB := Lib.hid (below_step HB.out hbA)
          clear hb8 hb9 hb89 hb10 hbA KS1 KQ KS3 y0 y1 y2 z0 z1 z2 z0' z1' z2' z0'' z1'' z2'' v0 v1 v2
          go_wp2
          go_roundw
          case rel => exact ⟨k + 1, tt, by omega, by omega, by go_num, HSIn.out, HTGn.out, HB.out⟩
          case measure => simp [intOf]; omega
    · rename World => wA
      have HB := Lib.hid hb
      clear hb hSI hTG
      have k0 : (0 : Int) ≤ (k : Int) := by omega
      by_cases hkn : k < n
      · have k2 : ¬ ((k : Int) < 30) := by omega
        have k1 : (k : Int) < (n : Int) := by omega
        clear h hkn
        go_wp2
        go_ret
        exact ⟨rfl, HB.out⟩
      · have k1 : ¬ ((k : Int) < (n : Int)) := by omega
        clear h hkn
        go_wp2
        go_ret
        exact ⟨rfl, HB.out⟩
end Go.Proofs.YtlkfnhcnfjdgbaaDoor
