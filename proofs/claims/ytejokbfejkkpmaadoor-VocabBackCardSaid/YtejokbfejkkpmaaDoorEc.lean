/- vocab.(*Index).Encode, walked. -/
import Derived.Test.YtejokbfejkkpmaaDoorSu
import Derived.Test.YtejokbfejkkpmaaDoorIx
import Derived.Test.YtejokbfejkkpmaaDoorRs
namespace Go.Proofs.YtejokbfejkkpmaaDoor
open Go.RowKit Go.Maps Go.WideMaps
theorem Idx.kept {B b k : Nat} {ts : List Bs} {made : Bool} {w w' : World} (h : Idx B b ts made k w) (hg : w.grownBy w' none) : Idx B b ts made k w' := by
  obtain ⟨A, cap, c4, c5, hBb, hb, he, hne, hm⟩ := h
  refine ⟨A, cap, c4, c5, hBb, hb.kept hg (by simp), ?_, hne, fun hmm => ?_⟩
  · refine ⟨fun h0 => ?_, he.2⟩
    obtain ⟨g, rfl, hl, hc⟩ := he.1 h0
    have e := hg.block g hl (by simp)
    exact ⟨g, rfl, Nat.lt_of_lt_of_le hl hg.size, fun j hj => ⟨(World.cell?_of_block (a := ⟨g, j * 2, none⟩) e).trans (hc j hj).1, (World.cell?_of_block (a := ⟨g, j * 2 + 1, none⟩) e).trans (hc j hj).2⟩⟩
  · obtain ⟨bi, bt, e4, e5, h4, h5, hi, ht⟩ := hm hmm
    exact ⟨bi, bt, e4, e5, h4, h5, hi.kept hg (by simp), ht.kept hg (by simp)⟩
theorem Idx.below {B b k : Nat} {ts : List Bs} {made : Bool} {w w' : World} (h : Idx B b ts made k w) (hb : Below w.heap.size w w') : Idx B b ts made k w' :=
  h.kept ⟨hb.os, hb.tape, hb.output, hb.size, fun k hk _ => hb.block k hk⟩
theorem Idx.lt {B b k : Nat} {ts : List Bs} {made : Bool} {w : World} (h : Idx B b ts made k w) : B ≤ b ∧ b < w.heap.size := by
  obtain ⟨A, cap, c4, c5, hBb, hb, _⟩ := h
  exact ⟨hBb, hb.lt⟩
theorem fin_flat {f : Tx × Tx → Option Nat} {P T : List Tx} (h : Fin2 f P T) (hne : NE P) : T.flatten = P.flatten ∧ NE T := by
  induction h with
  | done h => exact ⟨rfl, hne⟩
  | step r A C hb hf h ih =>
    obtain ⟨h1, h2⟩ := ih (scan_ne _ _ _ hne)
    exact ⟨by rw [h1, scan_flat], h2⟩
theorem fin_length {f : Tx × Tx → Option Nat} {wd : Bs} {T : List Tx} (h : Fin2 f (singles wd) T) : T.length ≤ wd.length ∧ T.flatten = wd := by
  obtain ⟨h1, h2⟩ := fin_flat h (singles_ne wd)
  rw [singles_flat] at h1
  refine ⟨?_, h1⟩
  have := ne_length h2
  rw [h1] at this; exact this
theorem grown_on {w w1 w2 : World} {row : Option Nat} (h : w.grownBy w1 row) (k : Below w1.heap.size w1 w2) : w.grownBy w2 row :=
  ⟨k.os.trans h.os, k.tape.trans h.tape, k.output.trans h.output, Nat.le_trans h.size k.size, fun i hi hne => (k.block i (Nat.lt_of_lt_of_le hi h.size)).trans (h.block i hi hne)⟩
theorem ret_t {v : Value} {a b : Bool} (h : a = b) : Ending.returned (.tuple #[v, .bool a]) = .returned (.tuple #[v, .bool b]) := by rw [h]
/-- The numbers of parts. -/
def idsOf (ts : List Bs) (T : List Tx) : List Int := T.map fun t => (((idsL 0 ts t).getD 0 : Nat) : Int)
def allIn (ts : List Bs) (T : List Tx) : Bool := T.all fun t => (idsL 0 ts t).isSome
def EncOut (B b k : Nat) (l : List Pr) (ts : List Bs) (wd : Bs) (w : World) (e : Ending) (w' : World) : Prop :=
  ∃ T v, Fin2 (rkL 0 l) (singles wd) T ∧ e = .returned (.tuple #[v, .bool (allIn ts T)]) ∧ (if allIn ts T then w'.ownsRow w.heap.size 3 1 v T.length (icells (idsOf ts T)) else v = .slice none 0 0) ∧ Idx B b ts true (k + 1) w' ∧ w.grownBy w' (some b)
theorem info3e : (Tryd.prog.info? 3).map (fun i => (i.zero, i.size, i.bytes)) = some (some (.int .i64 0), 1, 8) := by kernel_rfl
set_option maxRecDepth 100000 in
set_option maxHeartbeats 4000000 in
theorem encode_any (B b : Nat) (ts : List Bs) (made : Bool) (k : Nat) (A : Option Addr) (n cap : Nat) (l : List Pr) (wd : Bs) (w : World) (h : Idx B b ts made k w) (hl : ts.length ≤ 1000) (hk : k ≤ 1000) (hB : B ≤ w.heap.size)
    (hp : ∀ w', w.grownBy w' (some b) → PairArg w' A n l) (hn : n ≤ 1000) (hwd : wd.length ≤ 4096) :
    Calls Tryd.prog 15 #[.pointer (some ⟨b, 0, none⟩), .slice A n cap, .string (mk wd)] w (EncOut B b k l ts wd w) := by
  obtain ⟨i3, hi3, hz0, hz1, hz2⟩ := info_parts info3e
  have KR := ready_any B b ts made k w h hl hk hB
  have hws := mk_size wd
  have d0 : decide ((4096 : Int) < (wd.length : Int)) = false := by simp; omega
  have hnot : ∀ (x : Bool) (w : World), (Op.unary .not (.bool x)).run Tryd.prog w = .ok (.bool (!x)) w := fun _ _ => rfl
  have HP := Lib.hid hp
  have HLT := Lib.hid h.lt
  clear h hp
  go_enter Tryd.func15, Tryd.ntmps15
  go_wp2_with (go_at_call 29; refine KR.mono ?_; rintro e w1 ⟨rfl, hi1, hg1⟩)
  have hpa := HP.out w1 hg1
  have KS := split_any A n cap l wd w1 hpa hn hwd
  have HI1 := Lib.hid hi1
  have HG1 := Lib.hid hg1
  clear KR hi1 hg1 hpa
  go_wp2_with (go_at_call 30; (with_reducible refine KS.mono ?_); rintro e w2 ⟨v, T, rfl, ho2, hF, hb2⟩; obtain ⟨A2, c2, rfl⟩ := own_form ho2; obtain ⟨N, hN⟩ : ∃ N, T.length = N := ⟨_, rfl⟩; rw [hN]; have HNN := Lib.hid hN; have HO2 := Lib.hid ho2; have HF := Lib.hid hF; have HB2 := Lib.hid hb2; clear KS ho2 hF hb2 hN)
  have hTl := (fin_length HF.out).1
  rw [HNN.out] at hTl
  have HI2 := Lib.hid (HI1.out.below HB2.out)
  go_loopw [8, 25] (fun out iv wr => ∃ i : Nat, i ≤ N ∧ iv = .int .i64 i ∧ allIn ts (T.take i) = true ∧ wr.ownsRow w2.heap.size 3 1 out i (icells (idsOf ts (T.take i))) ∧ Below w2.heap.size w2 wr) (fun _ iv _ => N - (intOf iv).toNat)
  case atStart => exact ⟨0, Nat.zero_le _, rfl, rfl, World.ownsRow_nil _ _ _ _, Below.refl _ _⟩
  case round =>
    obtain ⟨i, hi, rfl, hall, hown, hbl⟩ := hrel
    have i0 : (0 : Int) ≤ (i : Int) := by omega
    have i1 : (i : Int) ≤ 4096 := by omega
    rcases Nat.lt_or_ge i N with hlt | hge
    · have i2 : (i : Int) < (N : Int) := by omega
      have hTi : i < T.length := by rw [HNN.out]; exact hlt
      have hx : T[i]? = some T[i] := by simp [hTi]
      have ho' := own_bel HO2.out (fun g hg => (HO2.out.lt g hg).2) hbl
      obtain ⟨g, cg, hv, hcx, _, _⟩ := row_at ho' (tcells_at T i _ hx)
      rw [HNN.out] at hv
      injection hv with hA _ hc
      subst hA
      subst hc
      have htk : T.take (i + 1) = T.take i ++ [T[i]] := List.take_succ_eq_append_getElem hTi
      have hxm : T[i] ∈ T := List.getElem_mem hTi
      have hxs := part_flat hx
      rw [(fin_length HF.out).2] at hxs
      obtain ⟨x, hxx⟩ : ∃ x, T[i] = x := ⟨_, rfl⟩
      rw [hxx] at hcx htk hxm hxs
      obtain ⟨AE, cE, c4, c5, hBb, hbk, hen, hne, hm⟩ := HI2.out.below hbl
      obtain ⟨bi, bt, rfl, rfl, h4, h5, hid, htm⟩ := hm rfl
      have e4 := hbk.cell 4
      simp at e4
      have hlk := hid.look (mk x) (by rw [mk_size]; unfold maxLen; omega)
      rw [mk_data] at hlk
      have HTK := Lib.hid htk
      have HALL := Lib.hid hall
      obtain ⟨X, hX⟩ : ∃ X, mk x = X := ⟨_, rfl⟩
      rw [hX] at hcx hlk
      cases hs : idsL 0 ts x with
      | none =>
        rw [hs] at hlk
        simp only [Option.getD_none, Option.isSome_none] at hlk
        have hfa : Hid (allIn ts T = false) := Lib.hid (by
          unfold allIn
          rw [List.all_eq_false]
          exact ⟨x, hxm, by rw [hs]; simp⟩)
        clear ho' hx htk hxm hxs hxx hbk hen hne hm hid htm hall hown hX hs
        go_wp2
        go_ret2
        exact ⟨T, _, HF.out, ret_t hfa.out.symm, by rw [hfa.out]; rfl, HI2.out.below hbl, grown_on (grown_on HG1.out HB2.out) hbl⟩
      | some q =>
        rw [hs] at hlk
        simp only [Option.getD_some, Option.isSome_some] at hlk
        have hstep : Hid (allIn ts (T.take (i + 1)) = true ∧ icells (idsOf ts (T.take (i + 1))) = icells (idsOf ts (T.take i)) ++ [.int .i64 (q : Int)]) := Lib.hid (by
          rw [HTK.out]
          constructor
          · have h1 := HALL.out
            unfold allIn at h1 ⊢
            rw [List.all_append, h1]; simp [hs]
          · simp [icells, idsOf, hs])
        have HOWN := Lib.hid hown
        have hsz2 : w2.heap.size ≤ wr.heap.size := hbl.size
        have HBL := Lib.hid hbl
        clear ho' hx htk hxm hxs hxx hbk hen hne hm hid htm hall hown hX hs hbl
        go_wp2_with (at_builtin; refine wpList_append_own _ rfl _ _ 34 rfl w2.heap.size 3 i3 _ 1 8 Tryd.underlying34 hi3 hz0 hz1 hz2 rfl (by decide) _ _ _ rfl (HOWN.out.alloc _) ⟨wr.heap.size, 0, none⟩ 1 1 [.int .i64 (q : Int)] rfl rfl ?c1 ?c2 ?c3 ?c4 ?c5 ?_)
        case c2 => rfl
        case c3 => unfold maxLen; omega
        case c4 => omega
        case c5 => first | omega | (simp; omega)
        intro v' w3 hown3 hg3 _
        have hb3 := (HBL.out.alloc hsz2 (.cells #[.int .i64 (q : Int)] 3)).grown hg3 (by simp; omega) (fun j e => (HOWN.out.lt j e).1)
        clear hg3
        go_wp2_with fail
        go_roundw
        case rel => exact ⟨i + 1, by omega, by go_num, hstep.out.1, by rw [hstep.out.2]; exact hown3, hb3⟩
        case measure => simp [intOf]; omega
    · obtain rfl : i = N := by omega
      have hend : Hid (allIn ts T = true ∧ wr.ownsRow w2.heap.size 3 1 u8 T.length (icells (idsOf ts T))) := Lib.hid (by
        have e : T.take i = T := by rw [← HNN.out, List.take_length]
        rw [e] at hall hown
        rw [HNN.out]
        exact ⟨hall, hown⟩)
      clear hall hown
      go_wp2
      go_ret2
      refine ⟨T, _, HF.out, ret_t hend.out.1.symm, ?_, HI2.out.below hbl, grown_on (grown_on HG1.out HB2.out) hbl⟩
      rw [if_pos hend.out.1]
      exact own_base hend.out.2 (by have := HG1.out.size; have := HB2.out.size; omega)
end Go.Proofs.YtejokbfejkkpmaaDoor
