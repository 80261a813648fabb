/- strings.Builder's WriteString, walked (the lines are the worked walk's of the kit's shelf, turned to this program's numbers). -/
import Derived.Test.YtejokbfejkkpmaaDoorIx
import Derived.Lib.Builder
import Derived.Lib.AppendStr
import Derived.Laws.Externs
import Derived.Test.YtejokbfejkkpmaaDoorShelf
import Derived.Deep.RegionHeld3
namespace Go.Proofs.YtejokbfejkkpmaaDoor
open Go.RowKit Go.Maps Go.WideMaps
theorem size93 : (Tryd.prog.info? 93).map (·.size) = some 2 := by kernel_rfl
set_option maxHeartbeats 1000000 in
set_option maxRecDepth 100000 in
theorem check_used (b : Nat) (w : World) (h0 : w.cell? ⟨b, 0, none⟩ = some (.pointer (some ⟨b, 0, none⟩))) :
    Calls Tryd.prog 49 #[.pointer (some ⟨b, 0, none⟩)] w fun e w' => e = .returned (.tuple #[]) ∧ w' = w := by
  obtain ⟨j, hj, _⟩ := Option.map_eq_some_iff.1 size93
  go_enter Tryd.func49, Tryd.ntmps49
  go_wp2
  rw [Lib.run_neq_ptr_same w _ Tryd.underlying91 hj]
  go_wp2
  go_end0
  exact ⟨rfl, rfl⟩
set_option maxHeartbeats 1000000 in
set_option maxRecDepth 100000 in
theorem check_fresh (b : Nat) (w : World) (h0 : w.cell? ⟨b, 0, none⟩ = some (.pointer none)) (hsh : w.shape? b = some (93, 2)) (hfz : w.frozen? ⟨b, 0, none⟩ = false) :
    Calls Tryd.prog 49 #[.pointer (some ⟨b, 0, none⟩)] w fun e w' => e = .returned (.tuple #[]) ∧ w' = w.setCell ⟨b, 0, none⟩ (.pointer (some ⟨b, 0, none⟩)) := by
  obtain ⟨j, hj, hjs⟩ := Option.map_eq_some_iff.1 size93
  go_enter Tryd.func49, Tryd.ntmps49
  go_wp2
  rw [Lib.run_to_unsafe w ⟨b, 0, none⟩ Tryd.underlying91 Tryd.underlying133 hj (by rw [hjs]; decide) hsh (Nat.zero_lt_succ 1)]
  simp only [Result.andThen]
  rw [Oper.upon_value]
  go_wp2
  rw [run_callFunc_extern Tryd.func63 (by kernel_rfl) (by kernel_rfl) (by kernel_rfl) (e := Extern.AbiNoEscape.same) (by kernel_rfl)]
  rw [Lib.run_noEscape]
  simp only [Result.andThen]
  rw [Oper.upon_value]
  go_wp2
  rw [Lib.run_from_unsafe w ⟨b, 0, none⟩ Tryd.underlying133 Tryd.underlying91 hj hsh (by kernel_rfl)]
  simp only [Result.andThen]
  rw [Oper.upon_value]
  go_wp2
  go_end0
  exact ⟨rfl, rfl⟩
/-- Blocks of another type than the bytes', and other ones than b, are as they were. -/
def Others (b : Nat) (w w' : World) : Prop := ∀ (g : Nat) (cs : Array Value) (t : TypeId) (fr : Nat × Nat), t ≠ 5 → g ≠ b → w.heap[g]? = some (.cells cs t fr) → w'.heap[g]? = some (.cells cs t fr)
theorem Others.of {w w' : World} {b : Nat} (h : w.grownBy w' (some b)) : Others b w w' := fun g _ _ _ _ hb hh => (h.block g (Array.getElem?_eq_some_iff.1 hh).1 (fun e => hb (by cases e; rfl))).trans hh
theorem check_any (B b : Nat) (bs : List Value) (w : World) (h : Lib.IsBuilder 93 5 B b bs w) :
    Calls Tryd.prog 49 #[.pointer (some ⟨b, 0, none⟩)] w fun e w' => e = .returned (.tuple #[]) ∧ (Lib.BuilderAt 93 5 B b (.pointer (some ⟨b, 0, none⟩)) bs w' ∧ Below B w w' ∧ Others b w w') := by
  rcases h with h | h
  · refine (check_fresh b w h.cell0 h.shape h.frozen0).mono ?_
    rintro e w' ⟨rfl, rfl⟩
    exact ⟨rfl, h.used _, (Below.refl B w).setCell (p := ⟨b, 0, none⟩) h.1 _, Others.of (grown_set _ _ _ _)⟩
  · refine (check_used b w h.cell0).mono ?_
    rintro e w' ⟨rfl, rfl⟩
    exact ⟨rfl, h, Below.refl B _, fun _ _ _ _ _ _ h => h⟩
theorem info5 : (Tryd.prog.info? 5).map (fun i => (i.zero, i.size, i.bytes)) = some (some (.int .u8 0), 1, 1) := by kernel_rfl
set_option maxHeartbeats 2000000 in
set_option maxRecDepth 100000 in
theorem write_any (B b : Nat) (bs : List Value) (s : ByteArray) (w : World) (h : Lib.IsBuilder 93 5 B b bs w) (hlen : bs.length + s.size ≤ 140737488355328) (hBw : B ≤ w.heap.size) :
    Calls Tryd.prog 33 #[.pointer (some ⟨b, 0, none⟩), .string s] w fun e w' => e = .returned (.tuple #[.int .i64 s.size, .nilIface]) ∧ (Lib.BuilderAt 93 5 B b (.pointer (some ⟨b, 0, none⟩)) (bs ++ Lib.strCells s) w' ∧ Below B w w' ∧ Others b w w') := by
  obtain ⟨i0, hi, hz0, hz1, hz2⟩ := info_parts info5
  have KC := check_any B b bs w h
  go_enter Tryd.func33, Tryd.ntmps33
  go_wp2_with (go_at_call 49; refine KC.mono ?_)
  rintro e w1 ⟨rfl, h1, hb1, hot1⟩
  clear KC
  obtain ⟨hB, v, hbk, hown, hne⟩ := h1
  have c0 : w1.cell? ⟨b, 0, none⟩ = some (.pointer (some ⟨b, 0, none⟩)) := by rw [Lib.cell_of_heap hbk]; rfl
  have c1 : w1.cell? ⟨b, 1, none⟩ = some v := by rw [Lib.cell_of_heap hbk]; rfl
  go_wp2_with (at_builtin; refine Lib.wpList_append_own_string _ rfl _ _ 53 9 rfl B 5 i0 Tryd.underlying53 Tryd.underlying9 hi hz0 hz1 hz2 _ _ _ rfl hown s rfl ?c3 ?c4 ?c5 ?_)
  case c3 => unfold maxLen; omega
  case c4 => omega
  case c5 => have := hb1.size; omega
  intro v' w2 hown' hgrow _
  have hlt : b < w1.heap.size := by
    rcases Nat.lt_or_ge b w1.heap.size with h' | h'
    · exact h'
    · simp [Array.getElem?_eq_none h'] at hbk
  have hb2 : w2.heap[b]? = some (.cells #[.pointer (some ⟨b, 0, none⟩), v] 93 (0, 0)) := by
    rw [hgrow.block b hlt (fun e => hne e.symm)]
    exact hbk
  have d0 : w2.cell? ⟨b, 0, none⟩ = some (.pointer (some ⟨b, 0, none⟩)) := by rw [Lib.cell_of_heap hb2]; rfl
  have d1 : w2.cell? ⟨b, 1, none⟩ = some v := by rw [Lib.cell_of_heap hb2]; rfl
  have f1 : w2.frozen? ⟨b, 1, none⟩ = false := Lib.frozen_of_heap hb2 1
  obtain ⟨ao, n', cap, rfl⟩ : ∃ ao n' cap, v' = .slice ao n' cap := by
    rcases hown'.2 with ⟨hv, _⟩ | ⟨g, cap, cur, hv, _⟩
    · exact ⟨_, _, _, hv⟩
    · exact ⟨_, _, _, hv⟩
  go_wp2
  go_ret2
  refine ⟨rfl, ?_, ?_, ?_⟩
  · exact Lib.BuilderAt.put (T := 93) (e := 5) hB hb2 (bs' := bs ++ Lib.strCells s) (by simpa [Lib.strCells_length] using hown') (by decide)
  · exact (hb1.grown hgrow (by have := hb1.size; omega) (fun k hk => (hown.lt k hk).1)).setCell (p := ⟨b, 1, none⟩) hB _
  · intro g cs t fr ht hg hh
    have h1 := hot1 g cs t fr ht hg hh
    have h2 : w2.heap[g]? = some (.cells cs t fr) := by
      refine (hgrow.block g (Array.getElem?_eq_some_iff.1 h1).1 (fun e => ?_)).trans h1
      rcases hown.2 with ⟨rfl, _⟩ | ⟨g1, c1, cur1, rfl, _, hg1, _⟩
      · simp [Value.ownBlock] at e
      · simp only [Value.ownBlock, Option.some.injEq] at e
        subst e
        rw [hg1] at h1
        simp only [Option.some.injEq, Obj.cells.injEq] at h1
        exact ht h1.2.1.symm
    exact Others.of (grown_set w2 b 1 _) g cs t fr ht hg h2
end Go.Proofs.YtejokbfejkkpmaaDoor
/- vocab.Show, walked. -/
namespace Go.Proofs.YtejokbfejkkpmaaDoor
open Go.RowKit Go.Maps Go.WideMaps
/-- A vocabulary's text, D a number's digits. -/
def showT (D : Nat → Bs) : List (Nat × Bs) → Bs
  | [] => []
  | x :: l => D x.1 ++ [32] ++ x.2 ++ [10] ++ showT D l
theorem showT_snoc (D : Nat → Bs) (l : List (Nat × Bs)) (x : Nat × Bs) : showT D (l ++ [x]) = showT D l ++ (D x.1 ++ [32] ++ x.2 ++ [10]) := by
  induction l with
  | nil => simp [showT]
  | cons a l ih => simp [showT, ih]
theorem showT_take (D : Nat → Bs) (l : List (Nat × Bs)) (k : Nat) : (showT D (l.take k)).length ≤ (showT D l).length := by
  have : showT D l = showT D (l.take k) ++ showT D (l.drop k) := by
    have h : ∀ a b : List (Nat × Bs), showT D (a ++ b) = showT D a ++ showT D b := by
      intro a b
      induction a with
      | nil => simp [showT]
      | cons x a ih => simp [showT, ih]
    rw [← h, List.take_append_drop]
  rw [this, List.length_append]; omega
/-- A slice of entries. -/
def EArg (w : World) (A : Option Addr) (es : List (Nat × Bs)) : Prop :=
  0 < es.length → ∃ g off, A = some ⟨g, off, none⟩ ∧ g < w.heap.size ∧ ∀ j (h : j < es.length), w.cell? ⟨g, off + j * 2, none⟩ = some (.int .i64 es[j].1) ∧ w.cell? ⟨g, off + j * 2 + 1, none⟩ = some (.string (mk es[j].2))
theorem own_below {w w' : World} {b size : Nat} {e : TypeId} {v : Value} {n : Nat} {xs : List Value} (h : w.ownsRow b e size v n xs) (hb : Below w.heap.size w w') : w'.ownsRow b e size v n xs := by
  refine ⟨h.1, h.2.imp id ?_⟩
  rintro ⟨g, cap, cur, h1, h2, h3, h4⟩
  exact ⟨g, cap, cur, h1, h2, (hb.block g (Array.getElem?_eq_some_iff.1 h3).1).trans h3, h4⟩
theorem isb_below {T e : TypeId} {B b : Nat} {bs : List Value} {w w' : World} (h : Lib.IsBuilder T e B b bs w) (hb : Below w.heap.size w w') : Lib.IsBuilder T e B b bs w' := by
  have hat : ∀ p, Lib.BuilderAt T e B b p bs w → Lib.BuilderAt T e B b p bs w' := fun p ⟨h1, v, h2, h3, h4⟩ => ⟨h1, v, (hb.block b (Array.getElem?_eq_some_iff.1 h2).1).trans h2, own_below h3 hb, h4⟩
  exact h.imp (hat _) (hat _)
theorem add_zero' (b : Nat) : ((⟨b, 0, none⟩ : Addr).add 0) = ⟨b, 0, none⟩ := rfl
theorem add_one' (b : Nat) : ((⟨b, 0, none⟩ : Addr).add 1) = ⟨b, 1, none⟩ := rfl
theorem below_alloc (w : World) (o : Obj) : Below w.heap.size w (w.alloc o) := (Below.refl _ w).alloc (Nat.le_refl _) o
theorem below_drew (B : Nat) (w : World) : Below B w w.drew := (Below.refl B w).drew
set_option maxRecDepth 100000 in
set_option maxHeartbeats 4000000 in
theorem show_any (D : Nat → Bs) (A : Option Addr) (cap : Nat) (es : List (Nat × Bs)) (w : World) (he : EArg w A es) (hn : es.length ≤ 100000) (hsz : (showT D es).length ≤ 140737488355328)
    (HI : ∀ w', w.heap.size ≤ w'.heap.size → Below w.heap.size w w' → ∀ j (h : j < es.length), Calls Tryd.prog 40 #[.int .i64 es[j].1] w' fun e w'' => e = .returned (.string (mk (D es[j].1))) ∧ Below w'.heap.size w' w'') :
    Calls Tryd.prog 26 #[.slice A es.length cap] w fun e w' => e = .returned (.string (mk (showT D es))) ∧ Below w.heap.size w w' := by
  obtain ⟨n, hl⟩ : ∃ n, es.length = n := ⟨_, rfl⟩
  rw [hl] at hn ⊢
  have HE := Lib.hid he
  have HH := Lib.hid HI
  have HS := Lib.hid hsz
  clear he HI hsz
  go_enter Tryd.func26, Tryd.ntmps26
  go_wp2
  go_loopw [8] (fun i wr => ∃ k : Nat, k ≤ n ∧ i = .int .i64 k ∧ Lib.IsBuilder 93 5 w.heap.size w.heap.size (Lib.byteCells (showT D (es.take k))) wr ∧ Below w.heap.size w wr) (fun i _ => n - (intOf i).toNat)
  case atStart => exact ⟨0, Nat.zero_le _, rfl, Lib.fresh_isBuilder 93 5 w, (Below.refl _ w).alloc (Nat.le_refl _) _⟩
  case round =>
    obtain ⟨k, hk, rfl, hbu, hB⟩ := hrel
    have hsz := hB.size
    by_cases h : k < n
    · obtain ⟨g, off, rfl, hgl, hcs⟩ := HE.out (by omega)
      obtain ⟨g0, g1⟩ := hcs k (by omega)
      have hkl : k < es.length := by omega
      have d0 := (hB.cell (p := ⟨g, off + k * 2, none⟩) hgl).trans g0
      have d1 := (hB.cell (p := ⟨g, off + k * 2 + 1, none⟩) hgl).trans g1
      have hsn : showT D (es.take (k + 1)) = showT D (es.take k) ++ (D es[k].1 ++ [32] ++ es[k].2 ++ [10]) := by
        rw [List.take_succ_eq_append_getElem (by omega), showT_snoc]
      have hln := showT_take D es (k + 1)
      rw [hsn] at hln
      have hln2 := HS.out
      have KI := fun w' h1 h2 => HH.out w' h1 h2 k hkl
      obtain ⟨x, hx⟩ : ∃ x, es[k] = x := ⟨_, rfl⟩
      rw [hx] at d0 d1 hsn hln KI
      obtain ⟨T, hT⟩ : ∃ T, showT D (es.take k) = T := ⟨_, rfl⟩
      rw [hT] at hbu hsn hln
      have hsn' := Lib.hid hsn
      have k0 : (0 : Int) ≤ (k : Int) := by omega
      have k1 : (k : Int) < (n : Int) := by omega
      clear hcs g0 g1 HE HH HS hsn hx hT
      simp only [List.length_append, List.length_cons, List.length_nil] at hln
      have s0 : (mk (D x.1)).size = (D x.1).length := mk_size _
      have s1 : (mk x.2).size = x.2.length := mk_size _
      go_wp2_with fail
      have hXw : w.heap.size < wr.heap.size := hbu.elim (fun h => h.lt) (fun h => h.lt)
      have z32 : (ByteArray.mk #[32]).size = 1 := rfl
      have z10 : (ByteArray.mk #[10]).size = 1 := rfl
      have x0 := World.news_of_block (cs := #[.int .i64 x.1, .string (mk x.2)]) (t := 31) (fr := (0, 0)) (heap_alloc_new wr _) 0 _ rfl
      have x1 := World.news_of_block (cs := #[.int .i64 x.1, .string (mk x.2)]) (t := 31) (fr := (0, 0)) (heap_alloc_new wr _) 1 _ rfl
      simp only [add_zero', add_one'] at x0 x1
      have hB3 := hB.alloc hsz (.cells #[.int .i64 x.1, .string (mk x.2)] 31)
      have hbu3 := isb_below hbu (below_alloc wr (.cells #[.int .i64 x.1, .string (mk x.2)] 31))
      have hXl : wr.heap.size < (wr.alloc (.cells #[.int .i64 x.1, .string (mk x.2)] 31)).heap.size := by simp
      have hX3 := heap_alloc_new wr (.cells #[.int .i64 x.1, .string (mk x.2)] 31)
      obtain ⟨w3, hw3⟩ : ∃ u, wr.alloc (.cells #[.int .i64 x.1, .string (mk x.2)] 31) = u := ⟨_, rfl⟩
      rw [hw3] at hB3 hbu3 x0 x1 hXl hX3 ⊢
      have hs3 := hB3.size
      obtain ⟨X, hX⟩ : ∃ X, wr.heap.size = X := ⟨_, rfl⟩
      rw [hX] at x0 x1 hXl hX3 hXw ⊢
      clear hB hbu hw3 hsz hX d0 d1
      simp only [Nat.zero_add] at hln
      have r1 : (D x.1).length ≤ 9223372036854775806 := by omega
      have r2 : (D x.1).length + 1 + x.2.length ≤ 9223372036854775807 := by omega
      have r3 : (D x.1).length + 1 + x.2.length ≤ 9223372036854775806 := by omega
      have q1 : ∀ w, (Op.stringOp .add (mk (D x.1)) ⟨#[32]⟩).run Tryd.prog w = .ok (.string (mk (D x.1) ++ ⟨#[32]⟩)) w := fun w => by go_simp
      have q2 : ∀ w, (Op.stringOp .add (mk (D x.1) ++ ⟨#[32]⟩) (mk x.2)).run Tryd.prog w = .ok (.string (mk (D x.1) ++ ⟨#[32]⟩ ++ mk x.2)) w := fun w => by go_simp
      have q3 : ∀ w, (Op.stringOp .add (mk (D x.1) ++ ⟨#[32]⟩ ++ mk x.2) ⟨#[10]⟩).run Tryd.prog w = .ok (.string (mk (D x.1) ++ ⟨#[32]⟩ ++ mk x.2 ++ ⟨#[10]⟩)) w := fun w => by go_simp
      go_region_held3 (fun w' => w'.cell? ⟨X, 0, none⟩ = some (.int .i64 x.1) ∧ w'.cell? ⟨X, 1, none⟩ = some (.string (mk x.2)))
        (first | (go_keep) | (exact ⟨(hb4.cell (p := ⟨X, 0, none⟩) hXl).trans x0, (hb4.cell (p := ⟨X, 1, none⟩) hXl).trans x1⟩) | (have hx5 := hot5 X _ 31 _ (by decide) (by omega) ((hb4.block X hXl).trans hX3); exact ⟨by rw [Lib.cell_of_heap hx5]; rfl, by rw [Lib.cell_of_heap hx5]; rfl⟩))
        (first
          | (go_at_call 40
             refine (KI _ (by exact hs3) (by first | exact hB3 | exact hB3.drew)).mono ?_
             rintro e w4 ⟨rfl, hb4⟩)
          | (go_at_call 33
             refine (write_any w.heap.size w.heap.size (Lib.byteCells T) _ _ (by first | exact isb_below (show Lib.IsBuilder 93 5 _ _ _ w3.drew from hbu3) hb4) (by simp [Lib.byteCells]; omega) (Nat.le_trans hs3 hb4.size)).mono ?_
             rintro e w5 ⟨rfl, hbu5, hb5, hot5⟩))
      have hfin : Lib.byteCells T ++ Lib.strCells (mk (D x.1) ++ { data := #[32] } ++ mk x.2 ++ { data := #[10] }) = Lib.byteCells (showT D (es.take (k + 1))) := by
        rw [hsn'.out]
        simp [Lib.byteCells, Lib.strCells, ByteArray.data_append, mk_data]
      rw [hfin] at hbu5
      have hB5 : Below w.heap.size w w5 := ((hB3.drew).trans (hb4.mono hs3)).trans hb5
      clear hfin hb4 hb5 hot5 hX3 x0 x1 hbu3 hB3
      go_wp2
      go_roundw
      case rel => exact ⟨k + 1, by omega, by go_num, .inr hbu5, hB5⟩
      case measure => simp [intOf]; omega
    · obtain rfl : k = n := by omega
      have e : es.take k = es := List.take_of_length_le (by omega)
      rw [e] at hbu
      have KS := Tryd.Builder_String_any w.heap.size w.heap.size (showT D es) wr hbu hsz
      clear HE HH hbu
      go_wp2_with (go_at_call 34; refine KS.mono ?_)
      rintro e2 w2 ⟨rfl, hb2⟩
      go_wp2
      go_ret
      exact ⟨rfl, hB.trans hb2⟩
end Go.Proofs.YtejokbfejkkpmaaDoor
/- stemmalaw09.speaks, walked: it says true. -/
namespace Go.Proofs.YtejokbfejkkpmaaDoor
open Go.RowKit Go.Maps Go.WideMaps
def abT : List Bs := ofT [([97], [98])]
theorem abT_len : abT.length = 95 := by decide
theorem abT_small : ∀ t ∈ abT, t.length ≤ 64 := by decide
theorem abT_id : idsL 0 abT [97, 98] = some 94 := by decide
theorem abT_last : abT[94]'(by rw [abT_len]; omega) = [97, 98] := by decide
theorem ab_show : showT Lib.decDigits [(94, [97, 98])] = [57, 52, 32, 97, 98, 10] := by decide +kernel
theorem row_cap {w : World} {B cap n size : Nat} {e : TypeId} {A : Option Addr} {xs : List Value} (h : w.ownsRow B e size (.slice A n cap) n xs) : n ≤ cap := by
  rcases h.2 with ⟨hv, h0⟩ | ⟨g, c, cur, hv, _, _, hc, _⟩
  · omega
  · injection hv with _ _ h3
    subst h3
    exact hc
set_option maxRecDepth 100000 in
set_option maxHeartbeats 4000000 in
theorem speaks_any (w : World) : Calls Tryd.prog 9 #[] w fun e w' => e = .returned (.bool true) ∧ Below w.heap.size w w' := by
  have hP : Pairs (w.alloc (.cells #[.string ⟨#[97]⟩, .string ⟨#[98]⟩] 55)) (some ⟨w.heap.size, 0, none⟩) [([97], [98])] := by
    refine ⟨fun _ => ⟨w.heap.size, rfl, by simp, fun j h => ?_⟩, by intro p hp; simp at hp; subst hp; decide⟩
    obtain rfl : j = 0 := by simpa using h
    exact ⟨World.news_of_block (heap_alloc_new w _) 0 _ rfl, World.news_of_block (heap_alloc_new w _) 1 _ rfl⟩
  have KO := of_any (some ⟨w.heap.size, 0, none⟩) 1 [([97], [98])] _ (by simp) hP
  rw [show ofT [([97], [98])] = abT from rfl, abT_len] at KO
  have hB0 := below_alloc w (.cells #[.string ⟨#[97]⟩, .string ⟨#[98]⟩] 55)
  simp only [List.length_cons, List.length_nil, Nat.zero_add] at KO
  have hs0 := hB0.size
  have ht64 : ∀ t ∈ abT, t.length ≤ maxLen := fun t h => Nat.le_trans (abT_small t h) (by decide)
  go_enter Tryd.func9, Tryd.ntmps9
  go_wp2_with (go_at_call 11; refine KO.mono ?_)
  rintro e w1 ⟨v, rfl, hrow, hb1⟩
  clear KO hP
  obtain ⟨A, cap, rfl⟩ := own_form hrow
  obtain ⟨g, c, hv, hgb, hgl⟩ := hrow.form (by omega)
  injection hv with hA _ hc
  subst hA
  subst hc
  have hcap := row_cap hrow
  have hB1 : Below w.heap.size w w1 := hB0.trans (hb1.mono hs0)
  have hs1 := hB1.size
  have KN := new_any g cap abT w1 (fun j u h => (hrow.cellAt j (by have := (List.getElem?_eq_some_iff.1 h).1; rw [ents_length, abT_len] at this; omega)).trans h) (by rw [abT_len]; omega) (by rw [abT_len]; omega) ht64
  rw [abT_len] at KN
  go_wp2_with (first | (go_at_call 14; refine KN.mono ?_))
  rintro e w2 ⟨b, rfl, hidx, hb2⟩
  clear KN
  have hb := hidx
  obtain ⟨_, _, _, _, hbb, hblk, _⟩ := hb
  have KI := id_any _ b abT false 0 [97, 98] w2 hidx (by rw [abT_len]; omega) (by omega) hb2.size (by decide)
  rw [abT_id] at KI
  go_wp2_with (first | (go_at_call 19; refine KI.mono ?_))
  rintro e w3 ⟨rfl, _, hg3⟩
  have hrow3 := (own_below hrow hb2).kept hg3 (.inr (by simp [Value.ownBlock]; omega))
  have hB3 : Below w.heap.size w w3 := (hB1.trans (hb2.mono hs1)).grown hg3 (by have := hb2.size; omega) (fun k e => by cases e; omega)
  have he : EArg w3 (some ⟨g, 94 * 2, none⟩) [(94, [97, 98])] := by
    intro _
    refine ⟨g, 94 * 2, rfl, (hrow3.lt g rfl).2, fun j h => ?_⟩
    obtain rfl : j = 0 := by simpa using h
    have e := ents_at abT 0 94 (by rw [abT_len]; omega)
    rw [abT_last] at e
    have x1 := hrow3.cellAt (94 * 2) (by omega)
    have x2 := hrow3.cellAt (94 * 2 + 1) (by omega)
    rw [e.1] at x1
    rw [e.2] at x2
    exact ⟨x1, x2⟩
  have KS := show_any Lib.decDigits (some ⟨g, 94 * 2, none⟩) (cap - 94) [(94, [97, 98])] w3 he (by simp) (by rw [ab_show]; decide) (by
    intro w' _ _ j h
    obtain rfl : j = 0 := by simpa using h
    refine (Tryd.strconv_Itoa_small 94 (by omega) w').mono ?_
    rintro e w'' ⟨rfl, rfl⟩
    exact ⟨rfl, Below.refl _ _⟩)
  rw [ab_show] at KS
  simp only [List.length_cons, List.length_nil, Nat.zero_add] at KS
  clear KI hidx hblk hrow hrow3 he
  go_wp2_with (first | (go_at_call 26; refine KS.mono ?_))
  rintro e w4 ⟨rfl, hb4⟩
  rw [show mk [57, 52, 32, 97, 98, 10] = { data := #[57, 52, 32, 97, 98, 10] } from rfl]
  go_wp2
  go_ret
  exact ⟨rfl, hB3.trans (hb4.mono hB3.size)⟩
end Go.Proofs.YtejokbfejkkpmaaDoor
