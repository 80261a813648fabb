/- vocab.Show, walked. -/
import Derived.Test.YtejokbfejkkpmaaDoorBu
import Derived.Test.YtejokbfejkkpmaaDoorShelf
import Derived.Deep.RegionHeld3
namespace Go.Proofs.YtejokbfejkkpmaaDoor
open Go.RowKit Go.Maps Go.WideMaps
/-- A vocabulary's text, D a number's digits. -/
def showT (D : Nat → Bs) : List (Nat × Bs) → Bs
  | [] => []
  | x :: l => D x.1 ++ [32] ++ x.2 ++ [10] ++ showT D l
theorem showT_snoc (D : Nat → Bs) (l : List (Nat × Bs)) (x : Nat × Bs) : showT D (l ++ [x]) = showT D l ++ (D x.1 ++ [32] ++ x.2 ++ [10]) := by
  induction l with
  | nil => simp [showT]
  | cons a l ih => simp [showT, ih]
theorem showT_take (D : Nat → Bs) (l : List (Nat × Bs)) (k : Nat) : (showT D (l.take k)).length ≤ (showT D l).length := by
  have : showT D l = showT D (l.take k) ++ showT D (l.drop k) := by
    have h : ∀ a b : List (Nat × Bs), showT D (a ++ b) = showT D a ++ showT D b := by
      intro a b
      induction a with
      | nil => simp [showT]
      | cons x a ih => simp [showT, ih]
    rw [← h, List.take_append_drop]
  rw [this, List.length_append]; omega
/-- A slice of entries. -/
def EArg (w : World) (A : Option Addr) (es : List (Nat × Bs)) : Prop :=
  0 < es.length → ∃ g off, A = some ⟨g, off, none⟩ ∧ g < w.heap.size ∧ ∀ j (h : j < es.length), w.cell? ⟨g, off + j * 2, none⟩ = some (.int .i64 es[j].1) ∧ w.cell? ⟨g, off + j * 2 + 1, none⟩ = some (.string (mk es[j].2))
theorem own_below {w w' : World} {b size : Nat} {e : TypeId} {v : Value} {n : Nat} {xs : List Value} (h : w.ownsRow b e size v n xs) (hb : Below w.heap.size w w') : w'.ownsRow b e size v n xs := by
  refine ⟨h.1, h.2.imp id ?_⟩
  rintro ⟨g, cap, cur, h1, h2, h3, h4⟩
  exact ⟨g, cap, cur, h1, h2, (hb.block g (Array.getElem?_eq_some_iff.1 h3).1).trans h3, h4⟩
theorem isb_below {T e : TypeId} {B b : Nat} {bs : List Value} {w w' : World} (h : Lib.IsBuilder T e B b bs w) (hb : Below w.heap.size w w') : Lib.IsBuilder T e B b bs w' := by
  have hat : ∀ p, Lib.BuilderAt T e B b p bs w → Lib.BuilderAt T e B b p bs w' := fun p ⟨h1, v, h2, h3, h4⟩ => ⟨h1, v, (hb.block b (Array.getElem?_eq_some_iff.1 h2).1).trans h2, own_below h3 hb, h4⟩
  exact h.imp (hat _) (hat _)
theorem add_zero' (b : Nat) : ((⟨b, 0, none⟩ : Addr).add 0) = ⟨b, 0, none⟩ := rfl
theorem add_one' (b : Nat) : ((⟨b, 0, none⟩ : Addr).add 1) = ⟨b, 1, none⟩ := rfl
theorem below_alloc (w : World) (o : Obj) : Below w.heap.size w (w.alloc o) := (Below.refl _ w).alloc (Nat.le_refl _) o
theorem below_drew (B : Nat) (w : World) : Below B w w.drew := (Below.refl B w).drew
set_option maxRecDepth 100000 in
set_option maxHeartbeats 4000000 in
theorem show_any (D : Nat → Bs) (A : Option Addr) (cap : Nat) (es : List (Nat × Bs)) (w : World) (he : EArg w A es) (hn : es.length ≤ 100000) (hsz : (showT D es).length ≤ 140737488355328)
    (HI : ∀ w', w.heap.size ≤ w'.heap.size → Below w.heap.size w w' → ∀ j (h : j < es.length), Calls Tryd.prog 40 #[.int .i64 es[j].1] w' fun e w'' => e = .returned (.string (mk (D es[j].1))) ∧ Below w'.heap.size w' w'') :
    Calls Tryd.prog 26 #[.slice A es.length cap] w fun e w' => e = .returned (.string (mk (showT D es))) ∧ Below w.heap.size w w' := by
  obtain ⟨n, hl⟩ : ∃ n, es.length = n := ⟨_, rfl⟩
  rw [hl] at hn ⊢
  have HE := Lib.hid he
  have HH := Lib.hid HI
  have HS := Lib.hid hsz
  clear he HI hsz
  go_enter Tryd.func26, Tryd.ntmps26
  go_wp2
  go_loopw [8] (fun i wr => ∃ k : Nat, k ≤ n ∧ i = .int .i64 k ∧ Lib.IsBuilder 93 5 w.heap.size w.heap.size (Lib.byteCells (showT D (es.take k))) wr ∧ Below w.heap.size w wr) (fun i _ => n - (intOf i).toNat)
  case atStart => exact ⟨0, Nat.zero_le _, rfl, Lib.fresh_isBuilder 93 5 w, (Below.refl _ w).alloc (Nat.le_refl _) _⟩
  case round =>
    obtain ⟨k, hk, rfl, hbu, hB⟩ := hrel
    have hsz := hB.size
    by_cases h : k < n
    · obtain ⟨g, off, rfl, hgl, hcs⟩ := HE.out (by omega)
      obtain ⟨g0, g1⟩ := hcs k (by omega)
      have hkl : k < es.length := by omega
      have d0 := (hB.cell (p := ⟨g, off + k * 2, none⟩) hgl).trans g0
      have d1 := (hB.cell (p := ⟨g, off + k * 2 + 1, none⟩) hgl).trans g1
      have hsn : showT D (es.take (k + 1)) = showT D (es.take k) ++ (D es[k].1 ++ [32] ++ es[k].2 ++ [10]) := by
        rw [List.take_succ_eq_append_getElem (by omega), showT_snoc]
      have hln := showT_take D es (k + 1)
      rw [hsn] at hln
      have hln2 := HS.out
      have KI := fun w' h1 h2 => HH.out w' h1 h2 k hkl
      obtain ⟨x, hx⟩ : ∃ x, es[k] = x := ⟨_, rfl⟩
      rw [hx] at d0 d1 hsn hln KI
      obtain ⟨T, hT⟩ : ∃ T, showT D (es.take k) = T := ⟨_, rfl⟩
      rw [hT] at hbu hsn hln
      have hsn' := Lib.hid hsn
      have k0 : (0 : Int) ≤ (k : Int) := by omega
      have k1 : (k : Int) < (n : Int) := by omega
      clear hcs g0 g1 HE HH HS hsn hx hT
      simp only [List.length_append, List.length_cons, List.length_nil] at hln
      have s0 : (mk (D x.1)).size = (D x.1).length := mk_size _
      have s1 : (mk x.2).size = x.2.length := mk_size _
      go_wp2_with fail
      have hXw : w.heap.size < wr.heap.size := hbu.elim (fun h => h.lt) (fun h => h.lt)
      have z32 : (ByteArray.mk #[32]).size = 1 := rfl
      have z10 : (ByteArray.mk #[10]).size = 1 := rfl
      have x0 := World.news_of_block (cs := #[.int .i64 x.1, .string (mk x.2)]) (t := 31) (fr := (0, 0)) (heap_alloc_new wr _) 0 _ rfl
      have x1 := World.news_of_block (cs := #[.int .i64 x.1, .string (mk x.2)]) (t := 31) (fr := (0, 0)) (heap_alloc_new wr _) 1 _ rfl
      simp only [add_zero', add_one'] at x0 x1
      have hB3 := hB.alloc hsz (.cells #[.int .i64 x.1, .string (mk x.2)] 31)
      have hbu3 := isb_below hbu (below_alloc wr (.cells #[.int .i64 x.1, .string (mk x.2)] 31))
      have hXl : wr.heap.size < (wr.alloc (.cells #[.int .i64 x.1, .string (mk x.2)] 31)).heap.size := by simp
      have hX3 := heap_alloc_new wr (.cells #[.int .i64 x.1, .string (mk x.2)] 31)
      obtain ⟨w3, hw3⟩ : ∃ u, wr.alloc (.cells #[.int .i64 x.1, .string (mk x.2)] 31) = u := ⟨_, rfl⟩
      rw [hw3] at hB3 hbu3 x0 x1 hXl hX3 ⊢
      have hs3 := hB3.size
      obtain ⟨X, hX⟩ : ∃ X, wr.heap.size = X := ⟨_, rfl⟩
      rw [hX] at x0 x1 hXl hX3 hXw ⊢
      clear hB hbu hw3 hsz hX d0 d1
      simp only [Nat.zero_add] at hln
      have r1 : (D x.1).length ≤ 9223372036854775806 := by omega
      have r2 : (D x.1).length + 1 + x.2.length ≤ 9223372036854775807 := by omega
      have r3 : (D x.1).length + 1 + x.2.length ≤ 9223372036854775806 := by omega
      have q1 : ∀ w, (Op.stringOp .add (mk (D x.1)) ⟨#[32]⟩).run Tryd.prog w = .ok (.string (mk (D x.1) ++ ⟨#[32]⟩)) w := fun w => by go_simp
      have q2 : ∀ w, (Op.stringOp .add (mk (D x.1) ++ ⟨#[32]⟩) (mk x.2)).run Tryd.prog w = .ok (.string (mk (D x.1) ++ ⟨#[32]⟩ ++ mk x.2)) w := fun w => by go_simp
      have q3 : ∀ w, (Op.stringOp .add (mk (D x.1) ++ ⟨#[32]⟩ ++ mk x.2) ⟨#[10]⟩).run Tryd.prog w = .ok (.string (mk (D x.1) ++ ⟨#[32]⟩ ++ mk x.2 ++ ⟨#[10]⟩)) w := fun w => by go_simp
      go_region_held3 (fun w' => w'.cell? ⟨X, 0, none⟩ = some (.int .i64 x.1) ∧ w'.cell? ⟨X, 1, none⟩ = some (.string (mk x.2)))
        (first | (go_keep) | (exact ⟨(hb4.cell (p := ⟨X, 0, none⟩) hXl).trans x0, (hb4.cell (p := ⟨X, 1, none⟩) hXl).trans x1⟩) | (have hx5 := hot5 X _ 31 _ (by decide) (by omega) ((hb4.block X hXl).trans hX3); exact ⟨by rw [Lib.cell_of_heap hx5]; rfl, by rw [Lib.cell_of_heap hx5]; rfl⟩))
        (first
          | (go_at_call 40
             refine (KI _ (by exact hs3) (by first | exact hB3 | exact hB3.drew)).mono ?_
             rintro e w4 ⟨rfl, hb4⟩)
          | (go_at_call 33
             refine (write_any w.heap.size w.heap.size (Lib.byteCells T) _ _ (by first | exact isb_below (show Lib.IsBuilder 93 5 _ _ _ w3.drew from hbu3) hb4) (by simp [Lib.byteCells]; omega) (Nat.le_trans hs3 hb4.size)).mono ?_
             rintro e w5 ⟨rfl, hbu5, hb5, hot5⟩))
      have hfin : Lib.byteCells T ++ Lib.strCells (mk (D x.1) ++ { data := #[32] } ++ mk x.2 ++ { data := #[10] }) = Lib.byteCells (showT D (es.take (k + 1))) := by
        rw [hsn'.out]
        simp [Lib.byteCells, Lib.strCells, ByteArray.data_append, mk_data]
      rw [hfin] at hbu5
      have hB5 : Below w.heap.size w w5 := ((hB3.drew).trans (hb4.mono hs3)).trans hb5
      clear hfin hb4 hb5 hot5 hX3 x0 x1 hbu3 hB3
      go_wp2
      go_roundw
      case rel => exact ⟨k + 1, by omega, by go_num, .inr hbu5, hB5⟩
      case measure => simp [intOf]; omega
    · obtain rfl : k = n := by omega
      have e : es.take k = es := List.take_of_length_le (by omega)
      rw [e] at hbu
      have KS := Tryd.Builder_String_any w.heap.size w.heap.size (showT D es) wr hbu hsz
      clear HE HH hbu
      go_wp2_with (go_at_call 34; refine KS.mono ?_)
      rintro e2 w2 ⟨rfl, hb2⟩
      go_wp2
      go_ret
      exact ⟨rfl, hB.trans hb2⟩
end Go.Proofs.YtejokbfejkkpmaaDoor
