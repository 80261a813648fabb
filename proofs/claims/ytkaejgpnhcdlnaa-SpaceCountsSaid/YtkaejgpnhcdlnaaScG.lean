import Derived.Test.YtkaejgpnhcdlnaaScF
import Derived.RangeFuncNested
namespace Go.Proofs.Ytkaejgpnhcdlnaa
open Go.RowKit Go.Shelf
attribute [local go_sem] Oper.semAt_some
def stepN (n x : Int) : Int := min (n + min (max x 0) 1099511627776) 1099511627776
def cnt (es : List (Int × Int)) : Int := es.foldl (fun n x => stepN n x.2) 0
theorem cnt_snoc (es : List (Int × Int)) (x : Int × Int) : cnt (es ++ [x]) = stepN (cnt es) x.2 := by simp [cnt]
theorem stepN_bd (n x : Int) (h : 0 ≤ n) : 0 ≤ stepN n x ∧ stepN n x ≤ 1099511627776 := by unfold stepN; omega
theorem cnt_bd' (es : List (Int × Int)) : ∀ n, 0 ≤ n → n ≤ 1099511627776 → 0 ≤ es.foldl (fun n x => stepN n x.2) n ∧ es.foldl (fun n x => stepN n x.2) n ≤ 1099511627776 := by
  induction es with
  | nil => intro n h1 h2; exact ⟨h1, h2⟩
  | cons x es ih => intro n h1 h2; exact ih _ (stepN_bd n x.2 h1).1 (stepN_bd n x.2 h1).2
theorem cnt_bd (es : List (Int × Int)) : 0 ≤ cnt es ∧ cnt es ≤ 1099511627776 := cnt_bd' es 0 (by omega) (by omega)
theorem box_int {W : World} {B : Nat} {t : TypeId} {v : Value} {k : IntKind} {a b : Int} (h : Boxed W B t v) (e : b = a) : Boxed (W.setCell ⟨B, 0, none⟩ (.int k a)) B t (.int k b) := e ▸ h.set _
theorem values_any (A : Option Addr) (n cap : Nat) (w : World) : Calls Try.prog 10 #[.slice A n cap] w fun e w' => e = .returned (.func (.func 13) #[] #[.pointer (some ⟨w.heap.size, 0, none⟩)]) ∧ w.alloc (.cells #[.slice A n cap] 24) = w' := by
  go_enter Try.func10, Try.ntmps10
  go_wp2
  go_ret
  exact ⟨rfl, rfl⟩
set_option maxRecDepth 100000 in
set_option maxHeartbeats 1000000 in
theorem count_any (A : Option Addr) (cap : Nat) (es : List (Int × Int)) (w : World) (hlen : es.length ≤ 1000) (hE : Ext w w.heap.size A es) :
    Calls Try.prog 5 #[.slice A es.length cap] w fun e w' => e = .returned (.int .i64 (cnt es)) ∧ Below w.heap.size w w' := by
  refine (callsIn_wide (n := 6)).1 ?_
  refine callsIn_of_wp_marks Try.func5 rfl trivial ?_ rfl
  simp only [Try.ntmps5, List.size_toArray, List.length_cons, List.length_nil, Nat.reduceAdd, Nat.reduceSub, Array.replicate_succ, Array.replicate_zero, List.push_toArray, List.append_toArray, List.nil_append, List.cons_append]
  gi_wp2_with fail
  refine ⟨trivial, ?_⟩
  refine (callsIn_wide.2 (values_any A es.length cap _)).mono ?_
  rintro e w' ⟨rfl, rfl⟩
  gi_wp2
  have hB0 : Below w.heap.size w ((w.alloc (.cells #[.int .i64 0] 3)).alloc (.cells #[.slice A es.length cap] 24)) := ((Below.refl _ w).alloc (Nat.le_refl _) _).alloc (by simp) _
  have bN := Boxed.new (w.alloc (.cells #[.int .i64 0] 3)) 24 (.slice A es.length cap)
  have bS := (Boxed.new w 3 (.int .i64 0)).alloc (.cells #[.slice A es.length cap] 24)
  rw [World.size_alloc] at bN
  refine wpIn_range_first rfl (by decide) (gf := 13) (first := #[]) (lb := #[.pointer (some ⟨w.heap.size + 1, 0, none⟩)]) rfl trivial (enters_of Try.func13 (by kernel_rfl) rfl) (encs := encE)
    (values_stops _ w.heap.size (w.heap.size + 1) cap A es hlen (by simp; omega) (by simp) bN.cell (hE.below hB0)) Below.trans (belowK_b (by simp; omega)) (Below.refl _ _) (fun _ => rfl)
    (fun pre W => Boxed W w.heap.size 3 (.int .i64 (cnt pre)) ∧ Below w.heap.size w W)
    (fun _ _ _ => False) ?hI ?hIx ⟨bS, hB0⟩ ?hround ?hdone ?hstop
  case hI =>
    intro s W W' row h hg hr
    refine ⟨(grownBy_keeps_cells hg (fun r e => (hr r e).2) h.1 rfl).trans h.1, h.2.grown hg h.2.size (fun k e => ?_)⟩
    have := (hr k e).1
    simp at this
    omega
  case hIx => exact fun c s W W' row h _ _ => h
  case hround =>
    rintro l pre x W ⟨hb, hB⟩ hR
    gi_wp2
    refine ⟨KeepsOthers.alloc _ _, ?_⟩
    rintro l' o' hl' ⟨o, ho, hc, hw⟩
    have hx : ((W.alloc (.cells #[.int .i64 x.1, .int .i64 x.2] 26)).putObj l' o').heap[W.heap.size]? = some (.cells #[.int .i64 x.1, .int .i64 x.2] 26) := by
      have hne : l' ≠ W.heap.size := by rintro rfl; rw [heap_alloc_new] at ho; cases ho; cases hc
      exact (World.putObj_heap_other (by omega)).trans (heap_alloc_new _ _)
    have hl2 : w.heap.size ≤ l' := by
      have := hl'
      simp only [World.size_alloc] at this
      omega
    have hs := (grownBy_keeps_cells (grownBy_putObj' _ l' o') (fun r e => by cases e; exact ⟨o, ho, hc⟩) (hb.alloc (.cells #[.int .i64 x.1, .int .i64 x.2] 26)) rfl).trans (hb.alloc (.cells #[.int .i64 x.1, .int .i64 x.2] 26))
    have hbw : Below w.heap.size W ((W.alloc (.cells #[.int .i64 x.1, .int .i64 x.2] 26)).putObj l' o') := ((Below.refl w.heap.size W).alloc hB.size _).grown (grownBy_putObj' _ l' o') (by have := hB.size; simp; omega) (fun k e => by cases e; exact hl2)
    obtain ⟨W2, hW2⟩ : ∃ W2, (W.alloc (.cells #[.int .i64 x.1, .int .i64 x.2] 26)).putObj l' o' = W2 := ⟨_, rfl⟩
    rw [hW2] at hx hs hbw ⊢
    have hs' : Boxed W2 w.heap.size 3 (.int .i64 (cnt pre)) := hs
    clear hb hs ho hc hw hl' hW2 bS bN hB0 hE hR
    have q0 := cell_at hx 1
    have q1 := hs'.cell
    have f1 := hs'.frozen
    simp only [List.getElem?_toArray, List.getElem?_cons_zero, List.getElem?_cons_succ] at q0
    obtain ⟨c1, c2⟩ := cnt_bd pre
    have c3 : min (max x.2 0) 1099511627776 ≤ 1099511627776 := by omega
    have c4 : 0 ≤ min (max x.2 0) 1099511627776 := by omega
    gi_wp2
    all_goals
      refine ⟨KeepsOthers.setCell _ _ _, hbw.setCell (p := ⟨_, _, none⟩) (Nat.le_refl _) _, ?_, (hB.trans hbw).setCell (p := ⟨_, _, none⟩) (Nat.le_refl _) _⟩
      exact box_int hs' (by rw [cnt_snoc]; unfold stepN; omega)
  case hdone =>
    rintro D xs W hD rfl ⟨hb, hB⟩ hK
    have q1 := hb.cell
    gi_wp2
    refine ⟨by simp, .inl ⟨_, _, rfl, run_takeDeferred hK, ?_⟩⟩
    exact ⟨_, results_tmp rfl _ _ _, rfl, hB.trans (belowK_b (w := w) (Nat.le_refl _) W D _ _ (by simp at hD; omega) hK rfl rfl)⟩
  case hstop => exact fun D c pre W _ _ h _ => h.elim
end Go.Proofs.Ytkaejgpnhcdlnaa
