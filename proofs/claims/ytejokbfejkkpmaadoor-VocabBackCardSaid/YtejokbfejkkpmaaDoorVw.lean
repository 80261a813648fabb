/- The world in which vocabularies are read, and the library's contracts in it. -/
import Derived.Test.YtejokbfejkkpmaaDoorVl
import Derived.Test.YtejokbfejkkpmaaDoorSk
import Derived.Test.YtejokbfejkkpmaaDoorShelh
import Derived.Laws.ResultCell
import Derived.Deep.RegionHeld3
import Derived.Lib.AppendIntMem
import Derived.StillTailTactics
import Derived.BigQuiet
import Derived.WideLaws
import Derived.WalkSmall
import Derived.Outline
import Derived.Lib.AtoiErrMem
namespace Go.Proofs.YtejokbfejkkpmaaDoor
open Go.RowKit Go.Maps Go.WideMaps
/-- Block b of w is these cells. -/
def Bl (w : World) (b : Nat) (cs : Array Value) (e : TypeId) : Prop := w.heap[b]? = some (.cells cs e (0, 0))
theorem Bl.cell {w : World} {b : Nat} {cs : Array Value} {e : TypeId} (h : Bl w b cs e) (i : Nat) : w.cell? ⟨b, i, none⟩ = cs[i]? := by
  unfold Bl at h
  unfold World.cell?; rw [h]; simp
theorem Bl.frozen {w : World} {b : Nat} {cs : Array Value} {e : TypeId} (h : Bl w b cs e) (i : Nat) : w.frozen? ⟨b, i, none⟩ = false := by
  unfold Bl at h
  unfold World.frozen?; rw [h]; simp
theorem Bl.set {w : World} {b : Nat} {cs : Array Value} {e : TypeId} (h : Bl w b cs e) (i : Nat) (v : Value) : Bl (w.setCell ⟨b, i, none⟩ v) b (cs.setIfInBounds i v) e := by
  unfold Bl at h ⊢
  show (w.heap.modify b _)[b]? = _
  rw [Array.getElem?_modify, if_pos rfl, h]; simp
theorem Bl.lt {w : World} {b : Nat} {cs : Array Value} {e : TypeId} (h : Bl w b cs e) : b < w.heap.size := (Array.getElem?_eq_some_iff.1 h).1
theorem Bl.below {w w' : World} {b : Nat} {cs : Array Value} {e : TypeId} (h : Bl w b cs e) (hb : Below w.heap.size w w') : Bl w' b cs e := (hb.block b h.lt).trans h
theorem Bl.new (w : World) (cs : Array Value) (e : TypeId) : Bl (w.alloc (.cells cs e)) w.heap.size cs e := heap_alloc_new w _
theorem Bl.alloc {w : World} {b : Nat} {cs : Array Value} {e : TypeId} (h : Bl w b cs e) (o : Obj) : Bl (w.alloc o) b cs e := (heap_alloc_old w o h.lt).trans h
theorem Bl.drew {w : World} {b : Nat} {cs : Array Value} {e : TypeId} (h : Bl w b cs e) : Bl w.drew b cs e := h
theorem Bl.other {w : World} {b X : Nat} {cs : Array Value} {e : TypeId} (h : Bl w b cs e) (hne : b ≠ X) (i : Nat) (v : Value) : Bl (w.setCell ⟨X, i, none⟩ v) b cs e := (Below.heap_setCell w ⟨X, i, none⟩ v b hne).trans h
/-- What the library's variables hold. -/
structure Envw (w : World) : Prop where
  ml : ∃ m, w.cell? ⟨0, 0, none⟩ = some (.int .i64 m)
  ml0 : 0 < w.heap.size
  tab : Lib.TabIs Tryd.prog w "internal/strconv.uint64pow10" .u64 Lib.pow10Tab
  es : ∃ tp p, w.var? Tryd.prog "strconv.ErrSyntax" = some #[.iface tp p]
  er : ∃ tp p, w.var? Tryd.prog "strconv.ErrRange" = some #[.iface tp p]
theorem g_tab : Tryd.prog.globalNamed "internal/strconv.uint64pow10" = some 3 := by kernel_rfl
theorem g_es : Tryd.prog.globalNamed "strconv.ErrSyntax" = some 1 := by kernel_rfl
theorem g_er : Tryd.prog.globalNamed "strconv.ErrRange" = some 2 := by kernel_rfl
theorem var_size {w : World} {n : String} {g : Nat} {cs : Array Value} (hg : Tryd.prog.globalNamed n = some g) (hv : w.var? Tryd.prog n = some cs) : g < w.heap.size := by
  unfold World.var? at hv
  rw [hg] at hv
  simp only [Option.bind_some] at hv
  rcases Nat.lt_or_ge g w.heap.size with h | h
  · exact h
  · rw [Array.getElem?_eq_none h] at hv; cases hv
theorem var_below {B : Nat} {w w' : World} {n : String} {g : Nat} {cs : Array Value} (hg : Tryd.prog.globalNamed n = some g) (hv : w.var? Tryd.prog n = some cs) (h : Below B w w') (hB : w.heap.size ≤ B) : w'.var? Tryd.prog n = some cs :=
  var?_below h hg (Nat.lt_of_lt_of_le (var_size hg hv) hB) hv
theorem Envw.below {w w' : World} (h : Envw w) (hb : Below w.heap.size w w') : Envw w' := by
  obtain ⟨⟨m, hm⟩, h0, ht, ⟨t1, p1, h1⟩, ⟨t2, p2, h2⟩⟩ := h
  exact ⟨⟨m, (hb.cell h0).trans hm⟩, Nat.lt_of_lt_of_le h0 hb.size, var_below g_tab ht hb (Nat.le_refl _), ⟨t1, p1, var_below g_es h1 hb (Nat.le_refl _)⟩, ⟨t2, p2, var_below g_er h2 hb (Nat.le_refl _)⟩⟩
/-- What Atoi answers. -/
def AtoiR (l : Bs) (v : Int) (er : Value) : Prop := (Lib.atoiAll l = .ok v ∧ er = .nilIface) ∨ ((∀ v, Lib.atoiAll l ≠ .ok v) ∧ ∃ N, er = .iface 155 (.pointer (some ⟨N, 0, none⟩)))
theorem bw_below (w : World) (e : TypeId) (t : ByteArray) : Below w.heap.size w (Lib.bytesWorld w e t) := Lib.bytesWorld_below w e t
theorem atoi_any (s : ByteArray) (w : World) (hs : s.size ≤ 281474976710656) (E : Envw w) :
    Calls Tryd.prog 52 #[.string s] w fun e w' => ∃ v er, AtoiR s.data.toList v er ∧ e = .returned (.tuple #[.int .i64 v, er]) ∧ Below w.heap.size w w' := by
  by_cases h0 : ∃ v, Lib.atoiAll s.data.toList = .ok v
  · obtain ⟨v, h⟩ := h0
    refine (Tryd.strconv_Atoi_ok s (by omega) v h w).mono ?_
    rintro e w' ⟨rfl, hw⟩
    refine ⟨v, .nilIface, .inl ⟨h, rfl⟩, rfl, ?_⟩
    rcases hw with rfl | ⟨t, rfl⟩
    · exact Below.refl _ _
    · exact bw_below _ _ _
  · have h2 : ∀ v, Lib.atoiAll s.data.toList ≠ .ok v := fun v e => h0 ⟨v, e⟩
    by_cases h : Lib.atoiAll s.data.toList = .range
    · obtain ⟨tp, p, hv⟩ := E.er
      refine (Tryd.strconv_Atoi_range_var s hs h tp p w hv).mono ?_
      rintro e w' ⟨N, rfl, h1⟩
      exact ⟨_, _, .inr ⟨h2, N, rfl⟩, rfl, h1.2.2⟩
    · obtain ⟨tp, p, hv⟩ := E.es
      refine (Tryd.strconv_Atoi_bad_var s hs h2 h tp p w hv).mono ?_
      rintro e w' ⟨N, rfl, h1⟩
      exact ⟨0, _, .inr ⟨h2, N, rfl⟩, rfl, h1.2.2⟩
theorem itoa_any (n : Int) (h0 : -9223372036854775808 ≤ n) (h1 : n ≤ 9223372036854775807) (w : World) (E : Envw w) :
    Calls Tryd.prog 40 #[.int .i64 n] w fun e w' => e = .returned (.string (mk (Lib.itoa n))) ∧ Below w.heap.size w w' :=
  (Tryd.strconv_Itoa n h0 h1 w E.tab).mono fun e w' ⟨he, k, os, hw⟩ => ⟨he, by rw [hw]; exact Lib.below_grow _ w (Nat.le_refl _) k os⟩
theorem cutv_any (s : ByteArray) (c : UInt8) (w : World) (hs : s.size < 4294967281) (E : Envw w) :
    Calls Tryd.prog 37 #[.string s, .string ⟨#[c]⟩] w fun e w' => e = .returned (.tuple #[.string (mk (Lib.cut s.data.toList [c]).1), .string (mk (Lib.cut s.data.toList [c]).2.1), .bool (Lib.cut s.data.toList [c]).2.2]) ∧ ∃ n, w' = w.drewN n := by
  obtain ⟨m, hm⟩ := E.ml
  exact Tryd.strings_Cut s ⟨#[c]⟩ m w hs hm
end Go.Proofs.YtejokbfejkkpmaaDoor
