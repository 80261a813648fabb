/- A set of texts in a map that the call itself has made: what it holds, a look-up, a store. -/
import Derived.Test.YtlkfnhcnfjdgbaaDoorMb
import Derived.Maps.Own
import Derived.Maps.Views
import Derived.Maps.OwnSet
import Derived.StringKeys
namespace Go.Proofs.YtlkfnhcnfjdgbaaDoor
open Go.RowKit Go.Maps Go.WideMaps
theorem plainElem_bool_inv {H : Type} {P : Program} {e : TypeId} (he : P.underlying e = some .bool) {v : Value} {x : Bool} {ps : List MemPlace} (h : plainElem (H := H) P e v = some (.lit (.bool x), ps)) : v = .bool x := by
  unfold plainElem at h
  rw [he] at h
  cases v <;> simp at h
  rw [h.1]
theorem keyLaw : Keyed Tryd.prog 9 := string_keyed Tryd.underlying9
theorem zero4 (w : World) : (zeroValue 4).run Tryd.prog w = .ok (.bool false) w := by kernel_rfl
/-- Block b of w is a map of at most n entries, in which just the texts of S are known. -/
def Known (w : World) (b n : Nat) (S : Bs → Bool) : Prop :=
  ∃ D : DataW Unit, w.ownsMap Tryd.prog 9 (plainElem Tryd.prog 4) b n D ∧ ∀ t : Bs, D.atKey (.string t) (.lit (.bool false)) = .lit (.bool (S t))
theorem Known.made (w : World) : Known (w.alloc (.map #[] 0)) w.heap.size 0 (fun _ => false) :=
  ⟨.map [], World.ownsMap_made _ _ _ _, fun _ => rfl⟩
theorem Known.kept {w w' : World} {b n : Nat} {S : Bs → Bool} {row : Option Nat} (h : Known w b n S) (hg : w.grownBy w' row) (hne : some b ≠ row) : Known w' b n S := by
  obtain ⟨D, h1, h2⟩ := h
  exact ⟨D, h1.kept hg hne, h2⟩
theorem Known.lt {w : World} {b n : Nat} {S : Bs → Bool} (h : Known w b n S) : b < w.heap.size := by
  obtain ⟨D, h1, _⟩ := h
  exact h1.lt
theorem Known.alloc {w : World} {b n : Nat} {S : Bs → Bool} (h : Known w b n S) (o : Obj) : Known (w.alloc o) b n S := h.kept (World.grownBy_alloc w o none) (by simp)
theorem Known.drew {w : World} {b n : Nat} {S : Bs → Bool} (h : Known w b n S) : Known w.drew b n S := h
theorem Known.look {w : World} {b n : Nat} {S : Bs → Bool} (h : Known w b n S) (t : TypeId) (ht : Tryd.prog.underlying t = some (.map 9 4)) (s : ByteArray) (hs : s.size ≤ maxLen) :
    (Instr.lookup t (.map (some b)) (.string s) false).run Tryd.prog w = .ok (.bool (S s.data.toList)) w := by
  obtain ⟨D, h1, h2⟩ := h
  obtain ⟨v, ps, hrun, hv⟩ := h1.lookup keyLaw ht (zero4 w) (plainElem_bool Tryd.underlying4 false) (keyOf_string_mk Tryd.underlying9 hs)
  rw [h2] at hv
  rw [hrun, plainElem_bool_inv Tryd.underlying4 hv]
/-- 'm[s] = true' as a step of the walk. -/
theorem wpList_known {w : World} {ops : Array Oper} {rest : List Oper} {o : Oper} {a : Act} {Q : Exit → Act → World → Prop} (hg : o.guard = none) (m x : Operand) (t : TypeId) (hop : o.op = .mapUpdate t m x (.const (.bool true)))
    (ht : Tryd.prog.underlying t = some (.map 9 4)) (b n : Nat) (S : Bs → Bool) (hm : a.eval m = .map (some b)) (h : Known w b n S) (hn : n < maxLen) (s : ByteArray) (hs : s.size ≤ maxLen) (hx : a.eval x = .string s)
    (hK : ∀ w', Known w' b (n + 1) (fun u => S u || u == s.data.toList) → w.grownBy w' (some b) → wpList Tryd.prog ops Q rest (a.put o.dst undef) w') : wpList Tryd.prog ops Q (o :: rest) a w := by
  obtain ⟨D, h1, h2⟩ := h
  refine wpList_mapUpdate_own w hg m x _ t hop 9 4 keyLaw ht _ b n D hm h1 hn _ _ _ hx rfl (keyOf_string_mk Tryd.underlying9 hs) _ [] (plainElem_bool Tryd.underlying4 true) ?_
  intro w' h3 h4
  refine hK w' ⟨_, h3, fun u => ?_⟩ h4
  by_cases hu : u = s.data.toList
  · subst hu
    rw [atKey_put_same (k := .string s.data.toList) h1.isMap trivial]
    simp
  · rw [atKey_put_other (by intro e; exact hu (by injection e)), h2]
    simp [hu]
end Go.Proofs.YtlkfnhcnfjdgbaaDoor
/- names.Table.may at one update of an empty table, walked: no error. -/
namespace Go.Proofs.YtlkfnhcnfjdgbaaDoor
open Go.RowKit Go.Maps Go.WideMaps
theorem One.below {w w' : World} {g : Nat} {i : ByteArray} (h : One w g i) {B : Nat} (hB : g < B) (hb : Below B w w') : One w' g i :=
  ⟨(hb.cell (p := ⟨g, 0, none⟩) hB).trans h.1, (hb.cell (p := ⟨g, 1, none⟩) hB).trans h.2.1, (hb.cell (p := ⟨g, 2, none⟩) hB).trans h.2.2⟩
theorem Known.below {w w' : World} {b n : Nat} {S : Bs → Bool} (h : Known w b n S) (hb : Below w.heap.size w w') : Known w' b n S :=
  h.kept (row := none) ⟨hb.os, hb.tape, hb.output, hb.size, fun k hk _ => hb.block k hk⟩ (by simp)
set_option maxRecDepth 100000 in
set_option maxHeartbeats 4000000 in
theorem may_one (g cap : Nat) (hd i : ByteArray) (hi : i.size = 32) (m : Int) (w : World) (hm : w.cell? ⟨0, 0, none⟩ = some (.int .i64 m)) (h : One w g i) :
    Calls Tryd.prog 27 #[.agg #[.slice none 0 0, .string hd, .slice none 0 0], .slice (some ⟨g, 0, none⟩) 1 cap, .string ⟨#[]⟩] w fun e w' => e = .returned (.int .i64 0) ∧ Below w.heap.size w w' := by
  have hmm := @run_makeMap Tryd.prog
  have hgl : g < w.heap.size := cell_lt h.1
  have hb1 := below_alloc w (.cells #[.slice none 0 0, .string hd, .slice none 0 0] 31)
  have hs1 := hb1.size
  have KC := cont_one g cap i m _ ((hb1.cell (p := ⟨0, 0, none⟩) (cell_lt hm)).trans hm) (h.below hgl hb1)
  have hX : w.heap.size < (w.alloc (.cells #[.slice none 0 0, .string hd, .slice none 0 0] 31)).heap.size := by simp
  have hn := heap_alloc_new w (.cells #[.slice none 0 0, .string hd, .slice none 0 0] 31)
  have HT := Lib.hid (show ∀ w', Below (w.alloc (.cells #[.slice none 0 0, .string hd, .slice none 0 0] 31)).heap.size (w.alloc (.cells #[.slice none 0 0, .string hd, .slice none 0 0] 31)) w' →
      w'.cell? ⟨w.heap.size, 0, none⟩ = some (.slice none 0 0) ∧ w'.cell? ⟨w.heap.size, 1, none⟩ = some (.string hd) ∧ w'.cell? ⟨w.heap.size, 2, none⟩ = some (.slice none 0 0) from fun w' hb => by
    refine ⟨(hb.cell (p := ⟨w.heap.size, 0, none⟩) hX).trans ?_, (hb.cell (p := ⟨w.heap.size, 1, none⟩) hX).trans ?_, (hb.cell (p := ⟨w.heap.size, 2, none⟩) hX).trans ?_⟩
    all_goals (unfold World.cell?; rw [hn]; simp))
  obtain ⟨W, hW⟩ : ∃ W, w.alloc (.cells #[.slice none 0 0, .string hd, .slice none 0 0] 31) = W := ⟨_, rfl⟩
  rw [hW] at KC HT hb1 hs1 hX
  have hW' := Lib.hid hW
  have HO := Lib.hid h
  clear hW hn h hm
  have hs32 := Lib.hid hi
  clear hi
  go_enter Tryd.func27, Tryd.ntmps27
  go_wp2_with (go_at_call 49; rw [hW'.out]; refine KC.mono ?_)
  rintro e w2 ⟨rfl, hb2⟩
  clear KC
  have hs2 := hb2.size
  have hB2 : Below w.heap.size w w2 := hb1.trans (hb2.mono hs1)
  go_wp2
  go_loopw [35] (fun k wr => (k = .int .i64 0 ∧ Known wr w2.heap.size 0 (fun _ => false) ∧ Below W.heap.size W wr) ∨ (k = .int .i64 1 ∧ Below W.heap.size W wr)) (fun k _ => 1 - (intOf k).toNat)
  case atStart => exact .inl ⟨rfl, Known.made w2, (hb2.alloc hs2 _)⟩
  case round =>
    clear hb2
    rcases hrel with ⟨rfl, hkn, hb⟩ | ⟨rfl, hb⟩
    · have hsz := hb.size
      have hB : Below w.heap.size w wr := hb1.trans (hb.mono hs1)
      obtain ⟨o0, o1, o2⟩ := HO.out.below hgl hB
      have hkn1 := hkn.alloc (.cells #[.string (mk aB), .string ⟨#[]⟩, .string i] 39)
      have l1 := hkn1.look 93 Tryd.underlying93 (mk aB) (by decide)
      have KR := right_one (mk aB) i hs32.out (wr.alloc (.cells #[.string (mk aB), .string ⟨#[]⟩, .string i] 39))
      have hwX : wr.heap.size < (wr.alloc (.cells #[.string (mk aB), .string ⟨#[]⟩, .string i] 39)).heap.size := by simp
      have hwn := heap_alloc_new wr (.cells #[.string (mk aB), .string ⟨#[]⟩, .string i] 39)
      have hal := hb.alloc hsz (.cells #[.string (mk aB), .string ⟨#[]⟩, .string i] 39)
      obtain ⟨A, hA⟩ : ∃ A, mk aB = A := ⟨_, rfl⟩
      rw [hA] at l1 KR hkn1 hwX hwn hal o0
      have hAs : A.size ≤ maxLen := by rw [← hA]; decide
      clear hA hkn
      go_wp2_with (go_at_call 51; refine KR.mono ?_)
      rintro e w4 ⟨rfl, hb4⟩
      have x0 : w4.cell? ⟨wr.heap.size, 0, none⟩ = some (.string A) := (hb4.cell (p := ⟨wr.heap.size, 0, none⟩) hwX).trans (by unfold World.cell?; rw [hwn]; simp)
      have hkn4 := Known.below hkn1 hb4
      have hB4 := hal.trans (hb4.mono (by simp; omega))
      clear KR l1 hkn1 hwn hb4 hal o0 o1 o2
      go_wp2_with (at_mapUpdate; refine wpList_known rfl _ _ 93 rfl Tryd.underlying93 w2.heap.size 0 _ rfl hkn4 (by decide) A hAs rfl ?_)
      intro w5 hkn5 hg5
      have hB5 : Below W.heap.size W w5 := hB4.grown hg5 hB4.size (fun k e => by cases e; exact hs2)
      go_wp2
      go_roundw
      case rel => exact .inr ⟨rfl, hB5⟩
      case measure => simp [intOf]
    · go_wp2
      go_loopw [54] (fun k wr => (k = .int .i64 0 ∨ k = .int .i64 1) ∧ Below W.heap.size W wr) (fun k _ => 1 - (intOf k).toNat)
      case atStart => exact ⟨.inl rfl, hb⟩
      case round =>
        clear hb
        obtain ⟨rfl | rfl, hb⟩ := hrel
        · have hsz := hb.size
          have hB : Below w.heap.size w wr := hb1.trans (hb.mono hs1)
          obtain ⟨o0, o1, o2⟩ := HO.out.below hgl hB
          have hal := hb.alloc hsz (.cells #[.string (mk aB), .string ⟨#[]⟩, .string i] 39)
          obtain ⟨t0, t1, t2⟩ := HT.out _ hal
          have KG := get_zero hd (mk aB) (wr.alloc (.cells #[.string (mk aB), .string ⟨#[]⟩, .string i] 39))
          have hwX : wr.heap.size < (wr.alloc (.cells #[.string (mk aB), .string ⟨#[]⟩, .string i] 39)).heap.size := by simp
          have hwn := heap_alloc_new wr (.cells #[.string (mk aB), .string ⟨#[]⟩, .string i] 39)
          obtain ⟨A, hA⟩ : ∃ A, mk aB = A := ⟨_, rfl⟩
          rw [hA] at KG hwX hwn hal o0 t0 t1 t2
          clear hA
          go_wp2_with (go_at_call 21; refine KG.mono ?_)
          rintro e w4 ⟨rfl, hb4⟩
          have x1 : w4.cell? ⟨wr.heap.size, 1, none⟩ = some (.string ⟨#[]⟩) := (hb4.cell (p := ⟨wr.heap.size, 1, none⟩) hwX).trans (by unfold World.cell?; rw [hwn]; simp)
          have hB4 := hal.trans (hb4.mono (by simp; omega))
          clear KG hwn hb4 hal o0 o1 o2 t0 t1 t2
          go_wp2
          go_roundw
          case rel => exact ⟨.inr rfl, hB4⟩
          case measure => simp [intOf]
        · go_wp2
          go_ret
          exact ⟨rfl, hb1.trans (hb.mono hs1)⟩
end Go.Proofs.YtlkfnhcnfjdgbaaDoor
