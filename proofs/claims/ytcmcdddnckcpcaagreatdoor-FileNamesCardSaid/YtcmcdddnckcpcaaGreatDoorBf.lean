/- Byte buffers that the call itself made. -/
import Derived.Test.YtcmcdddnckcpcaaGreatDoorKt
import Derived.WalkSpells
import Derived.WalkLawsBesides
import Derived.Laws.IdiomStrings
namespace Go.Proofs.YtcmcdddnckcpcaaGreatDoor
open Go.RowKit
/-- Block g holds the bytes bs (type e), then some more cells; none of the bytes is frozen. -/
def Buf (w : World) (g : Nat) (e : TypeId) (bs : List Nat) : Prop :=
  ∃ (pad : List Value) (lo hi : Nat), w.heap[g]? = some (.cells ((bs.map (fun b : Nat => Value.int .u8 (b : Int))) ++ pad).toArray e (lo, hi)) ∧ (lo = hi ∨ bs.length ≤ lo)

theorem Buf.lt {w : World} {g : Nat} {e : TypeId} {bs : List Nat} (h : Buf w g e bs) : g < w.heap.size := by
  obtain ⟨pad, lo, hi, h, _⟩ := h
  rcases Nat.lt_or_ge g w.heap.size with hlt | hge
  · exact hlt
  · rw [Array.getElem?_eq_none hge] at h; cases h
theorem Buf.keep {w w' : World} {g : Nat} {e : TypeId} {bs : List Nat} (h : Buf w g e bs) (hk : w'.heap[g]? = w.heap[g]?) : Buf w' g e bs := by
  obtain ⟨pad, lo, hi, h, hf⟩ := h
  exact ⟨pad, lo, hi, hk.trans h, hf⟩
theorem Buf.drew {w : World} {g : Nat} {e : TypeId} {bs : List Nat} (h : Buf w g e bs) : Buf w.drew g e bs := h
theorem Buf.alloc {w : World} {g : Nat} {e : TypeId} {bs : List Nat} (h : Buf w g e bs) (o : Obj) : Buf (w.alloc o) g e bs := h.keep (Below.heap_alloc w o g h.lt)
theorem Buf.far {w : World} {g : Nat} {e : TypeId} {bs : List Nat} (h : Buf w g e bs) {p : Addr} (hp : g ≠ p.block) (u : Value) : Buf (w.setCell p u) g e bs := h.keep (Below.heap_setCell w p u g hp)
theorem Buf.cell {w : World} {g : Nat} {e : TypeId} {bs : List Nat} (h : Buf w g e bs) {i : Nat} (hi : i < bs.length) : w.cell? ⟨g, i, none⟩ = some (.int .u8 (bs[i] : Int)) := by
  obtain ⟨pad, lo, hi', h, _⟩ := h
  unfold World.cell?
  rw [h]
  simp [List.getElem?_append_left, hi]
theorem Buf.frozen {w : World} {g : Nat} {e : TypeId} {bs : List Nat} (h : Buf w g e bs) {i : Nat} (hi : i < bs.length) : w.frozen? ⟨g, i, none⟩ = false := by
  obtain ⟨pad, lo, hi', h, hf⟩ := h
  unfold World.frozen?
  rw [h]
  simp
  omega
theorem Buf.set {w : World} {g : Nat} {e : TypeId} {bs : List Nat} (h : Buf w g e bs) {i : Nat} (hi : i < bs.length) (b : Nat) : Buf (w.setCell ⟨g, i, none⟩ (.int .u8 (b : Int))) g e (bs.set i b) := by
  obtain ⟨pad, lo, hi', h, hf⟩ := h
  refine ⟨pad, lo, hi', ?_, by simpa using hf⟩
  simp only [World.setCell, Array.getElem?_modify, h]
  simp [List.map_set, hi]

theorem bytesRow_eq (s : ByteArray) (cap : Nat) : bytesRow s cap = (((s.data.toList.map UInt8.toNat).map (fun b : Nat => Value.int .u8 (b : Int))) ++ List.replicate (cap - s.size) (Value.int .u8 0)).toArray := by
  unfold bytesRow
  apply Array.ext'
  simp [Function.comp_def]

/-- '[]byte(s)' as a step of the walk. -/
theorem wpList_bytes {P : Program} {w : World} {ops : Array Oper} {rest : List Oper} {o : Oper} {a : Act} {Q : Exit → Act → World → Prop} (hgd : o.guard = none) (x : Operand) (src dst e : TypeId)
    (ho : o.op = .convert src dst x) (hs : P.underlying src = some .string) (hd : P.underlying dst = some (.slice e)) (he : P.underlying e = some (.int .u8))
    (s : ByteArray) (hx : a.eval x = .string s)
    (h : ∀ (cap : Nat) (w' : World), Buf w' w.heap.size e (s.data.toList.map UInt8.toNat) → Below w.heap.size w w' → w'.heap.size = w.heap.size + 1 →
      wpList P ops Q rest (a.put o.dst (.slice (some ⟨w.heap.size, 0, none⟩) s.size cap)) w') : wpList P ops Q (o :: rest) a w := by
  refine wpList_plain hgd fun _ hK => ?_
  unfold Oper.wp execOp
  simp only [ho, hx, Sem.run_bind, run_bytes_of_string w src dst e s hs hd he, Result.andThen_ok, Sem.run_pure]
  refine hK _ _ (h _ _ ?_ ?_ ?_)
  · refine ⟨List.replicate (grownCap w s.size 0 e - s.size) (Value.int .u8 0), (bytesRow s (grownCap w s.size 0 e)).size, (bytesRow s (grownCap w s.size 0 e)).size + 1, ?_, .inr ?_⟩
    · rw [← bytesRow_eq]
      exact heap_alloc_new w.drew _
    · rw [bytesRow_eq]; simp
  · exact ((Below.refl _ _).drew).alloc (by simp) _
  · simp

end Go.Proofs.YtcmcdddnckcpcaaGreatDoor
