/- Small laws that the walks of this part share. -/
import Derived.Test.YtkaejgpnhcdlnaaDoorVcMs
import Derived.RangeFuncBox
import Derived.Lib.SmallJoins
import Derived.WalkLawsBesides
import Derived.Deep.AppendLies
import Derived.Laws.IdiomStrings
import Derived.BigQuiet
namespace Go.Proofs.YtkaejgpnhcdlnaaDoor.Vc
open Go.RowKit Go.Maps Go.WideMaps
theorem info82 : (Tryd.prog.info? 82).map (fun i => (i.zero, i.size, i.bytes)) = some (some (.agg #[.int .i64 0, .string ⟨#[]⟩]), 2, 24) := by kernel_rfl
theorem own_form {w : World} {base size : Nat} {e : TypeId} {v : Value} {n : Nat} {xs : List Value} (h : w.ownsRow base e size v n xs) : ∃ A cap, v = .slice A n cap := by
  rcases h.2 with ⟨rfl, h0⟩ | ⟨g, cap, _, rfl, _⟩
  · subst h0; exact ⟨_, _, rfl⟩
  · exact ⟨_, _, rfl⟩
theorem Known.not_row {w : World} {b n : Nat} {S : Bs → Bool} (h : Known w b n S) {B : Nat} {e : TypeId} {size k : Nat} {v : Value} {xs : List Value} (hr : w.ownsRow B e size v k xs) : v.ownBlock ≠ some b := by
  obtain ⟨D, ⟨es, cl, he, _⟩, _⟩ := h
  rcases hr.2 with ⟨rfl, _⟩ | ⟨g, c, cur, rfl, _, hg, _⟩
  · simp [Value.ownBlock]
  · intro e
    simp only [Value.ownBlock, Option.some.injEq] at e
    subst e
    rw [he] at hg; cases hg
theorem own_below {w w' : World} {b size : Nat} {e : TypeId} {v : Value} {n : Nat} {xs : List Value} (h : w.ownsRow b e size v n xs) (hb : Below w.heap.size w w') : w'.ownsRow b e size v n xs := by
  refine ⟨h.1, h.2.imp id ?_⟩
  rintro ⟨g, cap, cur, h1, h2, h3, h4⟩
  exact ⟨g, cap, cur, h1, h2, (hb.block g (Array.getElem?_eq_some_iff.1 h3).1).trans h3, h4⟩
theorem add_zero' (b : Nat) : ((⟨b, 0, none⟩ : Addr).add 0) = ⟨b, 0, none⟩ := rfl
theorem add_one' (b : Nat) : ((⟨b, 0, none⟩ : Addr).add 1) = ⟨b, 1, none⟩ := rfl
theorem below_alloc (w : World) (o : Obj) : Below w.heap.size w (w.alloc o) := (Below.refl _ w).alloc (Nat.le_refl _) o
theorem below_drew (B : Nat) (w : World) : Below B w w.drew := (Below.refl B w).drew
theorem mk_append (a b : Bs) : mk a ++ mk b = mk (a ++ b) := by
  have h : (mk a ++ mk b).data = (mk (a ++ b)).data := by rw [ByteArray.data_append]; simp [mk]
  exact ByteArray.ext h
theorem heap_new (w : World) (o : Obj) (g : Nat) (h : g = w.heap.size) : (w.alloc o).heap[g]? = some o := by subst h; exact heap_alloc_new w o
end Go.Proofs.YtkaejgpnhcdlnaaDoor.Vc
