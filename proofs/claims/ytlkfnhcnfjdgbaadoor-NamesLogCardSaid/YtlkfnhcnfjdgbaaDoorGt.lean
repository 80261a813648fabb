/- names.Table's find and Get at any table, walked. -/
import Derived.Test.YtlkfnhcnfjdgbaaDoorFg
namespace Go.Proofs.YtlkfnhcnfjdgbaaDoor
open Go.RowKit Go.Maps Go.WideMaps
theorem find_any (A : Option Addr) (cap : Nat) (R : Refs) (hd : ByteArray) (B : Option Addr) (nb cb : Nat) (n : Bs) (w : World) (hs : Sorted R) (hn : R.length ≤ 1000000) (hR : RefsAt w A R) :
    Calls Tryd.prog 30 #[.agg #[.slice A R.length cap, .string hd, .slice B nb cb], .string (mk n)] w fun e w' => e = .returned (.tuple #[.int .i64 (posR R n), .bool (getR R n).isSome]) ∧ Below w.heap.size w w' := by
  have hb := below_alloc w (.cells #[.slice A R.length cap, .string hd, .slice B nb cb] 31)
  have K := bsf_any A cap R n _ hs hn (hR.below (Nat.le_refl _) hb)
  obtain ⟨L, hL⟩ : ∃ L, R.length = L := ⟨_, rfl⟩
  rw [hL] at K hb ⊢
  have hsz := hb.size
  clear hL hR
  go_enter Tryd.func30, Tryd.ntmps30
  go_wp2_with (go_at_call 52; refine K.mono ?_; rintro e w' ⟨rfl, hb'⟩)
  go_wp2
  go_ret2
  exact ⟨rfl, hb.trans (hb'.mono hsz)⟩
theorem get_any (A : Option Addr) (cap : Nat) (R : Refs) (hd : ByteArray) (B : Option Addr) (nb cb : Nat) (n : Bs) (w : World) (hs : Sorted R) (hn : R.length ≤ 1000000) (hR : RefsAt w A R) :
    Calls Tryd.prog 21 #[.agg #[.slice A R.length cap, .string hd, .slice B nb cb], .string (mk n)] w fun e w' => e = .returned (.tuple #[.string (mk ((getR R n).getD [])), .bool (getR R n).isSome]) ∧ Below w.heap.size w w' := by
  have hb := below_alloc w (.cells #[.slice A R.length cap, .string hd, .slice B nb cb] 31)
  have K := find_any A cap R hd B nb cb n _ hs hn (hR.below (Nat.le_refl _) hb)
  have hX := alloc_lt w (.cells #[.slice A R.length cap, .string hd, .slice B nb cb] 31)
  have hVn := heap_alloc_new w (.cells #[.slice A R.length cap, .string hd, .slice B nb cb] 31)
  have hR1 := hR.below (Nat.le_refl _) hb
  have hsz := hb.size
  rcases get_pos R n hs with ⟨h, e1, e2⟩ | ⟨e1, e2⟩
  · obtain ⟨g, rfl, hgl, hc⟩ := hR1 (by omega)
    obtain ⟨_, c1⟩ := hc (posR R n) h
    have E := Lib.hid (show (getR R n).getD [] = R[posR R n].2 by rw [e2]; rfl)
    have E2 := Lib.hid e2
    rw [show (getR R n).isSome = true by rw [e2]; rfl] at K
    have k1 : (posR R n : Int) < (R.length : Int) := by omega
    have k0 : (0 : Int) ≤ (posR R n : Int) := by omega
    obtain ⟨v, hv⟩ : ∃ v, R[posR R n].2 = v := ⟨_, rfl⟩
    rw [hv] at c1 E
    obtain ⟨L, hL⟩ : ∃ L, R.length = L := ⟨_, rfl⟩
    obtain ⟨p, hp⟩ : ∃ p, posR R n = p := ⟨_, rfl⟩
    rw [hL] at K hb hX hVn hgl c1 k1 hsz ⊢
    rw [hp] at K c1 k1 k0
    have G : ∀ w', Below (w.alloc (.cells #[.slice (some ⟨g, 0, none⟩) L cap, .string hd, .slice B nb cb] 31)).heap.size (w.alloc (.cells #[.slice (some ⟨g, 0, none⟩) L cap, .string hd, .slice B nb cb] 31)) w' →
        w'.cell? ⟨w.heap.size, 0, none⟩ = some (.slice (some ⟨g, 0, none⟩) L cap) ∧ w'.cell? ⟨g, p * 2 + 1, none⟩ = some (.string (mk v)) := fun w' hb' =>
      ⟨(hb'.cell (p := ⟨w.heap.size, 0, none⟩) hX).trans (by unfold World.cell?; rw [hVn]; simp), (hb'.cell (p := ⟨g, p * 2 + 1, none⟩) hgl).trans c1⟩
    have hg := Lib.hid G
    clear hc e1 e2 hv hL hp hR hR1 hVn hX c1 G
    go_enter Tryd.func21, Tryd.ntmps21
    go_wp2_with (go_at_call 30; refine K.mono ?_; rintro e w' ⟨rfl, hb'⟩; obtain ⟨g0, g1⟩ := hg.out _ hb')
    go_wp2
    go_ret2
    exact ⟨by rw [E.out, E2.out]; rfl, hb.trans (hb'.mono hsz)⟩
  · have E2 := Lib.hid e1
    rw [show (getR R n).isSome = false by rw [e1]; rfl] at K
    obtain ⟨L, hL⟩ : ∃ L, R.length = L := ⟨_, rfl⟩
    obtain ⟨p, hp⟩ : ∃ p, posR R n = p := ⟨_, rfl⟩
    rw [hL] at K hb hsz ⊢
    rw [hp] at K
    clear e1 e2 hL hp hR hR1 hVn hX
    go_enter Tryd.func21, Tryd.ntmps21
    go_wp2_with (go_at_call 30; refine K.mono ?_; rintro e w' ⟨rfl, hb'⟩)
    go_wp2
    go_ret2
    exact ⟨by rw [E2.out]; rfl, hb.trans (hb'.mono hsz)⟩
end Go.Proofs.YtlkfnhcnfjdgbaaDoor
