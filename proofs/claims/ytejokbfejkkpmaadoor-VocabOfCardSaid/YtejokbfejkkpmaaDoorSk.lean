/- stemmalaw09.speaks, walked: it says true. -/
import Derived.Test.YtejokbfejkkpmaaDoorSh
namespace Go.Proofs.YtejokbfejkkpmaaDoor
open Go.RowKit Go.Maps Go.WideMaps
def abT : List Bs := ofT [([97], [98])]
theorem abT_len : abT.length = 95 := by decide
theorem abT_small : ∀ t ∈ abT, t.length ≤ 64 := by decide
theorem abT_id : idsL 0 abT [97, 98] = some 94 := by decide
theorem abT_last : abT[94]'(by rw [abT_len]; omega) = [97, 98] := by decide
theorem ab_show : showT Lib.decDigits [(94, [97, 98])] = [57, 52, 32, 97, 98, 10] := by decide +kernel
theorem row_cap {w : World} {B cap n size : Nat} {e : TypeId} {A : Option Addr} {xs : List Value} (h : w.ownsRow B e size (.slice A n cap) n xs) : n ≤ cap := by
  rcases h.2 with ⟨hv, h0⟩ | ⟨g, c, cur, hv, _, _, hc, _⟩
  · omega
  · injection hv with _ _ h3
    subst h3
    exact hc
set_option maxRecDepth 100000 in
set_option maxHeartbeats 4000000 in
theorem speaks_any (w : World) : Calls Tryd.prog 9 #[] w fun e w' => e = .returned (.bool true) ∧ Below w.heap.size w w' := by
  have hP : Pairs (w.alloc (.cells #[.string ⟨#[97]⟩, .string ⟨#[98]⟩] 55)) (some ⟨w.heap.size, 0, none⟩) [([97], [98])] := by
    refine ⟨fun _ => ⟨w.heap.size, rfl, by simp, fun j h => ?_⟩, by intro p hp; simp at hp; subst hp; decide⟩
    obtain rfl : j = 0 := by simpa using h
    exact ⟨World.news_of_block (heap_alloc_new w _) 0 _ rfl, World.news_of_block (heap_alloc_new w _) 1 _ rfl⟩
  have KO := of_any (some ⟨w.heap.size, 0, none⟩) 1 [([97], [98])] _ (by simp) hP
  rw [show ofT [([97], [98])] = abT from rfl, abT_len] at KO
  have hB0 := below_alloc w (.cells #[.string ⟨#[97]⟩, .string ⟨#[98]⟩] 55)
  simp only [List.length_cons, List.length_nil, Nat.zero_add] at KO
  have hs0 := hB0.size
  have ht64 : ∀ t ∈ abT, t.length ≤ maxLen := fun t h => Nat.le_trans (abT_small t h) (by decide)
  go_enter Tryd.func9, Tryd.ntmps9
  go_wp2_with (go_at_call 11; refine KO.mono ?_)
  rintro e w1 ⟨v, rfl, hrow, hb1⟩
  clear KO hP
  obtain ⟨A, cap, rfl⟩ := own_form hrow
  obtain ⟨g, c, hv, hgb, hgl⟩ := hrow.form (by omega)
  injection hv with hA _ hc
  subst hA
  subst hc
  have hcap := row_cap hrow
  have hB1 : Below w.heap.size w w1 := hB0.trans (hb1.mono hs0)
  have hs1 := hB1.size
  have KN := new_any g cap abT w1 (fun j u h => (hrow.cellAt j (by have := (List.getElem?_eq_some_iff.1 h).1; rw [ents_length, abT_len] at this; omega)).trans h) (by rw [abT_len]; omega) (by rw [abT_len]; omega) ht64
  rw [abT_len] at KN
  go_wp2_with (first | (go_at_call 14; refine KN.mono ?_))
  rintro e w2 ⟨b, rfl, hidx, hb2⟩
  clear KN
  have hb := hidx
  obtain ⟨_, _, _, _, hbb, hblk, _⟩ := hb
  have KI := id_any _ b abT false 0 [97, 98] w2 hidx (by rw [abT_len]; omega) (by omega) hb2.size (by decide)
  rw [abT_id] at KI
  go_wp2_with (first | (go_at_call 19; refine KI.mono ?_))
  rintro e w3 ⟨rfl, _, hg3⟩
  have hrow3 := (own_below hrow hb2).kept hg3 (.inr (by simp [Value.ownBlock]; omega))
  have hB3 : Below w.heap.size w w3 := (hB1.trans (hb2.mono hs1)).grown hg3 (by have := hb2.size; omega) (fun k e => by cases e; omega)
  have he : EArg w3 (some ⟨g, 94 * 2, none⟩) [(94, [97, 98])] := by
    intro _
    refine ⟨g, 94 * 2, rfl, (hrow3.lt g rfl).2, fun j h => ?_⟩
    obtain rfl : j = 0 := by simpa using h
    have e := ents_at abT 0 94 (by rw [abT_len]; omega)
    rw [abT_last] at e
    have x1 := hrow3.cellAt (94 * 2) (by omega)
    have x2 := hrow3.cellAt (94 * 2 + 1) (by omega)
    rw [e.1] at x1
    rw [e.2] at x2
    exact ⟨x1, x2⟩
  have KS := show_any Lib.decDigits (some ⟨g, 94 * 2, none⟩) (cap - 94) [(94, [97, 98])] w3 he (by simp) (by rw [ab_show]; decide) (by
    intro w' _ _ j h
    obtain rfl : j = 0 := by simpa using h
    refine (Tryd.strconv_Itoa_small 94 (by omega) w').mono ?_
    rintro e w'' ⟨rfl, rfl⟩
    exact ⟨rfl, Below.refl _ _⟩)
  rw [ab_show] at KS
  simp only [List.length_cons, List.length_nil, Nat.zero_add] at KS
  clear KI hidx hblk hrow hrow3 he
  go_wp2_with (first | (go_at_call 26; refine KS.mono ?_))
  rintro e w4 ⟨rfl, hb4⟩
  rw [show mk [57, 52, 32, 97, 98, 10] = { data := #[57, 52, 32, 97, 98, 10] } from rfl]
  go_wp2
  go_ret
  exact ⟨rfl, hB3.trans (hb4.mono hB3.size)⟩
end Go.Proofs.YtejokbfejkkpmaaDoor
