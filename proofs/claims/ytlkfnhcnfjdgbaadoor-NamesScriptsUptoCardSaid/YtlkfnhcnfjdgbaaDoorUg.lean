/- names.Update.right, and names.Table.may's search for a bad name, walked at any updates. -/
import Derived.Test.YtlkfnhcnfjdgbaaDoorAp
import Derived.Test.YtlkfnhcnfjdgbaaDoorNt
namespace Go.Proofs.YtlkfnhcnfjdgbaaDoor
open Go.RowKit Go.Maps Go.WideMaps
def idL (s : Bs) : Bool := decide (s.length = 0 ∨ s.length = 32)
theorem idq_mk (s : Bs) : idqB (mk s) = idL s := by unfold idqB idL; rw [mk_size]
/-- May an update be, but for its name? -/
def rightU (u : Upd) : Bool := idL u.old && (idL u.new && !(u.old == u.new))
def uval (u : Upd) : Value := .agg #[.string (mk u.name), .string (mk u.old), .string (mk u.new)]
theorem mk_toList' (a : Bs) : (mk a).toList = a := by rw [ByteArray.toList_eq, mk_data]
set_option maxRecDepth 100000 in
set_option maxHeartbeats 1600000 in
theorem right_any (u : Upd) (w : World) : Calls Tryd.prog 51 #[uval u] w fun e w' => e = .returned (.bool (rightU u)) ∧ Below w.heap.size w w' := by
  have K := fun s w => idq_any (mk s) w
  simp only [idq_mk] at K
  have q1 := mk_toList' u.old
  have q2 := mk_toList' u.new
  unfold rightU uval
  obtain ⟨a, ha⟩ : ∃ a, mk u.name = a := ⟨_, rfl⟩
  rw [ha]
  cases h1 : idL u.old
  · have f1 := K u.old
    rw [h1] at f1
    obtain ⟨b, hb⟩ : ∃ a, mk u.old = a := ⟨_, rfl⟩
    obtain ⟨c, hc⟩ : ∃ a, mk u.new = a := ⟨_, rfl⟩
    rw [hb] at f1 ⊢
    rw [hc]
    clear K q1 q2 h1 ha hb hc
    go_enter Tryd.func51, Tryd.ntmps51
    go_wp2_with (go_at_call 71; refine (f1 _).mono ?_; rintro e w' ⟨rfl, rfl⟩)
    go_wp2
    go_ret
    exact ⟨rfl, below_alloc _ _⟩
  · cases h2 : idL u.new
    · have f := idq_any
      have e1 : idqB (mk u.old) = true := (idq_mk _).trans h1
      have e2 : idqB (mk u.new) = false := (idq_mk _).trans h2
      obtain ⟨b, hb⟩ : ∃ a, mk u.old = a := ⟨_, rfl⟩
      obtain ⟨c, hc⟩ : ∃ a, mk u.new = a := ⟨_, rfl⟩
      rw [hb] at e1 ⊢
      rw [hc] at e2 ⊢
      clear K q1 q2 h1 h2 ha hb hc
      go_enter Tryd.func51, Tryd.ntmps51
      go_wp2_with (go_at_call 71; refine (f _ _).mono ?_; rintro e w' ⟨rfl, rfl⟩)
      go_ret
      exact ⟨ret_bool (by simp), below_alloc _ _⟩
    · have f := idq_any
      have e1 : idqB (mk u.old) = true := (idq_mk _).trans h1
      have e2 : idqB (mk u.new) = true := (idq_mk _).trans h2
      have e3 : ((mk u.old).toList == (mk u.new).toList) = (u.old == u.new) := by rw [q1, q2]
      obtain ⟨b, hb⟩ : ∃ a, mk u.old = a := ⟨_, rfl⟩
      obtain ⟨c, hc⟩ : ∃ a, mk u.new = a := ⟨_, rfl⟩
      rw [hb] at e1 e3 ⊢
      rw [hc] at e2 e3 ⊢
      clear K q1 q2 h1 h2 ha hb hc
      go_enter Tryd.func51, Tryd.ntmps51
      go_wp2_with (go_at_call 71; refine (f _ _).mono ?_; rintro e w' ⟨rfl, rfl⟩)
      go_ret
      exact ⟨ret_bool (by rw [← e3]; simp), below_alloc _ _⟩
theorem bad_any (u : Upd) (m : Int) (w : World) (hn : u.name.length ≤ 2000000) (hm : w.cell? ⟨0, 0, none⟩ = some (.int .i64 m)) :
    Calls Tryd.prog 50 #[uval u] w fun e w' => e = .returned (.bool (!goodB u.name)) ∧ Below w.heap.size w w' := by
  unfold uval
  have hb := below_alloc w (.cells #[.string (mk u.name), .string (mk u.old), .string (mk u.new)] 39)
  have K := good_any (mk u.name) m (w.alloc (.cells #[.string (mk u.name), .string (mk u.old), .string (mk u.new)] 39)) (by rw [mk_size]; exact hn) ((hb.cell (p := ⟨0, 0, none⟩) (cell_lt hm)).trans hm)
  rw [mk_data] at K
  obtain ⟨A, hA⟩ : ∃ A, mk u.name = A := ⟨_, rfl⟩
  obtain ⟨B, hB⟩ : ∃ A, mk u.old = A := ⟨_, rfl⟩
  obtain ⟨C, hC⟩ : ∃ A, mk u.new = A := ⟨_, rfl⟩
  rw [hA, hB, hC] at K hb ⊢
  have hs := hb.size
  go_enter Tryd.func50, Tryd.ntmps50
  go_wp2_with (go_at_call 8; refine K.mono ?_; rintro e w' ⟨rfl, hb'⟩)
  go_wp2
  go_ret
  exact ⟨rfl, hb.trans (hb'.mono hs)⟩
/-- Updates lie as a slice. -/
def Upds (w : World) (A : Option Addr) (us : List Upd) : Prop :=
  0 < us.length → ∃ g, A = some ⟨g, 0, none⟩ ∧ g < w.heap.size ∧ ∀ j (h : j < us.length), w.cell? ⟨g, j * 3, none⟩ = some (.string (mk us[j].name)) ∧ w.cell? ⟨g, j * 3 + 1, none⟩ = some (.string (mk us[j].old)) ∧ w.cell? ⟨g, j * 3 + 2, none⟩ = some (.string (mk us[j].new))
theorem Upds.below {w w' : World} {A : Option Addr} {us : List Upd} (h : Upds w A us) {B : Nat} (hB : w.heap.size ≤ B) (hb : Below B w w') : Upds w' A us := by
  intro h0
  obtain ⟨g, rfl, hl, hc⟩ := h h0
  have hl' := Nat.lt_of_lt_of_le hl hB
  refine ⟨g, rfl, Nat.lt_of_lt_of_le hl hb.size, fun j hj => ?_⟩
  obtain ⟨c0, c1, c2⟩ := hc j hj
  exact ⟨(hb.cell (p := ⟨g, j * 3, none⟩) hl').trans c0, (hb.cell (p := ⟨g, j * 3 + 1, none⟩) hl').trans c1, (hb.cell (p := ⟨g, j * 3 + 2, none⟩) hl').trans c2⟩
set_option maxHeartbeats 1600000 in
theorem index_upd (A : Option Addr) (cap : Nat) (us : List Upd) (m : Int) (w : World) (hs : ∀ u ∈ us, u.name.length ≤ 2000000) (hn : us.length ≤ 4294967296) (hm : w.cell? ⟨0, 0, none⟩ = some (.int .i64 m)) (hU : Upds w A us) :
    Calls Tryd.prog 70 #[.slice A us.length cap, .func (.func 50) #[] #[]] w fun e w' => (∃ v : Int, e = .returned (.int .i64 v) ∧ decide (0 ≤ v) = !us.all (fun u => goodB u.name)) ∧ Below w.heap.size w w' := by
  obtain ⟨n, hl⟩ : ∃ n, us.length = n := ⟨_, rfl⟩
  rw [hl] at hn ⊢
  have HU := Lib.hid hU
  have HS := Lib.hid hs
  clear hU hs
  go_enter Tryd.func70, Tryd.ntmps70
  go_wp2
  go_loopw [5, 8] (fun _ i wr => ∃ k : Nat, k ≤ n ∧ i = .int .i64 k ∧ (us.take k).all (fun u => goodB u.name) = true ∧ Below w.heap.size w wr) (fun _ i _ => n - (intOf i).toNat)
  case atStart => exact ⟨0, Nat.zero_le _, rfl, rfl, Below.refl _ _⟩
  case round =>
    obtain ⟨k, hk, rfl, hall, hb⟩ := hrel
    by_cases hlt : k < n
    · have hkl : k < us.length := by omega
      obtain ⟨g, rfl, hgl, hc⟩ := HU.out.below (Nat.le_refl _) hb (by omega)
      obtain ⟨c0, c1, c2⟩ := hc k hkl
      have K := bad_any us[k] m wr (HS.out _ (List.getElem_mem hkl)) ((hb.cell (p := ⟨0, 0, none⟩) (cell_lt hm)).trans hm)
      have H1 : (us.take (k + 1)).all (fun u => goodB u.name) = goodB us[k].name := by rw [List.take_succ_eq_append_getElem hkl, List.all_append, hall]; simp
      have H2 : goodB us[k].name = false → us.all (fun u => goodB u.name) = false := fun h => by rw [List.all_eq_false]; exact ⟨_, List.getElem_mem hkl, by simp [h]⟩
      have k0 : (0 : Int) ≤ (k : Int) := by omega
      have k1 : (k : Int) < (n : Int) := by omega
      have hsz := hb.size
      obtain ⟨t, ht⟩ : ∃ t, us[k] = t := ⟨_, rfl⟩
      rw [ht] at c0 c1 c2 K H1 H2
      unfold uval at K
      clear hall ht hc
      cases ho : goodB t.name
      · rw [ho] at K
        have HA := Lib.hid (H2 ho)
        clear H1 H2 ho
        go_wp2_with (go_at_call 50; refine K.mono ?_; rintro e w' ⟨rfl, hb'⟩)
        go_wp2
        go_ret
        exact ⟨⟨_, rfl, by rw [HA.out]; simp⟩, hb.trans (hb'.mono hsz)⟩
      · rw [ho] at K H1
        have HA := Lib.hid H1
        clear H1 H2 ho
        go_wp2_with (go_at_call 50; refine K.mono ?_; rintro e w' ⟨rfl, hb'⟩)
        go_wp2
        go_roundw
        case rel => exact ⟨k + 1, by omega, by go_num, HA.out, hb.trans (hb'.mono hsz)⟩
        case measure => simp [intOf]; omega
    · obtain rfl : k = n := by omega
      have e : us.take k = us := List.take_of_length_le (by omega)
      rw [e] at hall
      have HA := Lib.hid hall
      clear hall e
      go_wp2
      go_ret
      exact ⟨⟨_, rfl, by rw [HA.out]; rfl⟩, hb⟩
theorem contains_upd (A : Option Addr) (cap : Nat) (us : List Upd) (m : Int) (w : World) (hs : ∀ u ∈ us, u.name.length ≤ 2000000) (hn : us.length ≤ 4294967296) (hm : w.cell? ⟨0, 0, none⟩ = some (.int .i64 m)) (hU : Upds w A us) :
    Calls Tryd.prog 49 #[.slice A us.length cap, .func (.func 50) #[] #[]] w fun e w' => e = .returned (.bool (!us.all (fun u => goodB u.name))) ∧ Below w.heap.size w w' := by
  have K := index_upd A cap us m w hs hn hm hU
  go_enter Tryd.func49, Tryd.ntmps49
  go_wp2_with (go_at_call 70; refine K.mono ?_; rintro e w' ⟨⟨v, rfl, hv⟩, hb⟩)
  go_wp2
  go_ret
  exact ⟨ret_bool (by rw [← hv]), hb⟩
end Go.Proofs.YtlkfnhcnfjdgbaaDoor
