/- A map of entries that are changed: what it holds, its keys in order. -/
import Derived.Test.YtcmcdddnckcpcaaGreatDoorLa
namespace Go.Proofs.YtcmcdddnckcpcaaGreatDoor
open Go.RowKit Go.Maps
theorem keyLaw3 : Keyed Tryz.prog 3 := int_keyed Tryz.underlying3
theorem zero9 (w : World) : (zeroValue 9).run Tryz.prog w = .ok (.string ⟨#[]⟩) w := by kernel_rfl
theorem wf64 (i : Int) (h0 : -9223372036854775808 ≤ i) (h1 : i ≤ 9223372036854775807) : (Lit.int .i64 i).wf = true := by
  have e0 : IntKind.i64.min = -9223372036854775808 := by decide
  have e1 : IntKind.i64.max = 9223372036854775807 := by decide
  simp [Lit.wf, e0, e1]; omega
def chOf (C : List (Nat × Bs)) (i : Int) : Option Bs := (C.find? fun c => (c.1 : Int) == i).map (·.2)
/-- Block Mc of w is the map of the texts C; its numbers rise. -/
def CM (w : World) (Mc : Nat) (C : List (Nat × Bs)) : Prop :=
  ∃ Dc : DataW Value, w.ownsMap Tryz.prog 3 rawE Mc C.length Dc ∧ C.Pairwise (fun a b => a.1 < b.1) ∧ Maps.size Dc = C.length ∧
    ∀ i : Int, Maps.has Dc (.int .i64 i) = (chOf C i).isSome ∧ ∀ z, Dc.atKey (.int .i64 i) z = ((chOf C i).map fun t => DataW.held (.string (mk t))).getD z
theorem CM.lt {w : World} {Mc : Nat} {C : List (Nat × Bs)} (h : CM w Mc C) : Mc < w.heap.size := by obtain ⟨Dc, h1, _⟩ := h; exact h1.lt
theorem CM.block {w w' : World} {Mc : Nat} {C : List (Nat × Bs)} (h : CM w Mc C) (hb : w'.heap[Mc]? = w.heap[Mc]?) : CM w' Mc C := by
  obtain ⟨Dc, ⟨es, clock, h1, h3⟩, h2⟩ := h
  exact ⟨Dc, ⟨es, clock, hb.trans h1, h3⟩, h2⟩
theorem CM.not_cells {w : World} {Mc g : Nat} {C : List (Nat × Bs)} (h : CM w Mc C) {cs : Array Value} {t : TypeId} {fr : Nat × Nat} (hg : w.heap[g]? = some (.cells cs t fr)) : g ≠ Mc := by
  obtain ⟨Dm, ⟨es, clock, h1, _⟩, _⟩ := h
  rintro rfl
  rw [h1] at hg
  cases hg
theorem CM.made (w : World) : CM (w.alloc (.map #[] 0)) w.heap.size [] := ⟨.map [], World.ownsMap_made _ _ _ _, List.Pairwise.nil, rfl, fun _ => ⟨rfl, fun _ => rfl⟩⟩
theorem CM.look {w : World} {Mc : Nat} {C : List (Nat × Bs)} (h : CM w Mc C) (i : Nat) (hi : i ≤ 1000000) : (Instr.lookup 102 (.map (some Mc)) (.int .i64 (i : Int)) false).run Tryz.prog w = .ok (.string (mk ((chOf C i).getD []))) w := by
  obtain ⟨Dc, h1, _, _, h4⟩ := h
  obtain ⟨v, ps, hrun, hv⟩ := h1.lookup keyLaw3 Tryz.underlying102 (zero9 w) (zd := .held (.string ⟨#[]⟩)) (zp := []) rfl (keyOf_int_mk (a := (i : Int)) Tryz.underlying3 (wf64 i (by omega) (by omega)))
  rw [(h4 i).2] at hv
  have hv' := rawE_inv hv
  rw [hrun]
  cases hf : chOf C (i : Int) with
  | none => rw [hf] at hv'; simp at hv'; rw [← hv']; rfl
  | some t => rw [hf] at hv'; simp at hv'; rw [← hv']; rfl
theorem chOf_mem {C : List (Nat × Bs)} (h : C.Pairwise (fun a b => a.1 < b.1)) {c : Nat × Bs} (hc : c ∈ C) : chOf C (c.1 : Int) = some c.2 := by
  unfold chOf
  induction C with
  | nil => cases hc
  | cons a C ih =>
    rw [List.pairwise_cons] at h
    rw [List.find?_cons]
    rcases List.mem_cons.1 hc with rfl | hc
    · simp
    · have := h.1 c hc
      rw [beq_eq_false_iff_ne.2 (by omega)]
      exact ih h.2 hc
theorem chOf_some {C : List (Nat × Bs)} {i : Int} (h : (chOf C i).isSome = true) : ∃ c ∈ C, (c.1 : Int) = i := by
  unfold chOf at h
  rw [Option.isSome_map] at h
  obtain ⟨c, hc⟩ := Option.isSome_iff_exists.1 h
  exact ⟨c, List.mem_of_find?_eq_some hc, by simpa using List.find?_some hc⟩
/-- The keys in order. -/
theorem CM.keys {w : World} {Mc : Nat} {C : List (Nat × Bs)} {Dc : DataW Value} (hown : w.ownsMap Tryz.prog 3 rawE Mc C.length Dc) (hp : C.Pairwise (fun a b => a.1 < b.1)) (hh : ∀ i : Int, Maps.has Dc (.int .i64 i) = (chOf C i).isSome) (ss : List Int) (hs : ss.Perm (intKeys Dc)) :
    ss.mergeSort (fun x y => decide (x ≤ y)) = C.map fun c => (c.1 : Int) := by
  have hpw : (C.map fun c => (c.1 : Int)).Pairwise (fun a b => a < b) := List.pairwise_map.2 (hp.imp fun h => by omega)
  have h1 : (C.map fun c => (c.1 : Int)).Perm (intKeys Dc) := CollectedI.perm (left := fun _ => false) ⟨hpw.imp fun h => Int.ne_of_lt h, fun x => by
    rw [hh x]
    simp only [and_true]
    constructor
    · intro hx
      obtain ⟨c, hc, rfl⟩ := List.mem_map.1 hx
      rw [chOf_mem hp hc]; rfl
    · intro hx
      obtain ⟨c, hc, rfl⟩ := chOf_some hx
      exact List.mem_map.2 ⟨c, hc, rfl⟩⟩ hown keyLaw3 Tryz.underlying3 (fun _ => rfl)
  have h2 := mergeSort_of_perm_i (hs.trans h1.symm)
  have h3 : (C.map fun c => (c.1 : Int)).mergeSort leI = C.map fun c => (c.1 : Int) := List.mergeSort_of_pairwise (hpw.imp fun h => by simp only [leI, decide_eq_true_eq]; omega)
  exact h2.trans h3
/-- 'changed[i] = t', i new. -/
theorem CM.store {w : World} {Mc : Nat} {C C' : List (Nat × Bs)} (h : CM w Mc C) (i : Nat) (t : Bs) (hi : i ≤ 1000000) (hl : C.length ≤ 1000) (hp : C'.Pairwise (fun a b => a.1 < b.1)) (hlen : C'.length = C.length + 1) (hnew : chOf C (i : Int) = none) (hC : ∀ k : Int, chOf C' k = if k = (i : Int) then some t else chOf C k) :
    ∃ w', (Instr.mapUpdate 102 (.map (some Mc)) (.int .i64 (i : Int)) (.string (mk t))).run Tryz.prog w = .ok () w' ∧ CM w' Mc C' ∧ w.grownBy w' (some Mc) := by
  obtain ⟨Dc, h1, h2, h3, h4⟩ := h
  obtain ⟨w', hrun, hown, hg⟩ := h1.update keyLaw3 Tryz.underlying102 (by unfold maxLen; omega) (keyOf_int_mk (a := (i : Int)) Tryz.underlying3 (wf64 i (by omega) (by omega))) (val := .string (mk t)) (d := .held (.string (mk t))) (ps := []) rfl
  have hsz : Maps.size (Dc.put (.int .i64 (i : Int)) (.held (.string (mk t)))) = C'.length := by rw [size_put (h1.tidy keyLaw3), (h4 i).1, hnew, h3, hlen]; rfl
  refine ⟨w', hrun, ⟨_, by rw [← hsz]; exact own_tight hown, hp, hsz, fun k => ?_⟩, hg⟩
  by_cases hk : k = (i : Int)
  · subst hk
    rw [hC, if_pos rfl]
    refine ⟨by rw [has_put_same (k := .int .i64 (i : Int)) h1.isMap trivial]; rfl, fun z => ?_⟩
    rw [atKey_put_same (k := .int .i64 (i : Int)) h1.isMap trivial]; rfl
  · rw [hC, if_neg hk]
    have hne : (Lit.int .i64 k) ≠ .int .i64 (i : Int) := fun e => hk (by injection e)
    exact ⟨by rw [has_put_other hne, (h4 k).1], fun z => by rw [atKey_put_other hne, (h4 k).2 z]⟩
theorem chOf_one (i : Nat) (t : Bs) (k : Int) : chOf [(i, t)] k = if k = (i : Int) then some t else none := by
  unfold chOf
  rw [List.find?_cons]
  by_cases h : k = (i : Int)
  · subst h; simp
  · rw [if_neg h, beq_eq_false_iff_ne.2 (fun e => h e.symm)]; rfl
theorem CM.one {w : World} {Mc : Nat} (h : CM w Mc []) (i : Nat) (t : Bs) (hi : i ≤ 1000000) :
    ∃ w', (Instr.mapUpdate 102 (.map (some Mc)) (.int .i64 (i : Int)) (.string (mk t))).run Tryz.prog w = .ok () w' ∧ CM w' Mc [(i, t)] ∧ w.grownBy w' (some Mc) :=
  h.store i t hi (by simp) (by simp) rfl rfl (fun k => by rw [chOf_one]; rfl)
/-- Two entries, in order. -/
def two2 (i : Nat) (t : Bs) (j : Nat) (u : Bs) : List (Nat × Bs) := if i < j then [(i, t), (j, u)] else [(j, u), (i, t)]
theorem CM.two {w : World} {Mc : Nat} (i j : Nat) (t u : Bs) (h : CM w Mc [(i, t)]) (hj : j ≤ 1000000) (hne : i ≠ j) :
    ∃ w', (Instr.mapUpdate 102 (.map (some Mc)) (.int .i64 (j : Int)) (.string (mk u))).run Tryz.prog w = .ok () w' ∧ CM w' Mc (two2 i t j u) ∧ w.grownBy w' (some Mc) := by
  refine h.store j u hj (by simp) ?_ ?_ ?_ (fun k => ?_)
  · unfold two2
    split
    · simp; assumption
    · simp; omega
  · unfold two2; split <;> rfl
  · rw [chOf_one, if_neg (by omega)]
  · rw [chOf_one]
    unfold two2 chOf
    split
    · rw [List.find?_cons, List.find?_cons]
      by_cases h1 : k = (i : Int)
      · subst h1; rw [if_neg (by omega)]; simp
      · rw [beq_eq_false_iff_ne.2 (fun e => h1 e.symm)]
        by_cases h2 : k = (j : Int)
        · subst h2; simp
        · rw [if_neg h2, if_neg h1]
          simp only [beq_eq_false_iff_ne.2 (fun e => h2 e.symm : (j : Int) ≠ k)]
          rfl
    · rw [List.find?_cons, List.find?_cons]
      by_cases h2 : k = (j : Int)
      · subst h2; simp
      · rw [if_neg h2]
        simp only [beq_eq_false_iff_ne.2 (fun e => h2 e.symm : (j : Int) ≠ k)]
        by_cases h1 : k = (i : Int)
        · subst h1; simp
        · rw [if_neg h1]
          simp only [beq_eq_false_iff_ne.2 (fun e => h1 e.symm : (i : Int) ≠ k)]
          rfl
theorem keysOf_any (Mc : Nat) (w : World) : Calls Tryz.prog 89 #[.map (some Mc)] w fun e w' => e = .returned (.func (.func 114) #[] #[.pointer (some ⟨w.heap.size, 0, none⟩)]) ∧ w' = w.alloc (.cells #[.map (some Mc)] 102) :=
  callsIn_wide.1 (Tryz.maps_Keys_89 (some Mc) w)
/-- The keys, sorted. -/
theorem sorted_any (Mc : Nat) (C : List (Nat × Bs)) (w : World) (h : CM w Mc C) (hl : C.length ≤ 1000) :
    Calls Tryz.prog 88 #[.func (.func 114) #[] #[.pointer (some ⟨w.heap.size, 0, none⟩)]] (w.alloc (.cells #[.map (some Mc)] 102)) fun e w' =>
      ∃ A c, e = .returned (.slice A C.length c) ∧ w'.ownsRow (w.heap.size + 1) 3 1 (.slice A C.length c) C.length (ncells (C.map (·.1))) ∧ Below (w.heap.size + 1) (w.alloc (.cells #[.map (some Mc)] 102)) w' := by
  obtain ⟨Dc, h1, h2, h3, h4⟩ := h
  refine (callsIn_wide.1 (Tryz.slices_Sorted_keys_88_89 Mc C.length Dc rawE w h1 (by rw [h3]; unfold maxLen; omega) (by omega))).mono ?_
  rintro e w' ⟨v, ss, rfl, hp, hrow, _, hb⟩
  have hk := CM.keys h1 h2 (fun i => (h4 i).1) ss hp
  have hlen : ss.length = C.length := by have := congrArg List.length hk; simpa using this
  rw [hk, hlen, World.size_alloc] at hrow
  rw [World.size_alloc] at hb
  obtain ⟨A, c, rfl⟩ := row_form hrow
  refine ⟨A, c, rfl, ?_, hb⟩
  have e : (C.map fun c => (c.1 : Int)).map encZ = ncells (C.map (·.1)) := by simp [ncells]
  rw [e] at hrow
  exact hrow
end Go.Proofs.YtcmcdddnckcpcaaGreatDoor
