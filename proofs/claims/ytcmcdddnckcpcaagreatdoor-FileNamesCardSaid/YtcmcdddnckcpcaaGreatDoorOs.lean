/- A region that draws its order, under a condition on the world of which a part holds until a certain operation has come up. -/
import Derived.Test.YtcmcdddnckcpcaaGreatDoorKt
namespace Go.Proofs.YtcmcdddnckcpcaaGreatDoor
section
variable {P : Program} {ops : Array Oper} {Q : Exit → Act → World → Prop} {md : Region.Mode} {st : Nat} {C1 C2 : World → Prop}
/-- C1 holds; and C2, as long as number st has not come up. -/
def HeldS (st : Nat) (C1 C2 : World → Prop) (L : Array Bool) (w : World) : Prop := C1 w ∧ (L.getD st false = false → C2 w)
/-- Whatever order is picked from here on, and the condition holds behind each operation. -/
def wpAnyS (P : Program) (md : Region.Mode) (ops : Array Oper) (Q : Exit → Act → World → Prop) (st : Nat) (C1 C2 : World → Prop) : Nat → Array Bool → Act → World → Prop
  | 0, L, a, w => Region.ready md ops L = [] ∧ Q .normal a w
  | fuel + 1, L, a, w => (Region.ready md ops L = [] → Q .normal a w) ∧
    ∀ i ∈ Region.ready md ops L, wpOp P ops Q i (fun a' w' => HeldS st C1 C2 (L.setIfInBounds i true) w' ∧ wpAnyS P md ops Q st C1 C2 fuel (L.setIfInBounds i true) a' w') a w
theorem wpAny_of_S : ∀ (fuel : Nat) (L : Array Bool) (a : Act) (w : World), wpAnyS P md ops Q st C1 C2 fuel L a w → wpAny P md ops Q fuel L a w
  | 0, _, _, _, h => h
  | fuel + 1, _, _, _, h => ⟨h.1, fun i hi => wpOp_mono (fun a' w' h' => wpAny_of_S fuel _ a' w' h'.2) (h.2 i hi)⟩
theorem heldS_set {i : Nat} (hne : i ≠ st) {L : Array Bool} {w : World} : HeldS st C1 C2 (L.setIfInBounds i true) w ↔ HeldS st C1 C2 L w := by
  unfold HeldS; rw [getD_set_ne false hne]
theorem wpAnyS_first {i : Nat} {oi : Oper} {v : Value} (C : World → Prop) (G : Array Bool → Prop) (hi : ops[i]? = some oi) (hsel : ∀ (j : Nat) (o : Oper) cs b, ops[j]? = some o → o.op ≠ .select cs b)
    (hQ : ∀ c a w, Q (.panic c) (a.put oi.dst v) w → Q (.panic c) a w) (hne : i ≠ st) (hC : ∀ L w, G L → HeldS st C1 C2 L w → C w)
    (hG : ∀ (L : Array Bool) (j : Nat), G L → L.getD i true = false → j ∈ Region.ready md ops L → j ≠ i → G (L.setIfInBounds j true)) :
    ∀ (fuel : Nat) (L : Array Bool) (a : Act) (w : World), G L →
      (∀ j oj, ops[j]? = some oj → j ≠ i → L.getD j true = false → (∀ e ∈ oj.after, Region.binds md e = true → e.on ≠ i) → oi.apart ops oj = true) →
      i ∈ Region.ready md ops L → YieldsIf P ops C oi v a → HeldS st C1 C2 L w →
      wpAnyS P md ops Q st C1 C2 fuel (L.setIfInBounds i true) (a.put oi.dst v) w → wpAnyS P md ops Q st C1 C2 (fuel + 1) L a w := by
  intro fuel
  induction fuel with
  | zero =>
    intro L a w hL _ hr hy hS H
    refine ⟨fun h => (by rw [h] at hr; cases hr), fun j hj => ?_⟩
    by_cases hji : j = i
    · subst hji
      exact hy.wpOp hi (hC _ _ hL hS) ⟨(heldS_set hne).2 hS, H⟩
    · have := ready_mono hj hji
      rw [H.1] at this
      cases this
  | succ fuel ih =>
    intro L a w hL hfree hr hy hS H
    refine ⟨fun h => (by rw [h] at hr; cases hr), fun j hj => ?_⟩
    by_cases hji : j = i
    · subst hji
      exact hy.wpOp hi (hC _ _ hL hS) ⟨(heldS_set hne).2 hS, H⟩
    · have h1 := H.2 j (ready_mono hj hji)
      have h0 := (mem_ready.1 hr).1
      obtain ⟨hjun, oj, hoj, hall⟩ := mem_ready.1 hj
      have hnot : ∀ e ∈ oj.after, Region.binds md e = true → e.on ≠ i := fun e he hb heq => by
        have k1 := hall e he hb
        rw [heq] at k1
        rcases Nat.lt_or_ge i L.size with h' | h'
        · simp [h'] at h0 k1; rw [h0] at k1; cases k1
        · simp [Array.getElem?_eq_none h'] at k1
      have h2 := wpOp_putIf hoj (hfree j oj hoj hji hjun hnot) (fun cs b => hsel i oi cs b hi) (fun cs b => hsel j oj cs b hoj) hQ hy h1
      have hfree' : ∀ k ok, ops[k]? = some ok → k ≠ i → (L.setIfInBounds j true).getD k true = false →
          (∀ e ∈ ok.after, Region.binds md e = true → e.on ≠ i) → oi.apart ops ok = true := fun k ok hk hki hun hno => by
        refine hfree k ok hk hki ?_ hno
        by_cases hjk : j = k
        · subst hjk; exact hjun
        · rw [getD_set_ne true hjk] at hun; exact hun
      refine wpOp_mono (fun a' w' h3 => ?_) h2
      obtain ⟨hy3, hS3, h4⟩ := h3
      rw [Array.setIfInBounds_comm _ _ (Ne.symm hji)] at hS3 h4
      have hS3' := (heldS_set hne).1 hS3
      exact ⟨hS3', ih (L.setIfInBounds j true) a' w' (hG L j hL h0 hj hji) hfree' (ready_mono hr (Ne.symm hji)) hy3 hS3' h4⟩
/-- Take number i first: what it yields hangs on C1 alone. -/
theorem wpAnyS_take {i : Nat} {oi : Oper} {v : Value} {fuel : Nat} {L : Array Bool} {a : Act} {w : World} (hi : ops[i]? = some oi) (hne : i ≠ st)
    (hs : Region.noSelect ops = true) (hf : Region.free md ops L i = true) (hr : (Region.ready md ops L).contains i = true)
    (hQ : ∀ c a w, Q (.panic c) (a.put oi.dst v) w → Q (.panic c) a w) (hy : YieldsIf P ops C1 oi v a) (hS : HeldS st C1 C2 L w)
    (h : wpAnyS P md ops Q st C1 C2 fuel (L.setIfInBounds i true) (a.put oi.dst v) w) : wpAnyS P md ops Q st C1 C2 (fuel + 1) L a w :=
  wpAnyS_first C1 (fun _ => True) hi (Region.noSelect_spec hs) hQ hne (fun _ _ _ h => h.1) (fun _ _ _ _ _ _ => trivial) fuel L a w trivial (Region.free_spec hi hf) (by simpa using hr) hy hS h
/-- Take number i first, where number st waits for it: what it yields hangs on C1 and C2. -/
theorem wpAnyS_take2 {i : Nat} {oi os : Oper} {v : Value} {fuel : Nat} {L : Array Bool} {a : Act} {w : World} (hi : ops[i]? = some oi) (hne : i ≠ st)
    (hos : ops[st]? = some os) (hw : os.after.any (fun e => Region.binds md e && e.on == i) = true) (hL : L.getD st false = false)
    (hs : Region.noSelect ops = true) (hf : Region.free md ops L i = true) (hr : (Region.ready md ops L).contains i = true)
    (hQ : ∀ c a w, Q (.panic c) (a.put oi.dst v) w → Q (.panic c) a w) (hy : YieldsIf P ops (fun w => C1 w ∧ C2 w) oi v a) (hS : HeldS st C1 C2 L w)
    (h : wpAnyS P md ops Q st C1 C2 fuel (L.setIfInBounds i true) (a.put oi.dst v) w) : wpAnyS P md ops Q st C1 C2 (fuel + 1) L a w := by
  refine wpAnyS_first (fun w => C1 w ∧ C2 w) (fun L => L.getD st false = false) hi (Region.noSelect_spec hs) hQ hne (fun _ _ hg h => ⟨h.1, h.2 hg⟩) ?_ fuel L a w hL (Region.free_spec hi hf) (by simpa using hr) hy hS h
  intro L j hg hun hj _
  have hjs : j ≠ st := by
    rintro rfl
    obtain ⟨_, o, ho, hall⟩ := mem_ready.1 hj
    rw [hos] at ho
    cases ho
    obtain ⟨k, hk, hb⟩ := Array.any_eq_true.1 hw
    simp only [Bool.and_eq_true, beq_iff_eq] at hb
    have k1 := hall _ (Array.getElem_mem hk) hb.1
    rw [hb.2] at k1
    rcases Nat.lt_or_ge i L.size with h' | h'
    · simp [h'] at hun k1; rw [hun] at k1; cases k1
    · simp [Array.getElem?_eq_none h'] at k1
  show (L.setIfInBounds j true).getD st false = false
  rw [getD_set_ne false hjs]; exact hg
/-- Whichever of those that may come up comes up. -/
theorem wpAnyS_all {rs : List Nat} {fuel : Nat} {L : Array Bool} {a : Act} {w : World} (hr : Region.ready md ops L = rs) (hne : rs ≠ [])
    (h : ∀ i ∈ rs, wpOp P ops Q i (fun a' w' => HeldS st C1 C2 (L.setIfInBounds i true) w' ∧ wpAnyS P md ops Q st C1 C2 fuel (L.setIfInBounds i true) a' w') a w) : wpAnyS P md ops Q st C1 C2 (fuel + 1) L a w :=
  ⟨fun h0 => absurd (hr ▸ h0) hne, hr ▸ h⟩
/-- All have come up. -/
theorem wpAnyS_done {L : Array Bool} {a : Act} {w : World} (hr : Region.ready md ops L = []) (h : Q .normal a w) : ∀ fuel, wpAnyS P md ops Q st C1 C2 fuel L a w
  | 0 => ⟨hr, h⟩
  | _ + 1 => ⟨fun _ => h, by rw [hr]; simp⟩
/-- The beginning. -/
theorem wp_region_S (st : Nat) (C1 C2 : World → Prop) {id : Nat} {a : Act} {w : World} (hm : P.follows .mixedOrders = true)
    (h : wpAnyS P .any ops Q st C1 C2 ops.size (Array.replicate ops.size false) a { w with drawn := w.drawn + 1 }) : (Code.region id ops true).wp P Q a w :=
  wp_region_any hm (wpAny_of_S _ _ _ _ h)
end
end Go.Proofs.YtcmcdddnckcpcaaGreatDoor
