/- Plain: what taking gives; bounds of a store; what Write does. -/
import Derived.Test.YtcmcdddnckcpcaaGreatDoorVa
import Derived.Test.YtcmcdddnckcpcaaGreatDoorPu
namespace Go.Proofs.YtcmcdddnckcpcaaGreatDoor
theorem trimR_sum : ∀ (l : List (Nat × Nat)) (k : Nat), sumN (trimR l k).1 + (trimR l k).2 = k := by
  intro l
  induction l with
  | nil => intro k; simp [trimR, sumN]
  | cons x l ih =>
    intro k
    rw [trimR]
    by_cases h0 : k = 0
    · rw [if_pos h0]; simp [sumN, h0]
    · rw [if_neg h0]
      have := ih (k - min x.2 k)
      simp only [sumN_cons]
      omega
theorem takeS_facts {T T' : List Bool} {k most : Nat} {l : List (Nat × Nat)} (h : takeS T k most = some (l, T')) :
    l.length ≤ most ∧ Rise 0 l ∧ (∀ x ∈ l, 1 ≤ x.2 ∧ x.1 + x.2 ≤ T.length ∧ ∀ j, x.1 ≤ j → j < x.1 + x.2 → T.getD j true = false) ∧ T'.length = T.length ∧ sumN l = k ∧ ∀ j, T'.getD j true = (T.getD j true || l.any fun x => decide (x.1 ≤ j ∧ j < x.1 + x.2)) := by
  obtain ⟨T2, h1, h2, h3⟩ := take_claims T k
  obtain ⟨g1, g2⟩ := runs_all T
  obtain ⟨g3, g4⟩ := trimR_good (fun j => T.getD j true = false) T.length _ _ k g1 g2
  have h4 := trimR_sum (runs T 0 0) k
  unfold takeS at h
  split at h
  · cases h
  · rename_i hc
    rw [h1] at h
    simp only [Option.map_some, Option.some.injEq, Prod.mk.injEq] at h
    obtain ⟨rfl, rfl⟩ := h
    exact ⟨by omega, g3, g4, h2, by omega, h3⟩
theorem turnS_len (taken : Bool) : ∀ (l : List (Nat × Nat)) (T T' : List Bool), turnS taken T l = some T' → T'.length = T.length := by
  intro l
  induction l with
  | nil => intro T T' h; cases h; rfl
  | cons x l ih =>
    intro T T' h
    rw [turnS] at h
    split at h
    · cases h
    · obtain ⟨T1, h1, h2⟩ := Option.bind_eq_some_iff.1 h
      rw [ih _ _ h2, turn1_len _ _ _ _ _ h1]
def needsN (n : Nat) : Nat := (n + 511) / 512
theorem secL_length (b : Nat) : ∀ (l : List (Nat × Nat)), (secL b l).length = sumN l := by
  intro l
  induction l with
  | nil => rfl
  | cons x l ih =>
    rw [sumN_cons, ← ih]
    simp [secL, secX]
theorem secL_mem {b i : Nat} {l : List (Nat × Nat)} (h : i ∈ secL b l) : ∃ x ∈ l, b + x.1 ≤ i ∧ i < b + x.1 + x.2 := by
  unfold secL at h
  obtain ⟨x, hx, hi⟩ := List.mem_flatMap.1 h
  refine ⟨x, hx, ?_⟩
  unfold secX at hi
  simp at hi
  omega
theorem kOf_small (n : Nat) (h : n ≤ 4096) : kOf n ≤ 2 := by
  unfold kOf
  by_cases h0 : n = 0
  · subst h0; decide
  · have := (Nat.log2_lt (k := 13) h0).2 (by omega)
    omega
theorem kOf_mid (n : Nat) (h : n ≤ 1048576) : kOf n ≤ 3 := by
  unfold kOf
  by_cases h0 : n = 0
  · subst h0; decide
  · have := (Nat.log2_lt (k := 21) h0).2 (by omega)
    omega
theorem extB_len : ∀ (l : List (Nat × Nat)), (∀ x ∈ l, x.1 ≤ 4096 ∧ x.2 ≤ 4096) → (extB l).length ≤ 6 * l.length := by
  intro l
  induction l with
  | nil => intro _; simp [extB]
  | cons x l ih =>
    intro h
    have h1 := ih (fun y hy => h y (List.mem_cons_of_mem _ hy))
    have h2 := h x (List.mem_cons_self ..)
    have h3 := kOf_small _ h2.1
    have h4 := kOf_small _ h2.2
    unfold extB at h1 ⊢
    rw [List.flatMap_cons, List.length_append, List.length_append, putB_length, putB_length, List.length_cons]
    omega
theorem bodyB_len (name : Bs) (size : Nat) (l : List (Nat × Nat)) (hn : name.length ≤ 80) (hs : size ≤ 1048576) (hl : l.length ≤ 64) (hx : ∀ x ∈ l, x.1 ≤ 4096 ∧ x.2 ≤ 4096) : (bodyB name size l).length ≤ 508 := by
  have h1 := extB_len l hx
  have h2 := kOf_mid _ hs
  have h3 := kOf_small name.length (by omega)
  have h4 := kOf_small l.length (by omega)
  unfold bodyB joinB
  simp only [List.flatMap_cons, List.flatMap_nil, List.length_append, putB_length, List.length_nil]
  omega
/-- Bounds of a store's parts. -/
structure StoB (m : StoM) : Prop where
  ent : ∀ f ∈ m.F, f.entry < m.most
  nam : ∀ f ∈ m.F, f.name.length ≤ 80
  siz : ∀ f ∈ m.F, f.size ≤ 1048576
  exl : ∀ f ∈ m.F, f.ext.length ≤ 64
  exb : ∀ f ∈ m.F, ∀ x ∈ f.ext, x.1 + x.2 ≤ m.T.length
  len : m.F.length ≤ 1000
  mo : 1 ≤ m.most ∧ m.most ≤ 256
  tl : m.T.length ≤ 4096
  ll : m.T.length + m.most + 7 = m.ds.L.length
  sl : m.ds.S.length ≤ 500000
def oldX (F : List FileM) (name : Bs) : List (Nat × Nat) := ((fileOf F name).map (·.ext)).getD []
def slotW (m : StoM) (name : Bs) : Option Nat := match fileOf m.F name with
  | some f => some f.entry
  | none => vacN m.F m.most
/-- What Write finds, ahead of writing. -/
def preW (m : StoM) (name data : Bs) : Nat × Option (List Bool × FileM) :=
  if goodF name = false then (11, none) else if 1048576 < data.length then (6, none) else
  match slotW m name with
  | none => (8, none)
  | some i => match takeS m.T (needsN data.length) 64 with
    | none => (8, none)
    | some (l, T1) => match turnS false T1 (oldX m.F name) with
      | none => (14, none)
      | some T2 => (0, some (T2, ⟨name, i, data.length, l⟩))
theorem goodF_len {s : Bs} (h : goodF s = true) : s.length ≤ 80 := by
  unfold goodF at h
  simp only [Bool.and_eq_true, decide_eq_true_eq] at h
  exact h.1.2
theorem vacN_lt {F : List FileM} {most i : Nat} (h : vacN F most = some i) : i < most ∧ ∀ f ∈ F, f.entry ≠ i := by
  unfold vacN at h
  obtain ⟨h1, h2, _⟩ := List.findIdx?_eq_some_iff_getElem.1 h
  simp at h1 h2
  exact ⟨h1, h2⟩
theorem slotW_lt {m : StoM} (hb : StoB m) {name : Bs} {i : Nat} (h : slotW m name = some i) : i < m.most := by
  unfold slotW at h
  split at h
  · rename_i f hf
    cases h
    exact hb.ent _ (fileOf_mem hf)
  · exact (vacN_lt h).1
end Go.Proofs.YtcmcdddnckcpcaaGreatDoor
