/- vocab.Of's 'add', walked: a text that is a token and isn't known goes behind the entries. -/
import Derived.Test.YtejokbfejkkpmaaDoorMs
import Derived.RangeFuncBox
import Derived.Lib.SmallJoins
import Derived.WalkLawsBesides
import Derived.Deep.AppendLies
namespace Go.Proofs.YtejokbfejkkpmaaDoor
open Go.RowKit Go.Maps Go.WideMaps
theorem info31 : (Tryd.prog.info? 31).map (fun i => (i.zero, i.size, i.bytes)) = some (some (.agg #[.int .i64 0, .string ⟨#[]⟩]), 2, 24) := by kernel_rfl
/-- The memory's cells of entries, numbered from n on. -/
def ents : Nat → List Bs → List Value
  | _, [] => []
  | n, t :: l => .int .i64 n :: .string (mk t) :: ents (n + 1) l
theorem ents_snoc (l : List Bs) (t : Bs) : ∀ n, ents n (l ++ [t]) = ents n l ++ [.int .i64 ((n + l.length : Nat) : Int), .string (mk t)] := by
  induction l with
  | nil => intro n; simp [ents]
  | cons a l ih => intro n; simp [ents, ih (n + 1)]; omega
theorem ents_length (l : List Bs) : ∀ n, (ents n l).length = l.length * 2 := by
  induction l with
  | nil => intro n; rfl
  | cons a l ih => intro n; simp [ents, ih (n + 1)]; omega
/-- What 'add' makes of the tokens. -/
def addT (ts : List Bs) (s : Bs) : List Bs := if ts.contains s || !tok s then ts else ts ++ [s]
/-- The two variables that 'add' holds: the map of what is known, the entries. -/
def St (B bm bk bo : Nat) (ts : List Bs) (w : World) : Prop :=
  B ≤ bm ∧ B ≤ bk ∧ B ≤ bo ∧ bk ≠ bo ∧ Known w bm ts.length (fun u => ts.contains u) ∧ Boxed w bk 68 (.map (some bm)) ∧ ∃ v, Boxed w bo 28 v ∧ w.ownsRow B 31 2 v ts.length (ents 0 ts)
theorem Known.not_box {w : World} {b n : Nat} {S : Bs → Bool} (h : Known w b n S) {c : Nat} {t : TypeId} {u : Value} (hb : Boxed w c t u) : c ≠ b := by
  rintro rfl
  obtain ⟨D, ⟨es, cl, he, _⟩, _⟩ := h
  have := hb
  unfold Boxed at this
  rw [he] at this
  cases this
theorem Known.not_row {w : World} {b n : Nat} {S : Bs → Bool} (h : Known w b n S) {B : Nat} {e : TypeId} {size k : Nat} {v : Value} {xs : List Value} (hr : w.ownsRow B e size v k xs) : v.ownBlock ≠ some b := by
  obtain ⟨D, ⟨es, cl, he, _⟩, _⟩ := h
  rcases hr.2 with ⟨rfl, _⟩ | ⟨g, c, cur, rfl, _, hg, _⟩
  · simp [Value.ownBlock]
  · intro e
    simp only [Value.ownBlock, Option.some.injEq] at e
    subst e
    rw [he] at hg; cases hg
theorem own_form {w : World} {base size : Nat} {e : TypeId} {v : Value} {n : Nat} {xs : List Value} (h : w.ownsRow base e size v n xs) : ∃ A cap, v = .slice A n cap := by
  rcases h.2 with ⟨rfl, h0⟩ | ⟨g, cap, _, rfl, _⟩
  · subst h0; exact ⟨_, _, rfl⟩
  · exact ⟨_, _, rfl⟩
set_option maxRecDepth 100000 in
set_option maxHeartbeats 1600000 in
theorem add_any (B bm bk bo : Nat) (ts : List Bs) (s : ByteArray) (w : World) (hs : s.size ≤ maxLen) (hn : ts.length ≤ 100000) (hB : B ≤ w.heap.size) (h : St B bm bk bo ts w) :
    Calls Tryd.prog 27 #[.string s, .pointer (some ⟨bk, 0, none⟩), .pointer (some ⟨bo, 0, none⟩)] w fun e w' => e = .returned (.tuple #[]) ∧ St B bm bk bo (addT ts s.data.toList) w' ∧ Below B w w' := by
  obtain ⟨hbm, hbk, hbo, hne, hkn, hk, v, ho, hrow⟩ := h
  obtain ⟨i0, hi, hz0, hz1, hz2⟩ := info_parts info31
  obtain ⟨A, cap, rfl⟩ := own_form hrow
  have c1 := hk.cell
  have c2 := ho.cell
  have l1 := hkn.look 68 Tryd.underlying68 s hs
  have K1 := fun w => tok_any s w hs
  obtain ⟨L, hL⟩ : ∃ L, ts.length = L := ⟨_, rfl⟩
  cases hc : ts.contains s.data.toList
  · cases ht : tok s.data.toList
    · have hadd : addT ts s.data.toList = ts := by unfold addT; rw [hc, ht]; rfl
      rw [hadd]
      simp only [hc] at l1
      simp only [ht] at K1
      have HS := Lib.hid (show St B bm bk bo ts w from ⟨hbm, hbk, hbo, hne, hkn, hk, _, ho, hrow⟩)
      clear hkn hk ho hrow hc ht hadd
      go_enter Tryd.func27, Tryd.ntmps27
      go_wp2_with fail
      refine (K1 w).mono ?_
      rintro e w1 ⟨rfl, rfl⟩
      go_wp2
      go_end0
      exact ⟨rfl, HS.out, Below.refl _ _⟩
    · have hadd : addT ts s.data.toList = ts ++ [s.data.toList] := by unfold addT; rw [hc, ht]; rfl
      rw [hadd]
      simp only [hc] at l1
      simp only [ht] at K1
      clear hc ht hadd
      rw [hL] at hrow hkn c2 hn
      go_enter Tryd.func27, Tryd.ntmps27
      go_wp2_with fail
      refine (K1 w).mono ?_
      rintro e w1 ⟨rfl, rfl⟩
      go_wp2_with (at_mapUpdate; refine wpList_known rfl _ _ 68 rfl Tryd.underlying68 bm L _ rfl hkn (by unfold maxLen; omega) s hs rfl ?_)
      intro w1 hkn1 hg1
      have e1 := hkn.not_box hk
      have e2 := hkn.not_box ho
      have hk1 := hk.kept hg1 (by simpa using e1)
      have ho1 := ho.kept hg1 (by simpa using e2)
      have hrow1 := hrow.kept hg1 (.inr (hkn.not_row hrow))
      have hB1 : Below B w w1 := (Below.refl B w).grown hg1 hB (fun g e => by cases e; exact hbm)
      have hz1' := hg1.size
      have c3 := ho1.cell
      clear hkn hk ho hrow hg1 c1 c2 l1 K1
      go_wp2_with (at_builtin; refine wpList_append_own _ rfl (.tmp 14) (.tmp 19) 28 rfl B 31 i0 _ 2 24 Tryd.underlying28 hi hz0 hz1 hz2 rfl (by decide) _ _ _ rfl (hrow1.alloc _) ⟨w1.heap.size, 0, none⟩ 1 1 [.int .i64 L, .string s] rfl rfl ?c1 ?c2 ?c3 ?c4 ?c5 ?_)
      case c1 => exact World.news_of_block (cs := #[.int .i64 L, .string s]) (t := 31) (fr := (0, 0)) (heap_alloc_new _ _)
      case c2 => simp [Value.oneCell']
      case c3 => simp only [maxLen]; omega
      case c4 => omega
      case c5 => simp; omega
      intro v' w2 hrow2 hg2 _
      obtain ⟨A', cap', rfl⟩ := own_form hrow2
      have hrow1' := hrow1.alloc (.cells #[.int .i64 L, .string s] 31)
      have hk2 := (hk1.alloc (.cells #[.int .i64 L, .string s] 31)).kept hg2 ((hk1.alloc _).not_row (by decide) hrow1')
      have ho2 := (ho1.alloc (.cells #[.int .i64 L, .string s] 31)).kept hg2 ((ho1.alloc _).not_row (by decide) hrow1')
      have hkn2 := (hkn1.alloc (.cells #[.int .i64 L, .string s] 31)).kept hg2 (fun e => (hkn1.alloc _).not_row hrow1' e.symm)
      have hB2 : Below B w w2 := (hB1.alloc (by omega) _).grown hg2 (by simp; omega) (fun g e => (hrow1.lt g e).1)
      have c4 := ho2.cell
      have f4 := ho2.frozen
      have n2 := ho2.not_row (by decide) hrow2
      clear hkn1 hk1 ho1 hrow1 hg2 hrow1' c3 hB1
      go_wp2
      go_end0
      refine ⟨rfl, ⟨hbm, hbk, hbo, hne, ?_, ?_, _, ho2.set _, ?_⟩, hB2.setCell (p := ⟨bo, 0, none⟩) hbo _⟩
      · have := hkn2.kept (grownBy_setCell' w2 bo (.slice A' (L + 1) cap')) (fun e => hkn2.not_box ho2 (Option.some.inj e).symm)
        rw [List.length_append, hL]
        obtain ⟨D, h1, h2⟩ := this
        refine ⟨D, h1, fun t => ?_⟩
        rw [h2]
        congr 2
        rw [Bool.eq_iff_iff]
        simp
      · exact hk2.kept (grownBy_setCell' w2 bo (.slice A' (L + 1) cap')) (by simpa using hne)
      · rw [List.length_append, hL]
        have := hrow2.kept (grownBy_setCell' w2 bo (.slice A' (L + 1) cap')) (.inr (fun e => n2 e.symm))
        rw [ents_snoc, hL]
        simpa [mk_list] using this
  · have hadd : addT ts s.data.toList = ts := by unfold addT; rw [hc]; rfl
    rw [hadd]
    simp only [hc] at l1
    have HS := Lib.hid (show St B bm bk bo ts w from ⟨hbm, hbk, hbo, hne, hkn, hk, _, ho, hrow⟩)
    clear hkn hk ho hrow hc hadd
    go_enter Tryd.func27, Tryd.ntmps27
    go_wp2
    go_end0
    exact ⟨rfl, HS.out, Below.refl _ _⟩
end Go.Proofs.YtejokbfejkkpmaaDoor
