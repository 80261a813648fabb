/- nums.Join and Split, walked. -/
import Derived.Test.YtlkfnhcnfjdgbaaDoorNg
import Derived.Test.YtlkfnhcnfjdgbaaDoorBu
import Derived.Test.YtlkfnhcnfjdgbaaDoorCl
import Derived.Deep.RegionHeld3
import Derived.Deep.AppendLies
import Derived.BigQuiet
namespace Go.Proofs.YtlkfnhcnfjdgbaaDoor
open Go.RowKit Go.Maps Go.WideMaps
def txc (l : List Bs) : List Value := l.map fun t => .string (mk t)
theorem txc_at (l : List Bs) (j : Nat) (h : j < l.length) : (txc l)[j]? = some (.string (mk l[j])) := by simp [txc, h]
theorem joinB_take (l : List Bs) (k : Nat) : (joinB (l.take k)).length ≤ (joinB l).length := by
  have : joinB l = joinB (l.take k) ++ joinB (l.drop k) := by
    unfold joinB; rw [← List.flatMap_append, List.take_append_drop]
  rw [this, List.length_append]; omega
theorem isb_below {T e : TypeId} {B b : Nat} {bs : List Value} {w w' : World} (h : Lib.IsBuilder T e B b bs w) (hb : Below w.heap.size w w') : Lib.IsBuilder T e B b bs w' := by
  have hat : ∀ p, Lib.BuilderAt T e B b p bs w → Lib.BuilderAt T e B b p bs w' := fun p ⟨h1, v, h2, h3, h4⟩ => ⟨h1, v, (hb.block b (Array.getElem?_eq_some_iff.1 h2).1).trans h2, own_below h3 hb, h4⟩
  exact h.imp (hat _) (hat _)
set_option maxRecDepth 100000 in
set_option maxHeartbeats 4000000 in
theorem join_any (A : Option Addr) (cap : Nat) (l : List Bs) (w : World) (hA : Lies w A (txc l)) (hn : l.length ≤ 1000000) (hsz : (joinB l).length ≤ 1099511627776) :
    Calls Tryd.prog 35 #[.slice A l.length cap] w fun e w' => e = .returned (.string (mk (joinB l))) ∧ Below w.heap.size w w' := by
  obtain ⟨n, hl⟩ : ∃ n, l.length = n := ⟨_, rfl⟩
  rw [hl] at hn ⊢
  have HL := Lib.hid hA
  have HS := Lib.hid hsz
  have HN := Lib.hid hl
  clear hA hsz hl
  go_enter Tryd.func35, Tryd.ntmps35
  go_wp2
  go_loopw [5, 8] (fun _ i wr => ∃ k : Nat, k ≤ n ∧ i = .int .i64 k ∧ Lib.IsBuilder 101 5 w.heap.size w.heap.size (Lib.byteCells (joinB (l.take k))) wr ∧ Below w.heap.size w wr) (fun _ i _ => n - (intOf i).toNat)
  case atStart => exact ⟨0, Nat.zero_le _, rfl, Lib.fresh_isBuilder 101 5 w, (Below.refl _ w).alloc (Nat.le_refl _) _⟩
  case round =>
    obtain ⟨k, hk, rfl, hbu, hB⟩ := hrel
    have hsz := hB.size
    by_cases h : k < n
    · have hkl : k < l.length := by rw [HN.out]; exact h
      obtain ⟨g, off, rfl, hgl, hcs⟩ := HL.out (by simp [txc]; omega)
      have d0 := (hB.cell (p := ⟨g, off + k, none⟩) hgl).trans (hcs k _ (txc_at l k hkl))
      have hsn : joinB (l.take (k + 1)) = joinB (l.take k) ++ putB l[k].length ++ l[k] := by
        rw [List.take_succ_eq_append_getElem hkl, joinB_snoc]
      have hln := joinB_take l (k + 1)
      rw [hsn] at hln
      have hln2 := HS.out
      obtain ⟨x, hx⟩ : ∃ x, l[k] = x := ⟨_, rfl⟩
      rw [hx] at d0 hsn hln
      obtain ⟨T, hT⟩ : ∃ T, joinB (l.take k) = T := ⟨_, rfl⟩
      rw [hT] at hbu hsn hln
      have HSN := Lib.hid hsn
      have k0 : (0 : Int) ≤ (k : Int) := by omega
      have k1 : (k : Int) < (n : Int) := by omega
      simp only [List.length_append] at hln
      have KP := fun w' => put_any x.length w' (by omega)
      have s0 : (mk x).size = x.length := mk_size _
      have s1 : (mk (putB x.length)).size = (putB x.length).length := mk_size _
      obtain ⟨X, hX⟩ : ∃ X, mk x = X := ⟨_, rfl⟩
      obtain ⟨Y, hY⟩ : ∃ Y, mk (putB x.length) = Y := ⟨_, rfl⟩
      rw [hX] at d0 s0
      rw [hY] at s1 KP
      have HX := Lib.hid hX
      have HY := Lib.hid hY
      rw [← s0] at KP
      have HB := Lib.hid hB
      have HBU := Lib.hid hbu
      have KW := fun (w4 : World) (h4 : Below wr.heap.size wr w4) => write_any w.heap.size w.heap.size (Lib.byteCells T) Y w4 (isb_below HBU.out h4) (by simp [Lib.byteCells]; omega) (Nat.le_trans hsz h4.size)
      have KW2 := fun (w5 : World) (h5 : Lib.BuilderAt 101 5 w.heap.size w.heap.size (.pointer (some ⟨w.heap.size, 0, none⟩)) (Lib.byteCells T ++ Lib.strCells Y) w5) (h6 : w.heap.size ≤ w5.heap.size) => write_any w.heap.size w.heap.size (Lib.byteCells T ++ Lib.strCells Y) X w5 (.inr h5) (by simp [Lib.byteCells, Lib.strCells]; omega) h6
      have Hs0 := Lib.hid s0
      clear hcs hsn hx hT hX hY hB hbu hln hln2 s0 s1
      go_wp2_with (first
        | (go_at_call 58; refine (KP _).mono ?_; rintro e w4 ⟨rfl, hb4⟩; have K1 := KW w4 hb4; have H4 := Lib.hid hb4; clear hb4 KW KP)
        | (go_at_call 57; (with_reducible refine K1.mono ?_); rintro e w5 ⟨rfl, hbu5, hb5, _⟩; have K2 := KW2 w5 hbu5 (by have := hb5.size; have := H4.out.size; omega); have H5 := Lib.hid hb5; clear hb5 hbu5 K1 KW2)
        | (go_at_call 57; (with_reducible refine K2.mono ?_); rintro e w6 ⟨rfl, hbu6, hb6, _⟩; have H6 := Lib.hid hb6; have HU6 := Lib.hid hbu6; clear hb6 hbu6 K2))
      have hfin : Lib.byteCells T ++ Lib.strCells Y ++ Lib.strCells X = Lib.byteCells (joinB (l.take (k + 1))) := by
        rw [HSN.out, ← HX.out, ← HY.out]
        simp [Lib.byteCells, Lib.strCells, mk_data]
      have HF := Lib.hid hfin
      clear hfin
      go_roundw
      case rel => exact ⟨k + 1, by omega, by go_num, .inr (by rw [← HF.out]; exact HU6.out), (((HB.out.trans (H4.out.mono hsz)).trans H5.out).trans H6.out)⟩
      case measure => simp [intOf]; omega
    · obtain rfl : k = n := by omega
      have e : l.take k = l := List.take_of_length_le (by rw [HN.out]; exact Nat.le_refl _)
      rw [e] at hbu
      have KS := Tryd.Builder_String_any w.heap.size w.heap.size (joinB l) wr hbu hsz
      clear hbu
      go_wp2_with (go_at_call 59; refine KS.mono ?_; rintro e2 w2 ⟨rfl, hb2⟩)
      go_ret
      exact ⟨rfl, hB.trans hb2⟩
theorem nextB_bd (s : Bs) (h : (nextB s).2.2 = 0) : 1 ≤ (nextB s).2.1 ∧ (nextB s).2.1 ≤ s.length ∧ (nextB s).1.length ≤ 262144 := by
  revert h
  unfold nextB
  have hb := getB_bd s
  have hz : (getB s).2.2 = 0 → 1 ≤ (getB s).2.1 := by
    unfold getB
    cases s with
    | nil => simp
    | cons c r =>
      simp only
      split
      · simp
      · split
        · simp
        · split
          · simp
          · simp
  obtain ⟨n, k, e, hg⟩ : ∃ n k e, getB s = (n, k, e) := ⟨_, _, _, rfl⟩
  rw [hg] at hb hz ⊢
  simp only at hb hz ⊢
  split
  · intro h; exact absurd h (by assumption)
  · split
    · intro h; simp at h
    · split
      · intro h; simp at h
      · intro h
        simp only [List.length_take, List.length_drop]
        have := hz (by omega)
        omega
theorem info9n : (Tryd.prog.info? 9).map (fun i => (i.zero, i.size, i.bytes)) = some (some (.string ⟨#[]⟩), 1, 16) := by kernel_rfl
theorem txc_snoc (l : List Bs) (t : Bs) : txc (l ++ [t]) = txc l ++ [.string (mk t)] := by simp [txc]
theorem own_form' {w : World} {base size : Nat} {e : TypeId} {v : Value} {n : Nat} {xs : List Value} (h : w.ownsRow base e size v n xs) : ∃ A cap, v = .slice A n cap := by
  rcases h.2 with ⟨h1, h2⟩ | ⟨g, cap, cur, h1, _⟩
  · subst h2; exact ⟨_, _, h1⟩
  · exact ⟨_, _, h1⟩
theorem splitR_nil {s : Bs} {l : List Bs} {e : Nat} (h : SplitR s l e) (h0 : e ≠ 0) : l = [] := by
  cases h <;> first | rfl | exact absurd rfl h0
def SplitOut (S : Bs) (w : World) (e : Ending) (w' : World) : Prop :=
  ∃ l er A c, SplitR S l er ∧ e = .returned (.tuple #[.slice A l.length c, .int .i64 (er : Int)]) ∧ w'.ownsRow w.heap.size 9 1 (.slice A l.length c) l.length (txc l) ∧ (∀ t ∈ l, t.length ≤ 262144) ∧ Below w.heap.size w w'
set_option maxRecDepth 100000 in
set_option maxHeartbeats 4000000 in
theorem split_row (S : Bs) (w : World) (hS : S.length ≤ 1000000) : Calls Tryd.prog 36 #[.string (mk S)] w (SplitOut S w) := by
  obtain ⟨i9, hi, hz0, hz1, hz2⟩ := info_parts info9n
  go_enter Tryd.func36, Tryd.ntmps36
  go_wp2
  go_loopw [0, 4, 5, 6, 7] (fun sv ov _ _ _ wr => ∃ rest acc : _, sv = .string (mk rest) ∧ wr.ownsRow w.heap.size 9 1 ov (List.length acc) (txc acc) ∧ Below w.heap.size w wr ∧ rest.length + acc.length ≤ S.length ∧ (∀ t ∈ acc, t.length ≤ 262144) ∧ ∀ l e, SplitR rest l e → SplitR S (if e = 0 then acc ++ l else []) e) (fun sv _ _ _ _ _ => match sv with | .string b => b.size | _ => 0)
  case atStart => exact ⟨S, [], rfl, World.ownsRow_nil _ _ _ _, Below.refl _ _, by simp, (fun t h => by cases h), fun l e h => by
    by_cases h0 : e = 0
    · simpa [h0] using h
    · have := splitR_nil h h0; subst this; simpa [h0] using h⟩
  case round =>
    obtain ⟨rest, acc, rfl, hown, hb, hln, hac, hR⟩ := hrel
    obtain ⟨A4, c4, rfl⟩ := own_form' hown
    have HR := Lib.hid hR
    have HAC := Lib.hid hac
    have HO := Lib.hid hown
    have HB := Lib.hid hb
    clear hR hac hown hb
    cases rest with
    | nil =>
      have hem : (mk []).toList = [] := by rw [ByteArray.toList_eq]; rfl
      go_wp2
      go_ret2
      exact ⟨acc, 0, A4, c4, by have := HR.out [] 0 .nil; simpa using this, rfl, HO.out, HAC.out, HB.out⟩
    | cons c0 r0 =>
      obtain ⟨rest, hrest⟩ : ∃ x, c0 :: r0 = x := ⟨_, rfl⟩
      have hne : rest ≠ [] := by rw [← hrest]; simp
      rw [hrest] at HR hln ⊢
      have hem : (mk rest).toList.isEmpty = false := by
        rw [ByteArray.toList_eq, mk_data, ← hrest]; rfl
      have hem2 : (!(mk rest).toList.isEmpty) = true := by rw [hem]; rfl
      have hem3 : (mk rest).toList ≠ [] := by intro h; rw [h] at hem; simp at hem
      have KN := next_any (mk rest) wr (by rw [mk_size]; omega)
      rw [mk_data] at KN
      have hbd := nextB_bd rest
      obtain ⟨t, k, e, hn⟩ : ∃ t k e, nextB rest = (t, k, e) := ⟨_, _, _, rfl⟩
      rw [hn] at KN hbd
      simp only at KN hbd
      have HN := Lib.hid hn
      have HNE := Lib.hid hne
      by_cases he : e = 0
      · subst he
        obtain ⟨hk1, hk2, htl⟩ := hbd rfl
        have k0 : (0 : Int) ≤ (k : Int) := by omega
        have zr : (mk rest).size = rest.length := mk_size _
        have hsl := fun (w : World) => run_slice_string_l (P := Tryd.prog) (w := w) (t := 9) (s := mk rest) Tryd.underlying9 .i64 (k : Int) (by omega) (by rw [zr]; omega)
        rw [show ((k : Int)).toNat = k by omega, show (mk rest).extract k (mk rest).size = mk (rest.drop k) by
          have := ext_mk' (mk rest) k (rest.length - k)
          rw [show k + (rest.length - k) = (mk rest).size by rw [zr]; omega, mk_data, List.take_of_length_le (by simp)] at this
          exact this] at hsl
        have hl2 : (rest.drop k).length + (acc ++ [t]).length ≤ S.length := by
          simp only [List.length_drop, List.length_append, List.length_cons, List.length_nil]; omega
        have HR2 : Hid (∀ l e, SplitR (rest.drop k) l e → SplitR S (if e = 0 then (acc ++ [t]) ++ l else []) e) := Lib.hid fun l e h => by
          by_cases h0 : e = 0
          · subst h0
            have := HR.out _ _ (.step HNE.out HN.out h)
            simpa using this
          · have hl : l = [] := splitR_nil h h0
            subst hl
            have := HR.out _ _ (.late HNE.out HN.out h h0)
            simpa [h0] using this
        have HT : Hid (∀ u ∈ acc ++ [t], u.length ≤ 262144) := Lib.hid fun u hu => by
          rcases List.mem_append.1 hu with h | h
          · exact HAC.out u h
          · simp at h; subst h; exact htl
        have hal : acc.length ≤ 1000000 := by omega
        have hlt : (mk (rest.drop k)).size < (mk rest).size := by rw [mk_size, mk_size, List.length_drop]; omega
        have HLT := Lib.hid hlt
        have HL2 := Lib.hid hl2
        clear hn hne hrest hk1 hk2 htl hl2 hlt zr hln hbd
        obtain ⟨R2, hR2⟩ : ∃ R2, mk (rest.drop k) = R2 := ⟨_, rfl⟩
        have HR22 := Lib.hid hR2
        rw [hR2] at hsl
        clear hR2
        go_wp2_with (go_at_call 60; refine KN.mono ?_; rintro e w2 ⟨rfl, hb2⟩; have HB2 := Lib.hid hb2; clear hb2 KN)
        have ho2 := own_below HO.out HB2.out
        have hsz2 : w.heap.size ≤ w2.heap.size := Nat.le_trans HB.out.size HB2.out.size
        go_region_held3 (fun _ => True) (first | (go_keep) | trivial)
          (first
            | (refine step_append_lies _ (by rfl) (.tmp 19) (.tmp 21) 55 (by rfl) w.heap.size 9 i9 _ 1 16 Tryd.underlying55 hi hz0 hz1 hz2 (by rfl) (by decide) (.slice A4 acc.length c4) acc.length (txc acc) (by rfl)
                (by first | exact (ho2.alloc _).drew | exact ho2.alloc _) ⟨w2.heap.size, 0, none⟩ 1 1 [.string (mk t)] (by rfl) (by rfl)
                (by first | exact World.news_of_block (cs := #[.string (mk t)]) (heap_alloc_new w2 _)) (by simp [Value.oneCell']) (by omega) (by simp only [maxLen]; omega) (by omega) (by first | (simp; omega)) _ rfl ?_
               intro g3 c3 w3 hown3 hgrow3 _ _)
            | fail)
        all_goals go_wp2
        all_goals go_roundw
        all_goals first
          | exact ⟨rest.drop k, acc ++ [t], by rw [HR22.out], by rw [txc_snoc, List.length_append]; exact hown3, (((HB.out.trans (HB2.out.mono HB.out.size)).alloc hsz2 _).drew).grown hgrow3 (by simp; omega) (fun g e => (ho2.lt g e).1), HL2.out, HT.out, HR2.out⟩
          | exact ⟨rest.drop k, acc ++ [t], by rw [HR22.out], by rw [txc_snoc, List.length_append]; exact hown3, ((HB.out.trans (HB2.out.mono HB.out.size)).alloc hsz2 _).grown hgrow3 (by simp; omega) (fun g e => (ho2.lt g e).1), HL2.out, HT.out, HR2.out⟩
          | (have h1 := HLT.out; rw [HR22.out] at h1; exact h1)
      · have he' : ((e : Int) != 0) = true := by simp; omega
        have he2 : ¬ (e : Int) = 0 := by omega
        clear hn hne hrest hbd hln
        go_wp2_with (go_at_call 60; refine KN.mono ?_; rintro e w2 ⟨rfl, hb2⟩; have HB2 := Lib.hid hb2; clear hb2 KN)
        go_ret2
        exact ⟨[], e, none, 0, by have := HR.out _ _ (.err HNE.out HN.out he); simpa [he] using this, rfl, World.ownsRow_nil _ _ _ _, (fun t h => by cases h), HB.out.trans (HB2.out.mono HB.out.size)⟩
end Go.Proofs.YtlkfnhcnfjdgbaaDoor
