/- vocab.(*Index).Decode, walked. -/
import Derived.Test.YtejokbfejkkpmaaDoorEc
import Derived.Test.YtejokbfejkkpmaaDoorSk
namespace Go.Proofs.YtejokbfejkkpmaaDoor
open Go.RowKit Go.Maps Go.WideMaps
theorem blen_any (B b : Nat) (bs : List Value) (w : World) (h : Lib.IsBuilder 93 5 B b bs w) : Calls Tryd.prog 32 #[.pointer (some ⟨b, 0, none⟩)] w fun e w' => e = .returned (.int .i64 bs.length) ∧ w = w' := by
  have h1 : ∃ v, w.cell? ⟨b, 1, none⟩ = some v ∧ w.ownsRow B 5 1 v bs.length bs := by
    rcases h with ⟨_, v, hb, ho, _⟩ | ⟨_, v, hb, ho, _⟩
    · exact ⟨v, by rw [Lib.cell_of_heap hb]; rfl, ho⟩
    · exact ⟨v, by rw [Lib.cell_of_heap hb]; rfl, ho⟩
  obtain ⟨v, hc, ho⟩ := h1
  obtain ⟨A, c, rfl⟩ := own_form ho
  obtain ⟨n, hn⟩ : ∃ n, bs.length = n := ⟨_, rfl⟩
  rw [hn] at hc ⊢
  clear hn ho h
  go_enter Tryd.func32, Tryd.ntmps32
  go_wp2
  go_ret
  exact ⟨rfl, rfl⟩
def decT (ts : List Bs) (ns : List Int) : Bs := ns.flatMap fun i => (tokL 0 ts i).getD []
def allOk (ts : List Bs) (ns : List Int) : Bool := ns.all fun i => (tokL 0 ts i).isSome
theorem tok_mem (ts : List Bs) : ∀ n i t, tokL n ts i = some t → t ∈ ts := by
  induction ts with
  | nil => intro n i t h; cases h
  | cons a l ih =>
    intro n i t h
    unfold tokL at h
    split at h
    · simp at h; subst h; simp
    · exact List.mem_cons_of_mem _ (ih _ _ _ h)
theorem tok_short {ts : List Bs} (h : ∀ t ∈ ts, t.length ≤ 64) (i : Int) : ((tokL 0 ts i).getD []).length ≤ 64 := by
  cases hs : tokL 0 ts i with
  | none => simp
  | some t => exact h t (tok_mem ts _ _ _ hs)
theorem decT_len {ts : List Bs} (h : ∀ t ∈ ts, t.length ≤ 64) (ns : List Int) : (decT ts ns).length ≤ 64 * ns.length := by
  induction ns with
  | nil => simp [decT]
  | cons i ns ih =>
    have := tok_short h i
    simp only [decT, List.flatMap_cons, List.length_append, List.length_cons] at ih ⊢
    omega
theorem decT_snoc (ts : List Bs) (ns : List Int) (i : Int) : decT ts (ns ++ [i]) = decT ts ns ++ (tokL 0 ts i).getD [] := by simp [decT]
def DecOut (B b k : Nat) (ts : List Bs) (ns : List Int) (w : World) (e : Ending) (w' : World) : Prop :=
  e = .returned (.tuple #[.string (mk (if allOk ts ns then decT ts ns else [])), .bool (allOk ts ns)]) ∧ Idx B b ts true (k + 1) w' ∧ w.grownBy w' (some b)
theorem ret_s {s u : Bs} {a b : Bool} (h1 : s = u) (h : a = b) : Ending.returned (.tuple #[.string (mk s), .bool a]) = .returned (.tuple #[.string (mk u), .bool b]) := by rw [h, h1]
set_option maxRecDepth 100000 in
set_option maxHeartbeats 4000000 in
theorem decode_any (B b C : Nat) (ts : List Bs) (made : Bool) (k : Nat) (A : Option Addr) (cap : Nat) (ns : List Int) (w : World) (h : Idx B b ts made k w) (hl : ts.length ≤ 1000) (hk : k ≤ 1000) (hB : B ≤ w.heap.size)
    (hr : w.ownsRow C 3 1 (.slice A ns.length cap) ns.length (icells ns)) (hn : ns.length ≤ 1000) (hi : ∀ i ∈ ns, -9223372036854775808 ≤ i ∧ i ≤ 9223372036854775807) (hs : ∀ t ∈ ts, t.length ≤ 64) :
    Calls Tryd.prog 18 #[.pointer (some ⟨b, 0, none⟩), .slice A ns.length cap] w (DecOut B b k ts ns w) := by
  have KR := ready_any B b ts made k w h hl hk hB
  have hnot : ∀ (x : Bool) (w : World), (Op.unary .not (.bool x)).run Tryd.prog w = .ok (.bool (!x)) w := fun _ _ => rfl
  have hne : (Value.slice A ns.length cap).ownBlock = none ∨ (Value.slice A ns.length cap).ownBlock ≠ some b := by
    refine .inr ?_
    obtain ⟨A', cap', c4, c5, hBb, hb, _⟩ := h
    unfold Blk at hb
    intro e
    rcases hr.2 with ⟨hv, _⟩ | ⟨g, c, cur, hv, _, hg, _⟩
    · rw [hv] at e; simp [Value.ownBlock] at e
    · rw [hv] at e
      simp only [Value.ownBlock, Option.some.injEq] at e
      subst e
      rw [hb] at hg
      simp at hg
  have HI := Lib.hid hi
  have HSH := Lib.hid hs
  have HR := Lib.hid hr
  have HNE := Lib.hid hne
  obtain ⟨N, hN⟩ : ∃ N, ns.length = N := ⟨_, rfl⟩
  have HNN := Lib.hid hN
  rw [hN] at hn ⊢
  clear h hr hi hs hne hN
  go_enter Tryd.func18, Tryd.ntmps18
  go_wp2_with (go_at_call 29; refine KR.mono ?_; rintro e w1 ⟨rfl, hi1, hg1⟩; have HI1 := Lib.hid hi1; have HG1 := Lib.hid hg1; clear KR hi1 hg1)
  go_loopw [16] (fun iv wr => ∃ i : Nat, i ≤ N ∧ iv = .int .i64 i ∧ allOk ts (ns.take i) = true ∧ Lib.IsBuilder 93 5 w1.heap.size w1.heap.size (Lib.byteCells (decT ts (ns.take i))) wr ∧ Below w1.heap.size w1 wr) (fun iv _ => N - (intOf iv).toNat)
  case atStart => exact ⟨0, Nat.zero_le _, rfl, rfl, Lib.fresh_isBuilder 93 5 w1, (Below.refl _ w1).alloc (Nat.le_refl _) _⟩
  case round =>
    obtain ⟨i, hil, rfl, hall, hbu, hbl⟩ := hrel
    have i0 : (0 : Int) ≤ (i : Int) := by omega
    have hsz := hbl.size
    rcases Nat.lt_or_ge i N with hlt | hge
    · have i2 : (i : Int) < (N : Int) := by omega
      have hTi : i < ns.length := by rw [HNN.out]; exact hlt
      have hx : ns[i]? = some ns[i] := by simp [hTi]
      have ho1 := HR.out.kept HG1.out HNE.out
      have ho' := own_bel ho1 (fun g hg => (ho1.lt g hg).2) hbl
      obtain ⟨g, cg, hv, hcx, _, _⟩ := row_at ho' (icells_at ns i _ hx)
      rw [HNN.out] at hv
      injection hv with hA _ hc
      subst hA
      subst hc
      have htk : ns.take (i + 1) = ns.take i ++ [ns[i]] := List.take_succ_eq_append_getElem hTi
      have hxm : ns[i] ∈ ns := List.getElem_mem hTi
      have hxr := HI.out _ hxm
      obtain ⟨x, hxx⟩ : ∃ x, ns[i] = x := ⟨_, rfl⟩
      rw [hxx] at hcx htk hxm hxr
      obtain ⟨AE, cE, c4, c5, hBb, hbk, hen, hne, hm⟩ := HI1.out.below hbl
      obtain ⟨bi, bt, rfl, rfl, h4, h5, hid, htm⟩ := hm rfl
      have e5 := hbk.cell 5
      simp at e5
      have hlk := htm.look x hxr.1 hxr.2
      have HTK := Lib.hid htk
      have HALL := Lib.hid hall
      have hdl := decT_len HSH.out (ns.take i)
      have htl := tok_short HSH.out x
      have hti : (ns.take i).length = i := by rw [List.length_take]; omega
      rw [hti] at hdl
      obtain ⟨DT, hDT⟩ : ∃ d, decT ts (ns.take i) = d := ⟨_, rfl⟩
      rw [hDT] at hdl hbu
      have HDT := Lib.hid hDT
      have KL := blen_any _ _ _ _ hbu
      rw [show (Lib.byteCells DT).length = DT.length by simp [Lib.byteCells]] at KL
      cases hs : tokL 0 ts x with
      | none =>
        rw [hs] at hlk
        simp only [Option.getD_none, Option.isSome_none] at hlk
        have hfa : Hid (allOk ts ns = false) := Lib.hid (by
          unfold allOk
          rw [List.all_eq_false]
          exact ⟨x, hxm, by rw [hs]; simp⟩)
        clear ho1 ho' hx htk hxm hxx hbk hen hne hm hid htm hall hs hdl htl hti hDT hbu
        go_wp2
        go_ret2
        exact ⟨ret_s (by rw [hfa.out]; rfl) hfa.out.symm, HI1.out.below hbl, grown_on HG1.out hbl⟩
      | some t =>
        rw [hs] at hlk htl
        simp only [Option.getD_some, Option.isSome_some] at hlk htl
        have hXs := mk_size t
        have b0 : (0 : Int) ≤ (DT.length : Int) := by omega
        have b1 : (DT.length : Int) ≤ 64000 := by omega
        have d1 : decide ((262144 : Int) - (DT.length : Int) < (t.length : Int)) = false := by simp; omega
        have KW := write_any w1.heap.size w1.heap.size (Lib.byteCells DT) (mk t) wr hbu (by simp [Lib.byteCells, mk_size]; omega) hsz
        have hstep : Hid (allOk ts (ns.take (i + 1)) = true ∧ Lib.byteCells DT ++ Lib.strCells (mk t) = Lib.byteCells (decT ts (ns.take (i + 1)))) := Lib.hid (by
          rw [HTK.out]
          constructor
          · have h1 := HALL.out
            unfold allOk at h1 ⊢
            rw [List.all_append, h1]; simp [hs]
          · rw [decT_snoc, HDT.out, hs]
            simp [Lib.byteCells, Lib.strCells, mk_data])
        clear ho1 ho' hx htk hxm hxx hbk hen hne hm hid htm hall hs hdl htl hti hDT hbu
        go_wp2_with (first | (go_at_call 32; (with_reducible refine KL.mono ?_); rintro e w' ⟨rfl, rfl⟩) | (go_at_call 33; (with_reducible refine KW.mono ?_); rintro e w4 ⟨rfl, hbu4, hb4, _⟩))
        rw [hstep.out.2] at hbu4
        go_roundw
        case rel => exact ⟨i + 1, by omega, by go_num, hstep.out.1, .inr hbu4, hbl.trans hb4⟩
        case measure => simp [intOf]; omega
    · obtain rfl : i = N := by omega
      have e : ns.take i = ns := by rw [← HNN.out, List.take_length]
      rw [e] at hall hbu
      have KS := Tryd.Builder_String_any w1.heap.size w1.heap.size (decT ts ns) wr hbu hsz
      have HALL := Lib.hid hall
      clear hall hbu e
      go_wp2_with (go_at_call 34; refine KS.mono ?_; rintro e2 w2 ⟨rfl, hb2⟩)
      go_ret2
      exact ⟨ret_s (by rw [HALL.out]; rfl) HALL.out.symm, HI1.out.below (hbl.trans hb2), grown_on HG1.out (hbl.trans hb2)⟩
end Go.Proofs.YtejokbfejkkpmaaDoor
