/- wal: own, may, Most, say, make, walked; commands. -/
import Derived.Test.YtcmcdddnckcpcaaGreatDoorWh
namespace Go.Proofs.YtcmcdddnckcpcaaGreatDoor
open Go.RowKit
/-- The log in block b: of the disk D, from sector f on, s sectors. -/
def WLog (w : World) (b D f s : Nat) : Prop := Blk w b #[.pointer (some ⟨D, 0, none⟩), .int .i64 f, .int .i64 s] 165
def ownB (f s i : Nat) : Bool := decide (f ≤ i ∧ i < f + s)
def mayB (n f s i : Nat) : Bool := decide (i < n) && !ownB f s i
set_option maxHeartbeats 1000000 in
theorem own_any (b D f s i : Nat) (w : World) (h : WLog w b D f s) (hf : f ≤ 1000000) (hs : s ≤ 1000000) :
    Calls Tryz.prog 134 #[.pointer (some ⟨b, 0, none⟩), .int .i64 i] w fun e w' => e = .returned (.bool (ownB f s i)) ∧ ∃ n, w' = w.drewN n := by
  have x1 := Blk.cell h 1
  have x2 := Blk.cell h 2
  simp at x1 x2
  have f0 : (0 : Int) ≤ (f : Int) := by omega
  have f1 : (f : Int) ≤ 1000000 := by omega
  have s0 : (0 : Int) ≤ (s : Int) := by omega
  have s1 : (s : Int) ≤ 1000000 := by omega
  have hwr : IntKind.i64.wrap ((f : Int) + (s : Int)) = (f : Int) + (s : Int) := by rw [Go.IntWalk.i64_left, Go.IntWalk.wrap64_in _ (by omega)]
  by_cases h1 : f ≤ i
  · have h1' : decide ((f : Int) ≤ (i : Int)) = true := by simpa using h1
    have h1n : decide (f ≤ i) = true := by simpa using h1
    by_cases h2 : i < f + s
    · have h2' : decide ((i : Int) < (f : Int) + (s : Int)) = true := by simp; omega
      have HO := Lib.hid (show ownB f s i = true by unfold ownB; simp [h1, h2])
      clear h hf hs
      go_enter Tryz.func134, Tryz.ntmps134
      go_upto_region 1 with (fail)
      go_quiet (fail)
      go_wp2
      go_ret
      exact ⟨by rw [HO.out]; rfl, _, rfl⟩
    · have h2' : decide ((i : Int) < (f : Int) + (s : Int)) = false := by simp; omega
      have HO := Lib.hid (show ownB f s i = false by unfold ownB; simp [h2])
      clear h hf hs
      go_enter Tryz.func134, Tryz.ntmps134
      go_upto_region 1 with (fail)
      go_quiet (fail)
      go_wp2
      go_ret
      exact ⟨by rw [HO.out]; rfl, _, rfl⟩
  · have h1' : decide ((f : Int) ≤ (i : Int)) = false := by simpa using h1
    have h1n : decide (f ≤ i) = false := by simpa using h1
    have HO := Lib.hid (show ownB f s i = false by unfold ownB; simp [h1])
    clear h hf hs
    go_enter Tryz.func134, Tryz.ntmps134
    go_upto_region 1 with (fail)
    go_quiet (fail)
    go_wp2
    go_ret
    exact ⟨by rw [HO.out]; rfl, _, rfl⟩
set_option maxHeartbeats 1000000 in
theorem may_any (X : List Nat) (D : Nat) (ds : DS) (b f s i : Nat) (w : World) (hD : Dsk w X D ds) (h : WLog w b D f s) (hf : f ≤ 1000000) (hs : s ≤ 1000000) :
    Calls Tryz.prog 116 #[.pointer (some ⟨b, 0, none⟩), .int .i64 i] w fun e w' => e = .returned (.bool (mayB ds.L.length f s i)) ∧ ∃ n, w' = w.drewN n := by
  have KO := own_any b D f s i w h hf hs
  have KZ := size_any X D ds w hD
  have x0 := Blk.cell h 0
  simp at x0
  unfold mayB
  obtain ⟨n, hn⟩ : ∃ n, ds.L.length = n := ⟨_, rfl⟩
  obtain ⟨o, ho⟩ : ∃ n, ownB f s i = n := ⟨_, rfl⟩
  rw [hn] at KZ ⊢
  rw [ho] at KO ⊢
  have i0 : (0 : Int) ≤ (i : Int) := by omega
  by_cases h1 : i < n
  · have h1' : (i : Int) < (n : Int) := by omega
    have h1n : decide (i < n) = true := by simpa using h1
    rw [h1n, Bool.true_and]
    clear hD h hf hs hn ho h1n
    go_enter Tryz.func116, Tryz.ntmps116
    go_wp2_with (first
      | (go_at_call 53; refine KZ.mono ?_; rintro e w1 ⟨rfl, hw⟩; obtain rfl := hw.symm)
      | (go_at_call 134; refine KO.mono ?_; rintro e w1 ⟨rfl, q, rfl⟩))
    go_ret
    exact ⟨rfl, _, rfl⟩
  · have h1' : ¬ ((i : Int) < (n : Int)) := by omega
    have h1n : decide (i < n) = false := by simpa using h1
    rw [h1n, Bool.false_and]
    clear hD h hf hs hn ho h1n
    go_enter Tryz.func116, Tryz.ntmps116
    go_wp2_with (go_at_call 53; refine KZ.mono ?_; rintro e w1 ⟨rfl, hw⟩; obtain rfl := hw.symm)
    go_ret
    exact ⟨rfl, 0, rfl⟩
theorem most_any (b D f s : Nat) (w : World) (h : WLog w b D f s) (hs : 1 ≤ s ∧ s ≤ 1000000) :
    Calls Tryz.prog 115 #[.pointer (some ⟨b, 0, none⟩)] w fun e w' => e = .returned (.int .i64 ((s - 1 : Nat) : Int)) ∧ w' = w := by
  have x2 := Blk.cell h 2
  simp at x2
  have s0 : (1 : Int) ≤ (s : Int) := by omega
  have s1 : (s : Int) ≤ 1000000 := by omega
  rw [show ((s - 1 : Nat) : Int) = (s : Int) - 1 by omega]
  clear h hs
  go_enter Tryz.func115, Tryz.ntmps115
  go_wp2
  go_ret
  exact ⟨rfl, rfl⟩
/-- A command: a sector is written, or all lasts. -/
inductive Cmd where
  | wr (i : Nat) (b : Bs)
  | sy
def DS.cmd (d : DS) : Cmd → Nat × DS
  | .wr i b => d.write i b
  | .sy => d.sync
/-- Commands up to the first one that is not done. -/
def DS.run : List Cmd → DS → Nat × DS
  | [], d => (0, d)
  | c :: l, d => if (d.cmd c).1 = 0 then DS.run l (d.cmd c).2 else d.cmd c
theorem run_append (a b : List Cmd) : ∀ d, DS.run (a ++ b) d = if (DS.run a d).1 = 0 then DS.run b (DS.run a d).2 else DS.run a d := by
  induction a with
  | nil => intro d; simp [DS.run]
  | cons c l ih =>
    intro d
    rw [List.cons_append, DS.run, DS.run]
    split
    · rw [ih]
    · rfl
theorem run_one (c : Cmd) (d : DS) : DS.run [c] d = d.cmd c := by
  unfold DS.run
  split
  · rename_i h; rw [DS.run]; exact Prod.ext h.symm rfl
  · rfl
theorem run_snoc (a : List Cmd) (c : Cmd) (d : DS) (h : (DS.run a d).1 = 0) : DS.run (a ++ [c]) d = (DS.run a d).2.cmd c := by rw [run_append, if_pos h, run_one]
theorem run_stop (a b : List Cmd) (d : DS) (h : (DS.run a d).1 ≠ 0) : DS.run (a ++ b) d = DS.run a d := by rw [run_append, if_neg h]
theorem write_len (d : DS) (i : Nat) (b : Bs) : (d.write i b).2.L.length = d.L.length ∧ (d.write i b).2.S.length ≤ d.S.length + 1 := by
  unfold DS.write
  split
  · rename_i h
    exact ⟨step_len d, by simp only [List.length_append, (step_S d h).1]; simp⟩
  · refine ⟨step_len d, ?_⟩
    rename_i h
    unfold DS.step
    split
    · simp
    · split
      · simp
      · split
        · simp [DS.fail]
        · simp
theorem sync_len (d : DS) : d.sync.2.L.length = d.L.length ∧ d.sync.2.S.length ≤ d.S.length := by
  unfold DS.sync
  split
  · rename_i h
    exact ⟨by simp only [overlay_length]; exact step_len d, by simp⟩
  · refine ⟨step_len d, ?_⟩
    unfold DS.step
    split
    · simp
    · split
      · simp
      · split
        · simp [DS.fail]
        · simp
theorem cmd_len (d : DS) (c : Cmd) : (d.cmd c).2.L.length = d.L.length ∧ (d.cmd c).2.S.length ≤ d.S.length + 1 := by
  cases c with
  | wr i b => exact write_len d i b
  | sy => exact ⟨(sync_len d).1, Nat.le_succ_of_le (sync_len d).2⟩
theorem run_len (l : List Cmd) : ∀ d, (DS.run l d).2.L.length = d.L.length ∧ (DS.run l d).2.S.length ≤ d.S.length + l.length := by
  induction l with
  | nil => intro d; exact ⟨rfl, Nat.le_refl _⟩
  | cons c l ih =>
    intro d
    have h1 := cmd_len d c
    rw [DS.run]
    split
    · have := ih (d.cmd c).2
      exact ⟨this.1.trans h1.1, by simp only [List.length_cons]; omega⟩
    · exact ⟨h1.1, by simp only [List.length_cons]; omega⟩
end Go.Proofs.YtcmcdddnckcpcaaGreatDoor
