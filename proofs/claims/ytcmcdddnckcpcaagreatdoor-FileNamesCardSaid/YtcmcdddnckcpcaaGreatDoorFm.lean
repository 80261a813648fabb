/- The map of a store's files: what it holds, a look-up, a store, a deletion; its keys. -/
import Derived.Test.YtcmcdddnckcpcaaGreatDoorWc
import Derived.Test.YtcmcdddnckcpcaaGreatDoorIk
import Derived.Test.YtcmcdddnckcpcaaGreatDoorGf
import Derived.Test.YtcmcdddnckcpcaaGreatDoorEn
import Derived.Maps.Own
import Derived.Maps.OwnSet
import Derived.Maps.Views
import Derived.StringKeys
namespace Go.Proofs.YtcmcdddnckcpcaaGreatDoor
open Go.RowKit Go.Maps Go.WideMaps
/-- A file: its entry's number, its size, its extents. -/
structure FileM where
  name : Bs
  entry : Nat
  size : Nat
  ext : List (Nat × Nat)
/-- How an element reads: as itself. -/
def rawE (v : Value) : Option (DataW Value × List MemPlace) := some (.held v, [])
theorem rawE_inv {v : Value} {d : DataW Value} {ps : List MemPlace} (h : rawE v = some (d, ps)) : d = .held v := by
  unfold rawE at h
  simp at h
  exact h.1.symm
abbrev AdM := Bs → Option Addr × Nat
/-- A file's value; its extents lie where 'ad' says. -/
def inoV (ad : AdM) (f : FileM) : Value := .agg #[.int .i64 f.entry, .int .i64 f.size, .slice (ad f.name).1 f.ext.length (ad f.name).2]
def inoZ : Value := .agg #[.int .i64 0, .int .i64 0, .slice none 0 0]
theorem keyLaw9 : Keyed Tryz.prog 9 := string_keyed Tryz.underlying9
theorem zero69 (w : World) : (zeroValue 69).run Tryz.prog w = .ok inoZ w := by kernel_rfl
theorem own_tight {H : Type} {P : Program} {k : TypeId} {R : Value → Option (DataW H × List MemPlace)} {w : World} {b n : Nat} {Dm : DataW H} (h : w.ownsMap P k R b n Dm) : w.ownsMap P k R b (Maps.size Dm) Dm := by
  obtain ⟨es, clock, h1, h2, _, rfl⟩ := h
  exact ⟨es, clock, h1, h2, by simp [Maps.size, length_sorted], rfl⟩
/-- The file of a name. -/
def fileOf (F : List FileM) (t : Bs) : Option FileM := F.find? fun f => f.name == t
/-- Block M of w is the map of the files F. -/
def FM (w : World) (M : Nat) (ad : AdM) (F : List FileM) : Prop :=
  ∃ Dm : DataW Value, w.ownsMap Tryz.prog 9 rawE M F.length Dm ∧ (F.map (·.name)).Nodup ∧ Maps.size Dm = F.length ∧
    ∀ t : Bs, Maps.has Dm (.string t) = (fileOf F t).isSome ∧ ∀ z, Dm.atKey (.string t) z = ((fileOf F t).map fun f => DataW.held (inoV ad f)).getD z
theorem FM.made (w : World) (ad : AdM) : FM (w.alloc (.map #[] 0)) w.heap.size ad [] := ⟨.map [], World.ownsMap_made _ _ _ _, by simp, rfl, fun t => ⟨rfl, fun z => rfl⟩⟩
theorem FM.kept {w w' : World} {M : Nat} {ad : AdM} {F : List FileM} {row : Option Nat} (h : FM w M ad F) (hg : w.grownBy w' row) (hne : some M ≠ row) : FM w' M ad F := by
  obtain ⟨Dm, h1, h2⟩ := h
  exact ⟨Dm, h1.kept hg hne, h2⟩
theorem FM.lt {w : World} {M : Nat} {ad : AdM} {F : List FileM} (h : FM w M ad F) : M < w.heap.size := by obtain ⟨Dm, h1, _⟩ := h; exact h1.lt
theorem FM.block {w w' : World} {M : Nat} {ad : AdM} {F : List FileM} (h : FM w M ad F) (hb : w'.heap[M]? = w.heap[M]?) : FM w' M ad F := by
  obtain ⟨Dm, ⟨es, clock, h1, h3⟩, h2⟩ := h
  exact ⟨Dm, ⟨es, clock, hb.trans h1, h3⟩, h2⟩
theorem FM.not_cells {w : World} {M g : Nat} {ad : AdM} {F : List FileM} (h : FM w M ad F) {cs : Array Value} {t : TypeId} {fr : Nat × Nat} (hg : w.heap[g]? = some (.cells cs t fr)) : g ≠ M := by
  obtain ⟨Dm, ⟨es, clock, h1, _⟩, _⟩ := h
  rintro rfl
  rw [h1] at hg
  cases hg
theorem FM.nodup {w : World} {M : Nat} {ad : AdM} {F : List FileM} (h : FM w M ad F) : (F.map (·.name)).Nodup := by obtain ⟨_, _, h, _⟩ := h; exact h
/-- 'v, ok := m[name]'. -/
theorem FM.look {w : World} {M : Nat} {ad : AdM} {F : List FileM} (h : FM w M ad F) (t : Bs) (ht : t.length ≤ maxLen) :
    (Instr.lookup 77 (.map (some M)) (.string (mk t)) true).run Tryz.prog w = .ok (.tuple #[((fileOf F t).map (inoV ad)).getD inoZ, .bool (fileOf F t).isSome]) w := by
  obtain ⟨Dm, h1, h2, h3, h4⟩ := h
  obtain ⟨v, ps, hrun, hv⟩ := h1.look_ok keyLaw9 Tryz.underlying77 (zero69 w) (zd := .held inoZ) (zp := []) rfl (keyOf_string_mk Tryz.underlying9 (by rw [mk_size]; exact ht))
  rw [mk_data] at hrun hv
  rw [(h4 t).2] at hv
  have hv' := rawE_inv hv
  rw [hrun, (h4 t).1]
  cases hf : fileOf F t with
  | none => rw [hf] at hv'; simp at hv'; rw [hv']; rfl
  | some f =>
    rw [hf] at hv'
    simp only [Option.map_some, Option.getD_some, DataW.held.injEq] at hv'
    rw [← hv']; rfl
/-- 'len(m)'. -/
theorem FM.len {w : World} {M : Nat} {ad : AdM} {F : List FileM} (h : FM w M ad F) (ty : TypeId) : (Builtin.len_ #[77] ty #[.map (some M)]).run Tryz.prog w = .ok (.int .i64 (F.length : Nat)) w := by
  obtain ⟨Dm, h1, _, h3, _⟩ := h
  rw [h1.len Tryz.underlying77 ty, h3]
/-- A file takes the place of another of its name, or comes behind all. -/
def putF (F : List FileM) (f : FileM) : List FileM := if (fileOf F f.name).isSome then F.map fun g => if g.name == f.name then f else g else F ++ [f]
def delF (F : List FileM) (t : Bs) : List FileM := F.filter fun g => !(g.name == t)
theorem fileOf_name {F : List FileM} {t : Bs} {f : FileM} (h : fileOf F t = some f) : f.name = t := by simpa using List.find?_some h
theorem fileOf_mem {F : List FileM} {t : Bs} {f : FileM} (h : fileOf F t = some f) : f ∈ F := List.mem_of_find?_eq_some h
theorem fileOf_none {F : List FileM} {t : Bs} : fileOf F t = none ↔ ∀ f ∈ F, f.name ≠ t := by unfold fileOf; simp [List.find?_eq_none]
theorem putF_names (F : List FileM) (f : FileM) : (putF F f).map (·.name) = if (fileOf F f.name).isSome then F.map (·.name) else F.map (·.name) ++ [f.name] := by
  unfold putF
  split
  · rw [List.map_map]
    refine List.map_congr_left fun g _ => ?_
    simp only [Function.comp]
    split
    · rename_i h; exact (by simpa using h : g.name = f.name).symm
    · rfl
  · simp
theorem putF_nodup {F : List FileM} {f : FileM} (h : (F.map (·.name)).Nodup) : ((putF F f).map (·.name)).Nodup := by
  rw [putF_names]
  split
  · exact h
  · rename_i hn
    rw [List.nodup_append]
    refine ⟨h, by simp, fun a ha b hb e => ?_⟩
    simp at hb
    subst hb
    obtain ⟨g, hg, he⟩ := List.mem_map.1 ha
    have := fileOf_none.1 (by simpa using hn) g hg
    exact this (he.trans e)
theorem putF_length (F : List FileM) (f : FileM) : (putF F f).length = if (fileOf F f.name).isSome then F.length else F.length + 1 := by
  unfold putF; split <;> simp
theorem fileOf_cons (g : FileM) (F : List FileM) (t : Bs) : fileOf (g :: F) t = if g.name = t then some g else fileOf F t := by
  unfold fileOf
  rw [List.find?_cons]
  by_cases h : g.name = t
  · rw [if_pos h, h]; simp
  · rw [if_neg h, beq_eq_false_iff_ne.2 h]
theorem fileOf_append (F G : List FileM) (t : Bs) : fileOf (F ++ G) t = (fileOf F t).or (fileOf G t) := by unfold fileOf; rw [List.find?_append]
theorem fileOf_map_same (F : List FileM) (f : FileM) : (fileOf F f.name).isSome = true → fileOf (F.map fun g => if g.name == f.name then f else g) f.name = some f := by
  induction F with
  | nil => intro h; cases h
  | cons g F ih =>
    intro h
    rw [List.map_cons, fileOf_cons]
    rw [fileOf_cons] at h
    by_cases hg : g.name = f.name
    · simp [hg]
    · rw [if_neg hg] at h
      rw [beq_eq_false_iff_ne.2 hg]
      simp only [Bool.false_eq_true, if_false]
      rw [if_neg hg]
      exact ih h
theorem fileOf_map_other (F : List FileM) (f : FileM) (t : Bs) (h : t ≠ f.name) : fileOf (F.map fun g => if g.name == f.name then f else g) t = fileOf F t := by
  induction F with
  | nil => rfl
  | cons g F ih =>
    rw [List.map_cons, fileOf_cons, fileOf_cons, ih]
    by_cases hg : g.name = f.name
    · have e : (if g.name == f.name then f else g) = f := if_pos (by simpa using hg)
      rw [e, if_neg (fun e => h e.symm), if_neg (by rw [hg]; exact fun e => h e.symm)]
    · have e : (if g.name == f.name then f else g) = g := if_neg (by simpa using hg)
      rw [e]
theorem fileOf_put_same (F : List FileM) (f : FileM) : fileOf (putF F f) f.name = some f := by
  unfold putF
  split
  · rename_i h; exact fileOf_map_same F f h
  · rename_i h
    rw [fileOf_append, show fileOf F f.name = none by simpa using h, fileOf_cons, if_pos rfl]; rfl
theorem fileOf_put_other (F : List FileM) (f : FileM) (t : Bs) (h : t ≠ f.name) : fileOf (putF F f) t = fileOf F t := by
  unfold putF
  split
  · exact fileOf_map_other F f t h
  · rw [fileOf_append, fileOf_cons, if_neg (fun e => h e.symm)]
    cases fileOf F t <;> rfl
theorem fileOf_del_same (F : List FileM) (t : Bs) : fileOf (delF F t) t = none := by
  rw [fileOf_none]
  intro f hf e
  have := (List.mem_filter.1 hf).2
  simp [e] at this
theorem delF_cons (g : FileM) (F : List FileM) (t : Bs) : delF (g :: F) t = if g.name = t then delF F t else g :: delF F t := by
  unfold delF
  rw [List.filter_cons]
  by_cases h : g.name = t
  · rw [if_pos h, h]; simp
  · rw [if_neg h, beq_eq_false_iff_ne.2 h]; rfl
theorem fileOf_del_other (F : List FileM) (t u : Bs) (h : u ≠ t) : fileOf (delF F t) u = fileOf F u := by
  induction F with
  | nil => rfl
  | cons g F ih =>
    rw [delF_cons, fileOf_cons]
    by_cases hg : g.name = t
    · rw [if_pos hg, if_neg (by rw [hg]; exact fun e => h e.symm)]; exact ih
    · rw [if_neg hg, fileOf_cons, ih]
theorem delF_nodup {F : List FileM} {t : Bs} (h : (F.map (·.name)).Nodup) : ((delF F t).map (·.name)).Nodup := by
  unfold delF
  exact h.sublist ((List.filter_sublist).map _)
theorem delF_none {F : List FileM} {t : Bs} (h : fileOf F t = none) : delF F t = F := by
  unfold delF
  rw [List.filter_eq_self]
  intro f hf
  simpa using fileOf_none.1 h f hf
theorem delF_length {F : List FileM} {t : Bs} (h : (F.map (·.name)).Nodup) : (delF F t).length + (if (fileOf F t).isSome then 1 else 0) = F.length := by
  induction F with
  | nil => rfl
  | cons g F ih =>
    rw [List.map_cons, List.nodup_cons] at h
    have ih := ih h.2
    rw [delF_cons, fileOf_cons, List.length_cons]
    by_cases hg : g.name = t
    · have hn : fileOf F t = none := fileOf_none.2 fun f hf e => h.1 (List.mem_map.2 ⟨f, hf, by rw [e, hg]⟩)
      rw [if_pos hg, if_pos hg, delF_none hn]; rfl
    · rw [if_neg hg, if_neg hg, List.length_cons]; omega
def setAd (ad : AdM) (t : Bs) (p : Option Addr × Nat) : AdM := fun u => if u = t then p else ad u
theorem setAd_same (ad : AdM) (t : Bs) (p : Option Addr × Nat) : setAd ad t p t = p := if_pos rfl
theorem setAd_other (ad : AdM) (t u : Bs) (p : Option Addr × Nat) (h : u ≠ t) : setAd ad t p u = ad u := if_neg h
theorem inoV_other (ad : AdM) (t : Bs) (p : Option Addr × Nat) (f : FileM) (h : f.name ≠ t) : inoV (setAd ad t p) f = inoV ad f := by unfold inoV; rw [setAd_other _ _ _ _ h]
/-- 'm[name] = file'. -/
theorem FM.store {w : World} {M : Nat} {ad : AdM} {F : List FileM} (h : FM w M ad F) (f : FileM) (A : Option Addr) (c : Nat) (hn : F.length < maxLen) (ht : f.name.length ≤ maxLen) :
    ∃ w', (Instr.mapUpdate 77 (.map (some M)) (.string (mk f.name)) (.agg #[.int .i64 f.entry, .int .i64 f.size, .slice A f.ext.length c])).run Tryz.prog w = .ok () w' ∧ FM w' M (setAd ad f.name (A, c)) (putF F f) ∧ w.grownBy w' (some M) := by
  obtain ⟨Dm, h1, h2, h3, h4⟩ := h
  have hv : (Value.agg #[.int .i64 f.entry, .int .i64 f.size, .slice A f.ext.length c]) = inoV (setAd ad f.name (A, c)) f := by unfold inoV; rw [setAd_same]
  obtain ⟨w', hrun, hown, hg⟩ := h1.update keyLaw9 Tryz.underlying77 hn (keyOf_string_mk (s := mk f.name) Tryz.underlying9 (by rw [mk_size]; exact ht)) (val := .agg #[.int .i64 f.entry, .int .i64 f.size, .slice A f.ext.length c]) (d := .held (inoV (setAd ad f.name (A, c)) f)) (ps := []) (by rw [hv]; rfl)
  rw [mk_data] at hown
  have hsz : Maps.size (Dm.put (.string f.name) (.held (inoV (setAd ad f.name (A, c)) f))) = (putF F f).length := by rw [size_put (h1.tidy keyLaw9), (h4 f.name).1, putF_length, h3]
  refine ⟨w', hrun, ⟨_, by rw [← hsz]; exact own_tight hown, putF_nodup h2, hsz, fun t => ?_⟩, hg⟩
  · by_cases ht2 : t = f.name
    · subst ht2
      refine ⟨by rw [has_put_same (k := .string f.name) h1.isMap trivial, fileOf_put_same]; rfl, fun z => ?_⟩
      rw [atKey_put_same (k := .string f.name) h1.isMap trivial, fileOf_put_same]; rfl
    · have hne : (Lit.string t) ≠ .string f.name := fun e => ht2 (by injection e)
      refine ⟨by rw [has_put_other hne, (h4 t).1, fileOf_put_other _ _ _ ht2], fun z => ?_⟩
      rw [atKey_put_other hne, (h4 t).2 z, fileOf_put_other _ _ _ ht2]
      cases hf : fileOf F t with
      | none => rfl
      | some g =>
        have := fileOf_name hf
        simp only [Option.map_some, Option.getD_some]
        rw [inoV_other _ _ _ _ (by rw [this]; exact ht2)]
/-- 'delete(m, name)'. -/
theorem FM.drop {w : World} {M : Nat} {ad : AdM} {F : List FileM} (h : FM w M ad F) (t : Bs) (ht : t.length ≤ maxLen) (ty : TypeId) :
    ∃ w', (Builtin.delete_ #[77, 9] ty #[.map (some M), .string (mk t)]).run Tryz.prog w = .ok (.tuple #[]) w' ∧ FM w' M ad (delF F t) ∧ w.grownBy w' (some M) := by
  obtain ⟨Dm, h1, h2, h3, h4⟩ := h
  obtain ⟨w', hrun, hown, hg⟩ := h1.drop keyLaw9 Tryz.underlying77 (keyOf_string_mk (s := mk t) Tryz.underlying9 (by rw [mk_size]; exact ht)) ty
  rw [mk_data] at hown
  have hsz : Maps.size (Dm.del (.string t)) = (delF F t).length := by
    have a := size_del (k := .string t) (h1.tidy keyLaw9)
    have b := delF_length (t := t) h2
    rw [(h4 t).1] at a
    omega
  refine ⟨w', hrun, ⟨_, by rw [← hsz]; exact own_tight hown, delF_nodup h2, hsz, fun u => ?_⟩, hg.grown⟩
  · by_cases hu : u = t
    · subst hu
      refine ⟨by rw [has_del_same, fileOf_del_same]; rfl, fun z => ?_⟩
      rw [atKey_del_same, fileOf_del_same]; rfl
    · have hne : (Lit.string u) ≠ .string t := fun e => hu (by injection e)
      exact ⟨by rw [has_del_other hne, (h4 u).1, fileOf_del_other _ _ _ hu], fun z => by rw [atKey_del_other hne, (h4 u).2 z, fileOf_del_other _ _ _ hu]⟩
end Go.Proofs.YtcmcdddnckcpcaaGreatDoor
