/- Numbers as bytes: what Put writes, what Get reads. No program. -/
import Derived.Test.YtcmcdddnckcpcaaGreatDoorKt
namespace Go.Proofs.YtcmcdddnckcpcaaGreatDoor
/-- The last k bytes of a number, the greatest first. -/
def be (n : Nat) : Nat → Bs
  | 0 => []
  | k + 1 => be (n / 256) k ++ [UInt8.ofNat n]
/-- How many bytes stand behind the first one. -/
def kOf (n : Nat) : Nat := Nat.log2 n / 7
/-- What the first byte begins with, where k bytes stand behind it. -/
def pre (k : Nat) : Nat := 256 - 2 ^ (8 - k)
def putB (n : Nat) : Bs := UInt8.ofNat (pre (kOf n) + n / 256 ^ kOf n) :: be n (kOf n)
theorem be_length (k : Nat) : ∀ n, (be n k).length = k := by
  induction k with
  | zero => intro n; rfl
  | succ k ih => intro n; simp [be, ih]
theorem be_cons (k : Nat) : ∀ n, be n (k + 1) = UInt8.ofNat (n / 256 ^ k) :: be n k := by
  induction k with
  | zero => intro n; simp [be]
  | succ k ih =>
    intro n
    rw [be, ih, be, List.cons_append, Nat.div_div_eq_div_mul, Nat.pow_succ, Nat.mul_comm 256]
/-- The number that bytes are. -/
def num (a : Nat) (l : Bs) : Nat := l.foldl (fun n c => n * 256 + c.toNat) a
theorem num_append (a : Nat) (l m : Bs) : num a (l ++ m) = num (num a l) m := by simp [num]
theorem num_be (k : Nat) : ∀ n a, num a (be n k) = a * 256 ^ k + n % 256 ^ k := by
  induction k with
  | zero => intro n a; simp [be, num, Nat.mod_one]
  | succ k ih =>
    intro n a
    rw [be, num_append, ih]
    simp only [num, List.foldl_cons, List.foldl_nil, UInt8.toNat_ofNat', Nat.pow_succ]
    have h1 := Nat.mod_mul (a := 256) (b := 256 ^ k) (x := n)
    rw [Nat.mul_comm (256 ^ k) 256, h1, Nat.add_mul, Nat.mul_assoc, Nat.mul_comm (256 ^ k) 256]
    have e : (2 : Nat) ^ 8 = 256 := rfl
    omega
theorem kOf_lt (n : Nat) : n < 128 ^ (kOf n + 1) := by
  unfold kOf
  rcases Nat.eq_zero_or_pos n with h | h
  · subst h; exact Nat.pos_of_ne_zero (by simp)
  · have h1 := Nat.lt_log2_self (n := n)
    have h2 : n.log2 + 1 ≤ 7 * (n.log2 / 7 + 1) := by omega
    calc n < 2 ^ (n.log2 + 1) := h1
      _ ≤ 2 ^ (7 * (n.log2 / 7 + 1)) := Nat.pow_le_pow_right (by omega) h2
      _ = 128 ^ (n.log2 / 7 + 1) := by rw [Nat.pow_mul]
theorem kOf_ge (n : Nat) (h : 0 < kOf n) : 128 ^ kOf n ≤ n := by
  unfold kOf at *
  have hn : n ≠ 0 := by rintro rfl; simp at h
  have h1 := Nat.log2_self_le hn
  calc 128 ^ (n.log2 / 7) = 2 ^ (7 * (n.log2 / 7)) := by rw [Nat.pow_mul]
    _ ≤ 2 ^ n.log2 := Nat.pow_le_pow_right (by omega) (by omega)
    _ ≤ n := h1
theorem kOf_le (n : Nat) (h : n ≤ 1099511627776) : kOf n ≤ 5 := by
  rcases Nat.lt_or_ge 5 (kOf n) with h1 | h1
  · have h2 := kOf_ge n (by omega)
    have h3 : 128 ^ 6 ≤ 128 ^ kOf n := Nat.pow_le_pow_right (by omega) h1
    have h4 : (128 : Nat) ^ 6 = 4398046511104 := rfl
    omega
  · exact h1
/-- The first byte's free bits are enough. -/
theorem top_lt (n : Nat) (h : n ≤ 1099511627776) : n / 256 ^ kOf n < 2 ^ (7 - kOf n) := by
  have h1 := kOf_lt n
  have h2 := kOf_le n h
  rw [Nat.div_lt_iff_lt_mul (Nat.pos_of_ne_zero (by simp))]
  have h3 : kOf n = 0 ∨ kOf n = 1 ∨ kOf n = 2 ∨ kOf n = 3 ∨ kOf n = 4 ∨ kOf n = 5 := by omega
  rcases h3 with e | e | e | e | e | e <;> rw [e] at h1 ⊢ <;> simpa using h1
/-- How many ones a byte begins with. -/
def lead1 (c : UInt8) : Nat := if c.toNat < 128 then 0 else if c.toNat < 192 then 1 else if c.toNat < 224 then 2 else if c.toNat < 240 then 3 else if c.toNat < 248 then 4 else if c.toNat < 252 then 5 else if c.toNat < 254 then 6 else if c.toNat < 255 then 7 else 8
/-- The number at the beginning of bytes: the number, how many bytes, the error. -/
def getB (s : Bs) : Nat × Nat × Nat :=
  match s with
  | [] => (0, 0, 3)
  | c :: r => if 5 < lead1 c then (0, 0, 2) else if r.length < lead1 c then (0, 0, 3) else
    if 1099511627776 < num (c.toNat % 2 ^ (8 - lead1 c)) (r.take (lead1 c)) ∨ kOf (num (c.toNat % 2 ^ (8 - lead1 c)) (r.take (lead1 c))) ≠ lead1 c then (0, 0, 2)
    else (num (c.toNat % 2 ^ (8 - lead1 c)) (r.take (lead1 c)), lead1 c + 1, 0)
theorem putB_length (n : Nat) : (putB n).length = kOf n + 1 := by simp [putB, be_length]
theorem get_put (n : Nat) (h : n ≤ 1099511627776) (r : Bs) : getB (putB n ++ r) = (n, kOf n + 1, 0) := by
  have h1 := kOf_le n h
  have h2 := top_lt n h
  have h5 : kOf n = 0 ∨ kOf n = 1 ∨ kOf n = 2 ∨ kOf n = 3 ∨ kOf n = 4 ∨ kOf n = 5 := by omega
  have hc : (UInt8.ofNat (pre (kOf n) + n / 256 ^ kOf n)).toNat = pre (kOf n) + n / 256 ^ kOf n := by
    rw [UInt8.toNat_ofNat']
    unfold pre
    rcases h5 with e | e | e | e | e | e <;> rw [e] at h2 ⊢ <;> simp at h2 ⊢ <;> omega
  have hl : lead1 (UInt8.ofNat (pre (kOf n) + n / 256 ^ kOf n)) = kOf n := by
    unfold lead1
    rw [hc]
    unfold pre
    rcases h5 with e | e | e | e | e | e <;> rw [e] at h2 ⊢ <;> simp only [Nat.reducePow, Nat.reduceSub] at h2 ⊢ <;> (repeat' split) <;> omega
  have hm : (pre (kOf n) + n / 256 ^ kOf n) % 2 ^ (8 - kOf n) = n / 256 ^ kOf n := by
    unfold pre
    rcases h5 with e | e | e | e | e | e <;> rw [e] at h2 ⊢ <;> simp at h2 ⊢ <;> omega
  have ht : (be n (kOf n) ++ r).take (kOf n) = be n (kOf n) := by
    rw [List.take_append_of_le_length (by rw [be_length]; exact Nat.le_refl _), List.take_of_length_le (by rw [be_length]; exact Nat.le_refl _)]
  have hn : num (n / 256 ^ kOf n) (be n (kOf n)) = n := by
    rw [num_be, Nat.mul_comm]; exact Nat.div_add_mod n _
  show getB (UInt8.ofNat (pre (kOf n) + n / 256 ^ kOf n) :: (be n (kOf n) ++ r)) = _
  unfold getB
  simp only
  rw [hl, if_neg (by omega), if_neg (by rw [List.length_append, be_length]; omega), hc, hm, ht, hn, if_neg (by omega)]
/-- The text at the beginning of bytes: the text, how many bytes, the error. -/
def nextB (s : Bs) : Bs × Nat × Nat :=
  match getB s with
  | (n, k, e) => if e ≠ 0 then ([], 0, e) else if 262144 < n then ([], 0, 6) else if s.length < n + k then ([], 0, 3) else ((s.drop k).take n, k + n, 0)
/-- Texts, each behind its length. -/
def joinB (l : List Bs) : Bs := l.flatMap fun t => putB t.length ++ t
theorem joinB_nil : joinB [] = [] := rfl
theorem joinB_cons (t : Bs) (l : List Bs) : joinB (t :: l) = putB t.length ++ (t ++ joinB l) := by simp [joinB]
theorem joinB_snoc (l : List Bs) (t : Bs) : joinB (l ++ [t]) = joinB l ++ putB t.length ++ t := by simp [joinB]
theorem next_put (t r : Bs) (h : t.length ≤ 262144) : nextB (putB t.length ++ (t ++ r)) = (t, (putB t.length).length + t.length, 0) := by
  unfold nextB
  rw [get_put _ (by omega)]
  have hl := putB_length t.length
  simp only
  rw [if_neg (by simp), if_neg (by omega), if_neg (by simp only [List.length_append]; omega), ← hl, List.drop_left, List.take_left]
/-- What splitting gives. -/
inductive SplitR : Bs → List Bs → Nat → Prop
  | nil : SplitR [] [] 0
  | err {s t k e} (h : s ≠ []) (hn : nextB s = (t, k, e)) (he : e ≠ 0) : SplitR s [] e
  | step {s t k l} (h : s ≠ []) (hn : nextB s = (t, k, 0)) (hl : SplitR (s.drop k) l 0) : SplitR s (t :: l) 0
  | late {s t k e} (h : s ≠ []) (hn : nextB s = (t, k, 0)) (hl : SplitR (s.drop k) [] e) (he : e ≠ 0) : SplitR s [] e
theorem putB_ne (n : Nat) : putB n ≠ [] := by simp [putB]
theorem split_join (l : List Bs) (h : ∀ t ∈ l, t.length ≤ 262144) : ∀ {m e}, SplitR (joinB l) m e → m = l ∧ e = 0 := by
  induction l with
  | nil =>
    intro m e hs
    rw [joinB_nil] at hs
    cases hs with
    | nil => exact ⟨rfl, rfl⟩
    | err h => exact absurd rfl h
    | step h => exact absurd rfl h
    | late h => exact absurd rfl h
  | cons t l ih =>
    intro m e hs
    have hn := next_put t (joinB l) (h t (by simp))
    rw [joinB_cons] at hs
    have hd : (putB t.length ++ (t ++ joinB l)).drop ((putB t.length).length + t.length) = joinB l := by
      rw [← List.append_assoc, ← List.length_append, List.drop_left]
    have ih' := fun {m e} => @ih (fun u hu => h u (List.mem_cons_of_mem _ hu)) m e
    generalize hS : putB t.length ++ (t ++ joinB l) = S at hs hn hd
    cases hs with
    | nil => exact absurd (List.append_eq_nil_iff.1 hS).1 (putB_ne _)
    | err _ hn' he => rw [hn] at hn'; simp only [Prod.mk.injEq] at hn'; exact absurd hn'.2.2.symm he
    | step _ hn' hl =>
      rw [hn] at hn'
      simp only [Prod.mk.injEq, and_true] at hn'
      obtain ⟨rfl, rfl⟩ := hn'
      rw [hd] at hl
      exact ⟨by rw [(ih' hl).1], rfl⟩
    | late _ hn' hl he =>
      rw [hn] at hn'
      simp only [Prod.mk.injEq, and_true] at hn'
      obtain ⟨rfl, rfl⟩ := hn'
      rw [hd] at hl
      exact absurd (ih' hl).2 he
end Go.Proofs.YtcmcdddnckcpcaaGreatDoor
