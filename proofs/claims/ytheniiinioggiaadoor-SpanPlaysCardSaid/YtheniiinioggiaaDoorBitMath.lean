/-
  Sets of small numbers as functions, who is next, how many there are; the bits of a word. Conditions: none beyond what each theorem names.
-/
import Derived.Lib.TrailingZeros
import Derived.Laws.Bits64b
namespace Go.Proofs.YtheniiinioggiaaDoor
theorem ctz_low (y : Nat) (hy : y ≠ 0) (h : y < 2 ^ 64) : Go.Lib.ctz 64 y < 64 ∧ y.testBit (Go.Lib.ctz 64 y) = true ∧ ∀ j, j < Go.Lib.ctz 64 y → y.testBit j = false := by
  obtain ⟨m, h1, h2⟩ := Go.Lib.ctzFrom_spec 64 y (by omega) h
  have e : Go.Lib.ctz 64 y = Go.Lib.ctzFrom 64 y := by simp [Go.Lib.ctz, hy]
  rw [e]
  generalize Go.Lib.ctzFrom 64 y = k at *
  subst h1
  refine ⟨h2, ?_, fun j hj => ?_⟩
  · rw [Nat.testBit_two_pow_mul]; simp
  · rw [Nat.testBit_two_pow_mul]; simp; omega
/-- Who is least from i on. -/
def nxt (S : Nat → Bool) (n i : Nat) (b : Bool) : Int := match (List.range n).find? (fun k => decide (i ≤ k) && (S k == b)) with
  | some k => (k : Int)
  | none => -1
theorem find_range (P : Nat → Bool) (n k : Nat) (hk : k < n) (h1 : P k = true) (h2 : ∀ j, j < k → P j = false) : (List.range n).find? P = some k := by
  rw [List.find?_eq_some_iff_append]
  refine ⟨h1, List.range k, (List.range (n - k - 1)).map (· + (k + 1)), ?_, ?_⟩
  · apply List.ext_getElem
    · simp; omega
    · intro m h3 h4
      simp only [List.getElem_range, List.getElem_append, List.length_range, List.getElem_cons, List.getElem_map]
      split
      · rfl
      · split <;> omega
  · intro j hj
    rw [List.mem_range] at hj
    rw [h2 j hj]
    rfl
theorem nxt_at {S : Nat → Bool} {n i : Nat} {b : Bool} {k : Nat} (hk : k < n) (hi : i ≤ k) (h1 : S k = b) (h2 : ∀ j, i ≤ j → j < k → S j ≠ b) : nxt S n i b = k := by
  unfold nxt
  rw [find_range _ n k hk (by simp [hi, h1]) (fun j hj => by
    by_cases hij : i ≤ j
    · have := h2 j hij hj
      simp [hij]
      exact this
    · simp [hij])]
theorem nxt_none {S : Nat → Bool} {n i : Nat} {b : Bool} (h2 : ∀ j, i ≤ j → j < n → S j ≠ b) : nxt S n i b = -1 := by
  unfold nxt
  rw [List.find?_eq_none.2 (fun j hj => by
    rw [List.mem_range] at hj
    by_cases hij : i ≤ j
    · have := h2 j hij hj
      simp [hij]
      exact this
    · simp [hij])]
theorem nxt_cases (S : Nat → Bool) (n i : Nat) (b : Bool) : (nxt S n i b = -1 ∧ ∀ j, i ≤ j → j < n → S j ≠ b) ∨ ∃ k : Nat, nxt S n i b = (k : Int) ∧ k < n ∧ i ≤ k ∧ S k = b ∧ ∀ j, i ≤ j → j < k → S j ≠ b := by
  by_cases h : ∃ k, k < n ∧ i ≤ k ∧ S k = b
  · right
    have : ∀ N, N ≤ n → (∀ j, i ≤ j → j < N → S j ≠ b) ∨ ∃ k, k < N ∧ i ≤ k ∧ S k = b ∧ ∀ j, i ≤ j → j < k → S j ≠ b := by
      intro N
      induction N with
      | zero => intro _; exact .inl (fun j _ hj => by omega)
      | succ N ih =>
        intro hN
        rcases ih (by omega) with h1 | ⟨k, h1, h2, h3, h4⟩
        · by_cases hS : i ≤ N ∧ S N = b
          · exact .inr ⟨N, by omega, hS.1, hS.2, h1⟩
          · refine .inl (fun j hj hjN => ?_)
            by_cases hjj : j = N
            · subst hjj; exact fun e => hS ⟨hj, e⟩
            · exact h1 j hj (by omega)
        · exact .inr ⟨k, by omega, h2, h3, h4⟩
    rcases this n (Nat.le_refl _) with h1 | ⟨k, h1, h2, h3, h4⟩
    · obtain ⟨k, hk, hik, hs⟩ := h
      exact absurd hs (h1 k hik hk)
    · exact ⟨k, nxt_at h1 h2 h3 h4, h1, h2, h3, h4⟩
  · exact .inl ⟨nxt_none (fun j h1 h2 h3 => h ⟨j, h2, h1, h3⟩), fun j h1 h2 h3 => h ⟨j, h2, h1, h3⟩⟩
/-- Who is in it, rising. -/
def mem (S : Nat → Bool) (n : Nat) : List Nat := (List.range n).filter S
def cnt (S : Nat → Bool) (n : Nat) : Nat := (mem S n).length
theorem cnt_zero (S : Nat → Bool) : cnt S 0 = 0 := rfl
theorem mem_succ (S : Nat → Bool) (n : Nat) : mem S (n + 1) = mem S n ++ if S n then [n] else [] := by
  unfold mem
  rw [List.range_succ, List.filter_append]
  cases hS : S n <;> simp [hS]
theorem cnt_succ (S : Nat → Bool) (n : Nat) : cnt S (n + 1) = cnt S n + if S n then 1 else 0 := by
  unfold cnt
  rw [mem_succ]
  cases hS : S n <;> simp
theorem cnt_le (S : Nat → Bool) (n : Nat) : cnt S n ≤ n := by
  unfold cnt mem
  have := List.length_filter_le S (List.range n)
  simpa using this
def upd (S : Nat → Bool) (i : Nat) (b : Bool) : Nat → Bool := fun k => if k = i then b else S k
theorem cnt_congr {S T : Nat → Bool} (n : Nat) (h : ∀ k, k < n → S k = T k) : cnt S n = cnt T n := by
  induction n with
  | zero => rfl
  | succ n ih => rw [cnt_succ, cnt_succ, ih (fun k hk => h k (by omega)), h n (by omega)]
theorem cnt_upd (S : Nat → Bool) (n i : Nat) (hi : i < n) (b : Bool) : cnt (upd S i b) n + (if S i then 1 else 0) = cnt S n + (if b then 1 else 0) := by
  induction n with
  | zero => omega
  | succ n ih =>
    rw [cnt_succ, cnt_succ]
    by_cases h : i = n
    · subst h
      rw [cnt_congr i (fun k hk => show upd S i b k = S k by simp [upd]; omega)]
      simp only [upd, if_pos]
      omega
    · have := ih (by omega)
      have e : upd S i b n = S n := by simp [upd]; omega
      rw [e]
      omega
theorem mem_congr {S T : Nat → Bool} (n : Nat) (h : ∀ k, k < n → S k = T k) : mem S n = mem T n := by
  unfold mem
  apply List.filter_congr
  intro x hx
  rw [List.mem_range] at hx
  exact h x hx
/-- The step from one in it to the next one. -/
theorem mem_take (S : Nat → Bool) (n j : Nat) (hj : j < cnt S n) : ∃ k, (mem S n)[j]? = some k ∧ k < n ∧ S k = true ∧ cnt S k = j ∧ mem S k = (mem S n).take j := by
  induction n with
  | zero => rw [cnt_zero] at hj; omega
  | succ n ih =>
    by_cases h : j < cnt S n
    · obtain ⟨k, h1, h2, h3, h4, h5⟩ := ih h
      have hjl : j < (mem S n).length := h
      refine ⟨k, ?_, by omega, h3, h4, ?_⟩
      · rw [mem_succ, List.getElem?_append_left hjl, h1]
      · rw [mem_succ, List.take_append_of_le_length (by omega), h5]
    · rw [cnt_succ] at hj
      cases hS : S n with
      | false => rw [hS] at hj; simp at hj; omega
      | true =>
        rw [hS] at hj
        simp at hj
        have hjn : j = cnt S n := by omega
        refine ⟨n, ?_, by omega, hS, hjn.symm, ?_⟩
        · rw [mem_succ, hS, hjn]
          unfold cnt
          simp
        · rw [mem_succ, hS, hjn]
          unfold cnt
          simp
theorem cnt_mono (S : Nat → Bool) (a b : Nat) (h : a ≤ b) : cnt S a ≤ cnt S b := by
  induction b with
  | zero => obtain rfl : a = 0 := by omega
            exact Nat.le_refl _
  | succ b ih =>
    by_cases hab : a = b + 1
    · subst hab; exact Nat.le_refl _
    · have := ih (by omega)
      rw [cnt_succ]
      omega
/-- No one lies between two that follow one another. -/
theorem cnt_gap (S : Nat → Bool) (a b : Nat) (h : cnt S a = cnt S b) (hab : a ≤ b) : ∀ j, a ≤ j → j < b → S j = false := by
  intro j h1 h2
  have e1 := cnt_mono S a j h1
  have e2 := cnt_mono S (j + 1) b h2
  rw [cnt_succ] at e2
  cases hS : S j with
  | false => rfl
  | true => rw [hS] at e2; simp at e2; omega
theorem nxt_mem {S : Nat → Bool} {n a j k : Nat} (hk : k < n) (hS : S k = true) (hc : cnt S k = j) (ha : cnt S a = j) (hak : a ≤ k) : nxt S n a true = k :=
  nxt_at hk hak hS (fun i h1 h2 => by rw [cnt_gap S a k (by omega) hak i h1 h2]; simp)
theorem word_bit (has : Bool) (x r t : Nat) (hx : x < 2 ^ 64) : ((if has then x else 2 ^ 64 - 1 - x) / 2 ^ r).testBit t = (decide (r + t < 64) && (x.testBit (r + t) == has)) := by
  rw [Nat.testBit_div_two_pow, Nat.add_comm t r]
  cases has with
  | true =>
    simp only [if_true]
    by_cases h : r + t < 64
    · simp [h]
    · have : x.testBit (r + t) = false := Nat.testBit_lt_two_pow (Nat.lt_of_lt_of_le hx (Nat.pow_le_pow_right (by omega) (by omega)))
      simp [this]
  | false =>
    have e : (if false = true then x else 2 ^ 64 - 1 - x) = 2 ^ 64 - (x + 1) := by simp
    rw [e, Nat.testBit_two_pow_sub_succ hx]
    cases x.testBit (r + t) <;> simp
theorem word_step (S : Nat → Bool) (n : Nat) (has : Bool) (x q r y : Nat) (hx : x < 2 ^ 64) (hr : r < 64) (hb : ∀ t, t < 64 → 64 * q + t < n → x.testBit t = S (64 * q + t)) (hy : y = (if has then x else 2 ^ 64 - 1 - x) / 2 ^ r) :
    y < 2 ^ 64 ∧ (y = 0 → ∀ j, 64 * q + r ≤ j → j < 64 * q + 64 → j < n → S j ≠ has) ∧
    (y ≠ 0 → r + Go.Lib.ctz 64 y < 64 ∧ (64 * q + r + Go.Lib.ctz 64 y < n → S (64 * q + r + Go.Lib.ctz 64 y) = has) ∧ ∀ j, 64 * q + r ≤ j → j < 64 * q + r + Go.Lib.ctz 64 y → j < n → S j ≠ has) := by
  have hbit : ∀ t, y.testBit t = (decide (r + t < 64) && (x.testBit (r + t) == has)) := fun t => by rw [hy]; exact word_bit has x r t hx
  have hy64 : y < 2 ^ 64 := by
    rw [hy]
    refine Nat.lt_of_le_of_lt (Nat.div_le_self _ _) ?_
    split <;> omega
  have key : ∀ j, 64 * q + r ≤ j → j < 64 * q + 64 → j < n → y.testBit (j - (64 * q + r)) = false → S j ≠ has := by
    intro j h1 h2 h3 h4
    rw [hbit] at h4
    have e1 : r + (j - (64 * q + r)) = j - 64 * q := by omega
    rw [e1] at h4
    have e2 := hb (j - 64 * q) (by omega) (by omega)
    rw [show 64 * q + (j - 64 * q) = j by omega] at e2
    rw [e2] at h4
    simp only [Bool.and_eq_false_iff, decide_eq_false_iff_not, beq_eq_false_iff_ne, ne_eq] at h4
    rcases h4 with h4 | h4
    · omega
    · exact h4
  refine ⟨hy64, fun h0 j h1 h2 h3 => key j h1 h2 h3 (by rw [h0]; simp), fun h0 => ?_⟩
  obtain ⟨c1, c2, c3⟩ := ctz_low y h0 hy64
  generalize Go.Lib.ctz 64 y = k at *
  rw [hbit] at c2
  simp only [Bool.and_eq_true, decide_eq_true_eq, beq_iff_eq] at c2
  refine ⟨c2.1, fun h => ?_, fun j h1 h2 h3 => ?_⟩
  · rw [← c2.2, hb (r + k) c2.1 (by omega)]
    congr 1
    omega
  · exact key j h1 (by omega) h3 (c3 _ (by omega))
theorem word_has (x r : Nat) (hx : x < 2 ^ 64) (hr : r < 64) : Go.bits .and .u64 ((x / 2 ^ r : Nat) : Int) 1 = if x.testBit r then 1 else 0 := by
  have h := Go.bits_and_u64_nat (x / 2 ^ r) 1 (Nat.lt_of_le_of_lt (Nat.div_le_self _ _) hx) (by omega)
  rw [show ((1 : Nat) : Int) = 1 from rfl] at h
  rw [h, Nat.and_one_is_mod, Nat.testBit_eq_decide_div_mod_eq]
  by_cases h1 : x / 2 ^ r % 2 = 1
  · simp [h1]
  · have : x / 2 ^ r % 2 = 0 := by omega
    simp [this]
theorem word_turn (x r : Nat) (hx : x < 2 ^ 64) (hr : r < 64) : Go.bits .xor .u64 (x : Int) ((2 ^ r : Nat) : Int) = ((x ^^^ 2 ^ r : Nat) : Int) ∧ x ^^^ 2 ^ r < 2 ^ 64 ∧ ∀ j, (x ^^^ 2 ^ r).testBit j = (x.testBit j != decide (r = j)) := by
  have h2 : 2 ^ r < 2 ^ 64 := Nat.pow_lt_pow_right (by omega) hr
  refine ⟨Go.bits_xor_u64_nat x _ hx h2, Nat.xor_lt_two_pow hx h2, fun j => ?_⟩
  rw [Nat.testBit_xor, Nat.testBit_two_pow]
theorem word_not (x : Nat) (hx : x < 2 ^ 64) : Go.bits .xor .u64 Go.IntKind.u64.max (x : Int) = ((2 ^ 64 - 1 - x : Nat) : Int) := by
  have h := Go.bits_xor_u64_nat (2 ^ 64 - 1) x (by omega) hx
  have e : (2 ^ 64 - 1) ^^^ x = 2 ^ 64 - 1 - x := by
    apply Nat.eq_of_testBit_eq
    intro j
    rw [Nat.testBit_xor, Nat.testBit_two_pow_sub_one, show 2 ^ 64 - 1 - x = 2 ^ 64 - (x + 1) by omega, Nat.testBit_two_pow_sub_succ hx]
    by_cases hj : j < 64
    · cases x.testBit j <;> simp [hj]
    · have : x.testBit j = false := Nat.testBit_lt_two_pow (Nat.lt_of_lt_of_le hx (Nat.pow_le_pow_right (by omega) (by omega)))
      simp [hj, this]
  rw [e] at h
  exact h
end Go.Proofs.YtheniiinioggiaaDoor
