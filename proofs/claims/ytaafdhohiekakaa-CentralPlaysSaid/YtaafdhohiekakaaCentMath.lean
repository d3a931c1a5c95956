/-
  The rows of a central, counted: how often an id stands in them, how many ids there are, how many are unswept. Conditions: none beyond what each theorem names.
-/
import Derived.Test.YtaafdhohiekakaaCentSt
namespace Go.Proofs.Ytaafdhohiekakaa
open Go.RowKit
def sumN (f : Nat → Nat) : Nat → Nat
  | 0 => 0
  | n + 1 => sumN f n + f n
theorem sumN_congr {f g : Nat → Nat} (n : Nat) (h : ∀ i, i < n → f i = g i) : sumN f n = sumN g n := by
  induction n with
  | zero => rfl
  | succ n ih => simp only [sumN]; rw [ih (fun i hi => h i (by omega)), h n (by omega)]
theorem sumN_upd {f g : Nat → Nat} {n i : Nat} (hi : i < n) (h : ∀ j, j < n → j ≠ i → g j = f j) : sumN g n + f i = sumN f n + g i := by
  induction n with
  | zero => omega
  | succ n ih =>
    simp only [sumN]
    by_cases hin : i = n
    · subst hin
      rw [sumN_congr i (fun j hj => h j (by omega) (by omega))]
      omega
    · have := ih (by omega) (fun j hj => h j (by omega))
      rw [h n (by omega) (fun e => hin e.symm)]
      omega
theorem sumN_zero {f : Nat → Nat} {n : Nat} (h : sumN f n = 0) : ∀ i, i < n → f i = 0 := by
  induction n with
  | zero => intro i hi; omega
  | succ n ih =>
    simp only [sumN] at h
    intro i hi
    by_cases hin : i = n
    · subst hin; omega
    · exact ih (by omega) i (by omega)
theorem sumN_ge {f : Nat → Nat} {n i : Nat} (hi : i < n) : f i ≤ sumN f n := by
  induction n with
  | zero => omega
  | succ n ih =>
    simp only [sumN]
    by_cases hin : i = n
    · subst hin; omega
    · have := ih (by omega); omega
/-- How often an id stands in the rows; how many ids there are. -/
def cntC (Ls : List (List Int)) (x : Int) : Nat := sumN (fun r => (gL Ls r).count x) 64
def tot (Ls : List (List Int)) : Nat := sumN (fun r => (gL Ls r).length) 64
section
variable {Ls : List (List Int)}
theorem cntC_set (hlen : Ls.length = 64) {i : Nat} (hi : i < 64) (L : List Int) (x : Int) : cntC (Ls.set i L) x + (gL Ls i).count x = cntC Ls x + L.count x := by
  have h := sumN_upd (f := fun r => (gL Ls r).count x) (g := fun r => (gL (Ls.set i L) r).count x) (n := 64) (i := i) hi (fun j _ hj => by show _ = _; rw [gL_set _ _ _ _ (by omega), if_neg hj])
  try simp only at h
  rw [show gL (Ls.set i L) i = L by rw [gL_set _ _ _ _ (by omega), if_pos rfl]] at h
  exact h
theorem tot_set (hlen : Ls.length = 64) {i : Nat} (hi : i < 64) (L : List Int) : tot (Ls.set i L) + (gL Ls i).length = tot Ls + L.length := by
  have h := sumN_upd (f := fun r => (gL Ls r).length) (g := fun r => (gL (Ls.set i L) r).length) (n := 64) (i := i) hi (fun j _ hj => by show _ = _; rw [gL_set _ _ _ _ (by omega), if_neg hj])
  try simp only at h
  rw [show gL (Ls.set i L) i = L by rw [gL_set _ _ _ _ (by omega), if_pos rfl]] at h
  exact h
theorem cntC_hit (x : Int) : hitC Ls x = decide (0 < cntC Ls x) := by
  rcases delC_cases Ls x with ⟨h1, _, h3⟩ | ⟨i, p, q, hi, h1, _, _, h4, _⟩
  · rw [h1]
    have : cntC Ls x = 0 := by
      unfold cntC
      rw [sumN_congr (g := fun _ => 0) 64 (fun i hi => List.count_eq_zero.2 (h3 i hi))]
      decide
    rw [this]
    rfl
  · rw [h4]
    have h := sumN_ge (f := fun r => (gL Ls r).count x) (n := 64) hi
    simp only [h1, List.count_append, List.count_cons_self] at h
    rw [decide_eq_true]
    unfold cntC
    omega
theorem delC_len (hlen : Ls.length = 64) (x : Int) : (delC Ls x).length = 64 := by
  rcases delC_cases Ls x with ⟨_, h2, _⟩ | ⟨i, p, q, hi, h1, _, _, _, h2⟩
  · rw [h2]; exact hlen
  · rw [h2, List.length_set]; exact hlen
theorem cntC_del (hlen : Ls.length = 64) (x y : Int) : cntC (delC Ls x) y = if y = x then cntC Ls x - 1 else cntC Ls y := by
  rcases delC_cases Ls x with ⟨h1, h2, h3⟩ | ⟨i, p, q, hi, h1, _, _, h4, h2⟩
  · rw [h2]
    rw [cntC_hit] at h1
    simp at h1
    split
    · rename_i e; subst e; omega
    · rfl
  · rw [h2]
    have h := cntC_set hlen hi (p ++ q) y
    rw [h1] at h
    simp only [List.count_append, List.count_cons] at h
    split
    · rename_i e; subst e; simp at h; omega
    · rename_i e
      rw [if_neg (by simpa using fun e' : x = y => e e'.symm)] at h
      omega
theorem tot_del (hlen : Ls.length = 64) (x : Int) : tot (delC Ls x) + (if hitC Ls x then 1 else 0) = tot Ls := by
  rcases delC_cases Ls x with ⟨h1, h2, h3⟩ | ⟨i, p, q, hi, h1, _, _, h4, h2⟩
  · rw [h2, h1]; rfl
  · rw [h2, h4]
    have h := tot_set hlen hi (p ++ q)
    rw [h1] at h
    simp only [List.length_append, List.length_cons] at h
    simp
    omega
theorem putC_len (hlen : Ls.length = 64) (k x : Int) (full : Bool) : (putC Ls k x full).length = 64 := by
  unfold putC
  split
  · rw [List.length_set, delC_len hlen]
  · exact hlen
theorem okC_lt {k : Int} (h : okC k = true) : 0 ≤ k ∧ k < 16 := by simpa [okC] using h
theorem sd_lt (b : Bool) : sd b < 2 := by unfold sd; split <;> omega
theorem cntC_put (hlen : Ls.length = 64) {k : Int} (hk : okC k = true) (x y : Int) (full : Bool) : cntC (putC Ls k x full) y = if y = x then cntC Ls x - 1 + 1 else cntC Ls y := by
  have h0 := okC_lt hk
  have h1 := sd_lt full
  unfold putC
  rw [if_pos hk]
  have h := cntC_set (delC_len hlen x) (i := k.toNat * 4 + sd full) (by omega) (gL (delC Ls x) (k.toNat * 4 + sd full) ++ [x]) y
  rw [List.count_append, List.count_singleton, cntC_del hlen] at h
  split
  · rename_i e; subst e; simp at h; omega
  · rename_i e
    rw [if_neg e, if_neg (by simpa using fun e' : x = y => e e'.symm)] at h
    omega
theorem tot_put (hlen : Ls.length = 64) {k : Int} (hk : okC k = true) (x : Int) (full : Bool) : tot (putC Ls k x full) + (if hitC Ls x then 1 else 0) = tot Ls + 1 := by
  have h0 := okC_lt hk
  have h1 := sd_lt full
  unfold putC
  rw [if_pos hk]
  have h := tot_set (delC_len hlen x) (i := k.toNat * 4 + sd full) (by omega) (gL (delC Ls x) (k.toNat * 4 + sd full) ++ [x])
  rw [List.length_append] at h
  have h2 := tot_del hlen x
  simp at h
  omega
theorem beg_sums (hlen : Ls.length = 64) (x : Int) (m : Nat) (hm : m ≤ 32) : cntC (begTo Ls m) x = cntC Ls x ∧ tot (begTo Ls m) = tot Ls := by
  induction m with
  | zero => rw [begTo_zero Ls hlen]; exact ⟨rfl, rfl⟩
  | succ m ih =>
    obtain ⟨h1, h2⟩ := ih (by omega)
    have hs := begTo_step Ls (m / 2) (m % 2) (by omega) (by omega)
    rw [show m / 2 * 2 + m % 2 = m by omega] at hs
    obtain ⟨D, hD⟩ : ∃ D, begTo Ls m = D := ⟨_, rfl⟩
    have hDl : D.length = 64 := by rw [← hD]; exact begTo_len _ _
    rw [hD] at h1 h2 hs
    rw [← hs]
    have hil : m / 2 * 4 + 2 + m % 2 < 64 := by omega
    have hjl : m / 2 * 4 + m % 2 < 64 := by omega
    have hij : m / 2 * 4 + m % 2 ≠ m / 2 * 4 + 2 + m % 2 := by omega
    have a1 := cntC_set hDl hil (gL D (m / 2 * 4 + 2 + m % 2) ++ gL D (m / 2 * 4 + m % 2)) x
    have b1 := tot_set hDl hil (gL D (m / 2 * 4 + 2 + m % 2) ++ gL D (m / 2 * 4 + m % 2))
    have hl2 : (D.set (m / 2 * 4 + 2 + m % 2) (gL D (m / 2 * 4 + 2 + m % 2) ++ gL D (m / 2 * 4 + m % 2))).length = 64 := by rw [List.length_set]; exact hDl
    have a2 := cntC_set hl2 hjl [] x
    have b2 := tot_set hl2 hjl []
    rw [gL_set _ _ _ _ (by omega), if_neg hij] at a2 b2
    rw [List.count_append] at a1
    rw [List.length_append] at b1
    simp only [List.count_nil, List.length_nil] at a2 b2
    exact ⟨by omega, by omega⟩
/-- Nobody is swept; nobody is unswept. -/
def Beg (Ls : List (List Int)) : Prop := ∀ i, i < 64 → i % 4 < 2 → gL Ls i = []
def Fresh (Ls : List (List Int)) : Prop := ∀ i, i < 64 → 2 ≤ i % 4 → gL Ls i = []
theorem beg_begTo : Beg (begTo Ls 32) := fun i hi h => by rw [gL_begTo _ _ _ hi, if_pos (by omega), if_pos h]
theorem Beg.del (h : Beg Ls) (hlen : Ls.length = 64) (x : Int) : Beg (delC Ls x) := by
  rcases delC_cases Ls x with ⟨_, h2, _⟩ | ⟨i, p, q, hi, h1, _, _, _, h2⟩
  · rw [h2]; exact h
  · rw [h2]
    intro j hj h4
    rw [gL_set _ _ _ _ (by omega)]
    split
    · rename_i e; subst e; have := h j hj h4; rw [h1] at this; simp at this
    · exact h j hj h4
theorem Fresh.del (h : Fresh Ls) (hlen : Ls.length = 64) (x : Int) : Fresh (delC Ls x) := by
  rcases delC_cases Ls x with ⟨_, h2, _⟩ | ⟨i, p, q, hi, h1, _, _, _, h2⟩
  · rw [h2]; exact h
  · rw [h2]
    intro j hj h4
    rw [gL_set _ _ _ _ (by omega)]
    split
    · rename_i e; subst e; have := h j hj h4; rw [h1] at this; simp at this
    · exact h j hj h4
theorem Fresh.put (h : Fresh Ls) (hlen : Ls.length = 64) (k x : Int) (full : Bool) : Fresh (putC Ls k x full) := by
  unfold putC
  split
  · rename_i hk
    have h0 := okC_lt hk
    have h1 := sd_lt full
    intro j hj h4
    rw [gL_set _ _ _ _ (by rw [delC_len hlen]; omega), if_neg (by omega)]
    exact h.del hlen x j hj h4
  · exact h
theorem unsw_fresh (h : Fresh Ls) (k : Nat) (hk : k ≤ 16) : unsw Ls k = 0 := by
  induction k with
  | zero => rfl
  | succ k ih =>
    have e : unsw Ls (k + 1) = unsw Ls k + ((gL Ls (k * 4 + 2)).length + (gL Ls (k * 4 + 3)).length) := rfl
    rw [e, ih (by omega), h (k * 4 + 2) (by omega) (by omega), h (k * 4 + 3) (by omega) (by omega)]
    rfl
theorem sum4 (f : Nat → Nat) (k : Nat) : sumN f (k * 4 + 4) = sumN f (k * 4) + f (k * 4) + f (k * 4 + 1) + f (k * 4 + 2) + f (k * 4 + 3) := rfl
theorem unsw_beg (h : Beg Ls) : unsw Ls 16 = tot Ls := by
  have key : ∀ k, k ≤ 16 → unsw Ls k = sumN (fun r => (gL Ls r).length) (k * 4) := by
    intro k
    induction k with
    | zero => intro _; rfl
    | succ k ih =>
      intro hk
      have e : unsw Ls (k + 1) = unsw Ls k + ((gL Ls (k * 4 + 2)).length + (gL Ls (k * 4 + 3)).length) := rfl
      rw [e, ih (by omega), show (k + 1) * 4 = k * 4 + 4 by omega, sum4]
      rw [h (k * 4) (by omega) (by omega), h (k * 4 + 1) (by omega) (by omega)]
      simp
      omega
  exact key 16 (by omega)
theorem cntC_L0 (x : Int) : cntC L0 x = 0 := by
  unfold cntC
  rw [sumN_congr (g := fun _ => 0) 64 (fun i hi => by simp only [L0]; rw [gL_rep]; rfl)]
  decide
theorem tot_L0 : tot L0 = 0 := by
  unfold tot
  rw [sumN_congr (g := fun _ => 0) 64 (fun i hi => by simp only [L0]; rw [gL_rep]; rfl)]
  decide
theorem fresh_L0 : Fresh L0 := fun i _ _ => by unfold L0; rw [gL_rep]
theorem len_L0 : L0.length = 64 := by decide
theorem gL_tot (i : Nat) (hi : i < 64) : (gL Ls i).length ≤ tot Ls := sumN_ge (f := fun r => (gL Ls r).length) hi
theorem le_tot (hlen : Ls.length = 64) {M : Nat} (h : tot Ls ≤ M) : ∀ i, (gL Ls i).length ≤ M := by
  intro i
  by_cases hi : i < 64
  · have := gL_tot (Ls := Ls) i hi; omega
  · rw [gL_out _ _ (by omega)]; simp
end
end Go.Proofs.Ytaafdhohiekakaa
