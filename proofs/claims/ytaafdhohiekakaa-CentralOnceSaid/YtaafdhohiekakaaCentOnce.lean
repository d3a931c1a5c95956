/-
  Ids that stand in one place at most, in the rows of a central, beside a list of who is in. Conditions: none beyond what each theorem names.
-/
import Derived.Test.YtaafdhohiekakaaCentMath
import Derived.Laws.MakeOwn
namespace Go.Proofs.Ytaafdhohiekakaa
open Go.RowKit
def upb (I : Nat → Bool) (i : Nat) (b : Bool) : Nat → Bool := fun k => if k = i then b else I k
def one (b : Bool) : Nat := if b then 1 else 0
def popTo (I : Nat → Bool) (n : Nat) : Nat := sumN (fun i => one (I i)) n
def pop (I : Nat → Bool) : Nat := popTo I 10
theorem pop_upd (I : Nat → Bool) (i : Nat) (b : Bool) (hi : i < 10) : pop (upb I i b) + one (I i) = pop I + one b := by
  have h := sumN_upd (f := fun j => one (I j)) (g := fun j => one (upb I i b j)) (n := 10) (i := i) hi (fun j _ hj => by show _ = _; unfold upb; rw [if_neg hj])
  rw [show one (upb I i b i) = one b by unfold upb; rw [if_pos rfl]] at h
  exact h
theorem pop_le (I : Nat → Bool) : ∀ n, popTo I n ≤ n := by
  intro n
  induction n with
  | zero => exact Nat.le_refl _
  | succ n ih =>
    have : popTo I (n + 1) = popTo I n + one (I n) := rfl
    have : one (I n) ≤ 1 := by unfold one; split <;> omega
    omega
theorem pop_zero {I : Nat → Bool} (h : pop I = 0) (i : Nat) (hi : i < 10) : I i = false := by
  have := sumN_zero h i hi
  cases hI : I i with
  | false => rfl
  | true => simp [hI, one] at this
/-- Each id below 10 stands in the rows once where I has it; nobody else. -/
structure OS (Ls : List (List Int)) (I : Nat → Bool) : Prop where
  len : Ls.length = 64
  cnt : ∀ y : Int, cntC Ls y = if 0 ≤ y ∧ y < 10 then one (I y.toNat) else 0
  tot : tot Ls = pop I
section
variable {Ls : List (List Int)} {I : Nat → Bool}
theorem OS.small (h : OS Ls I) {M : Nat} (hM : 10 ≤ M) : ∀ i, (gL Ls i).length ≤ M := le_tot h.len (by have := pop_le I 10; have h2 := h.tot; unfold pop at h2; omega)
theorem os_L0 : OS L0 (fun _ => false) := ⟨len_L0, fun y => by rw [cntC_L0]; split <;> rfl, by rw [tot_L0]; rfl⟩
theorem OS.nat (h : OS Ls I) {x : Nat} (hx : x < 10) : cntC Ls (x : Int) = one (I x) := by rw [h.cnt, if_pos (by omega), Int.toNat_natCast]
theorem OS.hit (h : OS Ls I) {x : Nat} (hx : x < 10) : hitC Ls (x : Int) = I x := by
  rw [cntC_hit, h.nat hx]
  cases I x <;> rfl
theorem upb_cnt (I : Nat → Bool) (x : Nat) (b : Bool) (y : Int) (hy : 0 ≤ y ∧ y < 10) : one (upb I x b y.toNat) = if y = (x : Int) then one b else one (I y.toNat) := by
  unfold upb
  by_cases h : y = x
  · rw [if_pos (by omega), if_pos h]
  · rw [if_neg (by omega), if_neg h]
theorem OS.put (h : OS Ls I) {k : Int} (hk : okC k = true) {x : Nat} (hx : x < 10) (full : Bool) : OS (putC Ls k x full) (upb I x true) := by
  refine ⟨putC_len h.len _ _ _, fun y => ?_, ?_⟩
  · rw [cntC_put h.len hk, h.nat hx, h.cnt]
    by_cases hy : 0 ≤ y ∧ y < 10
    · rw [if_pos hy, if_pos hy, upb_cnt _ _ _ _ hy]
      by_cases hyx : y = x
      · rw [if_pos hyx, if_pos hyx]; cases I x <;> rfl
      · rw [if_neg hyx, if_neg hyx]
    · rw [if_neg hy, if_neg hy, if_neg (by omega)]
  · have h1 := tot_put h.len hk (x : Int) full
    have h2 := pop_upd I x true hx
    rw [h.hit hx, h.tot] at h1
    have h3 : (if I x = true then 1 else 0) = one (I x) := rfl
    rw [h3] at h1
    have h4 : one true = 1 := rfl
    omega
theorem OS.del (h : OS Ls I) {x : Nat} (hx : x < 10) : OS (delC Ls x) (upb I x false) := by
  refine ⟨delC_len h.len _, fun y => ?_, ?_⟩
  · rw [cntC_del h.len, h.nat hx, h.cnt]
    by_cases hy : 0 ≤ y ∧ y < 10
    · rw [if_pos hy, if_pos hy, upb_cnt _ _ _ _ hy]
      by_cases hyx : y = x
      · rw [if_pos hyx, if_pos hyx]; cases I x <;> rfl
      · rw [if_neg hyx, if_neg hyx]
    · rw [if_neg hy, if_neg hy, if_neg (by omega)]
  · have h1 := tot_del h.len (x : Int)
    have h2 := pop_upd I x false hx
    rw [h.hit hx, h.tot] at h1
    have h3 : (if I x = true then 1 else 0) = one (I x) := rfl
    rw [h3] at h1
    have h4 : one false = 0 := rfl
    omega
theorem OS.beg (h : OS Ls I) : OS (begTo Ls 32) I :=
  ⟨begTo_len _ _, fun y => by rw [(beg_sums h.len y 32 (by omega)).1]; exact h.cnt y, by rw [(beg_sums h.len 0 32 (by omega)).2]; exact h.tot⟩
/-- One is taken out of row r. -/
theorem OS.out (h : OS Ls I) {r : Nat} (hr : r < 64) {x : Int} {L : List Int} (hc : ∀ y, (gL Ls r).count y = L.count y + if y = x then 1 else 0) (hl : (gL Ls r).length = L.length + 1) : ∃ n : Nat, x = n ∧ n < 10 ∧ I n = true ∧ OS (Ls.set r L) (upb I n false) := by
  have h1 := hc x
  rw [if_pos rfl] at h1
  have h2 := sumN_ge (f := fun r => (gL Ls r).count x) hr
  have h3 : 1 ≤ cntC Ls x := by
    show 1 ≤ sumN (fun r => (gL Ls r).count x) 64
    have h2' : (gL Ls r).count x ≤ sumN (fun r => (gL Ls r).count x) 64 := h2
    omega
  rw [h.cnt] at h3
  by_cases hx : 0 ≤ x ∧ x < 10
  · rw [if_pos hx] at h3
    obtain ⟨n, rfl⟩ : ∃ n : Nat, x = n := ⟨x.toNat, by omega⟩
    rw [Int.toNat_natCast] at h3
    have hn : n < 10 := by omega
    have hI : I n = true := by
      cases hI : I n with
      | true => rfl
      | false => simp [hI, one] at h3
    refine ⟨n, rfl, hn, hI, by rw [List.length_set]; exact h.len, fun y => ?_, ?_⟩
    · have a := cntC_set h.len hr L y
      have b := hc y
      have c := h.cnt y
      by_cases hy : 0 ≤ y ∧ y < 10
      · rw [if_pos hy, upb_cnt _ _ _ _ hy]
        rw [if_pos hy] at c
        by_cases hyn : y = n
        · rw [if_pos hyn]
          rw [if_pos hyn] at b
          subst hyn
          rw [Int.toNat_natCast, hI] at c
          have c' : one true = 1 := rfl
          have c'' : one false = 0 := rfl
          omega
        · rw [if_neg hyn]
          rw [if_neg hyn] at b
          omega
      · rw [if_neg hy]
        rw [if_neg hy] at c
        rw [if_neg (by omega)] at b
        omega
    · have a := tot_set h.len hr L
      have b := pop_upd I n false hn
      rw [hI, h.tot.symm] at b
      have c' : one true = 1 := rfl
      have c'' : one false = 0 := rfl
      omega
  · rw [if_neg hx] at h3
    omega
theorem cnt_last {p : List Int} {x : Int} (y : Int) : (p ++ [x]).count y = p.count y + if y = x then 1 else 0 := by
  rw [List.count_append, List.count_singleton]
  by_cases h : y = x
  · subst h; simp
  · rw [if_neg h, if_neg (by simpa using fun e : x = y => h e.symm)]
theorem OS.take (h : OS Ls I) {k : Nat} (hk : k < 16) : (takeB Ls k = false ∧ takeX Ls k = 0 ∧ takeL Ls k = Ls ∧ gL Ls (k * 4) = [] ∧ gL Ls (k * 4 + 2) = []) ∨
    (takeB Ls k = true ∧ ∃ n : Nat, takeX Ls k = n ∧ n < 10 ∧ I n = true ∧ OS (takeL Ls k) (upb I n false)) := by
  unfold takeB takeX takeL
  simp only [okC_nat hk, if_true, Int.toNat_natCast, Bool.true_and]
  rcases List.eq_nil_or_concat (gL Ls (k * 4)) with h0 | ⟨p, x, h0⟩
  · rcases List.eq_nil_or_concat (gL Ls (k * 4 + 2)) with h1 | ⟨p, x, h1⟩
    · left
      rw [h0, h1]
      refine ⟨rfl, by simp, ?_, rfl, rfl⟩
      rw [if_neg (by simp), List.dropLast_nil, self_set Ls _ h1]
    · right
      rw [List.concat_eq_append] at h1
      obtain ⟨n, hx, hn, hI, ho⟩ := h.out (r := k * 4 + 2) (by omega) (x := x) (L := p) (fun y => by rw [h1]; exact cnt_last y) (by rw [h1]; simp)
      rw [h0, h1]
      refine ⟨by simp, n, by simp [hx], hn, hI, ?_⟩
      rw [if_neg (by simp), List.dropLast_concat]
      exact ho
  · right
    rw [List.concat_eq_append] at h0
    obtain ⟨n, hx, hn, hI, ho⟩ := h.out (r := k * 4) (by omega) (x := x) (L := p) (fun y => by rw [h0]; exact cnt_last y) (by rw [h0]; simp)
    rw [h0]
    refine ⟨by simp, n, by simp [hx], hn, hI, ?_⟩
    rw [if_pos (by simp), List.dropLast_concat]
    exact ho
theorem Fresh.take (h : Fresh Ls) (hlen : Ls.length = 64) {k : Nat} (hk : k < 16) : Fresh (takeL Ls k) := by
  unfold takeL
  simp only [okC_nat hk, if_true, Int.toNat_natCast]
  intro i hi h4
  split
  · rw [gL_set _ _ _ _ (by omega), if_neg (by omega)]; exact h i hi h4
  · rw [gL_set _ _ _ _ (by omega)]
    split
    · rw [h (k * 4 + 2) (by omega) (by omega)]; rfl
    · exact h i hi h4
theorem ur_lt {m : Nat} (h : m < 32) : ur m < 64 ∧ 2 ≤ ur m % 4 := by unfold ur; omega
theorem OS.any (h : OS Ls I) : (anyB Ls = false ∧ anyX Ls = 0 ∧ anyL Ls = Ls ∧ ∀ m, m < 32 → gL Ls (ur m) = []) ∨
    (anyB Ls = true ∧ ∃ n : Nat, anyX Ls = n ∧ n < 10 ∧ I n = true ∧ OS (anyL Ls) (upb I n false)) := by
  unfold anyB anyX anyL
  rcases anyM_cases Ls with ⟨h1, h2⟩ | ⟨m, x, t, h1, h2, h3, h4⟩
  · left
    rw [h1]
    exact ⟨rfl, rfl, rfl, h2⟩
  · right
    obtain ⟨n, hx, hn, hI, ho⟩ := h.out (ur_lt h2).1 (x := x) (L := t) (fun y => by
      rw [h3, List.count_cons]
      by_cases e : y = x
      · subst e; simp
      · rw [if_neg e, if_neg (by simpa using fun e' : x = y => e e'.symm)]) (by rw [h3]; simp)
    simp only [h1, h3]
    exact ⟨rfl, n, by simp [hx], hn, hI, by simpa using ho⟩
theorem Beg.any (h : Beg Ls) (hlen : Ls.length = 64) : Beg (anyL Ls) := by
  unfold anyL
  rcases anyM_cases Ls with ⟨h1, h2⟩ | ⟨m, x, t, h1, h2, h3, h4⟩
  · rw [h1]; exact h
  · rw [h1]
    intro i hi h4'
    have := ur_lt h2
    simp only
    rw [gL_set _ _ _ _ (by omega), if_neg (by omega)]
    exact h i hi h4'
theorem Beg.none (h : Beg Ls) (h2 : ∀ m, m < 32 → gL Ls (ur m) = []) : tot Ls = 0 := by
  unfold tot
  rw [sumN_congr (g := fun _ => 0) 64 (fun i hi => by
    show (gL Ls i).length = 0
    by_cases h4 : i % 4 < 2
    · rw [h i hi h4]; rfl
    · have := h2 (i / 4 * 2 + (i % 4 - 2)) (by omega)
      rw [show ur (i / 4 * 2 + (i % 4 - 2)) = i by unfold ur; omega] at this
      rw [this]; rfl)]
  decide
end
end Go.Proofs.Ytaafdhohiekakaa
