/-
  Places that stay through a sweep, and those that come back: plain laws on sets. No program in sight. Conditions: none beyond what each theorem names.
-/
import Derived.Test.YtheniiinioggiaaDoorSpanSt
namespace Go.Proofs.YtheniiinioggiaaDoor
open Go.RowKit
theorem sz_pos {k : Int} (h : 0 ≤ k) (h' : k < 16) : 0 < sz k := by
  have : k = 0 ∨ k = 1 ∨ k = 2 ∨ k = 3 ∨ k = 4 ∨ k = 5 ∨ k = 6 ∨ k = 7 ∨ k = 8 ∨ k = 9 ∨ k = 10 ∨ k = 11 ∨ k = 12 ∨ k = 13 ∨ k = 14 ∨ k = 15 := by omega
  rcases this with rfl | rfl | rfl | rfl | rfl | rfl | rfl | rfl | rfl | rfl | rfl | rfl | rfl | rfl | rfl | rfl <;> decide
theorem hasI_none (n : Nat) (i : Int) : hasI none_ n i = false := by simp [hasI, none_]
theorem mark_none (M : Nat → Bool) (n : Nat) (i : Int) : markB none_ M n i = false ∧ markM none_ M n i = M := by
  unfold markB markM
  rw [hasI_none]
  exact ⟨rfl, rfl⟩
theorem els_none (n : Nat) : els none_ n = [] := by simp [els, mem, none_]
theorem cnt_none_ (n : Nat) : cnt none_ n = 0 := by simp [cnt, mem, none_]
def under (i : Nat) : Nat → Bool := fun j => decide (j < i)
def stayS (P : Nat → Bool) (i : Nat) : Nat → Bool := fun j => decide (j < i) && P j
def backS (P : Nat → Bool) (k i : Nat) : Nat → Bool := fun j => decide (j < k) && (P j || decide (cnt (notS P) j < i))
theorem nxt_under {n i fr : Nat} (h : i < n) (hf : fr ≤ i) : nxt (under i) n fr false = (i : Int) := nxt_at h hf (by simp [under]) (fun j _ h2 => by simp [under, h2])
theorem full_under (n fr : Nat) : full (under n) n fr = true := by
  unfold full
  rw [nxt_none (fun j _ h2 => by simp [under, h2])]
  rfl
theorem put_under (n i : Nat) (h : i < n) (j : Nat) : putS (under i) n i true j = under (i + 1) j := by
  rw [putS_nat' _ _ _ _ h]
  unfold upd under
  by_cases h : j = i
  · subst h; simp
  · rw [if_neg h]
    by_cases h1 : j < i
    · rw [decide_eq_true h1, decide_eq_true (by omega)]
    · rw [decide_eq_false h1, decide_eq_false (by omega)]
theorem stay_step (P : Nat → Bool) (i : Nat) (j : Nat) : (if P i then upd (stayS P i) i true else stayS P i) j = stayS P (i + 1) j := by
  by_cases h : j = i
  · subst h
    cases hP : P j <;> simp [stayS, upd, hP]
  · have e : decide (j < i) = decide (j < i + 1) := by
      by_cases h1 : j < i
      · rw [decide_eq_true h1, decide_eq_true (by omega)]
      · rw [decide_eq_false h1, decide_eq_false (by omega)]
    cases hP : P i <;> simp [stayS, upd, h, e]
theorem stay_self (P : Nat → Bool) (i : Nat) : stayS P i i = false := by simp [stayS]
theorem els_succ (S : Nat → Bool) (i : Nat) : els S (i + 1) = els S i ++ if S i then [(i : Int)] else [] := by
  unfold els
  rw [mem_succ, List.map_append]
  cases S i <;> simp
theorem gone_stay (P : Nat → Bool) (n k : Nat) (h : k ≤ n) : gone (under k) (stayS P k) n = els (notS P) k := by
  refine eq_of_SS _ _ ?_ (SS_els _ _) (fun x => ?_)
  · exact (SS_els _ _).filter _
  · unfold gone
    rw [List.mem_filter, mem_els, mem_els]
    by_cases hx : 0 ≤ x ∧ x < (k : Int)
    · obtain ⟨y, rfl⟩ : ∃ y : Nat, x = y := ⟨x.toNat, by omega⟩
      rw [hasI_in (by omega), hasI_in (by omega), hasI_in (by omega)]
      simp [under, stayS, notS, show y < k by omega]
    · rw [hasI_out (show x < 0 ∨ (k : Int) ≤ x by omega)]
      constructor
      · rintro ⟨h1, _⟩
        simp only [hasI, Bool.and_eq_true, decide_eq_true_eq, under] at h1
        omega
      · intro h1; cases h1
theorem cnt_stay (P : Nat → Bool) (n k : Nat) (h : k ≤ n) : cnt (stayS P k) n = cnt P k := by
  rw [cnt_skip (S := stayS P k) (p := k) (fun j h1 _ => by simp [stayS]; omega) h]
  exact cnt_congr k (fun j hj => by simp [stayS, hj])
theorem cnt_under (n : Nat) : cnt (under n) n = n := by
  have h := cnt_not (under n) n
  rw [cnt_congr n (T := none_) (fun j hj => show notS (under n) j = none_ j by simp [notS, under, none_, hj]), cnt_none_] at h
  omega
theorem back_zero (P : Nat → Bool) (k j : Nat) : stayS P k j = backS P k 0 j := by simp [stayS, backS]
theorem back_nxt {P : Nat → Bool} {n k i fr q : Nat} (hk : k ≤ n) (hq : q < k) (hP : notS P q = true) (hc : cnt (notS P) q = i) (hf : cnt (notS P) fr ≤ i) : nxt (backS P k i) n fr false = (q : Int) ∧ cnt (notS P) q ≤ i + 1 := by
  have hP' : P q = false := by simpa [notS] using hP
  have hfq : fr ≤ q := by
    by_cases h : fr ≤ q
    · exact h
    · have h1 := cnt_mono (notS P) (q + 1) fr (by omega)
      rw [cnt_succ, hP] at h1
      simp at h1
      omega
  refine ⟨nxt_at (by omega) hfq ?_ ?_, by omega⟩
  · simp [backS, hP', hc]
  · intro j h1 h2
    unfold backS
    rw [decide_eq_true (show j < k by omega)]
    cases hj : P j with
    | true => simp
    | false =>
      have h3 := cnt_mono (notS P) (j + 1) q (by omega)
      rw [cnt_succ, show notS P j = true by simp [notS, hj]] at h3
      simp at h3
      rw [decide_eq_true (show cnt (notS P) j < i by omega)]
      simp
theorem back_step {P : Nat → Bool} {n k i q : Nat} (hk : k ≤ n) (hq : q < k) (hP : notS P q = true) (hc : cnt (notS P) q = i) (j : Nat) : putS (backS P k i) n q true j = backS P k (i + 1) j := by
  rw [putS_nat' _ _ _ _ (by omega)]
  unfold upd
  by_cases h : j = q
  · subst h
    rw [if_pos rfl]
    simp [backS, hq, hc]
  · rw [if_neg h]
    unfold backS
    cases hj : P j with
    | true => simp
    | false =>
      have hn : notS P j = true := by simp [notS, hj]
      congr 2
      by_cases h1 : j < q
      · have h3 := cnt_mono (notS P) (j + 1) q (by omega)
        rw [cnt_succ, hn] at h3
        simp at h3
        rw [decide_eq_true (by omega), decide_eq_true (by omega)]
      · have h3 := cnt_mono (notS P) (q + 1) j (by omega)
        rw [cnt_succ, hP] at h3
        simp at h3
        rw [decide_eq_false (by omega), decide_eq_false (by omega)]
theorem back_all (P : Nat → Bool) (k j : Nat) : backS P k (cnt (notS P) k) j = under k j := by
  unfold backS under
  by_cases h : j < k
  · rw [decide_eq_true h]
    cases hj : P j with
    | true => rfl
    | false =>
      have h3 := cnt_mono (notS P) (j + 1) k (by omega)
      rw [cnt_succ, show notS P j = true by simp [notS, hj]] at h3
      simp at h3
      rw [decide_eq_true (by omega)]
      rfl
  · rw [decide_eq_false h]; rfl
/-- A list of one's own from block B on, beside the blocks S. -/
def OwD (w : World) (B : Nat) (S : List Nat) (v : Value) (xs : List Int) : Prop := OwI w B v xs ∧ ∀ k, v.ownBlock = some k → k ∉ S
section
variable {w w' w0 w2 : World} {S T : List Nat} {v v' : Value} {xs ys : List Int} {B C : Nat}
theorem OwD.nil (w : World) (B : Nat) (S : List Nat) : OwD w B S (.slice none 0 0) [] := ⟨OwI.nil _ _, by simp [Value.ownBlock]⟩
theorem OwD.step (h : OwD w B S v xs) (hc : Ch T w w') (hT : ∀ k ∈ T, k ∈ S ∨ w.heap.size ≤ k) : OwD w' B S v xs :=
  ⟨h.1.keep hc (fun k hk he => by
    rcases hT k hk with h1 | h1
    · exact h.2 k he h1
    · have := h.1.lt k he; omega), h.2⟩
theorem OwD.still (h : OwD w B S v xs) (hc : Ch [] w w') : OwD w' B S v xs := h.step hc (by simp)
theorem OwD.new (h : OwI w' B v' ys) (hv : NewAt w v v') (h0 : ∀ k, v.ownBlock = some k → k ∉ S) (hS : ∀ k ∈ S, k < w.heap.size) : OwD w' B S v' ys :=
  ⟨h, fun k hk => by
    rcases hv with h1 | h1
    · exact h0 k (by rw [← h1]; exact hk)
    · intro h2; have := hS k h2; have := h1 k hk; omega⟩
theorem OwI.owD (h : OwI w B v xs) (hC : C ≤ B) (hS : ∀ k ∈ S, k < B) : OwD w C S v xs := ⟨h.mono hC, fun k hk h2 => by have := h.2 k hk; have := hS k h2; omega⟩
theorem OwD.lsF (h : OwD w B S v xs) : ∃ a c, v = .slice a xs.length c ∧ LsF w S a c xs := by
  obtain ⟨a, c, rfl, h1, h2, h3⟩ := h.1.form
  refine ⟨a, c, rfl, h3, h1, h2, ?_⟩
  cases a with
  | none =>
    left
    rcases h3 with h3 | ⟨b, o, he, _⟩
    · exact h3
    · cases he
  | some y => exact .inr ⟨y, rfl, h.1.lt y.block rfl, h.2 y.block rfl⟩
theorem OwD.ls {a : Option Addr} {n c : Nat} (h : OwD w B S (.slice a n c) xs) : LsF w S a c xs := by
  obtain ⟨a', c', e, h'⟩ := h.lsF
  cases e
  exact h'
/-- A span beside what is not its own. -/
theorem SpD.beside {s n fr : Nat} {f k : Int} {U M : Nat → Bool} {D : List Nat} (h : SpD w0 w s f k n D U M fr) (hc : Ch T w w2) (hT : ∀ x ∈ T, x ∉ D ∧ w0.heap.size ≤ x) : SpD w0 w2 s f k n D U M fr := by
  obtain ⟨bu, bm, Gu, Gm, h1, h2, h3, h4⟩ := h
  have hno : ∀ x ∈ T, x ∉ s :: (bu :: Gu ++ (bm :: Gm)) := fun x hx hx2 => (hT x hx).1 (h3 x hx2)
  refine ⟨bu, bm, Gu, Gm, ⟨h1.top.keep hc (fun hx => hno _ hx (by simp)), h1.us.keep hc (fun hx => hno _ hx (by simp)) (fun x hx hx2 => hno _ hx2 (by simp [hx])), h1.ms.keep hc (fun hx => hno _ hx (by simp)) (fun x hx hx2 => hno _ hx2 (by simp [hx])), h1.ne, h1.ap, h1.sl, h1.sz, h1.fb, h1.frn⟩,
    h2.transT hc (fun i hi => .inr (hT i hi).2), h3, fun x hx => ⟨(h4 x hx).1, Nat.lt_of_lt_of_le (h4 x hx).2 hc.size⟩⟩
theorem OwD.turn {s n fr : Nat} {f k : Int} {U M : Nat → Bool} {D : List Nat} (h : SpD w0 w s f k n D U M fr) (ho : OwD w w0.heap.size D v xs) (hc : Ch v.ownBlock.toList w w2) : SpD w0 w2 s f k n D U M fr :=
  h.beside hc (fun x hx => by
    have hx : v.ownBlock = some x := by simpa using hx
    exact ⟨ho.2 x hx, ho.1.2 x hx⟩)
end
end Go.Proofs.YtheniiinioggiaaDoor
