/-
  Who stands in a scheduler and who was told, each once; how soon a Pick finds somebody. No program in sight. Conditions: none beyond what each theorem names.
-/
import Derived.Test.YteghenfdncgpeaaSchMath2
import Derived.Test.YteghenfdncgpeaaBools
namespace Go.Proofs.Yteghenfdncgpeaa
open Go.RowKit
theorem firstP_inv {p : Nat → Bool} : ∀ {n : Nat}, firstP p n = none → ∀ j, j < n → p j = false := by
  intro n
  induction n with
  | zero => intro _ j hj; omega
  | succ n ih =>
    intro h j hj
    unfold firstP at h
    cases hf : firstP p n with
    | some a => rw [hf] at h; cases h
    | none =>
      rw [hf] at h
      cases hp : p n with
      | true => rw [hp] at h; cases h
      | false =>
        by_cases e : j = n
        · subst e; exact hp
        · exact ih hf j (by omega)
theorem where_of {st : SSt} {n : Nat} {y : Int} (h : 0 < wtS (List.count y) st n) : whereB st n y = true := by
  cases hb : whereB st n y with
  | true => rfl
  | false =>
    exfalso
    unfold whereB at hb
    cases hf : firstP (inRing st y) n with
    | some a => rw [hf] at hb; cases hb
    | none =>
      rw [hf] at hb
      have hc : st.com.contains y = false := hb
      have h1 := firstP_inv hf
      have h2 : st.com.count y = 0 := List.count_eq_zero.2 (by simpa using hc)
      have h3 : sumP (fun i => (allS st i).count y) n = 0 := by
        rw [sumP_congr (g := fun _ => 0) n (fun j hj => by
          show (allS st j).count y = 0
          have := h1 j hj
          unfold inRing at this
          exact List.count_eq_zero.2 (by simpa using this))]
        exact sumP_zero n
      have e : wtS (List.count y) st n = st.com.count y + sumP (fun i => (allS st i).count y) n := rfl
      omega
/-- Below i all were made ready; who is in U was told, all others are there. -/
structure OI (n i lf : Nat) (U : Nat → Bool) (st : SSt) : Prop where
  len : wtS List.length st n = lf
  cnt : ∀ y : Int, wtS (List.count y) st n = if 0 ≤ y ∧ y < i ∧ U y.toNat = false then 1 else 0
  far : ∀ x, i ≤ x → U x = false
theorem OI.init (n : Nat) : OI n 0 0 noneB initS := by
  have h0 : ∀ f : List Int → Nat, f [] = 0 → wtS f initS n = 0 := fun f hf => by
    show f [] + sumP (fun _ => f []) n = 0
    rw [hf, sumP_zero]
  exact ⟨h0 _ rfl, fun y => by rw [h0 _ rfl, if_neg (by omega)], fun _ _ => rfl⟩
theorem OI.ready {n i lf p : Nat} {U : Nat → Bool} {st : SSt} (h : OI n i lf U st) (hp : p < n) (nb : Bool) : OI n (i + 1) (lf + 1) U (readyS st p (i : Int) nb) := by
  refine ⟨?_, fun y => ?_, fun x hx => h.far x (by omega)⟩
  · rw [ready_wt addLen hp, h.len]; rfl
  · rw [ready_wt (addCnt y) hp, h.cnt, List.count_singleton]
    by_cases e : ((i : Int) == y) = true
    · have e' : (i : Int) = y := by simpa using e
      subst e'
      rw [if_pos e, if_neg (by omega), if_pos ⟨by omega, by omega, by rw [Int.toNat_natCast]; exact h.far i (by omega)⟩]
    · rw [if_neg e]
      have e' : ¬ (i : Int) = y := by simpa using e
      by_cases h1 : 0 ≤ y ∧ y < (i : Int) ∧ U y.toNat = false
      · rw [if_pos h1, if_pos ⟨h1.1, by omega, h1.2.2⟩]
      · rw [if_neg h1, if_neg (fun e2 => h1 ⟨e2.1, by omega, e2.2.2⟩)]
theorem OI.there {n i lf : Nat} {U : Nat → Bool} {st : SSt} (h : OI n (i + 1) lf U st) (hU : U i = false) : whereB st n (i : Int) = true := by
  apply where_of
  rw [h.cnt, if_pos ⟨by omega, by omega, by rw [Int.toNat_natCast]; exact hU⟩]
  omega
theorem OI.pick {n i lf p : Nat} {U : Nat → Bool} {st : SSt} {tick vic : Int} (h : OI n i lf U st) (hp : p < n) (hb : pickB st p n tick vic = true) :
    ∃ x : Nat, pickV st p n tick vic = x ∧ x < i ∧ U x = false ∧ 0 < lf ∧ OI n i (lf - 1) (updB U x true) (pickS st p n tick vic) := by
  have hw := pick_wt (f := List.length) addLen hp hb
  have hc := fun y : Int => pick_wt (f := List.count y) (addCnt y) hp hb
  rw [h.len] at hw
  obtain ⟨v, hv⟩ : ∃ v, pickV st p n tick vic = v := ⟨_, rfl⟩
  rw [hv] at hw hc
  have hw' : wtS List.length (pickS st p n tick vic) n + 1 = lf := hw
  have h1 := hc v
  rw [List.count_singleton, if_pos (by simp), h.cnt] at h1
  have hr : 0 ≤ v ∧ v < (i : Int) ∧ U v.toNat = false := by
    by_cases e : 0 ≤ v ∧ v < (i : Int) ∧ U v.toNat = false
    · exact e
    · rw [if_neg e] at h1; omega
  obtain ⟨x, hx⟩ : ∃ x : Nat, v = x := ⟨v.toNat, by omega⟩
  subst hx
  rw [Int.toNat_natCast] at hr
  refine ⟨x, hv, by omega, hr.2.2, by omega, by omega, fun y => ?_, fun z hz => ?_⟩
  · have h2 := hc y
    rw [List.count_singleton, h.cnt] at h2
    by_cases e : ((x : Int) == y) = true
    · have e' : (x : Int) = y := by simpa using e
      subst e'
      rw [if_pos e, if_pos ⟨hr.1, hr.2.1, by rw [Int.toNat_natCast]; exact hr.2.2⟩] at h2
      rw [if_neg (by intro e3; have := e3.2.2; rw [Int.toNat_natCast] at this; simp [updB] at this)]
      omega
    · have e' : ¬ (x : Int) = y := by simpa using e
      rw [if_neg e, Nat.add_zero] at h2
      rw [h2]
      by_cases hy : 0 ≤ y
      · have : updB U x true y.toNat = U y.toNat := by unfold updB; rw [if_neg (by omega)]
        rw [this]
      · rw [if_neg (by omega), if_neg (by omega)]
  · unfold updB
    rw [if_neg (by omega)]
    exact h.far z hz
theorem OI.same {n i lf p : Nat} {U : Nat → Bool} {st : SSt} {tick vic : Int} (h : OI n i lf U st) (hb : pickB st p n tick vic = false) : OI n i lf U (pickS st p n tick vic) := by
  obtain ⟨_, _, e1, e2, _⟩ := pick_none hb
  exact ⟨by rw [wtS_congr e1 e2]; exact h.len, fun y => by rw [wtS_congr e1 e2]; exact h.cnt y, h.far⟩
/-- So many Picks in a row have found nobody: the victims have nobody. -/
def Fails (n l i f : Nat) (st : SSt) : Prop := ∀ t, t < i → i ≤ t + f → 1 + t % (max l 1) < n → allS st (1 + t % (max l 1)) = []
theorem Fails.zero (n l i : Nat) (st : SSt) : Fails n l i 0 st := fun t h1 h2 => by omega
/-- One more has found nobody. -/
theorem Fails.more {n l i f : Nat} {st : SSt} {tick : Int} (h : Fails n l i f st) (hn : l + 1 = n) (hb : pickB st 0 n tick ((1 + i % (max l 1) : Nat) : Int) = false) : Fails n l (i + 1) (f + 1) (pickS st 0 n tick ((1 + i % (max l 1) : Nat) : Int)) := by
  obtain ⟨_, _, e1, _, e3⟩ := pick_none hb
  intro t h1 h2 h3
  rw [e1]
  by_cases e : t = i
  · subst e
    exact e3 (1 + t % (max l 1)) rfl h3 (by omega)
  · exact h t (by omega) (by omega) h3
/-- There are not as many as victims while there is somebody. -/
theorem Fails.few {n l i f lf : Nat} {U : Nat → Bool} {k : Nat} {st : SSt} {tick : Int} (h : Fails n l i f st) (hO : OI n k lf U st) (hl : 0 < lf) (hn : l + 1 = n) (h8 : n ≤ 8) (hf : f ≤ i) (hb : pickB st 0 n tick ((1 + i % (max l 1) : Nat) : Int) = false) : f + 1 < max l 1 ∨ max l 1 ≤ f := by
  obtain ⟨c0, o0, _, _, e3⟩ := pick_none hb
  rcases Nat.lt_or_ge (f + 1) (max l 1) with e | e
  · exact .inl e
  · rcases Nat.lt_or_ge f (max l 1) with g | g
    · exfalso
      have hfl : f + 1 = max l 1 := by omega
      have hall : ∀ q, q < n → allS st q = [] := by
        intro q hq
        by_cases hq0 : q = 0
        · subst hq0; exact o0
        · have hm : max l 1 = l := by omega
          rw [hm] at hfl e3
          have key : ∃ t, t ≤ i ∧ i ≤ t + f ∧ t % l = q - 1 := by
            have hl7 : l = 1 ∨ l = 2 ∨ l = 3 ∨ l = 4 ∨ l = 5 ∨ l = 6 ∨ l = 7 := by omega
            rcases hl7 with e | e | e | e | e | e | e <;> subst e
            · exact ⟨i - (i + 1 - (q - 1)) % 1, by omega, by omega, by omega⟩
            · exact ⟨i - (i + 2 - (q - 1)) % 2, by omega, by omega, by omega⟩
            · exact ⟨i - (i + 3 - (q - 1)) % 3, by omega, by omega, by omega⟩
            · exact ⟨i - (i + 4 - (q - 1)) % 4, by omega, by omega, by omega⟩
            · exact ⟨i - (i + 5 - (q - 1)) % 5, by omega, by omega, by omega⟩
            · exact ⟨i - (i + 6 - (q - 1)) % 6, by omega, by omega, by omega⟩
            · exact ⟨i - (i + 7 - (q - 1)) % 7, by omega, by omega, by omega⟩
          obtain ⟨t, t1, t2, t3⟩ := key
          by_cases et : t = i
          · subst et
            exact e3 q (by rw [t3]; omega) hq hq0
          · have := h t (by omega) t2 (by rw [hm, t3]; omega)
            rw [hm, t3, show 1 + (q - 1) = q by omega] at this
            exact this
      have hz : wtS List.length st n = 0 := by
        unfold wtS
        rw [c0, sumP_congr (g := fun _ => 0) n (fun j hj => by
          show (allS st j).length = 0
          rw [hall j hj]; rfl), sumP_zero]
        rfl
      rw [hO.len] at hz
      omega
    · exact .inr g
end Go.Proofs.Yteghenfdncgpeaa
