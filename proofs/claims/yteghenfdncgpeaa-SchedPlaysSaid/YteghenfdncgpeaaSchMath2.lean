/-
  Sums over all goroutines of a scheduler, and what a Pick that finds nobody tells. No program in sight. Conditions: none beyond what each theorem names.
-/
import Derived.Test.YteghenfdncgpeaaSchMath
namespace Go.Proofs.Yteghenfdncgpeaa
open Go.RowKit
structure Addf (f : List Int → Nat) : Prop where
  nil : f [] = 0
  app : ∀ a b, f (a ++ b) = f a + f b
theorem addLen : Addf List.length := ⟨rfl, fun _ _ => List.length_append⟩
theorem addCnt (y : Int) : Addf (List.count y) := ⟨rfl, fun _ _ => List.count_append⟩
theorem Addf.cons {f : List Int → Nat} (hf : Addf f) (x : Int) (l : List Int) : f (x :: l) = f [x] + f l := hf.app [x] l
def wtS (f : List Int → Nat) (st : SSt) (n : Nat) : Nat := f st.com + sumP (fun i => f (allS st i)) n
section
variable {f : List Int → Nat} {st st2 : SSt} {n p q : Nat} {g tick vic : Int} {nb : Bool}
theorem ringRow_f (hf : Addf f) (Y : List Int) (x : Int) : f (ringRow Y x) + f (ringOver Y x) = f Y + f [x] := by
  unfold ringRow ringOver
  split
  · rw [hf.app, hf.nil, Nat.add_zero]
  · rw [hf.app]
    have : f Y = f (Y.take 128) + f (Y.drop 128) := by rw [← hf.app, List.take_append_drop]
    omega
theorem putRing_f (hf : Addf f) (nx : Int) (hs : Bool) (Y : List Int) : f (ringList (putN nx g nb) (putH hs nb) (putX nx hs Y g nb)) + f (putO nx hs Y g nb) = f (ringList nx hs Y) + f [g] := by
  cases nb with
  | false =>
    have h := ringRow_f hf Y g
    cases hs with
    | false => exact h
    | true =>
      show f (nx :: ringRow Y g) + f (ringOver Y g) = f (nx :: Y) + f [g]
      rw [hf.cons, hf.cons nx Y]; omega
  | true =>
    cases hs with
    | false =>
      show f (g :: Y) + f [] = f Y + f [g]
      rw [hf.cons, hf.nil]; omega
    | true =>
      have h := ringRow_f hf Y nx
      show f (g :: ringRow Y nx) + f (ringOver Y nx) = f (nx :: Y) + f [g]
      rw [hf.cons, hf.cons nx Y]; omega
theorem wtS_upd (hp : p < n) (h : ∀ j, j ≠ p → allS st2 j = allS st j) : sumP (fun i => f (allS st2 i)) n + f (allS st p) = sumP (fun i => f (allS st i)) n + f (allS st2 p) :=
  sumP_upd (g := fun i => f (allS st i)) (g' := fun i => f (allS st2 i)) hp (fun j _ hj => by show f _ = f _; rw [h j hj])
theorem ready_wt (hf : Addf f) (hp : p < n) : wtS f (readyS st p g nb) n = wtS f st n + f [g] := by
  obtain ⟨a, b, c, d⟩ := ready_at (st := st) (p := p) (g := g) (nb := nb)
  have h1 := wtS_upd (f := f) (st := st) (st2 := readyS st p g nb) hp (fun j hj => by
    obtain ⟨e1, e2, e3⟩ := ready_ne (st := st) (p := p) (g := g) (nb := nb) hj
    exact allS_congr e1 e2 e3)
  have h2 := putRing_f (f := f) (g := g) (nb := nb) hf (st.nx p) (st.hs p) (st.row p)
  rw [allS_of a b c] at h1
  have h3 : f (allS st p) = f (ringList (st.nx p) (st.hs p) (st.row p)) := rfl
  unfold wtS
  rw [d, hf.app]
  omega
theorem get_f (hf : Addf f) {nx : Int} {hs : Bool} {Y : List Int} (hb : getB hs Y = true) : f (ringList nx false (getX hs Y)) + f [getV nx hs Y] = f (ringList nx hs Y) := by
  cases hs with
  | true =>
    show f Y + f [nx] = f (nx :: Y)
    rw [hf.cons nx Y]; omega
  | false =>
    cases Y with
    | nil => cases hb
    | cons y t =>
      show f t + f [y] = f (y :: t)
      rw [hf.cons y t]; omega
theorem get_wt (hf : Addf f) (hp : p < n) (hb : getB (st.hs p) (st.row p) = true) : wtS f (getSt st p) n + f [getV (st.nx p) (st.hs p) (st.row p)] = wtS f st n := by
  obtain ⟨a, b, c, d⟩ := getSt_at (st := st) (p := p)
  have h1 := wtS_upd (f := f) (st := st) (st2 := getSt st p) hp (fun j hj => by
    obtain ⟨e1, e2, e3⟩ := getSt_ne (st := st) (p := p) hj
    exact allS_congr e1 e2 e3)
  have h2 := get_f (nx := st.nx p) hf hb
  rw [allS_of a b c] at h1
  have h3 : f (allS st p) = f (ringList (st.nx p) (st.hs p) (st.row p)) := rfl
  unfold wtS
  rw [d]
  omega
theorem getB_no {hs : Bool} {Y : List Int} (h : getB hs Y = false) : hs = false ∧ Y = [] := by
  unfold getB at h
  simp only [Bool.or_eq_false_iff, Bool.not_eq_false', List.isEmpty_iff] at h
  exact h
theorem get_none (hb : getB (st.hs p) (st.row p) = false) : (∀ j, allS (getSt st p) j = allS st j) ∧ (getSt st p).com = st.com ∧ allS st p = [] := by
  obtain ⟨h1, h2⟩ := getB_no hb
  obtain ⟨a, b, c, d⟩ := getSt_at (st := st) (p := p)
  have h3 : allS st p = [] := by rw [allS_of rfl h1 h2]; rfl
  refine ⟨fun j => ?_, d, h3⟩
  by_cases e : j = p
  · subst e
    rw [h3, allS_of (nx := st.nx j) (row := []) a b (c.trans (by rw [h1, h2]; rfl))]; rfl
  · obtain ⟨e1, e2, e3⟩ := getSt_ne (st := st) (p := p) e
    exact allS_congr e1 e2 e3
theorem wtS_congr (h1 : ∀ j, allS st2 j = allS st j) (h2 : st2.com = st.com) : wtS f st2 n = wtS f st n := by
  unfold wtS
  rw [h2, sumP_congr (g := fun i => f (allS st i)) (g' := fun i => f (allS st2 i)) n (fun j _ => by show f _ = f _; rw [h1 j])]
theorem com_wt (l : List Int) : wtS f (st.setCom l) n + f st.com = wtS f st n + f l := by
  show f l + sumP (fun i => f (allS st i)) n + f st.com = f st.com + sumP (fun i => f (allS st i)) n + f l
  omega
theorem fold_wt (hf : Addf f) (hp : p < n) : ∀ (l : List Int) (st : SSt), wtS f (foldR st p l) n = wtS f st n + f l := by
  intro l
  induction l with
  | nil => intro st; show wtS f st n = _; rw [hf.nil]; rfl
  | cons g l ih =>
    intro st
    show wtS f (foldR (readyS st p g false) p l) n = _
    rw [ih, ready_wt hf hp, hf.cons g l, Nat.add_assoc]
theorem part_wt (hf : Addf f) (hp : p < n) (hc : st.com ≠ []) : wtS f (partS st p n) n + f [gI st.com 0] = wtS f st n := by
  unfold partS
  rw [fold_wt hf hp]
  obtain ⟨k1, k2, k3⟩ := getN_le st.com.length n
  have k0 := k3 (List.length_pos_iff.2 hc)
  obtain ⟨k, hk⟩ : ∃ k, getN st.com.length n = k := ⟨_, rfl⟩
  rw [hk] at k0 k1 ⊢
  obtain ⟨y, t, hy⟩ := List.exists_cons_of_ne_nil hc
  obtain ⟨m, rfl⟩ : ∃ m, k = m + 1 := ⟨k - 1, by omega⟩
  have h1 := com_wt (f := f) (st := st) (n := n) (st.com.drop (m + 1))
  have h2 : f st.com = f (st.com.take (m + 1)) + f (st.com.drop (m + 1)) := by rw [← hf.app, List.take_append_drop]
  have h3 : f (st.com.take (m + 1)) = f [gI st.com 0] + f ((st.com.take (m + 1)).drop 1) := by
    rw [hy]
    show f (y :: t.take m) = f [y] + f (t.take m)
    exact hf.cons y _
  omega
theorem steal_f (hf : Addf f) (nxp nxq : Int) (hsp hsq : Bool) (Y Z : List Int) : f (ringList nxp hsp (stealX nxq hsq Y Z)) + f (ringList nxq (stealH hsq Y Z) (stealY hsq Y Z)) = f (ringList nxp hsp Y) + f (ringList nxq hsq Z) := by
  have hl : ∀ (nx : Int) (hs : Bool) (A : List Int), f (ringList nx hs A) = f (ringList nx hs []) + f A := fun nx hs A => by
    cases hs with
    | false => show f A = f [] + f A; rw [hf.nil, Nat.zero_add]
    | true => show f (nx :: A) = f (nx :: []) + f A; exact hf.cons nx A
  unfold stealX stealH stealY
  by_cases hZ : Z = []
  · simp only [if_pos hZ]
    subst hZ
    by_cases hh : hsq = true ∧ Y.length < 256
    · simp only [if_pos hh]
      obtain ⟨rfl, _⟩ := hh
      rw [hl nxp hsp (Y ++ [nxq]), hl nxp hsp Y, hf.app]
      show _ + (f Y + f [nxq]) + f [] = _ + f Y + f [nxq]
      rw [hf.nil]; omega
    · simp only [if_neg hh]
  · simp only [if_neg hZ]
    rw [hl nxp hsp (Y ++ _), hl nxp hsp Y, hl nxq hsq (Z.drop _), hl nxq hsq Z, hf.app]
    have : f Z = f (Z.take (stealK Y Z hsq)) + f (Z.drop (stealK Y Z hsq)) := by rw [← hf.app, List.take_append_drop]
    omega
theorem steal_wt (hf : Addf f) (hp : p < n) (hq : q < n) (hne : q ≠ p) : wtS f (stealS st p q) n = wtS f st n := by
  obtain ⟨a1, a2, a3, a4⟩ := steal_at (st := st) hne
  obtain ⟨b1, b2, b3⟩ := steal_from (st := st) (p := p) (q := q)
  have hsum := steal_f (f := f) hf (st.nx p) (st.nx q) (st.hs p) (st.hs q) (st.row p) (st.row q)
  have e1 := sumP_upd (n := n) (g := fun i => f (allS st i)) (g' := updN (fun i => f (allS st i)) p (f (allS (stealS st p q) p))) hp (fun j _ hj => updN_ne _ _ hj)
  have e2 := sumP_upd (n := n) (i := q) (g := updN (fun i => f (allS st i)) p (f (allS (stealS st p q) p))) (g' := fun i => f (allS (stealS st p q) i)) hq (fun j _ hj => by
    by_cases e : j = p
    · subst e; rw [updN_at]
    · rw [updN_ne _ _ e]
      obtain ⟨c1, c2, c3⟩ := steal_ne (st := st) e hj
      show f _ = f _
      rw [allS_congr c1 c2 c3])
  rw [updN_at] at e1
  rw [updN_ne _ _ hne] at e2
  have d1 : f (allS (stealS st p q) p) = f (ringList (st.nx p) (st.hs p) (stealX (st.nx q) (st.hs q) (st.row p) (st.row q))) := by rw [allS_of a1 a2 a3]
  have d2 : f (allS (stealS st p q) q) = f (ringList (st.nx q) (stealH (st.hs q) (st.row p) (st.row q)) (stealY (st.hs q) (st.row p) (st.row q))) := by rw [allS_of b1 b2 b3]
  have d3 : f (allS st p) = f (ringList (st.nx p) (st.hs p) (st.row p)) := rfl
  have d4 : f (allS st q) = f (ringList (st.nx q) (st.hs q) (st.row q)) := rfl
  unfold wtS
  rw [a4]
  omega
theorem stealV_wt (hf : Addf f) (hp : p < n) : wtS f (stealV st p n vic) n = wtS f st n := by
  unfold stealV
  split
  · next h =>
    obtain ⟨z1, z2⟩ := of_decide_eq_true h.1
    exact steal_wt hf hp (by omega) (by intro e; apply h.2; omega)
  · rfl
theorem pick_wt (hf : Addf f) (hp : p < n) (hb : pickB st p n tick vic = true) : wtS f (pickS st p n tick vic) n + f [pickV st p n tick vic] = wtS f st n := by
  cases hF : fairB st tick with
  | true =>
    obtain ⟨a, _, c⟩ := pick_fair (p := p) (n := n) (vic := vic) hF
    rw [a, c]
    obtain ⟨_, _, hc⟩ := of_decide_eq_true hF
    obtain ⟨y, t, hy⟩ := List.exists_cons_of_ne_nil hc
    have h1 := com_wt (f := f) (st := st) (n := n) st.com.tail
    rw [hy] at h1 ⊢
    rw [hf.cons y t] at h1
    show wtS f (st.setCom t) n + f [y] = _
    have h2 : wtS f (st.setCom (y :: t).tail) n = wtS f (st.setCom t) n := rfl
    rw [h2] at h1
    show _ = _
    have h3 : f (y :: t).tail = f t := rfl
    omega
  | false =>
    cases hO : getB (st.hs p) (st.row p) with
    | true =>
      obtain ⟨a, _, c⟩ := pick_own (n := n) (vic := vic) hF hO
      rw [a, c]
      exact get_wt hf hp hO
    | false =>
      by_cases hc : st.com = []
      · obtain ⟨a, b, c⟩ := pick_steal (n := n) (tick := tick) (vic := vic) hO hc
        rw [b] at hb
        rw [a, c, get_wt hf hp hb]
        exact stealV_wt hf hp
      · obtain ⟨a, _, c⟩ := pick_part (n := n) (vic := vic) hF hO hc
        rw [a, c]
        exact part_wt hf hp hc
/-- A Pick that finds nobody: there is nobody of one's own, in common, at the victim; nothing has turned. -/
theorem pick_none (hb : pickB st p n tick vic = false) : st.com = [] ∧ allS st p = [] ∧ (∀ j, allS (pickS st p n tick vic) j = allS st j) ∧ (pickS st p n tick vic).com = st.com ∧ ∀ q : Nat, vic = q → q < n → q ≠ p → allS st q = [] := by
  cases hF : fairB st tick with
  | true =>
    obtain ⟨_, b, _⟩ := pick_fair (p := p) (n := n) (vic := vic) hF
    rw [b] at hb; cases hb
  | false =>
    cases hO : getB (st.hs p) (st.row p) with
    | true =>
      obtain ⟨_, b, _⟩ := pick_own (n := n) (vic := vic) hF hO
      rw [b] at hb; cases hb
    | false =>
      by_cases hc : st.com = []
      · obtain ⟨_, b, c⟩ := pick_steal (n := n) (tick := tick) (vic := vic) hO hc
        rw [b] at hb
        obtain ⟨o1, o2⟩ := getB_no hO
        obtain ⟨z1, z2⟩ := getB_no hb
        have hown : allS st p = [] := by rw [allS_of rfl o1 o2]; rfl
        obtain ⟨g1, g2, g3⟩ := get_none (st := stealV st p n vic) (p := p) hb
        have key : (∀ j, allS (stealV st p n vic) j = allS st j) ∧ (stealV st p n vic).com = st.com ∧ ∀ q : Nat, vic = q → q < n → q ≠ p → allS st q = [] := by
          by_cases hv : hasP n vic = true ∧ vic ≠ p
          · obtain ⟨y1, y2⟩ := of_decide_eq_true hv.1
            obtain ⟨q, hq⟩ : ∃ q : Nat, vic = q := ⟨vic.toNat, by omega⟩
            subst hq
            have hqn : q < n := by omega
            have hqp : q ≠ p := by intro e; apply hv.2; omega
            rw [stealV_yes hqn hqp] at z1 z2 ⊢
            obtain ⟨a1, a2, a3, a4⟩ := steal_at (st := st) hqp
            obtain ⟨b1, b2, b3⟩ := steal_from (st := st) (p := p) (q := q)
            rw [a3] at z2
            have hY : st.row q = [] ∧ st.hs q = false := by
              rw [o2] at z2
              unfold stealX at z2
              by_cases hR : st.row q = []
              · rw [if_pos hR] at z2
                cases hh : st.hs q with
                | false => exact ⟨hR, rfl⟩
                | true => rw [hh] at z2; simp at z2
              · rw [if_neg hR] at z2
                unfold stealK at z2
                rw [if_neg hR] at z2
                have := congrArg List.length z2
                rw [List.length_append, List.length_take, List.length_nil] at this
                have := List.length_pos_iff.2 hR
                omega
            have hq0 : allS st q = [] := by rw [allS_of rfl hY.2 hY.1]; rfl
            refine ⟨fun j => ?_, a4, fun q' hq' _ _ => ?_⟩
            · by_cases e1 : j = q
              · subst e1
                rw [allS_of b1 b2 b3, hY.1, hY.2, hq0]
                unfold stealH stealY
                rw [if_pos rfl, if_pos rfl, if_neg (by simp)]; rfl
              · by_cases e2 : j = p
                · subst e2
                  rw [allS_of a1 a2 (a3.trans z2), o1, hown]; rfl
                · obtain ⟨c1, c2, c3⟩ := steal_ne (st := st) e2 e1
                  exact allS_congr c1 c2 c3
            · obtain rfl : q' = q := by omega
              exact hq0
          · rw [stealV_no (by
              by_cases e : hasP n vic = true
              · right
                by_cases e2 : vic = p
                · exact e2
                · exact absurd ⟨e, e2⟩ hv
              · left; simpa using e)]
            refine ⟨fun _ => rfl, rfl, fun q hq hqn hqp => ?_⟩
            exact absurd ⟨decide_eq_true (by omega), by omega⟩ hv
        exact ⟨hc, hown, fun j => by rw [c, g1 j, key.1 j], by rw [c, g2, key.2.1], key.2.2⟩
      · obtain ⟨_, b, _⟩ := pick_part (n := n) (vic := vic) hF hO hc
        rw [b] at hb; cases hb
theorem totS_wt : totS st n = wtS List.length st n := rfl
theorem com_le : st.com.length ≤ wtS List.length st n := by unfold wtS; omega
end
end Go.Proofs.Yteghenfdncgpeaa
