/-
  A law on regions that draw their order: operations that touch no memory first, then those that only read, then the rest in its forced order. Conditions: as in Mix; what touches no memory yields one value in every world.
-/
import Derived.Test.YteghenfdncgpeaaMix
namespace Go.Proofs.Yteghenfdncgpeaa
section
variable {P : Program} {ops : Array Oper} {Q : Exit → Act → World → Prop} {md : Region.Mode} {C : World → Prop} {need : Nat → Bool}
theorem wpAnyN_firstP {i : Nat} {oi : Oper} {v : Value} (hi : ops[i]? = some oi) (hsel : ∀ (j : Nat) (o : Oper) cs b, ops[j]? = some o → o.op ≠ .select cs b)
    (hQ : ∀ c a w, Q (.panic c) (a.put oi.dst v) w → Q (.panic c) a w) (hni : need i = false) :
    ∀ (fuel : Nat) (listed : Array Bool) (a : Act) (w : World),
      (∀ j oj, ops[j]? = some oj → j ≠ i → listed.getD j true = false → (∀ e ∈ oj.after, Region.binds md e = true → e.on ≠ i) → oi.apart ops oj = true) →
      i ∈ Region.ready md ops listed → YieldsIf P ops (fun _ => True) oi v a →
      wpAnyN P md ops Q C need fuel (listed.setIfInBounds i true) (a.put oi.dst v) w → wpAnyN P md ops Q C need (fuel + 1) listed a w := by
  intro fuel
  induction fuel with
  | zero =>
    intro listed a w _ hr hy H
    refine ⟨fun h => (by rw [h] at hr; cases hr), fun j hj => ?_⟩
    by_cases hji : j = i
    · subst hji; exact hy.wpOp hi trivial ⟨fun h => (by rw [hni] at h; cases h), H⟩
    · have := ready_mono hj hji
      rw [H.1] at this
      cases this
  | succ fuel ih =>
    intro listed a w hfree hr hy H
    refine ⟨fun h => (by rw [h] at hr; cases hr), fun j hj => ?_⟩
    by_cases hji : j = i
    · subst hji; exact hy.wpOp hi trivial ⟨fun h => (by rw [hni] at h; cases h), H⟩
    · have h1 := H.2 j (ready_mono hj hji)
      obtain ⟨hjun, oj, hoj, hall⟩ := mem_ready.1 hj
      have hun := (mem_ready.1 hr).1
      have hnot : ∀ e ∈ oj.after, Region.binds md e = true → e.on ≠ i := fun e he hb heq => by
        have h1 := hall e he hb
        rw [heq, getD_both hun] at h1
        cases h1
      have h2 := wpOp_putIf hoj (hfree j oj hoj hji hjun hnot) (fun cs b => hsel i oi cs b hi) (fun cs b => hsel j oj cs b hoj) hQ hy h1
      have hfree' : ∀ k ok, ops[k]? = some ok → k ≠ i → (listed.setIfInBounds j true).getD k true = false →
          (∀ e ∈ ok.after, Region.binds md e = true → e.on ≠ i) → oi.apart ops ok = true := fun k ok hk hki hunk hno => by
        refine hfree k ok hk hki ?_ hno
        by_cases hjk : j = k
        · subst hjk; exact hjun
        · rw [getD_set_ne true hjk] at hunk; exact hunk
      refine wpOp_mono (fun a' w' h3 => ?_) h2
      refine ⟨h3.2.1, ih (listed.setIfInBounds j true) a' w' hfree' (ready_mono hr (Ne.symm hji)) h3.1 ?_⟩
      rw [Array.setIfInBounds_comm _ _ hji]
      exact h3.2.2
theorem wpAnyN_firstL {hp : List Nat} {i : Nat} {oi : Oper} {v : Value} (hi : ops[i]? = some oi) (hsel : ∀ (j : Nat) (o : Oper) cs b, ops[j]? = some o → o.op ≠ .select cs b)
    (hQ : ∀ c a w, Q (.panic c) (a.put oi.dst v) w → Q (.panic c) a w)
    (hneed : ∀ j oj, ops[j]? = some oj → j ≠ i → j ∉ hp → (∀ e ∈ oj.after, Region.binds md e = true → e.on ≠ i) → need j = true) :
    ∀ (fuel : Nat) (listed : Array Bool) (a : Act) (w : World), (∀ j ∈ hp, listed.getD j true = true) →
      (∀ j oj, ops[j]? = some oj → j ≠ i → listed.getD j true = false → (∀ e ∈ oj.after, Region.binds md e = true → e.on ≠ i) → oi.apart ops oj = true) →
      i ∈ Region.ready md ops listed → YieldsIf P ops C oi v a → C w →
      wpAnyN P md ops Q C need fuel (listed.setIfInBounds i true) (a.put oi.dst v) w → wpAnyN P md ops Q C need (fuel + 1) listed a w := by
  intro fuel
  induction fuel with
  | zero =>
    intro listed a w _ _ hr hy hC H
    refine ⟨fun h => (by rw [h] at hr; cases hr), fun j hj => ?_⟩
    by_cases hji : j = i
    · subst hji; exact hy.wpOp hi hC ⟨fun _ => hC, H⟩
    · have := ready_mono hj hji
      rw [H.1] at this
      cases this
  | succ fuel ih =>
    intro listed a w hl hfree hr hy hC H
    refine ⟨fun h => (by rw [h] at hr; cases hr), fun j hj => ?_⟩
    by_cases hji : j = i
    · subst hji; exact hy.wpOp hi hC ⟨fun _ => hC, H⟩
    · have h1 := H.2 j (ready_mono hj hji)
      obtain ⟨hjun, oj, hoj, hall⟩ := mem_ready.1 hj
      have hun := (mem_ready.1 hr).1
      have hnot : ∀ e ∈ oj.after, Region.binds md e = true → e.on ≠ i := fun e he hb heq => by
        have h1 := hall e he hb
        rw [heq, getD_both hun] at h1
        cases h1
      have hjp : j ∉ hp := fun hj' => by
        have := hl j hj'
        rw [this] at hjun
        cases hjun
      have h2 := wpOp_putIf hoj (hfree j oj hoj hji hjun hnot) (fun cs b => hsel i oi cs b hi) (fun cs b => hsel j oj cs b hoj) hQ hy h1
      have hfree' : ∀ k ok, ops[k]? = some ok → k ≠ i → (listed.setIfInBounds j true).getD k true = false →
          (∀ e ∈ ok.after, Region.binds md e = true → e.on ≠ i) → oi.apart ops ok = true := fun k ok hk hki hunk hno => by
        refine hfree k ok hk hki ?_ hno
        by_cases hjk : j = k
        · subst hjk; exact hjun
        · rw [getD_set_ne true hjk] at hunk; exact hunk
      have hl' : ∀ k ∈ hp, (listed.setIfInBounds j true).getD k true = true := fun k hk => by
        rw [getD_set_ne true (fun e : j = k => hjp (e ▸ hk))]
        exact hl k hk
      refine wpOp_mono (fun a' w' h3 => ?_) h2
      have hC' := h3.2.1 (hneed j oj hoj hji hjp hnot)
      refine ⟨fun _ => hC', ih (listed.setIfInBounds j true) a' w' hl' hfree' (ready_mono hr (Ne.symm hji)) h3.1 hC' ?_⟩
      rw [Array.setIfInBounds_comm _ _ hji]
      exact h3.2.2
/-- May each of these be taken first, one behind the other, whatever the world? -/
def pureIdxB (md : Region.Mode) (ops : Array Oper) : List Nat → Array Bool → Bool
  | [], _ => true
  | i :: tl, listed => (Region.ready md ops listed).contains i && Region.free md ops listed i && pureIdxB md ops tl (listed.setIfInBounds i true)
theorem wpAnyN_pures {f : Nat} {w : World} {R : Act → Prop} (hsel : Region.noSelect ops = true) (hQ : ∀ c a d v w, Q (.panic c) (a.put d v) w → Q (.panic c) a w) : ∀ (hd : List Nat) (lo : List Oper) (listed : Array Bool) (a : Act), (hd.map fun i => ops[i]?) = lo.map some → (∀ i ∈ hd, need i = false) →
    pureIdxB md ops hd listed = true → (∀ a', R a' → wpAnyN P md ops Q C need f (setAll hd listed) a' w) → wpYield P ops (fun _ => True) R lo a → wpAnyN P md ops Q C need (hd.length + f) listed a w
  | [], lo, listed, a, hlo, _, _, hR, h => by
    cases lo with
    | nil => rw [List.length_nil, Nat.zero_add]; exact hR _ h
    | cons o r => simp at hlo
  | t :: tl, lo, listed, a, hlo, hn, hB, hR, h => by
    cases lo with
    | nil => simp at hlo
    | cons o lo =>
      simp only [List.map_cons, List.cons.injEq] at hlo
      obtain ⟨ho, hlo⟩ := hlo
      simp only [pureIdxB, Bool.and_eq_true] at hB
      obtain ⟨⟨hr, hf⟩, hB⟩ := hB
      rw [show (t :: tl).length + f = (tl.length + f) + 1 by simp only [List.length_cons]; omega]
      unfold wpYield at h
      split at h
      · rename_i hw
        obtain ⟨v, hv, h⟩ := h
        exact wpAnyN_firstP ho (Region.noSelect_spec hsel) (fun c a w => hQ c a o.dst v w) (hn t (by simp)) _ listed a w (Region.free_spec ho hf) (by simpa using hr) (.inl ⟨hw, hv⟩)
          (wpAnyN_pures hsel hQ tl lo _ _ hlo (fun i hi => hn i (by simp [hi])) hB hR h)
      · rename_i hw
        exact wpAnyN_firstP ho (Region.noSelect_spec hsel) (fun c a w => hQ c a o.dst undef w) (hn t (by simp)) _ listed a w (Region.free_spec ho hf) (by simpa using hr) (.inr ⟨by simpa using hw, rfl⟩)
          (wpAnyN_pures hsel hQ tl lo _ _ hlo (fun i hi => hn i (by simp [hi])) hB hR h)
/-- As headIdxB, where those of hp are listed already. -/
def headLB (md : Region.Mode) (ops : Array Oper) (need : Nat → Bool) (hp : List Nat) : List Nat → Array Bool → Bool
  | [], _ => true
  | i :: tl, listed => (Region.ready md ops listed).contains i && Region.free md ops listed i && (List.range ops.size).all (fun j => j == i || hp.contains j || need j || Region.waitsFor md ops j i) && !hp.contains i && headLB md ops need hp tl (listed.setIfInBounds i true)
theorem wpAnyN_headsL {hp : List Nat} {f : Nat} {w : World} {R : Act → Prop} (hsel : Region.noSelect ops = true) (hC : C w) (hQ : ∀ c a d v w, Q (.panic c) (a.put d v) w → Q (.panic c) a w) : ∀ (hd : List Nat) (lo : List Oper) (listed : Array Bool) (a : Act), (hd.map fun i => ops[i]?) = lo.map some →
    headLB md ops need hp hd listed = true → (∀ j ∈ hp, listed.getD j true = true) → (∀ a', R a' → wpAnyN P md ops Q C need f (setAll hd listed) a' w) → wpYield P ops C R lo a → wpAnyN P md ops Q C need (hd.length + f) listed a w
  | [], lo, listed, a, hlo, _, _, hR, h => by
    cases lo with
    | nil => rw [List.length_nil, Nat.zero_add]; exact hR _ h
    | cons o r => simp at hlo
  | t :: tl, lo, listed, a, hlo, hB, hl, hR, h => by
    cases lo with
    | nil => simp at hlo
    | cons o lo =>
      simp only [List.map_cons, List.cons.injEq] at hlo
      obtain ⟨ho, hlo⟩ := hlo
      simp only [headLB, Bool.and_eq_true] at hB
      obtain ⟨⟨⟨⟨hr, hf⟩, hn⟩, htp⟩, hB⟩ := hB
      rw [show (t :: tl).length + f = (tl.length + f) + 1 by simp only [List.length_cons]; omega]
      have htp' : t ∉ hp := by simpa using htp
      have hneed : ∀ j oj, ops[j]? = some oj → j ≠ t → j ∉ hp → (∀ e ∈ oj.after, Region.binds md e = true → e.on ≠ t) → need j = true := fun j oj hj hne hjp hno => by
        have h1 := List.all_eq_true.1 hn j (List.mem_range.2 (Array.getElem?_eq_some_iff.1 hj).1)
        simp only [Bool.or_eq_true, beq_iff_eq] at h1
        rcases h1 with ((h1 | h1) | h1) | h1
        · exact absurd h1 hne
        · exact absurd (by simpa using h1) hjp
        · exact h1
        · obtain ⟨oj', hj', e, he, hb, hon⟩ := Region.waitsFor_spec h1
          have : oj' = oj := Option.some.inj (hj'.symm.trans hj)
          subst this
          exact absurd hon (hno e he hb)
      have hl' : ∀ k ∈ hp, (listed.setIfInBounds t true).getD k true = true := fun k hk => by
        rw [getD_set_ne true (fun e : t = k => htp' (e ▸ hk))]
        exact hl k hk
      unfold wpYield at h
      split at h
      · rename_i hw
        obtain ⟨v, hv, h⟩ := h
        exact wpAnyN_firstL ho (Region.noSelect_spec hsel) (fun c a w => hQ c a o.dst v w) hneed _ listed a w hl (Region.free_spec ho hf) (by simpa using hr) (.inl ⟨hw, hv⟩) hC
          (wpAnyN_headsL hsel hC hQ tl lo _ _ hlo hB hl' hR h)
      · rename_i hw
        exact wpAnyN_firstL ho (Region.noSelect_spec hsel) (fun c a w => hQ c a o.dst undef w) hneed _ listed a w hl (Region.free_spec ho hf) (by simpa using hr) (.inr ⟨by simpa using hw, rfl⟩) hC
          (wpAnyN_headsL hsel hC hQ tl lo _ _ hlo hB hl' hR h)
def mix2B (ops : Array Oper) (hp hd mid tl : List Nat) : Bool :=
  let need := fun j => hd.contains j || mid.contains j
  let l0 := Array.replicate ops.size false
  Region.noSelect ops && pureIdxB .any ops hp l0 && hp.all (fun i => !need i) && tl.all (fun i => !need i) && headLB .any ops need hp hd (setAll hp l0) && hp.all (fun j => (setAll hp l0).getD j true) &&
  seqIdxB .any ops mid (setAll hd (setAll hp l0)) && seqIdxB .any ops tl (setAll mid (setAll hd (setAll hp l0))) &&
  (Region.ready .any ops (setAll tl (setAll mid (setAll hd (setAll hp l0))))).isEmpty && decide (hp.length + (hd.length + (mid.length + tl.length)) = ops.size)
end
/-- **A region that draws its order: what touches no memory, readers, then the rest in its forced order.** -/
theorem wp_region_mix2 {P : Program} {id : Nat} {Q : Exit → Act → World → Prop} {a : Act} {w : World} {l : List Oper} (C : World → Prop) (hp hd mid tl : List Nat)
    (hm : P.follows .mixedOrders = true) (hB : (mix2B l.toArray hp hd mid tl && hp.all (fun i => decide (i < l.length)) && hd.all (fun i => decide (i < l.length)) && mid.all (fun i => decide (i < l.length)) && tl.all (fun i => decide (i < l.length))) = true)
    (hQ0 : ∀ (c : List PanicEntry) (a : Act) (n : Nat) (v : Value) (w : World), Q (.panic c) { a with tmps := a.tmps.setIfInBounds n v } w → Q (.panic c) a w) (hC : C (w.drewN 1))
    (h : wpYield P l.toArray (fun _ => True) (fun a0 => wpYield P l.toArray C (fun a' => wpKeep P l.toArray Q C (fun a'' w'' => wpList P l.toArray Q (pickOps l tl) a'' w'') (pickOps l mid) a' (w.drewN 1)) (pickOps l hd) a0) (pickOps l hp) a) : (Code.region id l.toArray true).wp P Q a w := by
  simp only [Bool.and_eq_true] at hB
  obtain ⟨⟨⟨⟨hB, z0⟩, z1⟩, z2⟩, z3⟩ := hB
  have h0 := pickOps_eq l hp z0
  have h1 := pickOps_eq l hd z1
  have h2 := pickOps_eq l mid z2
  have h3 := pickOps_eq l tl z3
  generalize pickOps l hp = po at *
  generalize pickOps l hd = ho at *
  generalize pickOps l mid = mo at *
  generalize pickOps l tl = to' at *
  have hQ : ∀ (c : List PanicEntry) (a : Act) (d : Option Tmp) (v : Value) (w : World), Q (.panic c) (a.put d v) w → Q (.panic c) a w := fun c a d v w hq => by
    cases d with
    | none => exact hq
    | some n => exact hQ0 c a n v w hq
  simp only [mix2B, Bool.and_eq_true, decide_eq_true_eq, List.isEmpty_iff] at hB
  obtain ⟨⟨⟨⟨⟨⟨⟨⟨⟨b1, b2⟩, b3⟩, b4⟩, b5⟩, b6⟩, b7⟩, b8⟩, b9⟩, b10⟩ := hB
  have n1 : ∀ i ∈ hp, (hd.contains i || mid.contains i) = false := fun i hi => by have := List.all_eq_true.1 b3 i hi; simpa using this
  have n2 : ∀ i ∈ tl, (hd.contains i || mid.contains i) = false := fun i hi => by have := List.all_eq_true.1 b4 i hi; simpa using this
  have n3 : ∀ j ∈ hp, (setAll hp (Array.replicate l.toArray.size false)).getD j true = true := fun j hj => List.all_eq_true.1 b6 j hj
  have mono : ∀ (lo : List Oper) (a : Act) (w : World), wpKeep P l.toArray Q C (fun a'' w'' => wpList P l.toArray Q to' a'' w'') lo a w →
      wpKeep P l.toArray Q C (fun a'' w'' => wpAnyN P .any l.toArray Q C (fun j => hd.contains j || mid.contains j) tl.length (setAll mid (setAll hd (setAll hp (Array.replicate l.toArray.size false)))) a'' w'') lo a w := by
    clear h
    intro lo
    induction lo with
    | nil => intro a w h; exact wpAnyN_tail tl to' _ a w h3 n2 b8 b9 h
    | cons o lo ih =>
      intro a w h
      unfold wpKeep at h ⊢
      split
      · rename_i hw
        rw [if_pos hw] at h
        rcases h with h | h
        · exact .inl (Oper.wp_mono (fun a' w' h' => ⟨h'.1, ih a' w' h'.2⟩) h)
        · exact .inr h
      · rename_i hw
        rw [if_neg hw] at h
        exact ⟨h.1, ih _ _ h.2⟩
  have H : wpAnyN P .any l.toArray Q C (fun j => hd.contains j || mid.contains j) (hp.length + (hd.length + (mid.length + tl.length))) (Array.replicate l.toArray.size false) a (w.drewN 1) :=
    wpAnyN_pures b1 hQ hp po _ a h0 n1 b2 (fun a0 ha0 => wpAnyN_headsL b1 hC hQ hd ho _ a0 h1 b5 n3 (fun a' ha' => wpAnyN_keep mid mo _ a' _ h2 b7 (mono mo a' _ ha')) ha0) h
  rw [b10] at H
  exact wp_region_any hm (wpAny_of_N _ _ _ _ H)
/-- What touches no memory. -/
theorem wpPure_step {P : Program} {ops : Array Oper} {Q : Act → Prop} {a : Act} {o : Oper} {rest : List Oper}
    (h : ∀ K : Act → Prop, (∀ a, wpYield P ops (fun _ => True) Q rest a → K a) → if Region.wanted o (yielded ops a.tmps) then ∃ v, (∀ w, (execOp a.eval o).run P w = .ok (.value v) w) ∧ K (a.put o.dst v) else K (a.put o.dst undef)) :
    wpYield P ops (fun _ => True) Q (o :: rest) a := wpYield_step fun K hK => by
  have := h K hK
  split
  · rename_i hw
    rw [if_pos hw] at this
    obtain ⟨v, hv, hk⟩ := this
    exact ⟨v, fun w _ => hv w, hk⟩
  · rename_i hw
    rw [if_neg hw] at this
    exact this
end Go.Proofs.Yteghenfdncgpeaa
