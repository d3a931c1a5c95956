/-
  A law on regions that draw their order: operations that only read may all be taken first; what is left goes in its own forced order. Conditions: one condition on worlds under which each reader yields one value; it holds behind every operation that may come up ahead of a reader.
-/
import Derived.OrdersHeld
import Derived.StillTail
import Derived.Tactics
import Derived.KernelRfl
import Derived.RegionTactic
import Derived.Deep.Draws
namespace Go.Proofs.Yteghenfdncgpeaa

section
variable {P : Program} {ops : Array Oper} {Q : Exit → Act → World → Prop} {md : Region.Mode} {C : World → Prop} {need : Nat → Bool}

/-- Whatever order is picked from here on; behind each operation that is marked, C holds. -/
def wpAnyN (P : Program) (md : Region.Mode) (ops : Array Oper) (Q : Exit → Act → World → Prop) (C : World → Prop) (need : Nat → Bool) : Nat → Array Bool → Act → World → Prop
  | 0, listed, a, w => Region.ready md ops listed = [] ∧ Q .normal a w
  | fuel + 1, listed, a, w =>
    (Region.ready md ops listed = [] → Q .normal a w) ∧
    ∀ i ∈ Region.ready md ops listed, wpOp P ops Q i (fun a' w' => (need i = true → C w') ∧ wpAnyN P md ops Q C need fuel (listed.setIfInBounds i true) a' w') a w
theorem wpAny_of_N : ∀ (fuel : Nat) (listed : Array Bool) (a : Act) (w : World), wpAnyN P md ops Q C need fuel listed a w → wpAny P md ops Q fuel listed a w
  | 0, _, _, _, h => h
  | fuel + 1, _, _, _, h => ⟨h.1, fun i hi => wpOp_mono (fun a' w' h' => wpAny_of_N fuel _ a' w' h'.2) (h.2 i hi)⟩

theorem wpAnyN_first {i : Nat} {oi : Oper} {v : Value} (hi : ops[i]? = some oi) (hsel : ∀ (j : Nat) (o : Oper) cs b, ops[j]? = some o → o.op ≠ .select cs b)
    (hQ : ∀ c a w, Q (.panic c) (a.put oi.dst v) w → Q (.panic c) a w)
    (hneed : ∀ j oj, ops[j]? = some oj → j ≠ i → (∀ e ∈ oj.after, Region.binds md e = true → e.on ≠ i) → need j = true) :
    ∀ (fuel : Nat) (listed : Array Bool) (a : Act) (w : World),
      (∀ j oj, ops[j]? = some oj → j ≠ i → listed.getD j true = false → (∀ e ∈ oj.after, Region.binds md e = true → e.on ≠ i) → oi.apart ops oj = true) →
      i ∈ Region.ready md ops listed → YieldsIf P ops C oi v a → C w →
      wpAnyN P md ops Q C need fuel (listed.setIfInBounds i true) (a.put oi.dst v) w → wpAnyN P md ops Q C need (fuel + 1) listed a w := by
  intro fuel
  induction fuel with
  | zero =>
    intro listed a w _ hr hy hC H
    refine ⟨fun h => (by rw [h] at hr; cases hr), fun j hj => ?_⟩
    by_cases hji : j = i
    · subst hji; exact hy.wpOp hi hC ⟨fun _ => hC, H⟩
    · have := ready_mono hj hji
      rw [H.1] at this
      cases this
  | succ fuel ih =>
    intro listed a w hfree hr hy hC H
    refine ⟨fun h => (by rw [h] at hr; cases hr), fun j hj => ?_⟩
    by_cases hji : j = i
    · subst hji; exact hy.wpOp hi hC ⟨fun _ => hC, H⟩
    · have h1 := H.2 j (ready_mono hj hji)
      obtain ⟨hjun, oj, hoj, hall⟩ := mem_ready.1 hj
      have hun := (mem_ready.1 hr).1
      have hnot : ∀ e ∈ oj.after, Region.binds md e = true → e.on ≠ i := fun e he hb heq => by
        have h1 := hall e he hb
        rw [heq, getD_both hun] at h1
        cases h1
      have h2 := wpOp_putIf hoj (hfree j oj hoj hji hjun hnot) (fun cs b => hsel i oi cs b hi) (fun cs b => hsel j oj cs b hoj) hQ hy h1
      have hfree' : ∀ k ok, ops[k]? = some ok → k ≠ i → (listed.setIfInBounds j true).getD k true = false →
          (∀ e ∈ ok.after, Region.binds md e = true → e.on ≠ i) → oi.apart ops ok = true := fun k ok hk hki hunk hno => by
        refine hfree k ok hk hki ?_ hno
        by_cases hjk : j = k
        · subst hjk; exact hjun
        · rw [getD_set_ne true hjk] at hunk; exact hunk
      refine wpOp_mono (fun a' w' h3 => ?_) h2
      have hC' := h3.2.1 (hneed j oj hoj hji hnot)
      refine ⟨fun _ => hC', ih (listed.setIfInBounds j true) a' w' hfree' (ready_mono hr (Ne.symm hji)) h3.1 hC' ?_⟩
      rw [Array.setIfInBounds_comm _ _ hji]
      exact h3.2.2

/-- The readers, one behind the other: each yields one value in every world of C. -/
def wpYield (P : Program) (ops : Array Oper) (C : World → Prop) (Q : Act → Prop) : List Oper → Act → Prop
  | [], a => Q a
  | o :: rest, a => if Region.wanted o (yielded ops a.tmps) then ∃ v, (∀ w, C w → (execOp a.eval o).run P w = .ok (.value v) w) ∧ wpYield P ops C Q rest (a.put o.dst v) else wpYield P ops C Q rest (a.put o.dst undef)
theorem wpYield_nil {Q : Act → Prop} {a : Act} (h : Q a) : wpYield P ops C Q [] a := h
theorem wpYield_step {Q : Act → Prop} {a : Act} {o : Oper} {rest : List Oper}
    (h : ∀ K : Act → Prop, (∀ a, wpYield P ops C Q rest a → K a) → if Region.wanted o (yielded ops a.tmps) then ∃ v, (∀ w, C w → (execOp a.eval o).run P w = .ok (.value v) w) ∧ K (a.put o.dst v) else K (a.put o.dst undef)) :
    wpYield P ops C Q (o :: rest) a := h _ (fun _ h => h)

/-- What may still come up ahead of a reader: behind each, C. -/
def wpKeep (P : Program) (ops : Array Oper) (Q : Exit → Act → World → Prop) (C : World → Prop) (fin : Act → World → Prop) : List Oper → Act → World → Prop
  | [], a, w => fin a w
  | o :: rest, a, w =>
    if Region.wanted o (yielded ops a.tmps) then o.wp P a w (fun a' w' => C w' ∧ wpKeep P ops Q C fin rest a' w') Q ∨ (o.asks P a w ∧ LetsOut Q) else C w ∧ wpKeep P ops Q C fin rest (a.put o.dst undef) w
theorem wpKeep_nil {fin : Act → World → Prop} {a : Act} {w : World} (h : fin a w) : wpKeep P ops Q C fin [] a w := h
theorem wpKeep_step {fin : Act → World → Prop} {a : Act} {w : World} {o : Oper} {rest : List Oper} (hg : o.guard = none)
    (h : ∀ K : Act → World → Prop, (∀ a w, (C w ∧ wpKeep P ops Q C fin rest a w) → K a w) → o.wp P a w K Q) : wpKeep P ops Q C fin (o :: rest) a w := by
  unfold wpKeep
  rw [if_pos (by simp [Region.wanted, hg])]
  exact .inl (h _ (fun _ _ h => h))

/-- Does each of these come up alone, one behind the other? -/
def seqIdxB (md : Region.Mode) (ops : Array Oper) : List Nat → Array Bool → Bool
  | [], _ => true
  | i :: tl, listed => decide (Region.ready md ops listed = [i]) && seqIdxB md ops tl (listed.setIfInBounds i true)
def setAll (l : List Nat) (listed : Array Bool) : Array Bool := l.foldl (fun s i => s.setIfInBounds i true) listed
theorem wpAnyN_tail : ∀ (tl : List Nat) (lo : List Oper) (listed : Array Bool) (a : Act) (w : World), (tl.map fun i => ops[i]?) = lo.map some → (∀ i ∈ tl, need i = false) →
    seqIdxB md ops tl listed = true → Region.ready md ops (setAll tl listed) = [] → wpList P ops Q lo a w → wpAnyN P md ops Q C need tl.length listed a w
  | [], lo, listed, a, w, hlo, _, _, hr, h => by
    cases lo with
    | nil => exact ⟨hr, h⟩
    | cons o r => simp at hlo
  | t :: tl, lo, listed, a, w, hlo, hin, hB, hr, h => by
    cases lo with
    | nil => simp at hlo
    | cons o lo =>
      simp only [List.map_cons, List.cons.injEq] at hlo
      obtain ⟨ho, hlo⟩ := hlo
      simp only [seqIdxB, Bool.and_eq_true, decide_eq_true_eq] at hB
      obtain ⟨h1, hB⟩ := hB
      refine ⟨fun h0 => (by rw [h1] at h0; cases h0), fun i hi => ?_⟩
      rw [h1] at hi
      obtain rfl : i = t := by simpa using hi
      have hn := hin i (by simp)
      unfold wpOp
      simp only [ho]
      unfold wpList at h
      split
      · rename_i hw
        rw [if_pos hw] at h
        rcases h with h | h
        · refine .inl (Oper.wp_mono (fun a' w' h' => ?_) h)
          exact ⟨fun e => (by rw [hn] at e; cases e), wpAnyN_tail tl lo _ a' w' hlo (fun q hq => hin q (by simp [hq])) hB hr h'⟩
        · exact .inr h
      · rename_i hw
        rw [if_neg hw] at h
        exact ⟨fun e => (by rw [hn] at e; cases e), wpAnyN_tail tl lo _ _ w hlo (fun q hq => hin q (by simp [hq])) hB hr h⟩
theorem wpAnyN_keep {f : Nat} : ∀ (tl : List Nat) (lo : List Oper) (listed : Array Bool) (a : Act) (w : World), (tl.map fun i => ops[i]?) = lo.map some →
    seqIdxB md ops tl listed = true → wpKeep P ops Q C (fun a' w' => wpAnyN P md ops Q C need f (setAll tl listed) a' w') lo a w → wpAnyN P md ops Q C need (tl.length + f) listed a w
  | [], lo, listed, a, w, hlo, _, h => by
    cases lo with
    | nil => rw [List.length_nil, Nat.zero_add]; exact h
    | cons o r => simp at hlo
  | t :: tl, lo, listed, a, w, hlo, hB, h => by
    cases lo with
    | nil => simp at hlo
    | cons o lo =>
      simp only [List.map_cons, List.cons.injEq] at hlo
      obtain ⟨ho, hlo⟩ := hlo
      simp only [seqIdxB, Bool.and_eq_true, decide_eq_true_eq] at hB
      obtain ⟨h1, hB⟩ := hB
      rw [show (t :: tl).length + f = (tl.length + f) + 1 by simp only [List.length_cons]; omega]
      refine ⟨fun h0 => (by rw [h1] at h0; cases h0), fun i hi => ?_⟩
      rw [h1] at hi
      obtain rfl : i = t := by simpa using hi
      unfold wpOp
      simp only [ho]
      unfold wpKeep at h
      split
      · rename_i hw
        rw [if_pos hw] at h
        rcases h with h | h
        · refine .inl (Oper.wp_mono (fun a' w' h' => ?_) h)
          exact ⟨fun _ => h'.1, wpAnyN_keep tl lo _ a' w' hlo hB h'.2⟩
        · exact .inr h
      · rename_i hw
        rw [if_neg hw] at h
        exact ⟨fun _ => h.1, wpAnyN_keep tl lo _ _ w hlo hB h.2⟩
/-- May each of these be taken first, one behind the other? 'early': what may come up ahead of a reader. -/
def headIdxB (md : Region.Mode) (ops : Array Oper) (need : Nat → Bool) : List Nat → Array Bool → Bool
  | [], _ => true
  | i :: tl, listed => (Region.ready md ops listed).contains i && Region.free md ops listed i && (List.range ops.size).all (fun j => j == i || need j || Region.waitsFor md ops j i) && headIdxB md ops need tl (listed.setIfInBounds i true)
theorem wpAnyN_heads {f : Nat} {w : World} {R : Act → Prop} (hsel : Region.noSelect ops = true) (hC : C w) (hQ : ∀ c a d v w, Q (.panic c) (a.put d v) w → Q (.panic c) a w) : ∀ (hd : List Nat) (lo : List Oper) (listed : Array Bool) (a : Act), (hd.map fun i => ops[i]?) = lo.map some →
    headIdxB md ops need hd listed = true → (∀ a', R a' → wpAnyN P md ops Q C need f (setAll hd listed) a' w) → wpYield P ops C R lo a → wpAnyN P md ops Q C need (hd.length + f) listed a w
  | [], lo, listed, a, hlo, _, hR, h => by
    cases lo with
    | nil => rw [List.length_nil, Nat.zero_add]; exact hR _ h
    | cons o r => simp at hlo
  | t :: tl, lo, listed, a, hlo, hB, hR, h => by
    cases lo with
    | nil => simp at hlo
    | cons o lo =>
      simp only [List.map_cons, List.cons.injEq] at hlo
      obtain ⟨ho, hlo⟩ := hlo
      simp only [headIdxB, Bool.and_eq_true] at hB
      obtain ⟨⟨⟨hr, hf⟩, hn⟩, hB⟩ := hB
      rw [show (t :: tl).length + f = (tl.length + f) + 1 by simp only [List.length_cons]; omega]
      have hneed : ∀ j oj, ops[j]? = some oj → j ≠ t → (∀ e ∈ oj.after, Region.binds md e = true → e.on ≠ t) → need j = true := fun j oj hj hne hno => by
        have h1 := List.all_eq_true.1 hn j (List.mem_range.2 (Array.getElem?_eq_some_iff.1 hj).1)
        simp only [Bool.or_eq_true, beq_iff_eq] at h1
        rcases h1 with (h1 | h1) | h1
        · exact absurd h1 hne
        · exact h1
        · obtain ⟨oj', hj', e, he, hb, hon⟩ := Region.waitsFor_spec h1
          have : oj' = oj := Option.some.inj (hj'.symm.trans hj)
          subst this
          exact absurd hon (hno e he hb)
      unfold wpYield at h
      split at h
      · rename_i hw
        obtain ⟨v, hv, h⟩ := h
        exact wpAnyN_first ho (Region.noSelect_spec hsel) (fun c a w => hQ c a o.dst v w) hneed _ listed a w (Region.free_spec ho hf) (by simpa using hr) (.inl ⟨hw, hv⟩) hC
          (wpAnyN_heads hsel hC hQ tl lo _ _ hlo hB hR h)
      · rename_i hw
        exact wpAnyN_first ho (Region.noSelect_spec hsel) (fun c a w => hQ c a o.dst undef w) hneed _ listed a w (Region.free_spec ho hf) (by simpa using hr) (.inr ⟨by simpa using hw, rfl⟩) hC
          (wpAnyN_heads hsel hC hQ tl lo _ _ hlo hB hR h)
/-- All that is asked of the region's text: hd: the readers; mid: what may come up ahead of one, in its order; tl: what waits for all readers, in its order. -/
def mixB (ops : Array Oper) (hd mid tl : List Nat) : Bool :=
  Region.noSelect ops && headIdxB .any ops (fun j => !tl.contains j) hd (Array.replicate ops.size false) &&
  seqIdxB .any ops mid (setAll hd (Array.replicate ops.size false)) && seqIdxB .any ops tl (setAll mid (setAll hd (Array.replicate ops.size false))) &&
  (Region.ready .any ops (setAll tl (setAll mid (setAll hd (Array.replicate ops.size false))))).isEmpty && decide (hd.length + (mid.length + tl.length) = ops.size)
end
def pickOps (l : List Oper) (is : List Nat) : List Oper := is.map fun i => l.getD i default
theorem pickOps_eq (l : List Oper) : ∀ (is : List Nat), (is.all fun i => decide (i < l.length)) = true → (is.map fun i => l.toArray[i]?) = (pickOps l is).map some
  | [], _ => rfl
  | i :: is, h => by
    simp only [List.all_cons, Bool.and_eq_true, decide_eq_true_eq] at h
    have ih := pickOps_eq l is h.2
    simp only [pickOps, List.map_cons] at *
    rw [ih]
    congr 1
    simp [List.getD_eq_getElem?_getD, h.1]
/-- **A region that draws its order: readers, then the rest in its forced order.** C is asked of the world at hand, and behind each operation of mid. -/
theorem wp_region_mix {P : Program} {id : Nat} {Q : Exit → Act → World → Prop} {a : Act} {w : World} {l : List Oper} (C : World → Prop) (hd mid tl : List Nat)
    (hm : P.follows .mixedOrders = true) (hB : (mixB l.toArray hd mid tl && hd.all (fun i => decide (i < l.length)) && mid.all (fun i => decide (i < l.length)) && tl.all (fun i => decide (i < l.length))) = true)
    (hQ0 : ∀ (c : List PanicEntry) (a : Act) (n : Nat) (v : Value) (w : World), Q (.panic c) { a with tmps := a.tmps.setIfInBounds n v } w → Q (.panic c) a w) (hC : C (w.drewN 1))
    (h : wpYield P l.toArray C (fun a' => wpKeep P l.toArray Q C (fun a'' w'' => wpList P l.toArray Q (pickOps l tl) a'' w'') (pickOps l mid) a' (w.drewN 1)) (pickOps l hd) a) : (Code.region id l.toArray true).wp P Q a w := by
  simp only [Bool.and_eq_true] at hB
  obtain ⟨⟨⟨hB, z1⟩, z2⟩, z3⟩ := hB
  have h1 := pickOps_eq l hd z1
  have h2 := pickOps_eq l mid z2
  have h3 := pickOps_eq l tl z3
  generalize pickOps l hd = ho at *
  generalize pickOps l mid = mo at *
  generalize pickOps l tl = to' at *
  have hQ : ∀ (c : List PanicEntry) (a : Act) (d : Option Tmp) (v : Value) (w : World), Q (.panic c) (a.put d v) w → Q (.panic c) a w := fun c a d v w hq => by
    cases d with
    | none => exact hq
    | some n => exact hQ0 c a n v w hq
  simp only [mixB, Bool.and_eq_true, decide_eq_true_eq, List.isEmpty_iff] at hB
  obtain ⟨⟨⟨⟨⟨b1, b2⟩, b3⟩, b4⟩, b5⟩, b6⟩ := hB
  have mono : ∀ (lo : List Oper) (a : Act) (w : World), wpKeep P l.toArray Q C (fun a'' w'' => wpList P l.toArray Q to' a'' w'') lo a w →
      wpKeep P l.toArray Q C (fun a'' w'' => wpAnyN P .any l.toArray Q C (fun j => !tl.contains j) tl.length (setAll mid (setAll hd (Array.replicate l.toArray.size false))) a'' w'') lo a w := by
    clear h
    intro lo
    induction lo with
    | nil => intro a w h; exact wpAnyN_tail tl to' _ a w h3 (fun i hi => by simpa using hi) b4 b5 h
    | cons o lo ih =>
      intro a w h
      unfold wpKeep at h ⊢
      split
      · rename_i hw
        rw [if_pos hw] at h
        rcases h with h | h
        · exact .inl (Oper.wp_mono (fun a' w' h' => ⟨h'.1, ih a' w' h'.2⟩) h)
        · exact .inr h
      · rename_i hw
        rw [if_neg hw] at h
        exact ⟨h.1, ih _ _ h.2⟩
  have H : wpAnyN P .any l.toArray Q C (fun j => !tl.contains j) (hd.length + (mid.length + tl.length)) (Array.replicate l.toArray.size false) a (w.drewN 1) :=
    wpAnyN_heads b1 hC hQ hd ho _ a h1 b2 (fun a' ha' => wpAnyN_keep mid mo _ a' _ h2 b3 (mono mo a' _ ha')) h
  rw [b6] at H
  exact wp_region_any hm (wpAny_of_N _ _ _ _ H)
/-- A class of worlds, said so that the walk's rewriting sees what is known of each. -/
def Cls (S : World → Prop) (w : World) : Prop := ∃ x : { w : World // S w }, w = x.1
theorem Cls.mk {S : World → Prop} {w : World} (h : S w) : Cls S w := ⟨⟨w, h⟩, rfl⟩
theorem Cls.out {S : World → Prop} {w : World} (h : Cls S w) : S w := by obtain ⟨x, rfl⟩ := h; exact x.2
theorem Cls.all {S : World → Prop} {w : World} (h : S w) (p : Prop) : (∀ _ : { w : World // S w }, p) ↔ p := ⟨fun k => k ⟨w, h⟩, fun k _ => k⟩
theorem wpYield_stepS {P : Program} {ops : Array Oper} {S : World → Prop} {Q : Act → Prop} {a : Act} {o : Oper} {rest : List Oper}
    (h : ∀ K : Act → Prop, (∀ a, wpYield P ops (Cls S) Q rest a → K a) → if Region.wanted o (yielded ops a.tmps) then ∃ v, (∀ x : { w : World // S w }, (execOp a.eval o).run P x.1 = .ok (.value v) x.1) ∧ K (a.put o.dst v) else K (a.put o.dst undef)) :
    wpYield P ops (Cls S) Q (o :: rest) a := wpYield_step fun K hK => by
  have := h K hK
  split
  · rename_i hw
    rw [if_pos hw] at this
    obtain ⟨v, hv, hk⟩ := this
    exact ⟨v, fun w ⟨x, hx⟩ => by subst hx; exact hv x, hk⟩
  · rename_i hw
    rw [if_neg hw] at this
    exact this
end Go.Proofs.Yteghenfdncgpeaa
