/-
  A law on regions that draw their order, by a plan: at each point either an operation that touches no memory is taken first, or one that only reads (under a class of worlds), or all that may come up are shown, each with a plan of its own. Conditions: the class holds behind every operation of the third kind that may come up ahead of a reader ('need').
-/
import Derived.Test.YteghenfdncgpeaaMix2
namespace Go.Proofs.Yteghenfdncgpeaa
inductive Plan where
  | done : Plan
  | pure : Nat → Plan → Plan
  | read : Nat → Plan → Plan
  | alt : Nat → Plan → Plan → Plan
def Plan.heads : Plan → List Nat
  | .alt i _ r => i :: r.heads
  | _ => []
def Plan.depth : Plan → Nat
  | .done => 0
  | .pure _ p => p.depth + 1
  | .read _ p => p.depth + 1
  | .alt _ p r => max (p.depth + 1) r.depth
/-- Those of a list, one behind the other. -/
def Plan.pures (l : List Nat) (p : Plan) : Plan := l.foldr .pure p
def Plan.reads (l : List Nat) (p : Plan) : Plan := l.foldr .read p
def Plan.only (i : Nat) (p : Plan) : Plan := .alt i p .done
section
variable {P : Program} {ops : Array Oper} {Q : Exit → Act → World → Prop} {md : Region.Mode} {C : World → Prop} {need : Nat → Bool}
def Plan.chk (md : Region.Mode) (ops : Array Oper) (need : Nat → Bool) : Bool → Plan → Array Bool → Bool
  | true, .done, l => (Region.ready md ops l).isEmpty
  | false, .done, _ => true
  | top, .pure i p, l => top && (Region.ready md ops l).contains i && Region.free md ops l i && !need i && p.chk md ops need true (l.setIfInBounds i true)
  | top, .read i p, l => top && (Region.ready md ops l).contains i && Region.free md ops l i && (List.range ops.size).all (fun j => j == i || l.getD j true || need j || Region.waitsFor md ops j i) && p.chk md ops need true (l.setIfInBounds i true)
  | top, .alt i p r, l => (!top || decide (Region.ready md ops l = i :: r.heads)) && p.chk md ops need true (l.setIfInBounds i true) && r.chk md ops need false l
def wpPlan (P : Program) (ops : Array Oper) (Q : Exit → Act → World → Prop) (C : World → Prop) (need : Nat → Bool) (at_ : Nat → Oper) : Bool → Plan → Act → World → Prop
  | true, .done, a, w => Q .normal a w
  | false, .done, _, _ => True
  | _, .pure i p, a, w => if Region.wanted (at_ i) (yielded ops a.tmps) then ∃ v, (∀ w, (execOp a.eval (at_ i)).run P w = .ok (.value v) w) ∧ wpPlan P ops Q C need at_ true p (a.put (at_ i).dst v) w else wpPlan P ops Q C need at_ true p (a.put (at_ i).dst undef) w
  | _, .read i p, a, w => C w ∧ if Region.wanted (at_ i) (yielded ops a.tmps) then ∃ v, (∀ w, C w → (execOp a.eval (at_ i)).run P w = .ok (.value v) w) ∧ wpPlan P ops Q C need at_ true p (a.put (at_ i).dst v) w else wpPlan P ops Q C need at_ true p (a.put (at_ i).dst undef) w
  | _, .alt i p r, a, w => (if Region.wanted (at_ i) (yielded ops a.tmps) then (at_ i).wp P a w (fun a' w' => (need i = true → C w') ∧ wpPlan P ops Q C need at_ true p a' w') Q else (need i = true → C w) ∧ wpPlan P ops Q C need at_ true p (a.put (at_ i).dst undef) w) ∧ wpPlan P ops Q C need at_ false r a w
theorem wpPlan_alt_eq {at_ : Nat → Oper} (top : Bool) (i : Nat) (p r : Plan) (a : Act) (w : World) : wpPlan P ops Q C need at_ top (.alt i p r) a w = ((if Region.wanted (at_ i) (yielded ops a.tmps) then (at_ i).wp P a w (fun a' w' => (need i = true → C w') ∧ wpPlan P ops Q C need at_ true p a' w') Q else (need i = true → C w) ∧ wpPlan P ops Q C need at_ true p (a.put (at_ i).dst undef) w) ∧ wpPlan P ops Q C need at_ false r a w) := by
  cases top <;> rfl
theorem wpPlan_sound {at_ : Nat → Oper} (hsel : Region.noSelect ops = true) (hQ : ∀ c a d v w, Q (.panic c) (a.put d v) w → Q (.panic c) a w) (hall : ∀ i, ops[i]? = some (at_ i) ∨ ops[i]? = none) : ∀ (p : Plan) (top : Bool) (n : Nat) (listed : Array Bool) (a : Act) (w : World), p.depth ≤ n →
    p.chk md ops need top listed = true → wpPlan P ops Q C need at_ top p a w →
    (top = true → wpAnyN P md ops Q C need n listed a w) ∧ (top = false → ∀ i ∈ p.heads, i ∈ Region.ready md ops listed → wpOp P ops Q i (fun a' w' => (need i = true → C w') ∧ wpAnyN P md ops Q C need (n - 1) (listed.setIfInBounds i true) a' w') a w)
  | .done, top, n, listed, a, w, hd, hc, h => by
    refine ⟨fun ht => ?_, fun _ i hi => by simp [Plan.heads] at hi⟩
    subst ht
    simp only [Plan.chk, List.isEmpty_iff] at hc
    cases n with
    | zero => exact ⟨hc, h⟩
    | succ m => exact ⟨fun _ => h, fun i hi => by rw [hc] at hi; cases hi⟩
  | .pure i p, top, n, listed, a, w, hd, hc, h => by
    refine ⟨fun ht => ?_, fun _ j hj => by simp [Plan.heads] at hj⟩
    subst ht
    simp only [Plan.chk, Bool.and_eq_true, Bool.not_eq_true', Bool.true_and] at hc
    obtain ⟨⟨⟨hr, hf⟩, hn⟩, hc⟩ := hc
    simp only [Plan.depth] at hd
    obtain ⟨m, rfl⟩ : ∃ m, n = m + 1 := ⟨n - 1, by omega⟩
    have ho : ops[i]? = some (at_ i) := by
      rcases hall i with h | h
      · exact h
      · obtain ⟨_, o, ho', _⟩ := mem_ready.1 (show i ∈ Region.ready md ops listed by simpa using hr)
        rw [h] at ho'
        cases ho'
    unfold wpPlan at h
    split at h
    · rename_i hw
      obtain ⟨v, hv, h⟩ := h
      exact wpAnyN_firstP ho (Region.noSelect_spec hsel) (fun c a w => hQ c a (at_ i).dst v w) hn m listed a w (Region.free_spec ho hf) (by simpa using hr) (.inl ⟨hw, fun w _ => hv w⟩)
        ((wpPlan_sound hsel hQ hall p true m _ _ w (by omega) hc h).1 rfl)
    · rename_i hw
      exact wpAnyN_firstP ho (Region.noSelect_spec hsel) (fun c a w => hQ c a (at_ i).dst undef w) hn m listed a w (Region.free_spec ho hf) (by simpa using hr) (.inr ⟨by simpa using hw, rfl⟩)
        ((wpPlan_sound hsel hQ hall p true m _ _ w (by omega) hc h).1 rfl)
  | .read i p, top, n, listed, a, w, hd, hc, h => by
    refine ⟨fun ht => ?_, fun _ j hj => by simp [Plan.heads] at hj⟩
    subst ht
    simp only [Plan.chk, Bool.and_eq_true, Bool.true_and] at hc
    obtain ⟨⟨⟨hr, hf⟩, hn⟩, hc⟩ := hc
    simp only [Plan.depth] at hd
    obtain ⟨m, rfl⟩ : ∃ m, n = m + 1 := ⟨n - 1, by omega⟩
    have ho : ops[i]? = some (at_ i) := by
      rcases hall i with h | h
      · exact h
      · obtain ⟨_, o, ho', _⟩ := mem_ready.1 (show i ∈ Region.ready md ops listed by simpa using hr)
        rw [h] at ho'
        cases ho'
    obtain ⟨hp, hhp⟩ : ∃ hp : List Nat, ∀ j, j ∈ hp ↔ j < ops.size ∧ listed.getD j true = true := ⟨(List.range ops.size).filter fun j => listed.getD j true, fun j => by simp⟩
    have hneed : ∀ j oj, ops[j]? = some oj → j ≠ i → j ∉ hp → (∀ e ∈ oj.after, Region.binds md e = true → e.on ≠ i) → need j = true := fun j oj hj hne hjp hno => by
      have hjs := (Array.getElem?_eq_some_iff.1 hj).1
      have h1 := List.all_eq_true.1 hn j (List.mem_range.2 hjs)
      simp only [Bool.or_eq_true, beq_iff_eq] at h1
      rcases h1 with ((h1 | h1) | h1) | h1
      · exact absurd h1 hne
      · exact absurd ((hhp j).2 ⟨hjs, h1⟩) hjp
      · exact h1
      · obtain ⟨oj', hj', e, he, hb, hon⟩ := Region.waitsFor_spec h1
        have : oj' = oj := Option.some.inj (hj'.symm.trans hj)
        subst this
        exact absurd hon (hno e he hb)
    unfold wpPlan at h
    obtain ⟨hC, h⟩ := h
    split at h
    · rename_i hw
      obtain ⟨v, hv, h⟩ := h
      exact wpAnyN_firstL (hp := hp) ho (Region.noSelect_spec hsel) (fun c a w => hQ c a (at_ i).dst v w) hneed m listed a w (fun j hj => ((hhp j).1 hj).2) (Region.free_spec ho hf) (by simpa using hr) (.inl ⟨hw, hv⟩) hC
        ((wpPlan_sound hsel hQ hall p true m _ _ w (by omega) hc h).1 rfl)
    · rename_i hw
      exact wpAnyN_firstL (hp := hp) ho (Region.noSelect_spec hsel) (fun c a w => hQ c a (at_ i).dst undef w) hneed m listed a w (fun j hj => ((hhp j).1 hj).2) (Region.free_spec ho hf) (by simpa using hr) (.inr ⟨by simpa using hw, rfl⟩) hC
        ((wpPlan_sound hsel hQ hall p true m _ _ w (by omega) hc h).1 rfl)
  | .alt i p r, top, n, listed, a, w, hd, hc, h => by
    simp only [Plan.chk, Bool.and_eq_true] at hc
    obtain ⟨⟨hc1, hc2⟩, hc3⟩ := hc
    simp only [Plan.depth] at hd
    rw [wpPlan_alt_eq] at h
    obtain ⟨h1, h2⟩ := h
    have key : ∀ k ∈ i :: r.heads, k ∈ Region.ready md ops listed → wpOp P ops Q k (fun a' w' => (need k = true → C w') ∧ wpAnyN P md ops Q C need (n - 1) (listed.setIfInBounds k true) a' w') a w := by
      intro k hk hkr
      by_cases hki : k = i
      · subst hki
        have ho : ops[k]? = some (at_ k) := by
          rcases hall k with h | h
          · exact h
          · obtain ⟨_, o, ho', _⟩ := mem_ready.1 hkr
            rw [h] at ho'
            cases ho'
        unfold wpOp
        simp only [ho]
        split
        · rename_i hw
          rw [if_pos hw] at h1
          exact .inl (Oper.wp_mono (fun a' w' h' => ⟨h'.1, (wpPlan_sound hsel hQ hall p true (n - 1) _ _ _ (by omega) hc2 h'.2).1 rfl⟩) h1)
        · rename_i hw
          rw [if_neg hw] at h1
          exact ⟨h1.1, (wpPlan_sound hsel hQ hall p true (n - 1) _ _ _ (by omega) hc2 h1.2).1 rfl⟩
      · exact (wpPlan_sound hsel hQ hall r false n listed a w (by omega) hc3 h2).2 rfl k (by rcases List.mem_cons.1 hk with h | h; exact absurd h hki; exact h) hkr
    refine ⟨fun ht => ?_, fun _ => key⟩
    subst ht
    simp only [Bool.not_true, Bool.false_or, decide_eq_true_eq] at hc1
    obtain ⟨m, rfl⟩ : ∃ m, n = m + 1 := ⟨n - 1, by omega⟩
    refine ⟨fun h0 => (by rw [hc1] at h0; cases h0), fun k hk => ?_⟩
    exact key k (by rw [← hc1]; exact hk) hk
end
section
variable {P : Program} {ops : Array Oper} {Q : Exit → Act → World → Prop} {C : World → Prop} {need : Nat → Bool} {at_ : Nat → Oper} {i : Nat} {p r : Plan} {a : Act} {w : World}
theorem wpPlan_done (h : Q .normal a w) : wpPlan P ops Q C need at_ true .done a w := by unfold wpPlan; exact h
theorem wpPlan_pure (h : ∀ K : Act → Prop, (∀ a, wpPlan P ops Q C need at_ true p a w → K a) → if Region.wanted (at_ i) (yielded ops a.tmps) then ∃ v, (∀ w, (execOp a.eval (at_ i)).run P w = .ok (.value v) w) ∧ K (a.put (at_ i).dst v) else K (a.put (at_ i).dst undef)) :
    wpPlan P ops Q C need at_ true (.pure i p) a w := by
  unfold wpPlan
  exact h _ fun _ h => h
theorem wpPlan_readS {S : World → Prop} (hC : S w) (h : ∀ K : Act → Prop, (∀ a, wpPlan P ops Q (Cls S) need at_ true p a w → K a) → if Region.wanted (at_ i) (yielded ops a.tmps) then ∃ v, (∀ x : { w : World // S w }, (execOp a.eval (at_ i)).run P x.1 = .ok (.value v) x.1) ∧ K (a.put (at_ i).dst v) else K (a.put (at_ i).dst undef)) :
    wpPlan P ops Q (Cls S) need at_ true (.read i p) a w := by
  unfold wpPlan
  refine ⟨Cls.mk hC, ?_⟩
  have := h _ fun _ h => h
  split
  · rename_i hw
    rw [if_pos hw] at this
    obtain ⟨v, hv, hk⟩ := this
    exact ⟨v, fun w hw => by obtain ⟨x, rfl⟩ := hw; exact hv x, hk⟩
  · rename_i hw
    rw [if_neg hw] at this
    exact this
/-- One that comes up alone. 'C' is asked behind it, if it may come up ahead of a reader. -/
theorem wpPlan_only {top : Bool} (h : ∀ K : Act → World → Prop, (∀ a w, (need i = true → C w) → wpPlan P ops Q C need at_ true p a w → K a w) → if Region.wanted (at_ i) (yielded ops a.tmps) then (at_ i).wp P a w K Q else K (a.put (at_ i).dst undef) w) :
    wpPlan P ops Q C need at_ top (.alt i p .done) a w := by
  rw [wpPlan_alt_eq]
  refine ⟨?_, by simp [wpPlan]⟩
  have := h (fun a' w' => (need i = true → C w') ∧ wpPlan P ops Q C need at_ true p a' w') fun _ _ h h' => ⟨h, h'⟩
  exact this
theorem wpPlan_alt {top : Bool} (h : ∀ K : Act → World → Prop, (∀ a w, (need i = true → C w) → wpPlan P ops Q C need at_ true p a w → K a w) → if Region.wanted (at_ i) (yielded ops a.tmps) then (at_ i).wp P a w K Q else K (a.put (at_ i).dst undef) w)
    (hr : wpPlan P ops Q C need at_ false r a w) :
    wpPlan P ops Q C need at_ top (.alt i p r) a w := by
  rw [wpPlan_alt_eq]
  exact ⟨h (fun a' w' => (need i = true → C w') ∧ wpPlan P ops Q C need at_ true p a' w') fun _ _ h h' => ⟨h, h'⟩, hr⟩
theorem wpPlan_onlyU {top : Bool} (hg : (at_ i).guard = none) (h : ∀ K : Act → World → Prop, (∀ a w, (need i = true → C w) → wpPlan P ops Q C need at_ true p a w → K a w) → (at_ i).wp P a w K Q) :
    wpPlan P ops Q C need at_ top (.alt i p .done) a w := wpPlan_only fun K hK => by rw [if_pos (by simp [Region.wanted, hg])]; exact h K hK
theorem wpPlan_altU {top : Bool} (hg : (at_ i).guard = none) (h : ∀ K : Act → World → Prop, (∀ a w, (need i = true → C w) → wpPlan P ops Q C need at_ true p a w → K a w) → (at_ i).wp P a w K Q)
    (hr : wpPlan P ops Q C need at_ false r a w) : wpPlan P ops Q C need at_ top (.alt i p r) a w := wpPlan_alt (fun K hK => by rw [if_pos (by simp [Region.wanted, hg])]; exact h K hK) hr
end
/-- **A region that draws its order, by a plan.** -/
theorem wp_region_plan {P : Program} {id : Nat} {Q : Exit → Act → World → Prop} {a : Act} {w : World} {l : List Oper} (C : World → Prop) (nd : List Nat) (p : Plan)
    (hm : P.follows .mixedOrders = true) (hB : (Region.noSelect l.toArray && p.chk .any l.toArray (fun j => nd.contains j) true (Array.replicate l.length false) && decide (p.depth = l.length)) = true)
    (hQ0 : ∀ (c : List PanicEntry) (a : Act) (n : Nat) (v : Value) (w : World), Q (.panic c) { a with tmps := a.tmps.setIfInBounds n v } w → Q (.panic c) a w)
    (h : wpPlan P l.toArray Q C (fun j => nd.contains j) (fun i => l.getD i default) true p a (w.drewN 1)) : (Code.region id l.toArray true).wp P Q a w := by
  simp only [Bool.and_eq_true, decide_eq_true_eq] at hB
  obtain ⟨⟨b1, b2⟩, b3⟩ := hB
  have hQ : ∀ (c : List PanicEntry) (a : Act) (d : Option Tmp) (v : Value) (w : World), Q (.panic c) (a.put d v) w → Q (.panic c) a w := fun c a d v w hq => by
    cases d with
    | none => exact hq
    | some n => exact hQ0 c a n v w hq
  have hall : ∀ i, l.toArray[i]? = some (l.getD i default) ∨ l.toArray[i]? = none := fun i => by
    by_cases hi : i < l.length
    · left; simp [List.getD_eq_getElem?_getD, hi]
    · right; simp [hi]
  have H := (wpPlan_sound b1 hQ hall p true l.length (Array.replicate l.length false) a (w.drewN 1) (by omega) b2 h).1 rfl
  exact wp_region_any hm (wpAny_of_N _ _ _ _ (by rw [show l.toArray.size = l.length from rfl]; exact H))
end Go.Proofs.Yteghenfdncgpeaa
