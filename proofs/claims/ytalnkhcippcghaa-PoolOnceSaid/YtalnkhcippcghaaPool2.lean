/-
  Contracts of package pool: at, Local, Lists, Flushed, Reset, give, fresh; what a call leaves beside the pool. Conditions: none beyond what each theorem names.
-/
import Derived.Test.YtalnkhcippcghaaPool
namespace Go.Proofs.Ytalnkhcippcghaa
open Go.RowKit
/-- A block of one of the pool's types. -/
def PT (w : World) (k : Nat) : Prop := ∃ cs t, Blk w k cs t ∧ (t = 81 ∨ t = 82 ∨ t = 23 ∨ t = 84 ∨ t = 71)
/-- Only blocks of the pool's types from B on have turned; new ones may have come. -/
def Fr (B : Nat) (w w' : World) : Prop := ∃ S, Ch S w w' ∧ ∀ k ∈ S, B ≤ k ∧ PT w k
section
variable {w w1 w2 : World} {B : Nat}
theorem Fr.refl (B : Nat) (w : World) : Fr B w w := ⟨[], Ch.refl _ _, by simp⟩
theorem Fr.still (h : Ch [] w w1) : Fr B w w1 := ⟨[], h, by simp⟩
theorem Fr.trans (h : Fr B w w1) (k : Fr B w1 w2) : Fr B w w2 := by
  obtain ⟨S1, c1, h1⟩ := h
  obtain ⟨S2, c2, h2⟩ := k
  refine ⟨S1 ++ S2.filter (fun i => decide (i < w.heap.size) && !S1.contains i), (c1.mono (fun i hi => .inl (List.mem_append_left _ hi))).transT c2 (fun i hi => ?_), fun i hi => ?_⟩
  · by_cases hl : i < w.heap.size
    · by_cases hS : i ∈ S1
      · exact .inl (List.mem_append_left _ hS)
      · refine .inl (List.mem_append_right _ (List.mem_filter.2 ⟨hi, ?_⟩))
        simp [hl, hS]
    · exact .inr (by omega)
  · rcases List.mem_append.1 hi with hi | hi
    · exact h1 i hi
    · obtain ⟨hi, hd⟩ := List.mem_filter.1 hi
      simp only [Bool.and_eq_true, decide_eq_true_eq, Bool.not_eq_true', List.contains_eq_mem] at hd
      have hS : i ∉ S1 := by simpa using hd.2
      obtain ⟨hB, cs, t, hb, ht⟩ := h2 i hi
      refine ⟨hB, cs, t, ?_, ht⟩
      have e := c1.block i hd.1 hS
      unfold Blk at hb ⊢
      rw [← e]
      exact hb
theorem Fr.ch (h : Fr B w w1) (hB : w.heap.size ≤ B) : Ch [] w w1 := by
  obtain ⟨S, c, hs⟩ := h
  refine c.mono (fun k hk => ?_)
  obtain ⟨hb, cs, t, hb2, _⟩ := hs k hk
  have := hb2.lt
  omega
theorem Fr.chB {w0 : World} (hc : Ch [] w0 w) (h : Fr w0.heap.size w w1) : Ch [] w0 w1 := by
  obtain ⟨S, c, hs⟩ := h
  exact hc.transT c (fun k hk => .inr (hs k hk).1)
theorem Fr.blk (h : Fr B w w1) {q : Nat} {cs : Array Value} {t : TypeId} (hq : Blk w q cs t) (ht : t = 4) : Blk w1 q cs t := by
  obtain ⟨S, c, hs⟩ := h
  refine hq.keep c (fun hk => ?_)
  obtain ⟨_, cs', t', hb, h5⟩ := hs q hk
  refine hq.ne hb ?_ rfl
  rw [ht]
  rcases h5 with rfl | rfl | rfl | rfl | rfl <;> decide
theorem Fr.one {k : Nat} (hc : Ch [k] w w1) (hk : B ≤ k) (ht : PT w k) : Fr B w w1 := ⟨[k], hc, by intro i hi; simp at hi; subst hi; exact ⟨hk, ht⟩⟩
end
/-- The pool's blocks are from B on. -/
structure PB (B p : Nat) (vs vf ve : Value) (X : List Nat) (O T : Nat → Nat) (F E : List Nat) : Prop where
  p : B ≤ p
  x : ∀ x ∈ X, B ≤ x
  o : ∀ i, i < X.length → B ≤ O i
  t : ∀ i, i < X.length → B ≤ T i
  f : ∀ b ∈ F, B ≤ b
  e : ∀ b ∈ E, B ≤ b
  vs : ∀ k, vs.ownBlock = some k → B ≤ k
  vf : ∀ k, vf.ownBlock = some k → B ≤ k
  ve : ∀ k, ve.ownBlock = some k → B ≤ k
section
variable {w w2 : World} {B p : Nat} {vs vf ve : Value} {X F E : List Nat} {O T : Nat → Nat} {Fl : Nat → Bool} {C : Nat → List Int} {S : List Nat}
theorem PtS.form {e : TypeId} {v : Value} {ns : List Nat} (h : PtS w e v ns) : ∃ a cap, v = .slice a ns.length cap ∧ ns.length ≤ cap ∧ cap ≤ maxLen ∧ ∀ i b, ns[i]? = some b → ∃ g o, a = some ⟨g, o, none⟩ ∧ w.cell? ⟨g, o + i, none⟩ = some (ptrV b) := by
  by_cases hn : 0 < ns.length
  · obtain ⟨g, off, cap, rfl, h1, h2, h3, _⟩ := Own.cellsOf h hn
    refine ⟨_, cap, rfl, h1, h2, fun i b hb => ⟨g, off, rfl, h3 i _ (by simp [hb])⟩⟩
  · obtain ⟨a, cap, rfl, h1, _⟩ := Own.form h
    have h0 : ns = [] := List.eq_nil_of_length_eq_zero (by omega)
    subst h0
    refine ⟨a, cap, rfl, h1, ?_, fun i b hb => by simp at hb⟩
    rcases h.2 with ⟨hv, _⟩ | ⟨g, off, cap', cur, hv, _, _, h2, _⟩
    · cases hv; unfold maxLen; omega
    · cases hv; exact h2
theorem atNil (i : Int) (w : World) : Calls Try.prog 48 #[.pointer none, .int .i64 i] w fun e w' => e = .returned (.pointer none) ∧ w' = w := by
  go_enter Try.func48, Try.ntmps48
  go_wp2
  go_ret
  exact ⟨rfl, rfl⟩
theorem atIn (i x : Nat) (h : PoolAt w p vs vf ve X O T Fl F E C) (hx : X[i]? = some x) : Calls Try.prog 48 #[.pointer (some ⟨p, 0, none⟩), .int .i64 i] w fun e w' => e = .returned (ptrV x) ∧ w' = w := by
  have c0 := h.top.cell 0
  obtain ⟨a, cap, rfl, z1, z2, hc⟩ := h.ps.form
  obtain ⟨g, o, rfl, d1⟩ := hc i x hx
  have hi := (List.getElem?_eq_some_iff.1 hx).1
  obtain ⟨n, hn⟩ : ∃ n, X.length = n := ⟨_, rfl⟩
  rw [hn] at c0 hi
  have t1 : decide ((i : Int) < 0) = false := decide_eq_false (by omega)
  have t2 : decide ((i : Int) ≥ n) = false := decide_eq_false (by omega)
  have t1n : ¬ (i : Int) < 0 := by omega
  have t2n : ¬ (n : Int) ≤ i := by omega
  unfold ptrV at d1 ⊢
  clear hc hn z1 z2 h hx
  go_enter Try.func48, Try.ntmps48
  go_wp2_with fail
  go_ret
  exact ⟨rfl, rfl⟩
end
end Go.Proofs.Ytalnkhcippcghaa
