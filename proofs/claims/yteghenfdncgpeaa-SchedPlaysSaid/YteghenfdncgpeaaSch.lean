/-
  A scheduler of package sched in memory: each P's ring, the common queue. Conditions: none beyond what each theorem names.
-/
import Derived.Test.YteghenfdncgpeaaPts
import Derived.Test.YteghenfdncgpeaaRingAny
import Derived.Test.YteghenfdncgpeaaQueueTold
import Derived.Test.YteghenfdncgpeaaContains
namespace Go.Proofs.Yteghenfdncgpeaa
open Go.RowKit
/-- A scheduler's state: of each P's ring who is next, whether there is one, the row; who is in common. -/
structure SSt where
  nx : Nat → Int
  hs : Nat → Bool
  row : Nat → List Int
  com : List Int
/-- The blocks s (the scheduler), c (the queue), X (the rings), the arrays of vs and v hold that. -/
structure SchedAt (w : World) (s c : Nat) (vs v : Value) (X : List Nat) (st : SSt) : Prop where
  top : Blk w s #[vs, ptrV c] 93
  rs : PtS w 22 vs X
  ring : ∀ i x, X[i]? = some x → RingAt w x (st.nx i) (st.hs i) (st.row i)
  q : QAt w c v st.com
  hv : ∀ k, v.ownBlock = some k → c < k
  nd : X.Nodup
/-- Its blocks. -/
def blksS (s c : Nat) (vs v : Value) (X : List Nat) : List Nat := s :: c :: X ++ vs.ownBlock.toList ++ v.ownBlock.toList
/-- What an operation may turn. -/
def turnS (c : Nat) (v : Value) (X : List Nat) : List Nat := c :: X ++ v.ownBlock.toList
namespace SSt
def setRing (st : SSt) (i : Nat) (nx : Int) (hs : Bool) (row : List Int) : SSt := { st with nx := updN st.nx i nx, hs := updN st.hs i hs, row := updN st.row i row }
def setCom (st : SSt) (l : List Int) : SSt := { st with com := l }
end SSt
theorem RingAt.blk {w : World} {b : Nat} {nx : Int} {hs : Bool} {xs : List Int} (h : RingAt w b nx hs xs) : ∃ cs, Blk w b cs 83 := by
  obtain ⟨l, f, _, _, _, _, h⟩ := h
  exact ⟨_, h⟩
section
variable {w w1 w2 : World} {s c i x : Nat} {vs v v' : Value} {X S : List Nat} {st : SSt}
theorem mem_turnS {k : Nat} : k ∈ turnS c v X ↔ k = c ∨ k ∈ X ∨ v.ownBlock = some k := by
  unfold turnS
  simp [or_assoc]
theorem mem_blksS {k : Nat} : k ∈ blksS s c vs v X ↔ k = s ∨ k = c ∨ k ∈ X ∨ vs.ownBlock = some k ∨ v.ownBlock = some k := by
  unfold blksS
  simp [or_assoc]
theorem SchedAt.keep (h : SchedAt w s c vs v X st) (hc : Ch S w w2) (hS : ∀ k ∈ S, k ∉ blksS s c vs v X) : SchedAt w2 s c vs v X st := by
  have hb : ∀ k, k ∈ blksS s c vs v X → k ∉ S := fun k hk hk2 => hS k hk2 hk
  exact ⟨h.top.keep hc (hb _ (mem_blksS.2 (.inl rfl))), h.rs.keep hc (fun k hk he => hS k hk (mem_blksS.2 (.inr (.inr (.inr (.inl he)))))), fun j y hy => (h.ring j y hy).keep hc (hb _ (mem_blksS.2 (.inr (.inr (.inl (List.mem_of_getElem? hy)))))),
    h.q.keep hc (hb _ (mem_blksS.2 (.inr (.inl rfl)))) (fun k hk he => hS k hk (mem_blksS.2 (.inr (.inr (.inr (.inr he)))))), h.hv, h.nd⟩
theorem SchedAt.ch (h : SchedAt w s c vs v X st) (hc : Ch [] w w2) : SchedAt w2 s c vs v X st := h.keep hc (by simp)
theorem SchedAt.lt (h : SchedAt w s c vs v X st) : ∀ k ∈ blksS s c vs v X, k < w.heap.size := by
  intro k hk
  rcases mem_blksS.1 hk with rfl | rfl | hk | hk | hk
  · exact h.top.lt
  · exact h.q.1.lt
  · obtain ⟨j, hj⟩ := List.mem_iff_getElem?.1 hk
    exact (h.ring j k hj).lt
  · exact Own.lt h.rs k hk
  · exact h.q.2.lt k hk
theorem SchedAt.tlt (h : SchedAt w s c vs v X st) : ∀ k ∈ turnS c v X, k < w.heap.size := fun k hk => h.lt k (mem_blksS.2 (by rcases mem_turnS.1 hk with h | h | h <;> simp [h]))
/-- A ring turns. -/
theorem SchedAt.setRing (h : SchedAt w s c vs v X st) (hx : X[i]? = some x) {nx : Int} {hs : Bool} {row : List Int} (hr : RingAt w2 x nx hs row) (hc : Ch [x] w w2) : SchedAt w2 s c vs v X (st.setRing i nx hs row) := by
  obtain ⟨cx, hbx⟩ := (h.ring i x hx).blk
  have hne : ∀ k cs t, Blk w k cs t → t ≠ 83 → k ∉ [x] := fun k cs t hk ht hm => by
    simp at hm
    exact hk.ne hbx ht hm
  refine ⟨h.top.keep hc (hne _ _ _ h.top (by decide)), h.rs.keep hc (fun k hk he => ?_), fun j y hy => ?_, h.q.keep hc (hne _ _ _ h.q.1 (by decide)) (fun k hk he => ?_), h.hv, h.nd⟩
  · obtain ⟨cs, hb⟩ := Own.blkAt h.rs he
    exact hne k _ _ hb (by decide) hk
  · show RingAt w2 y (updN st.nx i nx j) (updN st.hs i hs j) (updN st.row i row j)
    by_cases e : j = i
    · subst e
      rw [hx] at hy
      cases hy
      rw [updN_at, updN_at, updN_at]
      exact hr
    · rw [updN_ne _ _ e, updN_ne _ _ e, updN_ne _ _ e]
      exact (h.ring j y hy).keep hc (by simpa using nodup_ne h.nd hy hx e)
  · obtain ⟨cs, hb⟩ := Own.blkAt h.q.2 he
    exact hne k _ _ hb (by decide) hk
/-- The common queue turns. -/
theorem SchedAt.setCom (h : SchedAt w s c vs v X st) {l : List Int} (hq : QAt w2 c v' l) (hc : Ch S w w2) (hS : ∀ k ∈ S, k = c ∨ v.ownBlock = some k) (hv : ∀ k, v'.ownBlock = some k → c < k) : SchedAt w2 s c vs v' X (st.setCom l) := by
  have hne : ∀ k cs t, Blk w k cs t → t ≠ 87 → t ≠ 3 → k ∉ S := fun k cs t hk ht hi hm => by
    rcases hS k hm with rfl | he
    · exact hk.ne h.q.1 ht rfl
    · obtain ⟨cs', hb⟩ := Own.blkAt h.q.2 he
      exact hk.ne hb hi rfl
  refine ⟨h.top.keep hc (hne _ _ _ h.top (by decide) (by decide)), h.rs.keep hc (fun k hk he => ?_), fun j y hy => ?_, hq, hv, h.nd⟩
  · obtain ⟨cs, hb⟩ := Own.blkAt h.rs he
    exact hne k _ _ hb (by decide) (by decide) hk
  · obtain ⟨cs, hb⟩ := (h.ring j y hy).blk
    exact (h.ring j y hy).keep hc (hne _ _ _ hb (by decide) (by decide))
/-- What an operation leaves. -/
def SchT (w : World) (s c : Nat) (vs v : Value) (X : List Nat) (st : SSt) (w' : World) : Prop := ∃ v', SchedAt w' s c vs v' X st ∧ Ch (turnS c v X) w w' ∧ NewAt w v v'
theorem NewAt.trans {v1 v2 : Value} (h : NewAt w v v1) (k : NewAt w1 v1 v2) (hs : w.heap.size ≤ w1.heap.size) : NewAt w v v2 := by
  rcases k with e | k
  · rcases h with e1 | h
    · exact .inl (e.trans e1)
    · exact .inr (fun y hy => h y (by rw [← e]; exact hy))
  · exact .inr (fun y hy => Nat.le_trans hs (k y hy))
theorem ch_turn {v1 : Value} (hc : Ch (turnS c v X) w w1) (hn : NewAt w v v1) (h2 : Ch (turnS c v1 X) w1 w2) : Ch (turnS c v X) w w2 := hc.transT h2 (fun k hk => by
  rcases mem_turnS.1 hk with rfl | hk | hk
  · exact .inl (mem_turnS.2 (.inl rfl))
  · exact .inl (mem_turnS.2 (.inr (.inl hk)))
  · rcases hn with e | hn
    · exact .inl (mem_turnS.2 (.inr (.inr (by rw [← e]; exact hk))))
    · exact .inr (hn k hk))
theorem SchT.trans {st1 : SSt} {v1 : Value} (hc : Ch (turnS c v X) w w1) (hn : NewAt w v v1) (h : SchT w1 s c vs v1 X st1 w2) : SchT w s c vs v X st1 w2 := by
  obtain ⟨v2, h1, h2, h3⟩ := h
  exact ⟨v2, h1, ch_turn hc hn h2, hn.trans h3 hc.size⟩
theorem schHasNil (j : Int) (w : World) : Calls Try.prog 64 #[.pointer none, .int .i64 j] w fun e w' => e = .returned (.bool false) ∧ w' = w := by
  go_enter Try.func64, Try.ntmps64
  go_wp2_with fail
  go_ret
  exact ⟨rfl, rfl⟩
/-- Is there such a P? -/
def hasP (n : Nat) (j : Int) : Bool := decide (0 ≤ j ∧ j < n)
theorem schHas (j : Int) (h : SchedAt w s c vs v X st) : Calls Try.prog 64 #[.pointer (some ⟨s, 0, none⟩), .int .i64 j] w fun e w' => e = .returned (.bool (hasP X.length j)) ∧ w' = w := by
  have c0 := h.top.cell 0
  obtain ⟨a, cap, rfl, _⟩ := h.rs.form
  obtain ⟨n, hn⟩ : ∃ n, X.length = n := ⟨_, rfl⟩
  rw [hn] at c0 ⊢
  clear h hn
  by_cases h1 : 0 ≤ j
  · have t1 : decide (j ≥ 0) = true := decide_eq_true h1
    have t1n : ¬ j < 0 := by omega
    by_cases h2 : j < n
    · have t2 : decide (j < n) = true := decide_eq_true h2
      have e : hasP n j = true := decide_eq_true ⟨h1, h2⟩
      rw [e]
      clear e
      go_enter Try.func64, Try.ntmps64
      go_wp2_with fail
      go_ret
      exact ⟨rfl, rfl⟩
    · have t2 : decide (j < n) = false := decide_eq_false h2
      have e : hasP n j = false := decide_eq_false (fun e => h2 e.2)
      rw [e]
      clear e
      go_enter Try.func64, Try.ntmps64
      go_wp2_with fail
      go_ret
      exact ⟨rfl, rfl⟩
  · have t1 : decide (j ≥ 0) = false := decide_eq_false (by omega)
    have t1n : j < 0 := by omega
    have e : hasP n j = false := decide_eq_false (fun e => h1 e.1)
    rw [e]
    clear e
    go_enter Try.func64, Try.ntmps64
    go_wp2_with fail
    go_ret
    exact ⟨rfl, rfl⟩
end
end Go.Proofs.Yteghenfdncgpeaa
