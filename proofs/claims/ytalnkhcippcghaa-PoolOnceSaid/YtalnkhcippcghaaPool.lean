/-
  The pool of package pool in memory: which blocks hold what, and how single stores turn it. Conditions: none beyond what each theorem names.
-/
import Derived.Test.YtalnkhcippcghaaBuffer
import Derived.Test.YtalnkhcippcghaaBuffer2
import Derived.Test.YtalnkhcippcghaaInfo
import Derived.Test.YtalnkhcippcghaaPlan
namespace Go.Proofs.Ytalnkhcippcghaa
open Go.RowKit
def ptrV (b : Nat) : Value := .pointer (some ⟨b, 0, none⟩)
/-- A slice of pointers of one's own. -/
def PtS (w : World) (e : TypeId) (v : Value) (ns : List Nat) : Prop := Own w e 1 v ns.length (ns.map ptrV)
/-- A pool: the Ps' pairs X, of each the first buffer O, the second T, and whether it gave some away (Fl); the full ones F, the empty ones E; C tells what a buffer holds. -/
structure PoolAt (w : World) (p : Nat) (vs vf ve : Value) (X : List Nat) (O T : Nat → Nat) (Fl : Nat → Bool) (F E : List Nat) (C : Nat → List Int) : Prop where
  top : Blk w p #[vs, vf, ve] 81
  ps : PtS w 82 vs X
  fu : PtS w 23 vf F
  em : PtS w 23 ve E
  pr : ∀ i x, X[i]? = some x → Blk w x #[ptrV (O i), ptrV (T i), .bool (Fl i)] 84
  one : ∀ i, i < X.length → BufAt w (O i) (C (O i))
  two : ∀ i, i < X.length → BufAt w (T i) (C (T i))
  bF : ∀ b ∈ F, BufAt w b (C b)
  bE : ∀ b ∈ E, BufAt w b (C b)
  xnd : X.Nodup
  ap : ∀ k, vf.ownBlock = some k → ve.ownBlock ≠ some k
def updN {α : Type} (f : Nat → α) (i : Nat) (v : α) : Nat → α := fun k => if k = i then v else f k
section
variable {w w2 : World} {p : Nat} {vs vf ve : Value} {X F E : List Nat} {O T : Nat → Nat} {Fl : Nat → Bool} {C : Nat → List Int} {S : List Nat}
theorem BufAt.blk {b : Nat} {xs : List Int} (h : BufAt w b xs) : ∃ cs, Blk w b cs 71 := by
  obtain ⟨l, _, _, _, h⟩ := h
  exact ⟨_, h⟩
theorem Own.blkAt {e : TypeId} {v : Value} {n : Nat} {xs : List Value} {k : Nat} (h : Own w e 1 v n xs) (hk : v.ownBlock = some k) : ∃ cs, Blk w k cs e := by
  rcases h.2 with ⟨rfl, _⟩ | ⟨g, off, cap, cur, rfl, hg, _⟩
  · simp [Value.ownBlock] at hk
  · simp [Value.ownBlock] at hk
    subst hk
    exact ⟨_, hg⟩
/-- What none of the pool's own blocks is kept. -/
theorem PoolAt.keep (h : PoolAt w p vs vf ve X O T Fl F E C) (hc : Ch S w w2) (hS : ∀ k ∈ S, ∃ cs t, Blk w k cs t ∧ t ≠ 81 ∧ t ≠ 82 ∧ t ≠ 23 ∧ t ≠ 84 ∧ t ≠ 71) : PoolAt w2 p vs vf ve X O T Fl F E C := by
  have hno : ∀ k ∈ S, ∀ cs t, Blk w k cs t → (t = 81 ∨ t = 82 ∨ t = 23 ∨ t = 84 ∨ t = 71) → False := by
    intro k hk cs t hb ht
    obtain ⟨cs', t', hb', h1, h2, h3, h4, h5⟩ := hS k hk
    have e : t = t' := by
      by_cases e : t = t'
      · exact e
      · exact absurd rfl (hb.ne hb' e)
    subst e
    rcases ht with ht | ht | ht | ht | ht
    · exact h1 ht
    · exact h2 ht
    · exact h3 ht
    · exact h4 ht
    · exact h5 ht
  have hbf : ∀ b L, BufAt w b L → BufAt w2 b L := fun b L hb => hb.keep hc (fun hk => by
    obtain ⟨cs, hb'⟩ := hb.blk
    exact hno b hk cs _ hb' (by simp))
  refine ⟨h.top.keep hc (fun hk => hno p hk _ _ h.top (by simp)), h.ps.keep hc (fun k hk he => ?_), h.fu.keep hc (fun k hk he => ?_), h.em.keep hc (fun k hk he => ?_), fun i x hx => (h.pr i x hx).keep hc (fun hk => hno x hk _ _ (h.pr i x hx) (by simp)),
    fun i hi => hbf _ _ (h.one i hi), fun i hi => hbf _ _ (h.two i hi), fun b hb => hbf _ _ (h.bF b hb), fun b hb => hbf _ _ (h.bE b hb), h.xnd, h.ap⟩
  · obtain ⟨cs, hb⟩ := Own.blkAt h.ps he
    exact hno k hk _ _ hb (by simp)
  · obtain ⟨cs, hb⟩ := Own.blkAt h.fu he
    exact hno k hk _ _ hb (by simp)
  · obtain ⟨cs, hb⟩ := Own.blkAt h.em he
    exact hno k hk _ _ hb (by simp)
theorem PoolAt.ch (h : PoolAt w p vs vf ve X O T Fl F E C) (hc : Ch [] w w2) : PoolAt w2 p vs vf ve X O T Fl F E C := h.keep hc (by simp)
/-- A buffer's contents turn. -/
theorem PoolAt.buf (h : PoolAt w p vs vf ve X O T Fl F E C) {b : Nat} {L L' : List Int} (hb0 : BufAt w b L) (hb : BufAt w2 b L') (hc : Ch [b] w w2) : PoolAt w2 p vs vf ve X O T Fl F E (updN C b L') := by
  obtain ⟨cb, hbb⟩ := hb0.blk
  have hne : ∀ k cs t, Blk w k cs t → t ≠ 71 → k ∉ [b] := fun k cs t hk ht hm => by
    simp at hm
    exact hk.ne hbb ht hm
  have hbf : ∀ x, BufAt w x (C x) → BufAt w2 x (updN C b L' x) := fun x hx => by
    unfold updN
    by_cases e : x = b
    · rw [if_pos e, e]; exact hb
    · rw [if_neg e]; exact hx.keep hc (by simpa using e)
  refine ⟨h.top.keep hc (hne _ _ _ h.top (by decide)), h.ps.keep hc (fun k hk he => ?_), h.fu.keep hc (fun k hk he => ?_), h.em.keep hc (fun k hk he => ?_), fun i x hx => (h.pr i x hx).keep hc (hne _ _ _ (h.pr i x hx) (by decide)),
    fun i hi => hbf _ (h.one i hi), fun i hi => hbf _ (h.two i hi), fun x hx => hbf _ (h.bF x hx), fun x hx => hbf _ (h.bE x hx), h.xnd, h.ap⟩
  · obtain ⟨cs, hx⟩ := Own.blkAt h.ps he
    exact hne k _ _ hx (by decide) hk
  · obtain ⟨cs, hx⟩ := Own.blkAt h.fu he
    exact hne k _ _ hx (by decide) hk
  · obtain ⟨cs, hx⟩ := Own.blkAt h.em he
    exact hne k _ _ hx (by decide) hk
/-- What one block's turn leaves, by its type. -/
theorem PoolAt.rest (h : PoolAt w p vs vf ve X O T Fl F E C) {b : Nat} {cs : Array Value} {t : TypeId} (hb : Blk w b cs t) (hc : Ch [b] w w2) (ht : t = 81 ∨ t = 84) :
    PtS w2 82 vs X ∧ PtS w2 23 vf F ∧ PtS w2 23 ve E ∧ (∀ x L, BufAt w x L → BufAt w2 x L) ∧ (t = 84 → Blk w2 p #[vs, vf, ve] 81) ∧
      ∀ i x, X[i]? = some x → x ≠ b → Blk w2 x #[ptrV (O i), ptrV (T i), .bool (Fl i)] 84 := by
  have hne : ∀ k cs' t', Blk w k cs' t' → t' ≠ t → k ∉ [b] := fun k cs' t' hk hh hm => by
    simp at hm
    exact hk.ne hb hh hm
  refine ⟨h.ps.keep hc (fun k hk he => ?_), h.fu.keep hc (fun k hk he => ?_), h.em.keep hc (fun k hk he => ?_), fun x L hx => ?_, fun e => h.top.keep hc (hne _ _ _ h.top (by rw [e]; decide)), fun i x hx hxb => (h.pr i x hx).keep hc (by simpa using hxb)⟩
  · obtain ⟨cs, hx⟩ := Own.blkAt h.ps he
    exact hne k _ _ hx (by rcases ht with rfl | rfl <;> decide) hk
  · obtain ⟨cs, hx⟩ := Own.blkAt h.fu he
    exact hne k _ _ hx (by rcases ht with rfl | rfl <;> decide) hk
  · obtain ⟨cs, hx⟩ := Own.blkAt h.em he
    exact hne k _ _ hx (by rcases ht with rfl | rfl <;> decide) hk
  · obtain ⟨cb, hbb⟩ := hx.blk
    exact hx.keep hc (hne _ _ _ hbb (by rcases ht with rfl | rfl <;> decide))
theorem nodup_ne {X : List Nat} (h : X.Nodup) {i j x y : Nat} (hi : X[i]? = some x) (hj : X[j]? = some y) (hij : i ≠ j) : x ≠ y := by
  obtain ⟨hi', rfl⟩ := List.getElem?_eq_some_iff.1 hi
  obtain ⟨hj', rfl⟩ := List.getElem?_eq_some_iff.1 hj
  have hp := List.pairwise_iff_getElem.1 h
  rcases Nat.lt_or_gt_of_ne hij with hl | hl
  · exact hp i j hi' hj' hl
  · exact (hp j i hj' hi' hl).symm
/-- A pair's first buffer is another one. -/
theorem PoolAt.setO (h : PoolAt w p vs vf ve X O T Fl F E C) {i x b : Nat} (hx : X[i]? = some x) (hb : BufAt w b (C b)) :
    PoolAt (w.setCell ⟨x, 0, none⟩ (ptrV b)) p vs vf ve X (updN O i b) T Fl F E C ∧ Ch [x] w (w.setCell ⟨x, 0, none⟩ (ptrV b)) := by
  have cs : Ch [x] w (w.setCell ⟨x, 0, none⟩ (ptrV b)) := (Ch.refl [x] w).setCell (.inl (by simp)) _
  obtain ⟨r1, r2, r3, r4, r5, r6⟩ := h.rest (h.pr i x hx) cs (.inr rfl)
  refine ⟨⟨r5 rfl, r1, r2, r3, fun j y hy => ?_, fun j hj => ?_, fun j hj => r4 _ _ (h.two j hj), fun y hy => r4 _ _ (h.bF y hy), fun y hy => r4 _ _ (h.bE y hy), h.xnd, h.ap⟩, cs⟩
  · unfold updN
    by_cases hij : j = i
    · subst hij
      rw [hx] at hy
      cases hy
      rw [if_pos rfl]
      exact (h.pr j x hx).set 0 _
    · rw [if_neg hij]
      exact r6 j y hy (nodup_ne h.xnd hy hx hij)
  · unfold updN
    by_cases hij : j = i
    · rw [if_pos hij]; exact r4 _ _ hb
    · rw [if_neg hij]; exact r4 _ _ (h.one j hj)
/-- A pair's second buffer is another one. -/
theorem PoolAt.setT (h : PoolAt w p vs vf ve X O T Fl F E C) {i x b : Nat} (hx : X[i]? = some x) (hb : BufAt w b (C b)) :
    PoolAt (w.setCell ⟨x, 1, none⟩ (ptrV b)) p vs vf ve X O (updN T i b) Fl F E C ∧ Ch [x] w (w.setCell ⟨x, 1, none⟩ (ptrV b)) := by
  have cs : Ch [x] w (w.setCell ⟨x, 1, none⟩ (ptrV b)) := (Ch.refl [x] w).setCell (.inl (by simp)) _
  obtain ⟨r1, r2, r3, r4, r5, r6⟩ := h.rest (h.pr i x hx) cs (.inr rfl)
  refine ⟨⟨r5 rfl, r1, r2, r3, fun j y hy => ?_, fun j hj => r4 _ _ (h.one j hj), fun j hj => ?_, fun y hy => r4 _ _ (h.bF y hy), fun y hy => r4 _ _ (h.bE y hy), h.xnd, h.ap⟩, cs⟩
  · unfold updN
    by_cases hij : j = i
    · subst hij
      rw [hx] at hy
      cases hy
      rw [if_pos rfl]
      exact (h.pr j x hx).set 1 _
    · rw [if_neg hij]
      exact r6 j y hy (nodup_ne h.xnd hy hx hij)
  · unfold updN
    by_cases hij : j = i
    · rw [if_pos hij]; exact r4 _ _ hb
    · rw [if_neg hij]; exact r4 _ _ (h.two j hj)
/-- A pair's flag. -/
theorem PoolAt.setFl (h : PoolAt w p vs vf ve X O T Fl F E C) {i x : Nat} (hx : X[i]? = some x) (b : Bool) :
    PoolAt (w.setCell ⟨x, 2, none⟩ (.bool b)) p vs vf ve X O T (updN Fl i b) F E C ∧ Ch [x] w (w.setCell ⟨x, 2, none⟩ (.bool b)) := by
  have cs : Ch [x] w (w.setCell ⟨x, 2, none⟩ (.bool b)) := (Ch.refl [x] w).setCell (.inl (by simp)) _
  obtain ⟨r1, r2, r3, r4, r5, r6⟩ := h.rest (h.pr i x hx) cs (.inr rfl)
  refine ⟨⟨r5 rfl, r1, r2, r3, fun j y hy => ?_, fun j hj => r4 _ _ (h.one j hj), fun j hj => r4 _ _ (h.two j hj), fun y hy => r4 _ _ (h.bF y hy), fun y hy => r4 _ _ (h.bE y hy), h.xnd, h.ap⟩, cs⟩
  unfold updN
  by_cases hij : j = i
  · subst hij
    rw [hx] at hy
    cases hy
    rw [if_pos rfl]
    exact (h.pr j x hx).set 2 _
  · rw [if_neg hij]
    exact r6 j y hy (nodup_ne h.xnd hy hx hij)
/-- The row of full ones is another one. -/
theorem PoolAt.setF (h : PoolAt w p vs vf ve X O T Fl F E C) {v : Value} {F' : List Nat} (hv : PtS w 23 v F') (hF : ∀ b ∈ F', BufAt w b (C b)) (hap : ∀ k, v.ownBlock = some k → ve.ownBlock ≠ some k) :
    PoolAt (w.setCell ⟨p, 1, none⟩ v) p vs v ve X O T Fl F' E C ∧ Ch [p] w (w.setCell ⟨p, 1, none⟩ v) := by
  have cs : Ch [p] w (w.setCell ⟨p, 1, none⟩ v) := (Ch.refl [p] w).setCell (.inl (by simp)) _
  obtain ⟨r1, _, r3, r4, _, r6⟩ := h.rest h.top cs (.inl rfl)
  refine ⟨⟨h.top.set 1 _, r1, hv.keep cs (fun k hk he => ?_), r3, fun j y hy => r6 j y hy ((h.pr j y hy).ne h.top (by decide)), fun j hj => r4 _ _ (h.one j hj), fun j hj => r4 _ _ (h.two j hj), fun y hy => r4 _ _ (hF y hy), fun y hy => r4 _ _ (h.bE y hy), h.xnd, hap⟩, cs⟩
  obtain ⟨cs', hx⟩ := Own.blkAt hv he
  simp at hk
  exact hx.ne h.top (by decide) hk
/-- The row of empty ones is another one. -/
theorem PoolAt.setE (h : PoolAt w p vs vf ve X O T Fl F E C) {v : Value} {E' : List Nat} (hv : PtS w 23 v E') (hE : ∀ b ∈ E', BufAt w b (C b)) (hap : ∀ k, vf.ownBlock = some k → v.ownBlock ≠ some k) :
    PoolAt (w.setCell ⟨p, 2, none⟩ v) p vs vf v X O T Fl F E' C ∧ Ch [p] w (w.setCell ⟨p, 2, none⟩ v) := by
  have cs : Ch [p] w (w.setCell ⟨p, 2, none⟩ v) := (Ch.refl [p] w).setCell (.inl (by simp)) _
  obtain ⟨r1, r2, _, r4, _, r6⟩ := h.rest h.top cs (.inl rfl)
  refine ⟨⟨h.top.set 2 _, r1, r2, hv.keep cs (fun k hk he => ?_), fun j y hy => r6 j y hy ((h.pr j y hy).ne h.top (by decide)), fun j hj => r4 _ _ (h.one j hj), fun j hj => r4 _ _ (h.two j hj), fun y hy => r4 _ _ (h.bF y hy), fun y hy => r4 _ _ (hE y hy), h.xnd, hap⟩, cs⟩
  obtain ⟨cs', hx⟩ := Own.blkAt hv he
  simp at hk
  exact hx.ne h.top (by decide) hk
end
end Go.Proofs.Ytalnkhcippcghaa
