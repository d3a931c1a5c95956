/-
  Contracts of package pool: give, fresh. Conditions: none beyond what each theorem names.
-/
import Derived.Test.YtalnkhcippcghaaPool3
namespace Go.Proofs.Ytalnkhcippcghaa
open Go.RowKit
/-- Where the block of the new slice lies. -/
def NewP (w : World) (v v' : Value) : Prop := v'.ownBlock = v.ownBlock ∨ ∀ k, v'.ownBlock = some k → w.heap.size ≤ k
section
variable {w w2 : World} {B p : Nat} {vs vf ve : Value} {X F E : List Nat} {O T : Nat → Nat} {Fl : Nat → Bool} {C : Nat → List Int} {S : List Nat}
theorem PoolAt.blkF (h : PoolAt w p vs vf ve X O T Fl F E C) : ∀ k ∈ vf.ownBlock.toList, ∃ cs, Blk w k cs 23 := fun k hk => Own.blkAt h.fu (by simpa using hk)
theorem PoolAt.blkE (h : PoolAt w p vs vf ve X O T Fl F E C) : ∀ k ∈ ve.ownBlock.toList, ∃ cs, Blk w k cs 23 := fun k hk => Own.blkAt h.em (by simpa using hk)
/-- What stays while a row of buffers turns. -/
theorem PoolAt.rowKeep (h : PoolAt w p vs vf ve X O T Fl F E C) (hS : ∀ k ∈ S, ∃ cs, Blk w k cs 23) (hc : Ch S w w2) :
    Blk w2 p #[vs, vf, ve] 81 ∧ PtS w2 82 vs X ∧ (∀ i x, X[i]? = some x → Blk w2 x #[ptrV (O i), ptrV (T i), .bool (Fl i)] 84) ∧ ∀ x L, BufAt w x L → BufAt w2 x L := by
  have hne : ∀ k cs' t', Blk w k cs' t' → t' ≠ 23 → k ∉ S := fun k cs' t' hk hh hm => by
    obtain ⟨cs, hb⟩ := hS k hm
    exact hk.ne hb hh rfl
  refine ⟨h.top.keep hc (hne _ _ _ h.top (by decide)), h.ps.keep hc (fun k hk he => ?_), fun i x hx => (h.pr i x hx).keep hc (hne _ _ _ (h.pr i x hx) (by decide)), fun x L hx => ?_⟩
  · obtain ⟨cs, hx⟩ := Own.blkAt h.ps he
    exact hne k _ _ hx (by decide) hk
  · obtain ⟨cb, hbb⟩ := hx.blk
    exact hx.keep hc (hne _ _ _ hbb (by decide))
/-- The row of full ones has grown; its slice is laid in the pool. -/
theorem PoolAt.appF (h : PoolAt w p vs vf ve X O T Fl F E C) (hc : Ch vf.ownBlock.toList w w2) {v' : Value} {F' : List Nat} (hv : PtS w2 23 v' F') (hF : ∀ b ∈ F', BufAt w b (C b)) (hn : NewP w vf v') :
    PoolAt (w2.setCell ⟨p, 1, none⟩ v') p vs v' ve X O T Fl F' E C := by
  obtain ⟨r1, r2, r3, r4⟩ := h.rowKeep h.blkF hc
  have hem : PtS w2 23 ve E := h.em.keep hc (fun k hk he => h.ap k (by simpa using hk) he)
  have cs : Ch [p] w2 (w2.setCell ⟨p, 1, none⟩ v') := (Ch.refl [p] w2).setCell (.inl (by simp)) _
  have hnp : ∀ e v ns k, PtS w2 e v ns → e ≠ 81 → k ∈ [p] → v.ownBlock ≠ some k := fun e v ns k hh he hk hb => by
    obtain ⟨cs', hx⟩ := Own.blkAt hh hb
    simp at hk
    exact hx.ne r1 he hk
  have hbf : ∀ x L, BufAt w x L → BufAt (w2.setCell ⟨p, 1, none⟩ v') x L := fun x L hx => by
    have h2 := r4 x L hx
    obtain ⟨cb, hbb⟩ := h2.blk
    exact h2.keep cs (fun hm => hbb.ne r1 (by decide) (by simpa using hm))
  refine ⟨r1.set 1 _, r2.keep cs (fun k hk => hnp _ _ _ k r2 (by decide) hk), hv.keep cs (fun k hk => hnp _ _ _ k hv (by decide) hk), hem.keep cs (fun k hk => hnp _ _ _ k hem (by decide) hk),
    fun j y hy => (r3 j y hy).keep cs (fun hm => (r3 j y hy).ne r1 (by decide) (by simpa using hm)), fun j hj => hbf _ _ (h.one j hj), fun j hj => hbf _ _ (h.two j hj), fun y hy => hbf _ _ (hF y hy), fun y hy => hbf _ _ (h.bE y hy), h.xnd, ?_⟩
  intro k hk
  rcases hn with h1 | h1
  · exact h.ap k (by rw [← h1]; exact hk)
  · intro h2
    have := h1 k hk
    have := Own.lt h.em k h2
    omega
/-- The row of empty ones has grown; its slice is laid in the pool. -/
theorem PoolAt.appE (h : PoolAt w p vs vf ve X O T Fl F E C) (hc : Ch ve.ownBlock.toList w w2) {v' : Value} {E' : List Nat} (hv : PtS w2 23 v' E') (hE : ∀ b ∈ E', BufAt w b (C b)) (hn : NewP w ve v') :
    PoolAt (w2.setCell ⟨p, 2, none⟩ v') p vs vf v' X O T Fl F E' C := by
  obtain ⟨r1, r2, r3, r4⟩ := h.rowKeep h.blkE hc
  have hfu : PtS w2 23 vf F := h.fu.keep hc (fun k hk he => h.ap k he (by simpa using hk))
  have cs : Ch [p] w2 (w2.setCell ⟨p, 2, none⟩ v') := (Ch.refl [p] w2).setCell (.inl (by simp)) _
  have hnp : ∀ e v ns k, PtS w2 e v ns → e ≠ 81 → k ∈ [p] → v.ownBlock ≠ some k := fun e v ns k hh he hk hb => by
    obtain ⟨cs', hx⟩ := Own.blkAt hh hb
    simp at hk
    exact hx.ne r1 he hk
  have hbf : ∀ x L, BufAt w x L → BufAt (w2.setCell ⟨p, 2, none⟩ v') x L := fun x L hx => by
    have h2 := r4 x L hx
    obtain ⟨cb, hbb⟩ := h2.blk
    exact h2.keep cs (fun hm => hbb.ne r1 (by decide) (by simpa using hm))
  refine ⟨r1.set 2 _, r2.keep cs (fun k hk => hnp _ _ _ k r2 (by decide) hk), hfu.keep cs (fun k hk => hnp _ _ _ k hfu (by decide) hk), hv.keep cs (fun k hk => hnp _ _ _ k hv (by decide) hk),
    fun j y hy => (r3 j y hy).keep cs (fun hm => (r3 j y hy).ne r1 (by decide) (by simpa using hm)), fun j hj => hbf _ _ (h.one j hj), fun j hj => hbf _ _ (h.two j hj), fun y hy => hbf _ _ (h.bF y hy), fun y hy => hbf _ _ (hE y hy), h.xnd, ?_⟩
  intro k hk h2
  rcases hn with h1 | h1
  · exact h.ap k hk (by rw [← h1]; exact h2)
  · have := h1 k h2
    have := Own.lt h.fu k hk
    omega
/-- What give leaves. -/
def Gave (w : World) (B p : Nat) (vs ve : Value) (X : List Nat) (O T : Nat → Nat) (Fl : Nat → Bool) (F E : List Nat) (C : Nat → List Int) (w' : World) : Prop := ∃ vf', PoolAt w' p vs vf' ve X O T Fl F E C ∧ PB B p vs vf' ve X O T F E ∧ Fr B w w'
theorem poolGive (i x b : Nat) (h : PoolAt w p vs vf ve X O T Fl F E C) (hb : PB B p vs vf ve X O T F E) (hB : B ≤ w.heap.size) (hx : X[i]? = some x) (hbb : BufAt w b (C b)) (hbB : B ≤ b) (hl : F.length ≤ 1000) :
    Calls Try.prog 49 #[.pointer (some ⟨p, 0, none⟩), ptrV x, ptrV b] w fun e w' => e = .returned (.tuple #[]) ∧ Gave w B p vs ve X O T (updN Fl i true) (F ++ [b]) E C w' := by
  have c1 := h.top.cell 1
  have ca := (Ch.refl [] w).alloc (.cells #[ptrV b] 23)
  have h1 := h.ch ca
  have hbb1 := hbb.keep ca (by simp)
  obtain ⟨a, cap, rfl, z1, z2, _⟩ := h.fu.form
  obtain ⟨n, hn⟩ : ∃ n, F.length = n := ⟨_, rfl⟩
  rw [hn] at c1 h1 hb h hl
  have HN := Lib.hid hn
  have hfl : ∀ k, (Value.slice a n cap).ownBlock = some k → B ≤ k := hb.vf
  clear hn z1
  unfold ptrV
  go_enter Try.func49, Try.ntmps49
  go_wp2_with (at_builtin; refine wpList_appP rfl (.tmp 11) (.tmp 13) rfl _ F rfl h1.fu b _ rfl (srcPtr w b) (by rw [HN.out]; omega) ?_)
  intro v' w2 hv' c2 n2
  replace n2 : NewP (w.alloc (.cells #[ptrV b] 23)) (.slice a n cap) v' := n2.imp id (fun h k hk => by have := h k hk; simpa using this)
  obtain ⟨a2, cap2, rfl, _⟩ := hv'.form
  obtain ⟨m, hm⟩ : ∃ m, (F ++ [b]).length = m := ⟨_, rfl⟩
  rw [hm] at hv' n2 ⊢
  clear hm
  have h3 := h1.appF c2 hv' (fun y hy => by
    rcases List.mem_append.1 hy with hy | hy
    · exact h1.bF y hy
    · simp at hy; subst hy; exact hbb1) n2
  obtain ⟨r1, _, r3, _⟩ := h1.rowKeep h1.blkF c2
  have p1 := r1.cell 1
  have q1 := r1.frozen 1
  have f0 : Fr B w w2 := (Fr.still ca).trans ⟨_, c2, fun k hk => ⟨hfl k (by simpa using hk), by
    obtain ⟨cs, hb'⟩ := h1.blkF k hk
    exact ⟨cs, _, hb', by simp⟩⟩⟩
  have f1 : Fr B w (w2.setCell ⟨p, 1, none⟩ (.slice a2 m cap2)) := f0.trans (Fr.one ((Ch.refl [p] w2).setCell (.inl (by simp)) _) hb.p ⟨_, _, r1, by simp⟩)
  have hpb : PB B p vs (.slice a2 m cap2) ve X O T (F ++ [b]) E := ⟨hb.p, hb.x, hb.o, hb.t, fun y hy => by
    rcases List.mem_append.1 hy with hy | hy
    · exact hb.f y hy
    · simp at hy; subst hy; exact hbB, hb.e, hb.vs, fun k hk => by
    rcases n2 with e | e
    · exact hfl k (by rw [← e]; exact hk)
    · have := e k hk
      have := ca.size
      omega, hb.ve⟩
  obtain ⟨W3, hW3⟩ : ∃ W3, w2.setCell ⟨p, 1, none⟩ (.slice a2 m cap2) = W3 := ⟨_, rfl⟩
  have HW3 := Lib.hid hW3
  rw [hW3] at h3 f1
  have x2 := (h3.pr i x hx).cell 2
  have x3 := (h3.pr i x hx).frozen 2
  rw [← hW3] at x2 x3
  obtain ⟨R1, R2⟩ := h3.setFl hx true
  have f2 := f1.trans (Fr.one R2 (hb.x x (List.mem_of_getElem? hx)) ⟨_, _, h3.pr i x hx, by simp⟩)
  rw [← hW3] at R1 f2
  clear hW3 h3 R2 f1 f0 r1 r3 c2 hv' n2 h1 h c1
  go_wp2_with fail
  go_end0
  exact ⟨rfl, _, R1, hpb, f2⟩
end
end Go.Proofs.Ytalnkhcippcghaa
