/-
  Contracts of package pool: Flushed, Reset, Local, Lists, give, fresh. Conditions: none beyond what each theorem names.
-/
import Derived.Test.YtalnkhcippcghaaPool2
namespace Go.Proofs.Ytalnkhcippcghaa
open Go.RowKit
theorem Try.infoBufP : (Try.prog.info? 23).map (fun i => (i.zero, i.size, i.bytes)) = some (some (.pointer none), 1, 8) := by kernel_rfl
theorem srcPtr (w : World) (b : Nat) : Src Try.prog 1 79 (.slice (some ⟨w.heap.size, 0, none⟩) 1 1) 1 [ptrV b] (w.alloc (.cells #[ptrV b] 23)) :=
  Src_lit Try.underlying79 w [_] 1 1 rfl _ (mem_one rfl)
theorem wpList_appP {w : World} {ops : Array Oper} {rest : List Oper} {o : Oper} {a : Act} {Q : Exit → Act → World → Prop} (hgd : Region.wanted o (yielded ops a.tmps) = true) (s x : Operand)
    (ho : o.op = .call { callee := .builtin .append, args := #[s, x], argTypes := #[79, 79] })
    (v : Value) (ns : List Nat) (hs : a.eval s = v) (hv : PtS w 23 v ns) (b : Nat) (xv : Value) (hx : a.eval x = xv) (hsrc : Src Try.prog 1 79 xv 1 [ptrV b] w) (hl : ns.length ≤ 100000)
    (h : ∀ v' w', PtS w' 23 v' (ns ++ [b]) → Ch v.ownBlock.toList w w' → (v'.ownBlock = v.ownBlock ∨ ∀ k, v'.ownBlock = some k → w.heap.size ≤ k) → wpList Try.prog ops Q rest (a.put o.dst v') w') :
    wpList Try.prog ops Q (o :: rest) a w := by
  obtain ⟨i0, hi0, hz0, hz1, hz2⟩ := info_parts Try.infoBufP
  refine wpList_append_OwnG hgd s x _ _ ho 23 i0 (.pointer none) 1 8 Try.underlying79 hi0 hz0 hz1 hz2 rfl v ns.length _ hs hv xv 1 [ptrV b] hx hsrc (by unfold maxLen; omega) (by omega) (fun v' w' h1 h2 h3 => h v' w' ?_ h2 h3)
  unfold PtS
  rw [List.length_append, List.map_append]
  exact h1
theorem wp_appP {w : World} {o : Oper} {a : Act} {K : Act → World → Prop} {Q : Exit → Act → World → Prop} (s x : Operand)
    (ho : o.op = .call { callee := .builtin .append, args := #[s, x], argTypes := #[79, 79] })
    (v : Value) (ns : List Nat) (hs : a.eval s = v) (hv : PtS w 23 v ns) (b : Nat) (xv : Value) (hx : a.eval x = xv) (hsrc : Src Try.prog 1 79 xv 1 [ptrV b] w) (hl : ns.length ≤ 100000)
    (h : ∀ v' w', PtS w' 23 v' (ns ++ [b]) → Ch v.ownBlock.toList w w' → (v'.ownBlock = v.ownBlock ∨ ∀ k, v'.ownBlock = some k → w.heap.size ≤ k) → K (a.put o.dst v') w') :
    o.wp Try.prog a w K Q := by
  obtain ⟨i0, hi0, hz0, hz1, hz2⟩ := info_parts Try.infoBufP
  refine wp_append_Own s x _ _ ho 23 i0 (.pointer none) 1 8 Try.underlying79 hi0 hz0 hz1 hz2 rfl v ns.length _ hs hv xv 1 [ptrV b] hx hsrc (by unfold maxLen; omega) (by omega) (fun v' w' h1 h2 h3 => h v' w' ?_ h2 h3)
  unfold PtS
  rw [List.length_append, List.map_append]
  exact h1
section
variable {w w2 : World} {B p : Nat} {vs vf ve : Value} {X F E : List Nat} {O T : Nat → Nat} {Fl : Nat → Bool} {C : Nat → List Int} {S : List Nat}
theorem poolFlushed (i x : Nat) (h : PoolAt w p vs vf ve X O T Fl F E C) (hx : X[i]? = some x) : Calls Try.prog 36 #[.pointer (some ⟨p, 0, none⟩), .int .i64 i] w fun e w' => e = .returned (.bool (Fl i)) ∧ w' = w := by
  have ha := atIn i x h hx
  have d2 := (h.pr i x hx).cell 2
  unfold ptrV at ha
  clear h
  go_enter Try.func36, Try.ntmps36
  go_wp2_with fail
  refine ha.mono ?_; rintro e w1 ⟨rfl, rfl⟩
  go_wp2_with fail
  go_ret
  exact ⟨rfl, rfl⟩
theorem poolReset (i x : Nat) (h : PoolAt w p vs vf ve X O T Fl F E C) (hx : X[i]? = some x) : Calls Try.prog 37 #[.pointer (some ⟨p, 0, none⟩), .int .i64 i] w fun e w' => e = .returned (.tuple #[]) ∧ PoolAt w' p vs vf ve X O T (updN Fl i false) F E C ∧ Ch [x] w w' := by
  have ha := atIn i x h hx
  have d2 := (h.pr i x hx).cell 2
  have f2 := (h.pr i x hx).frozen 2
  obtain ⟨R1, R2⟩ := h.setFl hx false
  unfold ptrV at ha
  clear h
  go_enter Try.func37, Try.ntmps37
  go_wp2_with fail
  refine ha.mono ?_; rintro e w1 ⟨rfl, rfl⟩
  go_wp2_with fail
  go_end0
  exact ⟨rfl, R1, R2⟩
theorem poolLists (h : PoolAt w p vs vf ve X O T Fl F E C) : Calls Try.prog 44 #[.pointer (some ⟨p, 0, none⟩)] w fun e w' => e = .returned (.tuple #[.int .i64 F.length, .int .i64 E.length]) ∧ Ch [] w w' := by
  have c1 := h.top.cell 1
  have c2 := h.top.cell 2
  obtain ⟨a, cap, rfl, _⟩ := h.fu.form
  obtain ⟨a2, cap2, rfl, _⟩ := h.em.form
  obtain ⟨n, hn⟩ : ∃ n, F.length = n := ⟨_, rfl⟩
  obtain ⟨m, hm⟩ : ∃ m, E.length = m := ⟨_, rfl⟩
  rw [hn] at c1 ⊢
  rw [hm] at c2 ⊢
  clear h hn hm
  go_enter Try.func44, Try.ntmps44
  go_upto_region 3 with fail
  go_quiet (fail)
  go_wp2
  go_ret2
  exact ⟨rfl, (Ch.refl _ _).drewN _⟩
theorem poolLocal (i x : Nat) (h : PoolAt w p vs vf ve X O T Fl F E C) (hx : X[i]? = some x) : Calls Try.prog 39 #[.pointer (some ⟨p, 0, none⟩), .int .i64 i] w fun e w' => e = .returned (.int .i64 ((C (O i)).length + (C (T i)).length : Nat)) ∧ Ch [] w w' := by
  have ha := atIn i x h hx
  have hi := (List.getElem?_eq_some_iff.1 hx).1
  have cd := (Ch.refl [] w).drewN 1
  have h1 := bufLen (O i) (C (O i)) (w.drewN 1) ((h.one i hi).keep cd (by simp))
  have h2 := bufLen (T i) (C (T i)) (w.drewN 1) ((h.two i hi).keep cd (by simp))
  have l1 : (C (O i)).length ≤ 32 := (h.one i hi).choose_spec.2.1
  have l2 : (C (T i)).length ≤ 32 := (h.two i hi).choose_spec.2.1
  obtain ⟨n, hn⟩ : ∃ n, (C (O i)).length = n := ⟨_, rfl⟩
  obtain ⟨m, hm⟩ : ∃ m, (C (T i)).length = m := ⟨_, rfl⟩
  obtain ⟨o, ho⟩ : ∃ o, O i = o := ⟨_, rfl⟩
  obtain ⟨t, ht⟩ : ∃ t, T i = t := ⟨_, rfl⟩
  rw [hn] at h1 l1 ⊢
  rw [hm] at h2 l2 ⊢
  rw [ho] at h1
  rw [ht] at h2
  obtain ⟨L, hL⟩ : ∃ L : World → Prop, ∀ w', L w' ↔ (w'.cell? ⟨x, 0, none⟩ = some (.pointer (some ⟨o, 0, none⟩)) ∧ w'.cell? ⟨x, 1, none⟩ = some (.pointer (some ⟨t, 0, none⟩))) := ⟨_, fun _ => Iff.rfl⟩
  have hS1 : ∀ y : { w' : World // L w' }, y.1.cell? ⟨x, 0, none⟩ = some (.pointer (some ⟨o, 0, none⟩)) := fun y => ((hL _).1 y.2).1
  have hS2 : ∀ y : { w' : World // L w' }, y.1.cell? ⟨x, 1, none⟩ = some (.pointer (some ⟨t, 0, none⟩)) := fun y => ((hL _).1 y.2).2
  have hS0 : L (w.drewN 1) := (hL _).2 ⟨by have := ((h.pr i x hx).drewN 1).cell 0; rw [ho] at this; exact this, by have := ((h.pr i x hx).drewN 1).cell 1; rw [ht] at this; exact this⟩
  have hSA : Nonempty { w' : World // L w' } := ⟨⟨_, hS0⟩⟩
  have w8 : IntKind.i64.wrap ((n : Int) + m) = (n : Int) + m := IntWalk.i64_in _ (by omega)
  unfold ptrV at ha
  clear h hL hn hm ho ht cd
  go_enter Try.func39, Try.ntmps39
  go_wp2_with fail
  refine ha.mono ?_; rintro e w1 ⟨rfl, rfl⟩
  go_upto_region 4 with fail
  refine wp_region_plan (Cls L) (List.range 12) (.reads [0, 1, 2, 3, 5, 6, 7, 8] (.only 4 (.only 9 (.reads [10, 11] .done)))) (by kernel_rfl) (by kernel_rfl) (fun _ _ _ _ _ h => h) ?_
  simp only [Plan.reads, Plan.only, List.foldr_cons, List.foldr_nil]
  iterate 8 (refine wpPlan_readS hS0 (fun K hK => ?_); simp only [List.getD_cons_zero, List.getD_cons_succ]; go_simp; refine hK _ ?_; clear hK K)
  refine wpPlan_only (fun K hK => ?_)
  simp only [List.getD_cons_zero, List.getD_cons_succ]
  go_simp
  refine h1.mono ?_; rintro e w' ⟨rfl, rfl⟩
  refine hK _ _ (fun _ => Cls.mk hS0) ?_
  clear hK K
  refine wpPlan_only (fun K hK => ?_)
  simp only [List.getD_cons_zero, List.getD_cons_succ]
  go_simp
  refine h2.mono ?_; rintro e w' ⟨rfl, rfl⟩
  refine hK _ _ (fun _ => Cls.mk hS0) ?_
  clear hK K
  iterate 2 (refine wpPlan_readS hS0 (fun K hK => ?_); simp only [List.getD_cons_zero, List.getD_cons_succ]; go_simp; refine hK _ ?_; clear hK K)
  refine wpPlan_done ?_
  clear hS0 hS1 hS2 hSA h1 h2
  go_wp2_with fail
  go_ret
  exact ⟨by push_cast; rfl, (Ch.refl _ _).drewN 1⟩
end
end Go.Proofs.Ytalnkhcippcghaa
