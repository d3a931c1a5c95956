/-
  Contracts of package pool: New. Conditions: none beyond what each theorem names.
-/
import Derived.Test.YtalnkhcippcghaaPool12
namespace Go.Proofs.Ytalnkhcippcghaa
open Go.RowKit
theorem Try.infoPairP : (Try.prog.info? 82).map (fun i => (i.zero, i.size, i.bytes)) = some (some (.pointer none), 1, 8) := by kernel_rfl
theorem srcPair (w : World) (b : Nat) : Src Try.prog 1 78 (.slice (some ⟨w.heap.size, 0, none⟩) 1 1) 1 [ptrV b] (w.alloc (.cells #[ptrV b] 82)) :=
  Src_lit Try.underlying78 w [_] 1 1 rfl _ (mem_one rfl)
theorem wp_appX {w : World} {o : Oper} {a : Act} {K : Act → World → Prop} {Q : Exit → Act → World → Prop} (s x : Operand)
    (ho : o.op = .call { callee := .builtin .append, args := #[s, x], argTypes := #[78, 78] })
    (v : Value) (ns : List Nat) (hs : a.eval s = v) (hv : PtS w 82 v ns) (b : Nat) (xv : Value) (hx : a.eval x = xv) (hsrc : Src Try.prog 1 78 xv 1 [ptrV b] w) (hl : ns.length ≤ 100000)
    (h : ∀ v' w', PtS w' 82 v' (ns ++ [b]) → Ch v.ownBlock.toList w w' → (v'.ownBlock = v.ownBlock ∨ ∀ k, v'.ownBlock = some k → w.heap.size ≤ k) → K (a.put o.dst v') w') :
    o.wp Try.prog a w K Q := by
  obtain ⟨i0, hi0, hz0, hz1, hz2⟩ := info_parts Try.infoPairP
  refine wp_append_Own s x _ _ ho 82 i0 (.pointer none) 1 8 Try.underlying78 hi0 hz0 hz1 hz2 rfl v ns.length _ hs hv xv 1 [ptrV b] hx hsrc (by unfold maxLen; omega) (by omega) (fun v' w' h1 h2 h3 => h v' w' ?_ h2 h3)
  unfold PtS
  rw [List.length_append, List.map_append]
  exact h1
section
variable {w w2 : World} {B p n i : Nat} {vs vf ve : Value} {X F E E' : List Nat} {O T : Nat → Nat} {Fl : Nat → Bool} {C C' : Nat → List Int} {s : PSt} {loc : Nat → Nat}
theorem PoolAt.blkX (h : PoolAt w p vs vf ve X O T Fl F E C) : ∀ k ∈ vs.ownBlock.toList, ∃ cs, Blk w k cs 82 := fun k hk => Own.blkAt h.ps (by simpa using hk)
/-- What stays while the row of pairs turns. -/
theorem PoolAt.rowKeepX (h : PoolAt w p vs vf ve X O T Fl F E C) (hc : Ch vs.ownBlock.toList w w2) :
    Blk w2 p #[vs, vf, ve] 81 ∧ PtS w2 23 vf F ∧ PtS w2 23 ve E ∧ (∀ i x, X[i]? = some x → Blk w2 x #[ptrV (O i), ptrV (T i), .bool (Fl i)] 84) ∧ ∀ x L, BufAt w x L → BufAt w2 x L := by
  have hne : ∀ k cs' t', Blk w k cs' t' → t' ≠ 82 → k ∉ vs.ownBlock.toList := fun k cs' t' hk hh hm => by
    obtain ⟨cs, hb⟩ := h.blkX k hm
    exact hk.ne hb hh rfl
  refine ⟨h.top.keep hc (hne _ _ _ h.top (by decide)), h.fu.keep hc (fun k hk he => ?_), h.em.keep hc (fun k hk he => ?_), fun i x hx => (h.pr i x hx).keep hc (hne _ _ _ (h.pr i x hx) (by decide)), fun x L hx => ?_⟩
  · obtain ⟨cs, hx⟩ := Own.blkAt h.fu he
    exact hne k _ _ hx (by decide) hk
  · obtain ⟨cs, hx⟩ := Own.blkAt h.em he
    exact hne k _ _ hx (by decide) hk
  · obtain ⟨cb, hbb⟩ := hx.blk
    exact hx.keep hc (hne _ _ _ hbb (by decide))
/-- One P more. -/
theorem PoolAt.appX (h : PoolAt w p vs vf ve X O T Fl F E C) (hc : Ch vs.ownBlock.toList w w2) {v' : Value} {x o t : Nat} (hv : PtS w2 82 v' (X ++ [x])) (hx : Blk w x #[ptrV o, ptrV t, .bool false] 84) (ho : BufAt w o (C o)) (ht : BufAt w t (C t)) (hxX : x ∉ X) :
    PoolAt (w2.setCell ⟨p, 0, none⟩ v') p v' vf ve (X ++ [x]) (updN O X.length o) (updN T X.length t) (updN Fl X.length false) F E C := by
  obtain ⟨r1, r2, r3, r4, r5⟩ := h.rowKeepX hc
  have cs : Ch [p] w2 (w2.setCell ⟨p, 0, none⟩ v') := (Ch.refl [p] w2).setCell (.inl (by simp)) _
  have hx2 : Blk w2 x #[ptrV o, ptrV t, .bool false] 84 := hx.keep hc (fun hm => by
    obtain ⟨cs', hb⟩ := h.blkX x hm
    exact hx.ne hb (by decide) rfl)
  have hnp : ∀ e v ns k, PtS w2 e v ns → e ≠ 81 → k ∈ [p] → v.ownBlock ≠ some k := fun e v ns k hh he hk hb => by
    obtain ⟨cs', hx⟩ := Own.blkAt hh hb
    simp at hk
    exact hx.ne r1 he hk
  have hbf : ∀ y L, BufAt w y L → BufAt (w2.setCell ⟨p, 0, none⟩ v') y L := fun y L hy => by
    have h2 := r5 y L hy
    obtain ⟨cb, hbb⟩ := h2.blk
    exact h2.keep cs (fun hm => hbb.ne r1 (by decide) (by simpa using hm))
  refine ⟨r1.set 0 _, hv.keep cs (fun k hk => hnp _ _ _ k hv (by decide) hk), r2.keep cs (fun k hk => hnp _ _ _ k r2 (by decide) hk), r3.keep cs (fun k hk => hnp _ _ _ k r3 (by decide) hk),
    fun j y hy => ?_, fun j hj => ?_, fun j hj => ?_, fun y hy => hbf _ _ (h.bF y hy), fun y hy => hbf _ _ (h.bE y hy), ?_, h.ap⟩
  · rcases getPush hy with hy | ⟨rfl, rfl⟩
    · have hj : j ≠ X.length := by have := (List.getElem?_eq_some_iff.1 hy).1; omega
      rw [updN_ne _ _ hj, updN_ne _ _ hj, updN_ne _ _ hj]
      exact (r4 j y hy).keep cs (fun hm => (r4 j y hy).ne r1 (by decide) (by simpa using hm))
    · rw [updN_at, updN_at, updN_at]
      exact hx2.keep cs (fun hm => hx2.ne r1 (by decide) (by simpa using hm))
  · by_cases e : j = X.length
    · subst e; rw [updN_at]; exact hbf _ _ ho
    · rw [updN_ne _ _ e]; exact hbf _ _ (h.one j (by simp at hj; omega))
  · by_cases e : j = X.length
    · subst e; rw [updN_at]; exact hbf _ _ ht
    · rw [updN_ne _ _ e]; exact hbf _ _ (h.two j (by simp at hj; omega))
  · rw [List.nodup_append]
    exact ⟨h.xnd, by simp, fun a ha b hb e => by simp at hb; subst hb; subst e; exact hxX ha⟩
theorem PB.more (h : PB B p vs vf ve X O T F E) {v' : Value} {x o t : Nat} (hx : B ≤ x) (ho : B ≤ o) (ht : B ≤ t) (hv : ∀ k, v'.ownBlock = some k → B ≤ k) : PB B p v' vf ve (X ++ [x]) (updN O X.length o) (updN T X.length t) F E := by
  refine ⟨h.p, fun y hy => ?_, fun j hj => ?_, fun j hj => ?_, h.f, h.e, hv, h.vf, h.ve⟩
  · rcases List.mem_append.1 hy with hy | hy
    · exact h.x y hy
    · simp at hy; subst hy; exact hx
  · by_cases e : j = X.length
    · subst e; rw [updN_at]; exact ho
    · rw [updN_ne _ _ e]; exact h.o j (by simp at hj; omega)
  · by_cases e : j = X.length
    · subst e; rw [updN_at]; exact ht
    · rw [updN_ne _ _ e]; exact h.t j (by simp at hj; omega)
/-- A pool without objects, one P more. -/
theorem Rep.more (h : Rep n O T [] [] C loc initP) {o t : Nat} (ho : ∀ j, j < n → O j ≠ o ∧ T j ≠ o) (ht : ∀ j, j < n → O j ≠ t ∧ T j ≠ t) (hot : o ≠ t) :
    Rep (n + 1) (updN O n o) (updN T n t) [] [] (updN (updN C o []) t []) (updN (updN loc o (4 * n)) t (4 * n + 1)) initP := by
  refine ⟨fun j hj => ?_, fun j hj => ?_, fun k b hb => by simp at hb, fun k b hb => by simp at hb, fun j hj => ?_, fun j hj => ?_, fun k b hb => by simp at hb, rfl, rfl, fun k b hb => by simp at hb, fun L hL => by cases hL⟩
  · by_cases e : j = n
    · subst e; rw [updN_at, updN_ne _ _ hot, updN_at]
    · have hj' : j < n := by omega
      rw [updN_ne O _ e, updN_ne _ _ (ht j hj').1, updN_ne _ _ (ho j hj').1]; exact h.o j hj'
  · by_cases e : j = n
    · subst e; rw [updN_at, updN_at]
    · have hj' : j < n := by omega
      rw [updN_ne T _ e, updN_ne _ _ (ht j hj').2, updN_ne _ _ (ho j hj').2]; exact h.t j hj'
  · by_cases e : j = n
    · subst e; rw [updN_at, updN_ne _ _ hot, updN_at]; rfl
    · have hj' : j < n := by omega
      rw [updN_ne O _ e, updN_ne _ _ (ht j hj').1, updN_ne _ _ (ho j hj').1]; exact h.one j hj'
  · by_cases e : j = n
    · subst e; rw [updN_at, updN_at]; rfl
    · have hj' : j < n := by omega
      rw [updN_ne T _ e, updN_ne _ _ (ht j hj').2, updN_ne _ _ (ho j hj').2]; exact h.two j hj'
end
theorem poolNewArg (w : World) (j : Int) (h : j < 1 ∨ 64 < j) : Calls Try.prog 34 #[.int .i64 j] w fun e w' => e = .returned (.tuple #[.pointer none, .int .i64 1]) ∧ w' = w := by
  rcases h with h | h
  · have t1 : decide (j < 1) = true := decide_eq_true h
    go_enter Try.func34, Try.ntmps34
    go_wp2_with fail
    go_ret2
    exact ⟨rfl, rfl⟩
  · have t1 : decide (j < 1) = false := decide_eq_false (by omega)
    have t2 : decide (j > 64) = true := decide_eq_true (by omega)
    have t3 : ¬ j < 1 := by omega
    go_enter Try.func34, Try.ntmps34
    go_wp2_with fail
    go_ret2
    exact ⟨rfl, rfl⟩
def NewPool (w : World) (n : Nat) (e : Ending) (w' : World) : Prop := ∃ p, e = .returned (.tuple #[.pointer (some ⟨p, 0, none⟩), .int .i64 0]) ∧ PoolS w.heap.size w' p n initP ∧ Ch [] w w'
set_option maxHeartbeats 1000000 in
theorem poolNew (w : World) (n : Nat) (h1 : 1 ≤ n) (h64 : n ≤ 64) : Calls Try.prog 34 #[.int .i64 n] w fun e w' => NewPool w n e w' := by
  have t1 : decide ((n : Int) < 1) = false := decide_eq_false (by omega)
  have t2 : decide ((n : Int) > 64) = false := decide_eq_false (by omega)
  have t3 : ¬ (n : Int) < 1 := by omega
  have t4 : ¬ (64 : Int) < n := by omega
  obtain ⟨B, hB⟩ : ∃ B, w.heap.size = B := ⟨_, rfl⟩
  have HB := Lib.hid hB
  go_enter Try.func34, Try.ntmps34
  go_wp2_with fail
  obtain ⟨W1, hW1⟩ : ∃ W1, w.alloc (.cells #[.slice none 0 0, .slice none 0 0, .slice none 0 0] 81) = W1 := ⟨_, rfl⟩
  have c1 : Ch [] w W1 := by rw [← hW1]; exact (Ch.refl [] w).alloc _
  have b1 : Blk W1 B #[.slice none 0 0, .slice none 0 0, .slice none 0 0] 81 := by rw [← hW1]; exact Blk.new' hB.symm _ _
  have hs1 : PoolS B W1 B 0 initP := by
    refine .of (vs := .slice none 0 0) (vf := .slice none 0 0) (ve := .slice none 0 0) (X := []) (O := fun _ => 0) (T := fun _ => 0) (F := []) (E := []) (C := fun _ => []) (loc := fun _ => 0) ⟨b1, Own.nil _ _ _, Own.nil _ _ _, Own.nil _ _ _, fun i x hx => by simp at hx, fun i hi => by simp at hi, fun i hi => by simp at hi, fun b hb => by simp at hb, fun b hb => by simp at hb, List.nodup_nil, fun k hk => by simp [Value.ownBlock] at hk⟩ ⟨Nat.le_refl _, fun x hx => by simp at hx, fun i hi => by simp at hi, fun i hi => by simp at hi, fun b hb => by simp at hb, fun b hb => by simp at hb, fun k hk => by simp [Value.ownBlock] at hk, fun k hk => by simp [Value.ownBlock] at hk, fun k hk => by simp [Value.ownBlock] at hk⟩ (by rw [← hB]; exact c1.size) rfl ⟨fun i hi => by omega, fun i hi => by omega, fun k b hb => by simp at hb, fun k b hb => by simp at hb, fun i hi => by omega, fun i hi => by omega, fun k b hb => by simp at hb, rfl, rfl, fun k b hb => by simp at hb, fun L hL => by cases hL⟩
  rw [hW1]
  clear hW1 b1 hB
  go_loopw [14] (fun s14 wr => ∃ k : Nat, s14 = .int .i64 k ∧ k ≤ n ∧ PoolS B wr B k initP ∧ Ch [] w wr) (fun s14 _ => n - (intOf s14).toNat)
  case atStart => exact ⟨0, rfl, by omega, hs1, c1⟩
  case round =>
    clear hs1 c1
    obtain ⟨k, rfl, hk, hS, hc⟩ := hrel
    by_cases hlt : k < n
    · have u1 : decide ((k : Int) < n) = true := decide_eq_true (by omega)
      obtain ⟨vs, vf, ve, X, O, T, F, E, C, loc, h, hpb, hB, hX, hr⟩ := hS
      have hF : F = [] := List.eq_nil_of_length_eq_zero hr.fl
      have hE : E = [] := List.eq_nil_of_length_eq_zero hr.ne
      subst hF hE
      go_upto_region 6 with fail
      have hd := h.ch ((Ch.refl [] wr).drewN 1)
      obtain ⟨W9, hW9⟩ : ∃ W9, wr.drewN 1 = W9 := ⟨_, rfl⟩
      have cd : Ch [] wr W9 := by rw [← hW9]; exact (Ch.refl [] wr).drewN 1
      rw [hW9] at hd
      obtain ⟨L, hL⟩ : ∃ L : World → Prop, ∀ w', L w' ↔ w'.cell? ⟨B, 0, none⟩ = some vs := ⟨_, fun _ => Iff.rfl⟩
      have hS1 : ∀ y : { w' : World // L w' }, y.1.cell? ⟨B, 0, none⟩ = some vs := fun y => (hL _).1 y.2
      have hLk : ∀ w' a b, Blk w' B #[vs, a, b] 81 → L w' := fun w' a b hb => (hL _).2 (hb.cell 0)
      have HLk := Lib.hid hLk
      have l0 := hLk _ _ _ hd.top
      have hSA : Nonempty { w' : World // L w' } := ⟨⟨_, l0⟩⟩
      clear hL hLk h
      refine wp_region_plan (Cls L) [0, 1, 2, 3, 4, 5, 6, 7, 8, 9, 10, 12] (.reads [0, 1, 2, 3, 4] (.only 5 (.only 6 (.reads [7] (.only 8 (.only 9 (.only 10 (.pures [11] (.reads [12] (.only 13 .done)))))))))) (by kernel_rfl) (by kernel_rfl) (fun _ _ _ _ _ h => h) ?_
      simp only [Plan.pures, Plan.reads, Plan.only, List.foldr_cons, List.foldr_nil]
      rw [hW9]
      clear hW9
      iterate 5 (refine wpPlan_readS l0 (fun K hK => ?_); simp only [List.getD_cons_zero, List.getD_cons_succ]; go_simp; refine hK _ ?_; clear hK K)
      refine wpPlan_only (fun K hK => ?_)
      simp only [List.getD_cons_zero, List.getD_cons_succ]
      go_simp
      refine (bufNew W9).mono ?_; rintro e w1 ⟨rfl, b1, c1⟩
      obtain ⟨o, ho⟩ : ∃ o, W9.heap.size = o := ⟨_, rfl⟩
      rw [ho] at b1 ⊢
      have h1 := (hd.freshC (Nat.le_of_eq ho) []).ch c1
      have l1 := HLk.out _ _ _ h1.top
      refine hK _ _ (fun _ => Cls.mk l1) ?_
      clear hK K
      refine wpPlan_only (fun K hK => ?_)
      simp only [List.getD_cons_zero, List.getD_cons_succ]
      go_simp
      refine (bufNew w1).mono ?_; rintro e w2 ⟨rfl, b2, c2⟩
      obtain ⟨t, ht⟩ : ∃ t, w1.heap.size = t := ⟨_, rfl⟩
      rw [ht] at b2 ⊢
      have h2 := (h1.freshC (Nat.le_of_eq ht) []).ch c2
      have l2 := HLk.out _ _ _ h2.top
      have hot : o ≠ t := by have := b1.lt; omega
      have b12 := b1.keep c2 (by simp)
      refine hK _ _ (fun _ => Cls.mk l2) ?_
      clear hK K
      refine wpPlan_readS l2 (fun K hK => ?_); simp only [List.getD_cons_zero, List.getD_cons_succ]; go_simp; refine hK _ ?_; clear hK K
      refine wpPlan_only (fun K hK => ?_)
      simp only [List.getD_cons_zero, List.getD_cons_succ]
      go_simp
      obtain ⟨x, hx⟩ : ∃ x, w2.heap.size = x := ⟨_, rfl⟩
      have bx := Blk.new' hx.symm #[ptrV o, ptrV t, .bool false] 84
      have cx := (Ch.refl [] w2).alloc (.cells #[ptrV o, ptrV t, .bool false] 84)
      have h3 := h2.ch cx
      have l3 := HLk.out _ _ _ h3.top
      have o3 := b12.keep cx (by simp)
      have t3' := b2.keep cx (by simp)
      obtain ⟨W3, hW3⟩ : ∃ W3, w2.alloc (.cells #[ptrV o, ptrV t, .bool false] 84) = W3 := ⟨_, rfl⟩
      rw [hW3] at bx cx h3 l3 o3 t3'
      unfold ptrV at hW3
      rw [hW3, hx]
      have hxX : x ∉ X := fun hm => by
        obtain ⟨j, hj⟩ := List.mem_iff_getElem?.1 hm
        have := (h2.pr j x hj).lt
        omega
      refine hK _ _ (fun _ => Cls.mk l3) ?_
      clear hK K hW3
      refine wpPlan_only (fun K hK => ?_)
      simp only [List.getD_cons_zero, List.getD_cons_succ]
      go_simp
      have ca := (Ch.refl [] W3).alloc (.cells #[ptrV x] 82)
      have h4 := h3.ch ca
      have l4 := HLk.out _ _ _ h4.top
      have o4 := o3.keep ca (by simp)
      have t4' := t3'.keep ca (by simp)
      have bx4 := bx.keep ca (by simp)
      have sP := srcPair W3 x
      obtain ⟨W4, hW4⟩ : ∃ W4, W3.alloc (.cells #[ptrV x] 82) = W4 := ⟨_, rfl⟩
      rw [hW4] at ca h4 l4 o4 t4' bx4 sP
      unfold ptrV at hW4
      rw [hW4]
      refine hK _ _ (fun _ => Cls.mk l4) ?_
      clear hK K hW4
      refine wpPlan_onlyU rfl (fun K hK => ?_); simp only [List.getD_cons_zero, List.getD_cons_succ]
      refine wp_appX (.tmp 20) (.tmp 25) rfl vs X rfl h4.ps x _ rfl sP (by omega) (fun v6 w6 hv6 c6 n6 => ?_)
      obtain ⟨r1, _, _, _, _⟩ := h4.rowKeepX c6
      have l6 := HLk.out _ _ _ r1
      obtain ⟨a6, cap6, rfl, _⟩ := hv6.form
      obtain ⟨k6, hk6⟩ : ∃ k6, (X ++ [x]).length = k6 := ⟨_, rfl⟩
      rw [hk6] at hv6 n6 ⊢
      refine hK _ _ (fun _ => Cls.mk l6) ?_
      clear hK K
      refine wpPlan_pure (fun K hK => ?_); simp only [List.getD_cons_zero, List.getD_cons_succ]; go_simp; refine hK _ ?_; clear hK K
      refine wpPlan_readS l6 (fun K hK => ?_); simp only [List.getD_cons_zero, List.getD_cons_succ]; go_simp; refine hK _ ?_; clear hK K
      have p2 := r1.cell 0
      have q2 := r1.frozen 0
      refine wpPlan_only (fun K hK => ?_)
      simp only [List.getD_cons_zero, List.getD_cons_succ]
      go_simp
      refine hK _ _ (by simp) ?_
      clear hK K p2 q2
      refine wpPlan_done ?_
      have hCo : updN (updN C o []) t [] o = [] := by rw [updN_ne _ _ hot, updN_at]
      have hCt : updN (updN C o []) t [] t = [] := updN_at _ _ _
      have R7 := h4.appX c6 hv6 bx4 (by rw [hCo]; exact o4) (by rw [hCt]; exact t4') hxX
      have szo : B ≤ o := by have := cd.size; omega
      have szt : B ≤ t := by have := b1.lt; omega
      have szx : B ≤ x := by have := b2.lt; omega
      have szw : B ≤ W4.heap.size := by have := bx4.lt; omega
      have P7 := hpb.more szx szo szt (v' := .slice a6 k6 cap6) (fun y hy => by
        rcases n6 with e | e
        · exact hpb.vs y (by rw [← e]; exact hy)
        · have := e y hy; omega)
      rw [hX] at R7 P7
      have hrm := hr.more (o := o) (t := t) (fun j hj => by
        have h1 := (hd.one j (by omega)).lt
        have h2 := (hd.two j (by omega)).lt
        omega) (fun j hj => by
        have h1 := (hd.one j (by omega)).lt
        have h2 := (hd.two j (by omega)).lt
        have := b1.lt
        omega) hot
      have cc : Ch [] w (w6.setCell ⟨B, 0, none⟩ (.slice a6 k6 cap6)) := by
        have c7 : Ch [] w W4 := ((((hc.trans cd).trans c1).trans c2).trans cx).trans ca
        refine (c7.transT c6 (fun y hy => .inr ?_)).transT ((Ch.refl [B] w6).setCell (.inl (by simp)) _) (fun y hy => .inr ?_)
        · have := hpb.vs y (by simpa using hy)
          have := HB.out
          omega
        · simp at hy; have := HB.out; omega
      have hfl : updN initP.fl k false = initP.fl := updN_self _ _
      rw [hfl] at R7
      have hfin := PoolS.of R7 P7 (by have := cc.size; have := HB.out; omega) (by rw [List.length_append, hX]; rfl) hrm
      clear R7 P7 hrm hd h1 h2 h3 h4 r1 hv6 n6 c6
      go_wp2_with fail
      go_roundw
      case rel => exact ⟨k + 1, by go_num, by omega, hfin, cc⟩
      case measure => simp [intOf]; omega
    · obtain rfl : k = n := by omega
      have u1 : decide ((k : Int) < k) = false := decide_eq_false (by omega)
      go_wp2_with fail
      go_ret2
      exact ⟨_, rfl, by rw [HB.out]; exact hS, hc⟩
end Go.Proofs.Ytalnkhcippcghaa
