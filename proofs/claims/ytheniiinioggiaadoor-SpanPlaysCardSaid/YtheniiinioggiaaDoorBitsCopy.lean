/-
  Contract of package bits: Copy. Conditions: none beyond what each theorem names.
-/
import Derived.Test.YtheniiinioggiaaDoorBitsSt
import Derived.Test.YtheniiinioggiaaDoorPlan
import Derived.WalkSpells
namespace Go.Proofs.YtheniiinioggiaaDoor
open Go.RowKit
/-- The words read at an address. -/
def RdW (w : World) (a : Option Addr) (ws : List Nat) : Prop := ws = [] ∨ ∃ b o, a = some ⟨b, o, none⟩ ∧ ∀ (j x : Nat), ws[j]? = some x → w.cell? ⟨b, o + j, none⟩ = some (W64 x)
theorem RdW.ch {w w' : World} {a : Option Addr} {ws : List Nat} (h : RdW w a ws) (hc : Below w.heap.size w w') : RdW w' a ws := by
  rcases h with h | ⟨b, o, rfl, h⟩
  · exact .inl h
  · refine .inr ⟨b, o, rfl, fun j x hj => ?_⟩
    have h1 := h j x hj
    have hb : b < w.heap.size := by
      by_cases hb : b < w.heap.size
      · exact hb
      · have h2 : w.heap[b]? = none := Array.getElem?_eq_none (by omega)
        simp [World.cell?, h2] at h1
    exact (hc.cell (p := ⟨b, o + j, none⟩) hb).trans h1
theorem RdW.src {w : World} {a : Option Addr} {ws : List Nat} (c : Nat) (h : RdW w a ws) : Src Tryd.prog 1 64 (.slice a ws.length c) ws.length (ws.map W64) w := by
  cases a with
  | none =>
    rcases h with rfl | ⟨b, o, he, _⟩
    · exact Src.ofNil w Tryd.underlying64 c
    · cases he
  | some x =>
    refine Src.ofSlice w Tryd.underlying64 _ _ _ _ (by simp) (fun j u hu => ?_) (by intro u hu; obtain ⟨q, _, rfl⟩ := List.mem_map.1 hu; rfl)
    rcases h with rfl | ⟨b, o, he, hc⟩
    · simp at hu
    · simp only [Option.some.injEq] at he
      subst he
      rw [List.getElem?_map] at hu
      cases hx : ws[j]? with
      | none => rw [hx] at hu; cases hu
      | some y =>
        rw [hx] at hu
        rw [show (⟨b, o, none⟩ : Addr).add j = ⟨b, o + j, none⟩ by unfold Addr.add; split <;> simp_all, hc j y hx]
        exact hu
theorem cloneW (a : Option Addr) (ws : List Nat) (c : Nat) (w : World) (h : RdW w a ws) (hl : ws.length ≤ 1000000) :
    Calls Tryd.prog 53 #[.slice a ws.length c] w fun e w' =>
      ∃ v', e = .returned v' ∧ Own w' 68 1 v' ws.length (ws.map W64) ∧ (∀ k, v'.ownBlock = some k → w.heap.size ≤ k) ∧ Ch [] w w' := by
  obtain ⟨i0, hi0, hz0, hz1, hz2⟩ := info_parts Tryd.infoU64
  have heq := fun (w : World) (a : Option Addr) (n c : Nat) => Lib.run_eql_slice_nil (P := Tryd.prog) w 64 68 a n c 0 0 Tryd.underlying64
  cases a with
  | none =>
    have hx : ws = [] := by
      rcases h with h | ⟨b, o, he, _⟩
      · exact h
      · cases he
    subst hx
    go_enter Tryd.func53, Tryd.ntmps53
    go_wp2
    go_ret
    exact ⟨_, rfl, Own.nil _ _ _, by simp [Value.ownBlock], Ch.refl _ _⟩
  | some x =>
    go_enter Tryd.func53, Tryd.ntmps53
    have hown0 : Own (w.alloc (.cells #[] 68)) 68 1 (.slice (some ⟨w.heap.size, 0, none⟩) 0 0) 0 [] := ⟨rfl, .inr ⟨w.heap.size, 0, 0, #[], rfl, Blk.new _ _ _, Nat.le_refl _, Nat.zero_le _, Nat.le_refl _, fun j u hu => by simp at hu⟩⟩
    have hsrc' := RdW.src c (h.ch (((Ch.refl [] w).alloc (.cells #[] 68)).below (Nat.le_refl _) (by simp)))
    go_wp2_with (at_builtin; refine wpList_append_Own rfl _ _ 64 64 rfl 68 i0 (.int .u64 0) 1 8 Tryd.underlying64 hi0 hz0 hz1 hz2 rfl _ 0 [] rfl hown0 _ _ _ rfl hsrc' (by unfold maxLen; omega) (by omega) ?_)
    intro v' w2 hown2 hc2 hf2
    go_wp2
    go_ret
    refine ⟨v', rfl, by simpa using hown2, ?_, ((Ch.refl [] w).alloc (.cells #[] 68)).transT hc2 (by simp [Value.ownBlock])⟩
    intro k hk
    rcases hf2 with h2 | h2
    · rw [h2] at hk
      simp [Value.ownBlock] at hk
      omega
    · have := h2 k hk
      omega
/-- A set's three cells. -/
theorem SetAt.open {w : World} {b n : Nat} {S : Nat → Bool} {G : List Nat} (h : SetAt w b n S G) : ∃ (a : Option Addr) (c k : Nat) (ws : List Nat), Blk w b #[.int .i64 n, .slice a k c, .int .i64 (cnt S n : Nat)] 66 ∧ ws.length = k ∧ RdW w a ws ∧ k ≤ 1000000 ∧
    (∀ (w' : World) (b' g o c' : Nat) (a' : Option Addr) (G' : List Nat), Blk w' b' #[.int .i64 n, .slice a' k c', .int .i64 (cnt S n : Nat)] 66 → k ≤ c' → c' ≤ maxLen → ((k = 0 ∧ G' = []) ∨ ∃ cs : Array Value, G' = [g] ∧ a' = some ⟨g, o, none⟩ ∧ Blk w' g cs 68 ∧ ∀ (j x : Nat), ws[j]? = some x → cs[o + j]? = some (W64 x)) → SetAt w' b' n S G') := by
  obtain ⟨a, c, ws, h1, h2, h3, h4, h5, h6, h7, h8⟩ := h
  refine ⟨a, c, ws.length, ws, h1, rfl, ?_, by omega, ?_⟩
  · rcases h8 with ⟨h8, _⟩ | ⟨g, o, cs, rfl, rfl, h10, h11⟩
    · exact .inl h8
    · exact .inr ⟨g, o, rfl, fun j x hj => (h10.cell (o + j)).trans (h11 j x hj)⟩
  · intro w' b' g o c' a' G' q1 q2 q3 q4
    refine ⟨a', c', ws, q1, h2, q2, q3, h5, h6, h7, ?_⟩
    rcases q4 with ⟨h0, hG⟩ | ⟨cs, hG, ha, q5, q6⟩
    · exact .inl ⟨List.eq_nil_of_length_eq_zero h0, hG⟩
    · exact .inr ⟨g, o, cs, hG, ha, q5, q6⟩
theorem SetAt.ncell {w : World} {b n : Nat} {S : Nat → Bool} {G : List Nat} (h : SetAt w b n S G) : w.cell? ⟨b, 0, none⟩ = some (.int .i64 n) := by
  obtain ⟨a, c, ws, h1, _⟩ := h
  exact h1.cell 0
theorem bitsCopyNe (b n : Nat) (S : Nat → Bool) (G : List Nat) (b' m : Nat) (T : Nat → Bool) (G' : List Nat) (w : World) (h : SetAt w b n S G) (h' : SetAt w b' m T G') (hne : n ≠ m) :
    Calls Tryd.prog 26 #[.pointer (some ⟨b, 0, none⟩), .pointer (some ⟨b', 0, none⟩)] w fun e w' => e = .returned (.bool false) ∧ Ch [] w w' := by
  have c1 := h.ncell
  have c2 := h'.ncell
  have z1 : ((n : Int) != (m : Int)) = true := by rw [bne_iff_ne]; omega
  clear h h'
  obtain ⟨L, hLL⟩ : ∃ L : World → Prop, ∀ w', L w' ↔ (w'.cell? ⟨b, 0, none⟩ = some (.int .i64 n) ∧ w'.cell? ⟨b', 0, none⟩ = some (.int .i64 m)) := ⟨_, fun _ => Iff.rfl⟩
  have hS0 : L (w.drewN 1) := (hLL _).2 ⟨c1, c2⟩
  have hS1 : ∀ y : { w' : World // L w' }, y.1.cell? ⟨b, 0, none⟩ = some (.int .i64 n) := fun y => ((hLL _).1 y.2).1
  have hS2 : ∀ y : { w' : World // L w' }, y.1.cell? ⟨b', 0, none⟩ = some (.int .i64 m) := fun y => ((hLL _).1 y.2).2
  have hSA : Nonempty { w' : World // L w' } := ⟨⟨_, hS0⟩⟩
  clear hLL
  go_enter Tryd.func26, Tryd.ntmps26
  go_upto_region 1 with fail
  refine wp_region_plan (Cls L) (List.range 17) (.reads [0, 1, 2, 3, 4, 5, 6, 7, 8, 9, 10, 11, 12, 13, 14, 15, 16] .done) (by kernel_rfl) (by kernel_rfl) (fun _ _ _ _ _ h => h) ?_
  simp only [Plan.reads, Plan.only, List.foldr_cons, List.foldr_nil]
  iterate 17 (refine wpPlan_readS hS0 (fun K hK => ?_); simp only [List.getD_cons_zero, List.getD_cons_succ]; go_simp; refine hK _ ?_; clear hK K)
  refine wpPlan_done ?_
  clear hS0 hS1 hS2 hSA
  go_wp2
  go_ret
  exact ⟨rfl, (Ch.refl [] w).drewN 1⟩
theorem bitsCopyEq (b n : Nat) (S : Nat → Bool) (G : List Nat) (b' : Nat) (T : Nat → Bool) (G' : List Nat) (w : World) (h : SetAt w b n S G) (h' : SetAt w b' n T G') :
    Calls Tryd.prog 26 #[.pointer (some ⟨b, 0, none⟩), .pointer (some ⟨b', 0, none⟩)] w fun e w' => e = .returned (.bool true) ∧ (∃ G2, SetAt w' b n T G2 ∧ ∀ k ∈ G2, w.heap.size ≤ k) ∧ Ch [b] w w' := by
  have c1 := h.ncell
  have c2 := h'.ncell
  obtain ⟨a0, q0, k0, ws0, hB0, _⟩ := h.open
  obtain ⟨a, q, k, ws, hB, hk, hR, hk6, hmk⟩ := h'.open
  obtain ⟨C, hC⟩ : ∃ C, cnt T n = C := ⟨_, rfl⟩
  obtain ⟨C0, hC0⟩ : ∃ C, cnt S n = C := ⟨_, rfl⟩
  rw [hC] at hB hmk
  rw [hC0] at hB0
  have d1 := hB.cell 1
  have d2 := hB.cell 2
  have z1 : ((n : Int) != (n : Int)) = false := by simp
  have HK := Lib.hid hk
  have HM := Lib.hid hmk
  clear h h' hC hC0 hk hmk
  obtain ⟨L, hLL⟩ : ∃ L : World → Prop, ∀ w', L w' ↔ (w'.cell? ⟨b, 0, none⟩ = some (.int .i64 n) ∧ w'.cell? ⟨b', 0, none⟩ = some (.int .i64 n)) := ⟨_, fun _ => Iff.rfl⟩
  have hS0 : L (w.drewN 1) := (hLL _).2 ⟨c1, c2⟩
  have hS1 : ∀ y : { w' : World // L w' }, y.1.cell? ⟨b, 0, none⟩ = some (.int .i64 n) := fun y => ((hLL _).1 y.2).1
  have hS2 : ∀ y : { w' : World // L w' }, y.1.cell? ⟨b', 0, none⟩ = some (.int .i64 n) := fun y => ((hLL _).1 y.2).2
  have hSA : Nonempty { w' : World // L w' } := ⟨⟨_, hS0⟩⟩
  clear hLL
  go_enter Tryd.func26, Tryd.ntmps26
  go_upto_region 1 with fail
  refine wp_region_plan (Cls L) (List.range 17) (.reads [0, 1, 2, 3, 4, 5, 6, 7, 8, 9, 10, 11, 12, 13, 14, 15, 16] .done) (by kernel_rfl) (by kernel_rfl) (fun _ _ _ _ _ h => h) ?_
  simp only [Plan.reads, Plan.only, List.foldr_cons, List.foldr_nil]
  iterate 17 (refine wpPlan_readS hS0 (fun K hK => ?_); simp only [List.getD_cons_zero, List.getD_cons_succ]; go_simp; refine hK _ ?_; clear hK K)
  refine wpPlan_done ?_
  clear hS0 hS1 hS2 hSA c1 c2
  obtain ⟨w1, hw1⟩ : ∃ w1, w.drewN 1 = w1 := ⟨_, rfl⟩
  have cw1 : Ch [] w w1 := by rw [← hw1]; exact (Ch.refl [] w).drewN 1
  rw [hw1]
  clear hw1
  have hB1 := hB.keep cw1 (by simp)
  have hB01 := hB0.keep cw1 (by simp)
  go_upto_region 3 with fail
  obtain ⟨L, hLL⟩ : ∃ L : World → Prop, ∀ w', L w' ↔ (w'.cell? ⟨b', 1, none⟩ = some (.slice a k q) ∧ w'.cell? ⟨b', 2, none⟩ = some (.int .i64 C)) := ⟨_, fun _ => Iff.rfl⟩
  have hS1 : ∀ y : { w' : World // L w' }, y.1.cell? ⟨b', 1, none⟩ = some (.slice a k q) := fun y => ((hLL _).1 y.2).1
  have hS2 : ∀ y : { w' : World // L w' }, y.1.cell? ⟨b', 2, none⟩ = some (.int .i64 C) := fun y => ((hLL _).1 y.2).2
  have hLk : ∀ w', Ch [] w1 w' → L w' := fun w' hc => (hLL _).2 ⟨(hB1.keep hc (by simp)).cell 1, (hB1.keep hc (by simp)).cell 2⟩
  have hlc := hLk _ ((Ch.refl [] w1).drewN 1)
  have hSA : Nonempty { w' : World // L w' } := ⟨⟨_, hlc⟩⟩
  have HLk := Lib.hid hLk
  clear hLL hLk d1 d2
  refine wp_region_plan (Cls L) [5, 6, 10] (.pures [0, 1, 2, 3, 4, 7, 8, 9] (.reads [5, 10] (.only 6 (.pures [11, 12] (.only 13 (.pures [14, 15] (.only 16 .done))))))) (by kernel_rfl) (by kernel_rfl) (fun _ _ _ _ _ h => h) ?_
  simp only [Plan.reads, Plan.pures, Plan.only, List.foldr_cons, List.foldr_nil]
  iterate 8 (refine wpPlan_pure (fun K hK => ?_); simp only [List.getD_cons_zero, List.getD_cons_succ]; go_simp; refine hK _ ?_; clear hK K)
  iterate 2 (refine wpPlan_readS hlc (fun K hK => ?_); simp only [List.getD_cons_zero, List.getD_cons_succ]; go_simp; refine hK _ ?_; clear hK K)
  clear hS1 hS2 hSA
  have hCl := cloneW a ws q (w1.drewN 1) (hR.ch ((cw1.trans ((Ch.refl [] w1).drewN 1)).below (Nat.le_refl _) (by simp))) (by rw [HK.out]; exact hk6)
  rw [HK.out] at hCl
  refine wpPlan_only (fun K hK => ?_)
  simp only [List.getD_cons_zero, List.getD_cons_succ]
  go_simp
  refine hCl.mono ?_; rintro e w2 ⟨v', rfl, o2, f2, c2⟩
  have c12 : Ch [] w1 w2 := ((Ch.refl [] w1).drewN 1).trans c2
  refine hK _ _ (fun _ => Cls.mk (HLk.out _ c12)) ?_
  clear hK K hCl hlc
  iterate 2 (refine wpPlan_pure (fun K hK => ?_); simp only [List.getD_cons_zero, List.getD_cons_succ]; go_simp; refine hK _ ?_; clear hK K)
  have hb2 := hB01.keep c12 (by simp)
  have q1 := hb2.frozen 1
  have q1c := hb2.cell 1
  obtain ⟨a4, cap4, rfl, hcap, hnone⟩ := o2.form
  have hb3 := hb2.set 1 (.slice a4 k cap4)
  obtain ⟨w3, hw3⟩ : ∃ w3, w2.setCell ⟨b, 1, none⟩ (.slice a4 k cap4) = w3 := ⟨_, rfl⟩
  rw [hw3] at hb3
  have c23 : Ch [b] w2 w3 := by rw [← hw3]; exact (Ch.refl _ _).setCell (.inl (by simp)) _
  refine wpPlan_only (fun K hK => ?_)
  simp only [List.getD_cons_zero, List.getD_cons_succ]
  go_simp
  refine hK _ _ (by simp) ?_
  clear hK K q1 q1c
  iterate 2 (refine wpPlan_pure (fun K hK => ?_); simp only [List.getD_cons_zero, List.getD_cons_succ]; go_simp; refine hK _ ?_; clear hK K)
  have q2 := hb3.frozen 2
  have q2c := hb3.cell 2
  have hb4 := hb3.set 2 (.int .i64 (C : Int))
  obtain ⟨w4, hw4⟩ : ∃ w4, w3.setCell ⟨b, 2, none⟩ (.int .i64 (C : Int)) = w4 := ⟨_, rfl⟩
  rw [hw4] at hb4
  have c34 : Ch [b] w3 w4 := by rw [← hw4]; exact (Ch.refl _ _).setCell (.inl (by simp)) _
  refine wpPlan_only (fun K hK => ?_)
  simp only [List.getD_cons_zero, List.getD_cons_succ]
  go_simp
  refine hK _ _ (by simp) ?_
  clear hK K q2 q2c
  refine wpPlan_done ?_
  have cfin : Ch [b] w w4 := (((cw1.trans c12).mono (by simp)).trans c23).trans c34
  have hsz := (cw1.trans ((Ch.refl [] w1).drewN 1)).size
  have hset : ∃ G2, SetAt w4 b n T G2 ∧ ∀ k ∈ G2, w.heap.size ≤ k := by
    rcases o2 with ⟨hl, ⟨hv, h0⟩ | ⟨g, o, cap, cur, he, hbg, hnc, hcm, _, hu⟩⟩
    · refine ⟨[], HM.out w4 b 0 0 cap4 a4 [] hb4 hcap ?_ (.inl ⟨h0, rfl⟩), by simp⟩
      simp only [Value.slice.injEq] at hv
      rw [hv.2.2]; exact Nat.zero_le _
    · simp only [Value.slice.injEq] at he
      obtain ⟨rfl, _, rfl⟩ := he
      have hg := f2 g rfl
      have hgb : g ≠ b := by have := hB0.lt; omega
      refine ⟨[g], HM.out w4 b g o cap4 _ [g] hb4 hcap hcm (.inr ⟨cur, rfl, rfl, (hbg.keep c23 (by simpa using hgb)).keep c34 (by simpa using hgb), fun j x hj => hu j _ (by rw [List.getElem?_map, hj]; rfl)⟩), by intro k hk; simp at hk; omega⟩
  clear hb2 hb3 hb4 hB1 hB01 hB hB0 o2 c2 c12 c23 c34 hw3 hw4 hnone
  go_wp2
  go_ret
  exact ⟨rfl, hset, cfin⟩
end Go.Proofs.YtheniiinioggiaaDoor
