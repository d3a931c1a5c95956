/-
  Contracts of package pool: fresh. Conditions: none beyond what each theorem names.
-/
import Derived.Test.YtalnkhcippcghaaPool4
namespace Go.Proofs.Ytalnkhcippcghaa
open Go.RowKit
section
variable {w w2 : World} {B p : Nat} {vs vf ve : Value} {X F E : List Nat} {O T : Nat → Nat} {Fl : Nat → Bool} {C : Nat → List Int} {S : List Nat}
/-- What a block that is none of the pool's buffers holds does not matter. -/
theorem PoolAt.freshC (h : PoolAt w p vs vf ve X O T Fl F E C) {b : Nat} (hb : w.heap.size ≤ b) (L : List Int) : PoolAt w p vs vf ve X O T Fl F E (updN C b L) := by
  have hne : ∀ x, BufAt w x (C x) → BufAt w x (updN C b L x) := fun x hx => by
    unfold updN
    have := hx.lt
    rw [if_neg (by omega)]
    exact hx
  exact ⟨h.top, h.ps, h.fu, h.em, h.pr, fun i hi => hne _ (h.one i hi), fun i hi => hne _ (h.two i hi), fun x hx => hne _ (h.bF x hx), fun x hx => hne _ (h.bE x hx), h.xnd, h.ap⟩
theorem PtS.front {e : TypeId} {a : Option Addr} {n cap b : Nat} {ns : List Nat} (h : PtS w e (.slice a (n + 1) cap) (ns ++ [b])) (hn : ns.length = n) : PtS w e (.slice a n cap) ns := by
  subst hn
  refine ⟨by simp, ?_⟩
  rcases h.2 with ⟨hv, _⟩ | ⟨g, off, cap', cur, hv, hg, h1, h2, h3, h4⟩
  · cases hv
  · simp only [Value.slice.injEq] at hv
    obtain ⟨rfl, _, rfl⟩ := hv
    refine .inr ⟨g, off, cap, cur, rfl, hg, by simp at h1; omega, h2, h3, fun j u hu => h4 j u ?_⟩
    have hj := (List.getElem?_eq_some_iff.1 hu).1
    rw [List.map_append, List.getElem?_append_left hj]
    exact hu
theorem freshNew (h : PoolAt w p vs vf ve X O T Fl F [] C) :
    Calls Try.prog 50 #[.pointer (some ⟨p, 0, none⟩)] w fun e w' => e = .returned (ptrV w.heap.size) ∧ PoolAt w' p vs vf ve X O T Fl F [] (updN C w.heap.size []) ∧ BufAt w' w.heap.size [] ∧ Ch [] w w' := by
  have c2 := h.top.cell 2
  obtain ⟨a, cap, rfl, _⟩ := h.em.form
  unfold ptrV
  go_enter Try.func50, Try.ntmps50
  go_wp2_with fail
  refine (bufNew w).mono ?_; rintro e w1 ⟨rfl, b1, c1⟩
  have h1 := (h.freshC (Nat.le_refl _) []).ch c1
  go_wp2_with fail
  go_ret
  exact ⟨rfl, h1, b1, c1⟩
/-- What fresh leaves where an empty one was there. -/
def Freshed (w : World) (B p : Nat) (vs vf : Value) (X : List Nat) (O T : Nat → Nat) (Fl : Nat → Bool) (F E : List Nat) (C : Nat → List Int) (w' : World) : Prop := ∃ ve', PoolAt w' p vs vf ve' X O T Fl F E C ∧ PB B p vs vf ve' X O T F E ∧ Fr B w w'
theorem freshOld (b : Nat) (h : PoolAt w p vs vf ve X O T Fl F (E ++ [b]) C) (hb : PB B p vs vf ve X O T F (E ++ [b])) (hl : E.length ≤ 1000) :
    Calls Try.prog 50 #[.pointer (some ⟨p, 0, none⟩)] w fun e w' => e = .returned (ptrV b) ∧ BufAt w' b (C b) ∧ Freshed w B p vs vf X O T Fl F E C w' := by
  have c2 := h.top.cell 2
  have f2 := h.top.frozen 2
  obtain ⟨a, cap, rfl, z1, z2, hc⟩ := h.em.form
  obtain ⟨n, hn⟩ : ∃ n, E.length = n := ⟨_, rfl⟩
  have hn1 : (E ++ [b]).length = n + 1 := by simp [hn]
  rw [hn1] at c2 h hb z1
  obtain ⟨g, o, rfl, d1⟩ := hc n b (by rw [← hn]; simp)
  rw [hn] at hl
  have hv := PtS.front h.em hn
  obtain ⟨R1, R2⟩ := h.setE hv (fun y hy => h.bE y (List.mem_append_left _ hy)) (fun k hk he => h.ap k hk he)
  have hbE := (h.rest h.top R2 (.inl rfl)).2.2.2.1 b _ (h.bE b (by simp))
  have f0 : Fr B w (w.setCell ⟨p, 2, none⟩ (.slice (some ⟨g, o, none⟩) n cap)) := Fr.one R2 hb.p ⟨_, _, h.top, by simp⟩
  have hpb : PB B p vs vf (.slice (some ⟨g, o, none⟩) n cap) X O T F E := ⟨hb.p, hb.x, hb.o, hb.t, hb.f, fun y hy => hb.e y (List.mem_append_left _ hy), hb.vs, hb.vf, fun k hk => hb.ve k hk⟩
  have n0 : ((n : Int) + 1 == 0) = false := by rw [beq_eq_false_iff_ne]; omega
  have wn : IntKind.i64.wrap (n : Int) = (n : Int) := IntWalk.i64_in _ (by omega)
  have hnc : (n : Int) ≤ cap := by omega
  unfold ptrV at d1 ⊢
  clear hn hn1 hc z1 z2 hv h hb R2
  go_enter Try.func50, Try.ntmps50
  go_wp2_with fail
  go_ret
  exact ⟨rfl, hbE, _, R1, hpb, f0⟩
end
end Go.Proofs.Ytalnkhcippcghaa
