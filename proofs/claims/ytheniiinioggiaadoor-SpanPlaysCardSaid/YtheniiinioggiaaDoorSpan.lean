/-
  Contracts of package span: places of one size. Conditions: none beyond what each theorem names.
-/
import Derived.Test.YtheniiinioggiaaDoorBitsCopies
import Derived.Test.YtheniiinioggiaaDoorClass
namespace Go.Proofs.YtheniiinioggiaaDoor
open Go.RowKit
/-- s is a span from page f on, of class k, with n places: U are used, M are marked, fr is where the last one was found. -/
structure SpanAt (w : World) (s : Nat) (f k : Int) (n bu bm : Nat) (U M : Nat → Bool) (Gu Gm : List Nat) (fr : Nat) : Prop where
  top : Blk w s #[.int .i64 f, .int .i64 k, .pointer (some ⟨bu, 0, none⟩), .pointer (some ⟨bm, 0, none⟩), .int .i64 fr] 72
  us : SetAt w bu n U Gu
  ms : SetAt w bm n M Gm
  ne : bu ≠ bm
  ap : ∀ x ∈ Gu, x ∉ Gm
  sl : (n : Int) = sls k
  sz : 0 < sz k
  fb : 1 ≤ f ∧ f ≤ 262144
  frn : fr ≤ n
/-- A span that was made since w0. -/
def SpIn (w0 w : World) (s : Nat) (f k : Int) (n : Nat) (U M : Nat → Bool) (fr : Nat) : Prop := ∃ bu bm Gu Gm, SpanAt w s f k n bu bm U M Gu Gm fr ∧ Ch [] w0 w ∧ w0.heap.size ≤ s ∧ w0.heap.size ≤ bu ∧ w0.heap.size ≤ bm ∧ (∀ x ∈ Gu, w0.heap.size ≤ x) ∧ (∀ x ∈ Gm, w0.heap.size ≤ x)
section
variable {w0 w w2 : World} {s n bu bm fr fr2 : Nat} {f k : Int} {U M U2 M2 : Nat → Bool} {Gu Gm : List Nat}
theorem SetAt.neS {w : World} {b n : Nat} {S : Nat → Bool} {G : List Nat} {s : Nat} {cs : Array Value} (h : SetAt w b n S G) (h2 : Blk w s cs 72) : s ≠ b ∧ s ∉ G := by
  obtain ⟨a, c, ws, h1, _, _, _, _, _, _, h8⟩ := h
  refine ⟨h2.ne h1 (by decide), ?_⟩
  rcases h8 with ⟨_, rfl⟩ | ⟨g, o, cs', rfl, _, h10, _⟩
  · simp
  · simp; exact h2.ne h10 (by decide)
theorem SpanAt.ch (h : SpanAt w s f k n bu bm U M Gu Gm fr) (hc : Ch [] w w2) : SpanAt w2 s f k n bu bm U M Gu Gm fr :=
  ⟨h.top.keep hc (by simp), h.us.ch hc, h.ms.ch hc, h.ne, h.ap, h.sl, h.sz, h.fb, h.frn⟩
theorem SpIn.still (h : SpIn w0 w s f k n U M fr) (hc : Ch [] w w2) : SpIn w0 w2 s f k n U M fr := by
  obtain ⟨bu, bm, Gu, Gm, h1, h2, h3⟩ := h
  exact ⟨bu, bm, Gu, Gm, h1.ch hc, h2.trans hc, h3⟩
theorem SpIn.chw (h : SpIn w0 w s f k n U M fr) : Ch [] w0 w := h.choose_spec.choose_spec.choose_spec.choose_spec.2.1
theorem SpanAt.turnU (h : SpanAt w s f k n bu bm U M Gu Gm fr) (h2 : SetAt w2 bu n U2 Gu) (hc : Ch (bu :: Gu) w w2) : SpanAt w2 s f k n bu bm U2 M Gu Gm fr := by
  have e1 := h.us.neS h.top
  refine ⟨h.top.keep hc (by simp only [List.mem_cons, not_or]; exact e1), h2, h.ms.keep hc ?_ ?_, h.ne, h.ap, h.sl, h.sz, h.fb, h.frn⟩
  · simp only [List.mem_cons, not_or]; exact ⟨h.ne.symm, h.us.cross h.ms⟩
  · intro x hx hx2
    simp only [List.mem_cons] at hx2
    rcases hx2 with rfl | hx2
    · exact h.ms.cross h.us hx
    · exact h.ap x hx2 hx
theorem SpanAt.turnM (h : SpanAt w s f k n bu bm U M Gu Gm fr) (h2 : SetAt w2 bm n M2 Gm) (hc : Ch (bm :: Gm) w w2) : SpanAt w2 s f k n bu bm U M2 Gu Gm fr := by
  have e1 := h.ms.neS h.top
  refine ⟨h.top.keep hc (by simp only [List.mem_cons, not_or]; exact e1), h.us.keep hc ?_ ?_, h2, h.ne, h.ap, h.sl, h.sz, h.fb, h.frn⟩
  · simp only [List.mem_cons, not_or]; exact ⟨h.ne, h.ms.cross h.us⟩
  · intro x hx hx2
    simp only [List.mem_cons] at hx2
    rcases hx2 with rfl | hx2
    · exact h.us.cross h.ms hx
    · exact h.ap x hx hx2
theorem SpanAt.setFr (h : SpanAt w s f k n bu bm U M Gu Gm fr) (hf : fr2 ≤ n) : SpanAt (w.setCell ⟨s, 4, none⟩ (.int .i64 fr2)) s f k n bu bm U M Gu Gm fr2 := by
  have e1 := h.us.neS h.top
  have e2 := h.ms.neS h.top
  have cs : Ch [s] w (w.setCell ⟨s, 4, none⟩ (.int .i64 fr2)) := (Ch.refl _ _).setCell (.inl (by simp)) _
  exact ⟨h.top.set 4 _, h.us.keep cs (by simp; exact e1.1.symm) (by intro x hx hx2; simp at hx2; subst hx2; exact e1.2 hx), h.ms.keep cs (by simp; exact e2.1.symm) (by intro x hx hx2; simp at hx2; subst hx2; exact e2.2 hx), h.ne, h.ap, h.sl, h.sz, h.fb, hf⟩
end
theorem spanBaseNil (w : World) : Calls Tryd.prog 43 #[.pointer none] w fun e w' => e = .returned (.int .i64 0) ∧ w' = w := by
  go_enter Tryd.func43, Tryd.ntmps43
  go_wp2
  go_ret
  exact ⟨rfl, rfl⟩
section
variable {w : World} {s n bu bm fr : Nat} {f k : Int} {U M : Nat → Bool} {Gu Gm : List Nat}
theorem spanBase (h : SpanAt w s f k n bu bm U M Gu Gm fr) : Calls Tryd.prog 43 #[.pointer (some ⟨s, 0, none⟩)] w fun e w' => e = .returned (.int .i64 (f * 64)) ∧ w' = w := by
  have c0 := h.top.cell 0
  obtain ⟨f1, f2⟩ := h.fb
  clear h
  go_enter Tryd.func43, Tryd.ntmps43
  go_wp2
  go_ret
  exact ⟨rfl, rfl⟩
theorem spanClass (h : SpanAt w s f k n bu bm U M Gu Gm fr) : Calls Tryd.prog 44 #[.pointer (some ⟨s, 0, none⟩)] w fun e w' => e = .returned (.int .i64 k) ∧ w' = w := by
  have c0 := h.top.cell 1
  clear h
  go_enter Tryd.func44, Tryd.ntmps44
  go_wp2
  go_ret
  exact ⟨rfl, rfl⟩
theorem spanSlots (h : SpanAt w s f k n bu bm U M Gu Gm fr) : Calls Tryd.prog 31 #[.pointer (some ⟨s, 0, none⟩)] w fun e w' => e = .returned (.int .i64 n) ∧ w' = w := by
  have c0 := h.top.cell 2
  have hl := bitsLen bu n U Gu w h.us
  clear h
  go_enter Tryd.func31, Tryd.ntmps31
  go_wp2_with fail
  refine hl.mono ?_; rintro e w' ⟨rfl, rfl⟩
  go_wp2
  go_ret
  exact ⟨rfl, rfl⟩
theorem spanUsed (i : Int) (h : SpanAt w s f k n bu bm U M Gu Gm fr) : Calls Tryd.prog 37 #[.pointer (some ⟨s, 0, none⟩), .int .i64 i] w fun e w' => e = .returned (.bool (hasI U n i)) ∧ w' = w := by
  have c0 := h.top.cell 2
  have hl := bitsHas bu n U Gu i w h.us
  clear h
  go_enter Tryd.func37, Tryd.ntmps37
  go_wp2_with fail
  refine hl.mono ?_; rintro e w' ⟨rfl, rfl⟩
  go_wp2
  go_ret
  exact ⟨rfl, rfl⟩
theorem spanMarked (i : Int) (h : SpanAt w s f k n bu bm U M Gu Gm fr) : Calls Tryd.prog 36 #[.pointer (some ⟨s, 0, none⟩), .int .i64 i] w fun e w' => e = .returned (.bool (hasI M n i)) ∧ w' = w := by
  have c0 := h.top.cell 3
  have hl := bitsHas bm n M Gm i w h.ms
  clear h
  go_enter Tryd.func36, Tryd.ntmps36
  go_wp2_with fail
  refine hl.mono ?_; rintro e w' ⟨rfl, rfl⟩
  go_wp2
  go_ret
  exact ⟨rfl, rfl⟩
theorem spanLive (h : SpanAt w s f k n bu bm U M Gu Gm fr) : Calls Tryd.prog 34 #[.pointer (some ⟨s, 0, none⟩)] w fun e w' => e = .returned (.int .i64 (cnt U n : Nat)) ∧ w' = w := by
  have c0 := h.top.cell 2
  have hl := bitsCount bu n U Gu w h.us
  clear h
  go_enter Tryd.func34, Tryd.ntmps34
  go_wp2_with fail
  refine hl.mono ?_; rintro e w' ⟨rfl, rfl⟩
  go_wp2
  go_ret
  exact ⟨rfl, rfl⟩
def full (U : Nat → Bool) (n fr : Nat) : Bool := decide (nxt U n fr false < 0)
theorem spanFull (h : SpanAt w s f k n bu bm U M Gu Gm fr) (hT : TabW w) : Calls Tryd.prog 35 #[.pointer (some ⟨s, 0, none⟩)] w fun e w' => e = .returned (.bool (full U n fr)) ∧ w' = w.drewN 1 := by
  have cd := (Ch.refl [] w).drewN 1
  have hl := bitsNext bu n U Gu false (fr : Int) _ (h.us.ch cd) (hT.ch cd)
  rw [Int.toNat_natCast] at hl
  obtain ⟨L, hL⟩ : ∃ L : World → Prop, ∀ w', L w' ↔ (w'.cell? ⟨s, 2, none⟩ = some (.pointer (some ⟨bu, 0, none⟩)) ∧ w'.cell? ⟨s, 4, none⟩ = some (.int .i64 fr)) := ⟨_, fun _ => Iff.rfl⟩
  have hS1 : ∀ x : { w' : World // L w' }, x.1.cell? ⟨s, 2, none⟩ = some (.pointer (some ⟨bu, 0, none⟩)) := fun x => ((hL _).1 x.2).1
  have hS2 : ∀ x : { w' : World // L w' }, x.1.cell? ⟨s, 4, none⟩ = some (.int .i64 fr) := fun x => ((hL _).1 x.2).2
  have hS0 : L (w.drewN 1) := (hL _).2 ⟨(h.top.drewN 1).cell 2, (h.top.drewN 1).cell 4⟩
  have hSA : Nonempty { w' : World // L w' } := ⟨⟨_, hS0⟩⟩
  clear h hL cd
  unfold full
  obtain ⟨x, hx⟩ : ∃ x, nxt U n fr false = x := ⟨_, rfl⟩
  rw [hx] at hl ⊢
  clear hx
  go_enter Tryd.func35, Tryd.ntmps35
  go_upto_region 1 with fail
  refine wp_region_plan (Cls L) (List.range 15) (.reads [0, 1, 2, 3, 4, 5, 6, 7, 8, 9, 10] (.only 11 (.reads [12, 13, 14] .done))) (by kernel_rfl) (by kernel_rfl) (fun _ _ _ _ _ h => h) ?_
  simp only [Plan.reads, Plan.only, List.foldr_cons, List.foldr_nil]
  iterate 11 (refine wpPlan_readS hS0 (fun K hK => ?_); simp only [List.getD_cons_zero, List.getD_cons_succ]; go_simp; refine hK _ ?_; clear hK K)
  refine wpPlan_only (fun K hK => ?_)
  simp only [List.getD_cons_zero, List.getD_cons_succ]
  go_simp
  refine hl.mono ?_; rintro e w' ⟨rfl, rfl⟩
  refine hK _ _ (fun _ => Cls.mk hS0) ?_
  clear hK K
  iterate 3 (refine wpPlan_readS hS0 (fun K hK => ?_); simp only [List.getD_cons_zero, List.getD_cons_succ]; go_simp; refine hK _ ?_; clear hK K)
  refine wpPlan_done ?_
  clear hS0 hS1 hS2 hSA hl
  go_wp2
  go_ret
  exact ⟨rfl, rfl⟩
theorem spanMarkNo (i : Int) (h : SpanAt w s f k n bu bm U M Gu Gm fr) (hu : hasI U n i = false) : Calls Tryd.prog 32 #[.pointer (some ⟨s, 0, none⟩), .int .i64 i] w fun e w' => e = .returned (.bool false) ∧ w' = w := by
  have hl := spanUsed i h
  rw [hu] at hl
  clear h hu
  go_enter Tryd.func32, Tryd.ntmps32
  go_wp2_with fail
  refine hl.mono ?_; rintro e w' ⟨rfl, rfl⟩
  go_wp2
  go_ret
  exact ⟨rfl, rfl⟩
theorem spanMarkYes (i : Int) (h : SpanAt w s f k n bu bm U M Gu Gm fr) (hu : hasI U n i = true) : Calls Tryd.prog 32 #[.pointer (some ⟨s, 0, none⟩), .int .i64 i] w fun e w' => e = .returned (.bool (setB M n i)) ∧ SpanAt w' s f k n bu bm U (putS M n i true) Gu Gm fr ∧ Ch (bm :: Gm) w w' := by
  have hl := spanUsed i h
  rw [hu] at hl
  have c0 := h.top.cell 3
  have hs := bitsSet bm n M Gm i w h.ms
  have H := Lib.hid h
  clear h hu
  go_enter Tryd.func32, Tryd.ntmps32
  go_wp2_with fail
  refine hl.mono ?_; rintro e w' ⟨rfl, rfl⟩
  clear hl
  go_wp2_with fail
  refine hs.mono ?_; rintro e w2 ⟨rfl, h2, h3⟩
  have hfin := H.out.turnM h2 h3
  clear hs h2 c0
  go_wp2
  go_ret
  exact ⟨rfl, hfin, h3⟩
end
end Go.Proofs.YtheniiinioggiaaDoor
