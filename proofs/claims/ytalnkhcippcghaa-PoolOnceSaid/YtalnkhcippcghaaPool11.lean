/-
  Contracts of package pool: Flush. Conditions: none beyond what each theorem names.
-/
import Derived.Test.YtalnkhcippcghaaPool10
namespace Go.Proofs.Ytalnkhcippcghaa
open Go.RowKit
/-- A pool, with P i's pair at x. -/
def PoolX (B : Nat) (w : World) (p n : Nat) (s : PSt) (i x : Nat) : Prop := ∃ vs vf ve X O T F E C loc, PoolAt w p vs vf ve X O T s.fl F E C ∧ PB B p vs vf ve X O T F E ∧ B ≤ w.heap.size ∧ X.length = n ∧ Rep n O T F E C loc s ∧ X[i]? = some x
/-- What one round of Flush leaves. -/
def flushA (s : PSt) (i : Nat) : PSt := if s.one i ≠ [] then (s.flag i true).pushOne i else s
def flushB (s : PSt) (i : Nat) : PSt := if s.two i ≠ [] then (((s.flag i true).swap i).pushOne i).swap i else s
def flushS (s : PSt) (i : Nat) : PSt := flushB (flushA s i) i
section
variable {w w2 : World} {B p n i x : Nat} {vs vf ve : Value} {X F E E' : List Nat} {O T : Nat → Nat} {Fl : Nat → Bool} {C C' : Nat → List Int} {s : PSt} {loc : Nat → Nat}
theorem PoolX.toS (h : PoolX B w p n s i x) : PoolS B w p n s := by
  obtain ⟨vs, vf, ve, X, O, T, F, E, C, loc, h1, h2, h3, h4, h5, h6⟩ := h
  exact .of h1 h2 h3 h4 h5
theorem PoolX.of (h : PoolAt w p vs vf ve X O T s.fl F E C) (hb : PB B p vs vf ve X O T F E) (hB : B ≤ w.heap.size) (hn : X.length = n) (hr : Rep n O T F E C loc s) (hx : X[i]? = some x) : PoolX B w p n s i x := ⟨vs, vf, ve, X, O, T, F, E, C, loc, h, hb, hB, hn, hr, hx⟩
theorem PoolX.still {w' : World} (h : PoolX B w p n s i x) (hc : Ch [] w w') : PoolX B w' p n s i x := by
  obtain ⟨vs, vf, ve, X, O, T, F, E, C, loc, h, hb, hB, hn, hr, hx⟩ := h
  exact ⟨vs, vf, ve, X, O, T, F, E, C, loc, h.ch hc, hb, Nat.le_trans hB hc.size, hn, hr, hx⟩
theorem PoolS.toX (h : PoolS B w p n s) (hi : i < n) : ∃ x, PoolX B w p n s i x ∧ B ≤ x := by
  obtain ⟨vs, vf, ve, X, O, T, F, E, C, loc, h, hb, hB, hn, hr⟩ := h
  have hiX : i < X.length := by omega
  exact ⟨X[i], ⟨vs, vf, ve, X, O, T, F, E, C, loc, h, hb, hB, hn, hr, List.getElem?_eq_getElem hiX⟩, hb.x _ (List.getElem_mem hiX)⟩
theorem poolFlushNil (j : Int) (w : World) : Calls Try.prog 40 #[.pointer none, .int .i64 j] w fun e w' => e = .returned (.tuple #[]) ∧ w' = w := by
  go_enter Try.func40, Try.ntmps40
  go_wp2_with fail
  refine (atNil j w).mono ?_; rintro e w1 ⟨rfl, rfl⟩
  go_wp2_with fail
  refine bodyPost_ret (results_none rfl _ _ _) rfl ?_
  exact ⟨rfl, rfl⟩
theorem flushA_le (s : PSt) (i : Nat) : (flushA s i).full.length ≤ s.full.length + 1 ∧ (flushA s i).ne ≤ s.ne := by
  unfold flushA
  split
  · exact ⟨by show (s.full ++ [s.one i]).length ≤ _; simp, Nat.sub_le _ _⟩
  · omega
set_option maxHeartbeats 1000000 in
theorem sFlush (h : PoolS B w p n s) (hi : i < n) (hlF : s.full.length ≤ 900) (hlE : s.ne ≤ 900) :
    Calls Try.prog 40 #[.pointer (some ⟨p, 0, none⟩), .int .i64 i] w fun e w' => e = .returned (.tuple #[]) ∧ PoolS B w' p n (flushS s i) ∧ Fr B w w' := by
  obtain ⟨x, hX, hxB⟩ := h.toX hi
  have ha : Calls Try.prog 48 #[.pointer (some ⟨p, 0, none⟩), .int .i64 i] w fun e w' => e = .returned (ptrV x) ∧ w' = w := by
    obtain ⟨vs, vf, ve, X, O, T, F, E, C, loc, h1, h2, h3, h4, h5, h6⟩ := hX
    exact atIn i x h1 h6
  unfold ptrV at ha
  clear h
  go_enter Try.func40, Try.ntmps40
  go_wp2_with fail
  refine ha.mono ?_; rintro e w1 ⟨rfl, rfl⟩
  clear ha
  go_upto_region 2 with fail
  have hXd := hX.still ((Ch.refl [] w1).drewN 1)
  obtain ⟨W9, hW9⟩ : ∃ W9, w1.drewN 1 = W9 := ⟨_, rfl⟩
  have cd : Ch [] w1 W9 := by rw [← hW9]; exact (Ch.refl [] w1).drewN 1
  rw [hW9] at hXd
  obtain ⟨L, hL⟩ : ∃ L : World → Prop, ∀ w', L w' ↔ True := ⟨fun _ => True, fun _ => Iff.rfl⟩
  have hS0 : ∀ w', L w' := fun w' => (hL w').2 trivial
  have hSA : Nonempty { w' : World // L w' } := ⟨⟨_, hS0 W9⟩⟩
  clear hL
  refine wp_region_plan (Cls L) (List.range 9) (.reads [0, 1, 2, 3, 4, 5, 8] (.only 6 (.reads [7] .done))) (by kernel_rfl) (by kernel_rfl) (fun _ _ _ _ _ h => h) ?_
  simp only [Plan.pures, Plan.reads, Plan.only, List.foldr_cons, List.foldr_nil]
  rw [hW9]
  clear hW9
  iterate 7 (refine wpPlan_readS (hS0 W9) (fun K hK => ?_); simp only [List.getD_cons_zero, List.getD_cons_succ]; go_simp; refine hK _ ?_; clear hK K)
  refine wpPlan_only (fun K hK => ?_)
  simp only [List.getD_cons_zero, List.getD_cons_succ]
  go_simp
  refine hK _ _ (fun _ => Cls.mk (hS0 _)) ?_
  clear hK K
  refine wpPlan_readS (hS0 _) (fun K hK => ?_); simp only [List.getD_cons_zero, List.getD_cons_succ]; go_simp; refine hK _ ?_; clear hK K
  refine wpPlan_done ?_
  clear hSA hS0
  obtain ⟨g, hg⟩ : ∃ g, W9.heap.size = g := ⟨_, rfl⟩
  have hG0 := Blk.new W9 #[.pointer (some ⟨x, 0, none⟩), .pointer (some ⟨x, 1, none⟩)] 87
  have hXa := hXd.still ((Ch.refl [] W9).alloc (.cells #[.pointer (some ⟨x, 0, none⟩), .pointer (some ⟨x, 1, none⟩)] 87))
  have f0 : Fr B w1 (W9.alloc (.cells #[.pointer (some ⟨x, 0, none⟩), .pointer (some ⟨x, 1, none⟩)] 87)) := Fr.still (cd.alloc _)
  rw [hg] at hG0 ⊢
  obtain ⟨W10, hW10⟩ : ∃ W10, W9.alloc (.cells #[.pointer (some ⟨x, 0, none⟩), .pointer (some ⟨x, 1, none⟩)] 87) = W10 := ⟨_, rfl⟩
  rw [hW10] at hG0 hXa f0 ⊢
  clear hW10 hg hXd cd hX
  go_wp2_with fail
  go_loopw [6, 20] (fun s6 s20 wr => ∃ r : Nat, s20 = .int .i64 r ∧ r ≤ 2 ∧ (r = 0 → PoolX B wr p n s i x) ∧ (r = 1 → PoolX B wr p n (flushA s i) i x) ∧ (r = 2 → PoolX B wr p n (flushS s i) i x) ∧ Blk wr g #[.pointer (some ⟨x, 0, none⟩), .pointer (some ⟨x, 1, none⟩)] 87 ∧ Fr B w1 wr) (fun _ s20 _ => 2 - (intOf s20).toNat)
  case atStart => exact ⟨0, rfl, by omega, fun _ => hXa, fun e => by omega, fun e => by omega, hG0, f0⟩
  case round =>
    clear hXa hG0 f0
    obtain ⟨r, rfl, hr2, x0, x1, x2, hG, fr⟩ := hrel
    rcases Nat.lt_or_ge r 2 with hlt | hge
    · by_cases hr0 : r = 0
      · subst hr0
        have hX := x0 rfl
        have hF9 : s.full.length ≤ 1000 := by omega
        have hE9 : s.ne ≤ 1000 := by omega
        clear x0 x1 x2 hr2 hlt
        obtain ⟨vs, vf, ve, X, O, T, F, E, C, loc, h, hb, hB, hn, hr, hx⟩ := hX
        have hiX : i < X.length := by omega
        have hxB := hb.x x (List.mem_of_getElem? hx)
        have hbt := h.one i hiX
        have hc := hr.one i hi
        rw [hc] at hbt
        have d0 := (h.pr i x hx).cell 0
        have d9 := hG.cell 0
        have hlF' : F.length ≤ 1000 := by rw [hr.fl]; exact hF9
        have hlE' : E.length ≤ 1000 := by rw [hr.ne]; exact hE9
        have hemp : ∀ b ∈ E, C b = [] := fun b hb => by
          obtain ⟨k, hk⟩ := List.mem_iff_getElem?.1 hb
          exact hr.emp k b hk
        by_cases h1 : (s.one i).length > 0
        · have hne : s.one i ≠ [] := by intro e; rw [e] at h1; simp at h1
          have hL := bufLen (O i) (s.one i) wr hbt
          have hg := poolGive i x (O i) h hb hB hx (by rw [hc]; exact hbt) (hb.o i hiX) hlF'
          obtain ⟨m, hm⟩ : ∃ m, (s.one i).length = m := ⟨_, rfl⟩
          rw [hm] at hL h1
          have HR := Lib.hid hr
          have HP := Lib.hid h
          obtain ⟨t, ht⟩ : ∃ t, O i = t := ⟨_, rfl⟩
          have HT := Lib.hid ht
          rw [ht] at hL hg d0
          have n0 : decide ((m : Int) > 0) = true := decide_eq_true (by omega)
          have n00 : (0 : Int) < m := by omega
          unfold ptrV at hg d0
          clear hm hbt hc hr ht h
          go_wp2_with fail
          refine hL.mono ?_; rintro e w1 ⟨rfl, rfl⟩
          clear hL
          go_wp2_with fail
          refine hg.mono ?_; rintro e w2 ⟨rfl, vf', G1, G2, G3⟩
          clear hg
          have hf := freshAny G1 G2 (Nat.le_trans hB G3.le) hemp hlE'
          unfold ptrV at hf
          have hG2 := G3.blkT hG (by decide)
          go_wp2_with fail
          refine hf.mono ?_; rintro e w3 ⟨b, rfl, ve', E', C', K1, K2, K3, K4, K5, K6, K7⟩
          clear hf
          have e0 := (K1.pr i x hx).cell 0
          have f0 := (K1.pr i x hx).frozen 0
          obtain ⟨R1, R2⟩ := K1.setO hx (b := b) (by rw [K4]; exact K7)
          have hfr := ((G3.trans K3).trans (Fr.one R2 hxB (K1.ptX hx)))
          obtain ⟨loc', hr'⟩ := (HR.out.flag i true).replOne HP.out hn hi hne (K6.le G3.le)
          rw [HT.out] at hr'
          have hfin := PoolX.of R1 (K2.setO i K5) (Nat.le_trans hB hfr.le) hn hr' hx
          have hGf := (K3.trans (Fr.one R2 hxB (K1.ptX hx))).blkT hG2 (by decide)
          unfold ptrV at hfin hfr hGf
          clear K1 K2 K3 K4 K5 K6 K7 R1 R2 G1 G2 G3 HP HR hr' hb
          go_wp2_with fail
          go_roundw
          case rel =>
            exact ⟨1, by go_num, by omega, fun e => by omega, fun _ => by unfold flushA; rw [if_pos hne]; exact hfin, fun e => by omega, hGf, fr.trans hfr⟩
          case measure => simp [intOf]
        · have hn0 : ¬ s.one i ≠ [] := by intro e; exact h1 (List.length_pos_iff.2 e)
          have h0 : s.one i = [] := by simpa using hn0
          rw [h0] at hbt
          have hL := bufLen (O i) [] wr hbt
          rw [List.length_nil] at hL
          obtain ⟨t, ht⟩ : ∃ t, O i = t := ⟨_, rfl⟩
          rw [ht] at hL d0
          unfold ptrV at d0
          have hfin := PoolX.of h hb hB hn hr hx
          clear h hb hB hn hr hbt hc ht hx
          go_wp2_with fail
          refine hL.mono ?_; rintro e w1 ⟨rfl, rfl⟩
          clear hL
          go_wp2_with fail
          go_roundw
          case rel => exact ⟨1, by go_num, by omega, fun e => by omega, fun _ => by unfold flushA; rw [if_neg hn0]; exact hfin, fun e => by omega, hG, fr⟩
          case measure => simp [intOf]
      · obtain rfl : r = 1 := by omega
        have hX := x1 rfl
        obtain ⟨s1, hs1⟩ : ∃ s1, flushA s i = s1 := ⟨_, rfl⟩
        have hbd := flushA_le s i
        rw [hs1] at hX hbd
        have hF9 : s1.full.length ≤ 1000 := by omega
        have hE9 : s1.ne ≤ 1000 := by omega
        have HS := Lib.hid hs1
        clear x0 x1 x2 hr2 hlt hbd hs1 hr0
        obtain ⟨vs, vf, ve, X, O, T, F, E, C, loc, h, hb, hB, hn, hr, hx⟩ := hX
        have hiX : i < X.length := by omega
        have hxB := hb.x x (List.mem_of_getElem? hx)
        have hbt := h.two i hiX
        have hc := hr.two i hi
        rw [hc] at hbt
        have d0 := (h.pr i x hx).cell 1
        have d9 := hG.cell 1
        have hlF' : F.length ≤ 1000 := by rw [hr.fl]; exact hF9
        have hlE' : E.length ≤ 1000 := by rw [hr.ne]; exact hE9
        have hemp : ∀ b ∈ E, C b = [] := fun b hb => by
          obtain ⟨k, hk⟩ := List.mem_iff_getElem?.1 hb
          exact hr.emp k b hk
        by_cases h1 : (s1.two i).length > 0
        · have hne : s1.two i ≠ [] := by intro e; rw [e] at h1; simp at h1
          have hL := bufLen (T i) (s1.two i) wr hbt
          have hg := poolGive i x (T i) h hb hB hx (by rw [hc]; exact hbt) (hb.t i hiX) hlF'
          obtain ⟨m, hm⟩ : ∃ m, (s1.two i).length = m := ⟨_, rfl⟩
          rw [hm] at hL h1
          have HR := Lib.hid hr
          have HP := Lib.hid h
          obtain ⟨t, ht⟩ : ∃ t, T i = t := ⟨_, rfl⟩
          have HT := Lib.hid ht
          rw [ht] at hL hg d0
          have n0 : decide ((m : Int) > 0) = true := decide_eq_true (by omega)
          have n00 : (0 : Int) < m := by omega
          unfold ptrV at hg d0
          clear hm hbt hc hr ht h
          go_wp2_with fail
          refine hL.mono ?_; rintro e w1 ⟨rfl, rfl⟩
          clear hL
          go_wp2_with fail
          refine hg.mono ?_; rintro e w2 ⟨rfl, vf', G1, G2, G3⟩
          clear hg
          have hf := freshAny G1 G2 (Nat.le_trans hB G3.le) hemp hlE'
          unfold ptrV at hf
          have hG2 := G3.blkT hG (by decide)
          go_wp2_with fail
          refine hf.mono ?_; rintro e w3 ⟨b, rfl, ve', E', C', K1, K2, K3, K4, K5, K6, K7⟩
          clear hf
          have e0 := (K1.pr i x hx).cell 1
          have f0 := (K1.pr i x hx).frozen 1
          obtain ⟨R1, R2⟩ := K1.setT hx (b := b) (by rw [K4]; exact K7)
          have hfr := ((G3.trans K3).trans (Fr.one R2 hxB (K1.ptX hx)))
          obtain ⟨loc', hr'⟩ := (HR.out.flag i true).replTwo HP.out hn hi hne (K6.le G3.le)
          rw [HT.out] at hr'
          have hfin := PoolX.of R1 (K2.setT i K5) (Nat.le_trans hB hfr.le) hn hr' hx
          have hGf := (K3.trans (Fr.one R2 hxB (K1.ptX hx))).blkT hG2 (by decide)
          unfold ptrV at hfin hfr hGf
          clear K1 K2 K3 K4 K5 K6 K7 R1 R2 G1 G2 G3 HP HR hr' hb
          go_wp2_with fail
          go_roundw
          case rel =>
            exact ⟨2, by go_num, by omega, fun e => by omega, fun e => by omega, fun _ => by show PoolX _ _ _ _ (flushB (flushA s i) i) _ _; rw [HS.out]; unfold flushB; rw [if_pos hne]; exact hfin, hGf, fr.trans hfr⟩
          case measure => simp [intOf]
        · have hn0 : ¬ s1.two i ≠ [] := by intro e; exact h1 (List.length_pos_iff.2 e)
          have h0 : s1.two i = [] := by simpa using hn0
          rw [h0] at hbt
          have hL := bufLen (T i) [] wr hbt
          rw [List.length_nil] at hL
          obtain ⟨t, ht⟩ : ∃ t, T i = t := ⟨_, rfl⟩
          rw [ht] at hL d0
          unfold ptrV at d0
          have hfin := PoolX.of h hb hB hn hr hx
          clear h hb hB hn hr hbt hc ht hx
          go_wp2_with fail
          refine hL.mono ?_; rintro e w1 ⟨rfl, rfl⟩
          clear hL
          go_wp2_with fail
          go_roundw
          case rel => exact ⟨2, by go_num, by omega, fun e => by omega, fun e => by omega, fun _ => by show PoolX _ _ _ _ (flushB (flushA s i) i) _ _; rw [HS.out]; unfold flushB; rw [if_neg hn0]; exact hfin, hG, fr⟩
          case measure => simp [intOf]
    · obtain rfl : r = 2 := by omega
      have hX := x2 rfl
      have hfin := hX.toS
      clear hX x0 x1 x2
      go_wp2_with fail
      go_end0
      exact ⟨rfl, hfin, fr⟩
end
end Go.Proofs.Ytalnkhcippcghaa
