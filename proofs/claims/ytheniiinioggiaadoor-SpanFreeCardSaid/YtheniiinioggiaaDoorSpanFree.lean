/-
  The walk of the statement SpanFree: the law returns true at every input. Conditions: the library's table reads as its text lays it.
-/
import Derived.Test.YtheniiinioggiaaDoorSpanMath
namespace Go.Proofs.YtheniiinioggiaaDoor
open Go.RowKit
def zero_ : Nat → Bool := fun k => k == 0
theorem put_zero (n : Nat) (h : 0 < n) (k : Nat) : putS none_ n (0 : Nat) true k = zero_ k := by
  rw [putS_nat' _ _ _ _ h]
  unfold upd zero_ none_
  by_cases h : k = 0 <;> simp [h]
theorem put_zero2 (n : Nat) (h : 0 < n) (k : Nat) : putS zero_ n (0 : Nat) true k = zero_ k := by
  rw [putS_nat' _ _ _ _ h]
  unfold upd zero_
  by_cases h : k = 0 <;> simp [h]
set_option maxRecDepth 100000 in
set_option maxHeartbeats 4000000 in
theorem free6_walk (a0 a1 : Int) (w : World) (hT : TabW w) :
    Calls Tryd.prog 10 #[.int .i64 a0, .int .i64 a1] w fun e w' => e = .returned (.bool true) ∧ Below w.heap.size w w' := by
  obtain ⟨c, hc, hcl⟩ := umod a0 16 (by decide) (by decide)
  obtain ⟨n, hn, hn1, hn2⟩ := sls_in (k := (c : Int)) (by omega) (by omega)
  obtain ⟨kk, hkk, hkl⟩ := umod a1 (n : Int) (by omega) (by omega)
  have hN := spNew 9 c n w (sz_pos (by omega) (by omega)) (by omega) hn hn2
  have HC := Lib.hid hc
  have HK := Lib.hid hkk
  have n0 : ((n : Int) == 0) = false := by rw [beq_eq_false_iff_ne]; omega
  have n00 : ¬ (n : Int) = 0 := by omega
  clear hc hkk hn
  go_enter Tryd.func10, Tryd.ntmps10
  go_wp2_with fail
  try rw [HC.out]
  refine hN.mono ?_; rintro e w1 ⟨s, D, rfl, h1⟩
  clear hN
  have x1 := spMark a1 h1
  rw [(mark_none _ _ _).1, (mark_none _ _ _).2] at x1
  go_wp2_with fail
  refine x1.mono ?_; rintro e w2 ⟨rfl, h2, c2⟩
  clear x1 h1 c2
  have x2 := spMarked a1 h2
  rw [hasI_none] at x2
  go_wp2_with fail
  refine x2.mono ?_; rintro e w2 ⟨rfl, rfl⟩
  clear x2
  have x2 := spUsed a1 h2
  rw [hasI_none] at x2
  go_wp2_with fail
  refine x2.mono ?_; rintro e w2 ⟨rfl, rfl⟩
  clear x2
  have x2 := spFull h2 hT
  rw [show full none_ n 0 = false from by unfold full; rw [nxt_first none_ n 0 (by omega) rfl]; rfl] at x2
  go_wp2_with fail
  refine x2.mono ?_; rintro e w3 ⟨rfl, rfl⟩
  clear x2
  have h3 := h2.still ((Ch.refl [] w2).drewN 1)
  obtain ⟨W3, hW3⟩ : ∃ W3, w2.drewN 1 = W3 := ⟨_, rfl⟩
  rw [hW3] at h3 ⊢
  clear hW3 h2
  go_wp2_with fail
  refine (spSweep h3 hT).mono ?_; rintro e w4 ⟨v, rfl, o4, h4, c4⟩
  obtain ⟨a4, q4, hv, _⟩ := o4.form
  rw [show (gone none_ none_ n).length = 0 by unfold gone; rw [els_none]; rfl] at hv
  subst hv
  clear h3 c4 o4
  have x2 := spLive h4
  rw [cnt_none_] at x2
  go_wp2_with fail
  refine x2.mono ?_; rintro e w5 ⟨rfl, rfl⟩
  clear x2
  have x2 := spAllocYes false 0 h4 hT (nxt_first none_ n 0 (by omega) rfl) (by omega)
  go_wp2_with fail
  refine x2.mono ?_; rintro e w6 ⟨rfl, h6, c6⟩
  clear x2 h4 c6
  have h6 : SpD w w6 s 9 c n D zero_ none_ 0 := h6.congr (fun k _ => put_zero n (by omega) k) (fun _ _ => rfl)
  have x2 := spSlots h6
  go_wp2_with fail
  refine x2.mono ?_; rintro e w6 ⟨rfl, rfl⟩
  clear x2
  have x2 := spMark (kk : Int) h6
  by_cases hz : kk = 0
  · have e1 : hasI zero_ n (kk : Int) = true := by rw [hasI_in (by omega), hz]; rfl
    have e2 : markB zero_ none_ n (kk : Int) = true := by unfold markB setB; rw [e1, decide_eq_true (by omega), decide_eq_true (by omega)]; rfl
    have e3 : markM zero_ none_ n (kk : Int) = putS none_ n (kk : Int) true := by unfold markM; rw [if_pos e1]
    rw [e2, e3] at x2
    have t0 : ((kk : Int) == 0) = true := by rw [hz]; rfl
    have EM : hasI zero_ n (kk : Int) = true := e1
    have EN : markB zero_ zero_ n (kk : Int) = false := by unfold markB setB; rw [e1, decide_eq_true (by omega), decide_eq_true (by omega), Int.toNat_natCast, hz]; rfl
    have HZ := Lib.hid hz
    clear e2 e3 e1 hz
    go_wp2_with fail
    try rw [HK.out]
    refine x2.mono ?_; rintro e w7 ⟨rfl, h7, c7⟩
    clear x2 h6 c7
    have h7 : SpD w w7 s 9 c n D zero_ zero_ 0 := h7.congr (fun _ _ => rfl) (fun k _ => by rw [HZ.out]; exact put_zero n (by omega) k)
    go_wp2_with fail
    refine (spanAllocNil true _).mono ?_; rintro e w8 ⟨rfl, n8, rfl⟩
    have h8 := h7.still ((Ch.refl [] _).drewN n8)
    obtain ⟨W8, hW8⟩ : ∃ W8, w7.drewN n8 = W8 := ⟨_, rfl⟩
    rw [hW8] at h8 ⊢
    clear hW8 h7
    go_wp2_with fail
    refine (spanAtNil 64 _).mono ?_; rintro e w9 ⟨rfl, rfl⟩
    go_wp2_with fail
    refine (told6 _ (h8.tab hT)).mono ?_; rintro e w10 ⟨rfl, c10⟩
    have h10 := h8.still c10
    clear h8 c10
    have x1 := spMarked (kk : Int) h10
    rw [EM] at x1
    go_wp2_with fail
    refine x1.mono ?_; rintro e w11 ⟨rfl, rfl⟩
    clear x1
    have x2 := spMark (kk : Int) h10
    rw [EN] at x2
    go_wp2_with fail
    refine x2.mono ?_; rintro e w12 ⟨rfl, h12, c12⟩
    clear x2 h10 c12
    have hend := h12.ch
    clear h12
    go_wp2_with fail
    refine (spanFullNil _).mono ?_; rintro e w13 ⟨rfl, n13, rfl⟩
    have hend := hend.drewN n13
    go_wp2_with fail
    refine (spanSlotsNil _).mono ?_; rintro e w14 ⟨rfl, rfl⟩
    go_wp2_with fail
    refine (spanLiveNil _).mono ?_; rintro e w15 ⟨rfl, rfl⟩
    go_wp2_with fail
    refine (spanSweepNil _).mono ?_; rintro e w16 ⟨rfl, c16⟩
    have hend := (hend.trans c16).below (Nat.le_refl _) (by simp)
    go_wp2_with fail
    refine (spanMarkNil 0 _).mono ?_; rintro e w17 ⟨rfl, rfl⟩
    go_wp2_with fail
    go_ret
    exact ⟨rfl, hend⟩
  · have e1 : hasI zero_ n (kk : Int) = false := by rw [hasI_in (by omega)]; unfold zero_; rw [beq_eq_false_iff_ne]; exact hz
    rw [show markB zero_ none_ n (kk : Int) = false by unfold markB; rw [e1]; rfl,
      show markM zero_ none_ n (kk : Int) = none_ by unfold markM; rw [e1]; rfl] at x2
    have t0 : ((kk : Int) == 0) = false := by rw [beq_eq_false_iff_ne]; omega
    have EM : hasI none_ n (kk : Int) = false := hasI_none _ _
    have EN : markB zero_ none_ n (kk : Int) = false := by unfold markB; rw [e1]; rfl
    go_wp2_with fail
    try rw [HK.out]
    refine x2.mono ?_; rintro e w7 ⟨rfl, h7, c7⟩
    clear x2 h6 c7 e1
    go_wp2_with fail
    refine (spanAllocNil true _).mono ?_; rintro e w8 ⟨rfl, n8, rfl⟩
    have h8 := h7.still ((Ch.refl [] _).drewN n8)
    obtain ⟨W8, hW8⟩ : ∃ W8, w7.drewN n8 = W8 := ⟨_, rfl⟩
    rw [hW8] at h8 ⊢
    clear hW8 h7
    go_wp2_with fail
    refine (spanAtNil 64 _).mono ?_; rintro e w9 ⟨rfl, rfl⟩
    go_wp2_with fail
    refine (told6 _ (h8.tab hT)).mono ?_; rintro e w10 ⟨rfl, c10⟩
    have h10 := h8.still c10
    clear h8 c10
    have x1 := spMarked (kk : Int) h10
    rw [EM] at x1
    go_wp2_with fail
    refine x1.mono ?_; rintro e w11 ⟨rfl, rfl⟩
    clear x1
    have x2 := spMark (kk : Int) h10
    rw [EN] at x2
    go_wp2_with fail
    refine x2.mono ?_; rintro e w12 ⟨rfl, h12, c12⟩
    clear x2 h10 c12
    have hend := h12.ch
    clear h12
    go_wp2_with fail
    refine (spanFullNil _).mono ?_; rintro e w13 ⟨rfl, n13, rfl⟩
    have hend := hend.drewN n13
    go_wp2_with fail
    refine (spanSlotsNil _).mono ?_; rintro e w14 ⟨rfl, rfl⟩
    go_wp2_with fail
    refine (spanLiveNil _).mono ?_; rintro e w15 ⟨rfl, rfl⟩
    go_wp2_with fail
    refine (spanSweepNil _).mono ?_; rintro e w16 ⟨rfl, c16⟩
    have hend := (hend.trans c16).below (Nat.le_refl _) (by simp)
    go_wp2_with fail
    refine (spanMarkNil 0 _).mono ?_; rintro e w17 ⟨rfl, rfl⟩
    go_wp2_with fail
    go_ret
    exact ⟨rfl, hend⟩
end Go.Proofs.YtheniiinioggiaaDoor
