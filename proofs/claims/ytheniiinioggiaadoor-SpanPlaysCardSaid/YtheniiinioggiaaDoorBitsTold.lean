/-
  What the law's own check of package bits comes to, and the statement BitsNobody's walk. Conditions: the library's table reads as its text lays it.
-/
import Derived.Test.YtheniiinioggiaaDoorBits2
namespace Go.Proofs.YtheniiinioggiaaDoor
open Go.RowKit
theorem SetAt.ch {w w' : World} {b n : Nat} {S : Nat → Bool} {G : List Nat} (h : SetAt w b n S G) (hc : Ch [] w w') : SetAt w' b n S G := h.keep hc (by simp) (by simp)
theorem TabW.ch {w w' : World} (h : TabW w) (hc : Ch [] w w') : TabW w' := h.keep hc (by simp)
theorem s65 (k : Nat) : putS (fun _ => false) 70 65 true k = (k == 65) := by
  simp only [putS, upd]
  by_cases h : k = 65 <;> simp [h, upd]
theorem t65 (k : Nat) : putS (fun k => k == 65) 70 65 true k = (k == 65) := by
  simp only [putS, upd]
  by_cases h : k = 65 <;> simp [h, upd]
set_option maxHeartbeats 1000000 in
theorem told3 (w : World) (hT : TabW w) : Calls Tryd.prog 14 #[] w fun e w' => e = .returned (.bool true) ∧ Ch [] w w' := by
  have hT0 : 0 < w.heap.size := hT.1
  have hN := bitsNew 70 w (by omega)
  go_enter Tryd.func14, Tryd.ntmps14
  go_wp2_with fail
  refine hN.mono ?_; rintro e w1 ⟨b, G, rfl, h1, hb, hG, c1⟩
  clear hN
  go_wp2_with fail
  refine (bitsSet b 70 _ G 65 w1 h1).mono ?_; rintro e w2 ⟨rfl, h2, c2⟩
  have h2 : SetAt w2 b 70 (fun k => k == 65) G := h2.congr (fun k _ => s65 k)
  have e2 : setB (fun _ => false) 70 65 = true := by decide
  rw [e2]
  go_wp2_with fail
  refine (bitsSet b 70 _ G 65 w2 h2).mono ?_; rintro e w3 ⟨rfl, h3, c3⟩
  have h3 : SetAt w3 b 70 (fun k => k == 65) G := h3.congr (fun k _ => t65 k)
  have e3 : setB (fun k => k == 65) 70 65 = false := by decide
  rw [e3]
  have cc : Ch [] w w3 := c1.transT (c2.trans c3) (by
    intro k hk
    simp only [List.mem_cons] at hk
    rcases hk with rfl | hk
    · exact .inr hb
    · exact .inr (hG k hk))
  have hT3 := hT.ch cc
  go_wp2_with fail
  refine (bitsNext b 70 _ G true 0 w3 h3 hT3).mono ?_; rintro e w4 ⟨rfl, rfl⟩
  rw [show nxt (fun k => k == 65) 70 (0 : Int).toNat true = 65 by decide]
  go_wp2_with fail
  refine (bitsNext b 70 _ G false 65 w4 h3 hT3).mono ?_; rintro e w5 ⟨rfl, rfl⟩
  rw [show nxt (fun k => k == 65) 70 (65 : Int).toNat false = 66 by decide]
  go_wp2_with fail
  refine (bitsNext b 70 _ G true 66 w5 h3 hT3).mono ?_; rintro e w6 ⟨rfl, rfl⟩
  rw [show nxt (fun k => k == 65) 70 (66 : Int).toNat true = -1 by decide]
  go_wp2_with fail
  refine (bitsCount b 70 _ G w6 h3).mono ?_; rintro e w7 ⟨rfl, rfl⟩
  rw [show cnt (fun k => k == 65) 70 = 1 by decide]
  go_wp2_with fail
  refine (bitsLen b 70 _ G w7 h3).mono ?_; rintro e w8 ⟨rfl, rfl⟩
  go_wp2_with fail
  refine (bitsSet b 70 _ G 70 w8 h3).mono ?_; rintro e w9 ⟨rfl, h9, c9⟩
  rw [show setB (fun k => k == 65) 70 70 = false by decide]
  have hc9 : Ch [] w w9 := cc.transT c9 (by
    intro k hk
    simp only [List.mem_cons] at hk
    rcases hk with rfl | hk
    · exact .inr hb
    · exact .inr (hG k hk))
  clear cc hT3 h3 h9 c9 c1 c2 c3 h1 h2 e2 e3
  go_wp2_with fail
  go_ret
  exact ⟨rfl, hc9⟩
theorem setB_zero (S : Nat → Bool) (i : Int) : setB S 0 i = false := by
  unfold setB
  by_cases h : 0 ≤ i
  · rw [show decide (i < ((0 : Nat) : Int)) = false from decide_eq_false (by omega)]; simp
  · rw [decide_eq_false h]; rfl
set_option maxHeartbeats 1000000 in
theorem nobody3_walk (a0 a1 : Int) (w : World) (hT : TabW w) :
    Calls Tryd.prog 5 #[.int .i64 a0, .int .i64 a1] w fun e w' => e = .returned (.bool true) ∧ Below w.heap.size w w' := by
  obtain ⟨k, hk, hkl⟩ := umod a1 100 (by decide) (by decide)
  have e1 : wrap64 (-1 - (k : Int)) = -1 - (k : Int) := IntWalk.wrap64_in _ (by omega)
  have hN := bitsNewNeg (-1 - (k : Int)) w (by omega)
  have HE := Lib.hid e1
  clear e1
  go_enter Tryd.func5, Tryd.ntmps5
  go_wp2_with fail
  try rw [hk]
  try rw [HE.out]
  refine hN.mono ?_; rintro e w1 ⟨b, G, rfl, h1, hb, hG, c1⟩
  clear hN hk hkl
  have hT1 := hT.ch c1
  go_wp2_with fail
  refine (told3 w1 hT1).mono ?_; rintro e w2 ⟨rfl, c2⟩
  have h2 := h1.ch c2
  have hT2 := hT1.ch c2
  have c12 := c1.trans c2
  clear h1 hT1 c1 c2
  go_wp2_with fail
  refine (bitsHasNil a0 w2).mono ?_; rintro e w3 ⟨rfl, rfl⟩
  go_wp2_with fail
  refine (bitsSetNil a0 w3).mono ?_; rintro e w4 ⟨rfl, rfl⟩
  go_wp2_with fail
  refine (bitsClearNil a0 w4).mono ?_; rintro e w5 ⟨rfl, rfl⟩
  go_wp2_with fail
  refine (bitsNextNil a0 true w5).mono ?_; rintro e w6 ⟨rfl, rfl⟩
  go_wp2_with fail
  refine (bitsNextNil a0 false w6).mono ?_; rintro e w7 ⟨rfl, rfl⟩
  go_wp2_with fail
  refine (bitsCountNil w7).mono ?_; rintro e w8 ⟨rfl, rfl⟩
  go_wp2_with fail
  refine (bitsLenNil w8).mono ?_; rintro e w9 ⟨rfl, rfl⟩
  go_wp2_with fail
  refine (bitsAllNil w9).mono ?_; rintro e w10 ⟨rfl, rfl⟩
  go_wp2_with fail
  refine (bitsLen b 0 _ G w10 h2).mono ?_; rintro e w11 ⟨rfl, rfl⟩
  go_wp2_with fail
  refine (bitsSet b 0 _ G a0 w11 h2).mono ?_; rintro e w12 ⟨rfl, h12, c12'⟩
  rw [setB_zero]
  have c13 : Ch [] w w12 := c12.transT c12' (by
    intro k hk
    simp only [List.mem_cons] at hk
    rcases hk with rfl | hk
    · exact .inr hb
    · exact .inr (hG k hk))
  have hT12 := hT.ch c13
  go_wp2_with fail
  refine (bitsNext b 0 _ G false 0 w12 h12 hT12).mono ?_; rintro e w13 ⟨rfl, rfl⟩
  rw [nxt_none (fun j h1 h2 => by omega)]
  have hend := c13.below (Nat.le_refl _) (by simp)
  clear c13 c12' h12 h2 hT12 hT2 c12
  go_wp2_with fail
  go_ret
  exact ⟨rfl, hend⟩
end Go.Proofs.YtheniiinioggiaaDoor
