/-
  A pool that a law has made, beside the world in which the law began; the law's own check. Conditions: none beyond what each theorem names.
-/
import Derived.Test.YtalnkhcippcghaaPool13
namespace Go.Proofs.Ytalnkhcippcghaa
open Go.RowKit
/-- A pool, made since w. -/
def PoolIn (w wr : World) (p n : Nat) (s : PSt) : Prop := PoolS w.heap.size wr p n s ∧ Ch [] w wr
section
variable {w wr w2 : World} {p n i : Nat} {s : PSt}
theorem PoolIn.new {e : Ending} (h : NewPool w n e w2) : ∃ p, e = .returned (.tuple #[.pointer (some ⟨p, 0, none⟩), .int .i64 0]) ∧ PoolIn w w2 p n initP := by
  obtain ⟨p, h1, h2, h3⟩ := h
  exact ⟨p, h1, h2, h3⟩
theorem PoolIn.still (h : PoolIn w wr p n s) (hc : Ch [] wr w2) : PoolIn w w2 p n s := ⟨h.1.still hc, h.2.trans hc⟩
theorem PoolIn.pos (h : PoolIn w wr p n s) : ∀ L ∈ s.full, L ≠ [] := by
  obtain ⟨⟨vs, vf, ve, X, O, T, F, E, C, loc, _, _, _, _, hr⟩, _⟩ := h
  exact hr.pos
theorem PoolIn.le (h : PoolIn w wr p n s) (hi : i < n) : (s.one i).length ≤ 32 ∧ (s.two i).length ≤ 32 := by
  obtain ⟨⟨vs, vf, ve, X, O, T, F, E, C, loc, hp, _, _, hX, hr⟩, _⟩ := h
  have := hp.le (List.getElem?_eq_getElem (l := X) (i := i) (by omega))
  rw [hr.one i hi, hr.two i hi] at this
  exact this
theorem PoolIn.turn (h : PoolIn w wr p n s) {s2 : PSt} (h2 : PoolS w.heap.size w2 p n s2) (hf : Fr w.heap.size wr w2) : PoolIn w w2 p n s2 := ⟨h2, hf.chB h.2⟩
theorem iPut (v : Int) (h : PoolIn w wr p n s) (hi : i < n) (hv : v ≠ 0) (hlF : s.full.length ≤ 1000) (hlE : s.ne ≤ 1000) :
    Calls Try.prog 35 #[.pointer (some ⟨p, 0, none⟩), .int .i64 i, .int .i64 v] wr fun e w' => e = .returned (.int .i64 0) ∧ PoolIn w w' p n (putS s i v) ∧ Fr w.heap.size wr w' :=
  (sPut v h.1 hi hv hlF hlE).mono fun _ _ ⟨a, b, c⟩ => ⟨a, h.turn b c, c⟩
theorem iGet (h : PoolIn w wr p n s) (hi : i < n) (hlF : s.full.length ≤ 1000) (hlE : s.ne ≤ 1000) :
    Calls Try.prog 38 #[.pointer (some ⟨p, 0, none⟩), .int .i64 i] wr fun e w' => e = .returned (.tuple #[.int .i64 (getV s i), .bool (getB s i)]) ∧ PoolIn w w' p n (getS s i) ∧ Fr w.heap.size wr w' :=
  (sGet h.1 hi hlF hlE).mono fun _ _ ⟨a, b, c⟩ => ⟨a, h.turn b c, c⟩
theorem iGive (h : PoolIn w wr p n s) (hi : i < n) (hlF : s.full.length ≤ 1000) (hlE : s.ne ≤ 1000) :
    Calls Try.prog 42 #[.pointer (some ⟨p, 0, none⟩), .int .i64 i] wr fun e w' => e = .returned (.bool (giveB s i)) ∧ PoolIn w w' p n (giveS s i) ∧ Fr w.heap.size wr w' :=
  (sGive h.1 hi hlF hlE).mono fun _ _ ⟨a, b, c⟩ => ⟨a, h.turn b c, c⟩
theorem iFlush (h : PoolIn w wr p n s) (hi : i < n) (hlF : s.full.length ≤ 900) (hlE : s.ne ≤ 900) :
    Calls Try.prog 40 #[.pointer (some ⟨p, 0, none⟩), .int .i64 i] wr fun e w' => e = .returned (.tuple #[]) ∧ PoolIn w w' p n (flushS s i) ∧ Fr w.heap.size wr w' :=
  (sFlush h.1 hi hlF hlE).mono fun _ _ ⟨a, b, c⟩ => ⟨a, h.turn b c, c⟩
theorem iReset (h : PoolIn w wr p n s) (hi : i < n) :
    Calls Try.prog 37 #[.pointer (some ⟨p, 0, none⟩), .int .i64 i] wr fun e w' => e = .returned (.tuple #[]) ∧ PoolIn w w' p n (s.flag i false) ∧ Fr w.heap.size wr w' :=
  (sReset h.1 hi).mono fun _ _ ⟨a, b, c⟩ => ⟨a, h.turn b c, c⟩
theorem iLists (h : PoolIn w wr p n s) : Calls Try.prog 44 #[.pointer (some ⟨p, 0, none⟩)] wr fun e w' => e = .returned (.tuple #[.int .i64 s.full.length, .int .i64 s.ne]) ∧ PoolIn w w' p n s ∧ Ch [] wr w' :=
  (sLists h.1).mono fun _ _ ⟨a, b⟩ => ⟨a, h.still b, b⟩
theorem iLocal (h : PoolIn w wr p n s) (hi : i < n) : Calls Try.prog 39 #[.pointer (some ⟨p, 0, none⟩), .int .i64 i] wr fun e w' => e = .returned (.int .i64 ((s.one i).length + (s.two i).length : Nat)) ∧ PoolIn w w' p n s ∧ Ch [] wr w' :=
  (sLocal h.1 hi).mono fun _ _ ⟨a, b⟩ => ⟨a, h.still b, b⟩
theorem iLen (h : PoolIn w wr p n s) (hn : n ≤ 100) (hF : s.full.length ≤ 1000) : Calls Try.prog 43 #[.pointer (some ⟨p, 0, none⟩)] wr fun e w' => e = .returned (.int .i64 (wt List.length s n : Nat)) ∧ PoolIn w w' p n s ∧ Ch [] wr w' :=
  (sLen h.1 hn hF).mono fun _ _ ⟨a, b⟩ => ⟨a, h.still b, b⟩
end
def Q1 : PSt := putS initP 0 5
def Q2 : PSt := getS Q1 1
def Q3 : PSt := flushS Q2 0
def Q4 : PSt := getS Q3 1
set_option maxHeartbeats 1000000 in
theorem told18 (w : World) : Calls Try.prog 41 #[] w fun e w' => e = .returned (.bool true) ∧ Ch [] w w' := by
  go_enter Try.func41, Try.ntmps41
  go_wp2_with fail
  refine (poolNew w 2 (by omega) (by omega)).mono ?_; rintro e w1 hn
  obtain ⟨p, rfl, h0⟩ := PoolIn.new hn
  clear hn
  go_wp2_with fail
  refine (poolNewArg w1 0 (.inl (by omega))).mono ?_; rintro e w2 ⟨rfl, rfl⟩
  go_wp2_with fail
  refine (iPut (i := 0) 5 h0 (by omega) (by omega) (by decide) (by decide)).mono ?_; rintro e w3 ⟨rfl, h1, -⟩
  replace h1 : PoolIn w w3 p 2 Q1 := h1
  clear h0
  go_wp2_with fail
  refine (iGet (i := 1) h1 (by omega) (by decide) (by decide)).mono ?_; rintro e w4 ⟨rfl, h2, -⟩
  rw [show getV Q1 1 = 0 by decide +kernel, show getB Q1 1 = false by decide +kernel]
  replace h2 : PoolIn w w4 p 2 Q2 := h2
  clear h1
  go_wp2_with fail
  refine (iFlush (i := 0) h2 (by omega) (by decide +kernel) (by decide +kernel)).mono ?_; rintro e w5 ⟨rfl, h3, -⟩
  replace h3 : PoolIn w w5 p 2 Q3 := h3
  clear h2
  go_wp2_with fail
  refine (iGet (i := 1) h3 (by omega) (by decide +kernel) (by decide +kernel)).mono ?_; rintro e w6 ⟨rfl, h4, -⟩
  rw [show getV Q3 1 = 5 by decide +kernel, show getB Q3 1 = true by decide +kernel]
  replace h4 : PoolIn w w6 p 2 Q4 := h4
  clear h3
  go_wp2_with fail
  refine (sFlushed (i := 0) h4.1 (by omega)).mono ?_; rintro e w7 ⟨rfl, rfl⟩
  rw [show Q4.fl 0 = true by decide +kernel]
  go_wp2_with fail
  refine (sFlushed (i := 1) h4.1 (by omega)).mono ?_; rintro e w8 ⟨rfl, rfl⟩
  rw [show Q4.fl 1 = false by decide +kernel]
  go_wp2_with fail
  refine (iLen h4 (by omega) (by decide +kernel)).mono ?_; rintro e w9 ⟨rfl, h5, -⟩
  rw [show wt List.length Q4 2 = 0 by decide +kernel]
  clear h4
  go_wp2_with fail
  refine (sPutZero (i := 0) h5.1 (by omega)).mono ?_; rintro e w10 ⟨rfl, rfl⟩
  have hend := h5.2
  clear h5
  go_wp2_with fail
  go_ret
  exact ⟨rfl, hend⟩
end Go.Proofs.Ytalnkhcippcghaa
