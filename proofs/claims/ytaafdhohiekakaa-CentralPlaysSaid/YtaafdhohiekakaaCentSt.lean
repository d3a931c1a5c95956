/-
  A central that a law has made, beside the world in which the law began; the law's own check. Conditions: none beyond what each theorem names.
-/
import Derived.Test.YtaafdhohiekakaaCentral5
namespace Go.Proofs.Ytaafdhohiekakaa
open Go.RowKit
/-- A central, made since w. -/
def CentIn (w wr : World) (c : Nat) (Ls : List (List Int)) : Prop := ∃ g vs, CentAt wr c g vs Ls ∧ Ch [] w wr ∧ w.heap.size ≤ c ∧ w.heap.size ≤ g ∧ ∀ k ∈ blocksOf vs, w.heap.size ≤ k
def L0 : List (List Int) := List.replicate 64 []
section
variable {w wr w2 : World} {c : Nat} {Ls : List (List Int)}
theorem CentIn.new {e : Ending} (h : NewCent w e w2) : ∃ c, e = .returned (.pointer (some ⟨c, 0, none⟩)) ∧ CentIn w w2 c L0 := by
  obtain ⟨c, g, rfl, h1, h2, h3, h4⟩ := h
  refine ⟨c, rfl, g, _, h1, h4, h2, h3, ?_⟩
  intro k hk
  obtain ⟨v, hv, he⟩ := mem_blocksOf.1 hk
  have := List.eq_of_mem_replicate hv
  subst this
  simp [Value.ownBlock] at he
theorem CentIn.still (h : CentIn w wr c Ls) (hc : Ch [] wr w2) : CentIn w w2 c Ls := by
  obtain ⟨g, vs, h1, h2, h3, h4, h5⟩ := h
  exact ⟨g, vs, h1.ch hc, h2.trans hc, h3, h4, h5⟩
theorem CentIn.ch (h : CentIn w wr c Ls) : Ch [] w wr := h.choose_spec.choose_spec.2.1
theorem CentIn.turn {g : Nat} {vs : List Value} {L2 : List (List Int)} (h2 : Ch [] w wr) (h3 : w.heap.size ≤ c) (h4 : w.heap.size ≤ g) (h5 : ∀ k ∈ blocksOf vs, w.heap.size ≤ k) (hT : Turned wr c g vs L2 w2) : CentIn w w2 c L2 := by
  obtain ⟨vs', a, b, d⟩ := hT
  refine ⟨g, vs', a, h2.transT b ?_, h3, h4, ?_⟩
  · intro k hk
    simp only [List.mem_cons] at hk
    rcases hk with rfl | hk
    · exact .inr h4
    · exact .inr (h5 k hk)
  · intro k hk
    rcases d k hk with h | h
    · exact h5 k h
    · exact Nat.le_trans h2.size h
theorem inPut (k x : Int) (full : Bool) (h : CentIn w wr c Ls) (hl : ∀ i, (gL Ls i).length ≤ 50000) :
    Calls Try.prog 24 #[.pointer (some ⟨c, 0, none⟩), .int .i64 k, .int .i64 x, .bool full] wr fun e w' => e = .returned (.tuple #[]) ∧ CentIn w w' c (putC Ls k x full) := by
  obtain ⟨g, vs, h1, h2, h3, h4, h5⟩ := h
  exact (centPut c g vs Ls k x full wr h1 hl).mono fun _ _ ⟨a, b⟩ => ⟨a, CentIn.turn h2 h3 h4 h5 b⟩
theorem inDel (x : Int) (h : CentIn w wr c Ls) (hl : ∀ i, (gL Ls i).length ≤ 50000) :
    Calls Try.prog 26 #[.pointer (some ⟨c, 0, none⟩), .int .i64 x] wr fun e w' => e = .returned (.bool (hitC Ls x)) ∧ CentIn w w' c (delC Ls x) := by
  obtain ⟨g, vs, h1, h2, h3, h4, h5⟩ := h
  exact (centDel c g vs Ls x wr h1 hl).mono fun _ _ ⟨a, b⟩ => ⟨a, CentIn.turn h2 h3 h4 h5 b⟩
theorem inTake (k : Int) (h : CentIn w wr c Ls) :
    Calls Try.prog 28 #[.pointer (some ⟨c, 0, none⟩), .int .i64 k] wr fun e w' => e = .returned (.tuple #[.int .i64 (takeX Ls k), .bool (takeU Ls k), .bool (takeB Ls k)]) ∧ CentIn w w' c (takeL Ls k) := by
  obtain ⟨g, vs, h1, h2, h3, h4, h5⟩ := h
  exact (centTake c g vs Ls k wr h1).mono fun _ _ ⟨a, b⟩ => ⟨a, CentIn.turn h2 h3 h4 h5 b⟩
theorem inTakeFull (k : Int) (h : CentIn w wr c Ls) :
    Calls Try.prog 30 #[.pointer (some ⟨c, 0, none⟩), .int .i64 k] wr fun e w' => e = .returned (.tuple #[.int .i64 (fullX Ls k), .bool (fullB Ls k)]) ∧ CentIn w w' c (fullL Ls k) := by
  obtain ⟨g, vs, h1, h2, h3, h4, h5⟩ := h
  exact (centTakeFull c g vs Ls k wr h1).mono fun _ _ ⟨a, b⟩ => ⟨a, CentIn.turn h2 h3 h4 h5 b⟩
theorem inBegin (h : CentIn w wr c Ls) (hl : ∀ i, (gL Ls i).length ≤ 20000) :
    Calls Try.prog 25 #[.pointer (some ⟨c, 0, none⟩)] wr fun e w' => e = .returned (.tuple #[]) ∧ CentIn w w' c (begTo Ls 32) := by
  obtain ⟨g, vs, h1, h2, h3, h4, h5⟩ := h
  exact (centBegin c g vs Ls wr h1 hl).mono fun _ _ ⟨a, b⟩ => ⟨a, CentIn.turn h2 h3 h4 h5 b⟩
theorem inUnswept (h : CentIn w wr c Ls) (hl : ∀ i, (gL Ls i).length ≤ 100000) :
    Calls Try.prog 27 #[.pointer (some ⟨c, 0, none⟩)] wr fun e w' => e = .returned (.int .i64 (unsw Ls 16 : Nat)) ∧ CentIn w w' c Ls := by
  have h0 := h
  obtain ⟨g, vs, h1, h2, h3, h4, h5⟩ := h
  exact (centUnswept c g vs Ls wr h1 hl).mono fun _ _ ⟨a, b⟩ => ⟨a, h0.still b⟩
theorem inAny (h : CentIn w wr c Ls) (hl : ∀ i, (gL Ls i).length ≤ 100000) :
    Calls Try.prog 35 #[.pointer (some ⟨c, 0, none⟩)] wr fun e w' => e = .returned (.tuple #[.int .i64 (anyK Ls), .int .i64 (anyX Ls), .bool (anyB Ls)]) ∧ CentIn w w' c (anyL Ls) := by
  obtain ⟨g, vs, h1, h2, h3, h4, h5⟩ := h
  exact (centAny c g vs Ls wr h1 hl).mono fun _ _ ⟨a, b⟩ => ⟨a, CentIn.turn h2 h3 h4 h5 b⟩
end
theorem gL_all {Ls : List (List Int)} {M : Nat} (h : Ls.all (fun l => decide (l.length ≤ M)) = true) : ∀ i, (gL Ls i).length ≤ M := by
  intro i
  unfold gL
  rw [List.getD_eq_getElem?_getD]
  cases hi : Ls[i]? with
  | none => simp
  | some l =>
    have := List.all_eq_true.1 h l (List.mem_of_getElem? hi)
    simpa using this
def T1 : List (List Int) := putC L0 0 7 false
def T2 : List (List Int) := putC T1 0 8 true
def T3 : List (List Int) := begTo T2 32
def T4 : List (List Int) := takeL T3 0
def T5 : List (List Int) := takeL T4 1
set_option maxHeartbeats 1000000 in
theorem told8 (w : World) : Calls Try.prog 29 #[] w fun e w' => e = .returned (.bool true) ∧ Ch [] w w' := by
  go_enter Try.func29, Try.ntmps29
  go_wp2_with fail
  refine (centNew w).mono ?_; rintro e w1 hn
  obtain ⟨c, rfl, h0⟩ := CentIn.new hn
  clear hn
  go_wp2_with fail
  refine (inPut 0 7 false h0 (gL_all (by decide +kernel))).mono ?_; rintro e w2 ⟨rfl, h1⟩
  replace h1 : CentIn w w2 c T1 := h1
  clear h0
  go_wp2_with fail
  refine (inPut 0 8 true h1 (gL_all (by decide +kernel))).mono ?_; rintro e w3 ⟨rfl, h2⟩
  replace h2 : CentIn w w3 c T2 := h2
  clear h1
  go_wp2_with fail
  refine (inBegin h2 (gL_all (by decide +kernel))).mono ?_; rintro e w4 ⟨rfl, h3⟩
  replace h3 : CentIn w w4 c T3 := h3
  clear h2
  go_wp2_with fail
  refine (inUnswept h3 (gL_all (by decide +kernel))).mono ?_; rintro e w5 ⟨rfl, h4⟩
  rw [show unsw T3 16 = 2 by decide +kernel]
  clear h3
  go_wp2_with fail
  refine (inTake 0 h4).mono ?_; rintro e w6 ⟨rfl, h5⟩
  rw [show takeX T3 0 = 7 by decide +kernel, show takeU T3 0 = true by decide +kernel, show takeB T3 0 = true by decide +kernel]
  replace h5 : CentIn w w6 c T4 := h5
  clear h4
  go_wp2_with fail
  refine (inTake 1 h5).mono ?_; rintro e w7 ⟨rfl, h6⟩
  rw [show takeX T4 1 = 0 by decide +kernel, show takeU T4 1 = false by decide +kernel, show takeB T4 1 = false by decide +kernel]
  replace h6 : CentIn w w7 c T5 := h6
  clear h5
  go_wp2_with fail
  refine (inTakeFull 0 h6).mono ?_; rintro e w8 ⟨rfl, h7⟩
  rw [show fullX T5 0 = 8 by decide +kernel, show fullB T5 0 = true by decide +kernel]
  have hend := h7.ch
  clear h6 h7
  go_wp2_with fail
  go_ret
  exact ⟨rfl, hend⟩
end Go.Proofs.Ytaafdhohiekakaa
