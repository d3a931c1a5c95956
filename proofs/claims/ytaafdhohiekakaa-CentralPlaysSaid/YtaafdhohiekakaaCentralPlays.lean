/-
  The walk of the statement CentralPlays: the law returns true at every input. Conditions: none beyond how the argument is read.
-/
import Derived.Test.YtaafdhohiekakaaRefCent3
import Derived.Test.YtaafdhohiekakaaCentMath
import Derived.Test.YtaafdhohiekakaaArgs
import Derived.Deep.CutBlock
import Derived.Deep.CutRange
import Derived.Says
namespace Go.Proofs.Ytaafdhohiekakaa
open Go.RowKit
/-- How the law brings an op's kind into its range. -/
theorem kind_eq (x : Int) (n : Nat) (hn : 0 < n) (hl : n < 1000) : ∃ j : Nat, (wrap64 (x.tmod n + n)).tmod n = (j : Int) ∧ j < n := by
  have h1 := Int.tmod_lt_of_pos x (show (0 : Int) < n by omega)
  have h2 : (x.tmod n).natAbs < n := by
    rw [Int.natAbs_tmod]
    exact Nat.mod_lt _ (by simpa using hn)
  have h3 : wrap64 (x.tmod n + n) = x.tmod n + n := IntWalk.wrap64_in _ (by omega)
  rw [h3, Int.tmod_eq_emod_of_nonneg (by omega)]
  have h4 := Int.emod_nonneg (x.tmod n + n) (show (n : Int) ≠ 0 by omega)
  have h5 := Int.emod_lt_of_pos (x.tmod n + n) (show (0 : Int) < n by omega)
  exact ⟨((x.tmod n + n) % n).toNat, by omega, by omega⟩
/-- The program's central c (rows L2), the document's r (rows L1), an op at q; nothing of w has turned. -/
structure CP (w wr : World) (c r g : Nat) (vs us : List Value) (L1 L2 : List (List Int)) (q : Nat) (cs : Array Value) : Prop where
  ct : CentAt wr c g vs L2
  rc : RC wr r us L1 (r :: c :: g :: blocksOf vs)
  bq : Blk wr q cs 59
  ch : Ch [] w wr
  rn : r ∉ c :: g :: blocksOf vs
  qn : q ∉ r :: c :: g :: blocksOf vs
  lo : ∀ k ∈ r :: c :: g :: blocksOf vs, w.heap.size ≤ k
def CPx (w wr : World) (c r : Nat) (L1 L2 : List (List Int)) (q : Nat) (cs : Array Value) : Prop := ∃ g vs us, CP w wr c r g vs us L1 L2 q cs
section
variable {w wr w2 w3 : World} {c r g q : Nat} {vs us : List Value} {L1 L2 L3 : List (List Int)} {cs : Array Value}
theorem CP.hi (h : CP w wr c r g vs us L1 L2 q cs) : ∀ k ∈ r :: c :: g :: blocksOf vs, k < wr.heap.size := by
  intro k hk
  simp only [List.mem_cons] at hk
  rcases hk with rfl | rfl | rfl | hk
  · exact h.rc.1.lt
  · exact h.ct.top.lt
  · exact h.ct.rows.lt
  · exact (h.ct.rows.above k hk).2
theorem CPx.still (h : CPx w wr c r L1 L2 q cs) (hc : Ch [] wr w2) : CPx w w2 c r L1 L2 q cs := by
  obtain ⟨g, vs, us, h⟩ := h
  exact ⟨g, vs, us, h.ct.ch hc, h.rc.still hc, h.bq.keep hc (by simp), h.ch.trans hc, h.rn, h.qn, h.lo⟩
theorem CPx.blk (h : CPx w wr c r L1 L2 q cs) : Blk wr q cs 59 := by
  obtain ⟨g, vs, us, h⟩ := h
  exact h.bq
theorem CPx.ch (h : CPx w wr c r L1 L2 q cs) : Ch [] w wr := by
  obtain ⟨g, vs, us, h⟩ := h
  exact h.ch
theorem CPx.len (h : CPx w wr c r L1 L2 q cs) : L1.length = 64 ∧ L2.length = 64 := by
  obtain ⟨g, vs, us, h⟩ := h
  exact ⟨h.rc.2.1, h.ct.len⟩
theorem CP.prog (h : CP w wr c r g vs us L1 L2 q cs) (hT : Turned wr c g vs L3 w2) : CPx w w2 c r L1 L3 q cs := by
  obtain ⟨vs', a, b, d⟩ := hT
  have hi := h.hi
  have hsub : ∀ k ∈ g :: blocksOf vs, k ∈ r :: c :: g :: blocksOf vs := fun k hk => List.mem_cons_of_mem _ (List.mem_cons_of_mem _ hk)
  have hq : q ∉ g :: blocksOf vs := fun hk => h.qn (hsub q hk)
  have hr : r ∉ g :: blocksOf vs := fun hk => h.rn (List.mem_cons_of_mem _ hk)
  have hnew : ∀ k ∈ r :: c :: g :: blocksOf vs', k ∈ r :: c :: g :: blocksOf vs ∨ wr.heap.size ≤ k := by
    intro k hk
    simp only [List.mem_cons] at hk ⊢
    rcases hk with rfl | rfl | rfl | hk
    · exact .inl (.inl rfl)
    · exact .inl (.inr (.inl rfl))
    · exact .inl (.inr (.inr (.inl rfl)))
    · rcases d k hk with h1 | h1
      · exact .inl (.inr (.inr (.inr h1)))
      · exact .inr h1
  refine ⟨g, vs', us, a, ⟨h.rc.1.step b hr (fun k hk => .inl (hsub k hk)) hnew, h.rc.2.1, by simp⟩, h.bq.keep b hq, h.ch.transT b (fun k hk => .inr (h.lo k (hsub k hk))), ?_, ?_, ?_⟩
  · intro hk
    simp only [List.mem_cons] at hk
    rcases hk with rfl | rfl | hk
    · exact h.rn (by simp)
    · exact h.rn (by simp)
    · rcases d r hk with h1 | h1
      · exact hr (List.mem_cons_of_mem _ h1)
      · have := hi r (by simp); omega
  · intro hk
    rcases hnew q hk with h1 | h1
    · exact h.qn h1
    · have := h.bq.lt; omega
  · intro k hk
    rcases hnew k hk with h1 | h1
    · exact h.lo k h1
    · exact Nat.le_trans h.ch.size h1
theorem CP.doc (h : CP w wr c r g vs us L1 L2 q cs) (hT : RCx w2 r L3 (r :: c :: g :: blocksOf vs)) (hc : Ch [r] wr w2) : CPx w w2 c r L3 L2 q cs := by
  obtain ⟨us', hT⟩ := hT
  have hn := h.rn
  simp only [List.mem_cons, not_or] at hn
  exact ⟨g, vs, us', h.ct.keep hc (by simp; exact fun e => hn.1 e.symm) (by simp; exact fun e => hn.2.1 e.symm) (by intro k hk; simp at hk; subst hk; exact hn.2.2), hT, h.bq.keep hc (by intro hk; simp at hk; subst hk; exact h.qn (by simp)),
    h.ch.transT hc (fun k hk => .inr (by simp at hk; subst hk; exact h.lo k (by simp))), h.rn, h.qn, h.lo⟩
theorem tot_set_le {Ls : List (List Int)} (hlen : Ls.length = 64) {i : Nat} (hi : i < 64) (L : List Int) (hL : L.length ≤ (gL Ls i).length) : tot (Ls.set i L) ≤ tot Ls := by
  have := tot_set hlen hi L
  omega
theorem tot_take {Ls : List (List Int)} (hlen : Ls.length = 64) (k : Int) : tot (takeL Ls k) ≤ tot Ls := by
  unfold takeL
  cases hk : okC k with
  | false => simp
  | true =>
    have := okC_lt hk
    simp only [if_true]
    split
    · exact tot_set_le hlen (by omega) _ (by simp)
    · exact tot_set_le hlen (by omega) _ (by simp)
theorem tot_full {Ls : List (List Int)} (hlen : Ls.length = 64) (k : Int) : tot (fullL Ls k) ≤ tot Ls := by
  unfold fullL
  cases hk : okC k with
  | false => simp
  | true =>
    have := okC_lt hk
    simp only [if_true]
    exact tot_set_le hlen (by omega) _ (by simp)
theorem tot_any {Ls : List (List Int)} (hlen : Ls.length = 64) : tot (anyL Ls) ≤ tot Ls := by
  unfold anyL
  rcases anyM_cases Ls with ⟨h1, h2⟩ | ⟨m, x, t, h1, h2, h3, h4⟩
  · rw [h1]
    exact Nat.le_refl _
  · rw [h1]
    exact tot_set_le hlen (by unfold ur; omega) _ (by simp)
theorem tot_putL {Ls : List (List Int)} (hlen : Ls.length = 64) (k x : Int) (b : Bool) : tot (putC Ls k x b) ≤ tot Ls + 1 := by
  cases hk : okC k with
  | true =>
    have := tot_put hlen hk x b
    omega
  | false =>
    unfold putC
    rw [hk]
    simp
theorem xPut1 (k x : Int) (b : Bool) (h : CPx w wr c r L1 L2 q cs) (hl : tot L2 ≤ 1000) :
    Calls Try.prog 24 #[.pointer (some ⟨c, 0, none⟩), .int .i64 k, .int .i64 x, .bool b] wr fun e w' => e = .returned (.tuple #[]) ∧ CPx w w' c r L1 (putC L2 k x b) q cs := by
  have hle := le_tot h.len.2 (M := 50000) (by omega)
  obtain ⟨g, vs, us, h⟩ := h
  exact (centPut c g vs L2 k x b wr h.ct hle).mono fun _ _ ⟨a, b⟩ => ⟨a, h.prog b⟩
theorem xPut2 (k x : Int) (b : Bool) (h : CPx w wr c r L1 L2 q cs) (hl : tot L1 ≤ 1000) :
    Calls Try.prog 31 #[.pointer (some ⟨r, 0, none⟩), .int .i64 k, .int .i64 x, .bool b] wr fun e w' => e = .returned (.tuple #[]) ∧ CPx w w' c r (putC L1 k x b) L2 q cs := by
  have hle := le_tot h.len.1 (M := 50000) (by omega)
  obtain ⟨g, vs, us, h⟩ := h
  exact (refCPut k x b h.rc h.hi hle).mono fun _ _ ⟨a, b, d⟩ => ⟨a, h.doc b d⟩
theorem xTake1 (k : Int) (h : CPx w wr c r L1 L2 q cs) :
    Calls Try.prog 28 #[.pointer (some ⟨c, 0, none⟩), .int .i64 k] wr fun e w' => e = .returned (.tuple #[.int .i64 (takeX L2 k), .bool (takeU L2 k), .bool (takeB L2 k)]) ∧ CPx w w' c r L1 (takeL L2 k) q cs := by
  obtain ⟨g, vs, us, h⟩ := h
  exact (centTake c g vs L2 k wr h.ct).mono fun _ _ ⟨a, b⟩ => ⟨a, h.prog b⟩
theorem xTake2 (k : Int) (h : CPx w wr c r L1 L2 q cs) (hl : tot L1 ≤ 1000) :
    Calls Try.prog 32 #[.pointer (some ⟨r, 0, none⟩), .int .i64 k] wr fun e w' => e = .returned (.tuple #[.int .i64 (takeX L1 k), .bool (takeU L1 k), .bool (takeB L1 k)]) ∧ CPx w w' c r (takeL L1 k) L2 q cs := by
  have hle := le_tot h.len.1 (M := 100000) (by omega)
  obtain ⟨g, vs, us, h⟩ := h
  exact (refCTake k h.rc hle).mono fun _ _ ⟨a, b, d⟩ => ⟨a, h.doc b d⟩
theorem xFull1 (k : Int) (h : CPx w wr c r L1 L2 q cs) :
    Calls Try.prog 30 #[.pointer (some ⟨c, 0, none⟩), .int .i64 k] wr fun e w' => e = .returned (.tuple #[.int .i64 (fullX L2 k), .bool (fullB L2 k)]) ∧ CPx w w' c r L1 (fullL L2 k) q cs := by
  obtain ⟨g, vs, us, h⟩ := h
  exact (centTakeFull c g vs L2 k wr h.ct).mono fun _ _ ⟨a, b⟩ => ⟨a, h.prog b⟩
theorem xFull2 (k : Int) (h : CPx w wr c r L1 L2 q cs) (hl : tot L1 ≤ 1000) :
    Calls Try.prog 33 #[.pointer (some ⟨r, 0, none⟩), .int .i64 k] wr fun e w' => e = .returned (.tuple #[.int .i64 (fullX L1 k), .bool (fullB L1 k)]) ∧ CPx w w' c r (fullL L1 k) L2 q cs := by
  have hle := le_tot h.len.1 (M := 100000) (by omega)
  obtain ⟨g, vs, us, h⟩ := h
  exact (refCTakeFull k h.rc hle).mono fun _ _ ⟨a, b, d⟩ => ⟨a, h.doc b d⟩
theorem xBegin1 (h : CPx w wr c r L1 L2 q cs) (hl : tot L2 ≤ 1000) :
    Calls Try.prog 25 #[.pointer (some ⟨c, 0, none⟩)] wr fun e w' => e = .returned (.tuple #[]) ∧ CPx w w' c r L1 (begTo L2 32) q cs := by
  have hle := le_tot h.len.2 (M := 20000) (by omega)
  obtain ⟨g, vs, us, h⟩ := h
  exact (centBegin c g vs L2 wr h.ct hle).mono fun _ _ ⟨a, b⟩ => ⟨a, h.prog b⟩
theorem xBegin2 (h : CPx w wr c r L1 L2 q cs) (hl : tot L1 ≤ 1000) :
    Calls Try.prog 34 #[.pointer (some ⟨r, 0, none⟩)] wr fun e w' => e = .returned (.tuple #[]) ∧ CPx w w' c r (begTo L1 32) L2 q cs := by
  have hle := le_tot h.len.1 (M := 20000) (by omega)
  obtain ⟨g, vs, us, h⟩ := h
  exact (refCBegin h.rc h.hi hle).mono fun _ _ ⟨a, b, d⟩ => ⟨a, h.doc b d⟩
theorem xAny1 (h : CPx w wr c r L1 L2 q cs) (hl : tot L2 ≤ 1000) :
    Calls Try.prog 35 #[.pointer (some ⟨c, 0, none⟩)] wr fun e w' => e = .returned (.tuple #[.int .i64 (anyK L2), .int .i64 (anyX L2), .bool (anyB L2)]) ∧ CPx w w' c r L1 (anyL L2) q cs := by
  have hle := le_tot h.len.2 (M := 100000) (by omega)
  obtain ⟨g, vs, us, h⟩ := h
  exact (centAny c g vs L2 wr h.ct hle).mono fun _ _ ⟨a, b⟩ => ⟨a, h.prog b⟩
theorem xAny2 (h : CPx w wr c r L1 L2 q cs) (hl : tot L1 ≤ 1000) :
    Calls Try.prog 36 #[.pointer (some ⟨r, 0, none⟩)] wr fun e w' => e = .returned (.tuple #[.int .i64 (anyK L1), .int .i64 (anyX L1), .bool (anyB L1)]) ∧ CPx w w' c r (anyL L1) L2 q cs := by
  have hle := le_tot h.len.1 (M := 100000) (by omega)
  obtain ⟨g, vs, us, h⟩ := h
  exact (refCAny h.rc hle).mono fun _ _ ⟨a, b, d⟩ => ⟨a, h.doc b d⟩
theorem xDel1 (x : Int) (h : CPx w wr c r L1 L2 q cs) (hl : tot L2 ≤ 1000) :
    Calls Try.prog 26 #[.pointer (some ⟨c, 0, none⟩), .int .i64 x] wr fun e w' => e = .returned (.bool (hitC L2 x)) ∧ CPx w w' c r L1 (delC L2 x) q cs := by
  have hle := le_tot h.len.2 (M := 50000) (by omega)
  obtain ⟨g, vs, us, h⟩ := h
  exact (centDel c g vs L2 x wr h.ct hle).mono fun _ _ ⟨a, b⟩ => ⟨a, h.prog b⟩
theorem xDel2 (x : Int) (h : CPx w wr c r L1 L2 q cs) (hl : tot L1 ≤ 1000) :
    Calls Try.prog 37 #[.pointer (some ⟨r, 0, none⟩), .int .i64 x] wr fun e w' => e = .returned (.bool (hitC L1 x)) ∧ CPx w w' c r (delC L1 x) L2 q cs := by
  have hle := le_tot h.len.1 (M := 50000) (by omega)
  obtain ⟨g, vs, us, h⟩ := h
  exact (refCDel x h.rc h.hi hle).mono fun _ _ ⟨a, b, d⟩ => ⟨a, h.doc b d⟩
theorem xUns1 (h : CPx w wr c r L1 L2 q cs) (hl : tot L2 ≤ 1000) :
    Calls Try.prog 27 #[.pointer (some ⟨c, 0, none⟩)] wr fun e w' => e = .returned (.int .i64 (unsw L2 16 : Nat)) ∧ CPx w w' c r L1 L2 q cs := by
  have hle := le_tot h.len.2 (M := 100000) (by omega)
  have h0 := h
  obtain ⟨g, vs, us, h⟩ := h
  exact (centUnswept c g vs L2 wr h.ct hle).mono fun _ _ ⟨a, b⟩ => ⟨a, h0.still b⟩
theorem xUns2 (h : CPx w wr c r L1 L2 q cs) (hl : tot L1 ≤ 1000) :
    Calls Try.prog 38 #[.pointer (some ⟨r, 0, none⟩)] wr fun e w' => e = .returned (.int .i64 (unsw L1 16 : Nat)) ∧ CPx w w' c r L1 L2 q cs := by
  have hle := le_tot h.len.1 (M := 100000) (by omega)
  have h0 := h
  obtain ⟨g, vs, us, h⟩ := h
  exact (refCUnswept h.rc hle).mono fun _ _ ⟨a, b⟩ => ⟨a, h0.still b⟩
/-- The same without the op. -/
def CPy (w wr : World) (c r : Nat) (Ls : List (List Int)) : Prop := ∃ g vs us, CentAt wr c g vs Ls ∧ RC wr r us Ls (r :: c :: g :: blocksOf vs) ∧ Ch [] w wr ∧ r ∉ c :: g :: blocksOf vs ∧ ∀ k ∈ r :: c :: g :: blocksOf vs, w.heap.size ≤ k
theorem CPx.forget (h : CPx w wr c r L1 L1 q cs) : CPy w wr c r L1 := by
  obtain ⟨g, vs, us, h⟩ := h
  exact ⟨g, vs, us, h.ct, h.rc, h.ch, h.rn, h.lo⟩
theorem CPy.ch (h : CPy w wr c r L1) : Ch [] w wr := by
  obtain ⟨g, vs, us, _, _, h, _⟩ := h
  exact h
theorem CPy.withOp (h : CPy w wr c r L1) (cs : Array Value) : CPx w (wr.alloc (.cells cs 59)) c r L1 L1 wr.heap.size cs := by
  obtain ⟨g, vs, us, h1, h2, h3, h4, h5⟩ := h
  have ca := (Ch.refl [] wr).alloc (.cells cs 59)
  refine ⟨g, vs, us, h1.ch ca, h2.still ca, Blk.new _ _ _, h3.trans ca, h4, ?_, h5⟩
  intro hk
  simp only [List.mem_cons] at hk
  rcases hk with e | e | e | hk
  · have := h2.1.lt; omega
  · have := h1.top.lt; omega
  · have := h1.rows.lt; omega
  · have := (h1.rows.above _ hk).2; omega
end
set_option maxRecDepth 100000 in
set_option maxHeartbeats 40000000 in
theorem plays8_walk (a0 : Option Addr) (len cap : Nat) (F : Nat → Nat → Value) (w : World) (hr : RdS w a0 len 4 F) (ht : ∀ i, i < len → (∃ x, F i 0 = .int .i64 x) ∧ (∃ x, F i 1 = .int .i64 x) ∧ (∃ x, F i 2 = .int .i64 x) ∧ (∃ x, F i 3 = .bool x)) (hm : len ≤ maxLen) :
    Calls Try.prog 8 #[.slice a0 len cap] w fun e w' => e = .returned (.bool true) ∧ Below w.heap.size w w' := by
  unfold maxLen at hm
  go_enter Try.func8, Try.ntmps8
  go_wp2_with fail
  refine (centNew _).mono ?_; rintro e w1 hn
  obtain ⟨c, g, rfl, h1, h2, h3, h4⟩ := hn
  go_upto_region 5 with fail
  refine wp_named fun W1 hW1 => ?_
  obtain ⟨r, hrr⟩ : ∃ r, w1.heap.size = r := ⟨_, rfl⟩
  have cW : Ch [] w1 W1 := by rw [hW1]; exact (Ch.refl [] w1).alloc _
  have hB : Blk W1 r (List.replicate 64 (Value.slice none 0 0)).toArray 57 := by rw [hW1, ← hrr]; exact Blk.new _ _ _
  have hst : CPy w W1 c r L0 := by
    have e1 := h1.top.lt
    have e2 := h1.rows.lt
    have hbk : blocksOf (List.replicate 64 (Value.slice none 0 0)) = [] := by decide
    refine ⟨g, _, List.replicate 64 (.slice none 0 0), h1.ch cW, ⟨⟨by simp [L0], hB, ?_⟩, by decide, by simp⟩, h4.trans cW, ?_, ?_⟩
    · intro i v hv
      obtain ⟨hi, rfl⟩ := List.getElem?_eq_some_iff.1 hv
      rw [List.getElem_replicate, show gL L0 i = [] from by unfold L0; rw [gL_rep]]
      exact ⟨none, 0, rfl, LsF.nil _ _⟩
    · rw [hbk]; simp only [List.mem_cons, List.not_mem_nil, or_false, not_or]; omega
    · rw [hbk]
      intro k hk
      simp only [List.mem_cons, List.not_mem_nil, or_false] at hk
      have := h4.size
      rcases hk with rfl | rfl | rfl <;> omega
  rw [hrr]
  clear hW1 hrr cW hB h1 h2 h3 h4
  go_wp2_with fail
  go_loopw [5] (fun s5 wr => ∃ (i : Nat) (Ls : List (List Int)), s5 = .int .i64 i ∧ i ≤ len ∧ i ≤ 60 ∧ tot Ls ≤ i ∧ CPy w wr c r Ls) (fun s5 _ => 60 - (intOf s5).toNat)
  case atStart => exact ⟨0, _, rfl, by omega, by omega, by rw [tot_L0]; exact Nat.le_refl _, hst⟩
  case round =>
    clear hst
    obtain ⟨i, Ls, rfl, hil, hi60, htot, hst⟩ := hrel
    by_cases hlt : i < len
    · by_cases h60 : i < 60
      · have t1 : decide ((i : Int) < len) = true := decide_eq_true (by omega)
        have t2 : decide ((i : Int) < 60) = true := decide_eq_true (by omega)
        obtain ⟨⟨x, hx⟩, ⟨a, ha⟩, ⟨d, hd⟩, ⟨bb, hbb⟩⟩ := ht i hlt
        obtain ⟨ba, oa, rfl, hcell⟩ := (hr.keep (by decide) hst.ch (by simp)).at hlt
        have d0 := hcell i hlt 0 (by decide)
        have d1 := hcell i hlt 1 (by decide)
        have d2 := hcell i hlt 2 (by decide)
        have d3 := hcell i hlt 3 (by decide)
        rw [hx, Nat.add_zero] at d0
        rw [ha] at d1
        rw [hd] at d2
        rw [hbb] at d3
        clear hcell hx ha hd hbb
        have hst1 := hst.withOp #[.int .i64 x, .int .i64 a, .int .i64 d, .bool bb]
        go_upto_region 9 with fail
        obtain ⟨W1, hW1⟩ : ∃ W1, wr.alloc (.cells #[.int .i64 x, .int .i64 a, .int .i64 d, .bool bb] 59) = W1 := ⟨_, rfl⟩
        obtain ⟨q, hq⟩ : ∃ q, wr.heap.size = q := ⟨_, rfl⟩
        rw [hW1, hq] at hst1
        rw [hW1, hq]
        clear hW1 hq hst d0 d1 d2 d3
        have e0 := hst1.blk.cell 0
        have e1 := hst1.blk.cell 1
        have e2 := hst1.blk.cell 2
        have e3 := hst1.blk.cell 3
        obtain ⟨j, hj, hjl⟩ := kind_eq x 8 (by decide) (by decide)
        replace hj : (wrap64 (x.tmod 8 + 8)).tmod 8 = (j : Int) := hj
        go_upto_block 2 with fail
        go_cut [7, 8, 9, 10, 11, 12, 13, 14, 15, 16, 17, 18, 19, 20, 21, 22, 23, 47] from 48 to 164 (fun s7 s8 s9 s10 s11 s12 s13 s14 s15 s16 s17 s18 s19 s20 s21 s22 s23 s47 wx => s7 = .bool true ∧ ∃ Ls : List (List Int), tot Ls ≤ i + 1 ∧ CPx w wx c r Ls Ls q #[.int .i64 x, .int .i64 a, .int .i64 d, .bool bb])
        case first =>
          obtain ⟨J, hJ⟩ : ∃ J : Int, (j : Int) = J := ⟨_, rfl⟩
          try rw [hj]
          rw [hJ]
          have hJ0 : J = 0 ∨ J = 1 ∨ J = 2 ∨ J = 3 ∨ J = 4 ∨ J = 5 ∨ J = 6 ∨ J = 7 := by omega
          clear hj hJ hjl t1 t2
          have hlen := hst1.len.1
          rcases hJ0 with rfl | rfl | rfl | rfl | rfl | rfl | rfl | rfl
          · go_wp2_with fail
            refine (xPut1 a d bb hst1 (by omega)).mono ?_; rintro e w2 ⟨rfl, h2⟩
            have e0 := h2.blk.cell 0
            have e1 := h2.blk.cell 1
            have e2 := h2.blk.cell 2
            have e3 := h2.blk.cell 3
            go_wp2_with fail
            refine (xPut2 a d bb h2 (by omega)).mono ?_; rintro e w3 ⟨rfl, h3⟩
            clear e0 e1 e2 e3 h2
            go_wp2_with fail
            go_meet
            exact ⟨rfl, _, (by have := tot_putL hlen a d bb; omega), h3⟩
          · go_wp2_with fail
            refine (xPut1 a d bb hst1 (by omega)).mono ?_; rintro e w2 ⟨rfl, h2⟩
            have e0 := h2.blk.cell 0
            have e1 := h2.blk.cell 1
            have e2 := h2.blk.cell 2
            have e3 := h2.blk.cell 3
            go_wp2_with fail
            refine (xPut2 a d bb h2 (by omega)).mono ?_; rintro e w3 ⟨rfl, h3⟩
            clear e0 e1 e2 e3 h2
            go_wp2_with fail
            go_meet
            exact ⟨rfl, _, (by have := tot_putL hlen a d bb; omega), h3⟩
          · go_wp2_with fail
            refine (xPut1 a d bb hst1 (by omega)).mono ?_; rintro e w2 ⟨rfl, h2⟩
            have e0 := h2.blk.cell 0
            have e1 := h2.blk.cell 1
            have e2 := h2.blk.cell 2
            have e3 := h2.blk.cell 3
            go_wp2_with fail
            refine (xPut2 a d bb h2 (by omega)).mono ?_; rintro e w3 ⟨rfl, h3⟩
            clear e0 e1 e2 e3 h2
            go_wp2_with fail
            go_meet
            exact ⟨rfl, _, (by have := tot_putL hlen a d bb; omega), h3⟩
          · go_wp2_with fail
            refine (xTake1 a hst1).mono ?_; rintro e w2 ⟨rfl, h2⟩
            have e0 := h2.blk.cell 0
            have e1 := h2.blk.cell 1
            have e2 := h2.blk.cell 2
            have e3 := h2.blk.cell 3
            go_wp2_with fail
            refine (xTake2 a h2 (by omega)).mono ?_; rintro e w3 ⟨rfl, h3⟩
            clear e0 e1 e2 e3 h2
            go_wp2_with fail
            go_meet
            exact ⟨rfl, _, (by have := tot_take hlen a; omega), h3⟩
          · go_wp2_with fail
            refine (xFull1 a hst1).mono ?_; rintro e w2 ⟨rfl, h2⟩
            have e0 := h2.blk.cell 0
            have e1 := h2.blk.cell 1
            have e2 := h2.blk.cell 2
            have e3 := h2.blk.cell 3
            go_wp2_with fail
            refine (xFull2 a h2 (by omega)).mono ?_; rintro e w3 ⟨rfl, h3⟩
            clear e0 e1 e2 e3 h2
            go_wp2_with fail
            go_meet
            exact ⟨rfl, _, (by have := tot_full hlen a; omega), h3⟩
          · go_wp2_with fail
            refine (xBegin1 hst1 (by omega)).mono ?_; rintro e w2 ⟨rfl, h2⟩
            have e0 := h2.blk.cell 0
            have e1 := h2.blk.cell 1
            have e2 := h2.blk.cell 2
            have e3 := h2.blk.cell 3
            go_wp2_with fail
            refine (xBegin2 h2 (by omega)).mono ?_; rintro e w3 ⟨rfl, h3⟩
            clear e0 e1 e2 e3 h2
            go_wp2_with fail
            go_meet
            exact ⟨rfl, _, (by have := (beg_sums hlen 0 32 (by omega)).2; omega), h3⟩
          · go_wp2_with fail
            refine (xAny1 hst1 (by omega)).mono ?_; rintro e w2 ⟨rfl, h2⟩
            have e0 := h2.blk.cell 0
            have e1 := h2.blk.cell 1
            have e2 := h2.blk.cell 2
            have e3 := h2.blk.cell 3
            go_wp2_with fail
            refine (xAny2 h2 (by omega)).mono ?_; rintro e w3 ⟨rfl, h3⟩
            clear e0 e1 e2 e3 h2
            go_wp2_with fail
            go_meet
            exact ⟨rfl, _, (by have := tot_any hlen; omega), h3⟩
          · go_upto_region 11 with fail
            obtain ⟨L, hL⟩ : ∃ L : World → Prop, ∀ w', L w' ↔ w'.cell? ⟨q, 2, none⟩ = some (.int .i64 d) := ⟨_, fun _ => Iff.rfl⟩
            have hS1 : ∀ x : { w' : World // L w' }, x.1.cell? ⟨q, 2, none⟩ = some (.int .i64 d) := fun x => (hL _).1 x.2
            have hLk : ∀ w', Blk w' q #[.int .i64 x, .int .i64 a, .int .i64 d, .bool bb] 59 → L w' := fun w' hb => (hL _).2 (hb.cell 2)
            have hst2 := hst1.still ((Ch.refl [] W1).drewN 1)
            have hS0 := hLk _ hst2.blk
            have hSA : Nonempty { w' : World // L w' } := ⟨⟨_, hS0⟩⟩
            have HLk := Lib.hid hLk
            clear hL hLk hst1
            have x1 := xDel1 d hst2 (by omega)
            obtain ⟨P, hP⟩ : ∃ P, hitC Ls d = P := ⟨_, rfl⟩
            have HP := Lib.hid hP
            rw [hP] at x1
            clear hP
            refine wp_region_plan (Cls L) (List.range 10) (.reads [0, 1, 2, 4, 5, 6] (.only 3 (.only 7 (.reads [8, 9] .done)))) (by kernel_rfl) (by kernel_rfl) (fun _ _ _ _ _ h => h) ?_
            simp only [Plan.reads, Plan.only, List.foldr_cons, List.foldr_nil]
            iterate 6 (refine wpPlan_readS hS0 (fun K hK => ?_); simp only [List.getD_cons_zero, List.getD_cons_succ]; go_simp; refine hK _ ?_; clear hK K)
            refine wpPlan_only (fun K hK => ?_)
            simp only [List.getD_cons_zero, List.getD_cons_succ]
            go_simp
            refine x1.mono ?_; rintro e w3 ⟨rfl, h3⟩
            have hl3 := HLk.out _ h3.blk
            refine hK _ _ (fun _ => Cls.mk hl3) ?_
            clear hK K x1 hst2
            have x1 := xDel2 d h3 (by omega)
            rw [HP.out] at x1
            refine wpPlan_only (fun K hK => ?_)
            simp only [List.getD_cons_zero, List.getD_cons_succ]
            go_simp
            refine x1.mono ?_; rintro e w4 ⟨rfl, h4⟩
            have hl4 := HLk.out _ h4.blk
            refine hK _ _ (fun _ => Cls.mk hl4) ?_
            clear hK K x1 h3
            iterate 2 (refine wpPlan_readS hl4 (fun K hK => ?_); simp only [List.getD_cons_zero, List.getD_cons_succ]; go_simp; refine hK _ ?_; clear hK K)
            refine wpPlan_done ?_
            clear hS0 hS1 hSA hl3 hl4
            go_wp2_with fail
            go_meet
            exact ⟨rfl, _, (by have := tot_del hlen d; omega), h4⟩
        case rest =>
          obtain ⟨rfl, Ls5, htot5, hst5⟩ := hcut
          clear hst1 e0 e1 e2 e3 hj
          have x1 := xUns1 hst5 (by omega)
          obtain ⟨N, hN⟩ : ∃ N, unsw Ls5 16 = N := ⟨_, rfl⟩
          have HN := Lib.hid hN
          rw [hN] at x1
          clear hN
          have nn : ((N : Int) != (N : Int)) = false := by simp
          go_wp2_with fail
          refine x1.mono ?_; rintro e w4 ⟨rfl, h4⟩
          clear x1 hst5
          have x1 := xUns2 h4 (by omega)
          rw [HN.out] at x1
          go_wp2_with fail
          refine x1.mono ?_; rintro e w5 ⟨rfl, h5⟩
          clear x1 h4
          have h6 := h5.forget
          go_wp2_with fail
          go_roundw
          case rel => exact ⟨i + 1, Ls5, by go_num, by omega, by omega, htot5, h6⟩
          case measure => simp [intOf]; omega
      · have t1 : decide ((i : Int) < len) = true := decide_eq_true (by omega)
        have t2 : decide ((i : Int) < 60) = false := decide_eq_false (by omega)
        go_wp2_with fail
        refine (told8 _).mono ?_; rintro e w3 ⟨rfl, c3⟩
        go_wp2
        go_ret
        exact ⟨rfl, (hst.ch.trans c3).below (Nat.le_refl _) (by simp)⟩
    · have t1 : decide ((i : Int) < len) = false := decide_eq_false (by omega)
      go_wp2_with fail
      refine (told8 _).mono ?_; rintro e w3 ⟨rfl, c3⟩
      go_wp2
      go_ret
      exact ⟨rfl, (hst.ch.trans c3).below (Nat.le_refl _) (by simp)⟩
end Go.Proofs.Ytaafdhohiekakaa
