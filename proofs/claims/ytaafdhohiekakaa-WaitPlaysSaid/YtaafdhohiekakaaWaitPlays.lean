/-
  The walk of the statement WaitPlays: the law returns true at every input. Conditions: none beyond how the argument is read.
-/
import Derived.Test.YtaafdhohiekakaaWaitTold
import Derived.Test.YtaafdhohiekakaaRefWait
import Derived.Test.YtaafdhohiekakaaArgs
import Derived.Test.YtaafdhohiekakaaInts
import Derived.Deep.CutBlock
import Derived.Deep.CutRange
import Derived.Says
namespace Go.Proofs.Ytaafdhohiekakaa
open Go.RowKit
/-- How the law brings an op's kind into its range. -/
theorem kind_eq (x : Int) (n : Nat) (hn : 0 < n) (hl : n < 1000) : ∃ j : Nat, (wrap64 (x.tmod n + n)).tmod n = (j : Int) ∧ j < n := by
  have h1 := Int.tmod_lt_of_pos x (show (0 : Int) < n by omega)
  have h2 : (x.tmod n).natAbs < n := by
    rw [Int.natAbs_tmod]
    exact Nat.mod_lt _ (by simpa using hn)
  have h3 : wrap64 (x.tmod n + n) = x.tmod n + n := IntWalk.wrap64_in _ (by omega)
  rw [h3, Int.tmod_eq_emod_of_nonneg (by omega)]
  have h4 := Int.emod_nonneg (x.tmod n + n) (show (n : Int) ≠ 0 by omega)
  have h5 := Int.emod_lt_of_pos (x.tmod n + n) (show (0 : Int) < n by omega)
  exact ⟨((x.tmod n + n) % n).toNat, by omega, by omega⟩
theorem waitDelAny (b : Nat) (vs : List Value) (Ls : List (List Int)) (g : Int) (w : World) (h : WaitsAt w b vs Ls) (hl : ∀ i, (gL Ls i).length ≤ 50000) :
    Calls Try.prog 18 #[.pointer (some ⟨b, 0, none⟩), .int .i64 g] w fun e w' => e = .returned (.bool (hitAny Ls g)) ∧
      ∃ vs', WaitsAt w' b vs' (delL Ls g) ∧ Ch (b :: blocksOf vs) w w' ∧ (∀ k ∈ blocksOf vs', k ∈ blocksOf vs ∨ w.heap.size ≤ k) := by
  have cv : ∀ k, hitW Ls g k = false → g ∉ gL Ls k := fun k hk => by unfold hitW at hk; simpa using hk
  rcases hit_cases Ls g with ⟨h1, h2⟩ | ⟨h1, j, hj, h2, h3⟩
  · rw [h1, delL_none h2]
    refine (waitDelNone b vs Ls g w h (fun k hk => cv k (h2 k hk)) (fun i => by have := hl i; omega)).mono ?_
    rintro e w' ⟨rfl, rfl⟩
    exact ⟨rfl, vs, h, Ch.refl _ _, fun k hk => .inl hk⟩
  · rw [h1, delL_at hj h2 h3]
    obtain ⟨p, q, hpq, hp, her⟩ := contains_split (show (gL Ls j).contains g = true from h2)
    rw [her]
    exact waitDel b vs Ls g j p q w h hj hpq hp (fun k hk => cv k (h3 k hk)) hl
theorem waitAllNo (b : Nat) (a : Int) (w : World) (ha : a < 0 ∨ 31 < a) : Calls Try.prog 16 #[.pointer (some ⟨b, 0, none⟩), .int .i64 a] w fun e w' => e = .returned (.slice none 0 0) ∧ w' = w := by
  have hP := placeNo a ha w
  clear ha
  go_enter Try.func16, Try.ntmps16
  go_wp2_with fail
  refine hP.mono ?_; rintro e w1 ⟨rfl, rfl⟩
  go_wp2
  go_ret
  exact ⟨rfl, rfl⟩
theorem gL_set_le (Ls : List (List Int)) (i n : Nat) (L : List Int) (h : ∀ j, (gL Ls j).length ≤ n) (hL : L.length ≤ n) : ∀ j, (gL (Ls.set i L) j).length ≤ n := by
  intro j
  by_cases hi : i < Ls.length
  · rw [gL_set _ _ _ _ hi]
    split
    · exact hL
    · exact h j
  · rw [List.set_eq_of_length_le (by omega)]
    exact h j
theorem waitL_le (Ls : List (List Int)) (a g : Int) (n : Nat) (h : ∀ j, (gL Ls j).length ≤ n) : ∀ j, (gL (waitL Ls a g) j).length ≤ n + 1 := by
  intro j
  unfold waitL
  split
  · have := h j; omega
  · split
    · have := h j; omega
    · exact gL_set_le Ls _ (n + 1) _ (fun j => by have := h j; omega) (by have := h a.toNat; simp; omega) j
theorem wakeL_le (Ls : List (List Int)) (a : Int) (n : Nat) (h : ∀ j, (gL Ls j).length ≤ n) : ∀ j, (gL (wakeL Ls a) j).length ≤ n + 1 := by
  intro j
  unfold wakeL
  split
  · have := h j; omega
  · exact gL_set_le Ls _ (n + 1) _ (fun j => by have := h j; omega) (by have := h a.toNat; rw [List.length_tail]; omega) j
theorem delL_le (Ls : List (List Int)) (g : Int) (n : Nat) (h : ∀ j, (gL Ls j).length ≤ n) : ∀ j, (gL (delL Ls g) j).length ≤ n + 1 := by
  intro j
  unfold delL
  split
  · rename_i i _
    exact gL_set_le Ls _ (n + 1) _ (fun j => by have := h j; omega) (by have h1 := h i; have h2 := List.length_erase_le (a := g) (l := gL Ls i); omega) j
  · have := h j; omega
theorem lens_le (Ls : List (List Int)) (n : Nat) (hl : Ls.length = 32) (h : ∀ j, (gL Ls j).length ≤ n) : ∀ k, k ≤ 32 → lensOf Ls k ≤ k * n := by
  intro k
  induction k with
  | zero => intro _; simp [lensOf]
  | succ k ih =>
    intro hk
    rw [lensOf_succ Ls k (by omega), Nat.succ_mul]
    have := ih (by omega)
    have := h k
    omega
/-- Who waits at b, beside the document's r; nothing of w has turned. -/
structure WPSt (w wr : World) (b r : Nat) (vs us : List Value) (Ls : List (List Int)) : Prop where
  wt : WaitsAt wr b vs Ls
  rw' : RW wr r us Ls (r :: b :: blocksOf vs)
  ch : Ch [] w wr
  rb : r ≠ b
  rv : r ∉ blocksOf vs
  lo : w.heap.size ≤ b
  lr : w.heap.size ≤ r
section
variable {w wr w2 w3 : World} {b r : Nat} {vs vs2 us us3 : List Value} {Ls L2 : List (List Int)}
theorem WPSt.still (h : WPSt w wr b r vs us Ls) (hc : Ch [] wr w2) : WPSt w w2 b r vs us Ls :=
  ⟨⟨h.wt.1.keep hc (by simp) (by simp), h.wt.2⟩, ⟨h.rw'.1.still hc, h.rw'.2⟩, h.ch.trans hc, h.rb, h.rv, h.lo, h.lr⟩
theorem WPSt.hi (h : WPSt w wr b r vs us Ls) : ∀ k ∈ r :: b :: blocksOf vs, k < wr.heap.size := by
  intro k hk
  simp only [List.mem_cons] at hk
  rcases hk with rfl | rfl | hk
  · exact h.rw'.1.lt
  · exact h.wt.1.lt
  · exact (h.wt.1.above k hk).2
theorem WPSt.mid (h : WPSt w wr b r vs us Ls) (hc : Ch (b :: blocksOf vs) wr w2) (hn : ∀ k ∈ blocksOf vs2, k ∈ blocksOf vs ∨ wr.heap.size ≤ k) :
    RW w2 r us Ls (r :: b :: blocksOf vs2) ∧ Ch [] w w2 ∧ r ∉ blocksOf vs2 := by
  have ha := h.wt.1.above
  refine ⟨⟨h.rw'.1.step hc ?_ (fun k hk => .inl (List.mem_cons_of_mem _ hk)) ?_, h.rw'.2.1, by simp⟩, h.ch.transT hc ?_, ?_⟩
  · simp only [List.mem_cons, not_or]; exact ⟨h.rb, h.rv⟩
  · intro k hk
    simp only [List.mem_cons] at hk ⊢
    rcases hk with rfl | rfl | hk
    · exact .inl (.inl rfl)
    · exact .inl (.inr (.inl rfl))
    · rcases hn k hk with h | h
      · exact .inl (.inr (.inr h))
      · exact .inr h
  · intro k hk
    simp only [List.mem_cons] at hk
    rcases hk with rfl | hk
    · exact .inr h.lo
    · have := ha k hk; have := h.lo; exact .inr (by omega)
  · intro hk
    rcases hn r hk with h1 | h1
    · exact h.rv h1
    · have := h.rw'.1.lt; omega
theorem WPSt.fin (h : WPSt w wr b r vs us Ls) (h2 : WaitsAt w2 b vs2 L2) (hc : Ch [] w w2) (rv : r ∉ blocksOf vs2) (h3 : RW w3 r us3 L2 (r :: b :: blocksOf vs2)) (hc3 : Ch [r] w2 w3) : WPSt w w3 b r vs2 us3 L2 :=
  ⟨⟨h2.1.keep hc3 (by simp; exact fun e => h.rb e.symm) (by simp; exact rv), h2.2⟩, h3, hc.transT hc3 (by intro k hk; simp at hk; subst hk; exact .inr h.lr), h.rb, rv, h.lo, h.lr⟩
end
set_option maxRecDepth 100000 in
set_option maxHeartbeats 40000000 in
theorem plays14_walk (a0 : Option Addr) (len cap : Nat) (F : Nat → Nat → Value) (w : World) (hr : RdS w a0 len 3 F) (ht : ∀ i, i < len → (∃ x, F i 0 = .int .i64 x) ∧ (∃ x, F i 1 = .int .i64 x) ∧ (∃ x, F i 2 = .int .i64 x)) (hm : len ≤ maxLen) :
    Calls Try.prog 5 #[.slice a0 len cap] w fun e w' => e = .returned (.bool true) ∧ Below w.heap.size w w' := by
  unfold maxLen at hm
  go_enter Try.func5, Try.ntmps5
  go_wp2_with fail
  refine (waitNew _).mono ?_; rintro e w1 ⟨rfl, h1, c1⟩
  obtain ⟨b, hb⟩ : ∃ b, w.heap.size = b := ⟨_, rfl⟩
  rw [hb, rep_LsOf] at h1
  rw [hb]
  have HB := Lib.hid (show w.heap.size ≤ b by omega)
  clear hb
  go_upto_region 5 with fail
  obtain ⟨vs, hvs⟩ : ∃ vs, List.replicate 32 (Value.slice none 0 0) = vs := ⟨_, rfl⟩
  have hbk : blocksOf vs = [] := by rw [← hvs]; decide
  rw [hvs] at h1
  refine wp_named fun W1 hW1 => ?_
  obtain ⟨r, hrr⟩ : ∃ r, w1.heap.size = r := ⟨_, rfl⟩
  have hbr : b < r := by rw [← hrr]; exact h1.1.lt
  have cW : Ch [] w1 W1 := by rw [hW1]; exact (Ch.refl [] w1).alloc _
  have hB : Blk W1 r (List.replicate 32 (Value.slice none 0 0)).toArray 41 := by rw [hW1, ← hrr]; exact Blk.new _ _ _
  have hst : WPSt w W1 b r vs (List.replicate 32 (Value.slice none 0 0)) (LsOf fun _ => []) := by
    refine ⟨⟨h1.1.keep cW (by simp) (by simp), h1.2⟩, ⟨⟨by simp [LsOf_len], hB, ?_⟩, LsOf_len _, by simp⟩, c1.trans cW, by omega, by rw [hbk]; simp, HB.out, by have := HB.out; omega⟩
    intro i v hv
    obtain ⟨hi, rfl⟩ := List.getElem?_eq_some_iff.1 hv
    rw [List.length_replicate] at hi
    rw [List.getElem_replicate, gL_LsOf _ _ hi]
    exact ⟨none, 0, rfl, LsF.nil _ _⟩
  rw [hrr]
  clear hW1 hrr hbr cW hB h1 c1 hvs hbk HB
  go_wp2_with fail
  go_loopw [5] (fun s5 wr => ∃ (i : Nat) (vs us : List Value) (Ls : List (List Int)), s5 = .int .i64 i ∧ i ≤ len ∧ i ≤ 60 ∧ (∀ j, (gL Ls j).length ≤ i) ∧ WPSt w wr b r vs us Ls) (fun s5 _ => 60 - (intOf s5).toNat)
  case atStart => exact ⟨0, vs, _, _, rfl, by omega, by omega, lens_bound _ _ (by simp), hst⟩
  case round =>
    clear hst
    obtain ⟨i, vs, us, Ls, rfl, hil, hi60, hll, hst⟩ := hrel
    by_cases hlt : i < len
    · by_cases h60 : i < 60
      · have t1 : decide ((i : Int) < len) = true := decide_eq_true (by omega)
        have t2 : decide ((i : Int) < 60) = true := decide_eq_true (by omega)
        obtain ⟨⟨x, hx⟩, ⟨a, ha⟩, ⟨g, hg⟩⟩ := ht i hlt
        obtain ⟨ba, oa, rfl, hcell⟩ := (hr.keep (by decide) hst.ch (by simp)).at hlt
        have d0 := hcell i hlt 0 (by decide)
        have d1 := hcell i hlt 1 (by decide)
        have d2 := hcell i hlt 2 (by decide)
        rw [hx, Nat.add_zero] at d0
        rw [ha] at d1
        rw [hg] at d2
        clear hcell hx ha hg
        have HLL := Lib.hid hll
        clear hll
        go_upto_region 9 with fail
        obtain ⟨W1, hW1⟩ : ∃ W1, wr.alloc (.cells #[.int .i64 x, .int .i64 a, .int .i64 g] 43) = W1 := ⟨_, rfl⟩
        obtain ⟨q, hq⟩ : ∃ q, wr.heap.size = q := ⟨_, rfl⟩
        have bq : Blk W1 q #[.int .i64 x, .int .i64 a, .int .i64 g] 43 := by rw [← hW1, ← hq]; exact Blk.new _ _ _
        have hqS : ∀ k ∈ r :: b :: blocksOf vs, k ≠ q := fun k hk => by have := hst.hi k hk; omega
        have hst1 : WPSt w W1 b r vs us Ls := hst.still (by rw [← hW1]; exact (Ch.refl [] wr).alloc _)
        have e0 := bq.cell 0
        have e1 := bq.cell 1
        have e2 := bq.cell 2
        rw [hW1, hq]
        obtain ⟨j, hj, hjl⟩ := kind_eq x 6 (by decide) (by decide)
        replace hj : (wrap64 (x.tmod 6 + 6)).tmod 6 = (j : Int) := hj
        have hqb : q ∉ b :: blocksOf vs := fun hm => hqS q (List.mem_cons_of_mem _ hm) rfl
        have hqr : q ≠ r := fun e => hqS r (by simp) e.symm
        have HQB := Lib.hid hqb
        clear hW1 hq hst d0 d1 d2 hqS hqb
        go_upto_block 2 with fail
        go_cut [7, 8, 9, 10, 35] from 36 to 86 (fun s7 s8 s9 s10 s35 wx => ∃ (vs us : List Value) (Ls : List (List Int)), (∀ j, (gL Ls j).length ≤ i + 1) ∧ WPSt w wx b r vs us Ls ∧ Blk wx q #[.int .i64 x, .int .i64 a, .int .i64 g] 43)
        case first =>
          obtain ⟨J, hJ⟩ : ∃ J : Int, (j : Int) = J := ⟨_, rfl⟩
          try rw [hj]
          rw [hJ]
          have hJ0 : J = 0 ∨ J = 1 ∨ J = 2 ∨ J = 3 ∨ J = 4 ∨ J = 5 := by omega
          clear hj hJ hjl t1 t2
          have hl5 : ∀ i, (gL Ls i).length ≤ 50000 := fun k => by have := HLL.out k; omega
          have HL5 := Lib.hid hl5
          have HL6 := Lib.hid (show ∀ i, (gL Ls i).length ≤ 100000 from fun k => by have := hl5 k; omega)
          clear hl5
          rcases hJ0 with rfl | rfl | rfl | rfl | rfl | rfl
          · go_upto_region 15 with fail
            obtain ⟨P, hP⟩ : ∃ P, waitR Ls a g = P := ⟨_, rfl⟩
            have pp : (P != P) = false := by simp
            obtain ⟨L, hL⟩ : ∃ L : World → Prop, ∀ w', L w' ↔ (w'.cell? ⟨q, 1, none⟩ = some (.int .i64 a) ∧ w'.cell? ⟨q, 2, none⟩ = some (.int .i64 g)) := ⟨_, fun _ => Iff.rfl⟩
            have hS1 : ∀ x : { w' : World // L w' }, x.1.cell? ⟨q, 1, none⟩ = some (.int .i64 a) := fun x => ((hL _).1 x.2).1
            have hS2 : ∀ x : { w' : World // L w' }, x.1.cell? ⟨q, 2, none⟩ = some (.int .i64 g) := fun x => ((hL _).1 x.2).2
            have hLk : ∀ w', Blk w' q #[.int .i64 x, .int .i64 a, .int .i64 g] 43 → L w' := fun w' hb => (hL _).2 ⟨hb.cell 1, hb.cell 2⟩
            have hS0 := hLk _ (bq.drewN 1)
            have hSA : Nonempty { w' : World // L w' } := ⟨⟨_, hS0⟩⟩
            have HLk := Lib.hid hLk
            clear hL hLk
            refine wp_region_plan (Cls L) (List.range 13) (.reads [0, 1, 2, 3, 4, 6, 7, 8, 9, 10] (.only 5 (.only 11 (.reads [12] .done)))) (by kernel_rfl) (by kernel_rfl) (fun _ _ _ _ _ h => h) ?_
            simp only [Plan.reads, Plan.only, List.foldr_cons, List.foldr_nil]
            have hst2 := hst1.still ((Ch.refl [] W1).drewN 1)
            iterate 10 (refine wpPlan_readS hS0 (fun K hK => ?_); simp only [List.getD_cons_zero, List.getD_cons_succ]; go_simp; refine hK _ ?_; clear hK K)
            refine wpPlan_only (fun K hK => ?_)
            simp only [List.getD_cons_zero, List.getD_cons_succ]
            go_simp
            refine (waitWaitAny b vs Ls a g _ hst2.wt HL6.out).mono ?_; rintro e w3 ⟨rfl, vs3, h3, c3, n3⟩
            rw [hP]
            have bq3 := (bq.drewN 1).keep c3 HQB.out
            have hl3 := HLk.out _ bq3
            obtain ⟨m1, m2, m3⟩ := hst2.mid c3 n3
            refine hK _ _ (fun _ => Cls.mk hl3) ?_
            clear hK K
            refine wpPlan_only (fun K hK => ?_)
            simp only [List.getD_cons_zero, List.getD_cons_succ]
            go_simp
            refine (refWaitAny r us Ls _ a g w3 m1 (fun k hk => by
              simp only [List.mem_cons] at hk
              rcases hk with rfl | rfl | hk
              · exact m1.1.lt
              · exact h3.1.lt
              · exact (h3.1.above k hk).2) HL6.out).mono ?_; rintro e w4 ⟨rfl, ⟨us4, h4⟩, c4⟩
            rw [hP]
            have bq4 := bq3.keep c4 (by simp; exact hqr)
            have hl4 := HLk.out _ bq4
            refine hK _ _ (fun _ => Cls.mk hl4) ?_
            clear hK K
            refine wpPlan_readS hl4 (fun K hK => ?_); simp only [List.getD_cons_zero, List.getD_cons_succ]; go_simp; refine hK _ ?_; clear hK K
            refine wpPlan_done ?_
            have hfin := hst2.fin h3 m2 m3 h4 c4
            clear hS0 hS1 hS2 hSA hl3 hl4 hP
            go_wp2_with fail
            go_meet
            exact ⟨vs3, us4, waitL Ls a g, waitL_le Ls a g i HLL.out, hfin, bq4⟩
          · go_upto_region 15 with fail
            obtain ⟨P, hP⟩ : ∃ P, waitR Ls a g = P := ⟨_, rfl⟩
            have pp : (P != P) = false := by simp
            obtain ⟨L, hL⟩ : ∃ L : World → Prop, ∀ w', L w' ↔ (w'.cell? ⟨q, 1, none⟩ = some (.int .i64 a) ∧ w'.cell? ⟨q, 2, none⟩ = some (.int .i64 g)) := ⟨_, fun _ => Iff.rfl⟩
            have hS1 : ∀ x : { w' : World // L w' }, x.1.cell? ⟨q, 1, none⟩ = some (.int .i64 a) := fun x => ((hL _).1 x.2).1
            have hS2 : ∀ x : { w' : World // L w' }, x.1.cell? ⟨q, 2, none⟩ = some (.int .i64 g) := fun x => ((hL _).1 x.2).2
            have hLk : ∀ w', Blk w' q #[.int .i64 x, .int .i64 a, .int .i64 g] 43 → L w' := fun w' hb => (hL _).2 ⟨hb.cell 1, hb.cell 2⟩
            have hS0 := hLk _ (bq.drewN 1)
            have hSA : Nonempty { w' : World // L w' } := ⟨⟨_, hS0⟩⟩
            have HLk := Lib.hid hLk
            clear hL hLk
            refine wp_region_plan (Cls L) (List.range 13) (.reads [0, 1, 2, 3, 4, 6, 7, 8, 9, 10] (.only 5 (.only 11 (.reads [12] .done)))) (by kernel_rfl) (by kernel_rfl) (fun _ _ _ _ _ h => h) ?_
            simp only [Plan.reads, Plan.only, List.foldr_cons, List.foldr_nil]
            have hst2 := hst1.still ((Ch.refl [] W1).drewN 1)
            iterate 10 (refine wpPlan_readS hS0 (fun K hK => ?_); simp only [List.getD_cons_zero, List.getD_cons_succ]; go_simp; refine hK _ ?_; clear hK K)
            refine wpPlan_only (fun K hK => ?_)
            simp only [List.getD_cons_zero, List.getD_cons_succ]
            go_simp
            refine (waitWaitAny b vs Ls a g _ hst2.wt HL6.out).mono ?_; rintro e w3 ⟨rfl, vs3, h3, c3, n3⟩
            rw [hP]
            have bq3 := (bq.drewN 1).keep c3 HQB.out
            have hl3 := HLk.out _ bq3
            obtain ⟨m1, m2, m3⟩ := hst2.mid c3 n3
            refine hK _ _ (fun _ => Cls.mk hl3) ?_
            clear hK K
            refine wpPlan_only (fun K hK => ?_)
            simp only [List.getD_cons_zero, List.getD_cons_succ]
            go_simp
            refine (refWaitAny r us Ls _ a g w3 m1 (fun k hk => by
              simp only [List.mem_cons] at hk
              rcases hk with rfl | rfl | hk
              · exact m1.1.lt
              · exact h3.1.lt
              · exact (h3.1.above k hk).2) HL6.out).mono ?_; rintro e w4 ⟨rfl, ⟨us4, h4⟩, c4⟩
            rw [hP]
            have bq4 := bq3.keep c4 (by simp; exact hqr)
            have hl4 := HLk.out _ bq4
            refine hK _ _ (fun _ => Cls.mk hl4) ?_
            clear hK K
            refine wpPlan_readS hl4 (fun K hK => ?_); simp only [List.getD_cons_zero, List.getD_cons_succ]; go_simp; refine hK _ ?_; clear hK K
            refine wpPlan_done ?_
            have hfin := hst2.fin h3 m2 m3 h4 c4
            clear hS0 hS1 hS2 hSA hl3 hl4 hP
            go_wp2_with fail
            go_meet
            exact ⟨vs3, us4, waitL Ls a g, waitL_le Ls a g i HLL.out, hfin, bq4⟩
          · go_upto_region 15 with fail
            obtain ⟨P, hP⟩ : ∃ P, waitR Ls a g = P := ⟨_, rfl⟩
            have pp : (P != P) = false := by simp
            obtain ⟨L, hL⟩ : ∃ L : World → Prop, ∀ w', L w' ↔ (w'.cell? ⟨q, 1, none⟩ = some (.int .i64 a) ∧ w'.cell? ⟨q, 2, none⟩ = some (.int .i64 g)) := ⟨_, fun _ => Iff.rfl⟩
            have hS1 : ∀ x : { w' : World // L w' }, x.1.cell? ⟨q, 1, none⟩ = some (.int .i64 a) := fun x => ((hL _).1 x.2).1
            have hS2 : ∀ x : { w' : World // L w' }, x.1.cell? ⟨q, 2, none⟩ = some (.int .i64 g) := fun x => ((hL _).1 x.2).2
            have hLk : ∀ w', Blk w' q #[.int .i64 x, .int .i64 a, .int .i64 g] 43 → L w' := fun w' hb => (hL _).2 ⟨hb.cell 1, hb.cell 2⟩
            have hS0 := hLk _ (bq.drewN 1)
            have hSA : Nonempty { w' : World // L w' } := ⟨⟨_, hS0⟩⟩
            have HLk := Lib.hid hLk
            clear hL hLk
            refine wp_region_plan (Cls L) (List.range 13) (.reads [0, 1, 2, 3, 4, 6, 7, 8, 9, 10] (.only 5 (.only 11 (.reads [12] .done)))) (by kernel_rfl) (by kernel_rfl) (fun _ _ _ _ _ h => h) ?_
            simp only [Plan.reads, Plan.only, List.foldr_cons, List.foldr_nil]
            have hst2 := hst1.still ((Ch.refl [] W1).drewN 1)
            iterate 10 (refine wpPlan_readS hS0 (fun K hK => ?_); simp only [List.getD_cons_zero, List.getD_cons_succ]; go_simp; refine hK _ ?_; clear hK K)
            refine wpPlan_only (fun K hK => ?_)
            simp only [List.getD_cons_zero, List.getD_cons_succ]
            go_simp
            refine (waitWaitAny b vs Ls a g _ hst2.wt HL6.out).mono ?_; rintro e w3 ⟨rfl, vs3, h3, c3, n3⟩
            rw [hP]
            have bq3 := (bq.drewN 1).keep c3 HQB.out
            have hl3 := HLk.out _ bq3
            obtain ⟨m1, m2, m3⟩ := hst2.mid c3 n3
            refine hK _ _ (fun _ => Cls.mk hl3) ?_
            clear hK K
            refine wpPlan_only (fun K hK => ?_)
            simp only [List.getD_cons_zero, List.getD_cons_succ]
            go_simp
            refine (refWaitAny r us Ls _ a g w3 m1 (fun k hk => by
              simp only [List.mem_cons] at hk
              rcases hk with rfl | rfl | hk
              · exact m1.1.lt
              · exact h3.1.lt
              · exact (h3.1.above k hk).2) HL6.out).mono ?_; rintro e w4 ⟨rfl, ⟨us4, h4⟩, c4⟩
            rw [hP]
            have bq4 := bq3.keep c4 (by simp; exact hqr)
            have hl4 := HLk.out _ bq4
            refine hK _ _ (fun _ => Cls.mk hl4) ?_
            clear hK K
            refine wpPlan_readS hl4 (fun K hK => ?_); simp only [List.getD_cons_zero, List.getD_cons_succ]; go_simp; refine hK _ ?_; clear hK K
            refine wpPlan_done ?_
            have hfin := hst2.fin h3 m2 m3 h4 c4
            clear hS0 hS1 hS2 hSA hl3 hl4 hP
            go_wp2_with fail
            go_meet
            exact ⟨vs3, us4, waitL Ls a g, waitL_le Ls a g i HLL.out, hfin, bq4⟩
          · obtain ⟨P, hP⟩ : ∃ P, wakeV Ls a = P := ⟨_, rfl⟩
            obtain ⟨R, hR⟩ : ∃ R, wakeB Ls a = R := ⟨_, rfl⟩
            have pp : (P != P) = false := by simp
            have rr : (R != R) = false := by simp
            have hK1 := waitWakeAny b vs Ls a _ hst1.wt HL6.out
            rw [hP, hR] at hK1
            have HK1 := Lib.hid hK1
            clear hK1
            go_wp2_with fail
            refine HK1.out.mono ?_; rintro e w3 ⟨rfl, vs3, h3, c3, n3⟩
            clear HK1
            have bq3 := bq.keep c3 HQB.out
            have e31 := bq3.cell 1
            obtain ⟨m1, m2, m3⟩ := hst1.mid c3 n3
            have hK2 := refWakeAny r us Ls _ a w3 m1 HL6.out
            rw [hP, hR] at hK2
            have HK2 := Lib.hid hK2
            clear hK2 hP hR e0 e1 e2
            go_wp2_with fail
            refine HK2.out.mono ?_; rintro e w4 ⟨rfl, ⟨us4, h4⟩, c4⟩
            clear HK2 e31
            have bq4 := bq3.keep c4 (by simp; exact hqr)
            have hfin := hst1.fin h3 m2 m3 h4 c4
            go_wp2_with fail
            go_meet
            exact ⟨vs3, us4, wakeL Ls a, wakeL_le Ls a i HLL.out, hfin, bq4⟩
          · obtain ⟨P, hP⟩ : ∃ P, wakeV Ls a = P := ⟨_, rfl⟩
            obtain ⟨R, hR⟩ : ∃ R, wakeB Ls a = R := ⟨_, rfl⟩
            have pp : (P != P) = false := by simp
            have rr : (R != R) = false := by simp
            have hK1 := waitWakeAny b vs Ls a _ hst1.wt HL6.out
            rw [hP, hR] at hK1
            have HK1 := Lib.hid hK1
            clear hK1
            go_wp2_with fail
            refine HK1.out.mono ?_; rintro e w3 ⟨rfl, vs3, h3, c3, n3⟩
            clear HK1
            have bq3 := bq.keep c3 HQB.out
            have e31 := bq3.cell 1
            obtain ⟨m1, m2, m3⟩ := hst1.mid c3 n3
            have hK2 := refWakeAny r us Ls _ a w3 m1 HL6.out
            rw [hP, hR] at hK2
            have HK2 := Lib.hid hK2
            clear hK2 hP hR e0 e1 e2
            go_wp2_with fail
            refine HK2.out.mono ?_; rintro e w4 ⟨rfl, ⟨us4, h4⟩, c4⟩
            clear HK2 e31
            have bq4 := bq3.keep c4 (by simp; exact hqr)
            have hfin := hst1.fin h3 m2 m3 h4 c4
            go_wp2_with fail
            go_meet
            exact ⟨vs3, us4, wakeL Ls a, wakeL_le Ls a i HLL.out, hfin, bq4⟩
          · go_upto_region 10 with fail
            obtain ⟨P, hP⟩ : ∃ P, hitAny Ls g = P := ⟨_, rfl⟩
            have pp : (P != P) = false := by simp
            obtain ⟨L, hL⟩ : ∃ L : World → Prop, ∀ w', L w' ↔ (w'.cell? ⟨q, 1, none⟩ = some (.int .i64 a) ∧ w'.cell? ⟨q, 2, none⟩ = some (.int .i64 g)) := ⟨_, fun _ => Iff.rfl⟩
            have hS1 : ∀ x : { w' : World // L w' }, x.1.cell? ⟨q, 1, none⟩ = some (.int .i64 a) := fun x => ((hL _).1 x.2).1
            have hS2 : ∀ x : { w' : World // L w' }, x.1.cell? ⟨q, 2, none⟩ = some (.int .i64 g) := fun x => ((hL _).1 x.2).2
            have hLk : ∀ w', Blk w' q #[.int .i64 x, .int .i64 a, .int .i64 g] 43 → L w' := fun w' hb => (hL _).2 ⟨hb.cell 1, hb.cell 2⟩
            have hS0 := hLk _ (bq.drewN 1)
            have hSA : Nonempty { w' : World // L w' } := ⟨⟨_, hS0⟩⟩
            have HLk := Lib.hid hLk
            clear hL hLk
            refine wp_region_plan (Cls L) (List.range 9) (.reads [0, 1, 2, 4, 5, 6] (.only 3 (.only 7 (.reads [8] .done)))) (by kernel_rfl) (by kernel_rfl) (fun _ _ _ _ _ h => h) ?_
            simp only [Plan.reads, Plan.only, List.foldr_cons, List.foldr_nil]
            have hst2 := hst1.still ((Ch.refl [] W1).drewN 1)
            iterate 6 (refine wpPlan_readS hS0 (fun K hK => ?_); simp only [List.getD_cons_zero, List.getD_cons_succ]; go_simp; refine hK _ ?_; clear hK K)
            refine wpPlan_only (fun K hK => ?_)
            simp only [List.getD_cons_zero, List.getD_cons_succ]
            go_simp
            refine (waitDelAny b vs Ls g _ hst2.wt HL5.out).mono ?_; rintro e w3 ⟨rfl, vs3, h3, c3, n3⟩
            rw [hP]
            have bq3 := (bq.drewN 1).keep c3 HQB.out
            have hl3 := HLk.out _ bq3
            obtain ⟨m1, m2, m3⟩ := hst2.mid c3 n3
            refine hK _ _ (fun _ => Cls.mk hl3) ?_
            clear hK K
            refine wpPlan_only (fun K hK => ?_)
            simp only [List.getD_cons_zero, List.getD_cons_succ]
            go_simp
            refine (refDelAny r us Ls _ g w3 m1 (fun k hk => by
              simp only [List.mem_cons] at hk
              rcases hk with rfl | rfl | hk
              · exact m1.1.lt
              · exact h3.1.lt
              · exact (h3.1.above k hk).2) HL6.out).mono ?_; rintro e w4 ⟨rfl, ⟨us4, h4⟩, c4⟩
            rw [hP]
            have bq4 := bq3.keep c4 (by simp; exact hqr)
            have hl4 := HLk.out _ bq4
            refine hK _ _ (fun _ => Cls.mk hl4) ?_
            clear hK K
            refine wpPlan_readS hl4 (fun K hK => ?_); simp only [List.getD_cons_zero, List.getD_cons_succ]; go_simp; refine hK _ ?_; clear hK K
            refine wpPlan_done ?_
            have hfin := hst2.fin h3 m2 m3 h4 c4
            clear hS0 hS1 hS2 hSA hl3 hl4 hP
            go_wp2_with fail
            go_meet
            exact ⟨vs3, us4, delL Ls g, delL_le Ls g i HLL.out, hfin, bq4⟩
        case rest =>
          obtain ⟨vs5, us5, Ls5, hll5, hst5, bq5⟩ := hcut
          clear hj e0 e1 e2 bq hst1 hjl HQB HLL hqr
          have hlen5 : ∀ k, k ≤ 32 → lensOf Ls5 k ≤ 100000 := fun k hk => by
            have h1 := lens_le Ls5 (i + 1) hst5.rw'.2.1 hll5 k hk
            have h2 : k * (i + 1) ≤ 32 * 61 := Nat.mul_le_mul hk (by omega)
            omega
          have HLL := Lib.hid hll5
          have HLN := Lib.hid hlen5
          clear hll5 hlen5
          obtain ⟨N, hN⟩ : ∃ N, lensOf Ls5 32 = N := ⟨_, rfl⟩
          have HNN := Lib.hid hN
          have nn : ((N : Int) != (N : Int)) = false := by simp
          have q1 := bq5.cell 1
          clear hN
          by_cases hin : 0 ≤ a ∧ a < 32
          · obtain ⟨m, hm'⟩ : ∃ m : Nat, a = m := ⟨a.toNat, by omega⟩
            subst hm'
            have m0 : (0 : Int) ≤ m := hin.1
            have m1 : (m : Int) < 32 := hin.2
            have m2 : m < 32 := by omega
            obtain ⟨ar, cr, _, hcr, hLr⟩ := hst5.rw'.1.at (i := m) (by rw [hst5.rw'.2.1]; omega)
            obtain ⟨X, hX⟩ : ∃ X, gL Ls5 m = X := ⟨_, rfl⟩
            obtain ⟨n, hn⟩ : ∃ n, X.length = n := ⟨_, rfl⟩
            rw [hX, hn] at hcr
            rw [hX] at hLr
            have HGX := Lib.hid hX
            have HX := Lib.hid hn
            have hnl : n ≤ 61 := by have := HLL.out m; rw [hX, hn] at this; omega
            clear hX hn hin
            go_upto_region 24 with fail
            obtain ⟨L, hL⟩ : ∃ L : World → Prop, ∀ w', L w' ↔ (w'.cell? ⟨q, 1, none⟩ = some (.int .i64 m) ∧ w'.cell? ⟨r, m, none⟩ = some (.slice ar n cr)) := ⟨_, fun _ => Iff.rfl⟩
            have hS1 : ∀ x : { w' : World // L w' }, x.1.cell? ⟨q, 1, none⟩ = some (.int .i64 m) := fun x => ((hL _).1 x.2).1
            have hS2 : ∀ x : { w' : World // L w' }, x.1.cell? ⟨r, m, none⟩ = some (.slice ar n cr) := fun x => ((hL _).1 x.2).2
            have hLk : ∀ w', Ch [] wc w' → L w' := fun w' hc => (hL _).2 ⟨(bq5.keep hc (by simp)).cell 1, by rw [(hst5.still hc).rw'.1.2.1.cell]; rw [hst5.rw'.1.2.1.cell] at hcr; exact hcr⟩
            have hS0 := hLk _ ((Ch.refl [] wc).drewN 1)
            have hSA : Nonempty { w' : World // L w' } := ⟨⟨_, hS0⟩⟩
            have HLk := Lib.hid hLk
            clear hL hLk hcr
            refine wp_region_plan (Cls L) (List.range 35) (.reads [0, 2] (.only 1 (.only 3 (.reads [4, 5, 6, 7, 8, 9, 10, 12, 13, 14, 15, 16, 17, 18] (.only 11 (.only 19 (.reads [20, 21, 22, 23, 24, 25, 26, 27, 28, 29] (.only 30 (.reads [31, 32, 33, 34] .done))))))))) (by kernel_rfl) (by kernel_rfl) (fun _ _ _ _ _ h => h) ?_
            simp only [Plan.reads, Plan.only, List.foldr_cons, List.foldr_nil]
            have hst6 := hst5.still ((Ch.refl [] wc).drewN 1)
            iterate 2 (refine wpPlan_readS hS0 (fun K hK => ?_); simp only [List.getD_cons_zero, List.getD_cons_succ]; go_simp; refine hK _ ?_; clear hK K)
            refine wpPlan_only (fun K hK => ?_)
            simp only [List.getD_cons_zero, List.getD_cons_succ]
            go_simp
            refine (waitLen b vs5 Ls5 _ hst6.wt HLN.out).mono ?_; rintro e w4 ⟨rfl, hw4⟩
            rw [HNN.out]
            have hl4 : L w4 := by rw [hw4]; exact hS0
            refine hK _ _ (fun _ => Cls.mk hl4) ?_
            rw [hw4]
            clear hK K hl4 hw4
            refine wpPlan_only (fun K hK => ?_)
            simp only [List.getD_cons_zero, List.getD_cons_succ]
            go_simp
            refine (refLen r us5 Ls5 _ _ hst6.rw' HLN.out).mono ?_; rintro e w4 ⟨rfl, hw4⟩
            rw [HNN.out]
            have hl4 : L w4 := by rw [hw4]; exact hS0
            refine hK _ _ (fun _ => Cls.mk hl4) ?_
            rw [hw4]
            clear hK K hl4 hw4
            iterate 14 (refine wpPlan_readS hS0 (fun K hK => ?_); simp only [List.getD_cons_zero, List.getD_cons_succ]; go_simp; refine hK _ ?_; clear hK K)
            refine wpPlan_only (fun K hK => ?_)
            simp only [List.getD_cons_zero, List.getD_cons_succ]
            go_simp
            refine (waitAll b vs5 Ls5 m _ hst6.wt m2 (by rw [HGX.out, HX.out]; omega)).mono ?_; rintro e w6 ⟨v6, rfl, o6, c6⟩
            rw [HGX.out] at o6
            have cc6 : Ch [] wc w6 := ((Ch.refl [] wc).drewN 1).trans c6
            have hl6 := HLk.out _ cc6
            obtain ⟨a6, d6, e6, _, _, rd6⟩ := o6.form
            rw [HX.out] at e6
            subst e6
            refine hK _ _ (fun _ => Cls.mk hl6) ?_
            clear hK K
            have hI := ints_same a6 ar X d6 cr w6 rd6 (hLr.rd.keep cc6 (by simp)) (by rw [HX.out]; unfold maxLen; omega)
            rw [HX.out] at hI
            refine wpPlan_only (fun K hK => ?_)
            simp only [List.getD_cons_zero, List.getD_cons_succ]
            go_simp
            refine hI.mono ?_; rintro e w7 ⟨rfl, nq, hw7⟩
            have cc7 : Ch [] wc w7 := by rw [hw7]; exact cc6.trans ((Ch.refl [] w6).drewN nq)
            have hl7 := HLk.out _ cc7
            refine hK _ _ (fun _ => Cls.mk hl7) ?_
            clear hK K hI hw7
            iterate 10 (refine wpPlan_readS hl7 (fun K hK => ?_); simp only [List.getD_cons_zero, List.getD_cons_succ]; go_simp; refine hK _ ?_; clear hK K)
            refine wpPlan_only (fun K hK => ?_)
            simp only [List.getD_cons_zero, List.getD_cons_succ]
            go_simp
            refine hK _ _ (fun _ => Cls.mk hl7) ?_
            clear hK K
            iterate 4 (refine wpPlan_readS hl7 (fun K hK => ?_); simp only [List.getD_cons_zero, List.getD_cons_succ]; go_simp; refine hK _ ?_; clear hK K)
            refine wpPlan_done ?_
            have hst7 := hst5.still cc7
            clear hS0 hS1 hS2 hSA hl6 hl7 hst5 hst6 bq5 nn q1 t1 t2
            go_wp2_with fail
            go_roundw
            case rel => exact ⟨i + 1, vs5, us5, Ls5, by go_num, by omega, by omega, HLL.out, hst7⟩
            case measure => simp [intOf]; omega
          · have hno : a < 0 ∨ 31 < a := by omega
            have HNO := Lib.hid hno
            have hcs : (0 ≤ a ∧ decide (a < 32) = false) ∨ a < 0 := by
              by_cases h0 : a < 0
              · exact .inr h0
              · exact .inl ⟨by omega, decide_eq_false (by omega)⟩
            clear hin hno
            rcases hcs with ⟨g1, g2⟩ | g1
            all_goals (
              go_upto_region 24 with fail
              obtain ⟨L, hL⟩ : ∃ L : World → Prop, ∀ w', L w' ↔ (w'.cell? ⟨q, 1, none⟩ = some (.int .i64 a)) := ⟨_, fun _ => Iff.rfl⟩
              have hS1 : ∀ x : { w' : World // L w' }, x.1.cell? ⟨q, 1, none⟩ = some (.int .i64 a) := fun x => ((hL _).1 x.2)
              have hLk : ∀ w', Ch [] wc w' → L w' := fun w' hc => (hL _).2 ((bq5.keep hc (by simp)).cell 1)
              have hS0 := hLk _ ((Ch.refl [] wc).drewN 1)
              have hSA : Nonempty { w' : World // L w' } := ⟨⟨_, hS0⟩⟩
              have HLk := Lib.hid hLk
              clear hL hLk
              refine wp_region_plan (Cls L) (List.range 35) (.reads [0, 2] (.only 1 (.only 3 (.reads [4, 5, 6, 7, 8, 9, 10, 12, 13, 14, 15, 16, 17, 18] (.only 11 (.only 19 (.reads [20, 21, 22, 23, 24, 25, 26, 27, 28, 29] (.only 30 (.reads [31, 32, 33, 34] .done))))))))) (by kernel_rfl) (by kernel_rfl) (fun _ _ _ _ _ h => h) ?_
              simp only [Plan.reads, Plan.only, List.foldr_cons, List.foldr_nil]
              have hst6 := hst5.still ((Ch.refl [] wc).drewN 1)
              iterate 2 (refine wpPlan_readS hS0 (fun K hK => ?_); simp only [List.getD_cons_zero, List.getD_cons_succ]; go_simp; refine hK _ ?_; clear hK K)
              refine wpPlan_only (fun K hK => ?_)
              simp only [List.getD_cons_zero, List.getD_cons_succ]
              go_simp
              refine (waitLen b vs5 Ls5 _ hst6.wt HLN.out).mono ?_; rintro e w4 ⟨rfl, hw4⟩
              rw [HNN.out]
              have hl4 : L w4 := by rw [hw4]; exact hS0
              refine hK _ _ (fun _ => Cls.mk hl4) ?_
              rw [hw4]
              clear hK K hl4 hw4
              refine wpPlan_only (fun K hK => ?_)
              simp only [List.getD_cons_zero, List.getD_cons_succ]
              go_simp
              refine (refLen r us5 Ls5 _ _ hst6.rw' HLN.out).mono ?_; rintro e w4 ⟨rfl, hw4⟩
              rw [HNN.out]
              have hl4 : L w4 := by rw [hw4]; exact hS0
              refine hK _ _ (fun _ => Cls.mk hl4) ?_
              rw [hw4]
              clear hK K hl4 hw4
              iterate 14 (refine wpPlan_readS hS0 (fun K hK => ?_); simp only [List.getD_cons_zero, List.getD_cons_succ]; go_simp; refine hK _ ?_; clear hK K)
              refine wpPlan_only (fun K hK => ?_)
              simp only [List.getD_cons_zero, List.getD_cons_succ]
              go_simp
              refine hK _ _ (fun _ => Cls.mk hS0) ?_
              clear hK K
              refine wpPlan_only (fun K hK => ?_)
              simp only [List.getD_cons_zero, List.getD_cons_succ]
              go_simp
              refine hK _ _ (fun _ => Cls.mk hS0) ?_
              clear hK K
              iterate 10 (refine wpPlan_readS hS0 (fun K hK => ?_); simp only [List.getD_cons_zero, List.getD_cons_succ]; go_simp; refine hK _ ?_; clear hK K)
              refine wpPlan_only (fun K hK => ?_)
              simp only [List.getD_cons_zero, List.getD_cons_succ]
              go_simp
              refine (waitAllNo b a _ HNO.out).mono ?_; rintro e w6 ⟨rfl, hw6⟩
              have hl6 : L w6 := by rw [hw6]; exact hS0
              have hst7 : WPSt w w6 b r vs5 us5 Ls5 := by rw [hw6]; exact hst6
              refine hK _ _ (fun _ => Cls.mk hl6) ?_
              clear hK K hw6
              iterate 4 (refine wpPlan_readS hl6 (fun K hK => ?_); simp only [List.getD_cons_zero, List.getD_cons_succ]; go_simp; refine hK _ ?_; clear hK K)
              refine wpPlan_done ?_
              clear hS0 hS1 hSA hl6 hst5 hst6 bq5 nn q1 t1 t2
              go_wp2_with fail
              go_roundw
              case rel => exact ⟨i + 1, vs5, us5, Ls5, by go_num, by omega, by omega, HLL.out, hst7⟩
              case measure => simp [intOf]; omega)
      · have t1 : decide ((i : Int) < len) = true := decide_eq_true (by omega)
        have t2 : decide ((i : Int) < 60) = false := decide_eq_false (by omega)
        go_wp2_with fail
        refine (told14 _).mono ?_; rintro e w3 ⟨rfl, c3⟩
        go_wp2
        go_ret
        exact ⟨rfl, (hst.ch.trans c3).below (Nat.le_refl _) (by simp)⟩
    · have t1 : decide ((i : Int) < len) = false := decide_eq_false (by omega)
      go_wp2_with fail
      refine (told14 _).mono ?_; rintro e w3 ⟨rfl, c3⟩
      go_wp2
      go_ret
      exact ⟨rfl, (hst.ch.trans c3).below (Nat.le_refl _) (by simp)⟩
end Go.Proofs.Ytaafdhohiekakaa
