/-
  The walk of the statement CentralOnce: the law returns true at every input. Conditions: none beyond how the arguments are read.
-/
import Derived.Test.YtaafdhohiekakaaCentOnce
import Derived.Test.YtaafdhohiekakaaArgs
namespace Go.Proofs.Ytaafdhohiekakaa
open Go.RowKit
def bc (I : Nat → Bool) : Array Value := ((List.range 10).map fun i => Value.bool (I i)).toArray
theorem bc_at (I : Nat → Bool) (i : Nat) (hi : i < 10) : (bc I)[i]? = some (.bool (I i)) := by
  unfold bc
  simp [hi]
theorem bc_set (I : Nat → Bool) (i : Nat) (b : Bool) : (bc I).setIfInBounds i (.bool b) = bc (upb I i b) := by
  unfold bc
  apply Array.ext'
  apply List.ext_getElem
  · simp
  · intro n h1 h2
    simp only [List.setIfInBounds_toArray, List.getElem_set, List.getElem_map, List.getElem_range]
    unfold upb
    by_cases h : i = n
    · rw [if_pos h, if_pos h.symm]
    · rw [if_neg h, if_neg (fun e => h e.symm)]
/-- A central and a list of who is in, made since w. -/
def CB (w wr : World) (c q : Nat) (Ls : List (List Int)) (I : Nat → Bool) : Prop := ∃ g vs, CentAt wr c g vs Ls ∧ Ch [] w wr ∧ w.heap.size ≤ c ∧ w.heap.size ≤ g ∧ (∀ k ∈ blocksOf vs, w.heap.size ≤ k) ∧ Blk wr q (bc I) 4 ∧ w.heap.size ≤ q
section
variable {w wr w2 : World} {c q : Nat} {Ls L2 : List (List Int)} {I : Nat → Bool}
theorem CB.chw (h : CB w wr c q Ls I) : Ch [] w wr := h.choose_spec.choose_spec.2.1
theorem CB.blk (h : CB w wr c q Ls I) : Blk wr q (bc I) 4 := h.choose_spec.choose_spec.2.2.2.2.2.1
theorem CB.still (h : CB w wr c q Ls I) (hc : Ch [] wr w2) : CB w w2 c q Ls I := by
  obtain ⟨g, vs, h1, h2, h3, h4, h5, h6, h7⟩ := h
  exact ⟨g, vs, h1.ch hc, h2.trans hc, h3, h4, h5, h6.keep hc (by simp), h7⟩
theorem cb_turn {g : Nat} {vs : List Value} (h1 : CentAt wr c g vs Ls) (h2 : Ch [] w wr) (h3 : w.heap.size ≤ c) (h4 : w.heap.size ≤ g) (h5 : ∀ k ∈ blocksOf vs, w.heap.size ≤ k) (h6 : Blk wr q (bc I) 4) (h7 : w.heap.size ≤ q) (hT : Turned wr c g vs L2 w2) : CB w w2 c q L2 I := by
  obtain ⟨vs', a, b, d⟩ := hT
  refine ⟨g, vs', a, h2.transT b ?_, h3, h4, ?_, h6.keep b ?_, h7⟩
  · intro k hk
    simp only [List.mem_cons] at hk
    rcases hk with rfl | hk
    · exact .inr h4
    · exact .inr (h5 k hk)
  · intro k hk
    rcases d k hk with h | h
    · exact h5 k h
    · exact Nat.le_trans h2.size h
  · simp only [List.mem_cons, not_or]
    refine ⟨h6.ne h1.rows.blk (by decide), fun hk => ?_⟩
    obtain ⟨v, hv, he⟩ := mem_blocksOf.1 hk
    obtain ⟨i, hi⟩ := List.mem_iff_getElem?.1 hv
    exact (h1.rows.own i v hi).1.neBlk h6 (by decide) he
theorem CB.store (h : CB w wr c q Ls I) (i : Nat) (b : Bool) : CB w (wr.setCell ⟨q, i, none⟩ (.bool b)) c q Ls (upb I i b) := by
  obtain ⟨g, vs, h1, h2, h3, h4, h5, h6, h7⟩ := h
  have cs : Ch [q] wr (wr.setCell ⟨q, i, none⟩ (.bool b)) := (Ch.refl _ _).setCell (.inl (by simp)) _
  refine ⟨g, vs, h1.keep cs ?_ ?_ ?_, h2.transT cs (by intro k hk; simp at hk; subst hk; exact .inr h7), h3, h4, h5, ?_, h7⟩
  · simp; exact h1.top.ne h6 (by decide)
  · simp; exact h1.rows.blk.ne h6 (by decide)
  · intro k hk hk2
    simp at hk
    subst hk
    obtain ⟨v, hv, he⟩ := mem_blocksOf.1 hk2
    obtain ⟨i, hi⟩ := List.mem_iff_getElem?.1 hv
    exact (h1.rows.own i v hi).1.neBlk h6 (by decide) he
  · have := h6.set i (.bool b)
    rwa [bc_set] at this
theorem cbPut (k x : Int) (full : Bool) (h : CB w wr c q Ls I) (hl : ∀ i, (gL Ls i).length ≤ 50000) :
    Calls Try.prog 24 #[.pointer (some ⟨c, 0, none⟩), .int .i64 k, .int .i64 x, .bool full] wr fun e w' => e = .returned (.tuple #[]) ∧ CB w w' c q (putC Ls k x full) I := by
  obtain ⟨g, vs, h1, h2, h3, h4, h5, h6, h7⟩ := h
  exact (centPut c g vs Ls k x full wr h1 hl).mono fun _ _ ⟨a, b⟩ => ⟨a, cb_turn h1 h2 h3 h4 h5 h6 h7 b⟩
theorem cbDel (x : Int) (h : CB w wr c q Ls I) (hl : ∀ i, (gL Ls i).length ≤ 50000) :
    Calls Try.prog 26 #[.pointer (some ⟨c, 0, none⟩), .int .i64 x] wr fun e w' => e = .returned (.bool (hitC Ls x)) ∧ CB w w' c q (delC Ls x) I := by
  obtain ⟨g, vs, h1, h2, h3, h4, h5, h6, h7⟩ := h
  exact (centDel c g vs Ls x wr h1 hl).mono fun _ _ ⟨a, b⟩ => ⟨a, cb_turn h1 h2 h3 h4 h5 h6 h7 b⟩
theorem cbTake (k : Int) (h : CB w wr c q Ls I) :
    Calls Try.prog 28 #[.pointer (some ⟨c, 0, none⟩), .int .i64 k] wr fun e w' => e = .returned (.tuple #[.int .i64 (takeX Ls k), .bool (takeU Ls k), .bool (takeB Ls k)]) ∧ CB w w' c q (takeL Ls k) I := by
  obtain ⟨g, vs, h1, h2, h3, h4, h5, h6, h7⟩ := h
  exact (centTake c g vs Ls k wr h1).mono fun _ _ ⟨a, b⟩ => ⟨a, cb_turn h1 h2 h3 h4 h5 h6 h7 b⟩
theorem cbBegin (h : CB w wr c q Ls I) (hl : ∀ i, (gL Ls i).length ≤ 20000) :
    Calls Try.prog 25 #[.pointer (some ⟨c, 0, none⟩)] wr fun e w' => e = .returned (.tuple #[]) ∧ CB w w' c q (begTo Ls 32) I := by
  obtain ⟨g, vs, h1, h2, h3, h4, h5, h6, h7⟩ := h
  exact (centBegin c g vs Ls wr h1 hl).mono fun _ _ ⟨a, b⟩ => ⟨a, cb_turn h1 h2 h3 h4 h5 h6 h7 b⟩
theorem cbUnswept (h : CB w wr c q Ls I) (hl : ∀ i, (gL Ls i).length ≤ 100000) :
    Calls Try.prog 27 #[.pointer (some ⟨c, 0, none⟩)] wr fun e w' => e = .returned (.int .i64 (unsw Ls 16 : Nat)) ∧ CB w w' c q Ls I := by
  have h0 := h
  obtain ⟨g, vs, h1, h2, h3, h4, h5, h6, h7⟩ := h
  exact (centUnswept c g vs Ls wr h1 hl).mono fun _ _ ⟨a, b⟩ => ⟨a, h0.still b⟩
theorem cbAny (h : CB w wr c q Ls I) (hl : ∀ i, (gL Ls i).length ≤ 100000) :
    Calls Try.prog 35 #[.pointer (some ⟨c, 0, none⟩)] wr fun e w' => e = .returned (.tuple #[.int .i64 (anyK Ls), .int .i64 (anyX Ls), .bool (anyB Ls)]) ∧ CB w w' c q (anyL Ls) I := by
  obtain ⟨g, vs, h1, h2, h3, h4, h5, h6, h7⟩ := h
  exact (centAny c g vs Ls wr h1 hl).mono fun _ _ ⟨a, b⟩ => ⟨a, cb_turn h1 h2 h3 h4 h5 h6 h7 b⟩
theorem cb_new {vs : List Value} {Ls : List (List Int)} (h : CentIn w wr c Ls) : CB w (wr.alloc (.cells (Array.replicate 10 (.bool false)) 4)) c wr.heap.size Ls (fun _ => false) := by
  obtain ⟨g, vs, h1, h2, h3, h4, h5⟩ := h
  have ca : Ch [] wr (wr.alloc (.cells (Array.replicate 10 (.bool false)) 4)) := (Ch.refl _ _).alloc _
  refine ⟨g, vs, h1.ch ca, h2.trans ca, h3, h4, h5, ?_, h2.size⟩
  have : bc (fun _ => false) = Array.replicate 10 (.bool false) := rfl
  rw [this]
  exact Blk.new _ _ _
end
theorem Try.infoBool : (Try.prog.info? 4).map (fun i => (i.zero, i.size, i.bytes)) = some (some (.bool false), 1, 1) := by kernel_rfl
theorem run_makeBools10 (w : World) : (Instr.makeSlice 63 (.int .i64 10) (.int .i64 10)).run Try.prog w =
    .ok (.slice (some ⟨w.heap.size, 0, none⟩) 10 10) (w.alloc (.cells (Array.replicate 10 (.bool false)) 4)) := by
  obtain ⟨i0, hi0, hz0, hz1, hz2⟩ := info_parts Try.infoBool
  have hr := run_makeSlice (P := Try.prog) w 63 4 i0 _ Try.underlying63 hi0 hz0 .i64 .i64 10 10 (by omega) (Int.le_refl _) (by rw [hz1]; omega) (by rw [hz2]; omega) (by omega)
  have hm : madeCells (Value.bool false).cells ((10 : Int).toNat * 1) = Array.replicate 10 (.bool false) := by kernel_rfl
  rw [hr, hz1, hm]
  rfl
/-- Those from i on. -/
def from_ (I : Nat → Bool) (i : Nat) : Nat → Bool := fun k => I k && decide (i ≤ k)
theorem from_zero (I : Nat → Bool) : from_ I 0 = I := by funext k; simp [from_]
theorem from_step (I : Nat → Bool) (i : Nat) : upb (from_ I i) i false = from_ I (i + 1) := by
  funext k
  unfold upb from_
  by_cases h : k = i
  · subst h; simp
  · rw [if_neg h]
    by_cases h1 : i ≤ k
    · rw [decide_eq_true h1, decide_eq_true (show i + 1 ≤ k by omega)]
    · rw [decide_eq_false h1, decide_eq_false (show ¬ i + 1 ≤ k by omega)]
theorem from_at (I : Nat → Bool) (i : Nat) : from_ I i i = I i := by simp [from_]
theorem tot_fresh {Ls : List (List Int)} (h : tot Ls = 0) : Fresh Ls := fun i hi _ => List.eq_nil_of_length_eq_zero (sumN_zero (f := fun r => (gL Ls r).length) h i hi)
theorem from_ten (I : Nat → Bool) : pop (from_ I 10) = 0 := by
  show sumN (fun i => one (from_ I 10 i)) 10 = 0
  rw [sumN_congr (g := fun _ => 0) 10 (fun i hi => by simp [from_, one]; omega)]
  decide
set_option maxRecDepth 100000 in
set_option maxHeartbeats 8000000 in
theorem once8_walk (a0 : Option Addr) (len cap : Nat) (F : Nat → Nat → Value) (begin : Bool) (w : World) (hr : RdS w a0 len 4 F) (ht : ∀ i, i < len → (∃ x, F i 0 = .int .i64 x) ∧ (∃ x, F i 1 = .int .i64 x) ∧ (∃ x, F i 2 = .int .i64 x) ∧ (∃ x, F i 3 = .bool x)) (hm : len ≤ maxLen) :
    Calls Try.prog 9 #[.slice a0 len cap, .bool begin] w fun e w' => e = .returned (.bool true) ∧ Below w.heap.size w w' := by
  unfold maxLen at hm
  have HT := Lib.hid ht
  clear ht
  by_cases h30 : 30 < len
  · have t0 : decide ((30 : Int) < len) = true := decide_eq_true (by omega)
    go_enter Try.func9, Try.ntmps9
    go_wp2_with fail
    refine (told8 w).mono ?_; rintro e w1 ⟨rfl, c1⟩
    have hend := c1.below (Nat.le_refl _) (by simp)
    clear c1
    go_wp2_with fail
    go_ret
    exact ⟨rfl, hend⟩
  · have t0 : decide ((30 : Int) < len) = false := decide_eq_false (by omega)
    have hmk := run_makeBools10
    go_enter Try.func9, Try.ntmps9
    go_wp2_with fail
    refine (centNew w).mono ?_; rintro e w1 hn
    obtain ⟨c, rfl, h0⟩ := CentIn.new hn
    clear hn
    have h0' := cb_new (vs := []) h0
    obtain ⟨q, hq⟩ : ∃ q, w1.heap.size = q := ⟨_, rfl⟩
    rw [hq] at h0'
    have hmk1 := hmk w1
    rw [hq] at hmk1
    clear h0 hmk hq
    obtain ⟨w2, hw2⟩ : ∃ w2, w1.alloc (.cells (Array.replicate 10 (.bool false)) 4) = w2 := ⟨_, rfl⟩
    rw [hw2] at h0' hmk1
    clear hw2
    go_wp2_with fail
    clear hmk1
    go_loopw [7, 8] (fun s7 s8 wr => ∃ (i : Nat) (Ls : List (List Int)) (I : Nat → Bool), s7 = .int .i64 i ∧ i ≤ len ∧ CB w wr c q Ls I ∧ OS Ls I ∧ Fresh Ls) (fun s7 _ _ => len - (intOf s7).toNat)
    case atStart => exact ⟨0, _, _, rfl, by omega, h0', os_L0, fresh_L0⟩
    case round =>
      clear h0'
      obtain ⟨i, Ls, I, rfl, hi, h1, hO, hF⟩ := hrel
      by_cases hlt : i < len
      · have t1 : decide ((i : Int) < len) = true := decide_eq_true (by omega)
        obtain ⟨_, ⟨x1, hx1⟩, ⟨x2, hx2⟩, ⟨x3, hx3⟩⟩ := HT.out i hlt
        obtain ⟨ba, oa, rfl, hcell⟩ := (hr.keep (by decide) h1.chw (by simp)).at hlt
        have d1 := hcell i hlt 1 (by decide)
        have d2 := hcell i hlt 2 (by decide)
        have d3 := hcell i hlt 3 (by decide)
        rw [hx1] at d1
        rw [hx2] at d2
        rw [hx3] at d3
        obtain ⟨k, hk, hkl⟩ := umod x2 10 (by decide) (by decide)
        obtain ⟨j, hj, hjl⟩ := umod x1 16 (by decide) (by decide)
        have HK := Lib.hid hk
        have HJ := Lib.hid hj
        clear hcell hx1 hx2 hx3 hk hj
        go_upto_region 11 with fail
        rw [HK.out]
        have hba : ba < w.heap.size := hr.lt (by omega) (by decide) _ rfl
        have b1 := ((h1.chw.below (Nat.le_refl _) (by simp)).cell (p := ⟨ba, oa + i * 4 + 1, none⟩) hba).symm.trans d1
        have b3 := ((h1.chw.below (Nat.le_refl _) (by simp)).cell (p := ⟨ba, oa + i * 4 + 3, none⟩) hba).symm.trans d3
        obtain ⟨L, hLL⟩ : ∃ L : World → Prop, ∀ w', L w' ↔ (w'.cell? ⟨ba, oa + i * 4 + 1, none⟩ = some (.int .i64 x1) ∧ w'.cell? ⟨ba, oa + i * 4 + 3, none⟩ = some (.bool x3)) := ⟨_, fun _ => Iff.rfl⟩
        have hS1 : ∀ y : { w' : World // L w' }, y.1.cell? ⟨ba, oa + i * 4 + 1, none⟩ = some (.int .i64 x1) := fun y => ((hLL _).1 y.2).1
        have hS2 : ∀ y : { w' : World // L w' }, y.1.cell? ⟨ba, oa + i * 4 + 3, none⟩ = some (.bool x3) := fun y => ((hLL _).1 y.2).2
        have hLk : ∀ w', Ch [] w w' → L w' := fun w' hc => (hLL _).2 ⟨((hc.below (Nat.le_refl _) (by simp)).cell (p := ⟨ba, oa + i * 4 + 1, none⟩) hba).trans b1, ((hc.below (Nat.le_refl _) (by simp)).cell (p := ⟨ba, oa + i * 4 + 3, none⟩) hba).trans b3⟩
        have h1d := h1.still ((Ch.refl [] wr).drewN 1)
        have hS0 := hLk _ h1d.chw
        have hSA : Nonempty { w' : World // L w' } := ⟨⟨_, hS0⟩⟩
        have HLk := Lib.hid hLk
        have u1 : (i : Int) < len := by omega
        have u2 : (0 : Int) ≤ i := by omega
        have hsm := hO.small (M := 50000) (by omega)
        have HSM := Lib.hid hsm
        clear hLL hLk d1 d2 d3 b1 b3 hsm
        refine wp_region_plan (Cls L) (List.range 16) (.reads [0, 1, 2, 3, 4, 5, 6, 7, 8, 9, 10, 11, 12, 13, 14] (.only 15 .done)) (by kernel_rfl) (by kernel_rfl) (fun _ _ _ _ _ h => h) ?_
        simp only [Plan.reads, Plan.only, List.foldr_cons, List.foldr_nil]
        iterate 15 (refine wpPlan_readS hS0 (fun K hK => ?_); simp only [List.getD_cons_zero, List.getD_cons_succ]; go_simp; refine hK _ ?_; clear hK K)
        have hjw : IntKind.i64.wrap ((IntKind.u64.wrap x1).tmod 16) = (j : Int) := (IntWalk.i64_left _).trans HJ.out
        rw [hjw]
        clear hjw
        refine wpPlan_only (fun K hK => ?_)
        simp only [List.getD_cons_zero, List.getD_cons_succ]
        go_simp
        refine (cbPut (j : Int) (k : Int) x3 h1d HSM.out).mono ?_; rintro e w3 ⟨rfl, h3⟩
        refine hK _ _ (fun _ => Cls.mk (HLk.out _ h3.chw)) ?_
        clear hK K
        refine wpPlan_done ?_
        have hok : okC (j : Int) = true := okC_nat (by omega)
        have hk10 : k < 10 := by omega
        have hO3 := hO.put hok hk10 x3
        have hF3 := hF.put hO.len (j : Int) (k : Int) x3
        have hfz := h3.blk.frozen k
        have hcz := (h3.blk.cell k).trans (bc_at I k hk10)
        have h4 := h3.store k true
        have v1 : (k : Int) < 10 := by omega
        have v2 : (0 : Int) ≤ k := by omega
        clear hS0 hS1 hS2 hSA h1 h1d h3 hO hF
        go_wp2_with fail
        go_roundw
        case rel => exact ⟨i + 1, _, _, by go_num, by omega, h4, hO3, hF3⟩
        case measure => simp [intOf]; omega
      · have t1 : decide ((i : Int) < len) = false := decide_eq_false (by omega)
        have t2 : decide (i < len) = false := decide_eq_false hlt
        have HSM := Lib.hid (hO.small (M := 20000) (by omega))
        cases begin with
        | true =>
          go_wp2_with fail
          refine (cbBegin h1 HSM.out).mono ?_; rintro e w3 ⟨rfl, h3⟩
          have hO3 := hO.beg
          have hB3 : Beg (begTo Ls 32) := beg_begTo
          obtain ⟨B, hB⟩ : ∃ B, begTo Ls 32 = B := ⟨_, rfl⟩
          rw [hB] at h3 hO3 hB3
          clear h1 hO hF hB
          go_wp2_with fail
          go_loop [9, 10] (fun s9 s10 => ∃ j : Nat, s10 = .int .i64 j ∧ j ≤ 10 ∧ s9 = .int .i64 (popTo I j : Nat)) (fun _ s10 => 10 - (intOf s10).toNat)
          case atStart => exact ⟨0, rfl, by omega, rfl⟩
          case round =>
            obtain ⟨j, rfl, hj, rfl⟩ := hrel
            by_cases hjl : j < 10
            · have t3 : decide ((j : Int) < 10) = true := decide_eq_true (by omega)
              have d5 := (h3.blk.cell j).trans (bc_at I j hjl)
              have hst : popTo I (j + 1) = popTo I j + one (I j) := rfl
              have hle := pop_le I j
              obtain ⟨U, hU⟩ : ∃ U, popTo I j = U := ⟨_, rfl⟩
              rw [hU] at hst hle ⊢
              obtain ⟨b, hb⟩ : ∃ b, I j = b := ⟨_, rfl⟩
              rw [hb] at hst d5
              have HST := Lib.hid hst
              have v1 : (j : Int) < 10 := by omega
              have v2 : (0 : Int) ≤ j := by omega
              clear hst hU hb
              cases b with
              | true =>
                go_wp2_with fail
                go_round
                case rel => exact ⟨j + 1, by go_num, by omega, by rw [HST.out]; show _ = Value.int .i64 ((U + 1 : Nat) : Int); go_num⟩
                case measure => simp [intOf]; omega
              | false =>
                go_wp2_with fail
                go_round
                case rel => exact ⟨j + 1, by go_num, by omega, by rw [HST.out]; rfl⟩
                case measure => simp [intOf]; omega
            · obtain rfl : j = 10 := by omega
              have hun : (unsw B 16 : Int) = (popTo I 10 : Int) := by rw [unsw_beg hB3, hO3.tot]; rfl
              obtain ⟨U, hU⟩ : ∃ U, popTo I 10 = U := ⟨_, rfl⟩
              rw [hU] at hun ⊢
              have hU10 : U ≤ 10 := by rw [← hU]; exact pop_le I 10
              have z1 : ((U : Int) != (U : Int)) = false := by simp
              have HUN := Lib.hid hun
              have HSB := Lib.hid (hO3.small (M := 100000) (by omega))
              have hpop : 0 + pop I ≤ 10 := by unfold pop; omega
              clear hun hU
              go_wp2_with fail
              refine (cbUnswept h3 HSB.out).mono ?_; rintro e w4 ⟨rfl, h4⟩
              rw [HUN.out]
              clear h3
              go_wp2_with fail
              go_loopw [11, 12, 13, 14] (fun s11 s12 s13 s14 wr => ∃ (n : Nat) (B : List (List Int)) (I : Nat → Bool), s11 = .int .i64 n ∧ CB w wr c q B I ∧ OS B I ∧ Beg B ∧ n + pop I ≤ 10) (fun s11 _ _ _ _ => 11 - (intOf s11).toNat)
              case atStart => exact ⟨0, B, I, rfl, h4, hO3, hB3, hpop⟩
              case round =>
                clear h4 hO3 hB3 hpop z1
                obtain ⟨n, B, I, rfl, h4, hO4, hB4, hn⟩ := hrel
                have HSB := Lib.hid (hO4.small (M := 100000) (by omega))
                rcases hO4.any with ⟨e1, e2, e3, e4⟩ | ⟨e1, x, e2, hx, hI, hO5⟩
                · have E1 := Lib.hid e1
                  have E2 := Lib.hid e2
                  have E3 := Lib.hid e3
                  have hI0 : ∀ k, k < 10 → I k = false := fun k hk => pop_zero (by rw [← hO4.tot]; exact hB4.none e4) k hk
                  have HI0 := Lib.hid hI0
                  clear e1 e2 e3 e4 hI0
                  go_wp2_with fail
                  refine (cbAny h4 HSB.out).mono ?_; rintro e w5 ⟨rfl, h5⟩
                  rw [E1.out, E2.out]
                  rw [E3.out] at h5
                  clear h4
                  go_wp2_with fail
                  go_loop [12, 13, 14] (fun s12 s13 s14 => s12 = .int .i64 0 ∧ s13 = .bool false ∧ s14 = .int .i64 0) (fun _ _ _ => 0)
                  case atStart => exact ⟨rfl, rfl, rfl⟩
                  case round =>
                    obtain ⟨rfl, rfl, rfl⟩ := hrel
                    go_wp2_with fail
                    go_loopw [15] (fun s15 wr => ∃ (i : Nat) (L : List (List Int)), s15 = .int .i64 i ∧ i ≤ 10 ∧ CB w wr c q L I ∧ OS L (from_ I i) ∧ True) (fun s15 _ => 10 - (intOf s15).toNat)
                    case atStart => exact ⟨0, B, rfl, by omega, h5, by rw [from_zero]; exact hO4, trivial⟩
                    case round =>
                      clear h5 hO4
                      obtain ⟨j, L, rfl, hj, h5, hO5, hZ⟩ := hrel
                      have cI := fun k hk => (h5.blk.cell k).trans (bc_at I k hk)
                      by_cases hjl : j < 10
                      · have t3 : decide ((j : Int) < 10) = true := decide_eq_true (by omega)
                        have HSM := Lib.hid (hO5.small (M := 50000) (by omega))
                        have HH := Lib.hid (hO5.hit hjl)
                        obtain ⟨b, hb⟩ : ∃ b, I j = b := ⟨_, rfl⟩
                        obtain rfl : b = false := by rw [← hb]; exact HI0.out j hjl
                        have HB := Lib.hid hb
                        have hO6 := hO5.del hjl
                        rw [from_step] at hO6
                        have HHf : Hid (hitC L (j : Int) = false) := Lib.hid (by rw [HH.out, from_at]; exact hb)
                        clear HH
                        have HH := HHf
                        have d5 := (cI j hjl).trans (by rw [hb])
                        have v1 : (j : Int) < 10 := by omega
                        have v2 : (0 : Int) ≤ j := by omega
                        clear hb cI
                        go_upto_region 39 with fail
                        obtain ⟨Lc, hLL⟩ : ∃ Lc : World → Prop, ∀ w', Lc w' ↔ (w'.cell? ⟨q, j, none⟩ = some (.bool false)) := ⟨_, fun _ => Iff.rfl⟩
                        have hS0 : Lc (wr.drewN 1) := (hLL _).2 d5
                        have hS1 : ∀ y : { w' : World // Lc w' }, y.1.cell? ⟨q, j, none⟩ = some (.bool false) := fun y => (hLL _).1 y.2
                        have hSA : Nonempty { w' : World // Lc w' } := ⟨⟨_, hS0⟩⟩
                        have HLk := Lib.hid hLL
                        clear hLL d5
                        refine wp_region_plan (Cls Lc) (List.range 17) (.reads [0, 1, 3, 4, 5, 6] (.only 2 (.reads [7, 8, 9, 10, 11, 12, 13, 14, 15, 16] .done))) (by kernel_rfl) (by kernel_rfl) (fun _ _ _ _ _ h => h) ?_
                        simp only [Plan.reads, Plan.only, List.foldr_cons, List.foldr_nil]
                        iterate 6 (refine wpPlan_readS hS0 (fun K hK => ?_); simp only [List.getD_cons_zero, List.getD_cons_succ]; go_simp; refine hK _ ?_; clear hK K)
                        refine wpPlan_only (fun K hK => ?_)
                        simp only [List.getD_cons_zero, List.getD_cons_succ]
                        go_simp
                        refine (cbDel (j : Int) (h5.still ((Ch.refl [] wr).drewN 1)) HSM.out).mono ?_; rintro e w6 ⟨rfl, h6⟩
                        rw [HH.out]
                        have hS6 : Lc w6 := (HLk.out _).2 (((h6.blk.cell j).trans (bc_at I j hjl)).trans (by rw [HB.out]))
                        refine hK _ _ (fun _ => Cls.mk hS6) ?_
                        clear hK K hS0
                        iterate 10 (refine wpPlan_readS hS6 (fun K hK => ?_); simp only [List.getD_cons_zero, List.getD_cons_succ]; go_simp; refine hK _ ?_; clear hK K)
                        refine wpPlan_done ?_
                        clear hS6 hS1 hSA
                        clear h5 hO5
                        go_wp2_with fail
                        go_roundw
                        case rel => exact ⟨j + 1, _, by go_num, by omega, h6, hO6, trivial⟩
                        case measure => simp [intOf]; omega
                      · obtain rfl : j = 10 := by omega
                        have t4 : decide (((10 : Nat) : Int) < 10) = false := by decide
                        have HUN := Lib.hid (show unsw L 16 = 0 from unsw_fresh (tot_fresh (by rw [hO5.tot]; exact from_ten I)) 16 (by omega))
                        have HSM := Lib.hid (hO5.small (M := 100000) (by omega))
                        clear hO5 cI
                        go_wp2_with fail
                        refine (told8 _).mono ?_; rintro e w6 ⟨rfl, c6⟩
                        have h6 := h5.still c6
                        clear h5 c6
                        go_wp2_with fail
                        refine (cbUnswept h6 HSM.out).mono ?_; rintro e w7 ⟨rfl, h7⟩
                        rw [HUN.out]
                        have hend := h7.chw.below (Nat.le_refl _) (by simp)
                        clear h6 h7
                        go_wp2_with fail
                        go_ret
                        exact ⟨rfl, hend⟩
                · have E1 := Lib.hid e1
                  have E2 := Lib.hid e2
                  clear e1 e2
                  go_wp2_with fail
                  refine (cbAny h4 HSB.out).mono ?_; rintro e w5 ⟨rfl, h5⟩
                  rw [E1.out, E2.out]
                  clear h4
                  go_wp2_with fail
                  go_loop [12, 13, 14] (fun s12 s13 s14 => s12 = .int .i64 x ∧ s13 = .bool true ∧ s14 = .int .i64 0) (fun _ _ _ => 0)
                  case atStart => exact ⟨rfl, rfl, rfl⟩
                  case round =>
                    obtain ⟨rfl, rfl, rfl⟩ := hrel
                    have hn10 : ¬ (10 : Int) < n := by omega
                    have hx9 : ¬ (9 : Int) < x := by omega
                    have hx0 : (0 : Int) ≤ x := by omega
                    have hx10 : (x : Int) < 10 := by omega
                    have d5 := (h5.blk.cell x).trans (bc_at I x hx)
                    rw [hI] at d5
                    have f5 := h5.blk.frozen x
                    have h6 := h5.store x false
                    have hpp := pop_upd I x false hx
                    rw [hI] at hpp
                    have hq1 : one true = 1 := rfl
                    have hq2 : one false = 0 := rfl
                    have HPP := Lib.hid (show pop (upb I x false) + 1 = pop I by omega)
                    clear hpp hq1 hq2
                    go_wp2_with fail
                    go_roundw
                    case rel => exact ⟨n + 1, _, _, by go_num, h6, hO5, hB4.any hO4.len, by have := HPP.out; omega⟩
                    case measure => simp [intOf]; omega
        | false =>
          have hpop : 0 + pop I ≤ 10 := by have := pop_le I 10; unfold pop; omega
          go_wp2_with fail
          go_loopw [11, 12, 13, 14] (fun s11 s12 s13 s14 wr => ∃ (n : Nat) (B : List (List Int)) (I : Nat → Bool), s11 = .int .i64 n ∧ CB w wr c q B I ∧ OS B I ∧ Fresh B ∧ n + pop I ≤ 10) (fun s11 _ _ _ _ => 11 - (intOf s11).toNat)
          case atStart => exact ⟨0, Ls, I, rfl, h1, hO, hF, hpop⟩
          case round =>
            clear h1 hO hF hpop HSM
            obtain ⟨n, B, I, rfl, h4, hO4, hF4, hn⟩ := hrel
            go_wp2_with fail
            go_loopw [12, 13, 14] (fun s12 s13 s14 wr => ∃ k : Nat, s14 = .int .i64 k ∧ k ≤ 16 ∧ ((s13 = .bool false ∧ s12 = .int .i64 0 ∧ CB w wr c q B I) ∨ ∃ (x : Nat) (B2 : List (List Int)), s13 = .bool true ∧ s12 = .int .i64 x ∧ x < 10 ∧ I x = true ∧ CB w wr c q B2 I ∧ OS B2 (upb I x false) ∧ Fresh B2)) (fun _ _ s14 _ => 16 - (intOf s14).toNat)
            case atStart => exact ⟨0, rfl, by omega, .inl ⟨rfl, rfl, h4⟩⟩
            case round =>
              clear h4
              obtain ⟨k, rfl, hk, ⟨rfl, rfl, h4⟩ | ⟨x, B2, rfl, rfl, hx, hI, h5, hO5, hF5⟩⟩ := hrel
              · by_cases hkl : k < 16
                · have t3 : decide ((k : Int) < 16) = true := decide_eq_true (by omega)
                  rcases hO4.take hkl with ⟨e1, e2, e3, _, _⟩ | ⟨e1, x, e2, hx, hI, hO5⟩
                  · have E1 := Lib.hid e1
                    have E2 := Lib.hid e2
                    have E3 := Lib.hid e3
                    clear e1 e2 e3
                    go_wp2_with fail
                    refine (cbTake (k : Int) h4).mono ?_; rintro e w5 ⟨rfl, h5⟩
                    rw [E1.out, E2.out]
                    rw [E3.out] at h5
                    clear h4
                    go_wp2_with fail
                    go_roundw
                    case rel => exact ⟨k + 1, by go_num, by omega, .inl ⟨rfl, rfl, h5⟩⟩
                    case measure => simp [intOf]; omega
                  · have E1 := Lib.hid e1
                    have E2 := Lib.hid e2
                    have hF5 := hF4.take hO4.len hkl
                    clear e1 e2
                    go_wp2_with fail
                    refine (cbTake (k : Int) h4).mono ?_; rintro e w5 ⟨rfl, h5⟩
                    rw [E1.out, E2.out]
                    clear h4
                    go_wp2_with fail
                    go_roundw
                    case rel => exact ⟨k + 1, by go_num, by omega, .inr ⟨x, _, rfl, rfl, hx, hI, h5, hO5, hF5⟩⟩
                    case measure => simp [intOf]; omega
                · have t3 : decide ((k : Int) < 16) = false := decide_eq_false (by omega)
                  go_wp2_with fail
                  clear t3
                  go_loopw [15] (fun s15 wr => ∃ (i : Nat) (L : List (List Int)), s15 = .int .i64 i ∧ i ≤ 10 ∧ CB w wr c q L I ∧ OS L (from_ I i) ∧ True) (fun s15 _ => 10 - (intOf s15).toNat)
                  case atStart => exact ⟨0, B, rfl, by omega, h4, by rw [from_zero]; exact hO4, trivial⟩
                  case round =>
                    clear h4 hO4
                    obtain ⟨j, L, rfl, hj, h5, hO5, hZ⟩ := hrel
                    have cI := fun k hk => (h5.blk.cell k).trans (bc_at I k hk)
                    by_cases hjl : j < 10
                    · have t3 : decide ((j : Int) < 10) = true := decide_eq_true (by omega)
                      have HSM := Lib.hid (hO5.small (M := 50000) (by omega))
                      have hh := hO5.hit hjl
                      rw [from_at] at hh
                      obtain ⟨b, hb⟩ : ∃ b, I j = b := ⟨_, rfl⟩
                      rw [hb] at hh
                      have HB := Lib.hid hb
                      have HH := Lib.hid hh
                      have hO6 := hO5.del hjl
                      rw [from_step] at hO6
                      have d5 := (cI j hjl).trans (by rw [hb])
                      have bb : (b != b) = false := by cases b <;> rfl
                      have v1 : (j : Int) < 10 := by omega
                      have v2 : (0 : Int) ≤ j := by omega
                      clear hb hh cI
                      go_upto_region 39 with fail
                      obtain ⟨Lc, hLL⟩ : ∃ Lc : World → Prop, ∀ w', Lc w' ↔ (w'.cell? ⟨q, j, none⟩ = some (.bool b)) := ⟨_, fun _ => Iff.rfl⟩
                      have hS0 : Lc (wr.drewN 1) := (hLL _).2 d5
                      have hS1 : ∀ y : { w' : World // Lc w' }, y.1.cell? ⟨q, j, none⟩ = some (.bool b) := fun y => (hLL _).1 y.2
                      have hSA : Nonempty { w' : World // Lc w' } := ⟨⟨_, hS0⟩⟩
                      have HLk := Lib.hid hLL
                      clear hLL d5
                      refine wp_region_plan (Cls Lc) (List.range 17) (.reads [0, 1, 3, 4, 5, 6] (.only 2 (.reads [7, 8, 9, 10, 11, 12, 13, 14, 15, 16] .done))) (by kernel_rfl) (by kernel_rfl) (fun _ _ _ _ _ h => h) ?_
                      simp only [Plan.reads, Plan.only, List.foldr_cons, List.foldr_nil]
                      iterate 6 (refine wpPlan_readS hS0 (fun K hK => ?_); simp only [List.getD_cons_zero, List.getD_cons_succ]; go_simp; refine hK _ ?_; clear hK K)
                      refine wpPlan_only (fun K hK => ?_)
                      simp only [List.getD_cons_zero, List.getD_cons_succ]
                      go_simp
                      refine (cbDel (j : Int) (h5.still ((Ch.refl [] wr).drewN 1)) HSM.out).mono ?_; rintro e w6 ⟨rfl, h6⟩
                      rw [HH.out]
                      have hS6 : Lc w6 := (HLk.out _).2 (((h6.blk.cell j).trans (bc_at I j hjl)).trans (by rw [HB.out]))
                      refine hK _ _ (fun _ => Cls.mk hS6) ?_
                      clear hK K hS0
                      iterate 10 (refine wpPlan_readS hS6 (fun K hK => ?_); simp only [List.getD_cons_zero, List.getD_cons_succ]; go_simp; refine hK _ ?_; clear hK K)
                      refine wpPlan_done ?_
                      clear hS6 hS1 hSA
                      clear h5 hO5
                      go_wp2_with fail
                      go_roundw
                      case rel => exact ⟨j + 1, _, by go_num, by omega, h6, hO6, trivial⟩
                      case measure => simp [intOf]; omega
                    · obtain rfl : j = 10 := by omega
                      have t4 : decide (((10 : Nat) : Int) < 10) = false := by decide
                      have HUN := Lib.hid (show unsw L 16 = 0 from unsw_fresh (tot_fresh (by rw [hO5.tot]; exact from_ten I)) 16 (by omega))
                      have HSM := Lib.hid (hO5.small (M := 100000) (by omega))
                      clear hO5 cI
                      go_wp2_with fail
                      refine (told8 _).mono ?_; rintro e w6 ⟨rfl, c6⟩
                      have h6 := h5.still c6
                      clear h5 c6
                      go_wp2_with fail
                      refine (cbUnswept h6 HSM.out).mono ?_; rintro e w7 ⟨rfl, h7⟩
                      rw [HUN.out]
                      have hend := h7.chw.below (Nat.le_refl _) (by simp)
                      clear h6 h7
                      go_wp2_with fail
                      go_ret
                      exact ⟨rfl, hend⟩
              · have hn10 : ¬ (10 : Int) < n := by omega
                have hx9 : ¬ (9 : Int) < x := by omega
                have hx0 : (0 : Int) ≤ x := by omega
                have hx10 : (x : Int) < 10 := by omega
                have d5 := (h5.blk.cell x).trans (bc_at I x hx)
                rw [hI] at d5
                have f5 := h5.blk.frozen x
                have h6 := h5.store x false
                have hpp := pop_upd I x false hx
                rw [hI] at hpp
                have hq1 : one true = 1 := rfl
                have hq2 : one false = 0 := rfl
                have HPP := Lib.hid (show pop (upb I x false) + 1 = pop I by omega)
                clear hpp hq1 hq2
                by_cases hkl : k < 16
                · have t3 : decide ((k : Int) < 16) = true := decide_eq_true (by omega)
                  go_wp2_with fail
                  go_roundw
                  case rel => exact ⟨n + 1, _, _, by go_num, h6, hO5, hF5, by have := HPP.out; omega⟩
                  case measure => simp [intOf]; omega
                · obtain rfl : k = 16 := by omega
                  have t3 : decide (((16 : Nat) : Int) < 16) = false := by decide
                  go_wp2_with fail
                  go_roundw
                  case rel => exact ⟨n + 1, _, _, by go_num, h6, hO5, hF5, by have := HPP.out; omega⟩
                  case measure => simp [intOf]; omega
end Go.Proofs.Ytaafdhohiekakaa
