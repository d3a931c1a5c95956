/-
  The walk of the statement SchedOnce: the law returns true at every input. Conditions: none beyond how the arguments are read.
-/
import Derived.Test.YteghenfdncgpeaaSchOnce
import Derived.Test.YteghenfdncgpeaaArgs
namespace Go.Proofs.Yteghenfdncgpeaa
open Go.RowKit
/-- The law's own cells beside a scheduler: how many there are, who was told. -/
structure Side (w0 wr : World) (D : List Nat) (kb sb q k : Nat) (U : Nat → Bool) : Prop where
  kc : Blk wr kb #[.int .i64 k] 3
  sc : Blk wr sb #[.slice (some ⟨q, 0, none⟩) k k] 64
  us : Blk wr q (bools U k) 4
  kD : kb ∉ D
  sD : sb ∉ D
  qD : q ∉ D
  lo : w0.heap.size ≤ q
theorem Ch.cellAt {w w' : World} (h : Ch [] w w') {p : Addr} (hp : p.block < w.heap.size) : w'.cell? p = w.cell? p := by
  have h2 := h.block p.block hp (by simp)
  simp only [World.cell?, h2]
section
variable {w0 wr w2 : World} {D D' : List Nat} {kb sb q k s n : Nat} {U : Nat → Bool} {st : SSt}
theorem Side.still (h : Side w0 wr D kb sb q k U) (hc : Ch [] wr w2) : Side w0 w2 D kb sb q k U := ⟨h.kc.keep hc (by simp), h.sc.keep hc (by simp), h.us.keep hc (by simp), h.kD, h.sD, h.qD, h.lo⟩
theorem Side.sdt (h : Side w0 wr D kb sb q k U) (hc : Ch D wr w2) (hD : ∀ y ∈ D', y ∈ D ∨ wr.heap.size ≤ y) : Side w0 w2 D' kb sb q k U := by
  have key : ∀ y, y ∉ D → y < wr.heap.size → y ∉ D' := fun y h1 h2 hm => by
    rcases hD y hm with e | e
    · exact h1 e
    · omega
  exact ⟨h.kc.keep hc h.kD, h.sc.keep hc h.sD, h.us.keep hc h.qD, key _ h.kD h.kc.lt, key _ h.sD h.sc.lt, key _ h.qD h.us.lt, h.lo⟩
theorem Side.store (h : Side w0 wr D kb sb q k U) (x : Nat) (v : Bool) : Side w0 (wr.setCell ⟨q, x, none⟩ (.bool v)) D kb sb q k (updB U x v) := by
  have cs : Ch [q] wr (wr.setCell ⟨q, x, none⟩ (.bool v)) := (Ch.refl [q] wr).setCell (.inl (by simp)) _
  have hu := h.us.set x (.bool v)
  rw [bools_set] at hu
  exact ⟨h.kc.keep cs (by simp; exact h.kc.ne h.us (by decide)), h.sc.keep cs (by simp; exact h.sc.ne h.us (by decide)), hu, h.kD, h.sD, h.qD, h.lo⟩
theorem Side.sd (h : Side w0 wr D kb sb q k U) (hs : SD w0 wr D s n st) (x : Nat) (v : Bool) : SD w0 (wr.setCell ⟨q, x, none⟩ (.bool v)) D s n st :=
  hs.beside ((Ch.refl [q] wr).setCell (.inl (by simp)) _) (fun y hy => by simp at hy; subst hy; exact h.qD) (fun y hy => by simp at hy; subst hy; exact h.lo)
theorem take_ok {x : Nat} (h : Side w0 wr D kb sb q k U) (hx : x < k) (hU : U x = false) :
    Calls Try.prog 40 #[.int .i64 x, .pointer (some ⟨kb, 0, none⟩), .pointer (some ⟨sb, 0, none⟩)] wr fun e w' => e = .returned (.bool true) ∧ w' = wr.setCell ⟨q, x, none⟩ (.bool true) := by
  have c1 := h.kc.cell 0
  have c2 := h.sc.cell 0
  have c3 := (h.us.cell x).trans (bools_at hx)
  have f3 := h.us.frozen x
  rw [hU] at c3
  have t1 : decide ((x : Int) ≥ k) = false := decide_eq_false (by omega)
  have t2 : (x : Int) < k := by omega
  have t3 : (0 : Int) ≤ x := by omega
  have t4 : ¬ (x : Int) < 0 := by omega
  have t5 : decide ((x : Int) < 0) = false := decide_eq_false (by omega)
  clear h
  go_enter Try.func40, Try.ntmps40
  go_wp2_with fail
  go_ret
  exact ⟨rfl, rfl⟩
end
set_option maxRecDepth 100000 in
set_option maxHeartbeats 8000000 in
theorem once27_walk (a0 a1 : Int) (a2 : Option Addr) (len cap : Nat) (F : Nat → Nat → Value) (w : World) (hr : RdS w a2 len 6 F) (ht : ∀ i, i < len → (∃ x, F i 0 = .int .i64 x) ∧ (∃ x, F i 1 = .int .i64 x) ∧ (∃ x, F i 2 = .int .i64 x) ∧ (∃ x, F i 3 = .int .i64 x) ∧ (∃ x, F i 4 = .int .i64 x) ∧ (∃ x, F i 5 = .bool x)) (hm : len ≤ maxLen) :
    Calls Try.prog 11 #[.int .i64 a0, .int .i64 a1, .slice a2 len cap] w fun e w' => e = .returned (.bool true) ∧ Below w.heap.size w w' := by
  unfold maxLen at hm
  have HT := Lib.hid ht
  obtain ⟨k, hk, hkl⟩ := umod a0 601 (by decide) (by decide)
  obtain ⟨l, hl, hll⟩ := umod a1 8 (by decide) (by decide)
  obtain ⟨n, hn⟩ : ∃ n, l + 1 = n := ⟨_, rfl⟩
  have hn1 : (1 : Int) + (l : Int) = (n : Int) := by omega
  have hn8 : n ≤ 8 := by omega
  have n0 : (0 : Int) ≤ n := by omega
  have n1 : ¬ (n : Int) = 0 := by omega
  have n2 : ((n : Int) == 0) = false := by rw [beq_eq_false_iff_ne]; omega
  have n3 : (0 : Int) < n := by omega
  have hnw : wrap64 ((1 : Int) + (l : Int)) = (n : Int) := by rw [hn1]; exact IntWalk.wrap64_in _ (by omega)
  have HK := Lib.hid hk
  have HL := Lib.hid hl
  have HN := Lib.hid hn
  have HN1 := Lib.hid hn1
  have HNW := Lib.hid hnw
  clear hk hl hn hn1 hnw ht
  have hmk := fun w => run_makeBools w k (by omega)
  go_enter Try.func11, Try.ntmps11
  go_wp2_with fail
  try rw [HL.out]
  first
  | rw [HNW.out]
  | rw [HN1.out]
  refine (sdNew w n (by omega) (by omega)).mono ?_; rintro e w1 hn
  obtain ⟨s, D, rfl, h0⟩ := hn
  go_wp2_with fail
  rw [HK.out]
  obtain ⟨kb, hkb⟩ : ∃ kb, w1.heap.size = kb := ⟨_, rfl⟩
  obtain ⟨W2, hW2⟩ : ∃ W2, w1.alloc (.cells #[.int .i64 (k : Int)] 3) = W2 := ⟨_, rfl⟩
  have c2 : Ch [] w1 W2 := by rw [← hW2]; exact (Ch.refl [] w1).alloc _
  have kB : Blk W2 kb #[.int .i64 (k : Int)] 3 := by rw [← hW2]; exact Blk.new' hkb.symm _ _
  obtain ⟨q, hq⟩ : ∃ q, W2.heap.size = q := ⟨_, rfl⟩
  have hmk1 := hmk W2
  rw [hq] at hmk1
  obtain ⟨W3, hW3⟩ : ∃ W3, W2.alloc (.cells (bools noneB k) 4) = W3 := ⟨_, rfl⟩
  have c3 : Ch [] W2 W3 := by rw [← hW3]; exact (Ch.refl [] W2).alloc _
  have qB : Blk W3 q (bools noneB k) 4 := by rw [← hW3]; exact Blk.new' hq.symm _ _
  obtain ⟨sb, hsb⟩ : ∃ sb, W3.heap.size = sb := ⟨_, rfl⟩
  obtain ⟨W4, hW4⟩ : ∃ W4, W3.alloc (.cells #[.slice (some ⟨q, 0, none⟩) k k] 64) = W4 := ⟨_, rfl⟩
  have c4 : Ch [] W3 W4 := by rw [← hW4]; exact (Ch.refl [] W3).alloc _
  have sB : Blk W4 sb #[.slice (some ⟨q, 0, none⟩) k k] 64 := by rw [← hW4]; exact Blk.new' hsb.symm _ _
  have h4 := h0.still ((c2.trans c3).trans c4)
  have hS : Side w W4 D kb sb q k noneB := by
    have hb := h0.bd
    have z := h0.ch.size
    have z2 := c2.size
    have z3 := c3.size
    exact ⟨(kB.keep c3 (by simp)).keep c4 (by simp), sB, qB.keep c4 (by simp), fun hm => by have := (hb _ hm).2; omega, fun hm => by have := (hb _ hm).2; omega, fun hm => by have := (hb _ hm).2; omega, by omega⟩
  rw [hW3] at hmk1
  rw [hkb, hW2]
  rw [hmk1]
  clear hmk hmk1 h0 c2 c3 c4 kB qB sB hW2 hW3 hkb hq
  go_wp2_with fail
  try rw [hsb]
  try rw [hW4]
  clear hW4 hsb
  go_loopw [13, 14, 15, 16, 17, 18, 19, 20] (fun s13 s14 s15 s16 s17 s18 s19 s20 wr => ∃ (i lf : Nat) (D : List Nat) (U : Nat → Bool) (st : SSt), s14 = .int .i64 i ∧ s13 = .int .i64 lf ∧ i ≤ k ∧ lf ≤ i ∧ SD w wr D s n st ∧ Side w wr D kb sb q k U ∧ OI n i lf U st) (fun _ s14 _ _ _ _ _ _ _ => k - (intOf s14).toNat)
  case atStart => exact ⟨0, 0, D, noneB, _, rfl, rfl, by omega, by omega, h4, hS, OI.init n⟩
  case round =>
    clear h4 hS
    obtain ⟨i, lf, D, U, st, rfl, rfl, hik, hlf, h1, hS, hO⟩ := hrel
    have ck := hS.kc.cell 0
    by_cases hlt : i < k
    · have t1 : decide ((i : Int) < k) = true := decide_eq_true (by omega)
      obtain ⟨nb0, hnb0⟩ : ∃ nb0 : Bool, ((i : Int) % 3 == 0) = nb0 := ⟨_, rfl⟩
      by_cases hll : i < len
      · have t2 : decide ((i : Int) < len) = true := decide_eq_true (by omega)
        obtain ⟨⟨x0, hx0⟩, ⟨x1, hx1⟩, ⟨x2, hx2⟩, ⟨x3, hx3⟩, ⟨x4, hx4⟩, ⟨x5, hx5⟩⟩ := HT.out i hll
        obtain ⟨ba, oa, rfl, hcell⟩ := (hr.keep (by decide) h1.ch (by simp)).at hll
        have d0 := hcell i hll 0 (by decide)
        have d1 := hcell i hll 1 (by decide)
        have d2 := hcell i hll 2 (by decide)
        have d3 := hcell i hll 3 (by decide)
        have d4 := hcell i hll 4 (by decide)
        have d5 := hcell i hll 5 (by decide)
        rw [hx0, Nat.add_zero] at d0
        rw [hx1] at d1
        rw [hx2] at d2
        rw [hx3] at d3
        rw [hx4] at d4
        rw [hx5] at d5
        have v1 : (i : Int) < len := by omega
        have v2 : (0 : Int) ≤ i := by omega
        clear hcell hx0 hx1 hx2 hx3 hx4 hx5 hr
        go_upto_region 14 with fail
        obtain ⟨ob, hob⟩ : ∃ ob, wr.heap.size = ob := ⟨_, rfl⟩
        obtain ⟨W1, hW1⟩ : ∃ W1, wr.alloc (.cells #[.int .i64 0, .int .i64 (i : Int), .int .i64 0, .int .i64 0, .int .i64 0, .bool nb0] 66) = W1 := ⟨_, rfl⟩
        have cw1 : Ch [] wr W1 := by rw [← hW1]; exact (Ch.refl [] wr).alloc _
        have oB : Blk W1 ob #[.int .i64 0, .int .i64 (i : Int), .int .i64 0, .int .i64 0, .int .i64 0, .bool nb0] 66 := by rw [← hW1]; exact Blk.new' hob.symm _ _
        rw [hW1, hob]
        have hbl : ba < wr.heap.size := World.block_lt_of_cell? wr ⟨ba, oa + i * 6, none⟩ d0
        have g0 : W1.cell? ⟨ba, oa + i * 6, none⟩ = some (.int .i64 x0) := (cw1.cellAt hbl).trans d0
        have g1 : W1.cell? ⟨ba, oa + i * 6 + 1, none⟩ = some (.int .i64 x1) := (cw1.cellAt hbl).trans d1
        have g2 : W1.cell? ⟨ba, oa + i * 6 + 2, none⟩ = some (.int .i64 x2) := (cw1.cellAt hbl).trans d2
        have g3 : W1.cell? ⟨ba, oa + i * 6 + 3, none⟩ = some (.int .i64 x3) := (cw1.cellAt hbl).trans d3
        have g4 : W1.cell? ⟨ba, oa + i * 6 + 4, none⟩ = some (.int .i64 x4) := (cw1.cellAt hbl).trans d4
        have g5 : W1.cell? ⟨ba, oa + i * 6 + 5, none⟩ = some (.bool x5) := (cw1.cellAt hbl).trans d5
        have f0 := oB.frozen 0
        have f1 := oB.frozen 1
        have f2 := oB.frozen 2
        have f3 := oB.frozen 3
        have f4 := oB.frozen 4
        have f5 := oB.frozen 5
        have o0 := oB.cell 0
        have o1 := oB.cell 1
        have o2 := oB.cell 2
        have o3 := oB.cell 3
        have o4 := oB.cell 4
        have o5 := oB.cell 5
        clear hW1 d0 d1 d2 d3 d4 d5
        go_upto_region 15 with fail
        obtain ⟨W2, hW2⟩ : ∃ W2, (((((W1.setCell ⟨ob, 0, none⟩ (.int .i64 x0)).setCell ⟨ob, 1, none⟩ (.int .i64 x1)).setCell ⟨ob, 2, none⟩ (.int .i64 x2)).setCell ⟨ob, 3, none⟩ (.int .i64 x3)).setCell ⟨ob, 4, none⟩ (.int .i64 x4)).setCell ⟨ob, 5, none⟩ (.bool x5) = W2 := ⟨_, rfl⟩
        have oB2 : Blk W2 ob #[.int .i64 x0, .int .i64 x1, .int .i64 x2, .int .i64 x3, .int .i64 x4, .bool x5] 66 := by rw [← hW2]; exact (((((oB.set 0 _).set 1 _).set 2 _).set 3 _).set 4 _).set 5 _
        have cw2 : Ch [] wr W2 := by
          have hge : wr.heap.size ≤ ob := by omega
          rw [← hW2]
          exact (((((cw1.setCell (.inr hge) _).setCell (.inr hge) _).setCell (.inr hge) _).setCell (.inr hge) _).setCell (.inr hge) _).setCell (.inr hge) _
        rw [hW2]
        clear hW2 cw1 oB g0 g1 g2 g3 g4 g5 f0 f1 f2 f3 f4 f5 o0 o1 o2 o3 o4 o5 hbl v1 v2
        have obD : ob ∉ D := fun hm => by have := (h1.bd ob hm).2; omega
        have h2 := h1.still cw2
        have hS2 := hS.still cw2
        obtain ⟨j, hj, hjl⟩ := umod x1 n (by omega) (by omega)
        have hjn : j < n := by omega
        have HJ := Lib.hid hj
        have hcom : st.com.length ≤ 80000 := by have := com_le (st := st) (n := n); have := hO.len; omega
        have HCOM := Lib.hid hcom
        have e1 := oB2.cell 1
        have e5 := oB2.cell 5
        have obl : ob < W2.heap.size := oB2.lt
        clear hj hjl hcom h1 hS cw2 ck
        go_wp2_with fail
        rw [HJ.out]
        refine (sdReady (i := j) (i : Int) x5 h2 hjn HCOM.out).mono ?_; rintro e w3 ⟨rfl, D3, h3, c3, n3⟩
        have hS3 := hS2.sdt c3 n3
        have oB3 := oB2.keep c3 obD
        have hU : U i = false := hO.far i (Nat.le_refl _)
        have hO3 := hO.ready hjn x5
        have hth := hO3.there hU
        obtain ⟨st3, hst3⟩ : ∃ st3, readyS st j (i : Int) x5 = st3 := ⟨_, rfl⟩
        rw [hst3] at h3 hO3 hth
        have hcom3 : st3.com.length ≤ 80000 := by have := com_le (st := st3) (n := n); have := hO3.len; omega
        have HCOM3 := Lib.hid hcom3
        have HTH := Lib.hid hth
        have ob3 : ob ∉ D3 := fun hm => by
          rcases n3 ob hm with e | e
          · exact obD e
          · omega
        clear h2 hS2 oB2 c3 n3 hO hU hth hst3 hcom3 e1 e5
        go_wp2_with fail
        refine (sdWhere (i : Int) h3 (by omega) HCOM3.out).mono ?_; rintro e w4 ⟨rfl, c4⟩
        rw [HTH.out]
        have h4 := h3.still c4
        have hS4 := hS3.still c4
        have oB4 := oB3.keep c4 (by simp)
        have e0 := oB4.cell 0
        clear h3 hS3 oB3 c4
        go_upto_region 22 with fail
        obtain ⟨bb, hbb⟩ : ∃ bb : Bool, (bits .and .i64 x0 3 == 3) = bb := ⟨_, rfl⟩
        cases bb with
        | false =>
          have htot : totS st3 n = lf + 1 := by rw [totS_wt]; exact hO3.len
          have zz : (((lf + 1 : Nat) : Int) != (lf : Int) + 1) = false := by simp
          have HTOT := Lib.hid htot
          clear htot
          go_wp2_with fail
          refine (sdLen h4 (by omega) HCOM3.out).mono ?_; rintro e w5 ⟨rfl, c5⟩
          rw [HTOT.out]
          have h5 := h4.still c5
          have hS5 := hS4.still c5
          clear h4 hS4 c5 oB4 e0
          go_wp2_with fail
          go_roundw
          case rel => exact ⟨i + 1, lf + 1, D3, U, st3, by go_num, by go_num, by omega, by omega, h5, hS5, hO3⟩
          case measure => simp [intOf]; omega
        | true =>
          obtain ⟨vc, hvc⟩ : ∃ vc, x4.tmod (n : Int) = vc := ⟨_, rfl⟩
          have hvr : -8 ≤ vc ∧ vc ≤ 8 := by
            have y1 := Int.tmod_lt_of_pos x4 n3
            have y2 : (x4.tmod (n : Int)).natAbs < n := by
              rw [Int.natAbs_tmod]
              exact Nat.mod_lt _ (by omega)
            omega
          have hvw : IntKind.i64.wrap vc = vc := IntWalk.i64_in _ (by omega)
          have nz : (n = 0) = False := eq_false (by omega)
          have e3 := oB4.cell 3
          have e4 := oB4.cell 4
          go_upto_region 23 with fail
          have h4d := h4.still ((Ch.refl [] w4).drewN 1)
          have hS4d := hS4.still ((Ch.refl [] w4).drewN 1)
          have oB4d := oB4.keep ((Ch.refl [] w4).drewN 1) (by simp)
          obtain ⟨W5, hW5⟩ : ∃ W5, w4.drewN 1 = W5 := ⟨_, rfl⟩
          rw [hW5] at h4d hS4d oB4d
          obtain ⟨L, hL⟩ : ∃ L : World → Prop, ∀ w', L w' ↔ (w'.cell? ⟨ob, 3, none⟩ = some (.int .i64 x3) ∧ w'.cell? ⟨ob, 4, none⟩ = some (.int .i64 x4)) := ⟨_, fun _ => Iff.rfl⟩
          have hY1 : ∀ y : { w' : World // L w' }, y.1.cell? ⟨ob, 3, none⟩ = some (.int .i64 x3) := fun y => ((hL _).1 y.2).1
          have hY2 : ∀ y : { w' : World // L w' }, y.1.cell? ⟨ob, 4, none⟩ = some (.int .i64 x4) := fun y => ((hL _).1 y.2).2
          have hLk : ∀ w', Blk w' ob #[.int .i64 x0, .int .i64 x1, .int .i64 x2, .int .i64 x3, .int .i64 x4, .bool x5] 66 → L w' := fun w' hb => (hL _).2 ⟨hb.cell 3, hb.cell 4⟩
          have HLk := Lib.hid hLk
          have hS0 := hLk _ oB4d
          have hSA : Nonempty { w' : World // L w' } := ⟨⟨_, hS0⟩⟩
          clear hL hLk e0 e3 e4 h4 hS4 oB4 hbb
          refine wp_region_plan (Cls L) (List.range 14) (.reads [0, 1, 2, 3, 4, 5, 6, 7] (.only 8 (.reads [9, 10, 11, 12, 13] .done))) (by kernel_rfl) (by kernel_rfl) (fun _ _ _ _ _ h => h) ?_
          simp only [Plan.pures, Plan.reads, Plan.only, List.foldr_cons, List.foldr_nil]
          rw [hW5]
          clear hW5
          iterate 8 (refine wpPlan_readS hS0 (fun K hK => ?_); simp only [List.getD_cons_zero, List.getD_cons_succ]; go_simp; refine hK _ ?_; clear hK K)
          refine wpPlan_only (fun K hK => ?_)
          simp only [List.getD_cons_zero, List.getD_cons_succ]
          go_simp
          refine (sdPick (i := j) x3 vc h4d hjn HCOM3.out).mono ?_; rintro e w5 ⟨rfl, D5, h5, c5, n5⟩
          have hl5 := HLk.out _ (oB4d.keep c5 ob3)
          have hS5 := hS4d.sdt c5 n5
          refine hK _ _ (fun _ => Cls.mk hl5) ?_
          clear hK K hS0 h4d hS4d oB4d
          obtain ⟨pb, hpb⟩ : ∃ pb, pickB st3 j n x3 vc = pb := ⟨_, rfl⟩
          obtain ⟨pv, hpv⟩ : ∃ pv, pickV st3 j n x3 vc = pv := ⟨_, rfl⟩
          obtain ⟨st5, hst5⟩ : ∃ st5, pickS st3 j n x3 vc = st5 := ⟨_, rfl⟩
          rw [hpb, hpv]
          rw [hst5] at h5
          iterate 5 (refine wpPlan_readS hl5 (fun K hK => ?_); simp only [List.getD_cons_zero, List.getD_cons_succ]; go_simp; refine hK _ ?_; clear hK K)
          refine wpPlan_done ?_
          clear hl5 HLk hY1 hY2 hSA c5 n5 hvc hvw
          cases pb with
          | false =>
            have hO5 := hO3.same hpb
            rw [hst5] at hO5
            have hcom5 : st5.com.length ≤ 80000 := by have := com_le (st := st5) (n := n); have := hO5.len; omega
            have htot : totS st5 n = lf + 1 := by rw [totS_wt]; exact hO5.len
            have zz : (((lf + 1 : Nat) : Int) != (lf : Int) + 1) = false := by simp
            have HTOT := Lib.hid htot
            have HCOM5 := Lib.hid hcom5
            clear htot hcom5 hpb hpv hst5
            go_wp2_with fail
            refine (sdLen h5 (by omega) HCOM5.out).mono ?_; rintro e w6 ⟨rfl, c6⟩
            rw [HTOT.out]
            have h6 := h5.still c6
            have hS6 := hS5.still c6
            clear h5 hS5 c6
            go_wp2_with fail
            go_roundw
            case rel => exact ⟨i + 1, lf + 1, D5, U, st5, by go_num, by go_num, by omega, by omega, h6, hS6, hO5⟩
            case measure => simp [intOf]; omega
          | true =>
            obtain ⟨x, hxv, hxi, hUx, hlf0, hO5⟩ := hO3.pick hjn hpb
            rw [hpv] at hxv
            rw [hst5, Nat.add_sub_cancel] at hO5
            subst hxv
            have hT := take_ok hS5 (show x < k by omega) hUx
            have hS6 := hS5.store x true
            have h6 := hS5.sd h5 x true
            have hcom5 : st5.com.length ≤ 80000 := by have := com_le (st := st5) (n := n); have := hO5.len; omega
            have htot : totS st5 n = lf := by rw [totS_wt]; exact hO5.len
            have zz : ((lf : Int) != (lf : Int)) = false := by simp
            have zl : (lf : Int) + 1 - 1 = (lf : Int) := by omega
            have HTOT := Lib.hid htot
            have HCOM5 := Lib.hid hcom5
            clear htot hcom5 hpb hpv hst5 h5 hS5 hUx
            go_wp2_with fail
            refine hT.mono ?_; rintro e w6 ⟨rfl, rfl⟩
            clear hT
            go_wp2_with fail
            refine (sdLen h6 (by omega) HCOM5.out).mono ?_; rintro e w7 ⟨rfl, c7⟩
            rw [HTOT.out]
            have h7 := h6.still c7
            have hS7 := hS6.still c7
            clear h6 hS6 c7
            go_wp2_with fail
            go_roundw
            case rel => exact ⟨i + 1, lf, D5, _, st5, by go_num, by go_num, by omega, by omega, h7, hS7, hO5⟩
            case measure => simp [intOf]; omega
      · have t2 : decide ((i : Int) < len) = false := decide_eq_false (by omega)
        have v1 : ¬ (i : Int) < len := by omega
        clear hr
        go_upto_region 15 with fail
        obtain ⟨ob, hob⟩ : ∃ ob, wr.heap.size = ob := ⟨_, rfl⟩
        obtain ⟨W2, hW1⟩ : ∃ W1, wr.alloc (.cells #[.int .i64 0, .int .i64 (i : Int), .int .i64 0, .int .i64 0, .int .i64 0, .bool nb0] 66) = W1 := ⟨_, rfl⟩
        have cw2 : Ch [] wr W2 := by rw [← hW1]; exact (Ch.refl [] wr).alloc _
        have oB : Blk W2 ob #[.int .i64 0, .int .i64 (i : Int), .int .i64 0, .int .i64 0, .int .i64 0, .bool nb0] 66 := by rw [← hW1]; exact Blk.new' hob.symm _ _
        rw [hW1, hob]
        obtain ⟨x0, x1, x2, x3, x4, x5, oB2⟩ : ∃ (x0 x1 x2 x3 x4 : Int) (x5 : Bool), Blk W2 ob #[.int .i64 x0, .int .i64 x1, .int .i64 x2, .int .i64 x3, .int .i64 x4, .bool x5] 66 := ⟨_, _, _, _, _, _, oB⟩
        clear hW1 oB v1
        have obD : ob ∉ D := fun hm => by have := (h1.bd ob hm).2; omega
        have h2 := h1.still cw2
        have hS2 := hS.still cw2
        obtain ⟨j, hj, hjl⟩ := umod x1 n (by omega) (by omega)
        have hjn : j < n := by omega
        have HJ := Lib.hid hj
        have hcom : st.com.length ≤ 80000 := by have := com_le (st := st) (n := n); have := hO.len; omega
        have HCOM := Lib.hid hcom
        have e1 := oB2.cell 1
        have e5 := oB2.cell 5
        have obl : ob < W2.heap.size := oB2.lt
        clear hj hjl hcom h1 hS cw2 ck
        go_wp2_with fail
        rw [HJ.out]
        refine (sdReady (i := j) (i : Int) x5 h2 hjn HCOM.out).mono ?_; rintro e w3 ⟨rfl, D3, h3, c3, n3⟩
        have hS3 := hS2.sdt c3 n3
        have oB3 := oB2.keep c3 obD
        have hU : U i = false := hO.far i (Nat.le_refl _)
        have hO3 := hO.ready hjn x5
        have hth := hO3.there hU
        obtain ⟨st3, hst3⟩ : ∃ st3, readyS st j (i : Int) x5 = st3 := ⟨_, rfl⟩
        rw [hst3] at h3 hO3 hth
        have hcom3 : st3.com.length ≤ 80000 := by have := com_le (st := st3) (n := n); have := hO3.len; omega
        have HCOM3 := Lib.hid hcom3
        have HTH := Lib.hid hth
        have ob3 : ob ∉ D3 := fun hm => by
          rcases n3 ob hm with e | e
          · exact obD e
          · omega
        clear h2 hS2 oB2 c3 n3 hO hU hth hst3 hcom3 e1 e5
        go_wp2_with fail
        refine (sdWhere (i : Int) h3 (by omega) HCOM3.out).mono ?_; rintro e w4 ⟨rfl, c4⟩
        rw [HTH.out]
        have h4 := h3.still c4
        have hS4 := hS3.still c4
        have oB4 := oB3.keep c4 (by simp)
        have e0 := oB4.cell 0
        clear h3 hS3 oB3 c4
        go_upto_region 22 with fail
        obtain ⟨bb, hbb⟩ : ∃ bb : Bool, (bits .and .i64 x0 3 == 3) = bb := ⟨_, rfl⟩
        cases bb with
        | false =>
          have htot : totS st3 n = lf + 1 := by rw [totS_wt]; exact hO3.len
          have zz : (((lf + 1 : Nat) : Int) != (lf : Int) + 1) = false := by simp
          have HTOT := Lib.hid htot
          clear htot
          go_wp2_with fail
          refine (sdLen h4 (by omega) HCOM3.out).mono ?_; rintro e w5 ⟨rfl, c5⟩
          rw [HTOT.out]
          have h5 := h4.still c5
          have hS5 := hS4.still c5
          clear h4 hS4 c5 oB4 e0
          go_wp2_with fail
          go_roundw
          case rel => exact ⟨i + 1, lf + 1, D3, U, st3, by go_num, by go_num, by omega, by omega, h5, hS5, hO3⟩
          case measure => simp [intOf]; omega
        | true =>
          obtain ⟨vc, hvc⟩ : ∃ vc, x4.tmod (n : Int) = vc := ⟨_, rfl⟩
          have hvr : -8 ≤ vc ∧ vc ≤ 8 := by
            have y1 := Int.tmod_lt_of_pos x4 n3
            have y2 : (x4.tmod (n : Int)).natAbs < n := by
              rw [Int.natAbs_tmod]
              exact Nat.mod_lt _ (by omega)
            omega
          have hvw : IntKind.i64.wrap vc = vc := IntWalk.i64_in _ (by omega)
          have nz : (n = 0) = False := eq_false (by omega)
          have e3 := oB4.cell 3
          have e4 := oB4.cell 4
          go_upto_region 23 with fail
          have h4d := h4.still ((Ch.refl [] w4).drewN 1)
          have hS4d := hS4.still ((Ch.refl [] w4).drewN 1)
          have oB4d := oB4.keep ((Ch.refl [] w4).drewN 1) (by simp)
          obtain ⟨W5, hW5⟩ : ∃ W5, w4.drewN 1 = W5 := ⟨_, rfl⟩
          rw [hW5] at h4d hS4d oB4d
          obtain ⟨L, hL⟩ : ∃ L : World → Prop, ∀ w', L w' ↔ (w'.cell? ⟨ob, 3, none⟩ = some (.int .i64 x3) ∧ w'.cell? ⟨ob, 4, none⟩ = some (.int .i64 x4)) := ⟨_, fun _ => Iff.rfl⟩
          have hY1 : ∀ y : { w' : World // L w' }, y.1.cell? ⟨ob, 3, none⟩ = some (.int .i64 x3) := fun y => ((hL _).1 y.2).1
          have hY2 : ∀ y : { w' : World // L w' }, y.1.cell? ⟨ob, 4, none⟩ = some (.int .i64 x4) := fun y => ((hL _).1 y.2).2
          have hLk : ∀ w', Blk w' ob #[.int .i64 x0, .int .i64 x1, .int .i64 x2, .int .i64 x3, .int .i64 x4, .bool x5] 66 → L w' := fun w' hb => (hL _).2 ⟨hb.cell 3, hb.cell 4⟩
          have HLk := Lib.hid hLk
          have hS0 := hLk _ oB4d
          have hSA : Nonempty { w' : World // L w' } := ⟨⟨_, hS0⟩⟩
          clear hL hLk e0 e3 e4 h4 hS4 oB4 hbb
          refine wp_region_plan (Cls L) (List.range 14) (.reads [0, 1, 2, 3, 4, 5, 6, 7] (.only 8 (.reads [9, 10, 11, 12, 13] .done))) (by kernel_rfl) (by kernel_rfl) (fun _ _ _ _ _ h => h) ?_
          simp only [Plan.pures, Plan.reads, Plan.only, List.foldr_cons, List.foldr_nil]
          rw [hW5]
          clear hW5
          iterate 8 (refine wpPlan_readS hS0 (fun K hK => ?_); simp only [List.getD_cons_zero, List.getD_cons_succ]; go_simp; refine hK _ ?_; clear hK K)
          refine wpPlan_only (fun K hK => ?_)
          simp only [List.getD_cons_zero, List.getD_cons_succ]
          go_simp
          refine (sdPick (i := j) x3 vc h4d hjn HCOM3.out).mono ?_; rintro e w5 ⟨rfl, D5, h5, c5, n5⟩
          have hl5 := HLk.out _ (oB4d.keep c5 ob3)
          have hS5 := hS4d.sdt c5 n5
          refine hK _ _ (fun _ => Cls.mk hl5) ?_
          clear hK K hS0 h4d hS4d oB4d
          obtain ⟨pb, hpb⟩ : ∃ pb, pickB st3 j n x3 vc = pb := ⟨_, rfl⟩
          obtain ⟨pv, hpv⟩ : ∃ pv, pickV st3 j n x3 vc = pv := ⟨_, rfl⟩
          obtain ⟨st5, hst5⟩ : ∃ st5, pickS st3 j n x3 vc = st5 := ⟨_, rfl⟩
          rw [hpb, hpv]
          rw [hst5] at h5
          iterate 5 (refine wpPlan_readS hl5 (fun K hK => ?_); simp only [List.getD_cons_zero, List.getD_cons_succ]; go_simp; refine hK _ ?_; clear hK K)
          refine wpPlan_done ?_
          clear hl5 HLk hY1 hY2 hSA c5 n5 hvc hvw
          cases pb with
          | false =>
            have hO5 := hO3.same hpb
            rw [hst5] at hO5
            have hcom5 : st5.com.length ≤ 80000 := by have := com_le (st := st5) (n := n); have := hO5.len; omega
            have htot : totS st5 n = lf + 1 := by rw [totS_wt]; exact hO5.len
            have zz : (((lf + 1 : Nat) : Int) != (lf : Int) + 1) = false := by simp
            have HTOT := Lib.hid htot
            have HCOM5 := Lib.hid hcom5
            clear htot hcom5 hpb hpv hst5
            go_wp2_with fail
            refine (sdLen h5 (by omega) HCOM5.out).mono ?_; rintro e w6 ⟨rfl, c6⟩
            rw [HTOT.out]
            have h6 := h5.still c6
            have hS6 := hS5.still c6
            clear h5 hS5 c6
            go_wp2_with fail
            go_roundw
            case rel => exact ⟨i + 1, lf + 1, D5, U, st5, by go_num, by go_num, by omega, by omega, h6, hS6, hO5⟩
            case measure => simp [intOf]; omega
          | true =>
            obtain ⟨x, hxv, hxi, hUx, hlf0, hO5⟩ := hO3.pick hjn hpb
            rw [hpv] at hxv
            rw [hst5, Nat.add_sub_cancel] at hO5
            subst hxv
            have hT := take_ok hS5 (show x < k by omega) hUx
            have hS6 := hS5.store x true
            have h6 := hS5.sd h5 x true
            have hcom5 : st5.com.length ≤ 80000 := by have := com_le (st := st5) (n := n); have := hO5.len; omega
            have htot : totS st5 n = lf := by rw [totS_wt]; exact hO5.len
            have zz : ((lf : Int) != (lf : Int)) = false := by simp
            have zl : (lf : Int) + 1 - 1 = (lf : Int) := by omega
            have HTOT := Lib.hid htot
            have HCOM5 := Lib.hid hcom5
            clear htot hcom5 hpb hpv hst5 h5 hS5 hUx
            go_wp2_with fail
            refine hT.mono ?_; rintro e w6 ⟨rfl, rfl⟩
            clear hT
            go_wp2_with fail
            refine (sdLen h6 (by omega) HCOM5.out).mono ?_; rintro e w7 ⟨rfl, c7⟩
            rw [HTOT.out]
            have h7 := h6.still c7
            have hS7 := hS6.still c7
            clear h6 hS6 c7
            go_wp2_with fail
            go_roundw
            case rel => exact ⟨i + 1, lf, D5, _, st5, by go_num, by go_num, by omega, by omega, h7, hS7, hO5⟩
            case measure => simp [intOf]; omega
    · obtain rfl : i = k := by omega
      have t1 : decide ((i : Int) < i) = false := decide_eq_false (by omega)
      have hmx : 0 < max l 1 := by omega
      clear hr
      go_wp2_with fail
      go_loopw [6, 13, 21, 22, 23] (fun s6 s13 s21 s22 s23 wr => ∃ (a lf f : Nat) (D : List Nat) (U : Nat → Bool) (st : SSt), s21 = .int .i64 a ∧ s13 = .int .i64 lf ∧ SD w wr D s n st ∧ Side w wr D kb sb q i U ∧ OI n i lf U st ∧ Fails n l a f st ∧ f ≤ a ∧ f < max l 1 ∧ lf ≤ i ∧ a + 7 * lf ≤ 7 * i + f) (fun _ _ s21 _ _ _ => 20 * i + 200 - (intOf s21).toNat)
      case atStart => exact ⟨0, lf, 0, D, U, st, rfl, rfl, h1, hS, hO, Fails.zero _ _ _ _, by omega, hmx, by omega, by omega⟩
      case round =>
        clear h1 hS hO ck hlf
        obtain ⟨a, lf, f, D, U, st, rfl, rfl, h1, hS, hO, hF, hfa, hfm, hlf, hal⟩ := hrel
        have hcom : st.com.length ≤ 80000 := by have := com_le (st := st) (n := n); have := hO.len; omega
        have HCOM := Lib.hid hcom
        have ck := hS.kc.cell 0
        clear hcom
        by_cases hl0 : lf = 0
        · subst hl0
          have htot : totS st n = 0 := by rw [totS_wt]; exact hO.len
          have HTOT := Lib.hid htot
          clear htot hF hO hS
          go_wp2_with fail
          refine (told27 wr).mono ?_; rintro e w2 ⟨rfl, c2⟩
          have h2 := h1.still c2
          clear h1 c2
          go_wp2_with fail
          refine (sdLen h2 (by omega) HCOM.out).mono ?_; rintro e w3 ⟨rfl, c3⟩
          rw [HTOT.out]
          have hend := (h2.still c3).ch.below (Nat.le_refl _) (by simp)
          clear h2 c3
          go_wp2_with fail
          go_ret
          exact ⟨rfl, hend⟩
        · have u1 : decide ((lf : Int) > 0) = true := decide_eq_true (by omega)
          have u2 : (0 : Int) < lf := by omega
          have ha : a ≤ 7 * i + 7 := by omega
          have u3 : decide ((a : Int) > 20 * (i : Int) + 100) = false := decide_eq_false (by omega)
          have u4 : ¬ 20 * (i : Int) + 100 < (a : Int) := by omega
          obtain ⟨vq, hvq⟩ : ∃ vq : Nat, 1 + a % max l 1 = vq := ⟨_, rfl⟩
          have hnl := HN.out
          have hl8 : l ≤ 7 := by omega
          have hvq8 : vq ≤ 8 := by
            have := Nat.mod_lt a hmx
            omega
          have hnl1 : (n : Int) - 1 = (l : Int) := by omega
          by_cases hl1 : l = 0
          · have hvi : ((1 + a % max l 1 : Nat) : Int) = 1 := by rw [hl1]; simp [Nat.mod_one]
            have l1 : (l : Int) < 1 := by omega
            have HL1 := Lib.hid hl1
            clear hl1 hvq8 hl8 hnl
            obtain ⟨pb, hpb⟩ : ∃ pb, pickB st 0 n (a : Int) 1 = pb := ⟨_, rfl⟩
            obtain ⟨pv, hpv⟩ : ∃ pv, pickV st 0 n (a : Int) 1 = pv := ⟨_, rfl⟩
            obtain ⟨st2, hst2⟩ : ∃ st2, pickS st 0 n (a : Int) 1 = st2 := ⟨_, rfl⟩
            have hf6 : f ≤ 6 := by omega
            have hlz : 0 < lf := by omega
            have HPB := Lib.hid hpb
            have HPV := Lib.hid hpv
            have HST := Lib.hid hst2
            have HVI := Lib.hid hvi
            have HVQ := Lib.hid hvq
            clear hpb hpv hst2 hvi hvq
            go_wp2_with fail
            refine (sdPick (i := 0) (a : Int) 1 h1 (by omega) HCOM.out).mono ?_; rintro e w2 ⟨rfl, D2, h2, c2, n2⟩
            rw [HPB.out, HPV.out]
            rw [HST.out] at h2
            have hS2 := hS.sdt c2 n2
            clear h1 hS c2 n2 ck
            cases pb with
            | false =>
              have hO2 := hO.same HPB.out
              have hF2 := hF.more (tick := (a : Int)) HN.out (by rw [HVI.out]; exact HPB.out)
              rw [HVI.out, HST.out] at hF2
              have hfew := hF.few (tick := (a : Int)) hO hlz HN.out hn8 hfa (by rw [HVI.out]; exact HPB.out)
              have hfm2 : f + 1 < max l 1 := by
                rcases hfew with e | e
                · exact e
                · omega
              rw [HST.out] at hO2
              have HF2 := Lib.hid hF2
              clear hO hF hfew hF2
              go_wp2_with fail
              go_roundw
              case rel => exact ⟨a + 1, lf, f + 1, D2, U, st2, by go_num, rfl, h2, hS2, hO2, HF2.out, by omega, by omega, by omega, by omega⟩
              case measure => simp [intOf]; omega
            | true =>
              obtain ⟨x, hxv, hxi, hUx, _, hO2⟩ := hO.pick (by omega) HPB.out
              rw [HPV.out] at hxv
              rw [HST.out] at hO2
              subst hxv
              obtain ⟨lg, rfl⟩ : ∃ lg, lf = lg + 1 := ⟨lf - 1, by omega⟩
              rw [Nat.add_sub_cancel] at hO2
              have hT := take_ok hS2 hxi hUx
              have hS3 := hS2.store x true
              have h3 := hS2.sd h2 x true
              have zl : (lg : Int) + 1 - 1 = (lg : Int) := by omega
              clear hO hF h2 hS2 hUx
              go_wp2_with fail
              refine hT.mono ?_; rintro e w3 ⟨rfl, rfl⟩
              clear hT
              go_wp2_with fail
              go_roundw
              case rel => exact ⟨a + 1, lg, 0, D2, _, st2, by go_num, by go_num, h3, hS3, hO2, Fails.zero _ _ _ _, by omega, hmx, by omega, by omega⟩
              case measure => simp [intOf]; omega
          · have hm1 : max l 1 = l := by omega
            obtain ⟨mm, hmm⟩ : ∃ mm : Nat, a % l = mm := ⟨_, rfl⟩
            have hmi : (a : Int) % (l : Int) = (mm : Int) := by rw [← hmm]; rfl
            have hvm : (1 : Int) + (mm : Int) = (vq : Int) := by rw [hm1, hmm] at hvq; omega
            have l1 : ¬ (l : Int) < 1 := by omega
            have l2 : (1 : Int) ≤ l := by omega
            have l3 : ((l : Int) == 0) = false := by rw [beq_eq_false_iff_ne]; omega
            have l4 : ¬ (l : Int) = 0 := by omega
            have l5 : (0 : Int) < l := by omega
            have l6 : (0 : Int) ≤ a := by omega
            clear hmm
            have hvi : ((1 + a % max l 1 : Nat) : Int) = (vq : Int) := by rw [hvq]
            obtain ⟨pb, hpb⟩ : ∃ pb, pickB st 0 n (a : Int) (vq : Int) = pb := ⟨_, rfl⟩
            obtain ⟨pv, hpv⟩ : ∃ pv, pickV st 0 n (a : Int) (vq : Int) = pv := ⟨_, rfl⟩
            obtain ⟨st2, hst2⟩ : ∃ st2, pickS st 0 n (a : Int) (vq : Int) = st2 := ⟨_, rfl⟩
            have hf6 : f ≤ 6 := by omega
            have hlz : 0 < lf := by omega
            have HPB := Lib.hid hpb
            have HPV := Lib.hid hpv
            have HST := Lib.hid hst2
            have HVI := Lib.hid hvi
            have HVQ := Lib.hid hvq
            clear hpb hpv hst2 hvi hvq
            go_wp2_with fail
            refine (sdPick (i := 0) (a : Int) (vq : Int) h1 (by omega) HCOM.out).mono ?_; rintro e w2 ⟨rfl, D2, h2, c2, n2⟩
            rw [HPB.out, HPV.out]
            rw [HST.out] at h2
            have hS2 := hS.sdt c2 n2
            clear h1 hS c2 n2 ck
            cases pb with
            | false =>
              have hO2 := hO.same HPB.out
              have hF2 := hF.more (tick := (a : Int)) HN.out (by rw [HVI.out]; exact HPB.out)
              rw [HVI.out, HST.out] at hF2
              have hfew := hF.few (tick := (a : Int)) hO hlz HN.out hn8 hfa (by rw [HVI.out]; exact HPB.out)
              have hfm2 : f + 1 < max l 1 := by
                rcases hfew with e | e
                · exact e
                · omega
              rw [HST.out] at hO2
              have HF2 := Lib.hid hF2
              clear hO hF hfew hF2
              go_wp2_with fail
              go_roundw
              case rel => exact ⟨a + 1, lf, f + 1, D2, U, st2, by go_num, rfl, h2, hS2, hO2, HF2.out, by omega, by omega, by omega, by omega⟩
              case measure => simp [intOf]; omega
            | true =>
              obtain ⟨x, hxv, hxi, hUx, _, hO2⟩ := hO.pick (by omega) HPB.out
              rw [HPV.out] at hxv
              rw [HST.out] at hO2
              subst hxv
              obtain ⟨lg, rfl⟩ : ∃ lg, lf = lg + 1 := ⟨lf - 1, by omega⟩
              rw [Nat.add_sub_cancel] at hO2
              have hT := take_ok hS2 hxi hUx
              have hS3 := hS2.store x true
              have h3 := hS2.sd h2 x true
              have zl : (lg : Int) + 1 - 1 = (lg : Int) := by omega
              clear hO hF h2 hS2 hUx
              go_wp2_with fail
              refine hT.mono ?_; rintro e w3 ⟨rfl, rfl⟩
              clear hT
              go_wp2_with fail
              go_roundw
              case rel => exact ⟨a + 1, lg, 0, D2, _, st2, by go_num, by go_num, h3, hS3, hO2, Fails.zero _ _ _ _, by omega, hmx, by omega, by omega⟩
              case measure => simp [intOf]; omega
end Go.Proofs.Yteghenfdncgpeaa
