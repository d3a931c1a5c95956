/-
  The walk of the statement RootsPlays: the law returns true at every input. Conditions: none beyond how the arguments are read.
-/
import Derived.Test.YtebibdoekcophaaRootsLaws
import Derived.Test.YtebibdoekcophaaJobs
import Derived.Test.YtebibdoekcophaaArgs
import Derived.Test.YtebibdoekcophaaPlan
import Derived.Deep.LoopGhost
import Derived.OpenShut
namespace Go.Proofs.Ytebibdoekcophaa
open Go.RowKit
/-- How the law brings an op's kind into its range. -/
theorem kind_eq (x : Int) (n : Nat) (hn : 0 < n) (hl : n < 1000) : ∃ j : Nat, (wrap64 (x.tmod n + n)).tmod n = (j : Int) ∧ j < n := by
  have h1 := Int.tmod_lt_of_pos x (show (0 : Int) < n by omega)
  have h2 : (x.tmod n).natAbs < n := by
    rw [Int.natAbs_tmod]
    exact Nat.mod_lt _ (by simpa using hn)
  have h3 : wrap64 (x.tmod n + n) = x.tmod n + n := IntWalk.wrap64_in _ (by omega)
  rw [h3, Int.tmod_eq_emod_of_nonneg (by omega)]
  have h4 := Int.emod_nonneg (x.tmod n + n) (show (n : Int) ≠ 0 by omega)
  have h5 := Int.emod_lt_of_pos (x.tmod n + n) (show (0 : Int) < n by omega)
  exact ⟨((x.tmod n + n) % n).toNat, by omega, by omega⟩
/-- The roots b beside the document's list: the jobs js; nothing of w has turned. -/
structure JSt (w wr : World) (b : Nat) (v : Value) (js : List Job) (al : Option Addr) (cl : Nat) : Prop where
  pr : RootsAt wr b v js
  lj : LsJ wr (b :: v.ownBlock.toList) al cl js
  ch : Ch [] w wr
  lb : w.heap.size ≤ b
  lv : ∀ k, v.ownBlock = some k → b < k
theorem JSt.keep {w wr w' : World} {b : Nat} {v : Value} {js : List Job} {al : Option Addr} {cl : Nat} (h : JSt w wr b v js al cl) (hc : Ch [] wr w') : JSt w w' b v js al cl :=
  ⟨h.pr.keep hc (by simp) (by simp), h.lj.keep hc (by simp), h.ch.trans hc, h.lb, h.lv⟩
def hasG (js : List Job) (g : Int) : Bool := js.any fun j => j.1 == g
theorem hasG_iff (js : List Job) (g : Int) : hasG js g = true ↔ jobHas js g := by simp [hasG, jobHas]
theorem hasG_take (js : List Job) (g : Int) (k : Nat) (h : k < js.length) : hasG (js.take (k + 1)) g = (hasG (js.take k) g || js[k].1 == g) := by
  unfold hasG
  rw [List.take_succ_eq_append_getElem h, List.any_append, List.any_cons, List.any_nil, Bool.or_false]
theorem lsJ_one {w : World} {k : Nat} {g : Int} (h : Blk w k #[.int .i64 g, .int .i64 0, .int .i64 16] 41) : LsJ w [] (some ⟨k, 0, none⟩) 1 [(g, 0, 16)] :=
  ⟨Nat.le_refl _, by unfold maxLen; omega, .inr ⟨k, 0, rfl, h.lt, by simp, fun i u hu => by rw [Nat.zero_add, h.cell]; simpa [flat, jobCells] using hu⟩⟩
set_option maxRecDepth 100000 in
set_option maxHeartbeats 8000000 in
theorem plays21_walk (a0 : Int) (a1 : Option Addr) (xs1 : List Int) (cap1 : Nat) (a2 : Option Addr) (len2 cap2 : Nat) (F2 : Nat → Nat → Value) (w : World) (w0 : (Lit.int .i64 a0).wf = true) (r1 : Rd w a1 xs1) (m1 : xs1.length ≤ maxLen)
    (r2 : RdS w a2 len2 2 F2) (t2 : ∀ i, i < len2 → (∃ x, F2 i 0 = .int .i64 x) ∧ (∃ x, F2 i 1 = .int .i64 x)) (m2 : len2 ≤ maxLen) :
    Calls Try.prog 10 #[.int .i64 a0, .slice a1 xs1.length cap1, .slice a2 len2 cap2] w fun e w' => e = .returned (.bool true) ∧ Below w.heap.size w w' := by
  unfold maxLen at m1 m2
  have hb0 := (bounds_i64 w0).1
  clear w0
  by_cases hg : a0 ≤ 100
  · by_cases hx : xs1.length ≤ 20
    · have hN := rootsNew a0 a1 xs1 cap1 w (by omega) (by omega) r1 hb0
      have hJ := fun w' (hc : Ch [] w w') => refJobs a0 a1 xs1 cap1 w' (by omega) (by omega) (r1.keep hc (by simp))
      obtain ⟨J, hJJ⟩ : ∃ J, gJobs a0 (gCount a0) ++ sJobs xs1 = J := ⟨_, rfl⟩
      have hJl : J.length ≤ 40 := by rw [← hJJ, List.length_append, gJobs_len, sJobs_len]; unfold gCount; omega
      rw [hJJ] at hN hJ
      obtain ⟨n1, hn1⟩ : ∃ n, xs1.length = n := ⟨_, rfl⟩
      rw [hn1] at hN hJ hx ⊢
      have HJ := Lib.hid hJ
      have HN := Lib.hid hN
      have g1 : ¬ (100 : Int) < a0 := by omega
      have g2 : ¬ (20 : Int) < n1 := by omega
      clear hJ hN hJJ r1 hn1 hb0 hg
      go_enter Try.func10, Try.ntmps10
      go_wp2_with fail
      refine HN.out.mono ?_; rintro e w1 ⟨rfl, v, h1, hv1, c1⟩
      obtain ⟨b, hb⟩ : ∃ b, w.heap.size = b := ⟨_, rfl⟩
      rw [hb] at h1 hv1 ⊢
      have HB := Lib.hid (show w.heap.size ≤ b by omega)
      clear hb
      go_wp2_with fail
      refine (HJ.out _ c1).mono ?_; rintro e w2 ⟨vj, rfl, o2, f2, c2⟩
      have hbl := h1.1.lt
      have hvl := h1.2.lt
      obtain ⟨al, cl, rfl, _, l2⟩ := o2.lsJ (S := b :: v.ownBlock.toList) (by
        intro k hk hm
        have := f2 k hk
        simp only [List.mem_cons] at hm
        rcases hm with rfl | hm
        · omega
        · have := hvl k (by simpa using hm); omega)
      have hst : JSt w w2 b v J al cl := ⟨h1.keep c2 (by simp) (by simp), l2, c1.trans c2, HB.out, hv1⟩
      clear HJ HN o2 f2 l2 c2 c1 h1 hv1 hbl hvl HB g1 g2
      go_wp2_with fail
      go_loopw [8, 9] (fun s8 s9 wr => ∃ (i : Nat) (v : Value) (js : List Job) (al : Option Addr) (cl : Nat), s8 = .slice al js.length cl ∧ s9 = .int .i64 i ∧ i ≤ len2 ∧ i ≤ 60 ∧ js.length ≤ 40 + i ∧ JSt w wr b v js al cl) (fun _ s9 _ => 60 - (intOf s9).toNat)
      case atStart => exact ⟨0, v, J, al, cl, rfl, rfl, by omega, by omega, by omega, hst⟩
      case round =>
        clear hst hJl
        obtain ⟨i, v, js, al, cl, rfl, rfl, hil, hi60, hjl, hst⟩ := hrel
        by_cases hlt : i < len2
        · by_cases h60 : i < 60
          · have t1 : decide ((i : Int) < len2) = true := decide_eq_true (by omega)
            have t3 : decide ((i : Int) < 60) = true := decide_eq_true (by omega)
            obtain ⟨⟨x, hx⟩, ⟨g, hgg⟩⟩ := t2 i hlt
            obtain ⟨ba, oa, rfl, hcell⟩ := (r2.keep (by decide) hst.ch (by simp)).at hlt
            have d0 := hcell i hlt 0 (by decide)
            have d1 := hcell i hlt 1 (by decide)
            rw [hx] at d0
            rw [hgg] at d1
            simp only [Nat.add_zero] at d0
            have hdd : ∀ X, Ch [] w X → X.cell? ⟨ba, oa + i * 2 + 1, none⟩ = some (.int .i64 g) := by
              intro X hX
              obtain ⟨b', o', he, hcc⟩ := (r2.keep (w' := X) (by decide) hX (by intro x hx hm; cases hm)).at hlt
              cases he
              rw [← hgg]
              exact hcc i hlt 1 (by decide)
            have HDD := Lib.hid hdd
            clear hcell hx hgg hdd
            obtain ⟨j, hj, hjl4⟩ := kind_eq x 4 (by decide) (by decide)
            replace hj : (wrap64 (x.tmod 4 + 4)).tmod 4 = (j : Int) := hj
            have b0 : (0 : Int) ≤ i := by omega
            have b1 : (i : Int) < len2 := by omega
            by_cases hj3 : j < 3
            · have k1 : (j : Int) < 3 := by omega
              rcases js with _ | ⟨y, t⟩
              · have hE := rootsNextEmpty b v wr hst.pr
                go_wp2_with fail
                refine hE.mono ?_; rintro e w3 ⟨rfl, h3, c3⟩
                have hst1 := hst.keep c3
                clear hE h3 c3 hst hj k1 t1 t3 d0 d1 r2
                go_upto_region 12 with fail
                obtain ⟨W1, hW1⟩ : ∃ W1, w3.alloc (.cells #[.int .i64 0, .int .i64 0, .int .i64 0] 41) = W1 := ⟨_, rfl⟩
                obtain ⟨q, hq⟩ : ∃ q, w3.heap.size = q := ⟨_, rfl⟩
                have bq : Blk W1 q #[.int .i64 0, .int .i64 0, .int .i64 0] 41 := by rw [← hW1, ← hq]; exact Blk.new _ _ _
                have ca1 : Ch [] w3 W1 := by rw [← hW1]; exact (Ch.refl [] w3).alloc _
                have hstq := hst1.keep ca1
                rw [hW1, hq]
                have q0 := bq.cell 0
                have q1 := bq.cell 1
                have q2 := bq.cell 2
                clear hW1 hq bq
                clear hst1
                go_quiet (fail)
                go_upto_region 26 with fail
                refine wp_named fun W2 hW2 => ?_
                have hst2 : JSt w W2 b v [] al cl := by rw [hW2]; exact hstq.keep ((Ch.refl [] W1).drewN _)
                clear hstq hW2
                -- how many are left is asked of both
                have hlen := rootsLeft b _ ([] : List Job) _ hst2.pr
                have nn : (((([] : List Job)).length : Int) != ((([] : List Job)).length : Int)) = false := by simp
                go_wp2_with fail
                refine hlen.mono ?_; rintro e w9 ⟨rfl, rfl⟩
                clear hlen
                go_wp2_with fail
                go_roundw
                case rel => exact ⟨i + 1, v, [], al, cl, rfl, by go_num, by omega, by omega, by simp, hst2⟩
                case measure => simp [intOf]; omega
              · have hcl : cl = 1 ∨ ¬ cl = 1 := by omega
                rcases hcl with hcl | hcl
                all_goals (
                  have hE := rootsNext b v y t wr hst.pr
                  obtain ⟨y1, y2, y3⟩ := y
                  obtain ⟨m, hm⟩ : ∃ m, t.length = m := ⟨_, rfl⟩
                  rw [List.length_cons, hm] at hjl ⊢
                  have HM := Lib.hid hm
                  clear hm
                  go_wp2_with fail
                  refine hE.mono ?_; rintro e w3 ⟨rfl, v3, h3, c3, e3⟩
                  have l3 := hst.lj.step (U := b :: v3.ownBlock.toList) c3 (by intro k hk; simp at hk; subst hk; simp) (by rw [e3]; intro k hk; exact .inl hk)
                  obtain ⟨bx, ox, rfl, p0, p1, p2, lt3⟩ := l3.at
                  have hst1 : JSt w w3 b v3 t _ _ := ⟨h3, lt3, hst.ch.transT c3 (by intro k hk; simp at hk; subst hk; exact .inr hst.lb), hst.lb, by rw [e3]; exact hst.lv⟩
                  have hbx := World.block_lt_of_cell? w3 ⟨bx, ox, none⟩ p0
                  have hp : ∀ X, Ch [] w3 X → X.cell? ⟨bx, ox, none⟩ = some (.int .i64 y1) ∧ X.cell? ⟨bx, ox + 1, none⟩ = some (.int .i64 y2) ∧ X.cell? ⟨bx, ox + 2, none⟩ = some (.int .i64 y3) := by
                    intro X hX
                    refine ⟨?_, ?_, ?_⟩
                    · rw [World.cell?_of_block (w := w3) (hX.block bx hbx (by simp))]; exact p0
                    · rw [World.cell?_of_block (w := w3) (hX.block bx hbx (by simp))]; exact p1
                    · rw [World.cell?_of_block (w := w3) (hX.block bx hbx (by simp))]; exact p2
                  have HP := Lib.hid hp
                  have hmc : (m : Int) + 1 ≤ cl := by have h9 := l3.1; have h8 := HM.out; simp at h9; omega
                  clear hE h3 c3 hst hj k1 t1 t3 d0 d1 r2 l3 p0 p1 p2 hp hbx lt3
                  go_upto_region 12 with fail
                  obtain ⟨W1, hW1⟩ : ∃ W1, w3.alloc (.cells #[.int .i64 y1, .int .i64 y2, .int .i64 y3] 41) = W1 := ⟨_, rfl⟩
                  obtain ⟨q, hq⟩ : ∃ q, w3.heap.size = q := ⟨_, rfl⟩
                  have bq : Blk W1 q #[.int .i64 y1, .int .i64 y2, .int .i64 y3] 41 := by rw [← hW1, ← hq]; exact Blk.new _ _ _
                  have ca1 : Ch [] w3 W1 := by rw [← hW1]; exact (Ch.refl [] w3).alloc _
                  have hstq := hst1.keep ca1
                  rw [hW1, hq]
                  have q0 := bq.cell 0
                  have q1 := bq.cell 1
                  have q2 := bq.cell 2
                  clear hW1 hq bq
                  obtain ⟨p0, p1, p2⟩ := HP.out W1 ca1
                  have z1 : (y1 == y1) = true := by simp
                  have z2 : (y2 == y2) = true := by simp
                  have z3 : (y3 == y3) = true := by simp
                  have m1' : (1 : Int) ≤ (m : Int) + 1 := by omega
                  clear hst1 ca1 HP
                  go_quiet (fail)
                  go_upto_region 26 with fail
                  refine wp_named fun W2 hW2 => ?_
                  have hst2 : JSt w W2 b v3 t (if cl = 1 then some ⟨bx, ox, none⟩ else some ⟨bx, ox + 3, none⟩) (cl - 1) := by rw [hW2]; exact hstq.keep ((Ch.refl [] W1).drewN _)
                  clear hstq hW2
                  have hlen := rootsLeft b _ t _ hst2.pr
                  rw [HM.out] at hlen
                  have nn : ((m : Int) != (m : Int)) = false := by simp
                  go_wp2_with fail
                  refine hlen.mono ?_; rintro e w9 ⟨rfl, rfl⟩
                  clear hlen
                  go_wp2_with fail
                  go_roundw
                  case rel => exact ⟨i + 1, v3, t, _, _, by rw [HM.out]; simp [*], by go_num, by omega, by omega, by rw [HM.out]; omega, hst2⟩
                  case measure => simp [intOf]; omega)
            · have k1 : ¬ (j : Int) < 3 := by omega
              have hl0 := hst.lj
              by_cases hgn : g < 0
              · have k2 : g < 0 := hgn
                go_wp2_with fail
                refine (told21 _).mono ?_; rintro e w3 ⟨rfl, c3⟩
                go_wp2
                go_ret
                exact ⟨rfl, (hst.ch.trans c3).below (Nat.le_refl _) (by simp)⟩
              · have k2 : ¬ g < 0 := hgn
                by_cases hh : jobHas js g
                · have hA := rootsAddHas b v js g wr hst.pr (by omega) hh
                  have hE := (hasG_iff js g).2 hh
                  go_wp2_with fail
                  refine hA.mono ?_; rintro e w3 ⟨rfl, h3, c3⟩
                  have hst1 := hst.keep c3
                  have hl1 := hst1.lj
                  have ch3 := hst1.ch
                  have HE := Lib.hid hE
                  have dd := HDD.out w3 ch3
                  obtain ⟨m, hm⟩ : ∃ m, js.length = m := ⟨_, rfl⟩
                  rw [hm] at hjl ⊢
                  have HM := Lib.hid hm
                  clear hA hE c3 hst hj k1 t1 t3 d0 d1 r2 hh hm
                  go_wp2_with fail
                  go_loopw [12, 13] (fun s12 s13 wx => ∃ (k nq : Nat), s13 = .int .i64 k ∧ k ≤ m ∧ s12 = .bool (hasG (js.take k) g) ∧ wx = w3.drewN nq) (fun _ s13 _ => m - (intOf s13).toNat)
                  case atStart => exact ⟨0, 0, rfl, by omega, rfl, rfl⟩
                  case round =>
                    obtain ⟨k, nq, rfl, hk, rfl, rfl⟩ := hrel
                    by_cases hkm : k < m
                    · obtain ⟨bx, ox, rfl, px⟩ := hl1.get (k := k) (by rw [HM.out]; exact hkm)
                      have htk := hasG_take js g k (by rw [HM.out]; exact hkm)
                      obtain ⟨y, hy⟩ : ∃ y : Int, (js[k]'(by rw [HM.out]; exact hkm)).1 = y := ⟨_, rfl⟩
                      rw [hy] at px htk
                      have HTK := Lib.hid htk
                      obtain ⟨I, hI⟩ : ∃ I, hasG (js.take k) g = I := ⟨_, rfl⟩
                      rw [hI] at htk ⊢
                      have hk1 : (0 : Int) ≤ k := by omega
                      have hk2 : (k : Int) < m := by omega
                      have HK := Lib.hid hkm
                      obtain ⟨R, hR⟩ : ∃ R, (y == g) = R := ⟨_, rfl⟩
                      rw [hR] at htk
                      have HTK2 := Lib.hid htk
                      clear hy hI htk HTK
                      cases I
                      · go_wp2_with fail
                        go_quiet (fail)
                        go_wp2_with fail
                        go_roundw
                        case rel => exact ⟨k + 1, _, by go_num, HK.out, by rw [HTK2.out, Bool.false_or], rfl⟩
                        case measure => have := HK.out; simp [intOf]; omega
                      · go_wp2_with fail
                        go_quiet (fail)
                        go_wp2_with fail
                        go_roundw
                        case rel => exact ⟨k + 1, _, by go_num, HK.out, by rw [HTK2.out, Bool.true_or], rfl⟩
                        case measure => have := HK.out; simp [intOf]; omega
                    · obtain rfl : k = m := by omega
                      rw [List.take_of_length_le (by rw [HM.out]; omega), HE.out]
                      have hst2 := hst1.keep ((Ch.refl [] w3).drewN nq)
                      clear hst1 hkm hl1
                      have hlen := rootsLeft b _ js _ hst2.pr
                      rw [HM.out] at hlen
                      have nn : ((k : Int) != (k : Int)) = false := by simp
                      go_wp2_with fail
                      refine hlen.mono ?_; rintro e w9 ⟨rfl, rfl⟩
                      clear hlen
                      go_wp2_with fail
                      go_roundw
                      case rel => exact ⟨i + 1, v, js, al, cl, by rw [HM.out], by go_num, by omega, by omega, by rw [HM.out]; omega, hst2⟩
                      case measure => simp [intOf]; omega
                · have hA := rootsAddNot b v js g wr hst.pr (by omega) hh
                  have hE : hasG js g = false := by
                    cases h : hasG js g with
                    | false => rfl
                    | true => exact absurd ((hasG_iff js g).1 h) hh
                  go_wp2_with fail
                  refine hA.mono ?_; rintro e w3 ⟨rfl, v3, h3, c3, f3⟩
                  have hl1 : LsJ w3 (b :: v3.ownBlock.toList) al cl js := hst.lj.step c3 (fun k hk => .inl hk) (by
                    intro k hk
                    simp only [List.mem_cons] at hk ⊢
                    rcases hk with rfl | hk
                    · exact .inl (.inl rfl)
                    · rcases f3 with h | h
                      · exact .inl (.inr (by rw [← h]; exact hk))
                      · exact .inr (h k (by simpa using hk)))
                  have ch3 : Ch [] w w3 := hst.ch.transT c3 (by
                    intro k hk
                    simp only [List.mem_cons] at hk
                    rcases hk with rfl | hk
                    · exact .inr hst.lb
                    · exact .inr (by have := hst.lv k (by simpa using hk); have := hst.lb; omega))
                  have hst1 : w.heap.size ≤ b ∧ (∀ k, v3.ownBlock = some k → b < k) := ⟨hst.lb, by
                    intro k hk
                    rcases f3 with h | h
                    · exact hst.lv k (by rw [← h]; exact hk)
                    · have := h k hk; have := hst.pr.1.lt; omega⟩
                  have HE := Lib.hid hE
                  have dd := HDD.out w3 ch3
                  obtain ⟨m, hm⟩ : ∃ m, js.length = m := ⟨_, rfl⟩
                  rw [hm] at hjl ⊢
                  have HM := Lib.hid hm
                  clear hA hE c3 hst hj k1 t1 t3 d0 d1 r2 hh hm
                  go_wp2_with fail
                  go_loopw [12, 13] (fun s12 s13 wx => ∃ (k nq : Nat), s13 = .int .i64 k ∧ k ≤ m ∧ s12 = .bool (hasG (js.take k) g) ∧ wx = w3.drewN nq) (fun _ s13 _ => m - (intOf s13).toNat)
                  case atStart => exact ⟨0, 0, rfl, by omega, rfl, rfl⟩
                  case round =>
                    obtain ⟨k, nq, rfl, hk, rfl, rfl⟩ := hrel
                    by_cases hkm : k < m
                    · obtain ⟨bx, ox, rfl, px⟩ := hl1.get (k := k) (by rw [HM.out]; exact hkm)
                      have htk := hasG_take js g k (by rw [HM.out]; exact hkm)
                      obtain ⟨y, hy⟩ : ∃ y : Int, (js[k]'(by rw [HM.out]; exact hkm)).1 = y := ⟨_, rfl⟩
                      rw [hy] at px htk
                      have HTK := Lib.hid htk
                      obtain ⟨I, hI⟩ : ∃ I, hasG (js.take k) g = I := ⟨_, rfl⟩
                      rw [hI] at htk ⊢
                      have hk1 : (0 : Int) ≤ k := by omega
                      have hk2 : (k : Int) < m := by omega
                      have HK := Lib.hid hkm
                      obtain ⟨R, hR⟩ : ∃ R, (y == g) = R := ⟨_, rfl⟩
                      rw [hR] at htk
                      have HTK2 := Lib.hid htk
                      clear hy hI htk HTK
                      cases I
                      · go_wp2_with fail
                        go_quiet (fail)
                        go_wp2_with fail
                        go_roundw
                        case rel => exact ⟨k + 1, _, by go_num, HK.out, by rw [HTK2.out, Bool.false_or], rfl⟩
                        case measure => have := HK.out; simp [intOf]; omega
                      · go_wp2_with fail
                        go_quiet (fail)
                        go_wp2_with fail
                        go_roundw
                        case rel => exact ⟨k + 1, _, by go_num, HK.out, by rw [HTK2.out, Bool.true_or], rfl⟩
                        case measure => have := HK.out; simp [intOf]; omega
                    · obtain rfl : k = m := by omega
                      rw [List.take_of_length_le (by rw [HM.out]; omega), HE.out]
                      go_upto_region 25 with fail
                      obtain ⟨L, hL⟩ : ∃ L : World → Prop, ∀ w', L w' ↔ (w'.cell? ⟨ba, oa + i * 2 + 1, none⟩ = some (.int .i64 g)) := ⟨_, fun _ => Iff.rfl⟩
                      have hS1 : ∀ x : { w' : World // L w' }, x.1.cell? ⟨ba, oa + i * 2 + 1, none⟩ = some (.int .i64 g) := fun x => ((hL _).1 x.2)
                      have hLk : ∀ w', Ch [] w w' → L w' := fun w' hc => (hL _).2 (HDD.out w' hc)
                      have hSA : Nonempty { w' : World // L w' } := ⟨⟨_, hLk _ ch3⟩⟩
                      have HLk := Lib.hid hLk
                      clear hL hLk dd
                      refine wp_region_plan (Cls L) (List.range 12) (.reads [1, 3, 4, 5, 6, 7, 8] (.alt 0 (.alt 2 (.only 9 (.only 10 (.reads [11] .done))) (.alt 9 (.only 2 (.only 10 (.reads [11] .done))) .done)) (.alt 9 (.only 0 (.only 2 (.only 10 (.reads [11] .done)))) .done))) (by kernel_rfl) (by kernel_rfl) (fun _ _ _ _ _ h => h) ?_
                      simp only [Plan.reads, Plan.only, List.foldr_cons, List.foldr_nil]
                      obtain ⟨W0, hW0⟩ : ∃ W0, (w3.drewN nq).drewN 1 = W0 := ⟨_, rfl⟩
                      have cc : Ch [] w3 W0 := by rw [← hW0]; exact ((Ch.refl [] w3).drewN nq).drewN 1
                      rw [hW0]
                      clear hW0
                      iterate 7 (refine wpPlan_readS (HLk.out _ (ch3.trans cc)) (fun K hK => ?_); simp only [List.getD_cons_zero, List.getD_cons_succ]; go_simp; refine hK _ ?_; clear hK K)
                      refine wpPlan_altU rfl (fun K hK => ?_) ?_; simp only [List.getD_cons_zero, List.getD_cons_succ]
                      · go_simp
                        obtain ⟨k0, hk0⟩ : ∃ k, (W0).heap.size = k := ⟨_, rfl⟩
                        have HK0 := Lib.hid hk0
                        obtain ⟨W1, hWn⟩ : ∃ X, (W0).alloc (.cells #[] 41) = X := ⟨_, rfl⟩
                        have HS0 := Lib.hid (show W1.heap.size = k0 + 1 by rw [← hWn, ← hk0]; simp)
                        have cn : Ch [] w3 W1 := by rw [← hWn]; exact cc.alloc _
                        have o0 : OwJ W1 w3.heap.size (.slice (some ⟨k0, 0, none⟩) 0 0) [] := by rw [← hWn, ← hk0]; exact ⟨Own.empty _ _ _, by simp [Value.ownBlock]; exact cc.size⟩
                        first | rw [hWn] | (rw [show (W0).alloc _ = W1 from hWn])
                        first | (rw [hk0]; clear hk0) | (rw [hk9]; clear hk9) | skip
                        refine hK _ _ (fun _ => Cls.mk (HLk.out _ (ch3.trans cn))) ?_
                        clear hK K cc
                        have hWn2 := Lib.hid hWn
                        clear hWn
                        have cc := cn
                        clear cn
                        refine wpPlan_altU rfl (fun K hK => ?_) ?_; simp only [List.getD_cons_zero, List.getD_cons_succ]
                        · have hsrc2 := (hl1.keep cc (by simp)).src
                          rw [HM.out] at hsrc2
                          refine wp_appJ (.tmp 117) (.tmp 118) rfl w3.heap.size (.slice (some ⟨k0, 0, none⟩) 0 0) [] rfl o0 cc.size (.slice al k cl) js rfl (by rw [HM.out]; exact hsrc2) (by have := HM.out; simp; omega) (fun v4 w4 o4 c4 n4 => ?_)
                          have o4 : OwJ w4 w3.heap.size v4 js := by simpa using o4
                          have cc4 : Ch [] w3 w4 := cc.transT c4 (fun k hk => .inr (o0.2 k (by simpa using hk)))
                          refine hK _ _ (fun _ => Cls.mk (HLk.out _ (ch3.trans cc4))) ?_
                          clear hK K cc hsrc2
                          have cc := cc4
                          clear cc4
                          refine wpPlan_onlyU rfl (fun K hK => ?_); simp only [List.getD_cons_zero, List.getD_cons_succ]
                          go_simp
                          obtain ⟨k9, hk9⟩ : ∃ k, (w4).heap.size = k := ⟨_, rfl⟩
                          have HK9 := Lib.hid hk9
                          obtain ⟨W2, hWn⟩ : ∃ X, (w4).alloc (.cells #[.int .i64 g, .int .i64 0, .int .i64 16] 41) = X := ⟨_, rfl⟩
                          have HS9 := Lib.hid (show W2.heap.size = k9 + 1 by rw [← hWn, ← hk9]; simp)
                          have cn : Ch [] w3 W2 := by rw [← hWn]; exact cc.alloc _
                          have b9 : Blk W2 k9 #[.int .i64 g, .int .i64 0, .int .i64 16] 41 := by rw [← hWn, ← hk9]; exact Blk.new _ _ _
                          first | rw [hWn] | (rw [show (w4).alloc _ = W2 from hWn])
                          first | (rw [hk0]; clear hk0) | (rw [hk9]; clear hk9) | skip
                          refine hK _ _ (fun _ => Cls.mk (HLk.out _ (ch3.trans cn))) ?_
                          clear hK K cc
                          have hWn2 := Lib.hid hWn
                          clear hWn
                          have cc := cn
                          clear cn
                          have o4 : OwJ W2 w3.heap.size v4 js := by rw [← hWn2.out]; exact ⟨o4.1.alloc _, o4.2⟩
                          refine wpPlan_onlyU rfl (fun K hK => ?_); simp only [List.getD_cons_zero, List.getD_cons_succ]
                          have hs9 := (lsJ_one b9).src
                          refine wp_appJ (.tmp 119) (.tmp 126) rfl w3.heap.size v4 js rfl o4 cc.size (.slice (some ⟨k9, 0, none⟩) 1 1) [(g, 0, 16)] rfl hs9 (by have := HM.out; simp; omega) (fun v10 w10 o10 c10 _ => ?_)
                          have cc10 : Ch [] w3 w10 := cc.transT c10 (fun k hk => .inr (o4.2 k (by simpa using hk)))
                          refine hK _ _ (fun _ => Cls.mk (HLk.out _ (ch3.trans cc10))) ?_
                          clear hK K c10 hs9
                          refine wpPlan_readS (HLk.out _ (ch3.trans cc10)) (fun K hK => ?_); simp only [List.getD_cons_zero, List.getD_cons_succ]; go_simp; refine hK _ ?_; clear hK K
                          refine wpPlan_done ?_
                          have hpv := h3.2.lt
                          have hpb := h3.1.lt
                          obtain ⟨a5, c5, e5, l5⟩ := o10.lsJ (S := b :: v3.ownBlock.toList) (by
                            intro k hk
                            simp only [List.mem_cons] at hk
                            rcases hk with rfl | hk
                            · exact hpb
                            · exact hpv k (by simpa using hk))
                          have hst2 : JSt w w10 b v3 (js ++ [(g, 0, 16)]) a5 c5 := ⟨h3.keep cc10 (by simp) (by simp), l5, ch3.trans cc10, hst1.1, hst1.2⟩
                          have hlen5 : (js ++ [((g, 0, 16) : Job)]).length = k + 1 := by simp [HM.out]
                          rw [hlen5] at e5
                          subst e5
                          have HM5 := Lib.hid hlen5
                          clear hlen5 o10 cc10 o4 cc hpv hpb l5
                          have hlen := rootsLeft b _ _ _ hst2.pr
                          rw [HM5.out] at hlen
                          have nn : (((k + 1 : Nat) : Int) != ((k + 1 : Nat) : Int)) = false := by simp
                          go_wp2_with fail
                          refine hlen.mono ?_; rintro e w9 ⟨rfl, rfl⟩
                          clear hlen
                          go_wp2_with fail
                          go_roundw
                          case rel => exact ⟨i + 1, v3, _, a5, c5, by rw [HM5.out], by go_num, by omega, by omega, by rw [HM5.out]; omega, hst2⟩
                          case measure => simp [intOf]; omega
                        · refine wpPlan_altU rfl (fun K hK => ?_) (by simp [wpPlan]); simp only [List.getD_cons_zero, List.getD_cons_succ]
                          go_simp
                          obtain ⟨k9, hk9⟩ : ∃ k, (W1).heap.size = k := ⟨_, rfl⟩
                          have HK9 := Lib.hid hk9
                          obtain ⟨W2, hWn⟩ : ∃ X, (W1).alloc (.cells #[.int .i64 g, .int .i64 0, .int .i64 16] 41) = X := ⟨_, rfl⟩
                          have HS9 := Lib.hid (show W2.heap.size = k9 + 1 by rw [← hWn, ← hk9]; simp)
                          have cn : Ch [] w3 W2 := by rw [← hWn]; exact cc.alloc _
                          have b9 : Blk W2 k9 #[.int .i64 g, .int .i64 0, .int .i64 16] 41 := by rw [← hWn, ← hk9]; exact Blk.new _ _ _
                          first | rw [hWn] | (rw [show (W1).alloc _ = W2 from hWn])
                          first | (rw [hk0]; clear hk0) | (rw [hk9]; clear hk9) | skip
                          refine hK _ _ (fun _ => Cls.mk (HLk.out _ (ch3.trans cn))) ?_
                          clear hK K cc
                          have hWn2 := Lib.hid hWn
                          clear hWn
                          have cc := cn
                          clear cn
                          have o0 : OwJ W2 w3.heap.size (.slice (some ⟨k0, 0, none⟩) 0 0) [] := by rw [← hWn2.out]; exact ⟨o0.1.alloc _, o0.2⟩
                          refine wpPlan_onlyU rfl (fun K hK => ?_); simp only [List.getD_cons_zero, List.getD_cons_succ]
                          have hsrc2 := (hl1.keep cc (by simp)).src
                          rw [HM.out] at hsrc2
                          refine wp_appJ (.tmp 117) (.tmp 118) rfl w3.heap.size (.slice (some ⟨k0, 0, none⟩) 0 0) [] rfl o0 cc.size (.slice al k cl) js rfl (by rw [HM.out]; exact hsrc2) (by have := HM.out; simp; omega) (fun v4 w4 o4 c4 n4 => ?_)
                          have o4 : OwJ w4 w3.heap.size v4 js := by simpa using o4
                          have cc4 : Ch [] w3 w4 := cc.transT c4 (fun k hk => .inr (o0.2 k (by simpa using hk)))
                          have b9 := b9.keep c4 (by have := HS0.out; have := HS9.out; have := HK0.out; have := HK9.out; simp [Value.ownBlock]; omega)
                          refine hK _ _ (fun _ => Cls.mk (HLk.out _ (ch3.trans cc4))) ?_
                          clear hK K cc hsrc2
                          have cc := cc4
                          clear cc4
                          refine wpPlan_onlyU rfl (fun K hK => ?_); simp only [List.getD_cons_zero, List.getD_cons_succ]
                          have hs9 := (lsJ_one b9).src
                          refine wp_appJ (.tmp 119) (.tmp 126) rfl w3.heap.size v4 js rfl o4 cc.size (.slice (some ⟨k9, 0, none⟩) 1 1) [(g, 0, 16)] rfl hs9 (by have := HM.out; simp; omega) (fun v10 w10 o10 c10 _ => ?_)
                          have cc10 : Ch [] w3 w10 := cc.transT c10 (fun k hk => .inr (o4.2 k (by simpa using hk)))
                          refine hK _ _ (fun _ => Cls.mk (HLk.out _ (ch3.trans cc10))) ?_
                          clear hK K c10 hs9
                          refine wpPlan_readS (HLk.out _ (ch3.trans cc10)) (fun K hK => ?_); simp only [List.getD_cons_zero, List.getD_cons_succ]; go_simp; refine hK _ ?_; clear hK K
                          refine wpPlan_done ?_
                          have hpv := h3.2.lt
                          have hpb := h3.1.lt
                          obtain ⟨a5, c5, e5, l5⟩ := o10.lsJ (S := b :: v3.ownBlock.toList) (by
                            intro k hk
                            simp only [List.mem_cons] at hk
                            rcases hk with rfl | hk
                            · exact hpb
                            · exact hpv k (by simpa using hk))
                          have hst2 : JSt w w10 b v3 (js ++ [(g, 0, 16)]) a5 c5 := ⟨h3.keep cc10 (by simp) (by simp), l5, ch3.trans cc10, hst1.1, hst1.2⟩
                          have hlen5 : (js ++ [((g, 0, 16) : Job)]).length = k + 1 := by simp [HM.out]
                          rw [hlen5] at e5
                          subst e5
                          have HM5 := Lib.hid hlen5
                          clear hlen5 o10 cc10 o4 cc hpv hpb l5
                          have hlen := rootsLeft b _ _ _ hst2.pr
                          rw [HM5.out] at hlen
                          have nn : (((k + 1 : Nat) : Int) != ((k + 1 : Nat) : Int)) = false := by simp
                          go_wp2_with fail
                          refine hlen.mono ?_; rintro e w9 ⟨rfl, rfl⟩
                          clear hlen
                          go_wp2_with fail
                          go_roundw
                          case rel => exact ⟨i + 1, v3, _, a5, c5, by rw [HM5.out], by go_num, by omega, by omega, by rw [HM5.out]; omega, hst2⟩
                          case measure => simp [intOf]; omega
                      · refine wpPlan_altU rfl (fun K hK => ?_) (by simp [wpPlan]); simp only [List.getD_cons_zero, List.getD_cons_succ]
                        go_simp
                        obtain ⟨k9, hk9⟩ : ∃ k, (W0).heap.size = k := ⟨_, rfl⟩
                        have HK9 := Lib.hid hk9
                        obtain ⟨W1, hWn⟩ : ∃ X, (W0).alloc (.cells #[.int .i64 g, .int .i64 0, .int .i64 16] 41) = X := ⟨_, rfl⟩
                        have HS9 := Lib.hid (show W1.heap.size = k9 + 1 by rw [← hWn, ← hk9]; simp)
                        have cn : Ch [] w3 W1 := by rw [← hWn]; exact cc.alloc _
                        have b9 : Blk W1 k9 #[.int .i64 g, .int .i64 0, .int .i64 16] 41 := by rw [← hWn, ← hk9]; exact Blk.new _ _ _
                        first | rw [hWn] | (rw [show (W0).alloc _ = W1 from hWn])
                        first | (rw [hk0]; clear hk0) | (rw [hk9]; clear hk9) | skip
                        refine hK _ _ (fun _ => Cls.mk (HLk.out _ (ch3.trans cn))) ?_
                        clear hK K cc
                        have hWn2 := Lib.hid hWn
                        clear hWn
                        have cc := cn
                        clear cn
                        refine wpPlan_onlyU rfl (fun K hK => ?_); simp only [List.getD_cons_zero, List.getD_cons_succ]
                        go_simp
                        obtain ⟨k0, hk0⟩ : ∃ k, (W1).heap.size = k := ⟨_, rfl⟩
                        have HK0 := Lib.hid hk0
                        obtain ⟨W2, hWn⟩ : ∃ X, (W1).alloc (.cells #[] 41) = X := ⟨_, rfl⟩
                        have HS0 := Lib.hid (show W2.heap.size = k0 + 1 by rw [← hWn, ← hk0]; simp)
                        have cn : Ch [] w3 W2 := by rw [← hWn]; exact cc.alloc _
                        have o0 : OwJ W2 w3.heap.size (.slice (some ⟨k0, 0, none⟩) 0 0) [] := by rw [← hWn, ← hk0]; exact ⟨Own.empty _ _ _, by simp [Value.ownBlock]; exact cc.size⟩
                        first | rw [hWn] | (rw [show (W1).alloc _ = W2 from hWn])
                        first | (rw [hk0]; clear hk0) | (rw [hk9]; clear hk9) | skip
                        refine hK _ _ (fun _ => Cls.mk (HLk.out _ (ch3.trans cn))) ?_
                        clear hK K cc
                        have hWn2 := Lib.hid hWn
                        clear hWn
                        have cc := cn
                        clear cn
                        have b9 : Blk W2 k9 #[.int .i64 g, .int .i64 0, .int .i64 16] 41 := by rw [← hWn2.out]; exact b9.alloc _
                        refine wpPlan_onlyU rfl (fun K hK => ?_); simp only [List.getD_cons_zero, List.getD_cons_succ]
                        have hsrc2 := (hl1.keep cc (by simp)).src
                        rw [HM.out] at hsrc2
                        refine wp_appJ (.tmp 117) (.tmp 118) rfl w3.heap.size (.slice (some ⟨k0, 0, none⟩) 0 0) [] rfl o0 cc.size (.slice al k cl) js rfl (by rw [HM.out]; exact hsrc2) (by have := HM.out; simp; omega) (fun v4 w4 o4 c4 n4 => ?_)
                        have o4 : OwJ w4 w3.heap.size v4 js := by simpa using o4
                        have cc4 : Ch [] w3 w4 := cc.transT c4 (fun k hk => .inr (o0.2 k (by simpa using hk)))
                        have b9 := b9.keep c4 (by have := HS0.out; have := HS9.out; have := HK0.out; have := HK9.out; simp [Value.ownBlock]; omega)
                        refine hK _ _ (fun _ => Cls.mk (HLk.out _ (ch3.trans cc4))) ?_
                        clear hK K cc hsrc2
                        have cc := cc4
                        clear cc4
                        refine wpPlan_onlyU rfl (fun K hK => ?_); simp only [List.getD_cons_zero, List.getD_cons_succ]
                        have hs9 := (lsJ_one b9).src
                        refine wp_appJ (.tmp 119) (.tmp 126) rfl w3.heap.size v4 js rfl o4 cc.size (.slice (some ⟨k9, 0, none⟩) 1 1) [(g, 0, 16)] rfl hs9 (by have := HM.out; simp; omega) (fun v10 w10 o10 c10 _ => ?_)
                        have cc10 : Ch [] w3 w10 := cc.transT c10 (fun k hk => .inr (o4.2 k (by simpa using hk)))
                        refine hK _ _ (fun _ => Cls.mk (HLk.out _ (ch3.trans cc10))) ?_
                        clear hK K c10 hs9
                        refine wpPlan_readS (HLk.out _ (ch3.trans cc10)) (fun K hK => ?_); simp only [List.getD_cons_zero, List.getD_cons_succ]; go_simp; refine hK _ ?_; clear hK K
                        refine wpPlan_done ?_
                        have hpv := h3.2.lt
                        have hpb := h3.1.lt
                        obtain ⟨a5, c5, e5, l5⟩ := o10.lsJ (S := b :: v3.ownBlock.toList) (by
                          intro k hk
                          simp only [List.mem_cons] at hk
                          rcases hk with rfl | hk
                          · exact hpb
                          · exact hpv k (by simpa using hk))
                        have hst2 : JSt w w10 b v3 (js ++ [(g, 0, 16)]) a5 c5 := ⟨h3.keep cc10 (by simp) (by simp), l5, ch3.trans cc10, hst1.1, hst1.2⟩
                        have hlen5 : (js ++ [((g, 0, 16) : Job)]).length = k + 1 := by simp [HM.out]
                        rw [hlen5] at e5
                        subst e5
                        have HM5 := Lib.hid hlen5
                        clear hlen5 o10 cc10 o4 cc hpv hpb l5
                        have hlen := rootsLeft b _ _ _ hst2.pr
                        rw [HM5.out] at hlen
                        have nn : (((k + 1 : Nat) : Int) != ((k + 1 : Nat) : Int)) = false := by simp
                        go_wp2_with fail
                        refine hlen.mono ?_; rintro e w9 ⟨rfl, rfl⟩
                        clear hlen
                        go_wp2_with fail
                        go_roundw
                        case rel => exact ⟨i + 1, v3, _, a5, c5, by rw [HM5.out], by go_num, by omega, by omega, by rw [HM5.out]; omega, hst2⟩
                        case measure => simp [intOf]; omega
          · have t1 : decide ((i : Int) < len2) = true := decide_eq_true (by omega)
            have t3 : decide ((i : Int) < 60) = false := decide_eq_false (by omega)
            go_wp2_with fail
            refine (told21 _).mono ?_; rintro e w3 ⟨rfl, c3⟩
            go_wp2
            go_ret
            exact ⟨rfl, (hst.ch.trans c3).below (Nat.le_refl _) (by simp)⟩
        · have t1 : decide ((i : Int) < len2) = false := decide_eq_false (by omega)
          go_wp2_with fail
          refine (told21 _).mono ?_; rintro e w3 ⟨rfl, c3⟩
          go_wp2
          go_ret
          exact ⟨rfl, (hst.ch.trans c3).below (Nat.le_refl _) (by simp)⟩
    · obtain ⟨n1, hn1⟩ : ∃ n, xs1.length = n := ⟨_, rfl⟩
      rw [hn1] at hx ⊢
      have g1 : ¬ (100 : Int) < a0 := by omega
      have g2 : (20 : Int) < n1 := by omega
      clear r1 r2 t2 hg hn1 m1
      go_enter Try.func10, Try.ntmps10
      go_wp2_with fail
      refine (told21 _).mono ?_; rintro e w3 ⟨rfl, c3⟩
      go_wp2
      go_ret
      exact ⟨rfl, c3.below (Nat.le_refl _) (by simp)⟩
  · have g1 : (100 : Int) < a0 := by omega
    clear r1 r2 t2 hg
    go_enter Try.func10, Try.ntmps10
    go_wp2_with fail
    refine (told21 _).mono ?_; rintro e w3 ⟨rfl, c3⟩
    go_wp2
    go_ret
    exact ⟨rfl, c3.below (Nat.le_refl _) (by simp)⟩
end Go.Proofs.Ytebibdoekcophaa
