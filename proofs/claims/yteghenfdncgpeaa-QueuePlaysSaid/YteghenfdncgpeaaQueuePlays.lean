/-
  The walk of the statement QueuePlays: the law returns true at every input. Conditions: none beyond how the argument is read.
-/
import Derived.Test.YteghenfdncgpeaaQueueTold
import Derived.Test.YteghenfdncgpeaaQueueDel
import Derived.Test.YteghenfdncgpeaaRefQueue
import Derived.Test.YteghenfdncgpeaaOut
import Derived.Test.YteghenfdncgpeaaArgs
import Derived.Test.YteghenfdncgpeaaInts
import Derived.Test.YteghenfdncgpeaaPlan
import Derived.Deep.CutBlock
import Derived.Deep.CutRange
import Derived.Says
namespace Go.Proofs.Yteghenfdncgpeaa
open Go.RowKit
/-- How the law brings an op's kind into its range. -/
theorem kind_eq (x : Int) (n : Nat) (hn : 0 < n) (hl : n < 1000) : ∃ j : Nat, (wrap64 (x.tmod n + n)).tmod n = (j : Int) ∧ j < n := by
  have h1 := Int.tmod_lt_of_pos x (show (0 : Int) < n by omega)
  have h2 : (x.tmod n).natAbs < n := by
    rw [Int.natAbs_tmod]
    exact Nat.mod_lt _ (by simpa using hn)
  have h3 : wrap64 (x.tmod n + n) = x.tmod n + n := IntWalk.wrap64_in _ (by omega)
  rw [h3, Int.tmod_eq_emod_of_nonneg (by omega)]
  have h4 := Int.emod_nonneg (x.tmod n + n) (show (n : Int) ≠ 0 by omega)
  have h5 := Int.emod_lt_of_pos (x.tmod n + n) (show (0 : Int) < n by omega)
  exact ⟨((x.tmod n + n) % n).toNat, by omega, by omega⟩
theorem OwI.put {w : World} {B g off n c k : Nat} {ys : List Int} (h : OwI w B (.slice (some ⟨g, off, none⟩) n c) ys) (hk : k < ys.length) (x : Int) : OwI (w.setCell ⟨g, off + k, none⟩ (.int .i64 x)) B (.slice (some ⟨g, off, none⟩) n c) (ys.set k x) := by
  refine ⟨⟨by simp, ?_⟩, h.2⟩
  rcases h.1.2 with ⟨he, _⟩ | ⟨g', off', cap, cur, he, hg, h1, h2, h3, h4⟩
  · cases he
  · simp only [Value.slice.injEq, Option.some.injEq, Addr.mk.injEq, and_true] at he
    obtain ⟨⟨rfl, rfl⟩, rfl, rfl⟩ := he
    rw [List.length_set]
    refine .inr ⟨g, off, c, _, rfl, hg.set (off + k) (.int .i64 x), h1, h2, by simpa using h3, fun j u hu => ?_⟩
    rw [Array.getElem?_setIfInBounds]
    rw [List.getElem?_map, List.getElem?_set] at hu
    by_cases hj : k = j
    · subst hj
      rw [if_pos rfl, if_pos (by omega)]
      simp [hk] at hu
      rw [hu]
    · rw [if_neg hj] at hu
      rw [if_neg (by omega)]
      exact h4 j u (by rw [List.getElem?_map]; exact hu)
/-- The queue b beside the document's r: the list X; nothing of w has turned. -/
structure QPSt (w wr : World) (b r : Nat) (v : Value) (X : List Int) : Prop where
  qa : QAt wr b v X
  rq : RQ wr r (r :: b :: v.ownBlock.toList) X
  ch : Ch [] w wr
  hv : ∀ k, v.ownBlock = some k → b < k
  vr : v.ownBlock ≠ some r
  rb : r ≠ b
  lo : w.heap.size ≤ b
  lr : w.heap.size ≤ r
section
variable {w wr w2 w3 : World} {b r : Nat} {v v2 : Value} {X Y : List Int}
theorem QPSt.still (h : QPSt w wr b r v X) (hc : Ch [] wr w2) : QPSt w w2 b r v X :=
  ⟨h.qa.keep hc (by simp) (by simp), h.rq.still hc, h.ch.trans hc, h.hv, h.vr, h.rb, h.lo, h.lr⟩
theorem QPSt.hi (h : QPSt w wr b r v X) : ∀ k ∈ r :: b :: v.ownBlock.toList, k < wr.heap.size := by
  intro k hk
  simp only [List.mem_cons] at hk
  rcases hk with rfl | rfl | hk
  · exact h.rq.lt
  · exact h.qa.1.lt
  · exact h.qa.2.lt k (by simpa using hk)
theorem QPSt.mid (h : QPSt w wr b r v X) (hc : Ch (b :: v.ownBlock.toList) wr w2) (hn : v2.ownBlock = v.ownBlock ∨ ∀ k, v2.ownBlock = some k → wr.heap.size ≤ k) :
    RQ w2 r (r :: b :: v2.ownBlock.toList) X ∧ Ch [] w w2 ∧ v2.ownBlock ≠ some r ∧ (∀ k, v2.ownBlock = some k → b < k) := by
  have hvr := h.vr
  refine ⟨h.rq.step hc ?_ (fun k hk => .inl (List.mem_cons_of_mem _ hk)) ?_, h.ch.transT hc ?_, ?_, ?_⟩
  · simp only [List.mem_cons, not_or]
    exact ⟨h.rb, fun hm => h.vr (by simpa using hm)⟩
  · intro k hk
    simp only [List.mem_cons] at hk ⊢
    rcases hk with rfl | rfl | hk
    · exact .inl (.inl rfl)
    · exact .inl (.inr (.inl rfl))
    · rcases hn with h1 | h1
      · exact .inl (.inr (.inr (by rw [← h1]; exact hk)))
      · exact .inr (h1 k (by simpa using hk))
  · intro k hk
    simp only [List.mem_cons] at hk
    rcases hk with rfl | hk
    · exact .inr h.lo
    · exact .inr (by have := h.hv k (by simpa using hk); have := h.lo; omega)
  · intro hk
    rcases hn with h1 | h1
    · exact h.vr (by rw [← h1]; exact hk)
    · have := h1 r hk; have := h.rq.lt; omega
  · intro k hk
    rcases hn with h1 | h1
    · exact h.hv k (by rw [← h1]; exact hk)
    · have := h1 k hk; have := h.qa.1.lt; omega
/-- Behind the document's own step. -/
theorem QPSt.fin (h : QPSt w wr b r v X) (hq : QAt w2 b v2 Y) (hc : Ch [] w w2) (hvr : v2.ownBlock ≠ some r) (hv2 : ∀ k, v2.ownBlock = some k → b < k) (h3 : RQ w3 r (r :: b :: v2.ownBlock.toList) Y) (hc3 : Ch [r] w2 w3) : QPSt w w3 b r v2 Y :=
  ⟨hq.keep hc3 (by simp; exact fun e => h.rb e.symm) (by intro k hk; simp at hk; subst hk; exact hvr), h3, hc.transT hc3 (by intro k hk; simp at hk; subst hk; exact .inr h.lr), hv2, hvr, h.rb, h.lo, h.lr⟩
end
/-- How many Get tells. -/
theorem get_n (X : List Int) (p m : Int) : ∃ n : Nat, (n : Int) = min (min ((X.length : Int) / max p 1 + 1) (max m 0)) (min 128 (X.length : Int)) := by
  have h1 := Int.ediv_nonneg (a := (X.length : Int)) (b := max p 1) (by omega) (by omega)
  exact ⟨(min (min ((X.length : Int) / max p 1 + 1) (max m 0)) (min 128 (X.length : Int))).toNat, by omega⟩
theorem delAny (b : Nat) (v : Value) (X : List Int) (g : Int) (w : World) (h : QAt w b v X) (hb : ∀ k, v.ownBlock = some k → b < k) (hl : X.length ≤ 100000) :
    Calls Try.prog 37 #[.pointer (some ⟨b, 0, none⟩), .int .i64 g] w fun e w' =>
      e = .returned (.bool (X.contains g)) ∧ ∃ v', QAt w' b v' (X.erase g) ∧ v'.ownBlock = v.ownBlock ∧ Ch (b :: v.ownBlock.toList) w w' := by
  rcases split_first X g with hx | ⟨p, q, rfl, hx⟩
  · rw [show X.contains g = false by simpa using hx, List.erase_of_not_mem hx]
    refine (qDelNone b v X g w h hx hl).mono ?_
    rintro e w' ⟨rfl, rfl⟩
    exact ⟨rfl, v, h, rfl, Ch.refl _ _⟩
  · rw [show (p ++ g :: q).contains g = true by simp, show (p ++ g :: q).erase g = p ++ q by rw [List.erase_append_right _ hx, List.erase_cons_head]]
    exact qDelFound b v p q g w h hb hx hl
theorem outAny (S : List Nat) (a : Option Addr) (c : Nat) (X : List Int) (g : Int) (w : World) (h : LsF w S a c X) (hS : ∀ k ∈ S, k < w.heap.size) (hl : X.length ≤ 100000) :
    Calls Try.prog 36 #[.slice a X.length c, .int .i64 g] w fun e w' => ∃ a' c', e = .returned (.tuple #[.slice a' (X.erase g).length c', .bool (X.contains g)]) ∧ LsF w' S a' c' (X.erase g) ∧ Ch [] w w' := by
  rcases split_first X g with hx | ⟨p, q, rfl, hx⟩
  · rw [show X.contains g = false by simpa using hx, List.erase_of_not_mem hx]
    refine (outNone a X g X.length c w h.1 hx rfl (by omega)).mono ?_
    rintro e w' ⟨rfl, rfl⟩
    exact ⟨a, c, rfl, h, Ch.refl _ _⟩
  · rw [show (p ++ g :: q).contains g = true by simp, show (p ++ g :: q).erase g = p ++ q by rw [List.erase_append_right _ hx, List.erase_cons_head]]
    refine (outFound a p q g _ c w h.1 hx rfl h.2.1 (by omega)).mono ?_
    rintro e w' ⟨v', rfl, h1, h2⟩
    obtain ⟨a', c', rfl, hL⟩ := h1.lsF hS
    exact ⟨a', c', rfl, hL, h2⟩
set_option maxRecDepth 100000 in
set_option maxHeartbeats 40000000 in
theorem plays11_walk (a0 : Option Addr) (len cap : Nat) (F : Nat → Nat → Value) (w : World) (hr : RdS w a0 len 5 F) (ht : ∀ i, i < len → (∃ x, F i 0 = .int .i64 x) ∧ (∃ x, F i 1 = .int .i64 x) ∧ (∃ x, F i 2 = .int .i64 x) ∧ (∃ x, F i 3 = .int .i64 x) ∧ (∃ a cap xs, F i 4 = .slice a xs.length cap ∧ Rd w a xs ∧ xs.length ≤ maxLen)) (hm : len ≤ maxLen) :
    Calls Try.prog 9 #[.slice a0 len cap] w fun e w' => e = .returned (.bool true) ∧ Below w.heap.size w w' := by
  unfold maxLen at hm
  go_enter Try.func9, Try.ntmps9
  go_wp2_with fail
  refine (qNew _).mono ?_; rintro e w1 ⟨rfl, h1, c1⟩
  obtain ⟨b, hb⟩ : ∃ b, w.heap.size = b := ⟨_, rfl⟩
  rw [hb] at h1 ⊢
  have HB := Lib.hid (show w.heap.size ≤ b by omega)
  clear hb
  go_upto_region 5 with fail
  refine wp_named fun W1 hW1 => ?_
  obtain ⟨r, hrr⟩ : ∃ r, w1.heap.size = r := ⟨_, rfl⟩
  have hbr : b < r := by rw [← hrr]; exact h1.1.lt
  have cW : Ch [] w1 W1 := by rw [hW1]; exact (Ch.refl [] w1).alloc _
  have hst : QPSt w W1 b r (.slice none 0 0) [] := ⟨h1.keep cW (by simp) (by simp), ⟨none, 0, by rw [hW1, ← hrr]; exact Blk.new _ _ _, LsF.nil _ _⟩, c1.trans cW, by simp [Value.ownBlock], by simp [Value.ownBlock], by omega, HB.out, by have := HB.out; omega⟩
  rw [hrr]
  clear hW1 hrr hbr cW h1 c1 HB
  go_wp2_with fail
  go_loopw [5] (fun s5 wr => ∃ (i : Nat) (v : Value) (X : List Int), s5 = .int .i64 i ∧ i ≤ len ∧ i ≤ 60 ∧ X.length ≤ 40 * i ∧ QPSt w wr b r v X) (fun s5 _ => 60 - (intOf s5).toNat)
  case atStart => exact ⟨0, _, _, rfl, by omega, by omega, by simp, hst⟩
  case round =>
    clear hst
    obtain ⟨i, v, X, rfl, hil, hi60, hxl, hst⟩ := hrel
    by_cases hlt : i < len
    · by_cases h60 : i < 60
      · have t1 : decide ((i : Int) < len) = true := decide_eq_true (by omega)
        have t2 : decide ((i : Int) < 60) = true := decide_eq_true (by omega)
        obtain ⟨⟨x, hx⟩, ⟨p, hp⟩, ⟨m, hmm⟩, ⟨g, hg⟩, ⟨al, cl, Lx, hL, hLr, hLm⟩⟩ := ht i hlt
        obtain ⟨ba, oa, rfl, hcell⟩ := (hr.keep (by decide) hst.ch (by simp)).at hlt
        have d0 := hcell i hlt 0 (by decide)
        have d1 := hcell i hlt 1 (by decide)
        have d2 := hcell i hlt 2 (by decide)
        have d3 := hcell i hlt 3 (by decide)
        have d4 := hcell i hlt 4 (by decide)
        rw [hx, Nat.add_zero] at d0
        rw [hp] at d1
        rw [hmm] at d2
        rw [hg] at d3
        obtain ⟨n, hn⟩ : ∃ n, Lx.length = n := ⟨_, rfl⟩
        rw [hL, hn] at d4
        rw [hn] at hLm
        unfold maxLen at hLm
        have HN := Lib.hid hn
        clear hcell hx hp hmm hg hL hn
        go_upto_region 9 with fail
        obtain ⟨W1, hW1⟩ : ∃ W1, wr.alloc (.cells #[.int .i64 x, .int .i64 p, .int .i64 m, .int .i64 g, .slice al n cl] 55) = W1 := ⟨_, rfl⟩
        obtain ⟨q, hq⟩ : ∃ q, wr.heap.size = q := ⟨_, rfl⟩
        have bq : Blk W1 q #[.int .i64 x, .int .i64 p, .int .i64 m, .int .i64 g, .slice al n cl] 55 := by rw [← hW1, ← hq]; exact Blk.new _ _ _
        have hqS : ∀ k ∈ r :: b :: v.ownBlock.toList, k ≠ q := fun k hk => by have := hst.hi k hk; omega
        have hst1 : QPSt w W1 b r v X := hst.still (by rw [← hW1]; exact (Ch.refl [] wr).alloc _)
        have e0 := bq.cell 0
        have e1 := bq.cell 1
        have e2 := bq.cell 2
        have e3 := bq.cell 3
        have e4 := bq.cell 4
        rw [hW1, hq]
        have hqb : q ∉ b :: v.ownBlock.toList := fun hm => hqS q (List.mem_cons_of_mem _ hm) rfl
        have hqr : q ≠ r := fun e => hqS r (by simp) e.symm
        have HQB := Lib.hid hqb
        clear hW1 hq hst d0 d1 d2 d3 d4 hqS hqb
        by_cases hn40 : 40 < n
        · have n1 : (40 : Int) < n := by omega
          go_wp2_with fail
          refine (told11 _).mono ?_; rintro e w3 ⟨rfl, c3⟩
          go_wp2
          go_ret
          exact ⟨rfl, (hst1.ch.trans c3).below (Nat.le_refl _) (by simp)⟩
        · have n1 : ¬ (40 : Int) < n := by omega
          obtain ⟨j, hj, hjl⟩ := kind_eq x 5 (by decide) (by decide)
          replace hj : (wrap64 (x.tmod 5 + 5)).tmod 5 = (j : Int) := hj
          go_upto_block 2 with fail
          go_cut [7, 8, 9, 10, 39] from 40 to 107 (fun s7 s8 s9 s10 s39 wx => ∃ (v : Value) (X : List Int), X.length ≤ 40 * (i + 1) ∧ QPSt w wx b r v X)
          case first =>
            obtain ⟨J, hJ⟩ : ∃ J : Int, (j : Int) = J := ⟨_, rfl⟩
            try rw [hj]
            rw [hJ]
            have hJ0 : J = 0 ∨ J = 1 ∨ J = 2 ∨ J = 3 ∨ J = 4 := by omega
            clear hj hJ hjl t1 t2
            rcases hJ0 with rfl | rfl | rfl | rfl | rfl
            · -- what is put is laid anew; then it is overwritten
              have hW1lt : ∀ z ∈ r :: b :: v.ownBlock.toList, z < W1.heap.size := hst1.hi
              obtain ⟨B, hB⟩ : ∃ B, W1.heap.size = B := ⟨_, rfl⟩
              have HB := Lib.hid hB
              have o1 := OwI.empty W1 (B := B) (by omega)
              have src1 := (hLr.below ((hst1.ch.alloc (.cells #[] 3)).below (Nat.le_refl _) (by simp))).src Try.underlying25 cl
              rw [HN.out] at src1
              have e4' := fun o => (bq.alloc o).cell 4
              clear hB e4
              go_wp2_with (at_builtin; refine wpList_app rfl (.tmp 63) (.tmp 65) rfl B (.slice (some ⟨W1.heap.size, 0, none⟩) 0 0) [] rfl o1 (by have := HB.out; simp; omega) (.slice al n cl) Lx rfl (by rw [HN.out]; exact src1) (by have := HN.out; simp; omega) ?_)
              intro v6 w6 o6 c6 n6
              have cc6 : Ch [] W1 w6 := ((Ch.refl [] W1).alloc _).transT c6 (by intro z hz; simp [Value.ownBlock] at hz; have := HB.out; omega)
              obtain ⟨a6, d6, ev6, _, _, _⟩ := o6.form
              rw [HN.out] at ev6
              subst ev6
              have hst6 := hst1.still cc6
              have hP := qPut b v X (.slice a6 n d6) Lx w6 hst6.qa hst6.hv o6.src (by have := HN.out; omega)
              have HP := Lib.hid hP
              clear hP src1 o1 e4'
              go_wp2_with fail
              refine HP.out.mono ?_; rintro e w7 ⟨rfl, v7, q7, c7, n7⟩
              clear HP
              have hlt6 := o6.lt
              have n7' : v7.ownBlock = v.ownBlock ∨ ∀ z, v7.ownBlock = some z → W1.heap.size ≤ z := by
                rcases n7 with h | h
                · exact .inl h
                · exact .inr fun z hz => Nat.le_trans cc6.size (h z hz)
              have cc7 : Ch (b :: v.ownBlock.toList) W1 w7 := (cc6.mono (by simp)).trans c7
              have o7 : OwI w7 B (.slice a6 n d6) Lx := o6.keepLt c7 (by intro z hz; have := hW1lt z (List.mem_cons_of_mem _ hz); have := HB.out; omega)
              have hne7 : ∀ z, (Value.slice a6 n d6).ownBlock = some z → v7.ownBlock ≠ some z := by
                intro z hz he
                have h1 := hlt6 z hz
                have h2 := o6.2 z hz
                rcases n7 with h | h
                · rw [h] at he
                  have := hW1lt z (by simp [he])
                  have := HB.out
                  omega
                · have := h z he; omega
              have hbe : ∀ z, (Value.slice a6 n d6).ownBlock = some z → b ≠ z := by
                intro z hz he
                have h2 := o6.2 z hz
                have := hW1lt b (by simp)
                have := HB.out
                omega
              clear o6 n6 c6
              go_wp2_with fail
              go_loopw [8] (fun s8 wx => ∃ (k : Nat) (ys : List Int), s8 = .int .i64 k ∧ k ≤ n ∧ ys.length = n ∧ OwI wx B (.slice a6 n d6) ys ∧ QAt wx b v7 (X ++ Lx) ∧ Ch (b :: v.ownBlock.toList) W1 wx) (fun s8 _ => n - (intOf s8).toNat)
              case atStart => exact ⟨0, Lx, rfl, by omega, HN.out, o7, q7, cc7⟩
              case round =>
                clear o7 q7 cc7
                obtain ⟨k, ys, rfl, hk, hys, o7, q7, cc7⟩ := hrel
                by_cases hkn : k < n
                · obtain ⟨g6, off6, cap6, ev6, _, _, hcell6, hfro6⟩ := o7.1.cellsOf (by omega)
                  simp only [Value.slice.injEq, true_and] at ev6
                  obtain ⟨hga, _, hgc⟩ := ev6
                  subst hga
                  subst hgc
                  obtain ⟨y0, y1⟩ : ∃ y0 : Int, wr.cell? ⟨g6, off6 + k, none⟩ = some (.int .i64 y0) := ⟨_, hcell6 k _ (by rw [List.getElem?_map, List.getElem?_eq_getElem (by omega)]; rfl)⟩
                  have h96 : B ≤ g6 := o7.2 g6 rfl
                  have y2 := hfro6 (off6 + k)
                  have k0 : (0 : Int) ≤ k := by omega
                  have k1 : (k : Int) < n := by omega
                  have hput := o7.put (k := k) (by omega) (-7)
                  have cs : Ch [g6] wr (wr.setCell ⟨g6, off6 + k, none⟩ (.int .i64 (-7))) := (Ch.refl _ _).setCell (.inl (by simp)) _
                  have hq := q7.keep cs (by simp; exact hbe g6 rfl) (by intro z hz; simp at hz; subst hz; exact hne7 _ rfl)
                  have hcc := cc7.transT cs (by intro z hz; simp at hz; subst hz; exact .inr (by have := HB.out; omega))
                  have HYS := Lib.hid hys
                  clear hcell6 hfro6 hys o7 q7 cc7
                  go_wp2
                  go_roundw
                  case rel => exact ⟨k + 1, _, by go_num, by omega, by rw [List.length_set]; exact HYS.out, hput, hq, hcc⟩
                  case measure => simp [intOf]; omega
                · obtain rfl : k = n := by omega
                  clear hkn hne7 hbe o7 hys
                  obtain ⟨m1, m2, m3, m4⟩ := hst1.mid cc7 n7'
                  obtain ⟨ar, cr, xr1, xr2⟩ := id m1
                  obtain ⟨kx, hkx⟩ : ∃ kx, X.length = kx := ⟨_, rfl⟩
                  have bqr := bq.keep cc7 HQB.out
                  have hXLl : (X ++ Lx).length = kx + k := by rw [List.length_append, hkx, HN.out]
                  rw [hkx] at xr1 hxl
                  have HKX := Lib.hid hkx
                  have HXL := Lib.hid hXLl
                  clear hkx hXLl
                  go_upto_region 24 with fail
                  obtain ⟨L, hL⟩ : ∃ L : World → Prop, ∀ w', L w' ↔ (w'.cell? ⟨q, 4, none⟩ = some (.slice al k cl) ∧ w'.cell? ⟨r, 0, none⟩ = some (.slice ar kx cr)) := ⟨_, fun _ => Iff.rfl⟩
                  have hS1 : ∀ x : { w' : World // L w' }, x.1.cell? ⟨q, 4, none⟩ = some (.slice al k cl) := fun x => ((hL _).1 x.2).1
                  have hS2 : ∀ x : { w' : World // L w' }, x.1.cell? ⟨r, 0, none⟩ = some (.slice ar kx cr) := fun x => ((hL _).1 x.2).2
                  have hLk : ∀ w', Ch [] wr w' → L w' := fun w' hc => (hL _).2 ⟨(bqr.keep hc (by simp)).cell 4, (xr1.keep hc (by simp)).cell 0⟩
                  have hS0 := hLk _ ((Ch.refl [] wr).drewN 1)
                  have hSA : Nonempty { w' : World // L w' } := ⟨⟨_, hS0⟩⟩
                  have HLk := Lib.hid hLk
                  clear hL hLk
                  refine wp_region_plan (Cls L) (List.range 10) (.reads [0, 2, 3, 4, 5, 7, 8] (.only 1 (.only 6 (.only 9 (.pures [10, 11] (.only 12 .done)))))) (by kernel_rfl) (by kernel_rfl) (fun _ _ _ _ _ h => h) ?_
                  simp only [Plan.pures, Plan.reads, Plan.only, List.foldr_cons, List.foldr_nil]
                  obtain ⟨W0, hW0⟩ : ∃ W0, wr.drewN 1 = W0 := ⟨_, rfl⟩
                  have cc : Ch [] wr W0 := by rw [← hW0]; exact (Ch.refl [] wr).drewN 1
                  rw [hW0] at hS0 ⊢
                  clear hW0
                  iterate 7 (refine wpPlan_readS hS0 (fun K hK => ?_); simp only [List.getD_cons_zero, List.getD_cons_succ]; go_simp; refine hK _ ?_; clear hK K)
                  refine wpPlan_only (fun K hK => ?_)
                  simp only [List.getD_cons_zero, List.getD_cons_succ]
                  go_simp
                  obtain ⟨W2, hW2⟩ : ∃ W2, W0.alloc (.cells #[] 3) = W2 := ⟨_, rfl⟩
                  obtain ⟨k0, hk0⟩ : ∃ k0, W0.heap.size = k0 := ⟨_, rfl⟩
                  have cc2 : Ch [] wr W2 := by rw [← hW2]; exact cc.alloc _
                  have o0 : OwI W2 wr.heap.size (.slice (some ⟨k0, 0, none⟩) 0 0) [] := by rw [← hW2, ← hk0]; exact OwI.empty _ cc.size
                  rw [hW2, hk0]
                  refine hK _ _ (fun _ => Cls.mk (HLk.out _ cc2)) ?_
                  clear hK K hW2 hk0
                  refine wpPlan_onlyU rfl (fun K hK => ?_); simp only [List.getD_cons_zero, List.getD_cons_succ]
                  have hs1 := (xr2.rd.keep cc2 (by simp)).src Try.underlying25 cr
                  rw [HKX.out] at hs1
                  refine wp_app (.tmp 80) (.tmp 84) rfl wr.heap.size (.slice (some ⟨k0, 0, none⟩) 0 0) [] rfl o0 cc2.size (.slice ar kx cr) X rfl (by rw [HKX.out]; exact hs1) (by have := HKX.out; simp; omega) (fun v8 w8 o8 c8 n8 => ?_)
                  have o8 : OwI w8 wr.heap.size v8 X := by simpa using o8
                  have cc8 : Ch [] wr w8 := cc2.transT c8 (fun z hz => .inr (o0.2 z (by simpa using hz)))
                  refine hK _ _ (fun _ => Cls.mk (HLk.out _ cc8)) ?_
                  clear hK K hs1
                  refine wpPlan_onlyU rfl (fun K hK => ?_); simp only [List.getD_cons_zero, List.getD_cons_succ]
                  have hs2 := (hLr.keep (m2.trans cc8) (by simp)).src Try.underlying25 cl
                  rw [HN.out] at hs2
                  refine wp_app (.tmp 85) (.tmp 87) rfl wr.heap.size v8 X rfl o8 cc8.size (.slice al k cl) Lx rfl (by rw [HN.out]; exact hs2) (by have := HKX.out; have := HN.out; omega) (fun v9 w9 o9 c9 n9 => ?_)
                  have cc9 : Ch [] wr w9 := cc8.transT c9 (fun z hz => .inr (o8.2 z (by simpa using hz)))
                  refine hK _ _ (fun _ => Cls.mk (HLk.out _ cc9)) ?_
                  clear hK K hs2
                  have hpb := q7.1.lt
                  have hpv := q7.2.lt
                  have hpr := m1.lt
                  obtain ⟨a9, d9, ev9, l9⟩ := o9.lsF (S := r :: b :: v7.ownBlock.toList) (by
                    intro z hz
                    simp only [List.mem_cons] at hz
                    rcases hz with rfl | rfl | hz
                    · exact hpr
                    · exact hpb
                    · exact hpv z (by simpa using hz))
                  rw [HXL.out] at ev9
                  subst ev9
                  iterate 2 (refine wpPlan_pure (fun K hK => ?_); simp only [List.getD_cons_zero, List.getD_cons_succ]; go_simp; refine hK _ ?_; clear hK K)
                  have xr9 := xr1.keep cc9 (by simp)
                  have f9 := xr9.frozen 0
                  have p9 := xr9.cell 0
                  refine wpPlan_only (fun K hK => ?_)
                  simp only [List.getD_cons_zero, List.getD_cons_succ]
                  go_simp
                  refine hK _ _ (by simp) ?_
                  clear hK K f9 p9
                  refine wpPlan_done ?_
                  have cs : Ch [r] w9 (w9.setCell ⟨r, 0, none⟩ (.slice a9 (kx + k) d9)) := (Ch.refl [r] w9).setCell (.inl (by simp)) _
                  have hrq : RQ (w9.setCell ⟨r, 0, none⟩ (.slice a9 (kx + k) d9)) r (r :: b :: v7.ownBlock.toList) (X ++ Lx) := ⟨a9, d9, by rw [HXL.out]; exact xr9.set 0 _, l9.keep cs (by intro z hz; simp at hz; subst hz; simp)⟩
                  have hfin := hst1.fin (q7.keep cc9 (by simp) (by simp)) (m2.trans cc9) m3 m4 hrq cs
                  clear hS0 hS1 hS2 hSA hrq cs xr9 l9
                  go_wp2_with fail
                  go_meet
                  exact ⟨v7, X ++ Lx, by rw [HXL.out]; omega, hfin⟩
            · -- what is put is laid anew; then it is overwritten
              have hW1lt : ∀ z ∈ r :: b :: v.ownBlock.toList, z < W1.heap.size := hst1.hi
              obtain ⟨B, hB⟩ : ∃ B, W1.heap.size = B := ⟨_, rfl⟩
              have HB := Lib.hid hB
              have o1 := OwI.empty W1 (B := B) (by omega)
              have src1 := (hLr.below ((hst1.ch.alloc (.cells #[] 3)).below (Nat.le_refl _) (by simp))).src Try.underlying25 cl
              rw [HN.out] at src1
              have e4' := fun o => (bq.alloc o).cell 4
              clear hB e4
              go_wp2_with (at_builtin; refine wpList_app rfl (.tmp 63) (.tmp 65) rfl B (.slice (some ⟨W1.heap.size, 0, none⟩) 0 0) [] rfl o1 (by have := HB.out; simp; omega) (.slice al n cl) Lx rfl (by rw [HN.out]; exact src1) (by have := HN.out; simp; omega) ?_)
              intro v6 w6 o6 c6 n6
              have cc6 : Ch [] W1 w6 := ((Ch.refl [] W1).alloc _).transT c6 (by intro z hz; simp [Value.ownBlock] at hz; have := HB.out; omega)
              obtain ⟨a6, d6, ev6, _, _, _⟩ := o6.form
              rw [HN.out] at ev6
              subst ev6
              have hst6 := hst1.still cc6
              have hP := qPut b v X (.slice a6 n d6) Lx w6 hst6.qa hst6.hv o6.src (by have := HN.out; omega)
              have HP := Lib.hid hP
              clear hP src1 o1 e4'
              go_wp2_with fail
              refine HP.out.mono ?_; rintro e w7 ⟨rfl, v7, q7, c7, n7⟩
              clear HP
              have hlt6 := o6.lt
              have n7' : v7.ownBlock = v.ownBlock ∨ ∀ z, v7.ownBlock = some z → W1.heap.size ≤ z := by
                rcases n7 with h | h
                · exact .inl h
                · exact .inr fun z hz => Nat.le_trans cc6.size (h z hz)
              have cc7 : Ch (b :: v.ownBlock.toList) W1 w7 := (cc6.mono (by simp)).trans c7
              have o7 : OwI w7 B (.slice a6 n d6) Lx := o6.keepLt c7 (by intro z hz; have := hW1lt z (List.mem_cons_of_mem _ hz); have := HB.out; omega)
              have hne7 : ∀ z, (Value.slice a6 n d6).ownBlock = some z → v7.ownBlock ≠ some z := by
                intro z hz he
                have h1 := hlt6 z hz
                have h2 := o6.2 z hz
                rcases n7 with h | h
                · rw [h] at he
                  have := hW1lt z (by simp [he])
                  have := HB.out
                  omega
                · have := h z he; omega
              have hbe : ∀ z, (Value.slice a6 n d6).ownBlock = some z → b ≠ z := by
                intro z hz he
                have h2 := o6.2 z hz
                have := hW1lt b (by simp)
                have := HB.out
                omega
              clear o6 n6 c6
              go_wp2_with fail
              go_loopw [8] (fun s8 wx => ∃ (k : Nat) (ys : List Int), s8 = .int .i64 k ∧ k ≤ n ∧ ys.length = n ∧ OwI wx B (.slice a6 n d6) ys ∧ QAt wx b v7 (X ++ Lx) ∧ Ch (b :: v.ownBlock.toList) W1 wx) (fun s8 _ => n - (intOf s8).toNat)
              case atStart => exact ⟨0, Lx, rfl, by omega, HN.out, o7, q7, cc7⟩
              case round =>
                clear o7 q7 cc7
                obtain ⟨k, ys, rfl, hk, hys, o7, q7, cc7⟩ := hrel
                by_cases hkn : k < n
                · obtain ⟨g6, off6, cap6, ev6, _, _, hcell6, hfro6⟩ := o7.1.cellsOf (by omega)
                  simp only [Value.slice.injEq, true_and] at ev6
                  obtain ⟨hga, _, hgc⟩ := ev6
                  subst hga
                  subst hgc
                  obtain ⟨y0, y1⟩ : ∃ y0 : Int, wr.cell? ⟨g6, off6 + k, none⟩ = some (.int .i64 y0) := ⟨_, hcell6 k _ (by rw [List.getElem?_map, List.getElem?_eq_getElem (by omega)]; rfl)⟩
                  have h96 : B ≤ g6 := o7.2 g6 rfl
                  have y2 := hfro6 (off6 + k)
                  have k0 : (0 : Int) ≤ k := by omega
                  have k1 : (k : Int) < n := by omega
                  have hput := o7.put (k := k) (by omega) (-7)
                  have cs : Ch [g6] wr (wr.setCell ⟨g6, off6 + k, none⟩ (.int .i64 (-7))) := (Ch.refl _ _).setCell (.inl (by simp)) _
                  have hq := q7.keep cs (by simp; exact hbe g6 rfl) (by intro z hz; simp at hz; subst hz; exact hne7 _ rfl)
                  have hcc := cc7.transT cs (by intro z hz; simp at hz; subst hz; exact .inr (by have := HB.out; omega))
                  have HYS := Lib.hid hys
                  clear hcell6 hfro6 hys o7 q7 cc7
                  go_wp2
                  go_roundw
                  case rel => exact ⟨k + 1, _, by go_num, by omega, by rw [List.length_set]; exact HYS.out, hput, hq, hcc⟩
                  case measure => simp [intOf]; omega
                · obtain rfl : k = n := by omega
                  clear hkn hne7 hbe o7 hys
                  obtain ⟨m1, m2, m3, m4⟩ := hst1.mid cc7 n7'
                  obtain ⟨ar, cr, xr1, xr2⟩ := id m1
                  obtain ⟨kx, hkx⟩ : ∃ kx, X.length = kx := ⟨_, rfl⟩
                  have bqr := bq.keep cc7 HQB.out
                  have hXLl : (X ++ Lx).length = kx + k := by rw [List.length_append, hkx, HN.out]
                  rw [hkx] at xr1 hxl
                  have HKX := Lib.hid hkx
                  have HXL := Lib.hid hXLl
                  clear hkx hXLl
                  go_upto_region 24 with fail
                  obtain ⟨L, hL⟩ : ∃ L : World → Prop, ∀ w', L w' ↔ (w'.cell? ⟨q, 4, none⟩ = some (.slice al k cl) ∧ w'.cell? ⟨r, 0, none⟩ = some (.slice ar kx cr)) := ⟨_, fun _ => Iff.rfl⟩
                  have hS1 : ∀ x : { w' : World // L w' }, x.1.cell? ⟨q, 4, none⟩ = some (.slice al k cl) := fun x => ((hL _).1 x.2).1
                  have hS2 : ∀ x : { w' : World // L w' }, x.1.cell? ⟨r, 0, none⟩ = some (.slice ar kx cr) := fun x => ((hL _).1 x.2).2
                  have hLk : ∀ w', Ch [] wr w' → L w' := fun w' hc => (hL _).2 ⟨(bqr.keep hc (by simp)).cell 4, (xr1.keep hc (by simp)).cell 0⟩
                  have hS0 := hLk _ ((Ch.refl [] wr).drewN 1)
                  have hSA : Nonempty { w' : World // L w' } := ⟨⟨_, hS0⟩⟩
                  have HLk := Lib.hid hLk
                  clear hL hLk
                  refine wp_region_plan (Cls L) (List.range 10) (.reads [0, 2, 3, 4, 5, 7, 8] (.only 1 (.only 6 (.only 9 (.pures [10, 11] (.only 12 .done)))))) (by kernel_rfl) (by kernel_rfl) (fun _ _ _ _ _ h => h) ?_
                  simp only [Plan.pures, Plan.reads, Plan.only, List.foldr_cons, List.foldr_nil]
                  obtain ⟨W0, hW0⟩ : ∃ W0, wr.drewN 1 = W0 := ⟨_, rfl⟩
                  have cc : Ch [] wr W0 := by rw [← hW0]; exact (Ch.refl [] wr).drewN 1
                  rw [hW0] at hS0 ⊢
                  clear hW0
                  iterate 7 (refine wpPlan_readS hS0 (fun K hK => ?_); simp only [List.getD_cons_zero, List.getD_cons_succ]; go_simp; refine hK _ ?_; clear hK K)
                  refine wpPlan_only (fun K hK => ?_)
                  simp only [List.getD_cons_zero, List.getD_cons_succ]
                  go_simp
                  obtain ⟨W2, hW2⟩ : ∃ W2, W0.alloc (.cells #[] 3) = W2 := ⟨_, rfl⟩
                  obtain ⟨k0, hk0⟩ : ∃ k0, W0.heap.size = k0 := ⟨_, rfl⟩
                  have cc2 : Ch [] wr W2 := by rw [← hW2]; exact cc.alloc _
                  have o0 : OwI W2 wr.heap.size (.slice (some ⟨k0, 0, none⟩) 0 0) [] := by rw [← hW2, ← hk0]; exact OwI.empty _ cc.size
                  rw [hW2, hk0]
                  refine hK _ _ (fun _ => Cls.mk (HLk.out _ cc2)) ?_
                  clear hK K hW2 hk0
                  refine wpPlan_onlyU rfl (fun K hK => ?_); simp only [List.getD_cons_zero, List.getD_cons_succ]
                  have hs1 := (xr2.rd.keep cc2 (by simp)).src Try.underlying25 cr
                  rw [HKX.out] at hs1
                  refine wp_app (.tmp 80) (.tmp 84) rfl wr.heap.size (.slice (some ⟨k0, 0, none⟩) 0 0) [] rfl o0 cc2.size (.slice ar kx cr) X rfl (by rw [HKX.out]; exact hs1) (by have := HKX.out; simp; omega) (fun v8 w8 o8 c8 n8 => ?_)
                  have o8 : OwI w8 wr.heap.size v8 X := by simpa using o8
                  have cc8 : Ch [] wr w8 := cc2.transT c8 (fun z hz => .inr (o0.2 z (by simpa using hz)))
                  refine hK _ _ (fun _ => Cls.mk (HLk.out _ cc8)) ?_
                  clear hK K hs1
                  refine wpPlan_onlyU rfl (fun K hK => ?_); simp only [List.getD_cons_zero, List.getD_cons_succ]
                  have hs2 := (hLr.keep (m2.trans cc8) (by simp)).src Try.underlying25 cl
                  rw [HN.out] at hs2
                  refine wp_app (.tmp 85) (.tmp 87) rfl wr.heap.size v8 X rfl o8 cc8.size (.slice al k cl) Lx rfl (by rw [HN.out]; exact hs2) (by have := HKX.out; have := HN.out; omega) (fun v9 w9 o9 c9 n9 => ?_)
                  have cc9 : Ch [] wr w9 := cc8.transT c9 (fun z hz => .inr (o8.2 z (by simpa using hz)))
                  refine hK _ _ (fun _ => Cls.mk (HLk.out _ cc9)) ?_
                  clear hK K hs2
                  have hpb := q7.1.lt
                  have hpv := q7.2.lt
                  have hpr := m1.lt
                  obtain ⟨a9, d9, ev9, l9⟩ := o9.lsF (S := r :: b :: v7.ownBlock.toList) (by
                    intro z hz
                    simp only [List.mem_cons] at hz
                    rcases hz with rfl | rfl | hz
                    · exact hpr
                    · exact hpb
                    · exact hpv z (by simpa using hz))
                  rw [HXL.out] at ev9
                  subst ev9
                  iterate 2 (refine wpPlan_pure (fun K hK => ?_); simp only [List.getD_cons_zero, List.getD_cons_succ]; go_simp; refine hK _ ?_; clear hK K)
                  have xr9 := xr1.keep cc9 (by simp)
                  have f9 := xr9.frozen 0
                  have p9 := xr9.cell 0
                  refine wpPlan_only (fun K hK => ?_)
                  simp only [List.getD_cons_zero, List.getD_cons_succ]
                  go_simp
                  refine hK _ _ (by simp) ?_
                  clear hK K f9 p9
                  refine wpPlan_done ?_
                  have cs : Ch [r] w9 (w9.setCell ⟨r, 0, none⟩ (.slice a9 (kx + k) d9)) := (Ch.refl [r] w9).setCell (.inl (by simp)) _
                  have hrq : RQ (w9.setCell ⟨r, 0, none⟩ (.slice a9 (kx + k) d9)) r (r :: b :: v7.ownBlock.toList) (X ++ Lx) := ⟨a9, d9, by rw [HXL.out]; exact xr9.set 0 _, l9.keep cs (by intro z hz; simp at hz; subst hz; simp)⟩
                  have hfin := hst1.fin (q7.keep cc9 (by simp) (by simp)) (m2.trans cc9) m3 m4 hrq cs
                  clear hS0 hS1 hS2 hSA hrq cs xr9 l9
                  go_wp2_with fail
                  go_meet
                  exact ⟨v7, X ++ Lx, by rw [HXL.out]; omega, hfin⟩
            · go_upto_region 27 with fail
              obtain ⟨L, hL⟩ : ∃ L : World → Prop, ∀ w', L w' ↔ (w'.cell? ⟨q, 1, none⟩ = some (.int .i64 p) ∧ w'.cell? ⟨q, 2, none⟩ = some (.int .i64 m)) := ⟨_, fun _ => Iff.rfl⟩
              have hS1 : ∀ x : { w' : World // L w' }, x.1.cell? ⟨q, 1, none⟩ = some (.int .i64 p) := fun x => ((hL _).1 x.2).1
              have hS2 : ∀ x : { w' : World // L w' }, x.1.cell? ⟨q, 2, none⟩ = some (.int .i64 m) := fun x => ((hL _).1 x.2).2
              have hLk : ∀ w', Blk w' q #[.int .i64 x, .int .i64 p, .int .i64 m, .int .i64 g, .slice al n cl] 55 → L w' := fun w' hb => (hL _).2 ⟨hb.cell 1, hb.cell 2⟩
              have hS0 := hLk _ (bq.drewN 1)
              have hSA : Nonempty { w' : World // L w' } := ⟨⟨_, hS0⟩⟩
              have HLk := Lib.hid hLk
              clear hL hLk
              refine wp_region_plan (Cls L) (List.range 14) (.reads [0, 1, 2, 3, 4, 6, 7, 8, 9, 10] (.only 5 (.only 11 (.only 12 (.reads [13] .done))))) (by kernel_rfl) (by kernel_rfl) (fun _ _ _ _ _ h => h) ?_
              simp only [Plan.reads, Plan.only, List.foldr_cons, List.foldr_nil]
              have hst2 := hst1.still ((Ch.refl [] W1).drewN 1)
              iterate 10 (refine wpPlan_readS hS0 (fun K hK => ?_); simp only [List.getD_cons_zero, List.getD_cons_succ]; go_simp; refine hK _ ?_; clear hK K)
              obtain ⟨z, hz⟩ := get_n X p m
              have hzX : (X.take z).length ≤ 100000 := by rw [List.length_take]; omega
              have HZL := Lib.hid (show (X.take z).length = z by rw [List.length_take]; omega)
              have HZ := Lib.hid hz
              have HZX := Lib.hid hzX
              clear hz hzX
              refine wpPlan_only (fun K hK => ?_)
              simp only [List.getD_cons_zero, List.getD_cons_succ]
              go_simp
              refine (qGet b v X p m z _ hst2.qa hst2.hv (by omega) HZ.out).mono ?_; rintro e w3 ⟨v3, v4, rfl, o3, h3, n3, c3⟩
              have c3' : Ch (b :: v.ownBlock.toList) (W1.drewN 1) w3 := c3.mono (by simp)
              have bq3 := (bq.drewN 1).keep c3' HQB.out
              have hl3 := HLk.out _ bq3
              obtain ⟨m1, m2, m3, m4⟩ := hst2.mid c3' (.inr n3)
              have o3' : Own w3 3 1 v3 (X.take z).length ((X.take z).map (Value.int .i64)) := by rw [HZL.out]; exact o3
              obtain ⟨a3, d3, ev3, h31, h32, h33, rd3⟩ := o3'.rd
              rw [HZL.out] at ev3
              subst ev3
              clear h31 h32 h33 o3'
              refine hK _ _ (fun _ => Cls.mk hl3) ?_
              clear hK K
              obtain ⟨ar3, dr3, h3r, _⟩ := id m1
              have hG0 := refQGet r _ X p m z w3 m1 (by simp) (by omega) HZ.out
              rw [HZL.out] at hG0
              have hG := Lib.hid hG0
              clear hG0
              refine wpPlan_only (fun K hK => ?_)
              simp only [List.getD_cons_zero, List.getD_cons_succ]
              go_simp
              refine hG.out.mono ?_; rintro e w4 ⟨a4, d4, rfl, l4, h4, c4⟩

              have bq4 := bq3.keep c4 (by simp; exact hqr)
              have hl4 := HLk.out _ bq4
              refine hK _ _ (fun _ => Cls.mk hl4) ?_
              clear hK K hG
              have o4 : Rd w4 a3 (X.take z) := rd3.keep c4 (by
                intro y hy hm
                have h9 := o3.neBlk h3r (by decide)
                simp at hm
                exact h9 (by rw [hy]; simp [Value.ownBlock, hm]))
              have hI0 := ints_same a3 a4 (X.take z) d3 d4 w4 o4 l4.rd (by have := HZX.out; unfold maxLen; omega)
              rw [HZL.out] at hI0
              have hI := Lib.hid hI0
              clear hI0
              refine wpPlan_only (fun K hK => ?_)
              simp only [List.getD_cons_zero, List.getD_cons_succ]
              go_simp

              refine hI.out.mono ?_; rintro e w5 ⟨rfl, nq, hw5⟩
              have bq5 : Blk w5 q #[.int .i64 x, .int .i64 p, .int .i64 m, .int .i64 g, .slice al n cl] 55 := by rw [hw5]; exact bq4.drewN nq
              have hl5 := HLk.out _ bq5
              refine hK _ _ (fun _ => Cls.mk hl5) ?_
              clear hK K hI
              refine wpPlan_readS hl5 (fun K hK => ?_); simp only [List.getD_cons_zero, List.getD_cons_succ]; go_simp; refine hK _ ?_; clear hK K
              refine wpPlan_done ?_
              have hfin : QPSt w w5 b r v4 (X.drop z) := by rw [hw5]; exact (hst2.fin h3 m2 m3 m4 h4 c4).still ((Ch.refl [] w4).drewN nq)
              clear hS0 hS1 hS2 hSA hl3 hl4 hl5 hw5
              go_wp2_with fail
              go_meet
              exact ⟨v4, X.drop z, by rw [List.length_drop]; omega, hfin⟩
            · go_upto_region 27 with fail
              obtain ⟨L, hL⟩ : ∃ L : World → Prop, ∀ w', L w' ↔ (w'.cell? ⟨q, 1, none⟩ = some (.int .i64 p) ∧ w'.cell? ⟨q, 2, none⟩ = some (.int .i64 m)) := ⟨_, fun _ => Iff.rfl⟩
              have hS1 : ∀ x : { w' : World // L w' }, x.1.cell? ⟨q, 1, none⟩ = some (.int .i64 p) := fun x => ((hL _).1 x.2).1
              have hS2 : ∀ x : { w' : World // L w' }, x.1.cell? ⟨q, 2, none⟩ = some (.int .i64 m) := fun x => ((hL _).1 x.2).2
              have hLk : ∀ w', Blk w' q #[.int .i64 x, .int .i64 p, .int .i64 m, .int .i64 g, .slice al n cl] 55 → L w' := fun w' hb => (hL _).2 ⟨hb.cell 1, hb.cell 2⟩
              have hS0 := hLk _ (bq.drewN 1)
              have hSA : Nonempty { w' : World // L w' } := ⟨⟨_, hS0⟩⟩
              have HLk := Lib.hid hLk
              clear hL hLk
              refine wp_region_plan (Cls L) (List.range 14) (.reads [0, 1, 2, 3, 4, 6, 7, 8, 9, 10] (.only 5 (.only 11 (.only 12 (.reads [13] .done))))) (by kernel_rfl) (by kernel_rfl) (fun _ _ _ _ _ h => h) ?_
              simp only [Plan.reads, Plan.only, List.foldr_cons, List.foldr_nil]
              have hst2 := hst1.still ((Ch.refl [] W1).drewN 1)
              iterate 10 (refine wpPlan_readS hS0 (fun K hK => ?_); simp only [List.getD_cons_zero, List.getD_cons_succ]; go_simp; refine hK _ ?_; clear hK K)
              obtain ⟨z, hz⟩ := get_n X p m
              have hzX : (X.take z).length ≤ 100000 := by rw [List.length_take]; omega
              have HZL := Lib.hid (show (X.take z).length = z by rw [List.length_take]; omega)
              have HZ := Lib.hid hz
              have HZX := Lib.hid hzX
              clear hz hzX
              refine wpPlan_only (fun K hK => ?_)
              simp only [List.getD_cons_zero, List.getD_cons_succ]
              go_simp
              refine (qGet b v X p m z _ hst2.qa hst2.hv (by omega) HZ.out).mono ?_; rintro e w3 ⟨v3, v4, rfl, o3, h3, n3, c3⟩
              have c3' : Ch (b :: v.ownBlock.toList) (W1.drewN 1) w3 := c3.mono (by simp)
              have bq3 := (bq.drewN 1).keep c3' HQB.out
              have hl3 := HLk.out _ bq3
              obtain ⟨m1, m2, m3, m4⟩ := hst2.mid c3' (.inr n3)
              have o3' : Own w3 3 1 v3 (X.take z).length ((X.take z).map (Value.int .i64)) := by rw [HZL.out]; exact o3
              obtain ⟨a3, d3, ev3, h31, h32, h33, rd3⟩ := o3'.rd
              rw [HZL.out] at ev3
              subst ev3
              clear h31 h32 h33 o3'
              refine hK _ _ (fun _ => Cls.mk hl3) ?_
              clear hK K
              obtain ⟨ar3, dr3, h3r, _⟩ := id m1
              have hG0 := refQGet r _ X p m z w3 m1 (by simp) (by omega) HZ.out
              rw [HZL.out] at hG0
              have hG := Lib.hid hG0
              clear hG0
              refine wpPlan_only (fun K hK => ?_)
              simp only [List.getD_cons_zero, List.getD_cons_succ]
              go_simp
              refine hG.out.mono ?_; rintro e w4 ⟨a4, d4, rfl, l4, h4, c4⟩

              have bq4 := bq3.keep c4 (by simp; exact hqr)
              have hl4 := HLk.out _ bq4
              refine hK _ _ (fun _ => Cls.mk hl4) ?_
              clear hK K hG
              have o4 : Rd w4 a3 (X.take z) := rd3.keep c4 (by
                intro y hy hm
                have h9 := o3.neBlk h3r (by decide)
                simp at hm
                exact h9 (by rw [hy]; simp [Value.ownBlock, hm]))
              have hI0 := ints_same a3 a4 (X.take z) d3 d4 w4 o4 l4.rd (by have := HZX.out; unfold maxLen; omega)
              rw [HZL.out] at hI0
              have hI := Lib.hid hI0
              clear hI0
              refine wpPlan_only (fun K hK => ?_)
              simp only [List.getD_cons_zero, List.getD_cons_succ]
              go_simp

              refine hI.out.mono ?_; rintro e w5 ⟨rfl, nq, hw5⟩
              have bq5 : Blk w5 q #[.int .i64 x, .int .i64 p, .int .i64 m, .int .i64 g, .slice al n cl] 55 := by rw [hw5]; exact bq4.drewN nq
              have hl5 := HLk.out _ bq5
              refine hK _ _ (fun _ => Cls.mk hl5) ?_
              clear hK K hI
              refine wpPlan_readS hl5 (fun K hK => ?_); simp only [List.getD_cons_zero, List.getD_cons_succ]; go_simp; refine hK _ ?_; clear hK K
              refine wpPlan_done ?_
              have hfin : QPSt w w5 b r v4 (X.drop z) := by rw [hw5]; exact (hst2.fin h3 m2 m3 m4 h4 c4).still ((Ch.refl [] w4).drewN nq)
              clear hS0 hS1 hS2 hSA hl3 hl4 hl5 hw5
              go_wp2_with fail
              go_meet
              exact ⟨v4, X.drop z, by rw [List.length_drop]; omega, hfin⟩
            · obtain ⟨ar, cr, xr1, xr2⟩ := id hst1.rq
              obtain ⟨k, hk⟩ : ∃ k, X.length = k := ⟨_, rfl⟩
              obtain ⟨k2, hk2⟩ : ∃ k2, (X.erase g).length = k2 := ⟨_, rfl⟩
              have hk2l : k2 ≤ k := by rw [← hk, ← hk2]; exact List.length_erase_le
              have hO := outAny _ ar cr X g (W1.drewN 1) (xr2.keep ((Ch.refl [] W1).drewN 1) (by simp)) hst1.hi (by omega)
              obtain ⟨P, hP⟩ : ∃ P, X.contains g = P := ⟨_, rfl⟩
              have pp : (P != P) = false := by simp
              rw [hk, hk2, hP] at hO
              rw [hk] at xr1 hxl
              have HK := Lib.hid hk
              have HK2 := Lib.hid hk2
              have HP := Lib.hid hP
              have HO := Lib.hid hO
              clear hk hk2 hP hO
              go_upto_region 12 with fail
              obtain ⟨L, hL⟩ : ∃ L : World → Prop, ∀ w', L w' ↔ (w'.cell? ⟨q, 3, none⟩ = some (.int .i64 g) ∧ w'.cell? ⟨r, 0, none⟩ = some (.slice ar k cr)) := ⟨_, fun _ => Iff.rfl⟩
              have hS1 : ∀ x : { w' : World // L w' }, x.1.cell? ⟨q, 3, none⟩ = some (.int .i64 g) := fun x => ((hL _).1 x.2).1
              have hS2 : ∀ x : { w' : World // L w' }, x.1.cell? ⟨r, 0, none⟩ = some (.slice ar k cr) := fun x => ((hL _).1 x.2).2
              have hLk : ∀ w', Ch [] W1 w' → L w' := fun w' hc => (hL _).2 ⟨(bq.keep hc (by simp)).cell 3, (xr1.keep hc (by simp)).cell 0⟩
              have hS0 := hLk _ ((Ch.refl [] W1).drewN 1)
              have hSA : Nonempty { w' : World // L w' } := ⟨⟨_, hS0⟩⟩
              have HLk := Lib.hid hLk
              clear hL hLk
              refine wp_region_plan (Cls L) (List.range 12) (.reads [0, 1, 2, 3, 4, 5] (.only 6 (.reads [7, 8, 9, 10, 11] .done))) (by kernel_rfl) (by kernel_rfl) (fun _ _ _ _ _ h => h) ?_
              simp only [Plan.reads, Plan.only, List.foldr_cons, List.foldr_nil]
              iterate 6 (refine wpPlan_readS hS0 (fun K hK => ?_); simp only [List.getD_cons_zero, List.getD_cons_succ]; go_simp; refine hK _ ?_; clear hK K)
              refine wpPlan_only (fun K hK => ?_)
              simp only [List.getD_cons_zero, List.getD_cons_succ]
              go_simp
              refine HO.out.mono ?_; rintro e w3 ⟨a3, c3', rfl, l3, c3⟩
              have cc3 : Ch [] W1 w3 := ((Ch.refl [] W1).drewN 1).trans c3
              have hl3 := HLk.out _ cc3
              refine hK _ _ (fun _ => Cls.mk hl3) ?_
              clear hK K HO
              iterate 5 (refine wpPlan_readS hl3 (fun K hK => ?_); simp only [List.getD_cons_zero, List.getD_cons_succ]; go_simp; refine hK _ ?_; clear hK K)
              refine wpPlan_done ?_
              clear hS0 hS1 hS2 hSA hl3
              have hst3 := hst1.still cc3
              have xr3 := xr1.keep cc3 (by simp)
              have f3 := xr3.frozen 0
              have p3 := xr3.cell 0
              have bq3 := bq.keep cc3 (by simp)
              go_upto_region 14 with fail
              obtain ⟨W4, hW4⟩ : ∃ W4, w3.setCell ⟨r, 0, none⟩ (.slice a3 k2 c3') = W4 := ⟨_, rfl⟩
              have cs : Ch [r] w3 W4 := by rw [← hW4]; exact (Ch.refl [r] w3).setCell (.inl (by simp)) _
              have xr4 : Blk W4 r #[.slice a3 k2 c3'] 53 := by rw [← hW4]; exact xr3.set 0 _
              rw [hW4]
              clear hW4 f3 p3
              have l4 : LsF W4 (r :: b :: v.ownBlock.toList) a3 c3' (X.erase g) := l3.keep cs (by intro z hz; simp at hz; subst hz; simp)
              have q4 : QAt W4 b v X := hst3.qa.keep cs (by simp; exact fun e => hst1.rb e.symm) (by intro z hz; simp at hz; subst hz; exact hst1.vr)
              have e34 := (bq3.keep cs (by simp; exact hqr)).cell 3
              have hD := delAny b v X g W4 q4 hst1.hv (by rw [HK.out]; omega)
              rw [HP.out] at hD
              have HD := Lib.hid hD
              clear hD e0 e1 e2 e3 e4
              go_wp2_with fail
              refine HD.out.mono ?_; rintro e w5 ⟨rfl, v5, q5, o5, c5⟩
              clear HD e34
              have hrm : r ∉ b :: v.ownBlock.toList := by
                simp only [List.mem_cons, not_or]
                exact ⟨hst1.rb, fun hm => hst1.vr (by simpa using hm)⟩
              have hsub : ∀ z ∈ b :: v.ownBlock.toList, z ∈ r :: b :: v.ownBlock.toList ∨ W4.heap.size ≤ z := fun z hz => .inl (List.mem_cons_of_mem _ hz)
              have hfin : QPSt w w5 b r v5 (X.erase g) := by
                refine ⟨q5, ⟨a3, c3', by rw [HK2.out]; exact xr4.keep c5 hrm, l4.step c5 hsub (by rw [o5]; exact fun z hz => .inl hz)⟩, ((hst3.ch.transT cs (by intro z hz; simp at hz; subst hz; exact .inr hst1.lr)).transT c5 ?_), by rw [o5]; exact hst1.hv, by rw [o5]; exact hst1.vr, hst1.rb, hst1.lo, hst1.lr⟩
                intro z hz
                simp only [List.mem_cons] at hz
                rcases hz with rfl | hz
                · exact .inr hst1.lo
                · exact .inr (by have := hst1.hv z (by simpa using hz); have := hst1.lo; omega)
              go_wp2_with fail
              go_meet
              exact ⟨v5, X.erase g, by rw [HK2.out]; omega, hfin⟩
          case rest =>
            obtain ⟨v5, X5, hx5, hst5⟩ := hcut
            clear hj e0 e1 e2 e3 e4 bq hst1 hjl HQB hqr n1 hxl hLr HN hLm hn40
            obtain ⟨ar, cr, xr1, xr2⟩ := id hst5.rq
            obtain ⟨kx, hkx⟩ : ∃ kx, X5.length = kx := ⟨_, rfl⟩
            have nn : ((kx : Int) != (kx : Int)) = false := by simp
            rw [hkx] at xr1 hx5
            have HKX := Lib.hid hkx
            have hql := qLen b v5 X5 (wc.drewN 1) (hst5.still ((Ch.refl [] wc).drewN 1)).qa
            rw [hkx] at hql
            have HQL := Lib.hid hql
            clear hkx hql
            go_upto_region 29 with fail
            obtain ⟨L, hL⟩ : ∃ L : World → Prop, ∀ w', L w' ↔ (w'.cell? ⟨r, 0, none⟩ = some (.slice ar kx cr)) := ⟨_, fun _ => Iff.rfl⟩
            have hS1 : ∀ x : { w' : World // L w' }, x.1.cell? ⟨r, 0, none⟩ = some (.slice ar kx cr) := fun x => ((hL _).1 x.2)
            have hLk : ∀ w', Ch [] wc w' → L w' := fun w' hc => (hL _).2 ((xr1.keep hc (by simp)).cell 0)
            have hS0 := hLk _ ((Ch.refl [] wc).drewN 1)
            have hSA : Nonempty { w' : World // L w' } := ⟨⟨_, hS0⟩⟩
            have HLk := Lib.hid hLk
            clear hL hLk
            refine wp_region_plan (Cls L) (List.range 18) (.reads [0, 2, 3, 4, 5, 6] (.only 1 (.reads [7, 8, 9, 11, 12, 13, 14] (.only 10 (.only 15 (.reads [16, 17] .done)))))) (by kernel_rfl) (by kernel_rfl) (fun _ _ _ _ _ h => h) ?_
            simp only [Plan.reads, Plan.only, List.foldr_cons, List.foldr_nil]
            iterate 6 (refine wpPlan_readS hS0 (fun K hK => ?_); simp only [List.getD_cons_zero, List.getD_cons_succ]; go_simp; refine hK _ ?_; clear hK K)
            refine wpPlan_only (fun K hK => ?_)
            simp only [List.getD_cons_zero, List.getD_cons_succ]
            go_simp
            refine HQL.out.mono ?_; rintro e w6 ⟨rfl, hw6⟩
            have hl6 : L w6 := by rw [hw6]; exact hS0
            refine hK _ _ (fun _ => Cls.mk hl6) ?_
            rw [hw6]
            clear hK K hl6 hw6 HQL
            iterate 7 (refine wpPlan_readS hS0 (fun K hK => ?_); simp only [List.getD_cons_zero, List.getD_cons_succ]; go_simp; refine hK _ ?_; clear hK K)
            refine wpPlan_only (fun K hK => ?_)
            simp only [List.getD_cons_zero, List.getD_cons_succ]
            go_simp
            refine (qAll b v5 X5 _ (hst5.still ((Ch.refl [] wc).drewN 1)).qa (by have := HKX.out; omega)).mono ?_; rintro e w6 ⟨v6, rfl, o6, c6⟩
            obtain ⟨a6, d6, ev6, h61, h62, h63, rd6⟩ := o6.rd
            rw [HKX.out] at ev6
            subst ev6
            clear h61 h62 h63
            have cc6 : Ch [] wc w6 := ((Ch.refl [] wc).drewN 1).trans c6
            have hl6 := HLk.out _ cc6
            refine hK _ _ (fun _ => Cls.mk hl6) ?_
            clear hK K
            have hI0 := ints_same a6 ar X5 d6 cr w6 rd6 (xr2.rd.keep cc6 (by simp)) (by rw [HKX.out]; unfold maxLen; omega)
            rw [HKX.out] at hI0
            have hI := Lib.hid hI0
            clear hI0 o6 rd6
            refine wpPlan_only (fun K hK => ?_)
            simp only [List.getD_cons_zero, List.getD_cons_succ]
            go_simp
            refine hI.out.mono ?_; rintro e w7 ⟨rfl, nq, hw7⟩
            have cc7 : Ch [] wc w7 := by rw [hw7]; exact cc6.trans ((Ch.refl [] w6).drewN nq)
            have hl7 := HLk.out _ cc7
            refine hK _ _ (fun _ => Cls.mk hl7) ?_
            clear hK K hI hw7
            iterate 2 (refine wpPlan_readS hl7 (fun K hK => ?_); simp only [List.getD_cons_zero, List.getD_cons_succ]; go_simp; refine hK _ ?_; clear hK K)
            refine wpPlan_done ?_
            have hst7 := hst5.still cc7
            clear hS0 hS1 hSA hl6 hl7 hst5 xr1 xr2 nn t1 t2
            go_wp2_with fail
            go_roundw
            case rel => exact ⟨i + 1, v5, X5, by go_num, by omega, by omega, by rw [HKX.out]; omega, hst7⟩
            case measure => simp [intOf]; omega
      · have t1 : decide ((i : Int) < len) = true := decide_eq_true (by omega)
        have t2 : decide ((i : Int) < 60) = false := decide_eq_false (by omega)
        go_wp2_with fail
        refine (told11 _).mono ?_; rintro e w3 ⟨rfl, c3⟩
        go_wp2
        go_ret
        exact ⟨rfl, (hst.ch.trans c3).below (Nat.le_refl _) (by simp)⟩
    · have t1 : decide ((i : Int) < len) = false := decide_eq_false (by omega)
      go_wp2_with fail
      refine (told11 _).mono ?_; rintro e w3 ⟨rfl, c3⟩
      go_wp2
      go_ret
      exact ⟨rfl, (hst.ch.trans c3).below (Nat.le_refl _) (by simp)⟩
end Go.Proofs.Yteghenfdncgpeaa
