/-
  The walk of the statement SchedDrops: the law returns true at every input. Conditions: none.
-/
import Derived.Test.YteghenfdncgpeaaOwD
import Derived.Test.YteghenfdncgpeaaRng
namespace Go.Proofs.Yteghenfdncgpeaa
open Go.RowKit
/-- Two Ps: the first has r, and x next if hb; the second nobody; l in common. -/
structure Tw (st : SSt) (r : List Int) (hb : Bool) (x : Int) (l : List Int) : Prop where
  row0 : st.row 0 = r
  hs0 : st.hs 0 = hb
  nx0 : hb = true → st.nx 0 = x
  row1 : st.row 1 = []
  hs1 : st.hs 1 = false
  com : st.com = l
theorem Tw.init : Tw initS [] false 0 [] := ⟨rfl, rfl, (fun e => by cases e), rfl, rfl, rfl⟩
theorem Tw.ready {st : SSt} {r : List Int} {x : Int} (h : Tw st r false x []) (g : Int) (hl : r.length < 256) : Tw (readyS st 0 g false) (r ++ [g]) false x [] := by
  obtain ⟨a, b, c, d⟩ := ready_at (st := st) (p := 0) (g := g) (nb := false)
  rw [h.hs0, h.row0] at c d
  obtain ⟨e1, e2⟩ := putX_room (nx := st.nx 0) (g := g) hl
  obtain ⟨_, k1, k2⟩ := ready_ne (st := st) (p := 0) (j := 1) (g := g) (nb := false) (by omega)
  exact ⟨by rw [c, e1], by rw [b, h.hs0]; rfl, (fun e => by cases e), by rw [k2]; exact h.row1, by rw [k1]; exact h.hs1, by rw [d, e2, h.com]; rfl⟩
theorem Tw.next {st : SSt} {r : List Int} {y : Int} (h : Tw st r false y []) (x : Int) : Tw (readyS st 0 x true) r true x [] := by
  obtain ⟨a, b, c, d⟩ := ready_at (st := st) (p := 0) (g := x) (nb := true)
  rw [h.hs0, h.row0] at c d
  obtain ⟨_, k1, k2⟩ := ready_ne (st := st) (p := 0) (j := 1) (g := x) (nb := true) (by omega)
  exact ⟨by rw [c]; rfl, by rw [b]; rfl, fun _ => by rw [a]; rfl, by rw [k2]; exact h.row1, by rw [k1]; exact h.hs1, by rw [d, h.com]; rfl⟩
theorem Tw.all0 {st : SSt} {r l : List Int} {hb : Bool} {x : Int} (h : Tw st r hb x l) : allS st 0 = ringList x hb r := by
  cases hb with
  | true => rw [allS_of (h.nx0 rfl) h.hs0 h.row0]
  | false => rw [allS_of rfl h.hs0 h.row0]; rfl
theorem Tw.all1 {st : SSt} {r l : List Int} {hb : Bool} {x : Int} (h : Tw st r hb x l) : allS st 1 = [] := by rw [allS_of rfl h.hs1 h.row1]; rfl
theorem Tw.drop {st : SSt} {r : List Int} {hb : Bool} {x : Int} (h : Tw st r hb x []) : Tw (dropS st 0) [] false 0 (ringList x hb r) := by
  have h0 := h.all0
  refine ⟨updN_at st.row 0 [], updN_at st.hs 0 false, (fun e => by cases e), ?_, ?_, ?_⟩
  · show updN st.row 0 [] 1 = []
    rw [updN_ne _ _ (by omega)]; exact h.row1
  · show updN st.hs 0 false 1 = false
    rw [updN_ne _ _ (by omega)]; exact h.hs1
  · show st.com ++ allS st 0 = _
    rw [h.com, h0]; rfl
/-- All are in common: each is found there. -/
theorem Tw.where {st : SSt} {l : List Int} (h : Tw st [] false 0 l) {g : Int} (hg : g ∈ l) : whereV st 2 g = -1 ∧ whereB st 2 g = true := by
  have i0 : inRing st g 0 = false := by unfold inRing; rw [h.all0]; rfl
  have i1 : inRing st g 1 = false := by unfold inRing; rw [h.all1]; rfl
  have e : firstP (inRing st g) 2 = Option.none := firstP_none (fun j hj => by
    rcases Nat.lt_or_ge j 1 with h | h
    · obtain rfl : j = 0 := by omega
      exact i0
    · obtain rfl : j = 1 := by omega
      exact i1)
  have hc : st.com.contains g = true := by rw [h.com]; simpa using hg
  exact ⟨by unfold whereV; rw [e]; simp only [hc]; rfl, by unfold whereB; rw [e]; exact hc⟩
theorem Tw.tot {st : SSt} {l : List Int} (h : Tw st [] false 0 l) : totS st 2 = l.length := by
  have e : totS st 2 = st.com.length + (0 + (allS st 0).length + (allS st 1).length) := rfl
  rw [e, h.com, h.all0, h.all1]; rfl
theorem Tw.fair {st : SSt} {g : Int} {t : List Int} (h : Tw st [] false 0 (g :: t)) : pickV st 1 2 61 0 = g ∧ pickB st 1 2 61 0 = true ∧ Tw (pickS st 1 2 61 0) [] false 0 t := by
  obtain ⟨a, b, c⟩ := pick_fair (st := st) (p := 1) (n := 2) (vic := 0) (tick := 61) (decide_eq_true ⟨by omega, by decide, by rw [h.com]; simp⟩)
  exact ⟨by rw [a, h.com]; rfl, b, by rw [c]; exact ⟨h.row0, h.hs0, h.nx0, h.row1, h.hs1, by show st.com.tail = t; rw [h.com]; rfl⟩⟩
theorem Tw.nobody {st : SSt} (h : Tw st [] false 0 []) : pickV st 1 2 61 0 = 0 ∧ pickB st 1 2 61 0 = false ∧ Tw (pickS st 1 2 61 0) [] false 0 [] := by
  obtain ⟨a, b, c⟩ := pick_steal (st := st) (p := 1) (n := 2) (tick := 61) (vic := 0) (by rw [h.hs1, h.row1]; rfl) h.com
  have e : stealV st 1 2 ((0 : Nat) : Int) = stealS st 1 0 := stealV_yes (by omega) (by omega)
  replace e : stealV st 1 2 0 = stealS st 1 0 := e
  rw [e] at a b c
  obtain ⟨_, f2, f3, f4⟩ := steal_at (st := st) (p := 1) (q := 0) (by omega)
  obtain ⟨_, g2, g3⟩ := steal_from (st := st) (p := 1) (q := 0)
  rw [h.row1, h.row0, h.hs0] at f3
  rw [h.row1, h.row0, h.hs0] at g2 g3
  have r1 : (stealS st 1 0).row 1 = [] := by rw [f3]; rfl
  have s1 : (stealS st 1 0).hs 1 = false := by rw [f2]; exact h.hs1
  rw [s1, r1] at a b
  obtain ⟨_, k2, k3, k4⟩ := getSt_at (st := stealS st 1 0) (p := 1)
  obtain ⟨_, m1, m2⟩ := getSt_ne (st := stealS st 1 0) (p := 1) (j := 0) (by omega)
  refine ⟨a, b, ?_⟩
  rw [c]
  exact ⟨by rw [m2, g3]; rfl, by rw [m1, g2]; rfl, (fun e => by cases e), by rw [k3, s1, r1]; rfl, k2, by rw [k4, f4]; exact h.com⟩
set_option maxRecDepth 100000 in
set_option maxHeartbeats 2000000 in
theorem drops_walk (a0 a1 : Int) (w : World) :
    Calls Try.prog 14 #[.int .i64 a0, .int .i64 a1] w fun e w' => e = .returned (.bool true) ∧ Below w.heap.size w w' := by
  obtain ⟨k, hk, hkl⟩ := umod a0 101 (by decide) (by decide)
  obtain ⟨u, hu, hul⟩ := umod a1 100 (by decide) (by decide)
  obtain ⟨x, hx⟩ : ∃ x : Nat, 1000 + u = x := ⟨_, rfl⟩
  have hx1 : (1000 : Int) + (u : Int) = (x : Int) := by omega
  have hxw : wrap64 ((1000 : Int) + (u : Int)) = (x : Int) := by rw [hx1]; exact IntWalk.wrap64_in _ (by omega)
  have HK := Lib.hid hk
  have HU := Lib.hid hu
  have HX1 := Lib.hid hx1
  have HXW := Lib.hid hxw
  clear hk hu hx hx1 hxw
  go_enter Try.func14, Try.ntmps14
  go_wp2_with fail
  refine (sdNew w 2 (by omega) (by omega)).mono ?_; rintro e w1 hn
  obtain ⟨s, D, rfl, h0⟩ := hn
  go_wp2_with fail
  try rw [HK.out]
  go_loopw [8, 9] (fun s8 s9 wr => ∃ (i : Nat) (v : Value) (D : List Nat) (st : SSt), s9 = .int .i64 i ∧ v = s8 ∧ i ≤ k ∧ SD w wr D s 2 st ∧ Tw st (rng 0 i) false 0 [] ∧ OwD wr w.heap.size D v (rng 0 i)) (fun _ s9 _ => k - (intOf s9).toNat)
  case atStart => exact ⟨0, _, D, _, rfl, rfl, by omega, h0, Tw.init, OwD.nil _ _ _⟩
  case round =>
    clear h0
    obtain ⟨i, v, D, st, rfl, rfl, hik, h1, hT, ho⟩ := hrel
    by_cases hlt : i < k
    · have t1 : decide ((i : Int) < k) = true := decide_eq_true (by omega)
      have hT2 := hT.ready (i : Int) (by rw [rng_len]; omega)
      rw [← rng_zero] at hT2
      have hc := hT.com
      clear hT
      go_wp2_with fail
      refine (sdReady (i := 0) (i : Int) false h1 (by omega) (by rw [hc]; simp)).mono ?_; rintro e w2 ⟨rfl, D2, h2, c2, n2⟩
      have ho2 := ho.sdt c2 n2
      have ho3 := ho2.still ((Ch.refl [] w2).alloc (.cells #[.int .i64 (i : Int)] 3))
      have h3 := h2.still ((Ch.refl [] w2).alloc (.cells #[.int .i64 (i : Int)] 3))
      clear h1 ho c2 n2 hc ho2 h2
      go_wp2_with (at_builtin; refine wpList_app rfl (.tmp 41) (.tmp 43) rfl w.heap.size v (rng 0 i) rfl ho3.1 h3.ch.size _ [(i : Int)] rfl (srcOne w2 (i : Int)) (by rw [rng_len]; simp; omega) ?_)
      intro v4 w4 o4 c4 n4
      have h4 := OwD.turn h3 ho3 c4
      have ho4 := OwD.new ho3 o4 n4 (fun q hq => (h3.bd q hq).2)
      rw [← rng_zero] at ho4
      clear h3 ho3 o4 c4 n4
      go_wp2_with fail
      go_roundw
      case rel => exact ⟨i + 1, v4, D2, _, by go_num, rfl, by omega, h4, hT2, ho4⟩
      case measure => simp [intOf]; omega
    · obtain rfl : i = k := by omega
      have t1 : decide ((i : Int) < i) = false := decide_eq_false (by omega)
      obtain ⟨k, hk⟩ : ∃ k, i = k := ⟨_, rfl⟩
      rw [hk] at hT hkl ho t1 ⊢
      clear hk hik hlt
      by_cases hk0 : k = 0
      · subst hk0
        obtain ⟨W, hW⟩ : ∃ W, rng 0 0 = W := ⟨_, rfl⟩
        have hWl : W.length ≤ 200 := by rw [← hW, rng_len]; omega
        have hA : allS st 0 = W := by rw [hT.all0, ← hW]; rfl
        rw [hW] at ho
        have h3 := h1
        obtain ⟨st3, hst3⟩ : ∃ st3, st = st3 := ⟨_, rfl⟩
        rw [hst3] at h3 hT hA
        obtain ⟨r, hb, x, hT⟩ : ∃ r hb x, Tw st3 r hb x [] := ⟨_, _, _, hT⟩
        clear h1 hst3 hW
        obtain ⟨a3, cap3, rfl, hcp3, hrd3⟩ := ho.rd
        obtain ⟨m, hm⟩ : ∃ m, W.length = m := ⟨_, rfl⟩
        have hm200 : m ≤ 200 := by omega
        have HM := Lib.hid hm
        rw [hm] at ho hcp3 ⊢
        clear hm hWl
        go_wp2_with fail
        refine (sdLocal (i := 0) h3 (by omega)).mono ?_; rintro e w4 ⟨v4, rfl, o4, c4⟩
        rw [hA] at o4
        obtain ⟨a4, cap4, rfl, _, _, hrd4⟩ := o4.form
        replace h3 := h3.still c4
        replace ho := ho.still c4
        have hrd3' := hrd3.keep c4 (by simp)
        have hI := ints_same a4 a3 W cap4 cap3 w4 hrd4 hrd3' (by rw [HM.out]; unfold maxLen; omega)
        rw [HM.out] at hI ⊢
        clear c4 o4 hrd3 hrd4 hrd3'
        go_wp2_with fail
        refine hI.mono ?_; rintro e w5 ⟨rfl, nq, rfl⟩
        have c5 := (Ch.refl [] w4).drewN nq
        replace h3 := h3.still c5
        replace ho := ho.still c5
        have hD := hT.drop
        have hcm := hT.com
        clear hI c5
        go_wp2_with fail
        refine (sdDrop (i := 0) h3 (by omega) (by rw [hcm]; simp)).mono ?_; rintro e w6 ⟨rfl, D6, h6, c6, n6⟩
        rw [hA, HM.out]
        replace ho := ho.sdt c6 n6
        obtain ⟨st6, hst6⟩ : ∃ st6, dropS st3 0 = st6 := ⟨_, rfl⟩
        rw [hst6] at h6 hD
        rw [← hT.all0, hA] at hD
        clear h3 hT hA c6 n6 hst6 hcm
        have hl0 : (allS st6 0).length = 0 := by rw [hD.all0]; rfl
        have zm : ((m : Int) != (m : Int)) = false := by simp
        go_wp2_with fail
        refine (sdLocal (i := 0) h6 (by omega)).mono ?_; rintro e w7 ⟨v7, rfl, o7, c7⟩
        obtain ⟨a7, cap7, rfl, _⟩ := o7.form
        rw [hl0]
        replace h6 := h6.still c7
        replace ho := ho.still c7
        have hcl : st6.com.length ≤ 80000 := by rw [hD.com, HM.out]; omega
        have HCL := Lib.hid hcl
        have hcW := hD.com
        have HCW := Lib.hid hcW
        clear o7 c7 hl0 hcl hcW
        go_wp2_with fail
        refine (sdCommon h6 HCL.out).mono ?_; rintro e w8 ⟨v8, rfl, o8, c8⟩
        rw [HCW.out] at o8
        obtain ⟨a8, cap8, rfl, _, _, _, hrd8⟩ := o8.rd
        replace h6 := h6.still c8
        replace ho := ho.still c8
        obtain ⟨a3', cap3', e3, _, hrd3⟩ := ho.rd
        have hrd3' : Rd w8 a3 W := by
          rw [HM.out] at e3
          simp only [Value.slice.injEq] at e3
          obtain ⟨rfl, _, rfl⟩ := e3
          exact hrd3
        have hI := ints_same a8 a3 W cap8 cap3 w8 hrd8 hrd3' (by rw [HM.out]; unfold maxLen; omega)
        rw [HM.out] at hI ⊢
        clear c8 o8 hrd3 hrd3' hrd8 e3
        go_wp2_with fail
        refine hI.mono ?_; rintro e w9 ⟨rfl, nq2, rfl⟩
        have c9 := (Ch.refl [] w8).drewN nq2
        replace h6 := h6.still c9
        replace ho := ho.still c9
        have htt := hD.tot
        rw [HM.out] at htt
        have HTT := Lib.hid htt
        clear hI c9 htt
        go_wp2_with fail
        refine (sdLen h6 (by omega) HCL.out).mono ?_; rintro e w10 ⟨rfl, c10⟩
        rw [HTT.out]
        replace h6 := h6.still c10
        replace ho := ho.still c10
        clear c10
        go_wp2_with fail
        try clear zm
        clear HTT
        go_loopw [4, 11, 12, 13] (fun s4 s11 s12 s13 wr => ∃ i : Nat, s11 = .int .i64 i ∧ i ≤ m ∧ SD w wr D6 s 2 st6 ∧ OwD wr w.heap.size D6 (.slice a3 m cap3) W) (fun _ s11 _ _ _ => m - (intOf s11).toNat)
        case atStart => exact ⟨0, rfl, by omega, h6, ho⟩
        case round =>
          clear h6 ho
          obtain ⟨i, rfl, him, h7, ho⟩ := hrel
          by_cases hlt : i < m
          · have u1 : decide ((i : Int) < m) = true := decide_eq_true (by omega)
            have u2 : (i : Int) < m := by omega
            have u3 : (0 : Int) ≤ i := by omega
            obtain ⟨a9, cap9, e9, hcp9, hrd9⟩ := ho.rd
            rw [HM.out] at e9 hcp9
            simp only [Value.slice.injEq] at e9
            obtain ⟨rfl, -, rfl⟩ := e9
            obtain ⟨b9, o9, rfl, hc9⟩ := hrd9.at (i := i) (by rw [HM.out]; exact hlt)
            have d7 := hc9 i (by rw [HM.out]; exact hlt)
            obtain ⟨y, hy⟩ : ∃ y, gI W i = y := ⟨_, rfl⟩
            rw [hy] at d7
            have HY := Lib.hid hy
            clear hrd9 hc9 hy
            have hw := hD.where (g := y) (by rw [← HY.out]; exact gI_mem (by rw [HM.out]; exact hlt))
            have HW := Lib.hid hw
            clear hw
            go_wp2_with fail
            refine (sdWhere y h7 (by omega) HCL.out).mono ?_; rintro e wa ⟨rfl, ca⟩
            rw [HW.out.1, HW.out.2]
            replace h7 := h7.still ca
            replace ho := ho.still ca
            clear ca d7
            go_wp2_with fail
            go_roundw
            case rel => exact ⟨i + 1, by go_num, by omega, h7, ho⟩
            case measure => simp [intOf]; omega
          · obtain rfl : i = m := by omega
            have u1 : decide ((i : Int) < i) = false := decide_eq_false (by omega)
            have hD0 : Tw st6 [] false 0 (W.drop 0) := by rw [List.drop_zero]; exact hD
            clear hlt him
            go_wp2_with fail
            go_loopw [4, 14, 15, 16] (fun s4 s14 s15 s16 wr => ∃ (j : Nat) (D : List Nat) (st : SSt), s14 = .int .i64 j ∧ j ≤ i ∧ SD w wr D s 2 st ∧ Tw st [] false 0 (W.drop j) ∧ OwD wr w.heap.size D (.slice a3 i cap3) W) (fun _ s14 _ _ _ => i - (intOf s14).toNat)
            case atStart => exact ⟨0, _, _, rfl, by omega, h7, hD0, ho⟩
            case round =>
              clear h7 ho hD0
              obtain ⟨j, D, st, rfl, hji, h7, hTj, ho⟩ := hrel
              by_cases hlt : j < i
              · have u1 : decide ((j : Int) < i) = true := decide_eq_true (by omega)
                have u2 : (j : Int) < i := by omega
                have u3 : (0 : Int) ≤ j := by omega
                obtain ⟨a9, cap9, e9, hcp9, hrd9⟩ := ho.rd
                rw [HM.out] at e9 hcp9
                simp only [Value.slice.injEq] at e9
                obtain ⟨rfl, -, rfl⟩ := e9
                obtain ⟨b9, o9, rfl, hc9⟩ := hrd9.at (i := j) (by rw [HM.out]; exact hlt)
                have d7 := hc9 j (by rw [HM.out]; exact hlt)
                obtain ⟨y, hy⟩ : ∃ y, gI W j = y := ⟨_, rfl⟩
                rw [hy] at d7
                have HY := Lib.hid hy
                clear hrd9 hc9 hy
                have hdr : W.drop j = y :: W.drop (j + 1) := by
                  have := List.drop_eq_getElem_cons (l := W) (i := j) (by rw [HM.out]; exact hlt)
                  rw [this, ← HY.out, gI_at W j (by rw [HM.out]; exact hlt)]
                rw [hdr] at hTj
                have hF := hTj.fair
                have HF := Lib.hid hF
                have hcj : st.com.length ≤ 80000 := by rw [hTj.com, ← hdr, List.length_drop, HM.out]; omega
                have yy : (y != y) = false := by simp
                clear hF hdr hTj
                go_wp2_with fail
                refine (sdPick (i := 1) 61 0 h7 (by omega) hcj).mono ?_; rintro e wa ⟨rfl, Da, ha, ca, na⟩
                rw [HF.out.1, HF.out.2.1]
                replace ho := ho.sdt ca na
                obtain ⟨a8, cap8, e8, _, hrd8⟩ := ho.rd
                rw [HM.out] at e8
                simp only [Value.slice.injEq] at e8
                obtain ⟨rfl, -, rfl⟩ := e8
                obtain ⟨b8, o8, e8, hc8⟩ := hrd8.at (i := j) (by rw [HM.out]; exact hlt)
                cases e8
                have d8 := hc8 j (by rw [HM.out]; exact hlt)
                rw [HY.out] at d8
                clear h7 ca na d7 hrd8 hc8
                go_wp2_with fail
                go_roundw
                case rel => exact ⟨j + 1, Da, _, by go_num, by omega, ha, HF.out.2.2, ho⟩
                case measure => simp [intOf]; omega
              · obtain rfl : j = i := by omega
                have u1 : decide ((j : Int) < j) = false := decide_eq_false (by omega)
                rw [List.drop_eq_nil_of_le (by rw [HM.out]; exact Nat.le_refl _)] at hTj
                have hN := hTj.nobody
                have HN := Lib.hid hN
                have hcj : st.com.length ≤ 80000 := by rw [hTj.com]; simp
                clear hN hTj ho
                go_wp2_with fail
                refine (sdPick (i := 1) 61 0 h7 (by omega) hcj).mono ?_; rintro e wa ⟨rfl, Da, ha, -, -⟩
                rw [HN.out.1, HN.out.2.1]
                obtain ⟨sta, hsta⟩ : ∃ sta, pickS st 1 2 61 0 = sta := ⟨_, rfl⟩
                have hTa := HN.out.2.2
                rw [hsta] at ha hTa
                have hca : sta.com.length ≤ 80000 := by rw [hTa.com]; simp
                have hl1 : (allS sta 1).length = 0 := by rw [hTa.all1]; rfl
                have HL1 := Lib.hid hl1
                clear h7 hsta hTa HN hl1
                go_wp2_with fail
                refine (told27 wa).mono ?_; rintro e wb ⟨rfl, cb⟩
                replace ha := ha.still cb
                clear cb
                go_wp2_with fail
                refine (sdDrop (i := 1) ha (by omega) hca).mono ?_; rintro e wc ⟨rfl, Dc, hc, -, -⟩
                rw [HL1.out]
                clear ha
                go_wp2_with fail
                refine (sdDropNo 9 hc rfl).mono ?_; rintro e wd ⟨rfl, rfl⟩
                have hend := hc.ch.below (Nat.le_refl _) (by simp)
                clear hc
                go_wp2_with fail
                go_ret
                exact ⟨rfl, hend⟩
      · have t2 : decide ((k : Int) > 0) = true := decide_eq_true (by omega)
        have t3 : (0 : Int) < k := by omega
        have hc := hT.com
        have hT2 := hT.next (x : Int)
        clear hT
        go_wp2_with fail
        rw [HU.out]
        first
        | rw [HXW.out]
        | rw [HX1.out]
        refine (sdReady (i := 0) (x : Int) true h1 (by omega) (by rw [hc]; simp)).mono ?_; rintro e w2 ⟨rfl, D2, h2, c2, n2⟩
        have ho2 := ho.sdt c2 n2
        have ho3 := ho2.still ((Ch.refl [] w2).alloc (.cells #[.int .i64 (x : Int)] 3))
        have h3 := h2.still ((Ch.refl [] w2).alloc (.cells #[.int .i64 (x : Int)] 3))
        have hsz := h2.ch.size
        have hbd := h2.bd
        have hlit : OwI (w2.alloc (.cells #[.int .i64 (x : Int)] 3)) w.heap.size (.slice (some ⟨w2.heap.size, 0, none⟩) 1 1) [(x : Int)] := OwI.lit w2 w.heap.size [(x : Int)] hsz (by simp)
        clear h1 ho c2 n2 hc ho2 h2
        go_wp2_with (at_builtin; refine wpList_app rfl (.tmp 56) (.tmp 57) rfl w.heap.size _ [(x : Int)] rfl hlit h3.ch.size v (rng 0 k) rfl ho3.1.src (by rw [rng_len]; simp; omega) ?_)
        intro v4 w4 o4 c4 n4
        have h4 := h3.beside c4 (fun q hq hm => by
          have e : q = w2.heap.size := by simpa [Value.ownBlock] using hq
          have := (hbd q hm).2; omega) (fun q hq => by
          have e : q = w2.heap.size := by simpa [Value.ownBlock] using hq
          omega)
        have ho4 : OwD w4 w.heap.size D2 v4 ((x : Int) :: rng 0 k) := ⟨o4, fun q hq hm => by
          have := (hbd q hm).2
          rcases n4 with e | e
          · rw [e] at hq
            have e2 : w2.heap.size = q := by simpa [Value.ownBlock] using hq
            omega
          · have := e q hq
            simp at this
            omega⟩
        obtain ⟨W, hW⟩ : ∃ W, (x : Int) :: rng 0 k = W := ⟨_, rfl⟩
        have hWl : W.length ≤ 200 := by rw [← hW, List.length_cons, rng_len]; omega
        have hA : allS (readyS st 0 (x : Int) true) 0 = W := by rw [hT2.all0, ← hW]; rfl
        rw [hW] at ho4
        have ho := ho4
        have h3 := h4
        obtain ⟨st3, hst3⟩ : ∃ st3, readyS st 0 (x : Int) true = st3 := ⟨_, rfl⟩
        rw [hst3] at h3 hT2 hA
        obtain ⟨r, hb, x', hT⟩ : ∃ r hb x', Tw st3 r hb x' [] := ⟨_, _, _, hT2⟩
        clear h4 hst3 hW ho3 o4 c4 n4 hbd hlit hT2 ho4
        obtain ⟨a3, cap3, rfl, hcp3, hrd3⟩ := ho.rd
        obtain ⟨m, hm⟩ : ∃ m, W.length = m := ⟨_, rfl⟩
        have hm200 : m ≤ 200 := by omega
        have HM := Lib.hid hm
        rw [hm] at ho hcp3 ⊢
        clear hm hWl
        go_wp2_with fail
        refine (sdLocal (i := 0) h3 (by omega)).mono ?_; rintro e w4 ⟨v4, rfl, o4, c4⟩
        rw [hA] at o4
        obtain ⟨a4, cap4, rfl, _, _, hrd4⟩ := o4.form
        replace h3 := h3.still c4
        replace ho := ho.still c4
        have hrd3' := hrd3.keep c4 (by simp)
        have hI := ints_same a4 a3 W cap4 cap3 w4 hrd4 hrd3' (by rw [HM.out]; unfold maxLen; omega)
        rw [HM.out] at hI ⊢
        clear c4 o4 hrd3 hrd4 hrd3'
        go_wp2_with fail
        refine hI.mono ?_; rintro e w5 ⟨rfl, nq, rfl⟩
        have c5 := (Ch.refl [] w4).drewN nq
        replace h3 := h3.still c5
        replace ho := ho.still c5
        have hD := hT.drop
        have hcm := hT.com
        clear hI c5
        go_wp2_with fail
        refine (sdDrop (i := 0) h3 (by omega) (by rw [hcm]; simp)).mono ?_; rintro e w6 ⟨rfl, D6, h6, c6, n6⟩
        rw [hA, HM.out]
        replace ho := ho.sdt c6 n6
        obtain ⟨st6, hst6⟩ : ∃ st6, dropS st3 0 = st6 := ⟨_, rfl⟩
        rw [hst6] at h6 hD
        rw [← hT.all0, hA] at hD
        clear h3 hT hA c6 n6 hst6 hcm
        have hl0 : (allS st6 0).length = 0 := by rw [hD.all0]; rfl
        have zm : ((m : Int) != (m : Int)) = false := by simp
        go_wp2_with fail
        refine (sdLocal (i := 0) h6 (by omega)).mono ?_; rintro e w7 ⟨v7, rfl, o7, c7⟩
        obtain ⟨a7, cap7, rfl, _⟩ := o7.form
        rw [hl0]
        replace h6 := h6.still c7
        replace ho := ho.still c7
        have hcl : st6.com.length ≤ 80000 := by rw [hD.com, HM.out]; omega
        have HCL := Lib.hid hcl
        have hcW := hD.com
        have HCW := Lib.hid hcW
        clear o7 c7 hl0 hcl hcW
        go_wp2_with fail
        refine (sdCommon h6 HCL.out).mono ?_; rintro e w8 ⟨v8, rfl, o8, c8⟩
        rw [HCW.out] at o8
        obtain ⟨a8, cap8, rfl, _, _, _, hrd8⟩ := o8.rd
        replace h6 := h6.still c8
        replace ho := ho.still c8
        obtain ⟨a3', cap3', e3, _, hrd3⟩ := ho.rd
        have hrd3' : Rd w8 a3 W := by
          rw [HM.out] at e3
          simp only [Value.slice.injEq] at e3
          obtain ⟨rfl, _, rfl⟩ := e3
          exact hrd3
        have hI := ints_same a8 a3 W cap8 cap3 w8 hrd8 hrd3' (by rw [HM.out]; unfold maxLen; omega)
        rw [HM.out] at hI ⊢
        clear c8 o8 hrd3 hrd3' hrd8 e3
        go_wp2_with fail
        refine hI.mono ?_; rintro e w9 ⟨rfl, nq2, rfl⟩
        have c9 := (Ch.refl [] w8).drewN nq2
        replace h6 := h6.still c9
        replace ho := ho.still c9
        have htt := hD.tot
        rw [HM.out] at htt
        have HTT := Lib.hid htt
        clear hI c9 htt
        go_wp2_with fail
        refine (sdLen h6 (by omega) HCL.out).mono ?_; rintro e w10 ⟨rfl, c10⟩
        rw [HTT.out]
        replace h6 := h6.still c10
        replace ho := ho.still c10
        clear c10
        go_wp2_with fail
        try clear zm
        clear HTT
        go_loopw [4, 11, 12, 13] (fun s4 s11 s12 s13 wr => ∃ i : Nat, s11 = .int .i64 i ∧ i ≤ m ∧ SD w wr D6 s 2 st6 ∧ OwD wr w.heap.size D6 (.slice a3 m cap3) W) (fun _ s11 _ _ _ => m - (intOf s11).toNat)
        case atStart => exact ⟨0, rfl, by omega, h6, ho⟩
        case round =>
          clear h6 ho
          obtain ⟨i, rfl, him, h7, ho⟩ := hrel
          by_cases hlt : i < m
          · have u1 : decide ((i : Int) < m) = true := decide_eq_true (by omega)
            have u2 : (i : Int) < m := by omega
            have u3 : (0 : Int) ≤ i := by omega
            obtain ⟨a9, cap9, e9, hcp9, hrd9⟩ := ho.rd
            rw [HM.out] at e9 hcp9
            simp only [Value.slice.injEq] at e9
            obtain ⟨rfl, -, rfl⟩ := e9
            obtain ⟨b9, o9, rfl, hc9⟩ := hrd9.at (i := i) (by rw [HM.out]; exact hlt)
            have d7 := hc9 i (by rw [HM.out]; exact hlt)
            obtain ⟨y, hy⟩ : ∃ y, gI W i = y := ⟨_, rfl⟩
            rw [hy] at d7
            have HY := Lib.hid hy
            clear hrd9 hc9 hy
            have hw := hD.where (g := y) (by rw [← HY.out]; exact gI_mem (by rw [HM.out]; exact hlt))
            have HW := Lib.hid hw
            clear hw
            go_wp2_with fail
            refine (sdWhere y h7 (by omega) HCL.out).mono ?_; rintro e wa ⟨rfl, ca⟩
            rw [HW.out.1, HW.out.2]
            replace h7 := h7.still ca
            replace ho := ho.still ca
            clear ca d7
            go_wp2_with fail
            go_roundw
            case rel => exact ⟨i + 1, by go_num, by omega, h7, ho⟩
            case measure => simp [intOf]; omega
          · obtain rfl : i = m := by omega
            have u1 : decide ((i : Int) < i) = false := decide_eq_false (by omega)
            have hD0 : Tw st6 [] false 0 (W.drop 0) := by rw [List.drop_zero]; exact hD
            clear hlt him
            go_wp2_with fail
            go_loopw [4, 14, 15, 16] (fun s4 s14 s15 s16 wr => ∃ (j : Nat) (D : List Nat) (st : SSt), s14 = .int .i64 j ∧ j ≤ i ∧ SD w wr D s 2 st ∧ Tw st [] false 0 (W.drop j) ∧ OwD wr w.heap.size D (.slice a3 i cap3) W) (fun _ s14 _ _ _ => i - (intOf s14).toNat)
            case atStart => exact ⟨0, _, _, rfl, by omega, h7, hD0, ho⟩
            case round =>
              clear h7 ho hD0
              obtain ⟨j, D, st, rfl, hji, h7, hTj, ho⟩ := hrel
              by_cases hlt : j < i
              · have u1 : decide ((j : Int) < i) = true := decide_eq_true (by omega)
                have u2 : (j : Int) < i := by omega
                have u3 : (0 : Int) ≤ j := by omega
                obtain ⟨a9, cap9, e9, hcp9, hrd9⟩ := ho.rd
                rw [HM.out] at e9 hcp9
                simp only [Value.slice.injEq] at e9
                obtain ⟨rfl, -, rfl⟩ := e9
                obtain ⟨b9, o9, rfl, hc9⟩ := hrd9.at (i := j) (by rw [HM.out]; exact hlt)
                have d7 := hc9 j (by rw [HM.out]; exact hlt)
                obtain ⟨y, hy⟩ : ∃ y, gI W j = y := ⟨_, rfl⟩
                rw [hy] at d7
                have HY := Lib.hid hy
                clear hrd9 hc9 hy
                have hdr : W.drop j = y :: W.drop (j + 1) := by
                  have := List.drop_eq_getElem_cons (l := W) (i := j) (by rw [HM.out]; exact hlt)
                  rw [this, ← HY.out, gI_at W j (by rw [HM.out]; exact hlt)]
                rw [hdr] at hTj
                have hF := hTj.fair
                have HF := Lib.hid hF
                have hcj : st.com.length ≤ 80000 := by rw [hTj.com, ← hdr, List.length_drop, HM.out]; omega
                have yy : (y != y) = false := by simp
                clear hF hdr hTj
                go_wp2_with fail
                refine (sdPick (i := 1) 61 0 h7 (by omega) hcj).mono ?_; rintro e wa ⟨rfl, Da, ha, ca, na⟩
                rw [HF.out.1, HF.out.2.1]
                replace ho := ho.sdt ca na
                obtain ⟨a8, cap8, e8, _, hrd8⟩ := ho.rd
                rw [HM.out] at e8
                simp only [Value.slice.injEq] at e8
                obtain ⟨rfl, -, rfl⟩ := e8
                obtain ⟨b8, o8, e8, hc8⟩ := hrd8.at (i := j) (by rw [HM.out]; exact hlt)
                cases e8
                have d8 := hc8 j (by rw [HM.out]; exact hlt)
                rw [HY.out] at d8
                clear h7 ca na d7 hrd8 hc8
                go_wp2_with fail
                go_roundw
                case rel => exact ⟨j + 1, Da, _, by go_num, by omega, ha, HF.out.2.2, ho⟩
                case measure => simp [intOf]; omega
              · obtain rfl : j = i := by omega
                have u1 : decide ((j : Int) < j) = false := decide_eq_false (by omega)
                rw [List.drop_eq_nil_of_le (by rw [HM.out]; exact Nat.le_refl _)] at hTj
                have hN := hTj.nobody
                have HN := Lib.hid hN
                have hcj : st.com.length ≤ 80000 := by rw [hTj.com]; simp
                clear hN hTj ho
                go_wp2_with fail
                refine (sdPick (i := 1) 61 0 h7 (by omega) hcj).mono ?_; rintro e wa ⟨rfl, Da, ha, -, -⟩
                rw [HN.out.1, HN.out.2.1]
                obtain ⟨sta, hsta⟩ : ∃ sta, pickS st 1 2 61 0 = sta := ⟨_, rfl⟩
                have hTa := HN.out.2.2
                rw [hsta] at ha hTa
                have hca : sta.com.length ≤ 80000 := by rw [hTa.com]; simp
                have hl1 : (allS sta 1).length = 0 := by rw [hTa.all1]; rfl
                have HL1 := Lib.hid hl1
                clear h7 hsta hTa HN hl1
                go_wp2_with fail
                refine (told27 wa).mono ?_; rintro e wb ⟨rfl, cb⟩
                replace ha := ha.still cb
                clear cb
                go_wp2_with fail
                refine (sdDrop (i := 1) ha (by omega) hca).mono ?_; rintro e wc ⟨rfl, Dc, hc, -, -⟩
                rw [HL1.out]
                clear ha
                go_wp2_with fail
                refine (sdDropNo 9 hc rfl).mono ?_; rintro e wd ⟨rfl, rfl⟩
                have hend := hc.ch.below (Nat.le_refl _) (by simp)
                clear hc
                go_wp2_with fail
                go_ret
                exact ⟨rfl, hend⟩
end Go.Proofs.Yteghenfdncgpeaa
