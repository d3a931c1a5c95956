/-
  The walk of the statement QueueDels: the law returns true at every input. Conditions: none beyond how the argument is read.
-/
import Derived.Test.YteghenfdncgpeaaQueueTold
import Derived.Test.YteghenfdncgpeaaQueueDel
import Derived.Test.YteghenfdncgpeaaOut
import Derived.Deep.LoopGhost
namespace Go.Proofs.Yteghenfdncgpeaa
open Go.RowKit
/-- A first such number goes. -/
theorem erase_first (p q : List Int) (v : Int) (h : v ∉ p) : (p ++ v :: q).erase v = p ++ q := by
  rw [List.erase_append_right _ h]
  simp
theorem outAny (B : Nat) (v : Value) (xs : List Int) (x : Int) (w : World) (h : OwI w B v xs) (hB : B ≤ w.heap.size) (hl : xs.length ≤ 100000) :
    Calls Try.prog 36 #[v, .int .i64 x] w fun e w' => ∃ v', e = .returned (.tuple #[v', .bool (xs.contains x)]) ∧ OwI w' B v' (xs.erase x) ∧ NewAt w v v' ∧ Ch [] w w' := by
  obtain ⟨a, cap, rfl, h1, h2, h3⟩ := h.form
  rcases split_first xs x with hx | ⟨p, q, rfl, hx⟩
  · refine (outNone a xs x xs.length cap w h3 hx rfl (by omega)).mono ?_
    rintro e w' ⟨rfl, rfl⟩
    exact ⟨_, by rw [show xs.contains x = false by simpa using hx], by rw [List.erase_of_not_mem hx]; exact h, .inl rfl, Ch.refl _ _⟩
  · refine (outFound a p q x (p ++ x :: q).length cap w h3 hx rfl h1 (by omega)).mono ?_
    rintro e w' ⟨v', rfl, h4, h5⟩
    exact ⟨v', by rw [show (p ++ x :: q).contains x = true by simp], by rw [erase_first p q x hx]; exact h4.mono hB, .inr h4.2, h5⟩
theorem qDelAny (b : Nat) (v : Value) (xs : List Int) (x : Int) (w : World) (h : QAt w b v xs) (hb : ∀ k, v.ownBlock = some k → b < k) (hl : xs.length ≤ 100000) :
    Calls Try.prog 37 #[.pointer (some ⟨b, 0, none⟩), .int .i64 x] w fun e w' =>
      e = .returned (.bool (xs.contains x)) ∧ ∃ v', QAt w' b v' (xs.erase x) ∧ v'.ownBlock = v.ownBlock ∧ Ch (b :: v.ownBlock.toList) w w' := by
  rcases split_first xs x with hx | ⟨p, q, rfl, hx⟩
  · refine (qDelNone b v xs x w h hx hl).mono ?_
    rintro e w' ⟨rfl, rfl⟩
    exact ⟨by rw [show xs.contains x = false by simpa using hx], v, by rw [List.erase_of_not_mem hx]; exact h, rfl, Ch.refl _ _⟩
  · refine (qDelFound b v p q x w h hb hx hl).mono ?_
    rintro e w' ⟨rfl, v', h4, h5, h6⟩
    exact ⟨by rw [show (p ++ x :: q).contains x = true by simp], v', by rw [erase_first p q x hx]; exact h4, h5, h6⟩
/-- The number below 10 that the law makes of one. -/
def dg (x : Int) : Int := wrap64 ((IntKind.u64.wrap x).tmod 10)
set_option maxRecDepth 100000 in
set_option maxHeartbeats 2000000 in
theorem dels_walk (a : Option Addr) (xs : List Int) (c : Nat) (y : Int) (w : World) (hr : Rd w a xs) (h1 : 0 < xs.length) (h2 : xs.length ≤ 60) :
    Calls Try.prog 10 #[.slice a xs.length c, .int .i64 y] w fun e w' => e = .returned (.bool true) ∧ Below w.heap.size w w' := by
  obtain ⟨n, hn⟩ : ∃ n, xs.length = n := ⟨_, rfl⟩
  rw [hn] at h1 h2 ⊢
  have HN := Lib.hid hn
  clear hn
  have t1 : ¬ n = 0 := by omega
  have t2 : ((n : Int) == 0) = false := by rw [beq_eq_false_iff_ne]; omega
  go_enter Try.func10, Try.ntmps10
  go_wp2_with fail
  refine (qNew _).mono ?_; rintro e w1 ⟨rfl, hq1, c1⟩
  obtain ⟨b, hb⟩ : ∃ b, w.heap.size = b := ⟨_, rfl⟩
  rw [hb] at hq1 ⊢
  have HB := Lib.hid hb
  clear hb t1 t2
  go_wp2_with fail
  go_loopw [6, 7] (fun s6 s7 wr => ∃ k : Nat, s7 = .int .i64 k ∧ k ≤ n ∧ OwI wr (b + 1) s6 ((xs.map dg).take k) ∧ QAt wr b (.slice none 0 0) [] ∧ Ch [] w wr) (fun _ s7 _ => n - (intOf s7).toNat)
  case atStart => exact ⟨0, rfl, by omega, OwI.nil _ _, hq1, c1⟩
  case round =>
    clear hq1 c1
    obtain ⟨k, rfl, hk, hO, hQ, hc⟩ := hrel
    by_cases hlt : k < n
    · obtain ⟨ba, oa, rfl, hcell⟩ := (hr.keep hc (by simp)).at (i := k) (by rw [HN.out]; exact hlt)
      have d1 := hcell k (by rw [HN.out]; exact hlt)
      clear hcell
      have hg : gI xs k = xs[k]'(by rw [HN.out]; exact hlt) := gI_at _ _ _
      obtain ⟨u, hu⟩ : ∃ u, gI xs k = u := ⟨_, rfl⟩
      rw [hu] at d1
      have HU := Lib.hid hu
      clear hu hg
      have hbs : b + 1 ≤ wr.heap.size := hQ.1.lt
      have hO1 := hO.alloc (.cells #[.int .i64 (dg u)] 3)
      go_wp2_with (at_builtin; refine wpList_app rfl (.tmp 31) (.tmp 39) rfl (b + 1) u6 ((xs.map dg).take k) rfl hO1 (by simp; omega) _ [dg u] rfl (srcOne _ (dg u)) (by simp; omega) ?_)
      intro v' w2 hv' c2 f2
      go_wp2
      go_roundw
      case rel =>
        refine ⟨k + 1, by go_num, by omega, ?_, ?_, ?_⟩
        · rw [List.take_succ_eq_append_getElem (by rw [List.length_map, HN.out]; exact hlt), List.getElem_map, ← gI_at, HU.out]
          exact hv'
        · exact (hQ.keep ((Ch.refl [] wr).alloc _) (by simp) (by simp)).keep c2 (by intro hq; have := hO.2 b (by simpa using hq); omega) (by intro q _ hh; simp [Value.ownBlock] at hh)
        · exact (hc.alloc _).transT c2 (by intro q hq; exact .inr (by have := hO.2 q (by simpa using hq); have := HB.out; omega))
      case measure => simp [intOf]; omega
    · obtain rfl : k = n := by omega
      clear hlt
      rw [List.take_of_length_le (by rw [List.length_map, HN.out]; omega)] at hO
      obtain ⟨D, hD⟩ : ∃ D, xs.map dg = D := ⟨_, rfl⟩
      have hDl : D.length = k := by rw [← hD, List.length_map, HN.out]
      rw [hD] at hO
      have HDL := Lib.hid hDl
      clear hD hDl
      have hP := qPut b (.slice none 0 0) [] u6 D wr hQ (by simp [Value.ownBlock]) hO.src (by rw [HDL.out]; simp; omega)
      go_wp2_with fail
      refine hP.mono ?_; rintro e w2 ⟨rfl, vq, hQ2, c2, f2⟩
      rw [List.nil_append] at hQ2
      have hO2 : OwI w2 (b + 1) u6 D := hO.keepLt c2 (by intro q hq; simp [Value.ownBlock] at hq; omega)
      have hvq : ∀ q, vq.ownBlock = some q → wr.heap.size ≤ q := by
        intro q hq
        rcases f2 with f | f
        · rw [f] at hq; simp [Value.ownBlock] at hq
        · exact f q hq
      have hu6 : ∀ q, u6.ownBlock = some q → q < wr.heap.size := hO.lt
      have hbr : b < wr.heap.size := hQ.1.lt
      have hcw2 : Ch [] w w2 := hc.transT c2 (by intro q hq; simp [Value.ownBlock] at hq; subst hq; exact .inr (by have := HB.out; omega))
      obtain ⟨x, hx⟩ : ∃ x, wrap64 ((IntKind.u64.wrap y).tmod 11) = x := ⟨_, rfl⟩
      obtain ⟨r, hrr⟩ : ∃ r, D.contains x = r := ⟨_, rfl⟩
      have hout := outAny (b + 1) u6 D x w2 hO2 (by have := c2.size; omega) (by rw [HDL.out]; omega)
      rw [hrr] at hout
      have HRR := Lib.hid hrr
      have HOUT := Lib.hid hout
      have HVQ := Lib.hid hvq
      have HU6 := Lib.hid hu6
      have HX := Lib.hid hx
      clear hP f2 hout hrr hvq hu6 hx hQ
      go_wp2_with fail
      rw [HX.out]
      refine HOUT.out.mono ?_; rintro e w3 ⟨v9, rfl, o9, f9, c9⟩
      clear HOUT HX
      have hQ3 := hQ2.keep c9 (by simp) (by simp)
      have hdel := qDelAny b vq D x w3 hQ3 (fun q hq => by have := HVQ.out q hq; omega) (by rw [HDL.out]; omega)
      rw [HRR.out] at hdel
      have HDEL := Lib.hid hdel
      obtain ⟨R, hR⟩ : ∃ R, D.erase x = R := ⟨_, rfl⟩
      rw [hR] at o9
      have HR := Lib.hid hR
      clear hdel hR
      go_wp2_with fail
      refine HDEL.out.mono ?_; rintro e w4 ⟨rfl, vd, hQ4, f4, c4⟩
      rw [HR.out] at hQ4
      have hv9q : ∀ q, v9.ownBlock = some q → vq.ownBlock ≠ some q := by
        intro q hq he
        have h1 := HVQ.out q he
        have h2 := hQ2.2.lt q he
        rcases f9 with f | f
        · have := HU6.out q (by rw [← f]; exact hq)
          omega
        · have := f q hq
          omega
      have o9' : OwI w4 (b + 1) v9 R := o9.keep c4 (by
        intro q hq he
        simp only [List.mem_cons, Option.mem_toList] at hq
        rcases hq with rfl | hq
        · have := o9.2 _ he; omega
        · exact hv9q q he hq)
      obtain ⟨m, hm⟩ : ∃ m, R.length = m := ⟨_, rfl⟩
      have hmk : m ≤ k := by
        rw [← hm, ← HR.out, ← HDL.out]
        exact List.Sublist.length_le List.erase_sublist
      have hvdb : ∀ q, vd.ownBlock = some q → b < q := by
        intro q hq
        have := HVQ.out q (by rw [← f4]; exact hq)
        omega
      have hcw4 : Ch [] w w4 := (hcw2.trans c9).transT c4 (by
        intro q hq
        simp only [List.mem_cons, Option.mem_toList] at hq
        rcases hq with rfl | hq
        · exact .inr (by have := HB.out; omega)
        · exact .inr (by have := HVQ.out q hq; have := HB.out; omega))
      have hall := qAll b vd R w4 hQ4 (by rw [hm]; omega)
      have HM := Lib.hid hm
      clear HDEL hv9q hQ2 hQ3 hO2 hO HU6 f9 hcw2 c9 c4 c2 o9 HDL hm hc HVQ f4
      go_wp2_with fail
      refine hall.mono ?_; rintro e w5 ⟨va, rfl, oa, c5⟩
      clear hall
      have o95 := o9'.keep c5 (by simp)
      obtain ⟨x9, y9, he9, e1, e2, r9⟩ := o95.form
      subst he9
      obtain ⟨xa, ya, hea, e3, e4, e5, ra⟩ := oa.rd
      subst hea
      have hI := ints_same xa x9 R ya y9 w5 ra r9 (by rw [HM.out]; unfold maxLen; omega)
      rw [HM.out] at hI e1 e3 e4 ⊢
      clear e1 e2 e3 e4 e5 ra oa
      go_wp2_with fail
      refine hI.mono ?_; rintro e w6 ⟨rfl, nq, rfl⟩
      obtain ⟨W, hW⟩ : ∃ W, w5.drewN nq = W := ⟨_, rfl⟩
      have oW : OwI W (b + 1) (.slice x9 m y9) R := by rw [← hW, ← HM.out]; exact ⟨o95.1.drewN nq, o95.2⟩
      have qW : QAt W b vd R := by rw [← hW]; exact QAt.keep hQ4 (c5.drewN nq) (by simp) (by simp)
      have cW : Ch [] w W := by rw [← hW]; exact (hcw4.trans c5).drewN nq
      obtain ⟨G, hG⟩ : ∃ G, W.heap.size = G := ⟨_, rfl⟩
      have h9G : ∀ q, (Value.slice x9 m y9).ownBlock = some q → q < G := by rw [← hG]; exact oW.lt
      have hbG : b < G := by rw [← hG]; exact qW.1.lt
      have H9 := Lib.hid h9G
      have HG := Lib.hid hG
      have HVD := Lib.hid hvdb
      rw [hW]
      clear hI o95 o9' hQ4 hcw4 c5 r9 hW hG h9G hvdb hbr
      go_wp2_with fail
      go_loopg [11] m (fun r s11 wx => ∃ (d : Nat) (vg : Value), d + r = m ∧ OwI wx G s11 (R.take d) ∧ QAt wx b vg (R.drop d) ∧ (∀ q, vg.ownBlock = some q → b < q) ∧ (∀ q, s11.ownBlock = some q → vg.ownBlock ≠ some q) ∧ OwI wx (b + 1) (.slice x9 m y9) R ∧ Ch [] w wx ∧ G ≤ wx.heap.size)
      case atStart => exact ⟨0, vd, by omega, OwI.nil _ _, qW, HVD.out, by simp [Value.ownBlock], oW, cW, by rw [HG.out]; exact Nat.le_refl _⟩
      case round =>
        clear oW qW cW
        obtain ⟨d, vg, hd, hg1, hg2, hg3, hg4, hg5, hg6, hg7⟩ := hrel
        obtain ⟨L, hL⟩ : ∃ L, R.drop d = L := ⟨_, rfl⟩
        have hLl : L.length = gk := by rw [← hL, List.length_drop, HM.out]; omega
        rw [hL] at hg2
        have hLen := qLen b vg L _ hg2
        rw [hLl] at hLen
        have HL := Lib.hid hL
        have HLL := Lib.hid hLl
        have HG3 := Lib.hid hg3
        have HG4 := Lib.hid hg4
        clear hL hLl hg3 hg4
        by_cases hlt : 0 < gk
        · obtain ⟨n, hn⟩ : ∃ n : Nat, (n : Int) = min (min ((gk : Int) / max 3 1 + 1) (max 5 0)) (min 128 (gk : Int)) := ⟨min (min (gk / 3 + 1) 5) (min 128 gk), by rw [show max (3 : Int) 1 = 3 by decide, show max (5 : Int) 0 = 5 by decide]; omega⟩
          have hget := qGet b vg L 3 5 n _ hg2 HG3.out (by rw [HLL.out]; omega) (by rw [HLL.out]; exact hn)
          rw [show max (3 : Int) 1 = 3 by decide, show max (5 : Int) 0 = 5 by decide] at hn
          have n1 : 1 ≤ n := by omega
          have n2 : n ≤ gk := by omega
          clear hn
          go_wp2_with fail
          refine hLen.mono ?_; rintro e w7 ⟨rfl, rfl⟩
          clear hLen
          go_wp2_with fail
          refine hget.mono ?_; rintro e w8 ⟨v1, v2, rfl, o8, h8, f8, c8⟩
          clear hget
          have htl : (L.take n).length = n := by rw [List.length_take, HLL.out]; omega
          have g8 := hg1.keepLt c8 (by intro q hq; simp at hq; omega)
          have hsz := c8.size
          have src8 : Src Try.prog 1 25 v1 (L.take n).length ((L.take n).map (Value.int .i64)) w8 := by
            rw [htl]
            exact o8.src Try.underlying25 (by intro u hu; obtain ⟨q, _, rfl⟩ := List.mem_map.1 hu; rfl)
          have hsum : (R.take d).length + (L.take n).length ≤ 60 := by rw [htl, List.length_take, HM.out]; omega
          have HTL := Lib.hid htl
          clear htl
          go_wp2_with (at_builtin; refine wpList_app rfl (.tmp 69) (.tmp 71) rfl G u11 (R.take d) rfl g8 (by omega) v1 (L.take n) rfl src8 (by omega) ?_)
          intro v' w9 hv' c9 f9
          have e9 : R.take d ++ L.take n = R.take (d + n) := by rw [← HL.out, List.take_add]
          have e9l : (R.take (d + n)).length = d + n := by rw [List.length_take, HM.out]; omega
          rw [e9] at hv'
          obtain ⟨xv, yv, hev, k1, k2, _⟩ := hv'.form
          rw [e9l] at hev k1
          subst hev
          have HE9 := Lib.hid e9l
          clear e9 hsum e9l src8
          have dn : d + n ≤ 60 := by omega
          go_wp2
          go_roundg (gk - n)
          case measure => omega
          case rel =>
            have hbw : b < w7.heap.size := hg2.1.lt
            have u11b : ∀ k ∈ u11.ownBlock.toList, G ≤ k := fun k hk => hg1.2 k (by simpa using hk)
            refine ⟨d + n, v2, by omega, hv', ?_, ?_, ?_, ?_, ?_, by have := c9.size; omega⟩
            · rw [← HL.out, List.drop_drop] at h8
              exact h8.keep c9 (fun hq => by have := u11b b hq; omega) (fun q hq he => by
                have := f8 q he
                have := hg1.lt q (by simpa using hq)
                omega)
            · intro q hq
              have := f8 q hq
              omega
            · intro q hq he
              have h1 := f8 q he
              have h2 := h8.2.lt q he
              rcases f9 with f | f
              · have := hg1.lt q (by rw [← f]; exact hq)
                omega
              · have := f q hq
                omega
            · exact (hg5.keep c8 (by intro q hq he; simp at hq; have := hg5.2 q he; omega)).keep c9 (by intro q hq he; have := u11b q hq; have := H9.out q he; omega)
            · exact (hg6.transT c8 (by intro q hq; simp at hq; subst hq; exact .inr (by have := HB.out; omega))).transT c9 (by intro q hq; have := u11b q hq; exact .inr (by have := HB.out; omega))
        · obtain rfl : gk = 0 := by omega
          obtain rfl : d = m := by omega
          clear hlt
          have hL0 : L = [] := List.eq_nil_of_length_eq_zero HLL.out
          subst hL0
          rw [List.take_of_length_le (by rw [HM.out]; omega)] at hg1
          obtain ⟨xg, yg, hge, k1, k2, rg⟩ := hg1.form
          rw [HM.out] at hge
          subst hge
          obtain ⟨x9', y9', h9e, _, _, r9⟩ := hg5.form
          simp only [Value.slice.injEq] at h9e
          obtain ⟨rfl, h9e, rfl⟩ := h9e
          clear h9e k1 k2
          go_wp2_with fail
          refine hLen.mono ?_; rintro e w7 ⟨rfl, rfl⟩
          go_wp2_with fail
          refine (told11 _).mono ?_; rintro e w8 ⟨rfl, c8⟩
          have hI := ints_same xg x9 R yg y9 w8 (rg.keep c8 (by simp)) (r9.keep c8 (by simp)) (by rw [HM.out]; unfold maxLen; omega)
          rw [HM.out] at hI
          go_wp2_with fail
          refine hI.mono ?_; rintro e w9 ⟨rfl, nq9, rfl⟩
          have hq9 : QAt (w8.drewN nq9) b vg [] := QAt.keep hg2 (c8.drewN nq9) (by simp) (by simp)
          have hget := qGet b vg [] 1 (-1) 0 _ hq9 HG3.out (by decide) (by decide)
          clear hI hLen
          go_wp2_with fail
          refine hget.mono ?_; rintro e w10 ⟨v1, v2, rfl, o10, h10, f10, c10⟩
          obtain ⟨xo, yo, hoe, _, _⟩ := o10.form
          subst hoe
          clear hget
          go_wp2_with fail
          refine (qLenNil _).mono ?_; rintro e w11 ⟨rfl, rfl⟩
          go_wp2_with fail
          refine (qGetNil _ _ _).mono ?_; rintro e w12 ⟨rfl, rfl⟩
          go_wp2_with fail
          refine (qDelNil _ _).mono ?_; rintro e w13 ⟨rfl, rfl⟩
          go_wp2
          go_ret
          exact ⟨rfl, (((hg6.trans c8).drewN nq9).transT c10 (by intro q hq; simp at hq; subst hq; exact .inr (by have := HB.out; omega))).below (Nat.le_refl _) (by simp)⟩
theorem dels_all (a : Option Addr) (xs : List Int) (c : Nat) (y : Int) (w : World) (hr : Rd w a xs) (hm : xs.length ≤ maxLen) :
    Calls Try.prog 10 #[.slice a xs.length c, .int .i64 y] w fun e w' => e = .returned (.bool true) ∧ Below w.heap.size w w' := by
  by_cases h : 0 < xs.length ∧ xs.length ≤ 60
  · exact dels_walk a xs c y w hr h.1 h.2
  · obtain ⟨n, hn⟩ : ∃ n, xs.length = n := ⟨_, rfl⟩
    rw [hn] at h hm ⊢
    unfold maxLen at hm
    clear hr hn
    by_cases h0 : n = 0
    · subst h0
      go_enter Try.func10, Try.ntmps10
      go_wp2_with fail
      refine (told11 _).mono ?_; rintro e w1 ⟨rfl, c1⟩
      go_wp2
      go_ret
      exact ⟨rfl, c1.below (Nat.le_refl _) (by simp)⟩
    · have t1 : ((n : Int) == 0) = false := by rw [beq_eq_false_iff_ne]; omega
      have t2 : (60 : Int) < n := by omega
      clear h
      go_enter Try.func10, Try.ntmps10
      go_wp2_with fail
      refine (told11 _).mono ?_; rintro e w1 ⟨rfl, c1⟩
      go_wp2
      go_ret
      exact ⟨rfl, c1.below (Nat.le_refl _) (by simp)⟩
end Go.Proofs.Yteghenfdncgpeaa
