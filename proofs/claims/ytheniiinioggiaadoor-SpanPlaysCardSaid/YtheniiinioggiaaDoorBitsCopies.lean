/-
  The walk of the statement BitsCopies: the law returns true at every input. Conditions: the library's table reads as its text lays it.
-/
import Derived.Test.YtheniiinioggiaaDoorBitsCopy
import Derived.Test.YtheniiinioggiaaDoorArgs
import Derived.Test.YtheniiinioggiaaDoorInts
namespace Go.Proofs.YtheniiinioggiaaDoor
open Go.RowKit
/-- Two sets, made since w, apart. -/
structure TwoSt (w wr : World) (b n : Nat) (S : Nat → Bool) (G : List Nat) (b' m : Nat) (T : Nat → Bool) (G' : List Nat) : Prop where
  one : SetSt w wr b n S G
  two : SetSt w wr b' m T G'
  ne : b ≠ b'
  ap : ∀ k ∈ G, k ∉ G'
section
variable {w wr w2 : World} {b n b' m : Nat} {S T U : Nat → Bool} {G G' G2 : List Nat}
theorem TwoSt.still (h : TwoSt w wr b n S G b' m T G') (hc : Ch [] wr w2) : TwoSt w w2 b n S G b' m T G' := ⟨h.one.still hc, h.two.still hc, h.ne, h.ap⟩
theorem SetAt.cross {w : World} {b n : Nat} {S : Nat → Bool} {G : List Nat} {b' m : Nat} {T : Nat → Bool} {G' : List Nat} (h : SetAt w b n S G) (h' : SetAt w b' m T G') : b' ∉ G := by
  obtain ⟨a, c, ws, h1, h2, h3, h4, h5, h6, h7, h8⟩ := h
  obtain ⟨a', c', ws', h1', _⟩ := h'
  rcases h8 with ⟨_, rfl⟩ | ⟨g, o, cs, rfl, h9, h10, h11⟩
  · simp
  · intro hk; simp at hk; subst hk; exact absurd rfl (h1'.ne h10 (by decide))
theorem TwoSt.turn1 (h : TwoSt w wr b n S G b' m T G') (h1 : SetSt w w2 b n U G) (hc : Ch (b :: G) wr w2) : TwoSt w w2 b n U G b' m T G' :=
  ⟨h1, ⟨h.two.at_.keep hc (by simp only [List.mem_cons, not_or]; exact ⟨h.ne.symm, h.one.at_.cross h.two.at_⟩) (by
    intro k hk hk2
    simp only [List.mem_cons] at hk2
    rcases hk2 with rfl | hk2
    · exact h.two.at_.cross h.one.at_ hk
    · exact h.ap k hk2 hk), h1.ch, h.two.lo, h.two.loG⟩, h.ne, h.ap⟩
theorem TwoSt.flip (h : TwoSt w wr b n S G b' m T G') : TwoSt w wr b' m T G' b n S G := ⟨h.two, h.one, h.ne.symm, fun k h1 h2 => h.ap k h2 h1⟩
theorem twSet (i : Int) (h : TwoSt w wr b n S G b' m T G') :
    Calls Tryd.prog 15 #[.pointer (some ⟨b, 0, none⟩), .int .i64 i] wr fun e w' => e = .returned (.bool (setB S n i)) ∧ TwoSt w w' b n (putS S n i true) G b' m T G' ∧ Ch (b :: G) wr w' :=
  (bitsSet b n S G i wr h.one.at_).mono fun _ _ ⟨h1, h2, h3⟩ => ⟨h1, h.turn1 (h.one.turn h2 h3) h3, h3⟩
theorem twClear (i : Int) (h : TwoSt w wr b n S G b' m T G') :
    Calls Tryd.prog 20 #[.pointer (some ⟨b, 0, none⟩), .int .i64 i] wr fun e w' => e = .returned (.bool (hasI S n i)) ∧ TwoSt w w' b n (putS S n i false) G b' m T G' ∧ Ch (b :: G) wr w' :=
  (bitsClear b n S G i wr h.one.at_).mono fun _ _ ⟨h1, h2, h3⟩ => ⟨h1, h.turn1 (h.one.turn h2 h3) h3, h3⟩
theorem twCopy (h : TwoSt w wr b n S G b' n T G') :
    Calls Tryd.prog 26 #[.pointer (some ⟨b, 0, none⟩), .pointer (some ⟨b', 0, none⟩)] wr fun e w' => e = .returned (.bool true) ∧ (∃ G2, TwoSt w w' b n T G2 b' n T G') ∧ Ch [b] wr w' :=
  (bitsCopyEq b n S G b' T G' wr h.one.at_ h.two.at_).mono fun _ w' ⟨h1, ⟨G2, h2, h3⟩, h4⟩ => ⟨h1, ⟨G2, ⟨h2, h.one.ch.transT h4 (by intro k hk; simp at hk; subst hk; exact .inr h.one.lo), h.one.lo, fun k hk => Nat.le_trans h.one.ch.size (h3 k hk)⟩,
    ⟨h.two.at_.keep h4 (by simp; exact h.ne.symm) (by intro k hk hk2; simp at hk2; subst hk2; exact h.two.at_.cross h.one.at_ hk), h.two.ch.transT h4 (by intro k hk; simp at hk; subst hk; exact .inr h.one.lo), h.two.lo, h.two.loG⟩, h.ne, fun k hk hk2 => by have := h3 k hk; have := h.two.at_.hi k hk2; omega⟩, h4⟩
end
theorem intsN (a b : Option Addr) (xs : List Int) (n c d : Nat) (w : World) (ha : Rd w a xs) (hb : Rd w b xs) (hn : xs.length = n) (hl : n ≤ maxLen) :
    Calls Tryd.prog 27 #[.slice a n c, .slice b n d] w fun e w' => e = .returned (.bool true) ∧ ∃ nq, w' = w.drewN nq := by
  subst hn
  exact ints_same a b xs c d w ha hb hl
theorem OwI.rdN {w : World} {B n : Nat} {a : Option Addr} {c : Nat} {xs : List Int} (h : OwI w B (.slice a n c) xs) : Rd w a xs := by
  obtain ⟨a', c', h1, _, _, h2⟩ := h.form
  cases h1
  exact h2
/-- All, told with its length. -/
theorem bitsAllN (b n k : Nat) (S : Nat → Bool) (G : List Nat) (w : World) (h : SetAt w b n S G) (hT : TabW w) (hn : n ≤ 100000) (hk : cnt S n = k) :
    Calls Tryd.prog 19 #[.pointer (some ⟨b, 0, none⟩)] w fun e w' => ∃ a c, e = .returned (.slice a k c) ∧ OwI w' w.heap.size (.slice a k c) (els S n) ∧ Ch [] w w' := by
  refine (bitsAll b n S G w h hT hn).mono ?_
  rintro e w' ⟨v, rfl, h1, h2⟩
  obtain ⟨a, c, rfl, _⟩ := h1.form
  rw [els_len, hk] at h1 ⊢
  exact ⟨a, c, rfl, h1, h2⟩
def none_ : Nat → Bool := fun _ => false
theorem cnt_none {S : Nat → Bool} {n : Nat} (h : ∀ k, k < n → S k = false) : cnt S n = 0 := by
  induction n with
  | zero => rfl
  | succ n ih => rw [cnt_succ, ih (fun k hk => h k (by omega)), h n (by omega)]; rfl
set_option maxRecDepth 100000 in
set_option maxHeartbeats 8000000 in
theorem copies3_walk (a0 a1 : Int) (a2 : Option Addr) (xs2 : List Int) (cap2 : Nat) (a3 : Option Addr) (xs3 : List Int) (cap3 : Nat) (w : World) (hT : TabW w) (r2 : Rd w a2 xs2) (m2 : xs2.length ≤ maxLen) (r3 : Rd w a3 xs3) (m3 : xs3.length ≤ maxLen) :
    Calls Tryd.prog 7 #[.int .i64 a0, .int .i64 a1, .slice a2 xs2.length cap2, .slice a3 xs3.length cap3] w fun e w' => e = .returned (.bool true) ∧ Below w.heap.size w w' := by
  unfold maxLen at m2 m3
  obtain ⟨n, hn, hnl⟩ := umod a0 201 (by decide) (by decide)
  obtain ⟨m, hm, hml⟩ := umod a1 201 (by decide) (by decide)
  obtain ⟨l, hl⟩ : ∃ l, xs2.length = l := ⟨_, rfl⟩
  obtain ⟨p, hp⟩ : ∃ p, xs3.length = p := ⟨_, rfl⟩
  rw [hl] at m2 ⊢
  rw [hp] at m3 ⊢
  have HL := Lib.hid hl
  have HP := Lib.hid hp
  have HN := Lib.hid hn
  have HM := Lib.hid hm
  have HT := Lib.hid hT
  have HZ := Lib.hid hT.1
  clear hl hp hn hm hT
  go_enter Tryd.func7, Tryd.ntmps7
  go_wp2_with fail
  try rw [HN.out]
  refine (bitsNew n w (by omega)).mono ?_; rintro e w1 ⟨b, G, rfl, h1, hb, hG, c1⟩
  go_wp2_with fail
  try rw [HM.out]
  refine (bitsNew m w1 (by omega)).mono ?_; rintro e w2 ⟨b', G', rfl, h2, hb', hG', c2⟩
  have hst : TwoSt w w2 b n none_ G b' m none_ G' := by
    have k1 := h1.lt
    have k2 := h1.hi
    exact ⟨⟨h1.ch c2, c1.trans c2, hb, hG⟩, ⟨h2, c1.trans c2, Nat.le_trans c1.size hb', fun k hk => Nat.le_trans c1.size (hG' k hk)⟩, by omega, fun k hk hk2 => by have := k2 k hk; have := hG' k hk2; omega⟩
  clear h1 h2 hb hb' hG hG' c1 c2
  by_cases hbig : 40 < l ∨ 40 < p
  · have hend0 := fun w3 (hc : Ch [] w2 w3) => (hst.one.ch.trans hc).below (Nat.le_refl _) (by simp)
    have HE := Lib.hid hend0
    have hTT := hst.one.tab HT.out
    clear hend0 hst
    by_cases h40 : 40 < l
    · have t0 : decide ((40 : Int) < l) = true := decide_eq_true (by omega)
      clear hbig
      go_wp2_with fail
      refine (told3 w2 hTT).mono ?_; rintro e w3 ⟨rfl, c3⟩
      clear hTT
      go_wp2_with fail
      go_ret
      exact ⟨rfl, HE.out w3 c3⟩
    · have t0 : decide ((40 : Int) < l) = false := decide_eq_false (by omega)
      have t1 : decide ((40 : Int) < p) = true := decide_eq_true (by omega)
      clear hbig
      go_wp2_with fail
      refine (told3 w2 hTT).mono ?_; rintro e w3 ⟨rfl, c3⟩
      clear hTT
      go_wp2_with fail
      go_ret
      exact ⟨rfl, HE.out w3 c3⟩
  · have t0 : decide ((40 : Int) < l) = false := decide_eq_false (by omega)
    have t1 : decide ((40 : Int) < p) = false := decide_eq_false (by omega)
    go_wp2_with fail
    go_loopw [13] (fun s13 wr => ∃ (i : Nat) (S : Nat → Bool), s13 = .int .i64 i ∧ i ≤ l ∧ TwoSt w wr b n S G b' m none_ G') (fun s13 _ => l - (intOf s13).toNat)
    case atStart => exact ⟨0, _, rfl, by omega, hst⟩
    case round =>
      clear hst
      obtain ⟨i, S, rfl, hi, hst⟩ := hrel
      by_cases hlt : i < l
      · have t2 : decide ((i : Int) < l) = true := decide_eq_true (by omega)
        obtain ⟨ba, oa, rfl, hcell⟩ := (r2.keep hst.one.ch (by simp)).at (i := i) (by rw [HL.out]; exact hlt)
        have d := hcell i (by rw [HL.out]; exact hlt)
        obtain ⟨x, hx⟩ : ∃ x, gI xs2 i = x := ⟨_, rfl⟩
        rw [hx] at d
        obtain ⟨v, hv, _⟩ := umod x 201 (by decide) (by decide)
        have hv' := Lib.hid hv
        clear hcell hx hv
        go_wp2_with fail
        try rw [hv'.out]
        refine (twSet (v : Int) hst).mono ?_; rintro e w3 ⟨rfl, h3, _⟩
        clear d hst
        go_wp2_with fail
        go_roundw
        case rel => exact ⟨i + 1, _, by go_num, by omega, h3⟩
        case measure => simp [intOf]; omega
      · have t2 : decide ((i : Int) < l) = false := decide_eq_false (by omega)
        have t3 : decide (i < l) = false := decide_eq_false hlt
        go_wp2_with fail
        go_loopw [14] (fun s14 wr => ∃ (j : Nat) (T : Nat → Bool), s14 = .int .i64 j ∧ j ≤ p ∧ TwoSt w wr b n S G b' m T G') (fun s14 _ => p - (intOf s14).toNat)
        case atStart => exact ⟨0, _, rfl, by omega, hst⟩
        case round =>
          clear hst
          obtain ⟨j, T, rfl, hj, hst⟩ := hrel
          by_cases hlt : j < p
          · have t4 : decide ((j : Int) < p) = true := decide_eq_true (by omega)
            obtain ⟨ba, oa, rfl, hcell⟩ := (r3.keep hst.one.ch (by simp)).at (i := j) (by rw [HP.out]; exact hlt)
            have d := hcell j (by rw [HP.out]; exact hlt)
            obtain ⟨x, hx⟩ : ∃ x, gI xs3 j = x := ⟨_, rfl⟩
            rw [hx] at d
            obtain ⟨v, hv, _⟩ := umod x 201 (by decide) (by decide)
            have hv' := Lib.hid hv
            clear hcell hx hv
            go_wp2_with fail
            try rw [hv'.out]
            refine (twSet (v : Int) hst.flip).mono ?_; rintro e w3 ⟨rfl, h3, _⟩
            have h3' := h3.flip
            clear d hst h3
            go_wp2_with fail
            go_roundw
            case rel => exact ⟨j + 1, _, by go_num, by omega, h3'⟩
            case measure => simp [intOf]; omega
          · have t4 : decide ((j : Int) < p) = false := decide_eq_false (by omega)
            have t5 : decide (j < p) = false := decide_eq_false hlt
            obtain ⟨ks, hks⟩ : ∃ ks, cnt S n = ks := ⟨_, rfl⟩
            have hks2 : ks ≤ n := by rw [← hks]; exact cnt_le S n
            have HKS := Lib.hid hks
            clear hks
            go_wp2_with fail
            refine (bitsAllN b n ks S G _ hst.one.at_ (hst.one.tab HT.out) (by omega) HKS.out).mono ?_; rintro e w3 ⟨aw, cw, rfl, ow, c3⟩
            have h3 := hst.still c3
            have hsz3 := ow.lt
            have hlo3 := ow.2
            clear c3
            by_cases hnm : n = m
            · subst hnm
              have z1 : ((n : Int) == (n : Int)) = true := beq_self_eq_true _
              have z2 : ((n : Int) != (n : Int)) = false := by simp
              obtain ⟨kt, hkt⟩ : ∃ kt, cnt T n = kt := ⟨_, rfl⟩
              have hkt2 : kt ≤ n := by rw [← hkt]; exact cnt_le T n
              have HKT := Lib.hid hkt
              clear hkt ow hst hsz3 hlo3
              go_wp2_with fail
              refine (twCopy h3).mono ?_; rintro e w4 ⟨rfl, ⟨G2, h4⟩, _⟩
              clear h3
              go_wp2_with fail
              refine (bitsAllN b n kt T G2 w4 h4.one.at_ (h4.one.tab HT.out) (by omega) HKT.out).mono ?_; rintro e w5 ⟨a5, q5, rfl, o5, c5⟩
              have h5 := h4.still c5
              clear h4 c5
              go_wp2_with fail
              refine (bitsAllN b' n kt T G' w5 h5.two.at_ (h5.two.tab HT.out) (by omega) HKT.out).mono ?_; rintro e w6 ⟨a6, q6, rfl, o6, c6⟩
              have h6 := h5.still c6
              have hI := intsN a5 a6 (els T n) kt q5 q6 w6 (o5.keep c6 (by simp)).rdN o6.rdN (by rw [els_len, HKT.out]) (by unfold maxLen; omega)
              clear h5 c6 o5 o6
              go_wp2_with fail
              refine hI.mono ?_; rintro e w7 ⟨rfl, nq7, rfl⟩
              have h7 := h6.still ((Ch.refl [] w6).drewN nq7)
              clear h6 hI
              go_wp2_with fail
              refine (bitsAllN b' n kt T G' _ h7.two.at_ (h7.two.tab HT.out) (by omega) HKT.out).mono ?_; rintro e w8 ⟨a8, q8, rfl, o8, c8⟩
              have h8 := h7.still c8
              obtain ⟨B, hB⟩ : ∃ B, (w6.drewN nq7).heap.size = B := ⟨_, rfl⟩
              rw [hB] at o8
              have hbB : b < B := by rw [← hB]; exact h7.one.at_.lt
              have hGB : ∀ k ∈ G2, k < B := by rw [← hB]; exact h7.one.at_.hi
              have HGB := Lib.hid hGB
              clear h7 c8 hB hGB
              go_wp2_with fail
              go_loopw [17] (fun s17 wr => ∃ (i : Nat) (U : Nat → Bool), s17 = .int .i64 i ∧ i ≤ n ∧ Hid (∀ k, k < i → U k = false) ∧ TwoSt w wr b n U G2 b' n T G' ∧ OwI wr B (.slice a8 kt q8) (els T n)) (fun s17 _ => n - (intOf s17).toNat)
              case atStart => exact ⟨0, _, rfl, by omega, Lib.hid (fun k hk => by omega), h8, o8⟩
              case round =>
                clear h8 o8
                obtain ⟨i, U, rfl, hi, HU, h8, o8⟩ := hrel
                by_cases hlt : i < n
                · have t6 : decide ((i : Int) < n) = true := decide_eq_true (by omega)
                  go_wp2_with fail
                  refine (twClear (i : Int) h8).mono ?_; rintro e w9 ⟨rfl, h9, c9⟩
                  have o9 := o8.keepLt c9 (by
                    intro k hk
                    simp only [List.mem_cons] at hk
                    rcases hk with rfl | hk
                    · exact hbB
                    · exact HGB.out k hk)
                  clear h8 o8 c9
                  go_wp2_with fail
                  go_roundw
                  case rel => exact ⟨i + 1, _, by go_num, by omega, Lib.hid (fun k hk => by
                    have hp : putS U n (i : Int) false = upd U i false := by unfold putS; rw [if_pos ⟨by omega, by omega⟩, Int.toNat_natCast]
                    rw [hp]
                    unfold upd
                    by_cases hki : k = i
                    · rw [if_pos hki]
                    · rw [if_neg hki]; exact HU.out k (by omega)), h9, o9⟩
                  case measure => simp [intOf]; omega
                · obtain rfl : n = i := by omega
                  have t6 : decide ((n : Int) < n) = false := decide_eq_false (by omega)
                  have t7 : decide (n < n) = false := decide_eq_false (by omega)
                  have hc0 := cnt_none HU.out
                  have HC0 := Lib.hid hc0
                  clear hc0
                  go_wp2_with fail
                  refine (told3 _ (h8.one.tab HT.out)).mono ?_; rintro e w9 ⟨rfl, c9⟩
                  have h9 := h8.still c9
                  have o9 := o8.keep c9 (by simp)
                  clear h8 o8 c9
                  go_wp2_with fail
                  refine (bitsAllN b' n kt T G' w9 h9.two.at_ (h9.two.tab HT.out) (by omega) HKT.out).mono ?_; rintro e w10 ⟨a10, q10, rfl, o10, c10⟩
                  have h10 := h9.still c10
                  have hI := intsN a10 a8 (els T n) kt q10 q8 w10 o10.rdN (o9.keep c10 (by simp)).rdN (by rw [els_len, HKT.out]) (by unfold maxLen; omega)
                  clear h9 o9 c10 o10
                  go_wp2_with fail
                  refine hI.mono ?_; rintro e w11 ⟨rfl, nq11, rfl⟩
                  have h11 := h10.still ((Ch.refl [] w10).drewN nq11)
                  clear h10 hI
                  have hcn := bitsCount b n U G2 _ h11.one.at_
                  rw [HC0.out] at hcn
                  go_wp2_with fail
                  refine hcn.mono ?_; rintro e w12 ⟨rfl, rfl⟩
                  clear hcn
                  go_wp2_with fail
                  refine (bitsCopyEq b n U G2 b U G2 _ h11.one.at_ h11.one.at_).mono ?_; rintro e w13 ⟨rfl, _, c13⟩
                  have hend := (h11.one.ch.transT c13 (by intro k hk; simp at hk; subst hk; exact .inr h11.one.lo)).below (Nat.le_refl _) (by simp)
                  clear h11 c13
                  go_wp2_with fail
                  go_ret
                  exact ⟨rfl, hend⟩
            · have z1 : ((n : Int) == (m : Int)) = false := by rw [beq_eq_false_iff_ne]; omega
              have z2 : ((n : Int) != (m : Int)) = true := by rw [bne_iff_ne]; omega
              go_wp2_with fail
              refine (bitsCopyNe b n S G b' m T G' w3 h3.one.at_ h3.two.at_ hnm).mono ?_; rintro e w4 ⟨rfl, c4⟩
              have h4 := h3.still c4
              have ow4 := ow.keep c4 (by simp)
              clear h3 c4 ow hst
              go_wp2_with fail
              refine (told3 w4 (h4.one.tab HT.out)).mono ?_; rintro e w5 ⟨rfl, c5⟩
              have h5 := h4.still c5
              have ow5 := ow4.keep c5 (by simp)
              clear h4 c5 ow4
              go_wp2_with fail
              refine (bitsAllN b n ks S G w5 h5.one.at_ (h5.one.tab HT.out) (by omega) HKS.out).mono ?_; rintro e w6 ⟨a6, c6', rfl, o6, c6⟩
              have h6 := h5.still c6
              have hI := intsN a6 aw (els S n) ks c6' cw w6 o6.rdN (ow5.keep c6 (by simp)).rdN (by rw [els_len, HKS.out]) (by unfold maxLen; omega)
              clear h5 c6 ow5 o6
              go_wp2_with fail
              refine hI.mono ?_; rintro e w7 ⟨rfl, nq, rfl⟩
              have hend := (h6.still ((Ch.refl [] w6).drewN nq)).one.ch.below (Nat.le_refl _) (by simp)
              clear h6 hI
              go_wp2_with fail
              go_ret
              exact ⟨rfl, hend⟩
end Go.Proofs.YtheniiinioggiaaDoor
