/-
  The walk of the statement BufferStack: the law returns true at every input. Conditions: the argument reads as a list.
-/
import Derived.Test.YtalnkhcippcghaaBufHalves
namespace Go.Proofs.Ytalnkhcippcghaa
open Go.RowKit
set_option maxRecDepth 100000 in
theorem stack_long (a : Option Addr) (len c : Nat) (a1 : Int) (w : World) (h : 40 < len) (hl : len ≤ maxLen) :
    Calls Try.prog 4 #[.slice a len c, .int .i64 a1] w fun e w' => e = .returned (.bool true) ∧ Below w.heap.size w w' := by
  unfold maxLen at hl
  go_enter Try.func4, Try.ntmps4
  go_wp2_with fail
  refine (told17 _).mono ?_; rintro e w6 ⟨rfl, hc6⟩
  go_wp2
  go_ret
  exact ⟨rfl, hc6.below (Nat.le_refl _) (by simp)⟩
/-- 1000, 1001, .. (m of them). -/
def thou (m : Nat) : List Int := (List.range m).map fun (i : Nat) => (1000 : Int) + (i : Int)
theorem thou_len (m : Nat) : (thou m).length = m := by simp [thou]
theorem thou_succ (m : Nat) : thou (m + 1) = thou m ++ [(1000 : Int) + (m : Int)] := by simp [thou, List.range_succ]
theorem take_gI (xs : List Int) (i : Nat) (h : i < xs.length) : xs.take (i + 1) = xs.take i ++ [gI xs i] := by
  rw [List.take_succ_eq_append_getElem h, gI_at xs i h]
theorem gI_take (xs : List Int) (n i : Nat) (h : i < n) : gI (xs.take n) i = gI xs i := by
  simp [gI, List.getD_eq_getElem?_getD, List.getElem?_take, h]
theorem gI_drop (xs : List Int) (n i : Nat) : gI (xs.drop n) i = gI xs (n + i) := by
  simp [gI, List.getD_eq_getElem?_getD, List.getElem?_drop]
theorem halfAny (b o : Nat) (xs ys : List Int) (n m : Nat) (hn : xs.length = n) (hm : ys.length = m) (w : World) (h : BufAt w b xs) (ho : BufAt w o ys) (hne : b ≠ o) :
    Calls Try.prog 17 #[.pointer (some ⟨b, 0, none⟩), .pointer (some ⟨o, 0, none⟩)] w fun e w' => ∃ k : Nat, e = .returned (.int .i64 k) ∧ k ≤ n ∧ k ≤ 32 - m ∧
      (k = n / 2 ∨ k ≠ n / 2 ∧ k = 0 ∧ ¬ n / 2 ≤ 32 - m) ∧ BufAt w' b (xs.take (n - k)) ∧ BufAt w' o (ys ++ xs.drop (n - k)) ∧ Ch [b, o] w w' := by
  subst hn hm
  by_cases hr : xs.length / 2 ≤ 32 - ys.length
  · refine (bufHalf b o xs ys w h ho hne hr).mono ?_
    rintro e w' ⟨rfl, h1, h2, h3⟩
    exact ⟨_, rfl, by omega, hr, .inl rfl, h1, h2, h3⟩
  · refine (bufHalfNo b o xs ys w h ho hne (by omega)).mono ?_
    rintro e w' ⟨rfl, rfl⟩
    refine ⟨0, rfl, by omega, by omega, .inr ⟨by omega, rfl, hr⟩, ?_, ?_, Ch.refl _ _⟩
    · simpa using h
    · simpa using ho
theorem wp_tmp {P : Program} {c : Code} {Q : Exit → Act → World → Prop} {a : Act} {w : World} (i : Nat) (v : Value) (hv : a.tmps[i]? = some v)
    (h : c.wp P Q { a with tmps := a.tmps.setIfInBounds i v } w) : c.wp P Q a w := by
  have e : a.tmps.setIfInBounds i v = a.tmps := by
    apply Array.ext_getElem?
    intro j
    rw [Array.getElem?_setIfInBounds]
    split
    · subst_vars
      split
      · exact hv.symm
      · rw [Array.getElem?_eq_none (by omega)]
    · rfl
  rw [e] at h
  exact h
set_option maxRecDepth 100000 in
set_option maxHeartbeats 2000000 in
theorem stack_walk (a : Option Addr) (xs : List Int) (c : Nat) (a1 : Int) (w : World) (hlen : xs.length ≤ 40) (hrd : Rd w a xs) :
    Calls Try.prog 4 #[.slice a xs.length c, .int .i64 a1] w fun e w' => e = .returned (.bool true) ∧ Below w.heap.size w w' := by
  obtain ⟨m, hm, hml⟩ := umod a1 33 (by decide) (by decide)
  obtain ⟨n, hn⟩ : ∃ n, min xs.length 32 = n := ⟨_, rfl⟩
  have hnx : n ≤ xs.length := by omega
  have hn32 : n ≤ 32 := by omega
  go_enter Try.func4, Try.ntmps4
  go_wp2_with fail
  refine (bufNew _).mono ?_; rintro e w1 ⟨rfl, h1, c1⟩
  obtain ⟨b, hb⟩ : ∃ b, w.heap.size = b := ⟨_, rfl⟩
  rw [hb] at h1 ⊢
  go_wp2_with fail
  refine (bufNew _).mono ?_; rintro e w2 ⟨rfl, h2, c2⟩
  obtain ⟨o, ho⟩ : ∃ o, w1.heap.size = o := ⟨_, rfl⟩
  rw [ho] at h2 ⊢
  have hbo : b < o := by have := h1.lt; omega
  have h1' := h1.keep c2 (by simp)
  have c12 := c1.trans c2
  have HB := Lib.hid hb
  clear hb ho c1 c2 h1
  have hmin : (min (xs.length : Int) 32) = (n : Int) := by omega
  rcases Nat.lt_or_ge 32 xs.length with hs | hs
  · have hs1 : (32 : Int) < xs.length := by omega
    go_wp2_with fail
    refine wp_tmp 7 (.int .i64 n) (congrArg some (congrArg (Value.int .i64) (by omega))) ?_
    refine wp_tmp 37 (.int .i64 n) (congrArg some (congrArg (Value.int .i64) (by omega))) ?_
    simp only [List.setIfInBounds_toArray, List.set_cons_zero, List.set_cons_succ]
    try simp only [hm]
    clear hs1 hs hm
    go_loopw [9] (fun s9 wr => ∃ i : Nat, s9 = .int .i64 i ∧ i ≤ xs.length ∧ BufAt wr b (xs.take (min i 32)) ∧ BufAt wr o [] ∧ Ch [] w wr) (fun s9 _ => xs.length - (intOf s9).toNat)
    case atStart => exact ⟨0, rfl, by omega, h1', h2, c12⟩
    case round =>
      clear h1' h2 c12
      obtain ⟨i, rfl, hi, hB, hO, hc⟩ := hrel
      have hRx := hrd.below (hc.below (Nat.le_refl _) (by simp))
      by_cases hlt : i < xs.length
      · obtain ⟨ba, oa, rfl, hcell⟩ := hRx.at hlt
        have d1 := hcell i hlt
        clear hcell
        rcases Nat.lt_or_ge i 32 with h32 | h32
        · have g32 : decide ((i : Int) < 32) = true := decide_eq_true (by omega)
          have hP := bufPut b _ (gI xs i) wr hB (by rw [List.length_take]; omega)
          rw [Nat.min_eq_left (by omega), ← take_gI xs i hlt] at hP
          go_wp2_with fail
          refine hP.mono ?_; rintro e w3 ⟨rfl, h3, c3⟩
          clear d1
          go_wp2
          go_roundw
          case rel => exact ⟨i + 1, by go_num, by omega, by rw [Nat.min_eq_left (by omega)]; exact h3, hO.keep c3 (by simp; omega), hc.transT c3 (by intro q hq; simp at hq; subst hq; exact .inr (by have := HB.out; omega))⟩
          case measure => simp [intOf]; omega
        · have hP := bufPutFull b _ (gI xs i) wr hB (by rw [List.length_take]; omega)
          go_wp2_with fail
          refine hP.mono ?_; rintro e w3 ⟨rfl, rfl⟩
          clear d1
          go_wp2
          go_roundw
          case rel => exact ⟨i + 1, by go_num, by omega, by rw [show min (i + 1) 32 = min i 32 by omega]; exact hB, hO, hc⟩
          case measure => simp [intOf]; omega
      · obtain rfl : i = xs.length := by omega
        rw [hn] at hB
        obtain ⟨L, hL⟩ : ∃ L, xs.take n = L := ⟨_, rfl⟩
        have hLL : L.length = n := by rw [← hL, List.length_take]; omega
        rw [hL] at hB
        have HL := Lib.hid hL
        have HLL := Lib.hid hLL
        have HM := Lib.hid hmin
        have HN := Lib.hid hn
        clear hL hLL hmin hn hlt
        go_wp2_with fail
        go_loopw [10] (fun s10 wx => ∃ j : Nat, s10 = .int .i64 j ∧ j ≤ m ∧ BufAt wx b L ∧ BufAt wx o (thou j) ∧ Ch [] w wx) (fun s10 _ => m - (intOf s10).toNat)
        case atStart => exact ⟨0, rfl, by omega, hB, hO, hc⟩
        case round =>
          clear hB hO hc
          obtain ⟨j, rfl, hj, hB, hO, hc⟩ := hrel
          by_cases hlt : j < m
          · have hP := bufPut o _ ((1000 : Int) + (j : Int)) _ hO (by rw [thou_len]; omega)
            rw [← thou_succ] at hP
            go_wp2_with fail
            refine hP.mono ?_; rintro e w3 ⟨rfl, h3, c3⟩
            go_wp2
            go_roundw
            case rel => exact ⟨j + 1, by go_num, by omega, hB.keep c3 (by simp; omega), h3, hc.transT c3 (by intro q hq; simp at hq; subst hq; exact .inr (by have := HB.out; omega))⟩
            case measure => simp [intOf]; omega
          · obtain rfl : j = m := by omega
            have hH := halfAny b o L (thou j) n j HLL.out (thou_len _) _ hB hO (by omega)
            go_wp2_with fail
            refine hH.mono ?_; rintro e w6 ⟨k, rfl, hkn, hkm, hk, h6, h6o, c6⟩
            have hc6 := hc.transT c6 (by intro q hq; simp at hq; rcases hq with rfl | rfl <;> exact .inr (by have := HB.out; omega))
            have HL6 := Lib.hid (bufLen b _ _ h6)
            have HL6o := Lib.hid (bufLen o _ _ h6o)
            rw [List.length_take, HLL.out, Nat.min_eq_left (by omega)] at HL6
            rw [List.length_append, thou_len, List.length_drop, HLL.out, show n - (n - k) = k by omega] at HL6o
            clear hB hO hc c6 hlt
            rcases hk with hk | ⟨hk, hk0, hkr⟩
            · clear hH
              have q1 : (n : Int) / 2 = (k : Int) := by omega
              have HK := Lib.hid hk
              clear hk
              go_wp2_with fail
              refine HL6.out.mono ?_; rintro e w7 ⟨rfl, rfl⟩
              go_wp2_with fail
              refine HL6o.out.mono ?_; rintro e w8 ⟨rfl, rfl⟩
              clear HL6 HL6o
              go_wp2_with fail
              go_loopg [12] k (fun p s12 wx => ∃ t : Nat, t = n - k + p ∧ s12 = .int .i64 ((t : Int) - 1) ∧ p ≤ k ∧ BufAt wx b (L.take (n - k)) ∧ BufAt wx o (thou j ++ (L.drop (n - k)).take p) ∧ Ch [] w wx)
              case atStart => exact ⟨n, by omega, by rfl, Nat.le_refl _, h6, by rw [List.take_of_length_le (by rw [List.length_drop, HLL.out]; omega)]; exact h6o, hc6⟩
              case round =>
                clear h6 h6o hc6
                obtain ⟨t, ht, rfl, hp, hB, hO, hc⟩ := hrel
                have hRx := hrd.below (hc.below (Nat.le_refl _) (by simp))
                by_cases hlt : 0 < gk
                · obtain ⟨q, hq⟩ : ∃ q, gk = q + 1 := ⟨gk - 1, by omega⟩
                  obtain ⟨r, hr⟩ : ∃ r, n - k + q = r := ⟨_, rfl⟩
                  have e1 : (t : Int) - 1 = (r : Int) := by omega
                  rw [e1]
                  have hrx : r < xs.length := by omega
                  have hv : gI (L.drop (n - k)) q = gI xs r := by rw [gI_drop, hr, ← HL.out, gI_take _ _ _ (by omega)]
                  rw [hq, take_gI _ q (by rw [List.length_drop, HLL.out]; omega), hv, ← List.append_assoc] at hO
                  obtain ⟨ba, oa, rfl, hcell⟩ := hRx.at hrx
                  have hG := bufGet o _ _ wr hO
                  have f1 : (n : Int) - (k : Int) ≤ (r : Int) := by omega
                  have HQ := Lib.hid hq
                  have HR := Lib.hid hr
                  clear hq hr e1 hv ht hcell
                  go_wp2_with fail
                  refine hG.mono ?_; rintro e w9 ⟨rfl, h9, c9⟩
                  have hcw := hc.transT c9 (by intro q hq; simp at hq; subst hq; exact .inr (by have := HB.out; omega))
                  have hRx := hrd.below (hcw.below (Nat.le_refl _) (by simp))
                  obtain ⟨ba', oa', he, hcell⟩ := hRx.at hrx
                  obtain ⟨rfl, rfl⟩ : ba' = ba ∧ oa' = oa := by simpa [eq_comm] using he
                  have d1 := hcell r hrx
                  clear hcell he
                  go_wp2_with fail
                  go_roundg q
                  case measure => have := HQ.out; omega
                  case rel => exact ⟨r, HR.out.symm, rfl, by have := HQ.out; omega, hB.keep c9 (by simp; omega), h9, hcw⟩
                · obtain rfl : gk = 0 := by omega
                  rw [List.take_zero, List.append_nil] at hO
                  have e2 : (t : Int) ≤ (n : Int) - (k : Int) := by omega
                  have e3 : (n : Int) - (k : Int) ≤ (t : Int) := by omega
                  obtain ⟨p0, hp0⟩ : ∃ p0, n - k = p0 := ⟨_, rfl⟩
                  have e4 : (n : Int) - (k : Int) - 1 = (p0 : Int) - 1 := by omega
                  have e5 : p0 ≤ n := by omega
                  rw [hp0] at hB
                  have HP0 := Lib.hid hp0
                  have HE4 := Lib.hid e4
                  clear ht hp0 e4 hlt hRx
                  go_wp2_with fail
                  go_loopg [15] p0 (fun p s15 wx => s15 = .int .i64 ((p : Int) - 1) ∧ p ≤ p0 ∧ BufAt wx b (L.take p) ∧ BufAt wx o (thou j) ∧ Ch [] w wx)
                  case atStart => exact ⟨congrArg (Value.int .i64) (by have := HE4.out; have := HK.out; omega), Nat.le_refl _, hB, hO, hc⟩
                  case round =>
                    clear hB hO hc
                    obtain ⟨rfl, hp2, hB, hO, hc⟩ := hrel
                    have hRx := hrd.below (hc.below (Nat.le_refl _) (by simp))
                    by_cases hlt : 0 < gk
                    · obtain ⟨q, hq⟩ : ∃ q, gk = q + 1 := ⟨gk - 1, by omega⟩
                      have e1 : (gk : Int) - 1 = (q : Int) := by omega
                      rw [e1]
                      have hrx : q < xs.length := by omega
                      have hv : gI L q = gI xs q := by rw [← HL.out, gI_take _ _ _ (by omega)]
                      rw [hq, take_gI _ q (by rw [HLL.out]; omega), hv] at hB
                      obtain ⟨ba, oa, rfl, hcell⟩ := hRx.at hrx
                      have hG := bufGet b _ _ wr hB
                      have HQ := Lib.hid hq
                      clear hq e1 hv hcell
                      go_wp2_with fail
                      refine hG.mono ?_; rintro e w9 ⟨rfl, h9, c9⟩
                      have hcw := hc.transT c9 (by intro q hq; simp at hq; subst hq; exact .inr (by have := HB.out; omega))
                      have hRx := hrd.below (hcw.below (Nat.le_refl _) (by simp))
                      obtain ⟨ba', oa', he, hcell⟩ := hRx.at hrx
                      obtain ⟨rfl, rfl⟩ : ba' = ba ∧ oa' = oa := by simpa [eq_comm] using he
                      have d1 := hcell q hrx
                      clear hcell he
                      go_wp2_with fail
                      go_roundg q
                      case measure => have := HQ.out; omega
                      case rel => exact ⟨rfl, by have := HQ.out; omega, h9, hO.keep c9 (by simp; omega), hcw⟩
                    · obtain rfl : gk = 0 := by omega
                      rw [List.take_zero] at hB
                      have HLo := Lib.hid (bufLen o _ wr hO)
                      rw [thou_len] at HLo
                      clear hlt hRx
                      go_wp2_with fail
                      refine (bufGetEmpty b _ hB).mono ?_; rintro e w10 ⟨rfl, rfl⟩
                      go_wp2_with fail
                      refine (bufGetNil _).mono ?_; rintro e w11 ⟨rfl, rfl⟩
                      go_wp2_with fail
                      refine (told17 _).mono ?_; rintro e w12 ⟨rfl, c12⟩
                      have hL12 := bufLen o _ w12 (hO.keep c12 (by simp))
                      rw [thou_len] at hL12
                      go_wp2_with fail
                      refine hL12.mono ?_; rintro e w13 ⟨rfl, rfl⟩
                      go_wp2_with fail
                      refine (bufPutNil 1 _).mono ?_; rintro e w14 ⟨rfl, rfl⟩
                      go_wp2_with fail
                      refine (bufLenNil _).mono ?_; rintro e w15 ⟨rfl, rfl⟩
                      go_wp2
                      go_ret
                      exact ⟨rfl, (hc.trans c12).below (Nat.le_refl _) (by simp)⟩
            · clear hH
              obtain ⟨h, hh⟩ : ∃ h, n / 2 = h := ⟨_, rfl⟩
              have q1 : (n : Int) / 2 = (h : Int) := by omega
              have q2 : (k : Int) ≤ 0 := by omega
              have q3 : (0 : Int) < h := by omega
              have q4 : (32 : Int) - (j : Int) < (h : Int) := by omega
              have HK := Lib.hid hk0
              clear hk hk0 hkr hh
              go_wp2_with fail
              refine HL6.out.mono ?_; rintro e w7 ⟨rfl, rfl⟩
              go_wp2_with fail
              refine HL6o.out.mono ?_; rintro e w8 ⟨rfl, rfl⟩
              clear HL6 HL6o
              go_wp2_with fail
              go_loopg [12] k (fun p s12 wx => ∃ t : Nat, t = n - k + p ∧ s12 = .int .i64 ((t : Int) - 1) ∧ p ≤ k ∧ BufAt wx b (L.take (n - k)) ∧ BufAt wx o (thou j ++ (L.drop (n - k)).take p) ∧ Ch [] w wx)
              case atStart => exact ⟨n, by omega, by rfl, Nat.le_refl _, h6, by rw [List.take_of_length_le (by rw [List.length_drop, HLL.out]; omega)]; exact h6o, hc6⟩
              case round =>
                clear h6 h6o hc6
                obtain ⟨t, ht, rfl, hp, hB, hO, hc⟩ := hrel
                have hRx := hrd.below (hc.below (Nat.le_refl _) (by simp))
                by_cases hlt : 0 < gk
                · exfalso
                  omega
                · obtain rfl : gk = 0 := by omega
                  rw [List.take_zero, List.append_nil] at hO
                  have e2 : (t : Int) ≤ (n : Int) - (k : Int) := by omega
                  have e3 : (n : Int) - (k : Int) ≤ (t : Int) := by omega
                  obtain ⟨p0, hp0⟩ : ∃ p0, n - k = p0 := ⟨_, rfl⟩
                  have e4 : (n : Int) - (k : Int) - 1 = (p0 : Int) - 1 := by omega
                  have e5 : p0 ≤ n := by omega
                  rw [hp0] at hB
                  have HP0 := Lib.hid hp0
                  have HE4 := Lib.hid e4
                  clear ht hp0 e4 hlt hRx
                  go_wp2_with fail
                  go_loopg [15] p0 (fun p s15 wx => s15 = .int .i64 ((p : Int) - 1) ∧ p ≤ p0 ∧ BufAt wx b (L.take p) ∧ BufAt wx o (thou j) ∧ Ch [] w wx)
                  case atStart => exact ⟨congrArg (Value.int .i64) (by have := HE4.out; have := HK.out; omega), Nat.le_refl _, hB, hO, hc⟩
                  case round =>
                    clear hB hO hc
                    obtain ⟨rfl, hp2, hB, hO, hc⟩ := hrel
                    have hRx := hrd.below (hc.below (Nat.le_refl _) (by simp))
                    by_cases hlt : 0 < gk
                    · obtain ⟨q, hq⟩ : ∃ q, gk = q + 1 := ⟨gk - 1, by omega⟩
                      have e1 : (gk : Int) - 1 = (q : Int) := by omega
                      rw [e1]
                      have hrx : q < xs.length := by omega
                      have hv : gI L q = gI xs q := by rw [← HL.out, gI_take _ _ _ (by omega)]
                      rw [hq, take_gI _ q (by rw [HLL.out]; omega), hv] at hB
                      obtain ⟨ba, oa, rfl, hcell⟩ := hRx.at hrx
                      have hG := bufGet b _ _ wr hB
                      have HQ := Lib.hid hq
                      clear hq e1 hv hcell
                      go_wp2_with fail
                      refine hG.mono ?_; rintro e w9 ⟨rfl, h9, c9⟩
                      have hcw := hc.transT c9 (by intro q hq; simp at hq; subst hq; exact .inr (by have := HB.out; omega))
                      have hRx := hrd.below (hcw.below (Nat.le_refl _) (by simp))
                      obtain ⟨ba', oa', he, hcell⟩ := hRx.at hrx
                      obtain ⟨rfl, rfl⟩ : ba' = ba ∧ oa' = oa := by simpa [eq_comm] using he
                      have d1 := hcell q hrx
                      clear hcell he
                      go_wp2_with fail
                      go_roundg q
                      case measure => have := HQ.out; omega
                      case rel => exact ⟨rfl, by have := HQ.out; omega, h9, hO.keep c9 (by simp; omega), hcw⟩
                    · obtain rfl : gk = 0 := by omega
                      rw [List.take_zero] at hB
                      have HLo := Lib.hid (bufLen o _ wr hO)
                      rw [thou_len] at HLo
                      clear hlt hRx
                      go_wp2_with fail
                      refine (bufGetEmpty b _ hB).mono ?_; rintro e w10 ⟨rfl, rfl⟩
                      go_wp2_with fail
                      refine (bufGetNil _).mono ?_; rintro e w11 ⟨rfl, rfl⟩
                      go_wp2_with fail
                      refine (told17 _).mono ?_; rintro e w12 ⟨rfl, c12⟩
                      have hL12 := bufLen o _ w12 (hO.keep c12 (by simp))
                      rw [thou_len] at hL12
                      go_wp2_with fail
                      refine hL12.mono ?_; rintro e w13 ⟨rfl, rfl⟩
                      go_wp2_with fail
                      refine (bufPutNil 1 _).mono ?_; rintro e w14 ⟨rfl, rfl⟩
                      go_wp2_with fail
                      refine (bufLenNil _).mono ?_; rintro e w15 ⟨rfl, rfl⟩
                      go_wp2
                      go_ret
                      exact ⟨rfl, (hc.trans c12).below (Nat.le_refl _) (by simp)⟩
  · have hs1 : (xs.length : Int) ≤ 32 := by omega
    go_wp2_with fail
    refine wp_tmp 7 (.int .i64 n) (congrArg some (congrArg (Value.int .i64) (by omega))) ?_
    refine wp_tmp 37 (.int .i64 n) (congrArg some (congrArg (Value.int .i64) (by omega))) ?_
    simp only [List.setIfInBounds_toArray, List.set_cons_zero, List.set_cons_succ]
    try simp only [hm]
    clear hs1 hs hm
    go_loopw [9] (fun s9 wr => ∃ i : Nat, s9 = .int .i64 i ∧ i ≤ xs.length ∧ BufAt wr b (xs.take (min i 32)) ∧ BufAt wr o [] ∧ Ch [] w wr) (fun s9 _ => xs.length - (intOf s9).toNat)
    case atStart => exact ⟨0, rfl, by omega, h1', h2, c12⟩
    case round =>
      clear h1' h2 c12
      obtain ⟨i, rfl, hi, hB, hO, hc⟩ := hrel
      have hRx := hrd.below (hc.below (Nat.le_refl _) (by simp))
      by_cases hlt : i < xs.length
      · obtain ⟨ba, oa, rfl, hcell⟩ := hRx.at hlt
        have d1 := hcell i hlt
        clear hcell
        rcases Nat.lt_or_ge i 32 with h32 | h32
        · have g32 : decide ((i : Int) < 32) = true := decide_eq_true (by omega)
          have hP := bufPut b _ (gI xs i) wr hB (by rw [List.length_take]; omega)
          rw [Nat.min_eq_left (by omega), ← take_gI xs i hlt] at hP
          go_wp2_with fail
          refine hP.mono ?_; rintro e w3 ⟨rfl, h3, c3⟩
          clear d1
          go_wp2
          go_roundw
          case rel => exact ⟨i + 1, by go_num, by omega, by rw [Nat.min_eq_left (by omega)]; exact h3, hO.keep c3 (by simp; omega), hc.transT c3 (by intro q hq; simp at hq; subst hq; exact .inr (by have := HB.out; omega))⟩
          case measure => simp [intOf]; omega
        · have hP := bufPutFull b _ (gI xs i) wr hB (by rw [List.length_take]; omega)
          go_wp2_with fail
          refine hP.mono ?_; rintro e w3 ⟨rfl, rfl⟩
          clear d1
          go_wp2
          go_roundw
          case rel => exact ⟨i + 1, by go_num, by omega, by rw [show min (i + 1) 32 = min i 32 by omega]; exact hB, hO, hc⟩
          case measure => simp [intOf]; omega
      · obtain rfl : i = xs.length := by omega
        rw [hn] at hB
        obtain ⟨L, hL⟩ : ∃ L, xs.take n = L := ⟨_, rfl⟩
        have hLL : L.length = n := by rw [← hL, List.length_take]; omega
        rw [hL] at hB
        have HL := Lib.hid hL
        have HLL := Lib.hid hLL
        have HM := Lib.hid hmin
        have HN := Lib.hid hn
        clear hL hLL hmin hn hlt
        go_wp2_with fail
        go_loopw [10] (fun s10 wx => ∃ j : Nat, s10 = .int .i64 j ∧ j ≤ m ∧ BufAt wx b L ∧ BufAt wx o (thou j) ∧ Ch [] w wx) (fun s10 _ => m - (intOf s10).toNat)
        case atStart => exact ⟨0, rfl, by omega, hB, hO, hc⟩
        case round =>
          clear hB hO hc
          obtain ⟨j, rfl, hj, hB, hO, hc⟩ := hrel
          by_cases hlt : j < m
          · have hP := bufPut o _ ((1000 : Int) + (j : Int)) _ hO (by rw [thou_len]; omega)
            rw [← thou_succ] at hP
            go_wp2_with fail
            refine hP.mono ?_; rintro e w3 ⟨rfl, h3, c3⟩
            go_wp2
            go_roundw
            case rel => exact ⟨j + 1, by go_num, by omega, hB.keep c3 (by simp; omega), h3, hc.transT c3 (by intro q hq; simp at hq; subst hq; exact .inr (by have := HB.out; omega))⟩
            case measure => simp [intOf]; omega
          · obtain rfl : j = m := by omega
            have hH := halfAny b o L (thou j) n j HLL.out (thou_len _) _ hB hO (by omega)
            go_wp2_with fail
            refine hH.mono ?_; rintro e w6 ⟨k, rfl, hkn, hkm, hk, h6, h6o, c6⟩
            have hc6 := hc.transT c6 (by intro q hq; simp at hq; rcases hq with rfl | rfl <;> exact .inr (by have := HB.out; omega))
            have HL6 := Lib.hid (bufLen b _ _ h6)
            have HL6o := Lib.hid (bufLen o _ _ h6o)
            rw [List.length_take, HLL.out, Nat.min_eq_left (by omega)] at HL6
            rw [List.length_append, thou_len, List.length_drop, HLL.out, show n - (n - k) = k by omega] at HL6o
            clear hB hO hc c6 hlt
            rcases hk with hk | ⟨hk, hk0, hkr⟩
            · clear hH
              have q1 : (n : Int) / 2 = (k : Int) := by omega
              have HK := Lib.hid hk
              clear hk
              go_wp2_with fail
              refine HL6.out.mono ?_; rintro e w7 ⟨rfl, rfl⟩
              go_wp2_with fail
              refine HL6o.out.mono ?_; rintro e w8 ⟨rfl, rfl⟩
              clear HL6 HL6o
              go_wp2_with fail
              go_loopg [12] k (fun p s12 wx => ∃ t : Nat, t = n - k + p ∧ s12 = .int .i64 ((t : Int) - 1) ∧ p ≤ k ∧ BufAt wx b (L.take (n - k)) ∧ BufAt wx o (thou j ++ (L.drop (n - k)).take p) ∧ Ch [] w wx)
              case atStart => exact ⟨n, by omega, by rfl, Nat.le_refl _, h6, by rw [List.take_of_length_le (by rw [List.length_drop, HLL.out]; omega)]; exact h6o, hc6⟩
              case round =>
                clear h6 h6o hc6
                obtain ⟨t, ht, rfl, hp, hB, hO, hc⟩ := hrel
                have hRx := hrd.below (hc.below (Nat.le_refl _) (by simp))
                by_cases hlt : 0 < gk
                · obtain ⟨q, hq⟩ : ∃ q, gk = q + 1 := ⟨gk - 1, by omega⟩
                  obtain ⟨r, hr⟩ : ∃ r, n - k + q = r := ⟨_, rfl⟩
                  have e1 : (t : Int) - 1 = (r : Int) := by omega
                  rw [e1]
                  have hrx : r < xs.length := by omega
                  have hv : gI (L.drop (n - k)) q = gI xs r := by rw [gI_drop, hr, ← HL.out, gI_take _ _ _ (by omega)]
                  rw [hq, take_gI _ q (by rw [List.length_drop, HLL.out]; omega), hv, ← List.append_assoc] at hO
                  obtain ⟨ba, oa, rfl, hcell⟩ := hRx.at hrx
                  have hG := bufGet o _ _ wr hO
                  have f1 : (n : Int) - (k : Int) ≤ (r : Int) := by omega
                  have HQ := Lib.hid hq
                  have HR := Lib.hid hr
                  clear hq hr e1 hv ht hcell
                  go_wp2_with fail
                  refine hG.mono ?_; rintro e w9 ⟨rfl, h9, c9⟩
                  have hcw := hc.transT c9 (by intro q hq; simp at hq; subst hq; exact .inr (by have := HB.out; omega))
                  have hRx := hrd.below (hcw.below (Nat.le_refl _) (by simp))
                  obtain ⟨ba', oa', he, hcell⟩ := hRx.at hrx
                  obtain ⟨rfl, rfl⟩ : ba' = ba ∧ oa' = oa := by simpa [eq_comm] using he
                  have d1 := hcell r hrx
                  clear hcell he
                  go_wp2_with fail
                  go_roundg q
                  case measure => have := HQ.out; omega
                  case rel => exact ⟨r, HR.out.symm, rfl, by have := HQ.out; omega, hB.keep c9 (by simp; omega), h9, hcw⟩
                · obtain rfl : gk = 0 := by omega
                  rw [List.take_zero, List.append_nil] at hO
                  have e2 : (t : Int) ≤ (n : Int) - (k : Int) := by omega
                  have e3 : (n : Int) - (k : Int) ≤ (t : Int) := by omega
                  obtain ⟨p0, hp0⟩ : ∃ p0, n - k = p0 := ⟨_, rfl⟩
                  have e4 : (n : Int) - (k : Int) - 1 = (p0 : Int) - 1 := by omega
                  have e5 : p0 ≤ n := by omega
                  rw [hp0] at hB
                  have HP0 := Lib.hid hp0
                  have HE4 := Lib.hid e4
                  clear ht hp0 e4 hlt hRx
                  go_wp2_with fail
                  go_loopg [15] p0 (fun p s15 wx => s15 = .int .i64 ((p : Int) - 1) ∧ p ≤ p0 ∧ BufAt wx b (L.take p) ∧ BufAt wx o (thou j) ∧ Ch [] w wx)
                  case atStart => exact ⟨congrArg (Value.int .i64) (by have := HE4.out; have := HK.out; omega), Nat.le_refl _, hB, hO, hc⟩
                  case round =>
                    clear hB hO hc
                    obtain ⟨rfl, hp2, hB, hO, hc⟩ := hrel
                    have hRx := hrd.below (hc.below (Nat.le_refl _) (by simp))
                    by_cases hlt : 0 < gk
                    · obtain ⟨q, hq⟩ : ∃ q, gk = q + 1 := ⟨gk - 1, by omega⟩
                      have e1 : (gk : Int) - 1 = (q : Int) := by omega
                      rw [e1]
                      have hrx : q < xs.length := by omega
                      have hv : gI L q = gI xs q := by rw [← HL.out, gI_take _ _ _ (by omega)]
                      rw [hq, take_gI _ q (by rw [HLL.out]; omega), hv] at hB
                      obtain ⟨ba, oa, rfl, hcell⟩ := hRx.at hrx
                      have hG := bufGet b _ _ wr hB
                      have HQ := Lib.hid hq
                      clear hq e1 hv hcell
                      go_wp2_with fail
                      refine hG.mono ?_; rintro e w9 ⟨rfl, h9, c9⟩
                      have hcw := hc.transT c9 (by intro q hq; simp at hq; subst hq; exact .inr (by have := HB.out; omega))
                      have hRx := hrd.below (hcw.below (Nat.le_refl _) (by simp))
                      obtain ⟨ba', oa', he, hcell⟩ := hRx.at hrx
                      obtain ⟨rfl, rfl⟩ : ba' = ba ∧ oa' = oa := by simpa [eq_comm] using he
                      have d1 := hcell q hrx
                      clear hcell he
                      go_wp2_with fail
                      go_roundg q
                      case measure => have := HQ.out; omega
                      case rel => exact ⟨rfl, by have := HQ.out; omega, h9, hO.keep c9 (by simp; omega), hcw⟩
                    · obtain rfl : gk = 0 := by omega
                      rw [List.take_zero] at hB
                      have HLo := Lib.hid (bufLen o _ wr hO)
                      rw [thou_len] at HLo
                      clear hlt hRx
                      go_wp2_with fail
                      refine (bufGetEmpty b _ hB).mono ?_; rintro e w10 ⟨rfl, rfl⟩
                      go_wp2_with fail
                      refine (bufGetNil _).mono ?_; rintro e w11 ⟨rfl, rfl⟩
                      go_wp2_with fail
                      refine (told17 _).mono ?_; rintro e w12 ⟨rfl, c12⟩
                      have hL12 := bufLen o _ w12 (hO.keep c12 (by simp))
                      rw [thou_len] at hL12
                      go_wp2_with fail
                      refine hL12.mono ?_; rintro e w13 ⟨rfl, rfl⟩
                      go_wp2_with fail
                      refine (bufPutNil 1 _).mono ?_; rintro e w14 ⟨rfl, rfl⟩
                      go_wp2_with fail
                      refine (bufLenNil _).mono ?_; rintro e w15 ⟨rfl, rfl⟩
                      go_wp2
                      go_ret
                      exact ⟨rfl, (hc.trans c12).below (Nat.le_refl _) (by simp)⟩
            · clear hH
              obtain ⟨h, hh⟩ : ∃ h, n / 2 = h := ⟨_, rfl⟩
              have q1 : (n : Int) / 2 = (h : Int) := by omega
              have q2 : (k : Int) ≤ 0 := by omega
              have q3 : (0 : Int) < h := by omega
              have q4 : (32 : Int) - (j : Int) < (h : Int) := by omega
              have HK := Lib.hid hk0
              clear hk hk0 hkr hh
              go_wp2_with fail
              refine HL6.out.mono ?_; rintro e w7 ⟨rfl, rfl⟩
              go_wp2_with fail
              refine HL6o.out.mono ?_; rintro e w8 ⟨rfl, rfl⟩
              clear HL6 HL6o
              go_wp2_with fail
              go_loopg [12] k (fun p s12 wx => ∃ t : Nat, t = n - k + p ∧ s12 = .int .i64 ((t : Int) - 1) ∧ p ≤ k ∧ BufAt wx b (L.take (n - k)) ∧ BufAt wx o (thou j ++ (L.drop (n - k)).take p) ∧ Ch [] w wx)
              case atStart => exact ⟨n, by omega, by rfl, Nat.le_refl _, h6, by rw [List.take_of_length_le (by rw [List.length_drop, HLL.out]; omega)]; exact h6o, hc6⟩
              case round =>
                clear h6 h6o hc6
                obtain ⟨t, ht, rfl, hp, hB, hO, hc⟩ := hrel
                have hRx := hrd.below (hc.below (Nat.le_refl _) (by simp))
                by_cases hlt : 0 < gk
                · exfalso
                  omega
                · obtain rfl : gk = 0 := by omega
                  rw [List.take_zero, List.append_nil] at hO
                  have e2 : (t : Int) ≤ (n : Int) - (k : Int) := by omega
                  have e3 : (n : Int) - (k : Int) ≤ (t : Int) := by omega
                  obtain ⟨p0, hp0⟩ : ∃ p0, n - k = p0 := ⟨_, rfl⟩
                  have e4 : (n : Int) - (k : Int) - 1 = (p0 : Int) - 1 := by omega
                  have e5 : p0 ≤ n := by omega
                  rw [hp0] at hB
                  have HP0 := Lib.hid hp0
                  have HE4 := Lib.hid e4
                  clear ht hp0 e4 hlt hRx
                  go_wp2_with fail
                  go_loopg [15] p0 (fun p s15 wx => s15 = .int .i64 ((p : Int) - 1) ∧ p ≤ p0 ∧ BufAt wx b (L.take p) ∧ BufAt wx o (thou j) ∧ Ch [] w wx)
                  case atStart => exact ⟨congrArg (Value.int .i64) (by have := HE4.out; have := HK.out; omega), Nat.le_refl _, hB, hO, hc⟩
                  case round =>
                    clear hB hO hc
                    obtain ⟨rfl, hp2, hB, hO, hc⟩ := hrel
                    have hRx := hrd.below (hc.below (Nat.le_refl _) (by simp))
                    by_cases hlt : 0 < gk
                    · obtain ⟨q, hq⟩ : ∃ q, gk = q + 1 := ⟨gk - 1, by omega⟩
                      have e1 : (gk : Int) - 1 = (q : Int) := by omega
                      rw [e1]
                      have hrx : q < xs.length := by omega
                      have hv : gI L q = gI xs q := by rw [← HL.out, gI_take _ _ _ (by omega)]
                      rw [hq, take_gI _ q (by rw [HLL.out]; omega), hv] at hB
                      obtain ⟨ba, oa, rfl, hcell⟩ := hRx.at hrx
                      have hG := bufGet b _ _ wr hB
                      have HQ := Lib.hid hq
                      clear hq e1 hv hcell
                      go_wp2_with fail
                      refine hG.mono ?_; rintro e w9 ⟨rfl, h9, c9⟩
                      have hcw := hc.transT c9 (by intro q hq; simp at hq; subst hq; exact .inr (by have := HB.out; omega))
                      have hRx := hrd.below (hcw.below (Nat.le_refl _) (by simp))
                      obtain ⟨ba', oa', he, hcell⟩ := hRx.at hrx
                      obtain ⟨rfl, rfl⟩ : ba' = ba ∧ oa' = oa := by simpa [eq_comm] using he
                      have d1 := hcell q hrx
                      clear hcell he
                      go_wp2_with fail
                      go_roundg q
                      case measure => have := HQ.out; omega
                      case rel => exact ⟨rfl, by have := HQ.out; omega, h9, hO.keep c9 (by simp; omega), hcw⟩
                    · obtain rfl : gk = 0 := by omega
                      rw [List.take_zero] at hB
                      have HLo := Lib.hid (bufLen o _ wr hO)
                      rw [thou_len] at HLo
                      clear hlt hRx
                      go_wp2_with fail
                      refine (bufGetEmpty b _ hB).mono ?_; rintro e w10 ⟨rfl, rfl⟩
                      go_wp2_with fail
                      refine (bufGetNil _).mono ?_; rintro e w11 ⟨rfl, rfl⟩
                      go_wp2_with fail
                      refine (told17 _).mono ?_; rintro e w12 ⟨rfl, c12⟩
                      have hL12 := bufLen o _ w12 (hO.keep c12 (by simp))
                      rw [thou_len] at hL12
                      go_wp2_with fail
                      refine hL12.mono ?_; rintro e w13 ⟨rfl, rfl⟩
                      go_wp2_with fail
                      refine (bufPutNil 1 _).mono ?_; rintro e w14 ⟨rfl, rfl⟩
                      go_wp2_with fail
                      refine (bufLenNil _).mono ?_; rintro e w15 ⟨rfl, rfl⟩
                      go_wp2
                      go_ret
                      exact ⟨rfl, (hc.trans c12).below (Nat.le_refl _) (by simp)⟩
end Go.Proofs.Ytalnkhcippcghaa
