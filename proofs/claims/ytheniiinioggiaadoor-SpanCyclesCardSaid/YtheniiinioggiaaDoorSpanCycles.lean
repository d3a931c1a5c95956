/-
  The walk of the statement SpanCycles: the law returns true at every input. Conditions: the library's table reads as its text lays it.
-/
import Derived.Test.YtheniiinioggiaaDoorSpanCycM
import Derived.Test.YtheniiinioggiaaDoorArgs
namespace Go.Proofs.YtheniiinioggiaaDoor
open Go.RowKit
set_option maxRecDepth 100000 in
set_option maxHeartbeats 10000000 in
theorem cycles6_walk (a0 : Int) (a1 : Option Addr) (xs1 : List Int) (cap1 : Nat) (a2 : Option Addr) (xs2 : List Int) (cap2 : Nat) (w : World) (hT : TabW w) (r1 : Rd w a1 xs1) (m1 : xs1.length ≤ maxLen) (r2 : Rd w a2 xs2) (m2 : xs2.length ≤ maxLen) :
    Calls Tryd.prog 8 #[.int .i64 a0, .slice a1 xs1.length cap1, .slice a2 xs2.length cap2] w fun e w' => e = .returned (.bool true) ∧ Below w.heap.size w w' := by
  obtain ⟨c, hc, hcl⟩ := umod a0 16 (by decide) (by decide)
  obtain ⟨n, hn, hn1, hn2⟩ := sls_in (k := (c : Int)) (by omega) (by omega)
  have hN := spNew 7 c n w (sz_pos (by omega) (by omega)) (by omega) hn hn2
  obtain ⟨l1, hl1⟩ : ∃ l, xs1.length = l := ⟨_, rfl⟩
  obtain ⟨l2, hl2⟩ : ∃ l, xs2.length = l := ⟨_, rfl⟩
  unfold maxLen at m1 m2
  rw [hl1] at m1 ⊢
  rw [hl2] at m2 ⊢
  have HL1 := Lib.hid hl1
  have HL2 := Lib.hid hl2
  have HC := Lib.hid hc
  clear hl1 hl2 hc hn
  by_cases hbig : 12 < l1 ∨ l2 < l1
  · have hB := Lib.hid hbig
    rcases Nat.lt_or_ge 12 l1 with h12 | h12
    · have t1 : decide ((l1 : Int) > 12) = true := decide_eq_true (by omega)
      clear hbig
      go_enter Tryd.func8, Tryd.ntmps8
      go_wp2_with fail
      try rw [HC.out]
      refine hN.mono ?_; rintro e w1 ⟨s, D, rfl, h1⟩
      clear hN
      go_wp2_with fail
      refine (told6 _ (h1.tab hT)).mono ?_; rintro e w2 ⟨rfl, c2⟩
      have hend := (h1.ch.trans c2).below (Nat.le_refl _) (by simp)
      clear h1
      go_wp2_with fail
      go_ret
      exact ⟨rfl, hend⟩
    · have t1 : decide ((l1 : Int) > 12) = false := decide_eq_false (by omega)
      have t2 : decide ((l2 : Int) < l1) = true := decide_eq_true (by omega)
      have t2n : l2 < l1 := by omega
      have t1n : ¬ 12 < l1 := by omega
      clear hbig
      go_enter Tryd.func8, Tryd.ntmps8
      go_wp2_with fail
      try rw [HC.out]
      refine hN.mono ?_; rintro e w1 ⟨s, D, rfl, h1⟩
      clear hN
      go_wp2_with fail
      refine (told6 _ (h1.tab hT)).mono ?_; rintro e w2 ⟨rfl, c2⟩
      have hend := (h1.ch.trans c2).below (Nat.le_refl _) (by simp)
      clear h1
      go_wp2_with fail
      go_ret
      exact ⟨rfl, hend⟩
  · have h12 : l1 ≤ 12 := by omega
    have hl21 : l1 ≤ l2 := by omega
    have t1 : decide ((l1 : Int) > 12) = false := decide_eq_false (by omega)
    have t2 : decide ((l2 : Int) < l1) = false := decide_eq_false (by omega)
    have t2n : ¬ l2 < l1 := by omega
    have t1n : ¬ 12 < l1 := by omega
    clear hbig
    go_enter Tryd.func8, Tryd.ntmps8
    go_wp2_with fail
    try rw [HC.out]
    refine hN.mono ?_; rintro e w1 ⟨s, D, rfl, h1⟩
    clear hN HC
    go_wp2_with fail
    go_loopw [9, 10] (fun s9 s10 wr => ∃ (i fr L c9 : Nat) (U : Nat → Bool) (a9 : Option Addr), s10 = .int .i64 i ∧ i ≤ l1 ∧ s9 = .slice a9 L c9 ∧ Hid (cnt U n = L) ∧ SpD w wr s 7 c n D U none_ fr ∧ Hid (∀ j, j < fr → j < n → U j = true) ∧ LsB wr D a9 c9 (els U n)) (fun _ s10 _ => l1 - (intOf s10).toNat)
    case atStart => exact ⟨0, 0, 0, 0, none_, none, rfl, by omega, rfl, Lib.hid (cnt_none_ n), h1, Lib.hid (fun j hj => by omega), by rw [els_none]; exact LsB.nil _ _⟩
    case round =>
      clear h1
      obtain ⟨i, fr, L, c9, U, a9, rfl, hi, rfl, HL, hst, HFr, hls⟩ := hrel
      by_cases hlt : i < l1
      · have t3 : decide ((i : Int) < l1) = true := decide_eq_true (by omega)
        obtain ⟨x, hx⟩ : ∃ x, gI xs1 i = x := ⟨_, rfl⟩
        obtain ⟨y, hy⟩ : ∃ y, gI xs2 i = y := ⟨_, rfl⟩
        obtain ⟨t, ht, htl⟩ := umod x 20 (by decide) (by decide)
        obtain ⟨m0, hm0, hm0l⟩ := umod y 4 (by decide) (by decide)
        obtain ⟨b1, o1, e1, hc1⟩ := r1.at (i := i) (by rw [HL1.out]; exact hlt)
        obtain ⟨b2, o2, e2, hc2⟩ := r2.at (i := i) (by rw [HL2.out]; omega)
        subst e1
        subst e2
        have HX := Lib.hid hx
        have HY := Lib.hid hy
        have HT1 := Lib.hid ht
        have HM0 := Lib.hid hm0
        clear hx hy ht hm0 hc1 hc2
        go_wp2_with fail
        go_loopw [9, 11] (fun s9 s11 wr => ∃ (k fr L c9 : Nat) (U : Nat → Bool) (a9 : Option Addr), s11 = .int .i64 k ∧ k ≤ t ∧ s9 = .slice a9 L c9 ∧ Hid (cnt U n = L) ∧ SpD w wr s 7 c n D U none_ fr ∧ Hid (∀ j, j < fr → j < n → U j = true) ∧ LsB wr D a9 c9 (els U n)) (fun _ s11 _ => t - (intOf s11).toNat)
        case atStart => exact ⟨0, fr, L, c9, U, a9, rfl, by omega, rfl, HL, hst, HFr, hls⟩
        case round =>
          clear hst hls HL HFr
          obtain ⟨k, fr, L, c9, U, a9, rfl, hk, rfl, HL, hst, HFr, hls⟩ := hrel
          obtain ⟨b1', o1', e1, hc1⟩ := (r1.keep hst.ch (by simp)).at (i := i) (by rw [HL1.out]; exact hlt)
          cases e1
          have d1 := hc1 i (by rw [HL1.out]; exact hlt)
          rw [HX.out] at d1
          clear hc1
          have hLn : L ≤ n := by rw [← HL.out]; exact cnt_le U n
          by_cases hkt : k < t
          · have t4 : decide ((k : Int) < wrap64 ((IntKind.u64.wrap x).tmod 20)) = true := by rw [HT1.out]; exact decide_eq_true (by omega)
            rcases free_cases (U := U) (n := n) (fr := fr) HFr.out with ⟨g1, g2⟩ | ⟨j, g1, g2, g3, g4, g5⟩
            · have x1 := spAllocNo false hst hT (by unfold full; rw [g2]; rfl)
              have t5 : ((L : Int) == (n : Int)) = true := by rw [← HL.out, g1]; exact beq_self_eq_true _
              clear g1 g2
              go_wp2_with fail
              refine x1.mono ?_; rintro e w2 ⟨rfl, rfl⟩
              have cd := (Ch.refl [] wr).drewN 1
              have h2 := hst.still cd
              have ls2 := hls.step cd (by simp)
              obtain ⟨W2, hW2⟩ : ∃ W2, wr.drewN 1 = W2 := ⟨_, rfl⟩
              rw [hW2] at h2 ls2 ⊢
              clear x1 hst hls cd hW2
              go_wp2_with fail
              refine (spSlots h2).mono ?_; rintro e w3 ⟨rfl, rfl⟩
              go_wp2_with fail
              go_roundw
              case rel => exact ⟨k + 1, fr, L, c9, U, a9, by go_num, by omega, rfl, HL, h2, HFr, ls2⟩
              case measure => simp [intOf]; omega
            · have x1 := spAllocYes false j hst hT g1 (by omega)
              have hLn : L < n := by rw [← HL.out]; exact g5
              have t5 : ((L : Int) == (n : Int)) = false := by rw [beq_eq_false_iff_ne]; omega
              have HG3 := Lib.hid g3
              have HG4 := Lib.hid g4
              clear g1 g3 g4 g5
              go_wp2_with fail
              refine x1.mono ?_; rintro e w2 ⟨rfl, h2, c2⟩
              have h2 : SpD w w2 s 7 c n D (putS U n j true) none_ j := h2.congr (fun _ _ => rfl) (fun _ _ => rfl)
              have ls2 := hls.step c2 (fun k hk => .inl hk)
              have hD2 : ∀ k ∈ D, k < w2.heap.size := fun k hk => (h2.bd k hk).2
              clear x1 hst hls c2
              go_wp2_with fail
              refine (spSlots h2).mono ?_; rintro e w3 ⟨rfl, rfl⟩
              have x1 := hasAny a9 (els U n) (j : Int) L c9 w3 ls2.1 (by rw [els_len, HL.out]) (by omega)
              rw [els_has, hasI_in g2, HG3.out] at x1
              go_wp2_with fail
              refine x1.mono ?_; rintro e w4 ⟨rfl, rfl⟩
              clear x1
              have x1 := putLsB a9 (els U n) (j : Int) L c9 D w4 ls2 (by rw [els_len, HL.out]) hD2 (by omega)
              rw [els_put U n (j : Int) (by omega), els_len, put_len g2 HG3.out, HL.out] at x1
              go_wp2_with fail
              refine x1.mono ?_; rintro e w5 ⟨a5, c5, rfl, ls5, cc5⟩
              have h5 := h2.still cc5
              have HL5 := Lib.hid (show cnt (putS U n j true) n = L + 1 by rw [put_len g2 HG3.out, HL.out])
              have HF5 : Hid (∀ t, t < j → t < n → putS U n j true t = true) := Lib.hid (fun t ht htn => by
                rw [putS_nat' _ _ _ _ g2]
                unfold upd
                rw [if_neg (by omega)]
                exact HG4.out t ht)
              clear x1 h2 ls2 cc5
              go_wp2_with fail
              go_roundw
              case rel => exact ⟨k + 1, j, L + 1, c5, putS U n j true, a5, by go_num, by omega, rfl, HL5, h5, HF5, ls5⟩
              case measure => simp [intOf]; omega
          · obtain rfl : t = k := by omega
            have t4 : decide ((t : Int) < wrap64 ((IntKind.u64.wrap x).tmod 20)) = false := by rw [HT1.out]; exact decide_eq_false (by omega)
            obtain ⟨b2', o2', e1, hc1⟩ := (r2.keep hst.ch (by simp)).at (i := i) (by rw [HL2.out]; omega)
            cases e1
            have d2 := hc1 i (by rw [HL2.out]; omega)
            rw [HY.out] at d2
            obtain ⟨m, hm⟩ : ∃ m, m0 + 1 = m := ⟨_, rfl⟩
            have HMW : Hid (wrap64 ((1 : Int) + (m0 : Int)) = (m : Int)) := Lib.hid (by rw [IntWalk.wrap64_in _ (by omega)]; omega)
            have b1 : 0 < m := by omega
            have b3 : ¬ (m : Int) = 0 := by omega
            have b4 : ((m : Int) == 0) = false := by rw [beq_eq_false_iff_ne]; omega
            have b5 : ¬ m = 0 := by omega
            clear hc1 hm
            go_upto_region 18 with fail
            rw [HM0.out, HMW.out]
            clear d1 d2 t4
            obtain ⟨E, hE⟩ : ∃ E, D ++ (a9.map fun y => y.block).toList = E := ⟨_, rfl⟩
            have hDE : ∀ k ∈ D, k ∈ E := fun k hk => by rw [← hE]; exact List.mem_append_left _ hk
            have hyE : ∀ y, a9 = some y → y.block ∈ E := fun y hy => by rw [← hE, hy]; simp
            have hEs : ∀ wx, SpD w wx s 7 c n D U none_ fr → LsB wx D a9 c9 (els U n) → ∀ k ∈ E, k < wx.heap.size := fun wx h1 h2 k hk => by
              rw [← hE, List.mem_append] at hk
              rcases hk with hk | hk
              · exact (h1.bd k hk).2
              · simp only [Option.mem_toList, Option.map_eq_some_iff] at hk
                obtain ⟨y, hy, rfl⟩ := hk
                exact (h2.2.2.2 y hy).1
            have hE0 := hEs _ hst hls
            have HDE := Lib.hid hDE
            have HYE := Lib.hid hyE
            clear hE hDE hyE hEs
            go_wp2_with fail
            go_loopw [14, 15, 17] (fun s14 s15 s17 wr => ∃ (k : Nat) (v u : Value) (M : Nat → Bool), s17 = .int .i64 k ∧ k ≤ L ∧ v = s14 ∧ u = s15 ∧ SpD w wr s 7 c n D U M fr ∧ LsB wr D a9 c9 (els U n) ∧ Two wr w.heap.size E v (els M n) u (goes U M n k) ∧ (∀ k ∈ E, k < wr.heap.size) ∧ Hid (∀ j, j < n → M j = true → cnt U j < k)) (fun _ _ s17 _ => L - (intOf s17).toNat)
            case atStart => exact ⟨0, .slice none 0 0, .slice none 0 0, none_, rfl, by omega, rfl, rfl, hst, hls, ⟨by rw [els_none]; exact OwD.nil _ _ _, by unfold goes; exact OwD.nil _ _ _, by simp [Value.ownBlock]⟩, hE0, Lib.hid (fun j _ h => by simp [none_] at h)⟩
            case round =>
              clear hst hls hE0
              obtain ⟨k, v, u, M, rfl, hk, rfl, rfl, hst, hls, htw, hEw, HMk⟩ := hrel
              by_cases hkL : k < L
              · have t5 : decide ((k : Int) < L) = true := decide_eq_true (by omega)
                obtain ⟨p, p1, p2, p3, p4, p5⟩ := mem_take U n k (by rw [HL.out]; exact hkL)
                have hkl : k < (els U n).length := by rw [els_len, HL.out]; exact hkL
                have hget : gI (els U n) k = (p : Int) := by
                  rw [gI_at _ k hkl]
                  have h1 : (els U n)[k]? = some (p : Int) := by simp [els, p1]
                  obtain ⟨h2, h3⟩ := List.getElem?_eq_some_iff.1 h1
                  exact h3
                have hMp : M p = false := by
                  cases hM : M p with
                  | false => rfl
                  | true => have := HMk.out p p2 hM; omega
                have hlow : ∀ j, j < n → M j = true → j < p := fun j hj hM => by
                  have h1 := HMk.out j hj hM
                  by_cases h2 : j < p
                  · exact h2
                  · have := cnt_mono U p j (by omega); omega
                have HG1 := Lib.hid (goes_keep (U := U) (M := M) (by rw [HL.out]; exact hkL) p2 hget (els_take p5))
                have HG2 := Lib.hid (goes_go (U := U) (M := M) (by rw [HL.out]; exact hkL) p2 hget hMp)
                have HS1 := Lib.hid (els_snoc p2 hlow)
                obtain ⟨b9, o9, rfl, hc9⟩ := hls.1.at (i := k) hkl
                have d9 := hc9 k hkl
                rw [hget] at d9
                obtain ⟨rb, hrb⟩ : ∃ r, k % m = r := ⟨_, rfl⟩
                have x1 : (k : Int) % (m : Int) = (rb : Int) := by rw [← hrb, Int.natCast_emod]
                have x1t : (k : Int).tmod (m : Int) = (rb : Int) := by rw [Int.tmod_eq_emod_of_nonneg (by omega)]; exact x1
                have HGET := Lib.hid hget
                have HKL := Lib.hid hkl
                have HP4 := Lib.hid p4
                clear p1 p4 p5 hlow hc9 hrb hget hkl
                by_cases hr0 : rb = 0
                · subst hr0
                  replace x1 : (k : Int) % (m : Int) = 0 := x1
                  replace x1t : (k : Int).tmod (m : Int) = 0 := x1t
                  have y1 := spMark (p : Int) hst
                  rw [(mark_in' p2 p3).1, (mark_in' p2 p3).2, hMp] at y1
                  go_wp2_with fail
                  refine y1.mono ?_; rintro e w3 ⟨rfl, h3, c3⟩
                  have ls3 := hls.step c3 (fun k hk => .inl hk)
                  have tw3 := htw.step c3 (fun k hk => .inl (HDE.out k hk))
                  have hE3 : ∀ k ∈ E, k < w3.heap.size := fun k hk => Nat.lt_of_lt_of_le (hEw k hk) c3.size
                  obtain ⟨b9', o9', e9, hc9⟩ := ls3.1.at (i := k) HKL.out
                  cases e9
                  have d10 := hc9 k HKL.out
                  rw [HGET.out] at d10
                  clear y1 hst hls htw hEw c3 hc9 d9
                  obtain ⟨av, cv, rfl, z1, z2, _⟩ := tw3.a.1.form
                  have hlv0 : (els M n).length ≤ n := by rw [els_len]; exact cnt_le _ _
                  obtain ⟨lv, hlv⟩ : ∃ l, (els M n).length = l := ⟨_, rfl⟩
                  rw [hlv] at tw3 z1 hlv0 ⊢
                  have HLV := Lib.hid hlv
                  have ca := (Ch.refl [] w3).alloc (.cells #[.int .i64 (p : Int)] 3)
                  have tw5 := tw3.still ca
                  have h5 := h3.still ca
                  have ls5 := ls3.step ca (by simp)
                  have hE5 : ∀ k ∈ E, k < (w3.alloc (.cells #[.int .i64 (p : Int)] 3)).heap.size := fun k hk => Nat.lt_of_lt_of_le (hE3 k hk) ca.size
                  have hB5 := h5.ch.size
                  clear hlv tw3 h3 ls3 hE3 ca
                  go_wp2_with (at_builtin; refine wpList_app rfl (.tmp 111) (.tmp 116) rfl w.heap.size _ (els M n) rfl tw5.a.1 hB5 _ [(p : Int)] rfl (srcOne w3 (p : Int)) (by have := HLV.out; simp; omega) ?_)
                  intro v' w6 hv' c6 n6
                  have tw6 := tw5.appA hE5 hv' c6 n6
                  have h6 := h5.beside c6 (fun x hx => ⟨fun hD => tw5.a.2 x (by simpa using hx) (HDE.out x hD), tw5.a.1.2 x (by simpa using hx)⟩)
                  have ls6 := ls5.beside c6 (fun y hy hm => tw5.a.2 _ (by simpa using hm) (HYE.out y hy))
                  have hE6 : ∀ k ∈ E, k < w6.heap.size := fun k hk => Nat.lt_of_lt_of_le (hE5 k hk) c6.size
                  rw [← HS1.out, ← HG1.out] at tw6
                  have HM6 : Hid (∀ j, j < n → putS M n p true j = true → cnt U j < k + 1) := Lib.hid (fun j hj hM => by
                    rw [putS_nat' _ _ _ _ p2] at hM
                    unfold upd at hM
                    by_cases hjp : j = p
                    · rw [hjp, HP4.out]; omega
                    · rw [if_neg hjp] at hM
                      have := HMk.out j hj hM
                      omega)
                  clear tw5 h5 ls5 hE5 c6 n6 hv'
                  go_wp2_with fail
                  go_roundw
                  case rel => exact ⟨k + 1, v', u, putS M n p true, by go_num, by omega, rfl, rfl, h6, ls6, tw6, hE6, HM6⟩
                  case measure => simp [intOf]; omega
                · have x2 : ((rb : Int) == 0) = false := by rw [beq_eq_false_iff_ne]; omega
                  obtain ⟨av, cv, rfl, z1, z2, _⟩ := htw.b.1.form
                  have hlv0 : (goes U M n k).length ≤ n := Nat.le_trans (goes_len _ _ _ _) (cnt_le _ _)
                  obtain ⟨G, hG⟩ : ∃ G, goes U M n k = G := ⟨_, rfl⟩
                  rw [hG] at htw z1 hlv0 ⊢
                  have HG3 := Lib.hid (show goes U M n (k + 1) = G ++ [(p : Int)] by rw [HG2.out, hG])
                  obtain ⟨lv, hlv⟩ : ∃ l, G.length = l := ⟨_, rfl⟩
                  rw [hlv] at htw z1 hlv0 ⊢
                  have HLV := Lib.hid hlv
                  have ca := (Ch.refl [] wr).alloc (.cells #[.int .i64 (p : Int)] 3)
                  have tw5 := htw.still ca
                  have h5 := hst.still ca
                  have ls5 := hls.step ca (by simp)
                  have hE5 : ∀ k ∈ E, k < (wr.alloc (.cells #[.int .i64 (p : Int)] 3)).heap.size := fun k hk => Nat.lt_of_lt_of_le (hEw k hk) ca.size
                  have hB5 := h5.ch.size
                  clear hlv hG hst hls htw hEw ca
                  go_wp2_with (at_builtin; refine wpList_app rfl (.tmp 118) (.tmp 123) rfl w.heap.size _ G rfl tw5.b.1 hB5 _ [(p : Int)] rfl (srcOne wr (p : Int)) (by have := HLV.out; simp; omega) ?_)
                  intro v' w6 hv' c6 n6
                  have tw6 := tw5.appB hE5 hv' c6 n6
                  have h6 := h5.beside c6 (fun x hx => ⟨fun hD => tw5.b.2 x (by simpa using hx) (HDE.out x hD), tw5.b.1.2 x (by simpa using hx)⟩)
                  have ls6 := ls5.beside c6 (fun y hy hm => tw5.b.2 _ (by simpa using hm) (HYE.out y hy))
                  have hE6 : ∀ k ∈ E, k < w6.heap.size := fun k hk => Nat.lt_of_lt_of_le (hE5 k hk) c6.size
                  rw [← HG3.out] at tw6
                  have HM6 : Hid (∀ j, j < n → M j = true → cnt U j < k + 1) := Lib.hid (fun j hj hM => by
                    have := HMk.out j hj hM
                    omega)
                  clear tw5 h5 ls5 hE5 c6 n6 hv'
                  go_wp2_with fail
                  go_roundw
                  case rel => exact ⟨k + 1, v, v', M, by go_num, by omega, rfl, rfl, h6, ls6, tw6, hE6, HM6⟩
                  case measure => simp [intOf]; omega
              · obtain rfl : L = k := by omega
                have t5 : decide ((L : Int) < L) = false := decide_eq_false (by omega)
                have hga := goes_all U M n L (by rw [HL.out]; exact Nat.le_refl _)
                rw [hga] at htw
                obtain ⟨G, hG⟩ : ∃ G, gone U M n = G := ⟨_, rfl⟩
                have HG := Lib.hid hG
                rw [hG] at htw
                have hGn : G.length ≤ n := by rw [← hG, ← hga]; exact Nat.le_trans (goes_len _ _ _ _) (cnt_le _ _)
                obtain ⟨av, cv, rfl, z1, z2, _⟩ := htw.a.1.form
                obtain ⟨au, cu, rfl, z3, z4, _⟩ := htw.b.1.form
                obtain ⟨lg, hlg⟩ : ∃ l, G.length = l := ⟨_, rfl⟩
                obtain ⟨lv, hlv⟩ : ∃ l, cnt M n = l := ⟨_, rfl⟩
                rw [els_len, hlv] at htw z1 ⊢
                rw [hlg] at htw z3 hGn ⊢
                have HLG := Lib.hid hlg
                have HLV := Lib.hid hlv
                clear hga hG hlg hlv hls
                go_wp2_with fail
                refine (spSweep hst hT).mono ?_; rintro e w3 ⟨v3, rfl, o3, h3, c3⟩
                rw [HG.out] at o3
                have tw3 := htw.step c3 (fun k hk => .inl (HDE.out k hk))
                obtain ⟨a3, q3, rfl, z5, z6, rd3⟩ := o3.form
                rw [HLG.out]
                have hI := ints_same a3 au G q3 cu w3 rd3 tw3.b.ls.1 (by rw [HLG.out]; unfold maxLen; omega)
                rw [HLG.out] at hI
                clear hst htw c3 o3 rd3 z5 z6
                go_wp2_with fail
                refine hI.mono ?_; rintro e w4 ⟨rfl, nq, rfl⟩
                have cd := (Ch.refl [] w3).drewN nq
                have h4 := h3.still cd
                have ls4 := (tw3.a.still cd).lsB
                obtain ⟨W4, hW4⟩ : ∃ W4, w3.drewN nq = W4 := ⟨_, rfl⟩
                rw [hW4] at h4 ls4 ⊢
                clear hI h3 tw3 cd hW4
                have ls4 : LsB W4 D av cv (els M n) := ⟨ls4.1, ls4.2.1, ls4.2.2.1, fun y hy => ⟨(ls4.2.2.2 y hy).1, fun hD => (ls4.2.2.2 y hy).2 (HDE.out _ hD)⟩⟩
                have y1 := spLive h4
                rw [HLV.out] at y1
                have ll : ((lv : Int) != (lv : Int)) = false := by simp
                go_wp2_with fail
                refine y1.mono ?_; rintro e w5 ⟨rfl, rfl⟩
                clear y1
                go_wp2_with fail
                go_roundw
                case rel => exact ⟨i + 1, 0, lv, cv, M, av, by go_num, by omega, rfl, HLV, h4, Lib.hid (fun j hj => by omega), ls4⟩
                case measure => simp [intOf]; omega
      · obtain rfl : l1 = i := by omega
        have t3 : decide ((l1 : Int) < l1) = false := decide_eq_false (by omega)
        go_wp2_with fail
        refine (told6 _ (hst.tab hT)).mono ?_; rintro e w2 ⟨rfl, c2⟩
        have hend := (hst.ch.trans c2).below (Nat.le_refl _) (by simp)
        clear hst
        go_wp2_with fail
        go_ret
        exact ⟨rfl, hend⟩
end Go.Proofs.YtheniiinioggiaaDoor
