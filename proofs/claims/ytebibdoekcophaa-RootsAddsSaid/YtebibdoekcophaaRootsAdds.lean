/-
  The walk of the statement RootsAdds: the law returns true at every input. Conditions: none.
-/
import Derived.Test.YtebibdoekcophaaRootsLaws
namespace Go.Proofs.Ytebibdoekcophaa
open Go.RowKit
theorem jobHas_upto (k g : Nat) (h : g < k) : jobHas (sJobs (upto k)) g := ⟨_, List.mem_of_getElem? (show (sJobs (upto k))[g]? = some ((g : Int), 0, 16) by simp [sJobs, upto, h]), rfl⟩
theorem jobHas_ge (k : Nat) (g : Int) (h : (k : Int) ≤ g) : ¬ jobHas (sJobs (upto k)) g := by
  rintro ⟨j, hj, he⟩
  simp [sJobs, upto] at hj
  obtain ⟨a, ha, rfl⟩ := hj
  simp at he
  omega
/-- What is left behind the second loop, and g's stack once more. -/
def addsLeft (k g : Nat) : List Job := (sJobs (upto k)).drop (g + 1) ++ [((k : Int) + 3, 0, 16)]
theorem addsLeft_len (k g : Nat) (h : g < k) : (addsLeft k g).length = k - g := by simp [addsLeft, sJobs_len, upto_len]; omega
theorem addsLeft_not (k g : Nat) (h : g < k) : ¬ jobHas (addsLeft k g) g := by
  rintro ⟨j, hj, he⟩
  simp only [addsLeft, List.mem_append, List.mem_singleton] at hj
  rcases hj with hj | rfl
  · obtain ⟨n, hn⟩ := List.getElem?_of_mem hj
    rw [List.getElem?_drop] at hn
    by_cases hlt : g + 1 + n < k
    · simp [sJobs, upto, hlt] at hn
      rw [← hn] at he
      simp at he
      omega
    · rw [List.getElem?_eq_none (by rw [sJobs_len, upto_len]; omega)] at hn
      cases hn
  · simp at he
    omega
theorem addsDrop (k g : Nat) (h : g < k) : (sJobs (upto k) ++ [((k : Int) + 3, 0, 16)]).drop (g + 1) = addsLeft k g := by
  rw [List.drop_append_of_le_length (by rw [sJobs_len, upto_len]; omega)]
  rfl
theorem addsGet (k p : Nat) (h : p < k) : (sJobs (upto k) ++ [(((k : Int) + 3, 0, 16) : Job)])[p]? = some ((p : Int), 0, 16) := by
  rw [List.getElem?_append_left (by rw [sJobs_len, upto_len]; exact h)]
  simp [sJobs, upto, h]
/-- Who was told last, after p jobs. -/
def lastG (M : List Job) (p : Nat) : Int := if p = 0 then -1 else ((M[p - 1]?).getD (0, 0, 0)).1
theorem lastG_succ (M : List Job) (p : Nat) (j : Job) (h : M[p]? = some j) : lastG M (p + 1) = j.1 := by simp [lastG, h]
theorem lastG_end (L : List Job) (j : Job) : lastG (L ++ [j]) (L.length + 1) = j.1 := by simp [lastG]
theorem sJobs_upto_get (k p : Nat) (h : p < k) : (sJobs (upto k))[p]? = some ((p : Int), 0, 16) := by simp [sJobs, upto, h]
set_option maxRecDepth 100000 in
set_option maxHeartbeats 2000000 in
theorem adds_walk (a0 : Int) (a1 : Int) (w0 : (Lit.int .i64 a0).wf = true) (w1 : (Lit.int .i64 a1).wf = true) (w : World) :
    Calls Try.prog 11 #[.int .i64 a0, .int .i64 a1] w fun e w' => e = .returned (.bool true) ∧ Below w.heap.size w w' := by
  obtain ⟨x, hx, hxl⟩ := umod a0 30 (by decide) (by decide)
  obtain ⟨k, hk⟩ : ∃ k : Nat, (1 : Int) + (x : Int) = k := ⟨1 + x, by omega⟩
  have hk1 : 1 ≤ k := by omega
  have hk2 : k ≤ 30 := by omega
  obtain ⟨i0, hi0, hz0, hz1, hz2⟩ := info_parts Try.infoInt
  go_enter Try.func11, Try.ntmps11
  go_wp2_with fail
  clear hx hk
  go_loopw [6, 7] (fun s7 s8 wr => ∃ i : Nat, s8 = .int .i64 i ∧ i ≤ k ∧ Own wr 3 1 s7 i ((upto i).map (Value.int .i64)) ∧ (∀ q, s7.ownBlock = some q → w.heap.size ≤ q) ∧ Ch [] w wr) (fun _ s8 _ => k - (intOf s8).toNat)
  case atStart => exact ⟨0, rfl, by omega, Own.nil _ _ _, by simp [Value.ownBlock], Ch.refl _ _⟩
  case round =>
    obtain ⟨i, rfl, hi, hO, hv, hc⟩ := hrel
    by_cases hlt : i < k
    · have hO1 := hO.alloc (.cells #[.int .i64 (i : Int)] 3)
      go_wp2_with (at_builtin; refine wpList_append_Own rfl _ _ 22 22 rfl 3 i0 (.int .i64 0) 1 8 Try.underlying22 hi0 hz0 hz1 hz2 rfl u6 i _ rfl hO1 _ 1 [.int .i64 (i : Int)] rfl (Src_lit Try.underlying22 _ [_] 1 1 rfl _ (mem_one rfl)) (by unfold maxLen; omega) (by omega) ?_)
      intro v' w2 hown2 hc2 hf2
      go_wp2
      go_roundw
      case rel =>
        refine ⟨i + 1, by go_num, by omega, by rw [upto_succ]; simpa using hown2, ?_, (hc.alloc (.cells #[.int .i64 (i : Int)] 3)).transT hc2 (fun q hq => .inr (hv q (by simpa using hq)))⟩
        intro q hq
        rcases hf2 with h | h
        · exact hv q (by rw [← h]; exact hq)
        · have := h q hq; have := hc.size; simp at *; omega
      case measure => simp [intOf]; omega
    · obtain rfl : i = k := by omega
      obtain ⟨ga, gc, rfl, hn1, hn2, hn3, hrd⟩ := hO.rd
      rw [upto_len]
      clear hn1 hn2 hn3 hO
      go_wp2_with fail
      have hR := rootsNew 0 ga (upto i) gc wr (by omega) (by rw [upto_len]; omega) hrd (by omega)
      rw [upto_len, show gJobs 0 (gCount 0) ++ sJobs (upto i) = sJobs (upto i) from rfl] at hR
      refine hR.mono ?_; rintro e w2 ⟨rfl, v2, h2, hv2, hc2⟩
      obtain ⟨b, hb⟩ : ∃ b, wr.heap.size = b := ⟨_, rfl⟩
      have hbw : w.heap.size ≤ b := by rw [← hb]; exact hc.size
      rw [hb] at h2 hv2 ⊢
      clear hb hR
      have hcc : Ch [] w w2 := hc.trans hc2
      clear hc hc2 hrd hv hlt hi
      have hLeft := rootsLeft b v2 _ w2 h2
      rw [sJobs_len, upto_len] at hLeft
      go_wp2_with fail
      refine hLeft.mono ?_; rintro e w3 ⟨rfl, rfl⟩
      clear hLeft
      go_upto_region 11 with fail
      obtain ⟨g, hg, hgl⟩ := umod a1 (i : Int) (by omega) (by omega)
      rw [hg]
      clear hg
      go_wp2_with fail
      refine (rootsAddHas b v2 _ (g : Int) w3 h2 (by rw [sJobs_len, upto_len]; omega) (jobHas_upto i g (by omega))).mono ?_; rintro e w4 ⟨rfl, h4, hc4⟩
      have hLeft := rootsLeft b v2 _ w4 h4
      rw [sJobs_len, upto_len] at hLeft
      go_wp2_with fail
      refine hLeft.mono ?_; rintro e w5 ⟨rfl, rfl⟩
      clear hLeft h2
      go_wp2_with fail
      refine (rootsAddNot b v2 _ ((i : Int) + 3) w5 h4 (by rw [sJobs_len, upto_len]; omega) (jobHas_ge i _ (by omega))).mono ?_; rintro e w6 ⟨rfl, v6, h6, hc6, hf6⟩
      have hcc6 : Ch [] w w6 := (hcc.trans hc4).transT hc6 (by
        intro q hq
        simp only [List.mem_cons, Option.mem_toList] at hq
        rcases hq with rfl | hq
        · exact .inr hbw
        · exact .inr (by have := hv2 q hq; omega))
      have hv6 : ∀ q, v6.ownBlock = some q → b < q := by
        intro q hq
        rcases hf6 with h | h
        · exact hv2 q (by rw [← h]; exact hq)
        · exact Nat.lt_of_lt_of_le h4.1.lt (h q hq)
      have hLeft := rootsLeft b v6 _ w6 h6
      rw [List.length_append, sJobs_len, upto_len, List.length_singleton] at hLeft
      clear hcc hc4 hc6 hf6 h4
      go_wp2_with fail
      refine hLeft.mono ?_; rintro e w7 ⟨rfl, rfl⟩
      clear hLeft hv2
      go_wp2_with fail
      go_loopw [10] (fun s10 wx => ∃ (q : Nat) (v : Value), s10 = .int .i64 q ∧ q ≤ g + 1 ∧ RootsAt wx b v ((sJobs (upto i) ++ [((i : Int) + 3, 0, 16)]).drop q) ∧ (∀ y, v.ownBlock = some y → b < y) ∧ Ch [] w wx) (fun s10 _ => g + 1 - (intOf s10).toNat)
      case atStart => exact ⟨0, v6, rfl, by omega, h6, hv6, hcc6⟩
      case round =>
        clear h6 hv6 hcc6
        obtain ⟨q, v, rfl, hq, hR, hv, hc⟩ := hrel
        by_cases hlt : q ≤ g
        · have hj := drop_cons _ q _ (addsGet i q (by omega))
          rw [hj] at hR
          clear hj
          go_wp2_with fail
          refine (rootsNext _ _ _ _ _ hR).mono ?_; rintro e w8 ⟨rfl, v8, h8, hc8, hf8⟩
          go_wp2
          go_roundw
          case rel => exact ⟨q + 1, v8, by go_num, by omega, h8.keep ((Ch.refl [] w8).alloc _) (by simp) (by simp), by rw [hf8]; exact hv, (hc.transT hc8 (by intro y hy; simp at hy; exact .inr (by omega))).alloc _⟩
          case measure => simp [intOf]; omega
        · obtain rfl : q = g + 1 := by omega
          rw [addsDrop i g (by omega)] at hR
          have hlen := addsLeft_len i g (by omega)
          go_wp2_with fail
          refine (rootsAddNot b v _ (g : Int) _ hR (by omega) (addsLeft_not i g (by omega))).mono ?_; rintro e w9 ⟨rfl, v9, h9, hc9, hf9⟩
          have hc' : Ch [] w w9 := hc.transT hc9 (by
            intro y hy
            simp only [List.mem_cons, Option.mem_toList] at hy
            rcases hy with rfl | hy
            · exact .inr hbw
            · exact .inr (by have := hv y hy; omega))
          have hv9 : ∀ y, v9.ownBlock = some y → b < y := by
            intro y hy
            rcases hf9 with h | h
            · exact hv y (by rw [← h]; exact hy)
            · exact Nat.lt_of_lt_of_le hR.1.lt (h y hy)
          obtain ⟨M, hM⟩ : ∃ M, addsLeft i g ++ [((g : Int), 0, 16)] = M := ⟨_, rfl⟩
          have hMl : M.length = i - g + 1 := by rw [← hM, List.length_append, hlen]; rfl
          have hMe : lastG M (i - g + 1) = g := by rw [← hM, ← hlen]; exact lastG_end _ _
          rw [hM] at h9
          have HML := Lib.hid hMl
          have HME := Lib.hid hMe
          clear hM hMl hMe hlen hR hv hc hc9 hf9
          have hLeft := rootsLeft b v9 _ w9 h9
          rw [HML.out] at hLeft
          have e1 : ((i - g + 1 : Nat) : Int) = (i : Int) - (g : Int) - 1 + 2 := by omega
          rw [e1] at hLeft
          clear e1
          go_wp2_with fail
          refine hLeft.mono ?_; rintro e w10 ⟨rfl, rfl⟩
          clear hLeft
          go_wp2_with fail
          go_loopg [14] (i - g + 1) (fun r s14 wx => ∃ (p : Nat) (v : Value), p + r = i - g + 1 ∧ RootsAt wx b v (M.drop p) ∧ (∀ y, v.ownBlock = some y → b < y) ∧ s14 = .int .i64 (lastG M p) ∧ Ch [] w wx)
          case atStart => exact ⟨0, v9, by omega, h9, hv9, rfl, hc'⟩
          case round =>
            clear h9 hv9 hc'
            obtain ⟨p, v, hpr, hR, hv, rfl, hc⟩ := hrel
            have hL := rootsLeft b v (M.drop p) wr hR
            rw [List.length_drop, HML.out, show i - g + 1 - p = gk by omega] at hL
            have HL := Lib.hid hL
            clear hL
            by_cases hlt2 : 0 < gk
            · obtain ⟨jp, hjp⟩ : ∃ jp, M[p]? = some jp := ⟨_, List.getElem?_eq_getElem (by rw [HML.out]; omega)⟩
              have hj := drop_cons M p _ hjp
              rw [hj] at hR
              have hlg := Lib.hid (lastG_succ M p jp hjp)
              clear hj hjp
              go_wp2_with fail
              refine HL.out.mono ?_; rintro e w11 ⟨rfl, rfl⟩
              go_wp2_with fail
              refine (rootsNext _ _ _ _ _ hR).mono ?_; rintro e w12 ⟨rfl, v12, h12, hc12, hf12⟩
              go_wp2
              go_roundg (gk - 1)
              case measure => omega
              case rel => exact ⟨p + 1, v12, by omega, h12.keep ((Ch.refl [] w12).alloc _) (by simp) (by simp), by rw [hf12]; exact hv, by rw [hlg.out], (hc.transT hc12 (by intro y hy; simp at hy; exact .inr (by omega))).alloc _⟩
            · obtain rfl : gk = 0 := by omega
              obtain rfl : p = i - g + 1 := by omega
              rw [HME.out]
              go_wp2_with fail
              refine HL.out.mono ?_; rintro e w11 ⟨rfl, rfl⟩
              go_wp2_with fail
              refine (rootsNextNil _).mono ?_; rintro e w12 ⟨rfl, hc12⟩
              go_wp2_with fail
              refine (told21 _).mono ?_; rintro e w13 ⟨rfl, hc13⟩
              go_wp2_with fail
              refine (rootsLeftNil _).mono ?_; rintro e w14 ⟨rfl, rfl⟩
              go_wp2
              go_ret
              exact ⟨rfl, ((hc.trans hc12).alloc _ |>.trans hc13).below (Nat.le_refl _) (by simp)⟩
end Go.Proofs.Ytebibdoekcophaa
