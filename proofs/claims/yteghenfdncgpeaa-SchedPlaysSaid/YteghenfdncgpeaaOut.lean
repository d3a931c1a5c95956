/-
  The contract of the document's 'Out': a list without the first such number. Conditions: the list is read whole.
-/
import Derived.Test.YteghenfdncgpeaaOwI
import Derived.Test.YteghenfdncgpeaaMix
import Derived.OpenShut
import Derived.Deep.DeepCutAuto
namespace Go.Proofs.Yteghenfdncgpeaa
open Go.RowKit
theorem outNone (a : Option Addr) (xs : List Int) (v : Int) (n c : Nat) (w : World) (h : Rd w a xs) (hv : v ∉ xs) (hn : n = xs.length) (hl : n ≤ 1000000) :
    Calls Try.prog 36 #[.slice a n c, .int .i64 v] w fun e w' => e = .returned (.tuple #[.slice a n c, .bool false]) ∧ w' = w := by
  have hN := Lib.hid hn
  clear hn
  go_enter Try.func36, Try.ntmps36
  go_wp2
  go_loop [6] (fun i => ∃ k : Nat, k ≤ n ∧ i = .int .i64 k) (fun i => n - (intOf i).toNat)
  case atStart => exact ⟨0, by omega, rfl⟩
  case round =>
    obtain ⟨k, hk, rfl⟩ := hrel
    by_cases hlt' : k < n
    · obtain ⟨b1, o1, rfl, c1⟩ := h.at (i := k) (by rw [← hN.out]; omega)
      have d1 := c1 k (by rw [← hN.out]; omega)
      clear c1
      have hm : gI xs k ∈ xs := gI_mem (by rw [← hN.out]; omega)
      have hne' : (gI xs k == v) = false := by rw [beq_eq_false_iff_ne]; exact fun e => hv (by rw [← e]; exact hm)
      generalize gI xs k = u at d1 hne' hm
      go_wp2
      go_round
      case rel => exact ⟨k + 1, by omega, by go_num⟩
      case measure => simp [intOf]; omega
    · obtain rfl : k = n := by omega
      go_wp2
      go_ret2
      exact ⟨rfl, rfl⟩
set_option maxHeartbeats 1000000 in
theorem outFound (a : Option Addr) (p q : List Int) (v : Int) (n c : Nat) (w : World) (h : Rd w a (p ++ v :: q)) (hv : v ∉ p) (hn : n = (p ++ v :: q).length) (hnc : n ≤ c) (hl : n ≤ 1000000) :
    Calls Try.prog 36 #[.slice a n c, .int .i64 v] w fun e w' => ∃ v', e = .returned (.tuple #[v', .bool true]) ∧ OwI w' w.heap.size v' (p ++ q) ∧ Ch [] w w' := by
  have hN := Lib.hid hn
  have hlt : p.length < n := by rw [hn]; simp
  have hg := gI_app p q v
  have HG := Lib.hid hg
  clear hn hg
  go_enter Try.func36, Try.ntmps36
  go_wp2
  go_loop [6] (fun i => ∃ k : Nat, k ≤ p.length ∧ i = .int .i64 k) (fun i => n - (intOf i).toNat)
  case atStart => exact ⟨0, by omega, rfl⟩
  case round =>
    obtain ⟨k, hk, rfl⟩ := hrel
    by_cases hlt' : k < p.length
    · obtain ⟨b1, o1, rfl, c1⟩ := h.at (i := k) (by rw [← hN.out]; omega)
      have d1 := c1 k (by rw [← hN.out]; omega)
      clear c1
      have hne := gI_ne (v :: q) hv hlt'
      have hne' : (gI (p ++ v :: q) k == v) = false := by rw [beq_eq_false_iff_ne]; exact hne
      generalize gI (p ++ v :: q) k = u at d1 hne hne'
      go_wp2
      go_round
      case rel => exact ⟨k + 1, by omega, by go_num⟩
      case measure => simp [intOf]; omega
    · obtain rfl : k = p.length := by omega
      obtain ⟨b1, o1, rfl, c1⟩ := h.at (i := p.length) (by rw [← hN.out]; omega)
      have d1 := c1 p.length (by rw [← hN.out]; omega)
      rw [HG.out] at d1
      clear c1 hlt' hk
      have b0 : (0 : Int) ≤ p.length := by omega
      have b1' : (p.length : Int) ≤ c := by omega
      have b2 : ((p.length : Int) + 1) ≤ n := by omega
      have b3 : (n : Int) ≤ c := by omega
      have b4 : IntKind.i64.wrap ((p.length : Int) + 1) = (p.length : Int) + 1 := IntWalk.i64_in _ (by omega)
      have b5 : (0 : Int) ≤ (p.length : Int) + 1 := by omega
      have b6 : ((p.length : Int) + 1).toNat = p.length + 1 := by omega
      go_upto_region 5 with fail
      refine wp_region_mix (Cls fun _ => True) [1, 2, 3, 5, 6, 7, 8] [0, 4, 9] [10, 11] (by kernel_rfl) (by kernel_rfl) (fun _ _ _ _ _ h => h) (Cls.mk trivial) ?_
      simp only [pickOps, List.map_cons, List.map_nil, List.getD_cons_zero, List.getD_cons_succ]
      repeat (refine wpYield_stepS (fun K hK => ?_); go_simp; refine hK _ ?_; clear hK K)
      refine wpYield_nil ?_
      clear b0 b1' b2 b3 b4 b5 b6
      refine wpKeep_step rfl (fun K hK => ?_)
      go_simp
      refine hK _ _ ⟨Cls.mk trivial, ?_⟩
      clear hK K
      refine wpKeep_step rfl (fun K hK => ?_)
      obtain ⟨A2, hA2⟩ : ∃ A2 : Option Addr, (if c = p.length + 1 then (some ⟨b1, o1, none⟩ : Option Addr) else some ⟨b1, o1 + (p.length + 1), none⟩) = A2 := ⟨_, rfl⟩
      have r2 : Rd w A2 q := by rw [← hA2]; exact h.postIf v (by rw [← hN.out]; exact hnc)
      have r1 : Rd w (some ⟨b1, o1, none⟩) p := h.pre
      have hq : n - (p.length + 1) = q.length := by rw [hN.out]; simp; omega
      rw [hA2, hq]
      have HQ := Lib.hid hq
      clear hA2 hq
      have c1 : Ch [] w ((w.drewN 1).alloc (.cells #[] 3)) := ((Ch.refl [] w).drewN 1).alloc _
      refine wp_app (.tmp 19) (.tmp 22) rfl w.heap.size (.slice (some ⟨w.heap.size, 0, none⟩) 0 0) [] rfl (OwI.empty (w.drewN 1) (Nat.le_refl _)) (by simp) (.slice (some ⟨b1, o1, none⟩) p.length c) p rfl (Rd.src (P := Try.prog) Try.underlying25 c (r1.keep c1 (by simp))) (by simp; omega) ?_
      intro v1 w1 hv1 c2 _
      refine hK _ _ ⟨Cls.mk trivial, ?_⟩
      clear hK K
      have c2' : Ch [] w w1 := c1.transT c2 (by intro k hk; simp [Value.ownBlock] at hk; subst hk; exact .inr (Nat.le_refl _))
      refine wpKeep_step rfl (fun K hK => ?_)
      refine wp_app (.tmp 23) (.tmp 27) rfl w.heap.size v1 _ rfl hv1 c2'.size (.slice A2 q.length (c - (p.length + 1))) q rfl (Rd.src (P := Try.prog) Try.underlying25 _ (r2.keep c2' (by simp))) (by have := HQ.out; simp; omega) ?_
      intro v2 w2 hv2 c3 _
      refine hK _ _ ⟨Cls.mk trivial, ?_⟩
      clear hK K
      refine wpKeep_nil ?_
      go_wp2
      go_ret2
      exact ⟨v2, rfl, by simpa using hv2, c2'.transT c3 (by intro k hk; exact .inr (hv1.2 k (by simpa using hk)))⟩
end Go.Proofs.Yteghenfdncgpeaa
