/-
  The contract of slices.Index on []int: the first place, or -1. Conditions: the slice is read whole.
-/
import Derived.Test.YteghenfdncgpeaaOwI
import Derived.OpenShut
namespace Go.Proofs.Yteghenfdncgpeaa
open Go.RowKit
theorem ixFound (a : Option Addr) (p q : List Int) (v : Int) (n c : Nat) (w : World) (h : Rd w a (p ++ v :: q)) (hv : v ∉ p) (hn : n = (p ++ v :: q).length) (hl : n ≤ 1000000) :
    Calls Try.prog 62 #[.slice a n c, .int .i64 v] w fun e w' => e = .returned (.int .i64 p.length) ∧ w' = w := by
  have hN := Lib.hid hn
  have hlt : p.length < n := by rw [hn]; simp
  have hg := gI_app p q v
  have HG := Lib.hid hg
  clear hn hg
  go_enter Try.func62, Try.ntmps62
  go_wp2
  go_loop [8] (fun i => ∃ k : Nat, k ≤ p.length ∧ i = .int .i64 k) (fun i => n - (intOf i).toNat)
  case atStart => exact ⟨0, by omega, rfl⟩
  case round =>
    obtain ⟨k, hk, rfl⟩ := hrel
    obtain ⟨b1, o1, rfl, c1⟩ := h.at (i := k) (by rw [← hN.out]; omega)
    have d1 := c1 k (by rw [← hN.out]; omega)
    clear c1
    by_cases hlt' : k < p.length
    · have hne := gI_ne (v :: q) hv hlt'
      have hne' : (v == gI (p ++ v :: q) k) = false := by rw [beq_eq_false_iff_ne]; exact fun e => hne e.symm
      generalize gI (p ++ v :: q) k = u at d1 hne hne'
      go_wp2
      go_round
      case rel => exact ⟨k + 1, by omega, by go_num⟩
      case measure => simp [intOf]; omega
    · obtain rfl : k = p.length := by omega
      rw [HG.out] at d1
      go_wp2
      go_ret
      exact ⟨rfl, rfl⟩
theorem ixNone (a : Option Addr) (xs : List Int) (v : Int) (n c : Nat) (w : World) (h : Rd w a xs) (hv : v ∉ xs) (hn : n = xs.length) (hl : n ≤ 1000000) :
    Calls Try.prog 62 #[.slice a n c, .int .i64 v] w fun e w' => e = .returned (.int .i64 (-1)) ∧ w' = w := by
  have hN := Lib.hid hn
  clear hn
  go_enter Try.func62, Try.ntmps62
  go_wp2
  go_loop [8] (fun i => ∃ k : Nat, k ≤ n ∧ i = .int .i64 k) (fun i => n - (intOf i).toNat)
  case atStart => exact ⟨0, by omega, rfl⟩
  case round =>
    obtain ⟨k, hk, rfl⟩ := hrel
    by_cases hlt' : k < n
    · obtain ⟨b1, o1, rfl, c1⟩ := h.at (i := k) (by rw [← hN.out]; omega)
      have d1 := c1 k (by rw [← hN.out]; omega)
      clear c1
      have hm : gI xs k ∈ xs := gI_mem (by rw [← hN.out]; omega)
      have hne' : (v == gI xs k) = false := by rw [beq_eq_false_iff_ne]; exact fun e => hv (by rw [e]; exact hm)
      generalize gI xs k = u at d1 hne' hm
      go_wp2
      go_round
      case rel => exact ⟨k + 1, by omega, by go_num⟩
      case measure => simp [intOf]; omega
    · obtain rfl : k = n := by omega
      go_wp2
      go_ret
      exact ⟨rfl, rfl⟩
end Go.Proofs.Yteghenfdncgpeaa
