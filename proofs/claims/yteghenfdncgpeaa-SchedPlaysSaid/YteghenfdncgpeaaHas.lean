/-
  The contract of the document's 'Has': is a number in a list? Conditions: the slice is read whole.
-/
import Derived.Test.YteghenfdncgpeaaOwI
import Derived.OpenShut
namespace Go.Proofs.Yteghenfdncgpeaa
open Go.RowKit
theorem hasAny (a : Option Addr) (xs : List Int) (v : Int) (n c : Nat) (w : World) (h : Rd w a xs) (hn : n = xs.length) (hl : n ≤ 1000000) :
    Calls Try.prog 60 #[.slice a n c, .int .i64 v] w fun e w' => e = .returned (.bool (xs.contains v)) ∧ w' = w := by
  have hN := Lib.hid hn
  rcases split_first xs v with hx | ⟨p, q, rfl, hx⟩
  · rw [show xs.contains v = false by simpa using hx]
    clear hn
    go_enter Try.func60, Try.ntmps60
    go_wp2
    go_loop [5] (fun i => ∃ k : Nat, k ≤ n ∧ i = .int .i64 k) (fun i => n - (intOf i).toNat)
    case atStart => exact ⟨0, by omega, rfl⟩
    case round =>
      obtain ⟨k, hk, rfl⟩ := hrel
      by_cases hlt' : k < n
      · obtain ⟨b1, o1, rfl, c1⟩ := h.at (i := k) (by rw [← hN.out]; omega)
        have d1 := c1 k (by rw [← hN.out]; omega)
        clear c1
        have hm : gI xs k ∈ xs := gI_mem (by rw [← hN.out]; omega)
        have hne' : (gI xs k == v) = false := by rw [beq_eq_false_iff_ne]; exact fun e => hx (by rw [← e]; exact hm)
        generalize gI xs k = u at d1 hne' hm
        go_wp2
        go_round
        case rel => exact ⟨k + 1, by omega, by go_num⟩
        case measure => simp [intOf]; omega
      · obtain rfl : k = n := by omega
        go_wp2
        go_ret
        exact ⟨rfl, rfl⟩
  · rw [show (p ++ v :: q).contains v = true by simp]
    have hlt : p.length < n := by rw [hn]; simp
    have hg := gI_app p q v
    have HG := Lib.hid hg
    clear hn hg
    go_enter Try.func60, Try.ntmps60
    go_wp2
    go_loop [5] (fun i => ∃ k : Nat, k ≤ p.length ∧ i = .int .i64 k) (fun i => n - (intOf i).toNat)
    case atStart => exact ⟨0, by omega, rfl⟩
    case round =>
      obtain ⟨k, hk, rfl⟩ := hrel
      obtain ⟨b1, o1, rfl, c1⟩ := h.at (i := k) (by rw [← hN.out]; omega)
      have d1 := c1 k (by rw [← hN.out]; omega)
      clear c1
      by_cases hlt' : k < p.length
      · have hne := gI_ne (v :: q) hx hlt'
        have hne' : (gI (p ++ v :: q) k == v) = false := by rw [beq_eq_false_iff_ne]; exact hne
        generalize gI (p ++ v :: q) k = u at d1 hne hne'
        go_wp2
        go_round
        case rel => exact ⟨k + 1, by omega, by go_num⟩
        case measure => simp [intOf]; omega
      · obtain rfl : k = p.length := by omega
        rw [HG.out] at d1
        go_wp2
        go_ret
        exact ⟨rfl, rfl⟩
end Go.Proofs.Yteghenfdncgpeaa
