/-
  The contract of the document's 'Ints': of two lists that are alike it answers true, and turns nothing. Conditions: both lists are read whole, and are alike.
-/
import Derived.Test.YteghenfdncgpeaaChecked
import Derived.Test.YteghenfdncgpeaaMem
import Derived.ProofKit
import Derived.OpenShut
namespace Go.Proofs.Yteghenfdncgpeaa
open Go.RowKit
theorem ints_same (a b : Option Addr) (xs : List Int) (c d : Nat) (w : World) (ha : Rd w a xs) (hb : Rd w b xs) (hl : xs.length ≤ maxLen) :
    Calls Try.prog 22 #[.slice a xs.length c, .slice b xs.length d] w fun e w' => e = .returned (.bool true) ∧ ∃ nq, w' = w.drewN nq := by
  unfold maxLen at hl
  go_enter Try.func22, Try.ntmps22
  go_wp2
  go_loopw [5] (fun i wr => ∃ k : Nat, k ≤ xs.length ∧ i = .int .i64 k ∧ ∃ nq, wr = w.drewN nq) (fun i _ => xs.length - (intOf i).toNat)
  case atStart => exact ⟨0, by omega, rfl, 0, rfl⟩
  case round =>
    obtain ⟨k, hk, rfl, nq0, rfl⟩ := hrel
    by_cases hlt : k < xs.length
    · obtain ⟨b1, o1, rfl, c1⟩ := ha.at hlt
      obtain ⟨b2, o2, rfl, c2⟩ := hb.at hlt
      have d1 := c1 k hlt
      have d2 := c2 k hlt
      clear c1 c2
      go_wp2
      go_quiet (fail)
      go_wp2
      go_roundw
      case rel => exact ⟨k + 1, by omega, by go_num, _, rfl⟩
      case measure => simp [intOf]; omega
    · go_wp2
      go_ret
      exact ⟨rfl, _, rfl⟩
end Go.Proofs.Yteghenfdncgpeaa
