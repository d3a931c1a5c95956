/-
  Contracts of slices.Contains on []int and of the document's 'Has': is a number in a list? Conditions: the slice is read whole.
-/
import Derived.Test.YteghenfdncgpeaaIx
namespace Go.Proofs.Yteghenfdncgpeaa
open Go.RowKit
theorem containsAny (a : Option Addr) (xs : List Int) (v : Int) (n c : Nat) (w : World) (h : Rd w a xs) (hn : n = xs.length) (hl : n ≤ 1000000) :
    Calls Try.prog 65 #[.slice a n c, .int .i64 v] w fun e w' => e = .returned (.bool (xs.contains v)) ∧ w' = w := by
  rcases split_first xs v with hx | ⟨p, q, rfl, hx⟩
  · have hi := ixNone a xs v n c w h hx hn hl
    rw [show xs.contains v = false by simpa using hx]
    clear hn hx
    go_enter Try.func65, Try.ntmps65
    go_wp2_with fail
    refine hi.mono ?_; rintro e w2 ⟨rfl, rfl⟩
    go_wp2
    go_ret
    exact ⟨rfl, rfl⟩
  · have hi := ixFound a p q v n c w h hx hn hl
    rw [show (p ++ v :: q).contains v = true by simp]
    have hp : (0 : Int) ≤ p.length := by omega
    clear hn hx
    generalize p.length = k at hi hp
    go_enter Try.func65, Try.ntmps65
    go_wp2_with fail
    refine hi.mono ?_; rintro e w2 ⟨rfl, rfl⟩
    go_wp2
    go_ret
    exact ⟨rfl, rfl⟩
end Go.Proofs.Yteghenfdncgpeaa
