/-
  Small facts that many texts want: the element type int as the program has it; an unsigned remainder as a number. Conditions: none.
-/
import Derived.Test.YteghenfdncgpeaaChecked
import Derived.Test.YteghenfdncgpeaaMem
import Derived.ProofKit
namespace Go.Proofs.Yteghenfdncgpeaa
open Go.RowKit
theorem Try.infoInt : (Try.prog.info? 3).map (fun i => (i.zero, i.size, i.bytes)) = some (some (.int .i64 0), 1, 8) := by kernel_rfl
theorem umod (a m : Int) (h1 : 1 ≤ m) (h2 : m ≤ 4294967296) : ∃ r : Nat, wrap64 ((IntKind.u64.wrap a).tmod m) = r ∧ (r : Int) < m := by
  have h0 : 0 ≤ IntKind.u64.wrap a := by
    simp only [IntKind.wrap]
    rw [if_neg (by simp [IntKind.signed])]
    exact Int.emod_nonneg _ (by decide)
  rw [Int.tmod_eq_emod_of_nonneg h0]
  have h3 := Int.emod_nonneg (IntKind.u64.wrap a) (b := m) (by omega)
  have h4 := Int.emod_lt_of_pos (IntKind.u64.wrap a) (b := m) (by omega)
  refine ⟨(IntKind.u64.wrap a % m).toNat, ?_, ?_⟩
  · rw [IntWalk.wrap64_in]
    · omega
    · omega
  · omega
/-- A loop that lays 0, 1, .. in a slice: what is there after k rounds. -/
def upto (k : Nat) : List Int := (List.range k).map fun (i : Nat) => (i : Int)
theorem upto_len (k : Nat) : (upto k).length = k := by simp [upto]
theorem upto_succ (k : Nat) : upto (k + 1) = upto k ++ [(k : Int)] := by simp [upto, List.range_succ]
theorem upto_get (k i : Nat) (h : i < k) : gI (upto k) i = i := by simp [gI, upto, List.getD_eq_getElem?_getD, h]
theorem drop_cons {α : Type} (l : List α) (p : Nat) (x : α) (h : l[p]? = some x) : l.drop p = x :: l.drop (p + 1) := by
  obtain ⟨hp, rfl⟩ := List.getElem?_eq_some_iff.1 h
  exact List.drop_eq_getElem_cons hp
end Go.Proofs.Yteghenfdncgpeaa
