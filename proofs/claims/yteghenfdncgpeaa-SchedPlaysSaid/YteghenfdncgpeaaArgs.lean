/-
  A slice of structs that came in, as it is read: its cells by element and field. Conditions: each field is one cell.
-/
import Derived.Test.YteghenfdncgpeaaMem
import Derived.Deep.Slices
import Derived.ChangeArms
namespace Go.Proofs.Yteghenfdncgpeaa
open Go.RowKit
/-- Behind a there are n elements of k cells; the j-th cell of the i-th is F i j. -/
def RdS (w : World) (a : Option Addr) (n k : Nat) (F : Nat → Nat → Value) : Prop :=
  n = 0 ∨ ∃ b o, a = some ⟨b, o, none⟩ ∧ ∀ i, i < n → ∀ j, j < k → w.cell? ⟨b, o + i * k + j, none⟩ = some (F i j)
theorem RdS.at {w : World} {a : Option Addr} {n k : Nat} {F : Nat → Nat → Value} (h : RdS w a n k F) {i : Nat} (hi : i < n) :
    ∃ b o, a = some ⟨b, o, none⟩ ∧ ∀ i, i < n → ∀ j, j < k → w.cell? ⟨b, o + i * k + j, none⟩ = some (F i j) := by
  rcases h with h | h
  · omega
  · exact h
theorem RdS.keep {S : List Nat} {w w' : World} {a : Option Addr} {n k : Nat} {F : Nat → Nat → Value} (h : RdS w a n k F) (hk : 0 < k) (hc : Ch S w w') (hb : ∀ x, a = some x → x.block ∉ S) : RdS w' a n k F := by
  by_cases hn : n = 0
  · exact .inl hn
  · rcases h with h | ⟨b, o, rfl, hx⟩
    · exact .inl h
    · have h0 := hx 0 (by omega) 0 hk
      have hlt := World.block_lt_of_cell? w ⟨b, o + 0 * k + 0, none⟩ h0
      have h2 := hc.block b hlt (hb _ rfl)
      refine .inr ⟨b, o, rfl, fun i hi j hj => ?_⟩
      rw [← hx i hi j hj]
      simp only [World.cell?, h2]
theorem RdS.lt {w : World} {a : Option Addr} {n k : Nat} {F : Nat → Nat → Value} (h : RdS w a n k F) (hn : 0 < n) (hk : 0 < k) : ∀ x, a = some x → x.block < w.heap.size := by
  rcases h with h | ⟨b, o, rfl, hx⟩
  · omega
  · intro x hx'
    cases hx'
    exact World.block_lt_of_cell? w ⟨b, o + 0 * k + 0, none⟩ (hx 0 hn 0 hk)
section
variable {H : Type} {enc : TypeId × Value → H} {P : Program} {w : World} {spare : Nat → Bool} {held : Bool}
theorem open_structs {t e : TypeId} {fs : Array Field} {k : Nat} (ht : P.underlying t = some (.slice e)) (he : P.underlying e = some (.struct fs)) (ce : P.cellsOf e = k) (hk : 0 < k) (hs : fs.size = k)
    (hone : ∀ (j : Nat) (f : Field), fs[j]? = some f → f.offset = j ∧ P.cellsOf f.type = 1) {base fuel : Nat} {a : Option Addr} {len cap : Nat} {x : DataW H × List MemPlace}
    (h : DataW.trod enc P w base spare held fuel t [.slice a len cap] = some x) :
    len ≤ cap ∧ cap ≤ maxLen ∧ ∃ F : Nat → Nat → Value, RdS w a len k F ∧ ∀ i, i < len → ∀ (j : Nat) (f : Field), fs[j]? = some f → ∃ n y, DataW.trod enc P w base spare held n f.type [F i j] = some y := by
  rcases Go.Deep.open_slice ht h with ⟨h0, _⟩ | ⟨a', len', cap', m, n, D, Pl, h0, hb, hl, hm, hmm, _, hx⟩
  · simp only [List.cons.injEq, Value.slice.injEq, and_true] at h0
    obtain ⟨rfl, rfl, rfl⟩ := h0
    exact ⟨Nat.le_refl _, Nat.zero_le _, fun _ _ => undef, .inl rfl, fun i hi => by omega⟩
  · simp only [List.cons.injEq, Value.slice.injEq, and_true] at h0
    obtain ⟨rfl, rfl, rfl⟩ := h0
    have hlm : len ≤ m := by rw [hmm]; split <;> omega
    refine ⟨hl, hm, fun i j => (w.cell? (a'.add (i * k + j))).getD undef, ?_, ?_⟩
    · by_cases hn : len = 0
      · exact .inl hn
      · have cellsAt : ∀ i, i < len → ∀ j, j < k → ∃ v, w.cell? (a'.add (i * k + j)) = some v := by
          intro i hi j hj
          obtain ⟨cs', h1, h2⟩ := hx i (by omega)
          rw [ce] at h1
          obtain ⟨_, hlen, hcell⟩ := World.cells?_some h1
          have e0 := hcell j (by omega)
          rw [Go.Deep.add_add] at e0
          rw [e0]
          exact ⟨_, by simp [hlen, hj]; rfl⟩
        obtain ⟨b, o, sp⟩ := a'
        obtain ⟨v0, hv0⟩ := cellsAt 0 (by omega) 0 hk
        have : sp = none := by
          cases sp with
          | none => rfl
          | some q => simp [World.cell?, Addr.add] at hv0; try (split at hv0 <;> simp at hv0)
        subst this
        refine .inr ⟨b, o, rfl, fun i hi j hj => ?_⟩
        obtain ⟨v, hv⟩ := cellsAt i hi j hj
        show _ = some ((w.cell? ((⟨b, o, none⟩ : Addr).add (i * k + j))).getD undef)
        rw [hv]
        rw [show (⟨b, o, none⟩ : Addr).add (i * k + j) = ⟨b, o + i * k + j, none⟩ by unfold Addr.add; split <;> simp_all [Nat.add_assoc]] at hv
        exact hv
    · intro i hi j f hf
      obtain ⟨cs', h1, h2⟩ := hx i (by omega)
      rw [ce] at h1
      obtain ⟨_, hlen, hcell⟩ := World.cells?_some h1
      obtain ⟨xs, q, _, _, _, hxl, hfs⟩ := DataW.trod_struct he h2
      have hj : j < k := by rw [← hs]; exact (Array.getElem?_eq_some_iff.1 hf).1
      have e0 := hcell j (by omega)
      rw [Go.Deep.add_add] at e0
      have g0 := hfs j f hf
      obtain ⟨o1, o2⟩ := hone j f hf
      rw [o1, o2] at g0
      have hx0 : xs[j]? = some (xs[j]'(by omega)) := List.getElem?_eq_getElem _
      rw [hx0] at g0
      refine ⟨q, xs[j]'(by omega), ?_⟩
      show DataW.trod enc P w base spare held q f.type [(w.cell? (a'.add (i * k + j))).getD undef] = _
      rw [e0]
      have : (cs'.drop j).take 1 = [(cs'[j]?).getD undef] := by
        rw [List.getElem?_eq_getElem (by omega), Option.getD_some]
        rw [List.drop_eq_getElem_cons (by omega)]
        rfl
      rw [this] at g0
      exact g0
theorem open_ones {t e : TypeId} (ht : P.underlying t = some (.slice e)) (ce : P.cellsOf e = 1) {base fuel : Nat} {a : Option Addr} {len cap : Nat} {x : DataW H × List MemPlace}
    (h : DataW.trod enc P w base spare held fuel t [.slice a len cap] = some x) :
    len ≤ cap ∧ cap ≤ maxLen ∧ ∃ F : Nat → Nat → Value, RdS w a len 1 F ∧ ∀ i, i < len → ∃ n y, DataW.trod enc P w base spare held n e [F i 0] = some y := by
  rcases Go.Deep.open_slice1 ht ce h with ⟨h0, _⟩ | ⟨a', len', cap', m, n, V, D, Pl, h0, hb, hl, hm, hmm, _, hx⟩
  · simp only [List.cons.injEq, Value.slice.injEq, and_true] at h0
    obtain ⟨rfl, rfl, rfl⟩ := h0
    exact ⟨Nat.le_refl _, Nat.zero_le _, fun _ _ => undef, .inl rfl, fun i hi => by omega⟩
  · simp only [List.cons.injEq, Value.slice.injEq, and_true] at h0
    obtain ⟨rfl, rfl, rfl⟩ := h0
    have hlm : len ≤ m := by rw [hmm]; split <;> omega
    refine ⟨hl, hm, fun i _ => V i, ?_, fun i hi => ⟨n, _, (hx i (by omega)).2⟩⟩
    by_cases hn : len = 0
    · exact .inl hn
    · obtain ⟨b, o, sp⟩ := a'
      have hv0 := (hx 0 (by omega)).1
      have : sp = none := by
        cases sp with
        | none => rfl
        | some q => simp [World.cell?, Addr.add] at hv0; try (split at hv0 <;> simp at hv0)
      subst this
      refine .inr ⟨b, o, rfl, fun i hi j hj => ?_⟩
      obtain rfl : j = 0 := by omega
      have hv := (hx i (by omega)).1
      rw [show (⟨b, o, none⟩ : Addr).add i = ⟨b, o + i * 1 + 0, none⟩ by unfold Addr.add; split <;> simp_all] at hv
      exact hv
end
end Go.Proofs.Yteghenfdncgpeaa
