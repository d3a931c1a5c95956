/-
  A block of slices of integers, each a row of its own. Conditions: none beyond what each theorem names.
-/
import Derived.Test.YtaafdhohiekakaaOwI
namespace Go.Proofs.Ytaafdhohiekakaa
open Go.RowKit
/-- The blocks of some slices. -/
def blocksOf (vs : List Value) : List Nat := vs.flatMap fun v => v.ownBlock.toList
theorem mem_blocksOf {vs : List Value} {k : Nat} : k ∈ blocksOf vs ↔ ∃ v ∈ vs, v.ownBlock = some k := by simp [blocksOf]
/-- The i-th of some lists. -/
def gL (Ls : List (List Int)) (i : Nat) : List Int := Ls.getD i []
theorem gL_set (Ls : List (List Int)) (i x : Nat) (L : List Int) (hi : i < Ls.length) : gL (Ls.set i L) x = if x = i then L else gL Ls x := by
  simp only [gL, List.getD_eq_getElem?_getD, List.getElem?_set]
  by_cases h : i = x
  · subst h; simp [hi]
  · rw [if_neg h, if_neg (fun e => h e.symm)]
/-- Block b is the slices vs; the i-th owns the integers of the i-th list. -/
structure RowsAt (w : World) (b : Nat) (t : TypeId) (vs : List Value) (Ls : List (List Int)) : Prop where
  len : vs.length = Ls.length
  blk : Blk w b vs.toArray t
  own : ∀ (i : Nat) (v : Value), vs[i]? = some v → OwI w (b + 1) v (gL Ls i)
  apart : ∀ (i j : Nat) (v u : Value) (k : Nat), i ≠ j → vs[i]? = some v → vs[j]? = some u → v.ownBlock = some k → u.ownBlock ≠ some k
section
variable {w w' : World} {S : List Nat} {b : Nat} {t : TypeId} {vs : List Value} {Ls : List (List Int)}
theorem RowsAt.keep (h : RowsAt w b t vs Ls) (hc : Ch S w w') (hb : b ∉ S) (hS : ∀ k ∈ S, k ∉ blocksOf vs) : RowsAt w' b t vs Ls :=
  ⟨h.len, h.blk.keep hc hb, fun i v hv => (h.own i v hv).keep hc (fun k hk he => hS k hk (mem_blocksOf.2 ⟨v, List.mem_of_getElem? hv, he⟩)), h.apart⟩
theorem RowsAt.lt (h : RowsAt w b t vs Ls) : b < w.heap.size := h.blk.lt
theorem RowsAt.above (h : RowsAt w b t vs Ls) : ∀ k ∈ blocksOf vs, b < k ∧ k < w.heap.size := fun k hk => by
  obtain ⟨v, hv, he⟩ := mem_blocksOf.1 hk
  obtain ⟨i, hi⟩ := List.mem_iff_getElem?.1 hv
  exact ⟨(h.own i v hi).2 k he, (h.own i v hi).lt k he⟩
theorem RowsAt.at (h : RowsAt w b t vs Ls) (i : Nat) (hi : i < vs.length) : ∃ v, vs[i]? = some v ∧ OwI w (b + 1) v (gL Ls i) ∧ w.cell? ⟨b, i, none⟩ = some v := by
  have e : vs[i]? = some vs[i] := List.getElem?_eq_getElem hi
  exact ⟨vs[i], e, h.own i _ e, by rw [h.blk.cell]; simp [hi]⟩
/-- One slice is laid anew. -/
theorem RowsAt.set (h : RowsAt w b t vs Ls) {i : Nat} {v : Value} (hi : vs[i]? = some v) {w1 : World} (hc : Ch v.ownBlock.toList w w1) {v' : Value} {L' : List Int} (ho : OwI w1 (b + 1) v' L') (hn : NewAt w v v') :
    RowsAt (w1.setCell ⟨b, i, none⟩ v') b t (vs.set i v') (Ls.set i L') ∧ Ch (b :: blocksOf vs) w (w1.setCell ⟨b, i, none⟩ v') ∧ (∀ k ∈ blocksOf (vs.set i v'), k ∈ blocksOf vs ∨ w.heap.size ≤ k) := by
  have hil : i < vs.length := (List.getElem?_eq_some_iff.1 hi).1
  have hvB := (h.own i v hi).2
  have cs : Ch [b] w1 (w1.setCell ⟨b, i, none⟩ v') := (Ch.refl _ _).setCell (.inl (by simp)) _
  have hb1 : Blk w1 b vs.toArray t := h.blk.keep hc (fun hk => by have := hvB b (by simpa using hk); omega)
  refine ⟨⟨by simp [h.len], ?_, ?_, ?_⟩, ?_, ?_⟩
  · have := hb1.set i v'
    simpa using this
  · intro j u hu
    rw [gL_set _ _ _ _ (by rw [← h.len]; exact hil)]
    by_cases hj : j = i
    · subst hj
      rw [List.getElem?_set_self hil] at hu
      cases hu
      rw [if_pos rfl]
      exact ho.keepLt cs (by simp)
    · rw [List.getElem?_set_ne (fun e => hj e.symm)] at hu
      rw [if_neg hj]
      exact ((h.own j u hu).keep hc (fun k hk he => h.apart j i u v k hj hu hi he (by simpa using hk))).keepLt cs (by simp)
  · intro p q x y k hpq hx hy hk he
    by_cases hp : p = i
    · subst hp
      rw [List.getElem?_set_self hil] at hx
      cases hx
      rw [List.getElem?_set_ne hpq] at hy
      rcases hn with hn | hn
      · exact h.apart p q v y k hpq hi hy (by rw [← hn]; exact hk) he
      · have := hn k hk
        have := (h.own q y hy).lt k he
        omega
    · rw [List.getElem?_set_ne (fun e => hp e.symm)] at hx
      by_cases hq : q = i
      · subst hq
        rw [List.getElem?_set_self hil] at hy
        cases hy
        rcases hn with hn | hn
        · exact h.apart p q x v k hpq hx hi hk (by rw [← hn]; exact he)
        · have := hn k he
          have := (h.own p x hx).lt k hk
          omega
      · rw [List.getElem?_set_ne (fun e => hq e.symm)] at hy
        exact h.apart p q x y k hpq hx hy hk he
  · exact (hc.mono (fun k hk => .inl (List.mem_cons_of_mem _ (mem_blocksOf.2 ⟨v, List.mem_of_getElem? hi, by simpa using hk⟩)))).trans (cs.mono (by intro k hk; simp at hk; subst hk; exact .inl (by simp)))
  · intro k hk
    obtain ⟨x, hx, he⟩ := mem_blocksOf.1 hk
    rcases List.mem_or_eq_of_mem_set hx with hx | rfl
    · exact .inl (mem_blocksOf.2 ⟨x, hx, he⟩)
    · rcases hn with hn | hn
      · exact .inl (mem_blocksOf.2 ⟨v, List.mem_of_getElem? hi, by rw [← hn]; exact he⟩)
      · exact .inr (hn k he)
end
end Go.Proofs.Ytaafdhohiekakaa
