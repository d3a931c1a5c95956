/-
  The statement ScanApart holds: the law returns true at every input, and its arguments read as before. Conditions: none.
-/
import Derived.Test.YtebibdoekcophaaRows
import Derived.Test.YtebibdoekcophaaApartWalk
import Derived.Test.YtebibdoekcophaaArgs
import Derived.Deep.Fields
import Derived.WalkKit
import Derived.ProofKit
import Derived.OpenShut
import Derived.ShutString
import Derived.ChangeOld
import Derived.Below
namespace Go.Proofs.Ytebibdoekcophaa.scanApart
open Go.ChangeShapes Go.WideShapes Go.ChangeAt Go.RowKit
open Go.ChangeMaps (open_string shut_string)
set_option linter.unusedVariables false

theorem own : ownKnob Try.prog.godebug = none := by kernel_rfl
theorem laidOut : laidOutB Try.prog = true := by kernel_rfl
theorem walk (a0 : Option Addr) (xs0 : List Int) (cap0 : Nat) (a1 : Option Addr) (xs1 : List Int) (cap1 : Nat) (a2 : Option Addr) (len2 cap2 : Nat) (F2 : Nat → Nat → Value) (w : World) (r0 : Rd w a0 xs0) (m0 : xs0.length ≤ maxLen) (r1 : Rd w a1 xs1) (m1 : xs1.length ≤ maxLen) (r2 : RdS w a2 len2 1 F2) (t2 : ∀ i, i < len2 → (∃ x, F2 i 0 = .bool x)) (m2 : len2 ≤ maxLen) :
    Calls Try.prog 5 #[.slice a0 xs0.length cap0, .slice a1 xs1.length cap1, .slice a2 len2 cap2] w fun e w' => e = .returned (.bool true) ∧ Below w.heap.size w w' :=
  apart_walk a0 xs0 cap0 a1 xs1 cap1 a2 len2 cap2 F2 w r0 m0 r1 m1 r2 t2 m2

set_option maxRecDepth 100000 in
theorem lifted (os : Os) (started : os.Started) (H : Type) (enc : TypeId × Value → H) :
    ReturnsInHanded {} Try.checked os 5 .any (Rows.scanApartSpec.pre6 enc Try.prog Try.f5 Rows.scanApartRow.domain false) (Rows.scanApartSpec.post enc Try.prog Try.f5 false true false false) := by
  refine returnsInHanded_of_change (C := Try.checked) own started (by kernel_rfl) Try.func5
    (ChangeSpec.witness6 (enc := enc) (C := Try.checked) false ⟨#[], #[.slice none 0 0, .slice none 0 0, .slice none 0 0], []⟩ 8 (by kernel_rfl) (by kernel_rfl) (by kernel_rfl) (by kernel_rfl)) ?_
  intro W base args ds gs before hval0 hW hcnd _
  have hval : ∀ (j : Nat) t v, Try.f5.params[j]? = some t → args[j]? = some v → Value.okWide Try.prog W .any base t v := hval0
  have hW' := hW
  obtain ⟨p, q, hA0, hV, rfl, hfz, hnd⟩ := hW
  have hA : DataW.TrodAll enc Try.prog W 0 (fun _ => true) true Try.f5.params.toList args.toList ds p := hA0
  rw [Try.params5] at hA hval
  obtain ⟨v0, vs0, d0, ds0, p0, q0, hargs, rfl, rfl, h0, sq0⟩ := trodAll_cons hA
  obtain ⟨v1, vs1, d1, ds1, p1, q1, rfl, rfl, rfl, h1, sq1⟩ := trodAll_cons sq0
  obtain ⟨v2, vs2, d2, ds2, p2, q2, rfl, rfl, rfl, h2, sq2⟩ := trodAll_cons sq1
  obtain ⟨rfl, rfl, rfl⟩ := trodAll_nil sq2
  obtain rfl : args = #[v0, v1, v2] := by cases args; simp_all
  obtain ⟨rfl, rfl⟩ := trodVars_none hV
  obtain ⟨a0, len0, cap0, rfl⟩ := okWide_slice Try.underlying22 (hval 0 22 v0 rfl rfl)
  have k0 := h0
  have lt0 : ∀ x ∈ p0, x.block < W.heap.size := by obtain ⟨m, hm⟩ := k0; exact DataW.trod_lt m _ _ _ hm
  obtain ⟨xs0, hl0, r0, m0⟩ : ∃ xs : List Int, len0 = xs.length ∧ Rd W a0 xs ∧ xs.length ≤ maxLen := by
    obtain ⟨fuel, hf⟩ := h0
    rcases open_ints Try.underlying22 Try.underlying3 (by kernel_rfl) hf with ⟨hcs, _⟩ | ⟨x, l, c, zs, hcs, _, hl, hm, hz, _, hcell, hwz⟩
    · simp [Value.cells] at hcs
      obtain ⟨rfl, rfl, rfl⟩ := hcs
      exact ⟨[], rfl, .inl rfl, by decide⟩
    · simp [Value.cells] at hcs
      obtain ⟨rfl, rfl, rfl⟩ := hcs
      have hz' : zs.length = cap0 := by simpa using hz
      exact ⟨zs.take len0, by rw [List.length_take]; omega, Rd.of_row hl hz' (fun y hy i hi => by cases hy; exact hcell i hi) (fun e => by cases e), by rw [List.length_take]; omega⟩
  subst hl0
  obtain ⟨a1, len1, cap1, rfl⟩ := okWide_slice Try.underlying22 (hval 1 22 v1 rfl rfl)
  have k1 := h1
  have lt1 : ∀ x ∈ p1, x.block < W.heap.size := by obtain ⟨m, hm⟩ := k1; exact DataW.trod_lt m _ _ _ hm
  obtain ⟨xs1, hl1, r1, m1⟩ : ∃ xs : List Int, len1 = xs.length ∧ Rd W a1 xs ∧ xs.length ≤ maxLen := by
    obtain ⟨fuel, hf⟩ := h1
    rcases open_ints Try.underlying22 Try.underlying3 (by kernel_rfl) hf with ⟨hcs, _⟩ | ⟨x, l, c, zs, hcs, _, hl, hm, hz, _, hcell, hwz⟩
    · simp [Value.cells] at hcs
      obtain ⟨rfl, rfl, rfl⟩ := hcs
      exact ⟨[], rfl, .inl rfl, by decide⟩
    · simp [Value.cells] at hcs
      obtain ⟨rfl, rfl, rfl⟩ := hcs
      have hz' : zs.length = cap1 := by simpa using hz
      exact ⟨zs.take len1, by rw [List.length_take]; omega, Rd.of_row hl hz' (fun y hy i hi => by cases hy; exact hcell i hi) (fun e => by cases e), by rw [List.length_take]; omega⟩
  subst hl1
  obtain ⟨a2, len2, cap2, rfl⟩ := okWide_slice Try.underlying35 (hval 2 35 v2 rfl rfl)
  have k2 := h2
  have lt2 : ∀ x ∈ p2, x.block < W.heap.size := by obtain ⟨m, hm⟩ := k2; exact DataW.trod_lt m _ _ _ hm
  obtain ⟨F2, r2, t2, m2⟩ : ∃ F : Nat → Nat → Value, RdS W a2 len2 1 F ∧ (∀ i, i < len2 → (∃ x, F i 0 = .bool x)) ∧ len2 ≤ maxLen := by
    obtain ⟨fuel, hf⟩ := h2
    obtain ⟨hl, hm, F, hr, hF⟩ := open_ones Try.underlying35 (by kernel_rfl) (show DataW.trod enc Try.prog W 0 (fun _ => true) true fuel 35 [.slice a2 len2 cap2] = some _ from hf)
    refine ⟨F, hr, fun i hi => ?_, by omega⟩
    obtain ⟨n, y, hy⟩ := hF i hi
    obtain ⟨b, hb, _⟩ := DataW.trod_bool Try.underlying4 hy
    exact ⟨b, by simpa using hb⟩
  clear hA0 hval0
  refine (walk a0 xs0 cap0 a1 xs1 cap1 a2 len2 cap2 F2 W r0 m0 r1 m1 r2 t2 m2).mono fun e W' ⟨he, bel⟩ => ?_
  subst he
  exact ⟨_, rfl, _, _, _, [], _, [], hW', trodAll_mk1 (shut_bool Try.underlying4 _), (trodAll_cons_mk (Below.trod laidOut (by kernel_rfl) (of_decide_eq_true (by kernel_rfl)) k0 bel lt0) (trodAll_cons_mk (Below.trod laidOut (by kernel_rfl) (of_decide_eq_true (by kernel_rfl)) k1 bel lt1) (trodAll_cons_mk (Below.trod laidOut (by kernel_rfl) (of_decide_eq_true (by kernel_rfl)) k2 bel lt2) trodAll_mk0))), rfl, bel.frame _, fun h => by cases h⟩

theorem over : Rows.scanApartRow.holds Try.pinned (OpenSpec.ofChange Rows.scanApartSpec) :=
  OpenClaim.holds_of_wide 5 Try.f5 rfl rfl rfl rfl rfl rfl rfl ⟨rfl, rfl, rfl, rfl, rfl⟩ rfl rfl rfl rfl rfl (by kernel_rfl) Try.func5 (by kernel_rfl)
    (of_decide_eq_true (by kernel_rfl)) (by unfold Func.isWrapper; first | (rw [if_pos (by decide +kernel)]; kernel_rfl) | (rw [if_neg (by decide +kernel)]; exact ⟨rfl, rfl⟩))
    (fun os started H enc _ => lifted os started H enc)

/-- The statement. -/
theorem proved : Rows.ScanApartSaid := over
#print axioms proved
end Go.Proofs.Ytebibdoekcophaa.scanApart
