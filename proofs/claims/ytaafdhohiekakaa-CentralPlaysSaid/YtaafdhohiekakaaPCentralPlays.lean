/-
  The statement CentralPlays holds: the law returns true at every input, and its arguments read as before. Conditions: none.
-/
import Derived.Test.YtaafdhohiekakaaRows
import Derived.Test.YtaafdhohiekakaaCentralPlays
import Derived.Test.YtaafdhohiekakaaArgs
import Derived.Deep.Fields
import Derived.WalkKit
import Derived.ProofKit
import Derived.OpenShut
import Derived.ShutString
import Derived.ChangeOld
import Derived.Below
namespace Go.Proofs.Ytaafdhohiekakaa.centralPlays
open Go.ChangeShapes Go.WideShapes Go.ChangeAt Go.RowKit
open Go.ChangeMaps (open_string shut_string)
set_option linter.unusedVariables false

theorem own : ownKnob Try.prog.godebug = none := by kernel_rfl
theorem laidOut : laidOutB Try.prog = true := by kernel_rfl
theorem walk (a0 : Option Addr) (len0 cap0 : Nat) (F0 : Nat → Nat → Value) (w : World) (r0 : RdS w a0 len0 4 F0) (t0 : ∀ i, i < len0 → (∃ x, F0 i 0 = .int .i64 x) ∧ (∃ x, F0 i 1 = .int .i64 x) ∧ (∃ x, F0 i 2 = .int .i64 x) ∧ (∃ x, F0 i 3 = .bool x)) (m0 : len0 ≤ maxLen) :
    Calls Try.prog 8 #[.slice a0 len0 cap0] w fun e w' => e = .returned (.bool true) ∧ Below w.heap.size w w' :=
  plays8_walk a0 len0 cap0 F0 w r0 t0 m0

set_option maxRecDepth 100000 in
theorem lifted (os : Os) (started : os.Started) (H : Type) (enc : TypeId × Value → H) :
    ReturnsInHanded {} Try.checked os 8 .any (Rows.centralPlaysSpec.pre6 enc Try.prog Try.f8 Rows.centralPlaysRow.domain false) (Rows.centralPlaysSpec.post enc Try.prog Try.f8 false true false false) := by
  refine returnsInHanded_of_change (C := Try.checked) own started (by kernel_rfl) Try.func8
    (ChangeSpec.witness6 (enc := enc) (C := Try.checked) false ⟨#[], #[.slice none 0 0], []⟩ 8 (by kernel_rfl) (by kernel_rfl) (by kernel_rfl) (by kernel_rfl)) ?_
  intro W base args ds gs before hval0 hW hcnd _
  have hval : ∀ (j : Nat) t v, Try.f8.params[j]? = some t → args[j]? = some v → Value.okWide Try.prog W .any base t v := hval0
  have hW' := hW
  obtain ⟨p, q, hA0, hV, rfl, hfz, hnd⟩ := hW
  have hA : DataW.TrodAll enc Try.prog W 0 (fun _ => true) true Try.f8.params.toList args.toList ds p := hA0
  rw [Try.params8] at hA hval
  obtain ⟨v0, vs0, d0, ds0, p0, q0, hargs, rfl, rfl, h0, sq0⟩ := trodAll_cons hA
  obtain ⟨rfl, rfl, rfl⟩ := trodAll_nil sq0
  obtain rfl : args = #[v0] := by cases args; simp_all
  obtain ⟨rfl, rfl⟩ := trodVars_none hV
  obtain ⟨a0, len0, cap0, rfl⟩ := okWide_slice Try.underlying52 (hval 0 52 v0 rfl rfl)
  have k0 := h0
  have lt0 : ∀ x ∈ p0, x.block < W.heap.size := by obtain ⟨m, hm⟩ := k0; exact DataW.trod_lt m _ _ _ hm
  obtain ⟨F0, r0, t0, m0⟩ : ∃ F : Nat → Nat → Value, RdS W a0 len0 4 F ∧ (∀ i, i < len0 → (∃ x, F i 0 = .int .i64 x) ∧ (∃ x, F i 1 = .int .i64 x) ∧ (∃ x, F i 2 = .int .i64 x) ∧ (∃ x, F i 3 = .bool x)) ∧ len0 ≤ maxLen := by
    obtain ⟨fuel, hf⟩ := h0
    obtain ⟨hl, hm, F, hr, hF⟩ := open_structs Try.underlying52 Try.underlying59 (by kernel_rfl) (by decide) rfl (Go.Deep.hone_of (by kernel_rfl)) (show DataW.trod enc Try.prog W 0 (fun _ => true) true fuel 52 [.slice a0 len0 cap0] = some _ from hf)
    refine ⟨F, hr, fun i hi => ⟨?_, ?_, ?_, ?_⟩, by omega⟩
    · obtain ⟨n, y, hy⟩ := hF i hi 0 _ rfl
      obtain ⟨b, hb, _⟩ := DataW.trod_int Try.underlying3 hy
      exact ⟨b, by simpa using hb⟩
    · obtain ⟨n, y, hy⟩ := hF i hi 1 _ rfl
      obtain ⟨b, hb, _⟩ := DataW.trod_int Try.underlying3 hy
      exact ⟨b, by simpa using hb⟩
    · obtain ⟨n, y, hy⟩ := hF i hi 2 _ rfl
      obtain ⟨b, hb, _⟩ := DataW.trod_int Try.underlying3 hy
      exact ⟨b, by simpa using hb⟩
    · obtain ⟨n, y, hy⟩ := hF i hi 3 _ rfl
      obtain ⟨b, hb, _⟩ := DataW.trod_bool Try.underlying4 hy
      exact ⟨b, by simpa using hb⟩
  clear hA0 hval0
  refine (walk a0 len0 cap0 F0 W r0 t0 m0).mono fun e W' ⟨he, bel⟩ => ?_
  subst he
  exact ⟨_, rfl, _, _, _, [], _, [], hW', trodAll_mk1 (shut_bool Try.underlying4 _), (trodAll_cons_mk (Below.trod laidOut (by kernel_rfl) (of_decide_eq_true (by kernel_rfl)) k0 bel lt0) trodAll_mk0), rfl, bel.frame _, fun h => by cases h⟩

theorem over : Rows.centralPlaysRow.holds Try.pinned (OpenSpec.ofChange Rows.centralPlaysSpec) :=
  OpenClaim.holds_of_wide 8 Try.f8 rfl rfl rfl rfl rfl rfl rfl ⟨rfl, rfl, rfl, rfl, rfl⟩ rfl rfl rfl rfl rfl (by kernel_rfl) Try.func8 (by kernel_rfl)
    (of_decide_eq_true (by kernel_rfl)) (by unfold Func.isWrapper; first | (rw [if_pos (by decide +kernel)]; kernel_rfl) | (rw [if_neg (by decide +kernel)]; exact ⟨rfl, rfl⟩))
    (fun os started H enc _ => lifted os started H enc)

/-- The statement. -/
theorem proved : Rows.CentralPlaysSaid := over
#print axioms proved
end Go.Proofs.Ytaafdhohiekakaa.centralPlays
