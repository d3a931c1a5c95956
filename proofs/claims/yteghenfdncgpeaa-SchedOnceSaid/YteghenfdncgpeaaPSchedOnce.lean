/-
  The statement SchedOnce holds: the law returns true at every input, and its arguments read as before. Conditions: none.
-/
import Derived.Test.YteghenfdncgpeaaRows
import Derived.Test.YteghenfdncgpeaaSchedOnce
import Derived.Test.YteghenfdncgpeaaArgs
import Derived.Deep.Fields
import Derived.WalkKit
import Derived.ProofKit
import Derived.OpenShut
import Derived.ShutString
import Derived.ChangeOld
import Derived.Below
namespace Go.Proofs.Yteghenfdncgpeaa.schedOnce
open Go.ChangeShapes Go.WideShapes Go.ChangeAt Go.RowKit
open Go.ChangeMaps (open_string shut_string)
set_option linter.unusedVariables false

theorem own : ownKnob Try.prog.godebug = none := by kernel_rfl
theorem laidOut : laidOutB Try.prog = true := by kernel_rfl
theorem walk (a0 : Int) (a1 : Int) (a2 : Option Addr) (len2 cap2 : Nat) (F2 : Nat → Nat → Value) (w : World) (r2 : RdS w a2 len2 6 F2) (t2 : ∀ i, i < len2 → (∃ x, F2 i 0 = .int .i64 x) ∧ (∃ x, F2 i 1 = .int .i64 x) ∧ (∃ x, F2 i 2 = .int .i64 x) ∧ (∃ x, F2 i 3 = .int .i64 x) ∧ (∃ x, F2 i 4 = .int .i64 x) ∧ (∃ x, F2 i 5 = .bool x)) (m2 : len2 ≤ maxLen) :
    Calls Try.prog 11 #[.int .i64 a0, .int .i64 a1, .slice a2 len2 cap2] w fun e w' => e = .returned (.bool true) ∧ Below w.heap.size w w' :=
  once27_walk a0 a1 a2 len2 cap2 F2 w r2 t2 m2

set_option maxRecDepth 100000 in
theorem lifted (os : Os) (started : os.Started) (H : Type) (enc : TypeId × Value → H) :
    ReturnsInHanded {} Try.checked os 11 .any (Rows.schedOnceSpec.pre6 enc Try.prog Try.f11 Rows.schedOnceRow.domain false) (Rows.schedOnceSpec.post enc Try.prog Try.f11 false true false false) := by
  refine returnsInHanded_of_change (C := Try.checked) own started (by kernel_rfl) Try.func11
    (ChangeSpec.witness6 (enc := enc) (C := Try.checked) false ⟨#[], #[.int .i64 0, .int .i64 0, .slice none 0 0], []⟩ 8 (by kernel_rfl) (by kernel_rfl) (by kernel_rfl) (by kernel_rfl)) ?_
  intro W base args ds gs before hval0 hW hcnd _
  have hval : ∀ (j : Nat) t v, Try.f11.params[j]? = some t → args[j]? = some v → Value.okWide Try.prog W .any base t v := hval0
  have hW' := hW
  obtain ⟨p, q, hA0, hV, rfl, hfz, hnd⟩ := hW
  have hA : DataW.TrodAll enc Try.prog W 0 (fun _ => true) true Try.f11.params.toList args.toList ds p := hA0
  rw [Try.params11] at hA hval
  obtain ⟨v0, vs0, d0, ds0, p0, q0, hargs, rfl, rfl, h0, sq0⟩ := trodAll_cons hA
  obtain ⟨v1, vs1, d1, ds1, p1, q1, rfl, rfl, rfl, h1, sq1⟩ := trodAll_cons sq0
  obtain ⟨v2, vs2, d2, ds2, p2, q2, rfl, rfl, rfl, h2, sq2⟩ := trodAll_cons sq1
  obtain ⟨rfl, rfl, rfl⟩ := trodAll_nil sq2
  obtain rfl : args = #[v0, v1, v2] := by cases args; simp_all
  obtain ⟨rfl, rfl⟩ := trodVars_none hV
  obtain ⟨a0, rfl, rfl, rfl, w0⟩ := open_int Try.underlying3 (hval 0 3 v0 rfl rfl) h0
  obtain ⟨a1, rfl, rfl, rfl, w1⟩ := open_int Try.underlying3 (hval 1 3 v1 rfl rfl) h1
  obtain ⟨a2, len2, cap2, rfl⟩ := okWide_slice Try.underlying60 (hval 2 60 v2 rfl rfl)
  have k2 := h2
  have lt2 : ∀ x ∈ p2, x.block < W.heap.size := by obtain ⟨m, hm⟩ := k2; exact DataW.trod_lt m _ _ _ hm
  obtain ⟨F2, r2, t2, m2⟩ : ∃ F : Nat → Nat → Value, RdS W a2 len2 6 F ∧ (∀ i, i < len2 → (∃ x, F i 0 = .int .i64 x) ∧ (∃ x, F i 1 = .int .i64 x) ∧ (∃ x, F i 2 = .int .i64 x) ∧ (∃ x, F i 3 = .int .i64 x) ∧ (∃ x, F i 4 = .int .i64 x) ∧ (∃ x, F i 5 = .bool x)) ∧ len2 ≤ maxLen := by
    obtain ⟨fuel, hf⟩ := h2
    obtain ⟨hl, hm, F, hr, hF⟩ := open_structs Try.underlying60 Try.underlying66 (by kernel_rfl) (by decide) rfl (Go.Deep.hone_of (by kernel_rfl)) (show DataW.trod enc Try.prog W 0 (fun _ => true) true fuel 60 [.slice a2 len2 cap2] = some _ from hf)
    refine ⟨F, hr, fun i hi => ⟨?_, ?_, ?_, ?_, ?_, ?_⟩, by omega⟩
    · obtain ⟨n, y, hy⟩ := hF i hi 0 _ rfl
      obtain ⟨b, hb, _⟩ := DataW.trod_int Try.underlying3 hy
      exact ⟨b, by simpa using hb⟩
    · obtain ⟨n, y, hy⟩ := hF i hi 1 _ rfl
      obtain ⟨b, hb, _⟩ := DataW.trod_int Try.underlying3 hy
      exact ⟨b, by simpa using hb⟩
    · obtain ⟨n, y, hy⟩ := hF i hi 2 _ rfl
      obtain ⟨b, hb, _⟩ := DataW.trod_int Try.underlying3 hy
      exact ⟨b, by simpa using hb⟩
    · obtain ⟨n, y, hy⟩ := hF i hi 3 _ rfl
      obtain ⟨b, hb, _⟩ := DataW.trod_int Try.underlying3 hy
      exact ⟨b, by simpa using hb⟩
    · obtain ⟨n, y, hy⟩ := hF i hi 4 _ rfl
      obtain ⟨b, hb, _⟩ := DataW.trod_int Try.underlying3 hy
      exact ⟨b, by simpa using hb⟩
    · obtain ⟨n, y, hy⟩ := hF i hi 5 _ rfl
      obtain ⟨b, hb, _⟩ := DataW.trod_bool Try.underlying4 hy
      exact ⟨b, by simpa using hb⟩
  clear hA0 hval0
  refine (walk a0 a1 a2 len2 cap2 F2 W r2 t2 m2).mono fun e W' ⟨he, bel⟩ => ?_
  subst he
  exact ⟨_, rfl, _, _, _, [], _, [], hW', trodAll_mk1 (shut_bool Try.underlying4 _), (trodAll_cons_mk (shut_int Try.underlying3 w0) (trodAll_cons_mk (shut_int Try.underlying3 w1) (trodAll_cons_mk (Below.trod laidOut (by kernel_rfl) (of_decide_eq_true (by kernel_rfl)) k2 bel lt2) trodAll_mk0))), rfl, bel.frame _, fun h => by cases h⟩

theorem over : Rows.schedOnceRow.holds Try.pinned (OpenSpec.ofChange Rows.schedOnceSpec) :=
  OpenClaim.holds_of_wide 11 Try.f11 rfl rfl rfl rfl rfl rfl rfl ⟨rfl, rfl, rfl, rfl, rfl⟩ rfl rfl rfl rfl rfl (by kernel_rfl) Try.func11 (by kernel_rfl)
    (of_decide_eq_true (by kernel_rfl)) (by unfold Func.isWrapper; first | (rw [if_pos (by decide +kernel)]; kernel_rfl) | (rw [if_neg (by decide +kernel)]; exact ⟨rfl, rfl⟩))
    (fun os started H enc _ => lifted os started H enc)

/-- The statement. -/
theorem proved : Rows.SchedOnceSaid := over
#print axioms proved
end Go.Proofs.Yteghenfdncgpeaa.schedOnce
