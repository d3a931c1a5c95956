/-
  The statement SchedPlays holds: the law returns true at every input, and its arguments read as before. Conditions: none.
-/
import Derived.Test.YteghenfdncgpeaaRows
import Derived.Test.YteghenfdncgpeaaSchedPlays
import Derived.Test.YteghenfdncgpeaaArgs
import Derived.Deep.Fields
import Derived.WalkKit
import Derived.ProofKit
import Derived.OpenShut
import Derived.ShutString
import Derived.ChangeOld
import Derived.Below
namespace Go.Proofs.Yteghenfdncgpeaa.schedPlays
open Go.ChangeShapes Go.WideShapes Go.ChangeAt Go.RowKit
open Go.ChangeMaps (open_string shut_string)
set_option linter.unusedVariables false

theorem own : ownKnob Try.prog.godebug = none := by kernel_rfl
theorem laidOut : laidOutB Try.prog = true := by kernel_rfl
theorem walk (a0 : Int) (a1 : Option Addr) (len1 cap1 : Nat) (F1 : Nat → Nat → Value) (w : World) (r1 : RdS w a1 len1 6 F1) (t1 : ∀ i, i < len1 → (∃ x, F1 i 0 = .int .i64 x) ∧ (∃ x, F1 i 1 = .int .i64 x) ∧ (∃ x, F1 i 2 = .int .i64 x) ∧ (∃ x, F1 i 3 = .int .i64 x) ∧ (∃ x, F1 i 4 = .int .i64 x) ∧ (∃ x, F1 i 5 = .bool x)) (m1 : len1 ≤ maxLen) :
    Calls Try.prog 15 #[.int .i64 a0, .slice a1 len1 cap1] w fun e w' => e = .returned (.bool true) ∧ Below w.heap.size w w' :=
  plays27_walk a0 a1 len1 cap1 F1 w r1 t1 m1

set_option maxRecDepth 100000 in
theorem lifted (os : Os) (started : os.Started) (H : Type) (enc : TypeId × Value → H) :
    ReturnsInHanded {} Try.checked os 15 .any (Rows.schedPlaysSpec.pre6 enc Try.prog Try.f15 Rows.schedPlaysRow.domain false) (Rows.schedPlaysSpec.post enc Try.prog Try.f15 false true false false) := by
  refine returnsInHanded_of_change (C := Try.checked) own started (by kernel_rfl) Try.func15
    (ChangeSpec.witness6 (enc := enc) (C := Try.checked) false ⟨#[], #[.int .i64 0, .slice none 0 0], []⟩ 8 (by kernel_rfl) (by kernel_rfl) (by kernel_rfl) (by kernel_rfl)) ?_
  intro W base args ds gs before hval0 hW hcnd _
  have hval : ∀ (j : Nat) t v, Try.f15.params[j]? = some t → args[j]? = some v → Value.okWide Try.prog W .any base t v := hval0
  have hW' := hW
  obtain ⟨p, q, hA0, hV, rfl, hfz, hnd⟩ := hW
  have hA : DataW.TrodAll enc Try.prog W 0 (fun _ => true) true Try.f15.params.toList args.toList ds p := hA0
  rw [Try.params15] at hA hval
  obtain ⟨v0, vs0, d0, ds0, p0, q0, hargs, rfl, rfl, h0, sq0⟩ := trodAll_cons hA
  obtain ⟨v1, vs1, d1, ds1, p1, q1, rfl, rfl, rfl, h1, sq1⟩ := trodAll_cons sq0
  obtain ⟨rfl, rfl, rfl⟩ := trodAll_nil sq1
  obtain rfl : args = #[v0, v1] := by cases args; simp_all
  obtain ⟨rfl, rfl⟩ := trodVars_none hV
  obtain ⟨a0, rfl, rfl, rfl, w0⟩ := open_int Try.underlying3 (hval 0 3 v0 rfl rfl) h0
  obtain ⟨a1, len1, cap1, rfl⟩ := okWide_slice Try.underlying60 (hval 1 60 v1 rfl rfl)
  have k1 := h1
  have lt1 : ∀ x ∈ p1, x.block < W.heap.size := by obtain ⟨m, hm⟩ := k1; exact DataW.trod_lt m _ _ _ hm
  obtain ⟨F1, r1, t1, m1⟩ : ∃ F : Nat → Nat → Value, RdS W a1 len1 6 F ∧ (∀ i, i < len1 → (∃ x, F i 0 = .int .i64 x) ∧ (∃ x, F i 1 = .int .i64 x) ∧ (∃ x, F i 2 = .int .i64 x) ∧ (∃ x, F i 3 = .int .i64 x) ∧ (∃ x, F i 4 = .int .i64 x) ∧ (∃ x, F i 5 = .bool x)) ∧ len1 ≤ maxLen := by
    obtain ⟨fuel, hf⟩ := h1
    obtain ⟨hl, hm, F, hr, hF⟩ := open_structs Try.underlying60 Try.underlying66 (by kernel_rfl) (by decide) rfl (Go.Deep.hone_of (by kernel_rfl)) (show DataW.trod enc Try.prog W 0 (fun _ => true) true fuel 60 [.slice a1 len1 cap1] = some _ from hf)
    refine ⟨F, hr, fun i hi => ⟨?_, ?_, ?_, ?_, ?_, ?_⟩, by omega⟩
    · obtain ⟨n, y, hy⟩ := hF i hi 0 _ rfl
      obtain ⟨b, hb, _⟩ := DataW.trod_int Try.underlying3 hy
      exact ⟨b, by simpa using hb⟩
    · obtain ⟨n, y, hy⟩ := hF i hi 1 _ rfl
      obtain ⟨b, hb, _⟩ := DataW.trod_int Try.underlying3 hy
      exact ⟨b, by simpa using hb⟩
    · obtain ⟨n, y, hy⟩ := hF i hi 2 _ rfl
      obtain ⟨b, hb, _⟩ := DataW.trod_int Try.underlying3 hy
      exact ⟨b, by simpa using hb⟩
    · obtain ⟨n, y, hy⟩ := hF i hi 3 _ rfl
      obtain ⟨b, hb, _⟩ := DataW.trod_int Try.underlying3 hy
      exact ⟨b, by simpa using hb⟩
    · obtain ⟨n, y, hy⟩ := hF i hi 4 _ rfl
      obtain ⟨b, hb, _⟩ := DataW.trod_int Try.underlying3 hy
      exact ⟨b, by simpa using hb⟩
    · obtain ⟨n, y, hy⟩ := hF i hi 5 _ rfl
      obtain ⟨b, hb, _⟩ := DataW.trod_bool Try.underlying4 hy
      exact ⟨b, by simpa using hb⟩
  clear hA0 hval0
  refine (walk a0 a1 len1 cap1 F1 W r1 t1 m1).mono fun e W' ⟨he, bel⟩ => ?_
  subst he
  exact ⟨_, rfl, _, _, _, [], _, [], hW', trodAll_mk1 (shut_bool Try.underlying4 _), (trodAll_cons_mk (shut_int Try.underlying3 w0) (trodAll_cons_mk (Below.trod laidOut (by kernel_rfl) (of_decide_eq_true (by kernel_rfl)) k1 bel lt1) trodAll_mk0)), rfl, bel.frame _, fun h => by cases h⟩

theorem over : Rows.schedPlaysRow.holds Try.pinned (OpenSpec.ofChange Rows.schedPlaysSpec) :=
  OpenClaim.holds_of_wide 15 Try.f15 rfl rfl rfl rfl rfl rfl rfl ⟨rfl, rfl, rfl, rfl, rfl⟩ rfl rfl rfl rfl rfl (by kernel_rfl) Try.func15 (by kernel_rfl)
    (of_decide_eq_true (by kernel_rfl)) (by unfold Func.isWrapper; first | (rw [if_pos (by decide +kernel)]; kernel_rfl) | (rw [if_neg (by decide +kernel)]; exact ⟨rfl, rfl⟩))
    (fun os started H enc _ => lifted os started H enc)

/-- The statement. -/
theorem proved : Rows.SchedPlaysSaid := over
#print axioms proved
end Go.Proofs.Yteghenfdncgpeaa.schedPlays
