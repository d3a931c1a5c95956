/-
  The statement SpanPlays holds: the law returns true at every input, and its arguments read as before. Conditions: none.
-/
import Derived.Test.YtheniiinioggiaaDoorRows
import Derived.Test.YtheniiinioggiaaDoorSpanPlays
import Derived.Test.YtheniiinioggiaaDoorArgs
import Derived.Deep.Fields
import Derived.WalkKit
import Derived.ProofKit
import Derived.OpenShut
import Derived.ShutString
import Derived.ChangeOld
import Derived.Below
import Derived.Test.YtheniiinioggiaaDoorLaid
import Derived.Test.YtheniiinioggiaaDoorTie
import Derived.Test.YtheniiinioggiaaDoorCards
import Derived.SevenTiedAt
import Derived.LaidMore
import Derived.Stop.Joined
namespace Go.Proofs.YtheniiinioggiaaDoor.spanPlays
open Go.ChangeShapes Go.WideShapes Go.ChangeAt Go.RowKit
open Go.ChangeMaps (open_string shut_string)
set_option linter.unusedVariables false

theorem own : ownKnob Tryd.prog.godebug = none := by kernel_rfl
theorem laidOut : laidOutB Tryd.prog = true := by kernel_rfl
theorem walk (a0 : Int) (a1 : Int) (a2 : Option Addr) (len2 cap2 : Nat) (F2 : Nat → Nat → Value) (w : World) (hT : TabW w) (r2 : RdS w a2 len2 3 F2) (t2 : ∀ i, i < len2 → (∃ x, F2 i 0 = .int .i64 x) ∧ (∃ x, F2 i 1 = .int .i64 x) ∧ (∃ x, F2 i 2 = .bool x)) (m2 : len2 ≤ maxLen) :
    Calls Tryd.prog 12 #[.int .i64 a0, .int .i64 a1, .slice a2 len2 cap2] w fun e w' => e = .returned (.bool true) ∧ Below w.heap.size w w' :=
  plays6_walk a0 a1 a2 len2 cap2 F2 w hT r2 t2 m2

set_option maxRecDepth 100000 in
theorem lifted (os : Os) (started : os.Started) (H : Type) (enc : TypeId × Value → H) :
    ReturnsInHanded {} Tryd.checked os 12 .any (fun w args => (Rows.spanPlaysSpec.pre enc Tryd.prog Tryd.f12 [] false w args ∧ laidMetH Tryd.prog laidTab w) ∧ sizedMet enc Tryd.prog Tryd.f12 (OpenSpec.ofChange Rows.spanPlaysSpec) false w args) (Rows.spanPlaysSpec.post enc Tryd.prog Tryd.f12 false true false false) := by
  refine returnsInHanded_of_change_and (C := Tryd.checked) (X := fun w _ => laidMetH Tryd.prog laidTab w) (fun _ _ _ hh h => h.of_heap hh) own started (by kernel_rfl) Tryd.func12
    (ChangeSpec.witness_shaped (enc := enc) (C := Tryd.checked) (os := os) (X := fun w _ => laidMetH Tryd.prog laidTab w) false (World.doorLaid Tryd.prog 400 os) #[.int .i64 0, .int .i64 0, .slice none 0 0] 8 rfl (World.shaped_of_RefB (by kernel_rfl) (by kernel_rfl)) (by kernel_rfl) (by kernel_rfl) (by kernel_rfl) (door_met os _)) ?_
  intro W base args ds gs before hval0 hW _ _ hL _
  have hval : ∀ (j : Nat) t v, Tryd.f12.params[j]? = some t → args[j]? = some v → Value.okWide Tryd.prog W .any base t v := hval0
  have hW' := hW
  obtain ⟨p, q, hA0, hV, rfl, hfz, hnd⟩ := hW
  have hA : DataW.TrodAll enc Tryd.prog W 0 (fun _ => true) true Tryd.f12.params.toList args.toList ds p := hA0
  rw [Tryd.params12] at hA hval
  obtain ⟨v0, vs0, d0, ds0, p0, q0, hargs, rfl, rfl, h0, sq0⟩ := trodAll_cons hA
  obtain ⟨v1, vs1, d1, ds1, p1, q1, rfl, rfl, rfl, h1, sq1⟩ := trodAll_cons sq0
  obtain ⟨v2, vs2, d2, ds2, p2, q2, rfl, rfl, rfl, h2, sq2⟩ := trodAll_cons sq1
  obtain ⟨rfl, rfl, rfl⟩ := trodAll_nil sq2
  obtain rfl : args = #[v0, v1, v2] := by cases args; simp_all
  obtain ⟨rfl, rfl⟩ := trodVars_none hV
  obtain ⟨a0, rfl, rfl, rfl, w0⟩ := open_int Tryd.underlying3 (hval 0 3 v0 rfl rfl) h0
  obtain ⟨a1, rfl, rfl, rfl, w1⟩ := open_int Tryd.underlying3 (hval 1 3 v1 rfl rfl) h1
  obtain ⟨a2, len2, cap2, rfl⟩ := okWide_slice Tryd.underlying55 (hval 2 55 v2 rfl rfl)
  have k2 := h2
  have lt2 : ∀ x ∈ p2, x.block < W.heap.size := by obtain ⟨m, hm⟩ := k2; exact DataW.trod_lt m _ _ _ hm
  obtain ⟨F2, r2, t2, m2⟩ : ∃ F : Nat → Nat → Value, RdS W a2 len2 3 F ∧ (∀ i, i < len2 → (∃ x, F i 0 = .int .i64 x) ∧ (∃ x, F i 1 = .int .i64 x) ∧ (∃ x, F i 2 = .bool x)) ∧ len2 ≤ maxLen := by
    obtain ⟨fuel, hf⟩ := h2
    obtain ⟨hl, hm, F, hr, hF⟩ := open_structs Tryd.underlying55 Tryd.underlying62 (by kernel_rfl) (by decide) rfl (Go.Deep.hone_of (by kernel_rfl)) (show DataW.trod enc Tryd.prog W 0 (fun _ => true) true fuel 55 [.slice a2 len2 cap2] = some _ from hf)
    refine ⟨F, hr, fun i hi => ⟨?_, ?_, ?_⟩, by omega⟩
    · obtain ⟨n, y, hy⟩ := hF i hi 0 _ rfl
      obtain ⟨b, hb, _⟩ := DataW.trod_int Tryd.underlying3 hy
      exact ⟨b, by simpa using hb⟩
    · obtain ⟨n, y, hy⟩ := hF i hi 1 _ rfl
      obtain ⟨b, hb, _⟩ := DataW.trod_int Tryd.underlying3 hy
      exact ⟨b, by simpa using hb⟩
    · obtain ⟨n, y, hy⟩ := hF i hi 2 _ rfl
      obtain ⟨b, hb, _⟩ := DataW.trod_bool Tryd.underlying4 hy
      exact ⟨b, by simpa using hb⟩
  clear hA0 hval0
  refine (walk a0 a1 a2 len2 cap2 F2 W (of_laid hL) r2 t2 m2).mono fun e W' ⟨he, bel⟩ => ?_
  subst he
  exact ⟨_, rfl, _, _, _, [], _, [], hW', trodAll_mk1 (shut_bool Tryd.underlying4 _), (trodAll_cons_mk (shut_int Tryd.underlying3 w0) (trodAll_cons_mk (shut_int Tryd.underlying3 w1) (trodAll_cons_mk (Below.trod laidOut (by kernel_rfl) (of_decide_eq_true (by kernel_rfl)) k2 bel lt2) trodAll_mk0))), rfl, bel.frame _, fun h => by cases h⟩

theorem over : Rows.spanPlaysRow.holds Tryd.pinned (OpenSpec.ofChange Rows.spanPlaysSpec) :=
  OpenClaim.holds_of_wide 12 Tryd.f12 rfl rfl rfl rfl rfl rfl rfl ⟨rfl, rfl, rfl, rfl, rfl⟩ rfl rfl rfl rfl rfl (by kernel_rfl) Tryd.func12 (by kernel_rfl)
    (of_decide_eq_true (by kernel_rfl)) (by unfold Func.isWrapper; first | (rw [if_pos (by decide +kernel)]; kernel_rfl) | (rw [if_neg (by decide +kernel)]; exact ⟨rfl, rfl⟩))
    (fun os started H enc _ => lifted os started H enc)

theorem card_holds : Claim7.holds Tryd.pinned (.plain (OpenSpec.ofChange Rows.spanPlaysSpec)) Rows.spanPlaysCard :=
  Claim7.holds_tied_plain_at .later [] [.data] true (true, "2b02a60dfbfdf3dfc294f3248dd699218a7eb27df379a80cb6e01cd475cb8e31") false
    over (fun _ h => by cases h) (by kernel_rfl) (fun _ h => by cases h) spanPlays_row_tie rfl ⟨rfl, rfl⟩ (by kernel_rfl) rfl
    (fun f fn hf hfn => by
      obtain rfl : f = 12 := Option.some.inj ((show Tryd.prog.funcNamed "treadmill/treadmilllaw6.SpanPlays" = some 12 by kernel_rfl).symm.trans hf) |>.symm
      obtain rfl : fn = Tryd.f12 := (Option.some.inj (Tryd.func12.symm.trans hfn)).symm
      exact ⟨by kernel_rfl, fun j t ht => by
        rw [Tryd.params12] at ht
        have hm : t ∈ [3, 3, 55] := by simpa using Array.mem_of_getElem? ht
        have hall : ([3, 3, 55].all fun u => !Tryd.prog.wantsStandIn u) = true := by kernel_rfl
        exact (show Tryd.prog.wantsStandIn t = false by simpa using List.all_eq_true.1 hall t hm)⟩)
    (by kernel_rfl)
/-- The statement. -/
theorem proved : Rows.SpanPlaysCardSaid := card_holds
#print axioms proved
end Go.Proofs.YtheniiinioggiaaDoor.spanPlays
