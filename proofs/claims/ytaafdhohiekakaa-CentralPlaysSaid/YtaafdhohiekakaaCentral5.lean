/-
  Contracts of package central: Any. Conditions: none beyond what each theorem names.
-/
import Derived.Test.YtaafdhohiekakaaCentral4
namespace Go.Proofs.Ytaafdhohiekakaa
open Go.RowKit
theorem centAnyNil (w : World) : Calls Try.prog 35 #[.pointer none] w fun e w' => e = .returned (.tuple #[.int .i64 0, .int .i64 0, .bool false]) ∧ w' = w := by
  go_enter Try.func35, Try.ntmps35
  go_wp2
  exact bodyPost_ret (results_tmp3 rfl _ _ _) rfl ⟨rfl, rfl⟩
/-- The m-th unswept row, class by class. -/
def ur (m : Nat) : Nat := m / 2 * 4 + 2 + m % 2
theorem ur_kf (k f : Nat) (hf : f < 2) : ur (k * 2 + f) = k * 4 + 2 + f := by unfold ur; omega
set_option maxHeartbeats 1000000 in
theorem centAnyNone (c g : Nat) (vs : List Value) (Ls : List (List Int)) (w : World) (h : CentAt w c g vs Ls) (hx : ∀ m, m < 32 → gL Ls (ur m) = []) :
    Calls Try.prog 35 #[.pointer (some ⟨c, 0, none⟩)] w fun e w' => e = .returned (.tuple #[.int .i64 0, .int .i64 0, .bool false]) ∧ w' = w := by
  have HX := Lib.hid hx
  have HV := Lib.hid h.vlen
  have c0 := h.top.cell 0
  clear hx
  go_enter Try.func35, Try.ntmps35
  go_wp2_with fail
  go_loop [15] (fun s15 => ∃ k : Nat, s15 = .int .i64 k ∧ k ≤ 16) (fun s15 => 16 - (intOf s15).toNat)
  case atStart => exact ⟨0, rfl, by omega⟩
  case round =>
    obtain ⟨k, rfl, hk⟩ := hrel
    by_cases hk16 : k < 16
    · have t1 : decide ((k : Int) < 16) = true := decide_eq_true (by omega)
      go_wp2_with fail
      go_loop [18] (fun s18 => ∃ f : Nat, s18 = .int .i64 f ∧ f ≤ 2) (fun s18 => 2 - (intOf s18).toNat)
      case atStart => exact ⟨0, rfl, by omega⟩
      case round =>
        obtain ⟨f, rfl, hf⟩ := hrel
        by_cases hf2 : f < 2
        · have t2 : decide ((f : Int) < 2) = true := decide_eq_true (by omega)
          have hE := HX.out (k * 2 + f) (by omega)
          rw [ur_kf k f hf2] at hE
          obtain ⟨v, hv, hO, hcv⟩ := h.rows.at (k * 4 + 2 + f) (by rw [HV.out]; omega)
          rw [hE] at hO
          obtain ⟨a, cp, rfl, _⟩ := hO.form
          rw [List.length_nil] at hcv
          clear hE hv hO
          go_wp2_with fail
          go_round
          case rel => exact ⟨f + 1, by go_num, by omega⟩
          case measure => simp [intOf]; omega
        · obtain rfl : f = 2 := by omega
          go_wp2_with fail
          go_round
          case rel => exact ⟨k + 1, by go_num, by omega⟩
          case measure => simp [intOf]; omega
    · obtain rfl : k = 16 := by omega
      go_wp2
      exact bodyPost_ret (results_tmp3 rfl _ _ _) rfl ⟨rfl, rfl⟩
set_option maxHeartbeats 4000000 in
theorem centAnyAt (c g : Nat) (vs : List Value) (Ls : List (List Int)) (m0 : Nat) (x : Int) (t : List Int) (w : World) (h : CentAt w c g vs Ls) (hm0 : m0 < 32) (hL : gL Ls (ur m0) = x :: t) (hx : ∀ m, m < m0 → gL Ls (ur m) = []) (hl : t.length ≤ 100000) :
    Calls Try.prog 35 #[.pointer (some ⟨c, 0, none⟩)] w fun e w' => e = .returned (.tuple #[.int .i64 (m0 / 2 : Nat), .int .i64 x, .bool true]) ∧ Turned w c g vs (Ls.set (ur m0) t) w' := by
  have HX := Lib.hid hx
  have HV := Lib.hid h.vlen
  have HLL := Lib.hid hL
  have c0 := h.top.cell 0
  obtain ⟨K, hK0⟩ : ∃ K, m0 / 2 = K := ⟨_, rfl⟩
  obtain ⟨I, hI0⟩ : ∃ I, ur m0 = I := ⟨_, rfl⟩
  rw [hK0, hI0]
  have HK0 := Lib.hid hK0
  have HI0 := Lib.hid hI0
  clear hx hL hK0 hI0
  go_enter Try.func35, Try.ntmps35
  go_wp2_with fail
  go_loop [15] (fun s15 => ∃ k : Nat, s15 = .int .i64 k ∧ k * 2 ≤ m0) (fun s15 => 16 - (intOf s15).toNat)
  case atStart => exact ⟨0, rfl, by omega⟩
  case round =>
    obtain ⟨k, rfl, hk⟩ := hrel
    have hk16 : k < 16 := by omega
    have t1 : decide ((k : Int) < 16) = true := decide_eq_true (by omega)
    go_wp2_with fail
    go_loop [18] (fun s18 => ∃ f : Nat, s18 = .int .i64 f ∧ f ≤ 2 ∧ k * 2 + f ≤ m0) (fun s18 => 2 - (intOf s18).toNat)
    case atStart => exact ⟨0, rfl, by omega, by omega⟩
    case round =>
      obtain ⟨f, rfl, hf, hf0⟩ := hrel
      by_cases hf2 : f < 2
      · have t2 : decide ((f : Int) < 2) = true := decide_eq_true (by omega)
        by_cases hne : k * 2 + f < m0
        · have hE := HX.out (k * 2 + f) hne
          rw [ur_kf k f hf2] at hE
          obtain ⟨v, hv, hO, hcv⟩ := h.rows.at (k * 4 + 2 + f) (by rw [HV.out]; omega)
          rw [hE] at hO
          obtain ⟨a, cp, rfl, _⟩ := hO.form
          rw [List.length_nil] at hcv
          clear hE hv hO
          go_wp2_with fail
          go_round
          case rel => exact ⟨f + 1, by go_num, by omega, by omega⟩
          case measure => simp [intOf]; omega
        · have hm : m0 = k * 2 + f := by omega
          have hIk : I = k * 4 + 2 + f := by rw [← HI0.out, hm, ur_kf k f hf2]
          have hKk : K = k := by rw [← HK0.out]; omega
          have hLx := HLL.out
          rw [HI0.out] at hLx
          have hI64 : I < 64 := by omega
          have hi : k * 4 + 2 + f = I := hIk.symm
          obtain ⟨v, hv, hO, hcv⟩ := h.rows.at I (by rw [HV.out]; omega)
          rw [hLx] at hO
          obtain ⟨a, cp, rfl, hc1, hc2, hrd⟩ := hO.form
          obtain ⟨n, hn⟩ : ∃ n, t.length = n := ⟨_, rfl⟩
          rw [List.length_cons, hn] at hc1 hcv hv hO
          rw [hn] at hl
          obtain ⟨ba, oa, rfl, hcell⟩ := hrd.at (i := 0) (by simp)
          have d0 := hcell 0 (by simp)
          rw [show gI (x :: t) 0 = x from rfl, Nat.add_zero] at d0
          have hrt : Rd w (if cp = 1 then some ⟨ba, oa, none⟩ else some ⟨ba, oa + 1, none⟩) t := by
            have := hrd.dropIf (k := 1) (c := cp) (by rw [List.length_cons, hn]; exact hc1)
            simpa using this
          have hgl := h.rows.lt
          subst hKk
          have k7 : (K : Int) < 16 := by omega
          have k9 : (f : Int) < 2 := by omega
          have k10 : (0 : Int) ≤ K := by omega
          have k12 : (0 : Int) ≤ f := by omega
          have b1 : (1 : Int) ≤ (n : Int) + 1 := by omega
          have b2 : ((n : Int) + 1) ≤ cp := by omega
          have b3 : decide ((0 : Int) < ((n + 1 : Nat) : Int)) = true := decide_eq_true (by omega)
          have HVV := Lib.hid hv
          have HN := Lib.hid hn
          clear hv hcell hrd hn hLx hIk hm hne hk16 hk hf
          go_upto_region 11 with fail
          obtain ⟨L, hLL⟩ : ∃ L : World → Prop, ∀ w', L w' ↔ (w'.cell? ⟨c, 0, none⟩ = some (.slice (some ⟨g, 0, none⟩) 16 16)) := ⟨_, fun _ => Iff.rfl⟩
          have hS0 : L (w.drewN 1) := (hLL _).2 c0
          have hS1 : ∀ y : { w' : World // L w' }, y.1.cell? ⟨c, 0, none⟩ = some (.slice (some ⟨g, 0, none⟩) 16 16) := fun y => (hLL _).1 y.2
          have hSA : Nonempty { w' : World // L w' } := ⟨⟨_, hS0⟩⟩
          have HLk := Lib.hid hLL
          clear hLL
          refine wp_region_plan (Cls L) (List.range 13) (.reads [0, 1, 2, 3, 4, 5, 6, 7, 9, 10] (.only 8 (.reads [11] (.only 12 .done)))) (by kernel_rfl) (by kernel_rfl) (fun _ _ _ _ _ h => h) ?_
          simp only [Plan.reads, Plan.only, List.foldr_cons, List.foldr_nil]
          iterate 10 (refine wpPlan_readS hS0 (fun K hK => ?_); simp only [List.getD_cons_zero, List.getD_cons_succ]; go_simp; refine hK _ ?_; clear hK K)
          obtain ⟨A2, hA2⟩ : ∃ A2 : Option Addr, (if cp = 1 then (some ⟨ba, oa, none⟩ : Option Addr) else some ⟨ba, oa + 1, none⟩) = A2 := ⟨_, rfl⟩
          rw [hA2] at hrt ⊢
          clear hA2
          have hC := cloneI A2 t (cp - 1) (w.drewN 1) (hrt.drewN 1) (by rw [HN.out]; omega)
          rw [HN.out] at hC
          refine wpPlan_only (fun K hK => ?_)
          simp only [List.getD_cons_zero, List.getD_cons_succ]
          go_simp
          refine hC.mono ?_; rintro e w2 ⟨v', rfl, o2, c2⟩
          have c12 : Ch [] w w2 := ((Ch.refl [] w).drewN 1).trans c2
          have h2 := h.ch c12
          have hl2 := (HLk.out _).2 (h2.top.cell 0)
          refine hK _ _ (fun _ => Cls.mk hl2) ?_
          clear hK K hC
          iterate 1 (refine wpPlan_readS hl2 (fun K hK => ?_); simp only [List.getD_cons_zero, List.getD_cons_succ]; go_simp; refine hK _ ?_; clear hK K)
          have hbg : ba ≠ g := fun e => by
            have h5 := hO.2 ba rfl
            omega
          have hdx : w2.cell? ⟨ba, oa, none⟩ = some (.int .i64 x) := by
            obtain ⟨_, _, he, _, _, hr5⟩ := (hO.keep c12 (by simp)).form
            simp only [Value.slice.injEq] at he
            obtain ⟨rfl, _, rfl⟩ := he
            obtain ⟨b5, o5, he5, hc5⟩ := hr5.at (i := 0) (by simp)
            cases he5
            have := hc5 0 (by simp)
            rwa [show gI (x :: t) 0 = x from rfl, Nat.add_zero] at this
          have o2' : OwI w2 (g + 1) v' t := o2.mono (by simp; omega)
          have hT1 := h.turn HVV.out (c12.mono (by simp)) o2' (.inr (fun k hk => by have := o2.2 k hk; simpa using this))
          have q1 := h2.rows.blk.frozen I
          have q2 := h2.rows.blk.cell I
          rw [show vs.toArray[I]? = some (Value.slice (some ⟨ba, oa, none⟩) (n + 1) cp) by simpa using HVV.out] at q2
          obtain ⟨a4, cap4, rfl, _⟩ := o2'.form
          rw [HN.out] at hT1 ⊢
          have hC2 := h2.top.cell 0
          have hl3 : (w2.setCell ⟨g, I, none⟩ (.slice a4 n cap4)).cell? ⟨c, 0, none⟩ = some (.slice (some ⟨g, 0, none⟩) 16 16) := (((h2.top.setOther (p := ⟨g, I, none⟩) h.cg _).cell 0))
          have hdx3 : (w2.setCell ⟨g, I, none⟩ (.slice a4 n cap4)).cell? ⟨ba, oa, none⟩ = some (.int .i64 x) := by
            rw [← hdx]
            exact World.cell?_setCell_other (h := fun e => hbg (congrArg Addr.block e).symm) ..
          refine wpPlan_only (fun K hK => ?_)
          simp only [List.getD_cons_zero, List.getD_cons_succ]
          go_simp
          refine hK _ _ (fun _ => Cls.mk ((HLk.out _).2 hl3)) ?_
          clear hK K
          refine wpPlan_done ?_
          obtain ⟨w3, hw3⟩ : ∃ w3, w2.setCell ⟨g, I, none⟩ (.slice a4 n cap4) = w3 := ⟨_, rfl⟩
          rw [hw3] at hT1 hdx3
          try rw [hw3]
          clear hS1 hSA q1 q2 hl3 hl2 hS0 hdx hC2
          obtain ⟨L, hLL⟩ : ∃ L : World → Prop, ∀ w', L w' ↔ (w'.cell? ⟨ba, oa, none⟩ = some (.int .i64 x)) := ⟨_, fun _ => Iff.rfl⟩
          have hS0 : L (w3.drewN 1) := (hLL _).2 hdx3
          have hS1 : ∀ y : { w' : World // L w' }, y.1.cell? ⟨ba, oa, none⟩ = some (.int .i64 x) := fun y => (hLL _).1 y.2
          have hSA : Nonempty { w' : World // L w' } := ⟨⟨_, hS0⟩⟩
          clear hLL
          go_upto_region 12 with fail
          refine wp_region_plan (Cls L) (List.range 7) (.reads [0, 1, 2, 3, 4, 5, 6] .done) (by kernel_rfl) (by kernel_rfl) (fun _ _ _ _ _ h => h) ?_
          simp only [Plan.reads, Plan.only, List.foldr_cons, List.foldr_nil]
          iterate 7 (refine wpPlan_readS hS0 (fun K hK => ?_); simp only [List.getD_cons_zero, List.getD_cons_succ]; go_simp; refine hK _ ?_; clear hK K)
          refine wpPlan_done ?_
          clear hS0 hS1 hSA hdx3 d0 hcv hrt
          have hT2 : Turned w c g vs (Ls.set I t) (w3.drewN 1) := by
            obtain ⟨vs5, y1, y2, y3⟩ := hT1
            exact ⟨vs5, y1.ch ((Ch.refl [] w3).drewN 1), y2.drewN 1, y3⟩
          clear hT1 hw3
          go_wp2_with fail
          exact bodyPost_ret (results_tmp3 rfl _ _ _) rfl ⟨rfl, hT2⟩
      · obtain rfl : f = 2 := by omega
        go_wp2_with fail
        go_round
        case rel => exact ⟨k + 1, by go_num, by omega⟩
        case measure => simp [intOf]; omega
/-- What Any comes to. -/
def anyM (Ls : List (List Int)) : Option Nat := (List.range 32).find? fun m => !(gL Ls (ur m)).isEmpty
def anyK (Ls : List (List Int)) : Int := match anyM Ls with | some m => ((m / 2 : Nat) : Int) | none => 0
def anyX (Ls : List (List Int)) : Int := match anyM Ls with | some m => (gL Ls (ur m)).headD 0 | none => 0
def anyB (Ls : List (List Int)) : Bool := (anyM Ls).isSome
def anyL (Ls : List (List Int)) : List (List Int) := match anyM Ls with | some m => Ls.set (ur m) (gL Ls (ur m)).tail | none => Ls
theorem anyM_cases (Ls : List (List Int)) : (anyM Ls = none ∧ ∀ m, m < 32 → gL Ls (ur m) = []) ∨ ∃ m x t, anyM Ls = some m ∧ m < 32 ∧ gL Ls (ur m) = x :: t ∧ ∀ j, j < m → gL Ls (ur j) = [] := by
  rcases first_hit (fun m => !(gL Ls (ur m)).isEmpty) 32 with h | ⟨j, hj, h1, h2⟩
  · exact .inl ⟨List.find?_eq_none.2 (by intro k hk; rw [List.mem_range] at hk; rw [h k hk]; simp), fun m hm => by simpa using h m hm⟩
  · have e := find_range (fun m => !(gL Ls (ur m)).isEmpty) 32 j hj h1 h2
    cases hg : gL Ls (ur j) with
    | nil => rw [hg] at h1; simp at h1
    | cons x t => exact .inr ⟨j, x, t, e, hj, hg, fun i hi => by simpa using h2 i hi⟩
theorem centAny (c g : Nat) (vs : List Value) (Ls : List (List Int)) (w : World) (h : CentAt w c g vs Ls) (hl : ∀ i, (gL Ls i).length ≤ 100000) :
    Calls Try.prog 35 #[.pointer (some ⟨c, 0, none⟩)] w fun e w' => e = .returned (.tuple #[.int .i64 (anyK Ls), .int .i64 (anyX Ls), .bool (anyB Ls)]) ∧ Turned w c g vs (anyL Ls) w' := by
  unfold anyK anyX anyB anyL
  rcases anyM_cases Ls with ⟨h1, h2⟩ | ⟨m, x, t, h1, h2, h3, h4⟩
  · simp only [h1, Option.isSome_none]
    refine (centAnyNone c g vs Ls w h h2).mono ?_
    rintro e w' ⟨rfl, rfl⟩
    exact ⟨rfl, Turned.refl h⟩
  · simp only [h1, h3, List.headD_cons, List.tail_cons, Option.isSome_some]
    exact centAnyAt c g vs Ls m x t w h h2 h3 h4 (by have := hl (ur m); rw [h3] at this; simp at this; omega)
end Go.Proofs.Ytaafdhohiekakaa
