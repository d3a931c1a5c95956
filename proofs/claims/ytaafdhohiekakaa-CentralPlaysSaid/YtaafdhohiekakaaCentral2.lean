/-
  Contracts of package central: Del, Put, Take. Conditions: none beyond what each theorem names.
-/
import Derived.Test.YtaafdhohiekakaaCentral
namespace Go.Proofs.Ytaafdhohiekakaa
open Go.RowKit
set_option maxHeartbeats 1000000 in
theorem centDelNone (c g : Nat) (vs : List Value) (Ls : List (List Int)) (x : Int) (w : World) (h : CentAt w c g vs Ls) (hx : ∀ i, i < 64 → x ∉ gL Ls i) (hl : ∀ i, (gL Ls i).length ≤ 100000) :
    Calls Try.prog 26 #[.pointer (some ⟨c, 0, none⟩), .int .i64 x] w fun e w' => e = .returned (.bool false) ∧ w' = w := by
  have HX := Lib.hid hx
  have HL := Lib.hid hl
  have HV := Lib.hid h.vlen
  have c0 := h.top.cell 0
  clear hx hl
  go_enter Try.func26, Try.ntmps26
  go_wp2_with fail
  go_loop [17] (fun s17 => ∃ k : Nat, s17 = .int .i64 k ∧ k ≤ 16) (fun s17 => 16 - (intOf s17).toNat)
  case atStart => exact ⟨0, rfl, by omega⟩
  case round =>
    obtain ⟨k, rfl, hk⟩ := hrel
    by_cases hk16 : k < 16
    · have t1 : decide ((k : Int) < 16) = true := decide_eq_true (by omega)
      go_wp2_with fail
      go_loop [20] (fun s20 => ∃ u : Nat, s20 = .int .i64 u ∧ u ≤ 2) (fun s20 => 2 - (intOf s20).toNat)
      case atStart => exact ⟨0, rfl, by omega⟩
      case round =>
        obtain ⟨u, rfl, hu⟩ := hrel
        by_cases hu2 : u < 2
        · have t2 : decide ((u : Int) < 2) = true := decide_eq_true (by omega)
          go_wp2_with fail
          go_loop [23] (fun s23 => ∃ f : Nat, s23 = .int .i64 f ∧ f ≤ 2) (fun s23 => 2 - (intOf s23).toNat)
          case atStart => exact ⟨0, rfl, by omega⟩
          case round =>
            obtain ⟨f, rfl, hf⟩ := hrel
            by_cases hf2 : f < 2
            · have t3 : decide ((f : Int) < 2) = true := decide_eq_true (by omega)
              obtain ⟨v, hv, hO, hcv⟩ := h.rows.at (k * 4 + u * 2 + f) (by rw [HV.out]; omega)
              obtain ⟨a, cp, rfl, z1, z2, hrd⟩ := hO.form
              obtain ⟨i, hi⟩ : ∃ i, k * 4 + u * 2 + f = i := ⟨_, rfl⟩
              rw [hi] at hv hO hcv z1 hrd
              have hix := ixNone a (gL Ls i) x (gL Ls i).length cp w hrd (HX.out i (by omega)) rfl (by have := HL.out i; omega)
              have hLi := HL.out i
              obtain ⟨n, hn⟩ : ∃ n, (gL Ls i).length = n := ⟨_, rfl⟩
              rw [hn] at hix hcv hLi
              clear hn hrd hO hv z1
              go_wp2_with fail
              refine hix.mono ?_; rintro e w1 ⟨rfl, rfl⟩
              clear hix hcv hi
              go_wp2_with fail
              go_round
              case rel => exact ⟨f + 1, by go_num, by omega⟩
              case measure => simp [intOf]; omega
            · obtain rfl : f = 2 := by omega
              go_wp2_with fail
              go_round
              case rel => exact ⟨u + 1, by go_num, by omega⟩
              case measure => simp [intOf]; omega
        · obtain rfl : u = 2 := by omega
          go_wp2_with fail
          go_round
          case rel => exact ⟨k + 1, by go_num, by omega⟩
          case measure => simp [intOf]; omega
    · obtain rfl : k = 16 := by omega
      go_wp2
      go_ret
      exact ⟨rfl, rfl⟩
set_option maxHeartbeats 4000000 in
theorem centDelAt (c g : Nat) (vs : List Value) (Ls : List (List Int)) (x : Int) (i0 : Nat) (p q : List Int) (w : World) (h : CentAt w c g vs Ls) (hi0 : i0 < 64) (hL : gL Ls i0 = p ++ x :: q) (hp : x ∉ p) (hx : ∀ i, i < i0 → x ∉ gL Ls i) (hl : ∀ i, (gL Ls i).length ≤ 50000) :
    Calls Try.prog 26 #[.pointer (some ⟨c, 0, none⟩), .int .i64 x] w fun e w' => e = .returned (.bool true) ∧
      ∃ vs', CentAt w' c g vs' (Ls.set i0 (p ++ q)) ∧ Ch (g :: blocksOf vs) w w' ∧ (∀ k ∈ blocksOf vs', k ∈ blocksOf vs ∨ w.heap.size ≤ k) := by
  have HX := Lib.hid hx
  have HL := Lib.hid hl
  have HV := Lib.hid h.vlen
  have HLL := Lib.hid hL
  have HPP := Lib.hid hp
  have c0 := h.top.cell 0
  clear hx hl hL hp
  go_enter Try.func26, Try.ntmps26
  go_wp2_with fail
  go_loop [17] (fun s17 => ∃ k : Nat, s17 = .int .i64 k ∧ k * 4 ≤ i0) (fun s17 => 16 - (intOf s17).toNat)
  case atStart => exact ⟨0, rfl, by omega⟩
  case round =>
    obtain ⟨k, rfl, hk⟩ := hrel
    have hk16 : k < 16 := by omega
    have t1 : decide ((k : Int) < 16) = true := decide_eq_true (by omega)
    go_wp2_with fail
    go_loop [20] (fun s20 => ∃ u : Nat, s20 = .int .i64 u ∧ u ≤ 2 ∧ k * 4 + u * 2 ≤ i0) (fun s20 => 2 - (intOf s20).toNat)
    case atStart => exact ⟨0, rfl, by omega, by omega⟩
    case round =>
      obtain ⟨u, rfl, hu, hu0⟩ := hrel
      by_cases hu2 : u < 2
      · have t2 : decide ((u : Int) < 2) = true := decide_eq_true (by omega)
        go_wp2_with fail
        go_loop [23] (fun s23 => ∃ f : Nat, s23 = .int .i64 f ∧ f ≤ 2 ∧ k * 4 + u * 2 + f ≤ i0) (fun s23 => 2 - (intOf s23).toNat)
        case atStart => exact ⟨0, rfl, by omega, by omega⟩
        case round =>
          obtain ⟨f, rfl, hf, hf0⟩ := hrel
          by_cases hf2 : f < 2
          · have t3 : decide ((f : Int) < 2) = true := decide_eq_true (by omega)
            by_cases hne : k * 4 + u * 2 + f < i0
            · obtain ⟨v, hv, hO, hcv⟩ := h.rows.at (k * 4 + u * 2 + f) (by rw [HV.out]; omega)
              obtain ⟨a, cp, rfl, z1, z2, hrd⟩ := hO.form
              obtain ⟨i, hi⟩ : ∃ i, k * 4 + u * 2 + f = i := ⟨_, rfl⟩
              rw [hi] at hv hO hcv z1 hrd hne hf0
              have hix := ixNone a (gL Ls i) x (gL Ls i).length cp w hrd (HX.out i (by omega)) rfl (by have := HL.out i; omega)
              have hLi := HL.out i
              obtain ⟨n, hn⟩ : ∃ n, (gL Ls i).length = n := ⟨_, rfl⟩
              rw [hn] at hix hcv hLi
              have HI := Lib.hid hi
              clear hn hrd hO hv z1
              go_wp2_with fail
              refine hix.mono ?_; rintro e w1 ⟨rfl, rfl⟩
              clear hix hcv hi
              go_wp2_with fail
              go_round
              case rel => exact ⟨f + 1, by go_num, by omega, by have := HI.out; omega⟩
              case measure => simp [intOf]; omega
            · have hi : k * 4 + u * 2 + f = i0 := by omega
              obtain ⟨v, hv, hO, hcv⟩ := h.rows.at i0 (by rw [HV.out]; omega)
              have hli := HL.out i0
              rw [HLL.out] at hO hli
              obtain ⟨a, cp, rfl, hc1, hc2, hrd⟩ := hO.form
              obtain ⟨ba, oa, rfl, _⟩ := hrd.at (i := 0) (by rw [List.length_append, List.length_cons]; omega)
              obtain ⟨n, hn⟩ : ∃ n, (p ++ x :: q).length = n := ⟨_, rfl⟩
              obtain ⟨j, hj⟩ : ∃ j, p.length = j := ⟨_, rfl⟩
              obtain ⟨m, hm⟩ : ∃ m, q.length = m := ⟨_, rfl⟩
              have hnkm : n = j + 1 + m := by rw [← hn]; simp; omega
              have hix := ixFound (some ⟨ba, oa, none⟩) p q x n cp w hrd HPP.out hn.symm (by omega)
              have r1 : Rd w (some ⟨ba, oa, none⟩) p := hrd.pre
              have r2 : Rd w (if cp = j + 1 then some ⟨ba, oa, none⟩ else some ⟨ba, oa + (j + 1), none⟩) q := by rw [← hj]; exact hrd.postIf x hc1
              rw [hn] at hc1 hcv hv hO hli
              rw [hj] at hix
              have hgl := h.rows.lt
              have k0 : (0 : Int) ≤ j := by omega
              have k1 : (j : Int) ≤ cp := by omega
              have k2 : ((j : Int) + 1) ≤ n := by omega
              have k3 : (n : Int) ≤ cp := by omega
              have k4 : IntKind.i64.wrap ((j : Int) + 1) = (j : Int) + 1 := IntWalk.i64_in _ (by omega)
              have k5 : (0 : Int) ≤ (j : Int) + 1 := by omega
              have k6 : ((j : Int) + 1).toNat = j + 1 := by omega
              have k7 : (k : Int) < 16 := by omega
              have k8 : (u : Int) < 2 := by omega
              have k9 : (f : Int) < 2 := by omega
              have k10 : (0 : Int) ≤ k := by omega
              have k11 : (0 : Int) ≤ u := by omega
              have k12 : (0 : Int) ≤ f := by omega
              have hnk : n - (j + 1) = m := by omega
              have hkm : j + m ≤ 50000 := by omega
              have HVV := Lib.hid hv
              have HN := Lib.hid hn
              have HK := Lib.hid hj
              have HM := Lib.hid hm
              have HNK := Lib.hid hnk
              clear hv hrd hn hj hm hnkm hnk
              go_wp2_with fail
              refine hix.mono ?_; rintro e w1 ⟨rfl, rfl⟩
              clear hix
              go_upto_region 15 with fail
              obtain ⟨L, hLL⟩ : ∃ L : World → Prop, ∀ w', L w' ↔ (w'.cell? ⟨c, 0, none⟩ = some (.slice (some ⟨g, 0, none⟩) 16 16)) := ⟨_, fun _ => Iff.rfl⟩
              have hS0 : L (w1.drewN 1) := (hLL _).2 c0
              have hS1 : ∀ y : { w' : World // L w' }, y.1.cell? ⟨c, 0, none⟩ = some (.slice (some ⟨g, 0, none⟩) 16 16) := fun y => (hLL _).1 y.2
              have hSA : Nonempty { w' : World // L w' } := ⟨⟨_, hS0⟩⟩
              have HLk := Lib.hid hLL
              clear hLL
              refine wp_region_plan (Cls L) (List.range 20) (.reads [0, 1, 2, 3, 4, 5, 6, 7, 8, 9, 10, 11, 12, 13, 16, 17] (.only 14 (.only 15 (.reads [18] (.only 19 .done))))) (by kernel_rfl) (by kernel_rfl) (fun _ _ _ _ _ h => h) ?_
              simp only [Plan.reads, Plan.pures, Plan.only, List.foldr_cons, List.foldr_nil]
              iterate 16 (refine wpPlan_readS hS0 (fun K hK => ?_); simp only [List.getD_cons_zero, List.getD_cons_succ]; go_simp; refine hK _ ?_; clear hK K)
              clear hS1 hSA k0 k1 k2 k3 k4 k5 k6
              obtain ⟨A2, hA2⟩ : ∃ A2 : Option Addr, (if cp = j + 1 then (some ⟨ba, oa, none⟩ : Option Addr) else some ⟨ba, oa + (j + 1), none⟩) = A2 := ⟨_, rfl⟩
              rw [hA2] at r2 ⊢
              rw [HNK.out]
              clear hA2
              refine wpPlan_only (fun K hK => ?_)
              simp only [List.getD_cons_zero, List.getD_cons_succ]
              go_simp
              obtain ⟨W, hW⟩ : ∃ W, (w1.drewN 1).alloc (.cells #[.slice (some ⟨ba, oa, none⟩) j cp, .slice A2 m (cp - (j + 1))] 22) = W := ⟨_, rfl⟩
              have cW : Ch [] w1 W := by rw [← hW]; exact ((Ch.refl [] w1).drewN 1).alloc _
              have bW : Blk W w1.heap.size #[.slice (some ⟨ba, oa, none⟩) j cp, .slice A2 m (cp - (j + 1))] 22 := by rw [← hW]; exact Blk.new (w1.drewN 1) _ _
              rw [hW]
              clear hW
              refine hK _ _ (fun _ => Cls.mk ((HLk.out _).2 ((h.top.keep cW (by simp)).cell 0))) ?_
              clear hK K
              have r1W := r1.keep cW (by simp)
              have r2W := r2.keep cW (by simp)
              refine wpPlan_only (fun K hK => ?_)
              simp only [List.getD_cons_zero, List.getD_cons_succ]
              go_simp
              have hC := concatTwo w1.heap.size (some ⟨ba, oa, none⟩) A2 p q cp (cp - (j + 1)) W (by rw [HK.out, HM.out]; exact bW) r1W r2W (by rw [HK.out, HM.out]; omega)
              refine hC.mono ?_; rintro e w2 ⟨v', rfl, o2, c2⟩
              have c12 : Ch [] w1 w2 := cW.trans c2
              have h2 := h.ch c12
              refine hK _ _ (fun _ => Cls.mk ((HLk.out _).2 (h2.top.cell 0))) ?_
              clear hK K hC
              have hl2 : L w2 := (HLk.out _).2 (h2.top.cell 0)
              have hSA : Nonempty { w' : World // L w' } := ⟨⟨_, hl2⟩⟩
              refine wpPlan_readS hl2 (fun K hK => ?_); simp only [List.getD_cons_zero, List.getD_cons_succ]; go_simp; refine hK _ ?_; clear hK K
              clear hSA hl2
              have hsW := cW.size
              have o2' : OwI w2 (g + 1) v' (p ++ q) := o2.mono (by omega)
              obtain ⟨R1, R2, R3⟩ := h.rows.set HVV.out (c12.mono (by simp)) o2' (.inr (fun k hk => by have := o2.2 k hk; omega))
              have q1 := h2.rows.blk.frozen i0
              have q2 := h2.rows.blk.cell i0
              rw [show vs.toArray[i0]? = some (Value.slice (some ⟨ba, oa, none⟩) n cp) by simpa using HVV.out] at q2
              obtain ⟨a4, cap4, rfl, _⟩ := o2'.form
              generalize hm : (p ++ q).length = z at *
              have HZ := Lib.hid hm
              clear hm
              have hcS : c ∉ g :: blocksOf vs := by simp; exact ⟨h.cg, h.cb⟩
              have hfin : CentAt _ c g _ _ := ⟨h.top.keep R2 hcS, R1, by rw [List.length_set]; exact h.len⟩
              have hl3 := hfin.top.cell 0
              have hC0 := h2.top.cell 0
              have HFIN := Lib.hid hfin
              have HR2 := Lib.hid R2
              clear hfin R1 R2
              refine wpPlan_only (fun K hK => ?_)
              simp only [List.getD_cons_zero, List.getD_cons_succ]
              go_simp
              refine hK _ _ (fun _ => Cls.mk ((HLk.out _).2 hl3)) ?_
              refine wpPlan_done ?_
              go_wp2
              go_ret
              exact ⟨rfl, _, HFIN.out, HR2.out, R3⟩
          · obtain rfl : f = 2 := by omega
            go_wp2_with fail
            go_round
            case rel => exact ⟨u + 1, by go_num, by omega, by omega⟩
            case measure => simp [intOf]; omega
      · obtain rfl : u = 2 := by omega
        go_wp2_with fail
        go_round
        case rel => exact ⟨k + 1, by go_num, by omega⟩
        case measure => simp [intOf]; omega
end Go.Proofs.Ytaafdhohiekakaa
