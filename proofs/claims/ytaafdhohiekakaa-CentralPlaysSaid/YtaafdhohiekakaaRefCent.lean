/-
  Contracts of the document's answer for layer 8 (spans in common): Del, Take, TakeFull, Any, Unswept on lists. Conditions: none beyond what each theorem names.
-/
import Derived.Test.YtaafdhohiekakaaCentSt
import Derived.Test.YtaafdhohiekakaaHas
import Derived.Test.YtaafdhohiekakaaOut
namespace Go.Proofs.Ytaafdhohiekakaa
open Go.RowKit
/-- The document's central lies in block r: list 4 k + 2 u + f is the row of class k, unswept (u), full (f). -/
def RC (w : World) (r : Nat) (us : List Value) (Ls : List (List Int)) (S : List Nat) : Prop := RRows w r 57 us Ls S ∧ Ls.length = 64 ∧ r ∈ S
/-- It is in block r, whatever its slices. -/
def RCx (w : World) (r : Nat) (Ls : List (List Int)) (S : List Nat) : Prop := ∃ us, RC w r us Ls S
section
variable {w w2 : World} {r : Nat} {us : List Value} {Ls : List (List Int)} {S : List Nat}
theorem RC.still (h : RC w r us Ls S) (hc : Ch [] w w2) : RC w2 r us Ls S := ⟨h.1.still hc, h.2⟩
theorem refCDelNone (x : Int) (h : RC w r us Ls S) (hn : ∀ i, i < 64 → x ∉ gL Ls i) (hl : ∀ i, (gL Ls i).length ≤ 100000) :
    Calls Try.prog 37 #[.pointer (some ⟨r, 0, none⟩), .int .i64 x] w fun e w' => e = .returned (.bool false) ∧ w' = w := by
  have HX := Lib.hid hn
  have HL := Lib.hid hl
  clear hn hl
  go_enter Try.func37, Try.ntmps37
  go_wp2_with fail
  go_loop [5] (fun s5 => ∃ k : Nat, s5 = .int .i64 k ∧ k ≤ 16) (fun s5 => 16 - (intOf s5).toNat)
  case atStart => exact ⟨0, rfl, by omega⟩
  case round =>
    obtain ⟨k, rfl, hk⟩ := hrel
    by_cases hk16 : k < 16
    · have t1 : decide ((k : Int) < 16) = true := decide_eq_true (by omega)
      go_wp2_with fail
      go_loop [6] (fun s6 => ∃ u : Nat, s6 = .int .i64 u ∧ u ≤ 4) (fun s6 => 4 - (intOf s6).toNat)
      case atStart => exact ⟨0, rfl, by omega⟩
      case round =>
        obtain ⟨u, rfl, hu⟩ := hrel
        by_cases hu4 : u < 4
        · have t2 : decide ((u : Int) < 4) = true := decide_eq_true (by omega)
          obtain ⟨a, c, _, hcell, hL⟩ := h.1.at (i := k * 4 + u) (by rw [h.2.1]; omega)
          have hcon := outNone a (gL Ls (k * 4 + u)) x (gL Ls (k * 4 + u)).length c w hL.rd (HX.out _ (by omega)) rfl (by have := HL.out (k * 4 + u); omega)
          obtain ⟨n, hn⟩ : ∃ n, (gL Ls (k * 4 + u)).length = n := ⟨_, rfl⟩
          rw [hn] at hcon hcell
          clear hn hL
          go_wp2_with fail
          refine hcon.mono ?_; rintro e w1 ⟨rfl, rfl⟩
          clear hcon hcell
          go_wp2_with fail
          go_round
          case rel => exact ⟨u + 1, by go_num, by omega⟩
          case measure => simp [intOf]; omega
        · obtain rfl : u = 4 := by omega
          go_wp2_with fail
          go_round
          case rel => exact ⟨k + 1, by go_num, by omega⟩
          case measure => simp [intOf]; omega
    · obtain rfl : k = 16 := by omega
      go_wp2
      go_ret
      exact ⟨rfl, rfl⟩
set_option maxHeartbeats 1000000 in
theorem refCDelAt (x : Int) (i0 : Nat) (p q : List Int) (h : RC w r us Ls S) (hS : ∀ k ∈ S, k < w.heap.size) (hi0 : i0 < 64) (hL : gL Ls i0 = p ++ x :: q) (hp : x ∉ p) (hx : ∀ i, i < i0 → x ∉ gL Ls i) (hl : ∀ i, (gL Ls i).length ≤ 100000) :
    Calls Try.prog 37 #[.pointer (some ⟨r, 0, none⟩), .int .i64 x] w fun e w' => e = .returned (.bool true) ∧ RCx w' r (Ls.set i0 (p ++ q)) S ∧ Ch [r] w w' := by
  have HX := Lib.hid hx
  have HL := Lib.hid hl
  have HLL := Lib.hid hL
  have HPP := Lib.hid hp
  clear hx hl hL hp
  go_enter Try.func37, Try.ntmps37
  go_wp2_with fail
  go_loop [5] (fun s5 => ∃ k : Nat, s5 = .int .i64 k ∧ k * 4 ≤ i0) (fun s5 => 16 - (intOf s5).toNat)
  case atStart => exact ⟨0, rfl, by omega⟩
  case round =>
    obtain ⟨k, rfl, hk⟩ := hrel
    have t1 : decide ((k : Int) < 16) = true := decide_eq_true (by omega)
    go_wp2_with fail
    go_loop [6] (fun s6 => ∃ u : Nat, s6 = .int .i64 u ∧ u ≤ 4 ∧ k * 4 + u ≤ i0) (fun s6 => 4 - (intOf s6).toNat)
    case atStart => exact ⟨0, rfl, by omega, by omega⟩
    case round =>
      obtain ⟨u, rfl, hu, hku⟩ := hrel
      by_cases hu4 : u < 4
      · have t2 : decide ((u : Int) < 4) = true := decide_eq_true (by omega)
        obtain ⟨a, c, hus, hcell, hrd⟩ := h.1.at (i := k * 4 + u) (by rw [h.2.1]; omega)
        by_cases hlt : k * 4 + u < i0
        · have hcon := outNone a (gL Ls (k * 4 + u)) x (gL Ls (k * 4 + u)).length c w hrd.rd (HX.out _ hlt) rfl (by have := HL.out (k * 4 + u); omega)
          obtain ⟨n, hn⟩ : ∃ n, (gL Ls (k * 4 + u)).length = n := ⟨_, rfl⟩
          rw [hn] at hcon hcell
          clear hn hrd hus
          go_wp2_with fail
          refine hcon.mono ?_; rintro e w1 ⟨rfl, rfl⟩
          clear hcon hcell
          go_wp2_with fail
          go_round
          case rel => exact ⟨u + 1, by go_num, by omega, by omega⟩
          case measure => simp [intOf]; omega
        · have hki : k * 4 + u = i0 := by omega
          have hLr := hrd.rd
          have hL2 := hrd.2.1
          have hLk := HL.out i0
          rw [hki] at hLr hcell hL2 hus
          rw [HLL.out] at hLr hcell hL2 hLk hus
          have hcon := outFound a p q x (p ++ x :: q).length c w hLr HPP.out rfl hL2 (by omega)
          obtain ⟨n, hn⟩ : ∃ n, (p ++ x :: q).length = n := ⟨_, rfl⟩
          rw [hn] at hcon hcell hus
          rw [← hki] at hcell
          have f0 := h.1.2.1.frozen (k * 4 + u)
          have HKI := Lib.hid hki
          clear hn hrd hLr hL2 hki
          go_wp2_with fail
          refine hcon.mono ?_; rintro e w1 ⟨v1, rfl, o1, c1⟩
          clear hcon
          have h1 := h.1.still c1
          obtain ⟨a1, d1, e1, l1⟩ := o1.lsF (S := S) hS
          obtain ⟨m, hm⟩ : ∃ m, (p ++ q).length = m := ⟨_, rfl⟩
          rw [hm] at e1
          subst e1
          have HM := Lib.hid hm
          have f1 := h1.2.1.frozen (k * 4 + u)
          have p1 := h1.2.1.cell (k * 4 + u)
          rw [show us.toArray[k * 4 + u]? = some (Value.slice a n c) by rw [HKI.out]; simpa using hus] at p1
          obtain ⟨R1, R2⟩ := h1.set h.2.2 (i := k * 4 + u) (by rw [h.2.1]; omega) l1 HM.out
          clear hm f0 hcell
          go_wp2
          go_ret
          exact ⟨rfl, ⟨us.set (k * 4 + u) (.slice a1 m d1), by rw [← HKI.out]; exact R1, by rw [List.length_set]; exact h.2.1, h.2.2⟩, (c1.mono (by simp)).trans R2⟩
      · obtain rfl : u = 4 := by omega
        go_wp2_with fail
        go_round
        case rel => exact ⟨k + 1, by go_num, by omega⟩
        case measure => simp [intOf]; omega
theorem LsF.front {a : Option Addr} {c : Nat} {p : List Int} {x : Int} (h : LsF w S a c (p ++ [x])) : LsF w S a c p := by
  obtain ⟨h1, h2, h3, h4⟩ := h
  refine ⟨h1.pre, by simp at h2; omega, h3, ?_⟩
  rcases h4 with h4 | h4
  · simp at h4
  · exact .inr h4
theorem refCLastNo (r : Nat) (k j : Int) (w : World) (ha : k < 0 ∨ 15 < k) : Calls Try.prog 49 #[.pointer (some ⟨r, 0, none⟩), .int .i64 k, .int .i64 j] w fun e w' => e = .returned (.tuple #[.int .i64 0, .bool false]) ∧ w' = w := by
  by_cases h : k < 0
  · clear ha
    go_enter Try.func49, Try.ntmps49
    go_wp2
    go_ret2
    exact ⟨rfl, rfl⟩
  · have h1 : 15 < k := by omega
    clear ha
    go_enter Try.func49, Try.ntmps49
    go_wp2
    go_ret2
    exact ⟨rfl, rfl⟩
theorem refCLastEmpty (k j : Nat) (h : RC w r us Ls S) (hk : k < 16) (hj : j < 4) (he : gL Ls (k * 4 + j) = []) : Calls Try.prog 49 #[.pointer (some ⟨r, 0, none⟩), .int .i64 k, .int .i64 j] w fun e w' => e = .returned (.tuple #[.int .i64 0, .bool false]) ∧ w' = w := by
  have k0 : ¬ (k : Int) < 0 := by omega
  have k1 : ¬ (15 : Int) < k := by omega
  have k2 : (0 : Int) ≤ k := by omega
  have k3 : (k : Int) < 16 := by omega
  have j2 : (0 : Int) ≤ j := by omega
  have j3 : (j : Int) < 4 := by omega
  obtain ⟨a, c, _, hcell, hL⟩ := h.1.at (i := k * 4 + j) (by rw [h.2.1]; omega)
  rw [he] at hcell
  clear hL he h
  go_enter Try.func49, Try.ntmps49
  go_wp2
  go_ret2
  exact ⟨rfl, rfl⟩
set_option maxHeartbeats 1000000 in
theorem refCLastSome (k j : Nat) (p : List Int) (x : Int) (h : RC w r us Ls S) (hk : k < 16) (hj : j < 4) (he : gL Ls (k * 4 + j) = p ++ [x]) (hl : p.length ≤ 100000) :
    Calls Try.prog 49 #[.pointer (some ⟨r, 0, none⟩), .int .i64 k, .int .i64 j] w fun e w' => e = .returned (.tuple #[.int .i64 x, .bool true]) ∧ RCx w' r (Ls.set (k * 4 + j) p) S ∧ Ch [r] w w' := by
  have k0 : ¬ (k : Int) < 0 := by omega
  have k1 : ¬ (15 : Int) < k := by omega
  have k2 : (0 : Int) ≤ k := by omega
  have k3 : (k : Int) < 16 := by omega
  have j2 : (0 : Int) ≤ j := by omega
  have j3 : (j : Int) < 4 := by omega
  obtain ⟨a, c, hus, hcell, hL⟩ := h.1.at (i := k * 4 + j) (by rw [h.2.1]; omega)
  rw [he] at hus hcell hL
  obtain ⟨n, hn⟩ : ∃ n, p.length = n := ⟨_, rfl⟩
  rw [List.length_append, hn, List.length_singleton] at hcell hus
  obtain ⟨ba, oa, rfl, hc0⟩ := hL.at (i := n) (by simp [hn])
  have e0 := hc0 n (by simp [hn])
  have hx : gI (p ++ [x]) n = x := by rw [← hn]; exact gI_app p [] x
  rw [hx] at e0
  have hnc : (n : Int) ≤ c := by have h9 := hL.2.1; simp [hn] at h9; omega
  rw [hn] at hl
  have wn : IntKind.i64.wrap (n : Int) = (n : Int) := IntWalk.i64_in _ (by omega)
  have n2 : ((n : Int) + 1 == 0) = false := by rw [beq_eq_false_iff_ne]; omega
  have HN := Lib.hid hn
  have f0 := h.1.2.1.frozen (k * 4 + j)
  have ht := hL.front
  clear hc0 hx hn
  go_enter Try.func49, Try.ntmps49
  go_upto_region 4 with fail
  refine wp_region_tail 12 (by kernel_rfl) (by kernel_rfl) ?_
  simp only [List.take_succ_cons, List.take_zero, List.drop_succ_cons, List.drop_zero]
  repeat still_step
  refine wpStill_nil ?_
  have h1 : RC (w.drewN 1) r us Ls S := h.still ((Ch.refl [] w).drewN 1)
  have f1 := h1.1.2.1.frozen (k * 4 + j)
  obtain ⟨R1, R2⟩ := h1.1.set h1.2.2 (i := k * 4 + j) (by rw [h.2.1]; omega) (ht.keep ((Ch.refl [] w).drewN 1) (by simp)) HN.out
  have hnr : ba ≠ r := by
    obtain ⟨y, hy, _, hb⟩ := hL.2.2.2.resolve_left (by simp)
    cases hy
    intro e
    subst e
    exact hb h.2.2
  clear f0
  go_wp2
  go_ret2
  exact ⟨rfl, ⟨us.set (k * 4 + j) (.slice (some ⟨ba, oa, none⟩) n c), R1, by rw [List.length_set]; exact h.2.1, h.2.2⟩, (((Ch.refl [] w).drewN 1).mono (by simp)).trans R2⟩
end
end Go.Proofs.Ytaafdhohiekakaa
