/-
  A set beside its rising list: what Put, Out, Has and next of lists come to. Conditions: none beyond what each theorem names.
-/
import Derived.Test.YtheniiinioggiaaDoorBitsCopies
import Derived.Test.YtheniiinioggiaaDoorLsF
import Derived.Test.YtheniiinioggiaaDoorPutRef
import Derived.Test.YtheniiinioggiaaDoorHas
import Derived.Test.YtheniiinioggiaaDoorOut
namespace Go.Proofs.YtheniiinioggiaaDoor
open Go.RowKit
theorem mem_els (S : Nat → Bool) (n : Nat) (x : Int) : x ∈ els S n ↔ hasI S n x = true := by
  simp only [els, mem, List.mem_map, List.mem_filter, List.mem_range, hasI, Bool.and_eq_true, decide_eq_true_eq]
  constructor
  · rintro ⟨k, ⟨h1, h2⟩, rfl⟩
    exact ⟨by omega, by omega, by simpa using h2⟩
  · rintro ⟨h1, h2, h3⟩
    exact ⟨x.toNat, ⟨by omega, h3⟩, by omega⟩
theorem SS_els (S : Nat → Bool) (n : Nat) : SS (els S n) := by
  unfold SS els mem
  rw [List.pairwise_map]
  have h : (List.range n).Pairwise (fun (a b : Nat) => (a : Int) < (b : Int)) := List.Pairwise.imp (fun {a b} (h : a < b) => by omega) List.pairwise_lt_range
  exact h.filter S
theorem els_congr {S T : Nat → Bool} {n : Nat} (h : ∀ k, k < n → S k = T k) : els S n = els T n := by unfold els; rw [mem_congr n h]
theorem hasI_put (S : Nat → Bool) (n : Nat) (i x : Int) (v : Bool) (hi : 0 ≤ i ∧ i < n) : hasI (putS S n i v) n x = if x = i then v else hasI S n x := by
  unfold putS
  rw [if_pos hi]
  by_cases hx : 0 ≤ x ∧ x < n
  · unfold hasI
    rw [decide_eq_true hx.1, decide_eq_true hx.2]
    simp only [Bool.true_and, upd]
    by_cases h : x = i
    · rw [if_pos h, if_pos (by omega)]
    · rw [if_neg h, if_neg (by omega)]
  · rw [hasI_out (by omega), hasI_out (by omega)]
    rw [if_neg (by omega)]
theorem els_put (S : Nat → Bool) (n : Nat) (i : Int) (hi : 0 ≤ i ∧ i < n) : ins (els S n) i = els (putS S n i true) n := by
  refine eq_of_SS _ _ (SS_ins _ _ (SS_els _ _)) (SS_els _ _) (fun x => ?_)
  rw [mem_ins, mem_els, mem_els, hasI_put _ _ _ _ _ hi]
  by_cases h : x = i
  · simp [h]
  · simp [h]
theorem els_out (S : Nat → Bool) (n : Nat) (i : Int) (p q : List Int) (h : els S n = p ++ i :: q) : p ++ q = els (putS S n i false) n := by
  have hs := SS_els S n
  have hi : 0 ≤ i ∧ i < n := by
    have := (mem_els S n i).1 (by rw [h]; simp)
    simp only [hasI, Bool.and_eq_true, decide_eq_true_eq] at this
    exact ⟨this.1, this.2.1⟩
  have hnd := SS_nodup hs
  rw [h] at hs hnd
  have hpi : ∀ y ∈ p ++ q, y ≠ i := by
    intro y hy e
    subst e
    rw [List.nodup_append] at hnd
    rcases List.mem_append.1 hy with h1 | h1
    · exact hnd.2.2 y h1 y (by simp) rfl
    · have := hnd.2.1
      rw [List.nodup_cons] at this
      exact this.1 h1
  refine eq_of_SS _ _ ?_ (SS_els _ _) (fun x => ?_)
  · exact List.Pairwise.sublist (List.Sublist.append_left (List.sublist_cons_self _ _) _) hs
  · rw [mem_els, hasI_put _ _ _ _ _ hi]
    by_cases hx : x = i
    · rw [if_pos hx]
      constructor
      · intro hm; exact absurd hx (hpi x hm)
      · intro hm; cases hm
    · rw [if_neg hx, ← mem_els, h]
      simp only [List.mem_append, List.mem_cons]
      constructor
      · rintro (h1 | h1)
        · exact .inl h1
        · exact .inr (.inr h1)
      · rintro (h1 | h1 | h1)
        · exact .inl h1
        · exact absurd h1 hx
        · exact .inr h1
theorem els_has (S : Nat → Bool) (n : Nat) (x : Int) : (els S n).contains x = hasI S n x := by
  rw [Bool.eq_iff_iff, List.contains_iff_mem, mem_els]
theorem putS_false_no (S : Nat → Bool) (n : Nat) (i : Int) (h : hasI S n i = false) : ∀ k, k < n → putS S n i false k = S k := by
  intro k hk
  unfold putS
  split
  · rename_i hi
    unfold upd
    split
    · rename_i e
      obtain ⟨j, rfl⟩ : ∃ j : Nat, i = j := ⟨i.toNat, by omega⟩
      rw [Int.toNat_natCast] at e
      subst e
      rw [hasI_in (by omega)] at h
      exact h.symm
    · rfl
  · rfl
/-- The list's own Next. -/
theorem nextRef (a : Option Addr) (c n k : Nat) (S : Nat → Bool) (i : Int) (v : Bool) (w : World) (h : Rd w a (els S n)) (hn : n ≤ 100000) (hk : cnt S n = k) :
    Calls Tryd.prog 25 #[.slice a k c, .int .i64 n, .int .i64 i, .bool v] w fun e w' => e = .returned (.int .i64 (nxt S n i.toNat v)) ∧ w' = w := by
  obtain ⟨i0, hi0⟩ : ∃ i0, i.toNat = i0 := ⟨_, rfl⟩
  rw [hi0]
  have hkn : k ≤ n := by rw [← hk]; exact cnt_le S n
  have hH : ∀ j : Nat, j < n → Calls Tryd.prog 22 #[.slice a k c, .int .i64 j] w fun e w' => e = .returned (.bool (S j)) ∧ w' = w := fun j hj => by
    have := hasAny a (els S n) j k c w h (by rw [els_len, hk]) (by omega)
    rw [els_has, hasI_in hj] at this
    exact this
  have HH := Lib.hid hH
  clear hH h hk
  by_cases h0 : i < 0
  · obtain rfl : i0 = 0 := by omega
    clear hi0
    go_enter Tryd.func25, Tryd.ntmps25
    go_wp2_with fail
    go_loop [9] (fun s9 => ∃ j : Nat, s9 = .int .i64 j ∧ 0 ≤ j ∧ j ≤ n + 0 ∧ Hid (∀ t, 0 ≤ t → t < j → t < n → S t ≠ v)) (fun s9 => n + 0 + 1 - (intOf s9).toNat)
    case atStart => exact ⟨0, rfl, by omega, by omega, Lib.hid (fun t h1 h2 h3 => by omega)⟩
    case round =>
      obtain ⟨j, rfl, hj1, hj2, HJ⟩ := hrel
      by_cases hlt : j < n
      · have t1 : decide ((j : Int) < n) = true := decide_eq_true (by omega)
        have hx := HH.out j hlt
        by_cases hS : S j = v
        · have hres : nxt S n 0 v = (j : Int) := nxt_at hlt hj1 hS (fun t h1 h2 => HJ.out t h1 h2 (by omega))
          have HR := Lib.hid hres
          rw [hS] at hx
          have vv : (v == v) = true := by cases v <;> rfl
          clear hres hS
          go_wp2_with fail
          refine hx.mono ?_; rintro e w' ⟨rfl, rfl⟩
          clear hx
          go_wp2_with fail
          go_ret
          exact ⟨by rw [HR.out]; rfl, rfl⟩
        · obtain ⟨u, hu⟩ : ∃ u, S j = u := ⟨_, rfl⟩
          rw [hu] at hx
          have uv : (u == v) = false := by rw [beq_eq_false_iff_ne, ← hu]; exact hS
          have HS : Hid (S j ≠ v) := Lib.hid hS
          clear hu hS
          go_wp2_with fail
          refine hx.mono ?_; rintro e w' ⟨rfl, rfl⟩
          clear hx
          go_wp2_with fail
          go_round
          case rel => exact ⟨j + 1, by go_num, by omega, by omega, Lib.hid (fun t h1 h2 h3 => by
            by_cases htj : t = j
            · subst htj; exact HS.out
            · exact HJ.out t h1 (by omega) h3)⟩
          case measure => simp [intOf]; omega
      · have t1 : decide ((j : Int) < n) = false := decide_eq_false (by omega)
        go_wp2
        go_ret
        exact ⟨by rw [nxt_none (fun t h1 h2 => HJ.out t h1 (by omega) h2)]; rfl, rfl⟩
  · obtain ⟨i', rfl⟩ : ∃ i' : Nat, i = i' := ⟨i.toNat, by omega⟩
    obtain rfl : i0 = i' := by omega
    clear hi0
    go_enter Tryd.func25, Tryd.ntmps25
    go_wp2_with fail
    go_loop [9] (fun s9 => ∃ j : Nat, s9 = .int .i64 j ∧ i0 ≤ j ∧ j ≤ n + i0 ∧ Hid (∀ t, i0 ≤ t → t < j → t < n → S t ≠ v)) (fun s9 => n + i0 + 1 - (intOf s9).toNat)
    case atStart => exact ⟨i0, rfl, by omega, by omega, Lib.hid (fun t h1 h2 h3 => by omega)⟩
    case round =>
      obtain ⟨j, rfl, hj1, hj2, HJ⟩ := hrel
      by_cases hlt : j < n
      · have t1 : decide ((j : Int) < n) = true := decide_eq_true (by omega)
        have hx := HH.out j hlt
        by_cases hS : S j = v
        · have hres : nxt S n i0 v = (j : Int) := nxt_at hlt hj1 hS (fun t h1 h2 => HJ.out t h1 h2 (by omega))
          have HR := Lib.hid hres
          rw [hS] at hx
          have vv : (v == v) = true := by cases v <;> rfl
          clear hres hS
          go_wp2_with fail
          refine hx.mono ?_; rintro e w' ⟨rfl, rfl⟩
          clear hx
          go_wp2_with fail
          go_ret
          exact ⟨by rw [HR.out]; rfl, rfl⟩
        · obtain ⟨u, hu⟩ : ∃ u, S j = u := ⟨_, rfl⟩
          rw [hu] at hx
          have uv : (u == v) = false := by rw [beq_eq_false_iff_ne, ← hu]; exact hS
          have HS : Hid (S j ≠ v) := Lib.hid hS
          clear hu hS
          go_wp2_with fail
          refine hx.mono ?_; rintro e w' ⟨rfl, rfl⟩
          clear hx
          go_wp2_with fail
          go_round
          case rel => exact ⟨j + 1, by go_num, by omega, by omega, Lib.hid (fun t h1 h2 h3 => by
            by_cases htj : t = j
            · subst htj; exact HS.out
            · exact HJ.out t h1 (by omega) h3)⟩
          case measure => simp [intOf]; omega
      · have t1 : decide ((j : Int) < n) = false := decide_eq_false (by omega)
        go_wp2
        go_ret
        exact ⟨by rw [nxt_none (fun t h1 h2 => HJ.out t h1 (by omega) h2)]; rfl, rfl⟩
end Go.Proofs.YtheniiinioggiaaDoor
