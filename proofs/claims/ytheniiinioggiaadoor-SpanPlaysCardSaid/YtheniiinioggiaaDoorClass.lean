/-
  The contracts of package class and of the document's answer for sizes, pages and slots: each call returns what the plain functions sz, pgs and sls give, and only new memory is made. Conditions: none.
-/
import Derived.Test.YtheniiinioggiaaDoorMem
import Derived.Test.YtheniiinioggiaaDoorChecked
import Derived.WalkKit
import Derived.ProofKit
import Derived.OpenShut
import Derived.Deep.QuietTactic
import Derived.BigQuiet
import Derived.Lib.Hide
import Derived.IntWalk
import Derived.Deep.DeepCutAuto
namespace Go.Proofs.YtheniiinioggiaaDoor
open Go.RowKit
def szL : List Int := [1,2,3,4,6,8,12,16,24,32,48,64,96,128,192,256]
def sz (k : Int) : Int := if k < 0 ∨ 16 ≤ k then 0 else szL.getD k.toNat 0
def szA : Value := .agg #[Value.int IntKind.i64 1, Value.int IntKind.i64 2, Value.int IntKind.i64 3, Value.int IntKind.i64 4,
              Value.int IntKind.i64 6, Value.int IntKind.i64 8, Value.int IntKind.i64 12, Value.int IntKind.i64 16,
              Value.int IntKind.i64 24, Value.int IntKind.i64 32, Value.int IntKind.i64 48, Value.int IntKind.i64 64,
              Value.int IntKind.i64 96, Value.int IntKind.i64 128, Value.int IntKind.i64 192, Value.int IntKind.i64 256]
theorem table_any (w : World) :
    Calls Tryd.prog 60 #[] w fun e w' => e = .returned szA ∧ Ch [] w w' := by
  go_enter Tryd.func60, Tryd.ntmps60
  go_wp2
  refine bodyPost_ret (v := szA) (by simp [results, Tryd.results60, go_sem, szA]) rfl ⟨rfl, (Ch.refl [] w).alloc _⟩
theorem Count_any (w : World) :
    Calls Tryd.prog 59 #[] w fun e w' => e = .returned (.int .i64 16) ∧ Ch [] w w' := by
  go_enter Tryd.func59, Tryd.ntmps59
  go_wp2_with (go_at_call 60; refine (table_any _).mono ?_; rintro e w' ⟨rfl, hg⟩)
  go_ret
  exact ⟨rfl, hg⟩
theorem size_lo (k : Int) (w : World) (h : k < 0) :
    Calls Tryd.prog 54 #[.int .i64 k] w fun e w' => e = .returned (.int .i64 0) ∧ Ch [] w w' := by
  go_enter Tryd.func54, Tryd.ntmps54
  go_wp2
  go_ret
  exact ⟨rfl, Ch.refl _ _⟩
theorem size_hi (k : Int) (w : World) (h : 16 ≤ k) :
    Calls Tryd.prog 54 #[.int .i64 k] w fun e w' => e = .returned (.int .i64 0) ∧ Ch [] w w' := by
  go_enter Tryd.func54, Tryd.ntmps54
  go_wp2_with (go_at_call 59; refine (Count_any _).mono ?_; rintro e w' ⟨rfl, hg⟩)
  go_ret
  exact ⟨rfl, hg⟩
theorem ix_szA (k : Int) (w : World) (h : 0 ≤ k) (h' : k < 16) : (Instr.index 74 szA (.int .i64 k)).run Tryd.prog w = .ok (.int .i64 (sz k)) w := by
  have : k = 0 ∨ k = 1 ∨ k = 2 ∨ k = 3 ∨ k = 4 ∨ k = 5 ∨ k = 6 ∨ k = 7 ∨ k = 8 ∨ k = 9 ∨ k = 10 ∨ k = 11 ∨ k = 12 ∨ k = 13 ∨ k = 14 ∨ k = 15 := by omega
  rcases this with rfl | rfl | rfl | rfl | rfl | rfl | rfl | rfl | rfl | rfl | rfl | rfl | rfl | rfl | rfl | rfl <;> (show _ = _; kernel_rfl)
theorem size_mid (k : Int) (w : World) (h : 0 ≤ k) (h' : k < 16) :
    Calls Tryd.prog 54 #[.int .i64 k] w fun e w' => e = .returned (.int .i64 (sz k)) ∧ Ch [] w w' := by
  have hix := fun w => ix_szA k w h h'
  go_enter Tryd.func54, Tryd.ntmps54
  go_wp2_with (first | (go_at_call 59; refine (Count_any _).mono ?_; rintro e w' ⟨rfl, hg⟩) | (go_at_call 60; refine (table_any _).mono ?_; rintro e w' ⟨rfl, hg1⟩))
  go_ret
  exact ⟨rfl, hg.trans hg1⟩
theorem sz_lo {k : Int} (h : k < 0) : sz k = 0 := by unfold sz; rw [if_pos (by omega)]
theorem sz_hi {k : Int} (h : 16 ≤ k) : sz k = 0 := by unfold sz; rw [if_pos (by omega)]
theorem size_any (k : Int) (w : World) :
    Calls Tryd.prog 54 #[.int .i64 k] w fun e w' => e = .returned (.int .i64 (sz k)) ∧ Ch [] w w' := by
  by_cases h : k < 0
  · rw [sz_lo h]; exact size_lo k w h
  · by_cases h' : k < 16
    · exact size_mid k w (by omega) h'
    · rw [sz_hi (by omega)]; exact size_hi k w (by omega)
def pg (n : Int) : Int := if n = 24 ∨ n = 128 then 2 else if n = 48 ∨ n = 96 ∨ n = 192 then 3 else if n = 256 then 4 else 1
theorem sz_in {k : Int} (h : 0 ≤ k) (h' : k < 16) : sz k ∈ szL := by
  have : k = 0 ∨ k = 1 ∨ k = 2 ∨ k = 3 ∨ k = 4 ∨ k = 5 ∨ k = 6 ∨ k = 7 ∨ k = 8 ∨ k = 9 ∨ k = 10 ∨ k = 11 ∨ k = 12 ∨ k = 13 ∨ k = 14 ∨ k = 15 := by omega
  rcases this with rfl | rfl | rfl | rfl | rfl | rfl | rfl | rfl | rfl | rfl | rfl | rfl | rfl | rfl | rfl | rfl <;> decide
theorem szL_bd : ∀ n ∈ szL, 1 ≤ n ∧ n ≤ 256 ∧ 1 ≤ pg n ∧ pg n ≤ 4 := by decide
theorem szL_no : ∀ n ∈ szL, ∀ p : Fin 5, 1 ≤ p.val → ((p.val : Nat) : Int) < pg n → ¬ ((p.val : Int) * 64 % n * 8 ≤ (p.val : Int) * 64 - (p.val : Int) * 64 % n) := by decide
theorem szL_yes : ∀ n ∈ szL, (pg n * 64 % n * 8 ≤ pg n * 64 - pg n * 64 % n) := by decide

def pgs (k : Int) : Int := if sz k = 0 then 0 else pg (sz k)
def sls (k : Int) : Int := if sz k = 0 then 0 else pgs k * 64 / sz k
def cl (n : Int) : Int := if n < 1 ∨ 256 < n then -1 else szL.findIdx (fun s => decide (n ≤ s))
theorem sz_get {k : Nat} (h : k < szL.length) : sz k = szL[k]'h := by
  have h' : k < 16 := h
  unfold sz; rw [if_neg (by omega), Int.toNat_natCast]; exact (List.getElem_eq_getD 0).symm
theorem sz_le {k : Nat} (h : k < 16) : sz k ≤ 256 := (szL_bd _ (sz_in (by omega) (by omega))).2.1
theorem cl_of {n : Int} {k : Nat} (hn : 1 ≤ n) (hk : k < 16) (h : n ≤ sz k) (hj : ∀ j : Nat, j < k → sz j < n) : cl n = k := by
  unfold cl
  have := sz_le hk
  have hk' : k < szL.length := hk
  rw [if_neg (by omega)]
  congr 1
  rw [List.findIdx_eq hk']
  refine ⟨by rw [decide_eq_true_eq, ← sz_get hk']; exact h, fun j hj' => ?_⟩
  rw [decide_eq_false_iff_not, ← sz_get (by omega)]
  have := hj j hj'
  omega
theorem cl_no {n : Int} (h : n < 1 ∨ 256 < n) : cl n = -1 := by unfold cl; rw [if_pos h]
theorem pages_lo (k : Int) (w : World) (h : sz k = 0) :
    Calls Tryd.prog 61 #[.int .i64 k] w fun e w' => e = .returned (.int .i64 0) ∧ Ch [] w w' := by
  go_enter Tryd.func61, Tryd.ntmps61
  go_wp2_with (go_at_call 54; refine (size_any _ _).mono ?_; rintro e w' ⟨rfl, hg⟩)
  go_ret
  exact ⟨rfl, hg⟩
theorem pages_hi (k : Int) (w : World) (h : 0 ≤ k) (h' : k < 16) :
    Calls Tryd.prog 61 #[.int .i64 k] w fun e w' => e = .returned (.int .i64 (pg (sz k))) ∧ Ch [] w w' := by
  have hin := sz_in h h'
  obtain ⟨n, hn⟩ : ∃ n, sz k = n := ⟨_, rfl⟩
  rw [hn] at hin
  have hN := Lib.hid hn
  obtain ⟨h1, h2, h3, h4⟩ := szL_bd n hin
  have hno := szL_no n hin
  have hyes := szL_yes n hin
  have HI := Lib.hid hin; have HNO := Lib.hid hno; have HYES := Lib.hid hyes
  clear hin hno hyes 
  have hz : (n == 0) = false := by rw [beq_eq_false_iff_ne]; omega
  go_enter Tryd.func61, Tryd.ntmps61
  go_wp2_with (go_at_call 54; refine (size_any _ _).mono ?_; rintro e w' ⟨rfl, hg⟩)
  go_loopw [4] (fun i wr => ∃ p : Nat, 1 ≤ p ∧ (p : Int) ≤ pg n ∧ i = .int .i64 p ∧ Ch [] w wr) (fun i _ => (4 - (intOf i).toNat))
  case atStart => exact ⟨1, by omega, by omega, rfl, hg⟩
  case round =>
    obtain ⟨p, hp1, hp2, rfl, hgr⟩ := hrel
    have hm0 : 0 ≤ (p : Int) * 64 % n := Int.emod_nonneg _ (by omega)
    have hm1 : (p : Int) * 64 % n < n := Int.emod_lt_of_pos _ (by omega)
    by_cases hlt : (p : Int) < pg n
    · have ht := HNO.out ⟨p, by omega⟩ hp1 hlt
      go_wp2
      go_quiet (fail)
      go_wp2
      go_roundw
      case rel => exact ⟨p + 1, by omega, by omega, by go_num, hgr.drewN _⟩
      case measure => simp [intOf]; omega
    · have ht := HYES.out
      have hp : pg n = p := by omega
      rw [hp] at ht
      have HP := Lib.hid hp
      clear hp
      go_wp2
      go_quiet (fail)
      go_wp2
      go_ret
      exact ⟨by rw [hN.out, HP.out]; rfl, hgr.drewN _⟩
theorem pages_any (k : Int) (w : World) :
    Calls Tryd.prog 61 #[.int .i64 k] w fun e w' => e = .returned (.int .i64 (pgs k)) ∧ Ch [] w w' := by
  unfold pgs
  by_cases h : 0 ≤ k ∧ k < 16
  · rw [if_neg]
    · exact pages_hi k w h.1 h.2
    · have := szL_bd _ (sz_in h.1 h.2); omega
  · have h0 : sz k = 0 := by unfold sz; rw [if_pos (by omega)]
    rw [if_pos h0]
    exact pages_lo k w h0
theorem sz_bd (k : Int) : 0 ≤ sz k ∧ sz k ≤ 256 := by
  by_cases h : 0 ≤ k ∧ k < 16
  · have := szL_bd _ (sz_in h.1 h.2); omega
  · have h0 : sz k = 0 := by unfold sz; rw [if_pos (by omega)]
    omega
theorem pgs_bd (k : Int) : 0 ≤ pgs k ∧ pgs k ≤ 4 := by
  unfold pgs pg; split <;> (repeat' split) <;> omega
theorem slots_lo (k : Int) (w : World) (h : sz k = 0) :
    Calls Tryd.prog 55 #[.int .i64 k] w fun e w' => e = .returned (.int .i64 0) ∧ Ch [] w w' := by
  go_enter Tryd.func55, Tryd.ntmps55
  go_wp2_with (go_at_call 54; refine (size_any _ _).mono ?_; rintro e w' ⟨rfl, hg⟩)
  go_ret
  exact ⟨rfl, hg⟩
theorem slots_hi (k : Int) (w : World) (h : 0 < sz k) :
    Calls Tryd.prog 55 #[.int .i64 k] w fun e w' => e = .returned (.int .i64 (pgs k * 64 / sz k)) ∧ Ch [] w w' := by
  have hb := pgs_bd k
  have hs := sz_bd k
  have hz : (sz k == 0) = false := by rw [beq_eq_false_iff_ne]; omega
  go_enter Tryd.func55, Tryd.ntmps55
  go_wp2_with (first | (go_at_call 54; refine (size_any _ _).mono ?_; rintro e w' ⟨rfl, hg⟩) | (go_at_call 61; refine (pages_any _ _).mono ?_; rintro e w' ⟨rfl, hg1⟩))
  go_ret
  exact ⟨rfl, hg.trans hg1⟩
theorem slots_any (k : Int) (w : World) :
    Calls Tryd.prog 55 #[.int .i64 k] w fun e w' => e = .returned (.int .i64 (sls k)) ∧ Ch [] w w' := by
  unfold sls
  by_cases h : sz k = 0
  · rw [if_pos h]; exact slots_lo k w h
  · rw [if_neg h]; exact slots_hi k w (by have := sz_bd k; omega)
def szC : Array Value := #[Value.int IntKind.i64 1, Value.int IntKind.i64 2, Value.int IntKind.i64 3, Value.int IntKind.i64 4,
              Value.int IntKind.i64 6, Value.int IntKind.i64 8, Value.int IntKind.i64 12, Value.int IntKind.i64 16,
              Value.int IntKind.i64 24, Value.int IntKind.i64 32, Value.int IntKind.i64 48, Value.int IntKind.i64 64,
              Value.int IntKind.i64 96, Value.int IntKind.i64 128, Value.int IntKind.i64 192, Value.int IntKind.i64 256]
theorem Sizes_any (w : World) :
    Calls Tryd.prog 57 #[] w fun e w' => e = .returned (.slice (some ⟨w.heap.size, 0, none⟩) 16 16) ∧ w' = w.alloc (.cells szC 3) := by
  go_enter Tryd.func57, Tryd.ntmps57
  go_wp2
  go_ret
  exact ⟨rfl, rfl⟩
theorem szC_cell (w : World) (k : Int) (h : 0 ≤ k) (h' : k < 16) : (w.alloc (.cells szC 3)).cell? ⟨w.heap.size, k.toNat, none⟩ = some (.int .i64 (sz k)) := by
  have : k = 0 ∨ k = 1 ∨ k = 2 ∨ k = 3 ∨ k = 4 ∨ k = 5 ∨ k = 6 ∨ k = 7 ∨ k = 8 ∨ k = 9 ∨ k = 10 ∨ k = 11 ∨ k = 12 ∨ k = 13 ∨ k = 14 ∨ k = 15 := by omega
  have e : (w.alloc (.cells szC 3)).heap[w.heap.size]? = some (.cells szC 3) := (MapKept.heap_alloc w _).1
  simp only [World.cell?, e]
  rcases this with rfl | rfl | rfl | rfl | rfl | rfl | rfl | rfl | rfl | rfl | rfl | rfl | rfl | rfl | rfl | rfl <;> rfl
theorem rsize_lo (k : Int) (w : World) (h : k < 0) :
    Calls Tryd.prog 39 #[.int .i64 k] w fun e w' => e = .returned (.int .i64 0) ∧ Ch [] w w' := by
  go_enter Tryd.func39, Tryd.ntmps39
  go_wp2
  go_ret
  exact ⟨rfl, Ch.refl _ _⟩
theorem rsize_hi (k : Int) (w : World) (h : 16 ≤ k) :
    Calls Tryd.prog 39 #[.int .i64 k] w fun e w' => e = .returned (.int .i64 0) ∧ Ch [] w w' := by
  go_enter Tryd.func39, Tryd.ntmps39
  go_wp2
  go_ret
  exact ⟨rfl, Ch.refl _ _⟩
theorem rsize_mid (k : Int) (w : World) (h : 0 ≤ k) (h' : k < 16) :
    Calls Tryd.prog 39 #[.int .i64 k] w fun e w' => e = .returned (.int .i64 (sz k)) ∧ Ch [] w w' := by
  have hc := szC_cell w k h h'
  have hg : Ch [] w (w.alloc (.cells szC 3)) := (Ch.refl [] w).alloc _
  go_enter Tryd.func39, Tryd.ntmps39
  go_wp2_with (go_at_call 57; refine (Sizes_any _).mono ?_; rintro e w' ⟨rfl, rfl⟩)
  go_ret
  exact ⟨rfl, hg⟩
theorem rsize_any (k : Int) (w : World) :
    Calls Tryd.prog 39 #[.int .i64 k] w fun e w' => e = .returned (.int .i64 (sz k)) ∧ Ch [] w w' := by
  by_cases h : k < 0
  · rw [sz_lo h]; exact rsize_lo k w h
  · by_cases h' : k < 16
    · exact rsize_mid k w (by omega) h'
    · rw [sz_hi (by omega)]; exact rsize_hi k w (by omega)
theorem szL_rno : ∀ n ∈ szL, ∀ p : Fin 5, 1 ≤ p.val → ((p.val : Nat) : Int) < pg n → ¬ (n ≤ (p.val : Int) * 64 ∧ (p.val : Int) * 64 % n * 8 ≤ (p.val : Int) * 64) := by decide
theorem szL_ryes : ∀ n ∈ szL, n ≤ pg n * 64 ∧ (pg n * 64 % n * 8 ≤ pg n * 64) := by decide
theorem rpages_lo (k : Int) (w : World) (h : sz k = 0) :
    Calls Tryd.prog 41 #[.int .i64 k] w fun e w' => e = .returned (.int .i64 0) ∧ Ch [] w w' := by
  go_enter Tryd.func41, Tryd.ntmps41
  go_wp2_with (go_at_call 39; refine (rsize_any _ _).mono ?_; rintro e w' ⟨rfl, hg⟩)
  go_ret
  exact ⟨rfl, hg⟩
theorem rpages_hi (k : Int) (w : World) (h : 0 ≤ k) (h' : k < 16) :
    Calls Tryd.prog 41 #[.int .i64 k] w fun e w' => e = .returned (.int .i64 (pg (sz k))) ∧ Ch [] w w' := by
  have hin := sz_in h h'
  obtain ⟨n, hn⟩ : ∃ n, sz k = n := ⟨_, rfl⟩
  rw [hn] at hin
  have hN := Lib.hid hn
  obtain ⟨h1, h2, h3, h4⟩ := szL_bd n hin
  have hno := szL_rno n hin
  have hyes := szL_ryes n hin
  have HI := Lib.hid hin; have HNO := Lib.hid hno; have HYES := Lib.hid hyes
  clear hin hno hyes
  have hz : (n == 0) = false := by rw [beq_eq_false_iff_ne]; omega
  go_enter Tryd.func41, Tryd.ntmps41
  go_wp2_with (go_at_call 39; refine (rsize_any _ _).mono ?_; rintro e w' ⟨rfl, hg⟩)
  go_loop [4] (fun i => ∃ p : Nat, 1 ≤ p ∧ (p : Int) ≤ pg n ∧ i = .int .i64 p) (fun i => (4 - (intOf i).toNat))
  case atStart => exact ⟨1, by omega, by omega, rfl⟩
  case round =>
    obtain ⟨p, hp1, hp2, rfl⟩ := hrel
    have hm0 : 0 ≤ (p : Int) * 64 % n := Int.emod_nonneg _ (by omega)
    have hm1 : (p : Int) * 64 % n < n := Int.emod_lt_of_pos _ (by omega)
    by_cases hlt : (p : Int) < pg n
    · have ht := HNO.out ⟨p, by omega⟩ hp1 hlt
      by_cases hge : n ≤ (p : Int) * 64
      · have ht' : ¬ ((p : Int) * 64 % n * 8 ≤ (p : Int) * 64) := fun h => ht ⟨hge, h⟩
        clear ht
        go_wp2
        go_round
        case rel => exact ⟨p + 1, by omega, by omega, by go_num⟩
        case measure => simp [intOf]; omega
      · clear ht
        go_wp2
        go_round
        case rel => exact ⟨p + 1, by omega, by omega, by go_num⟩
        case measure => simp [intOf]; omega
    · have ht := HYES.out
      have hp : pg n = p := by omega
      rw [hp] at ht
      have HP := Lib.hid hp
      clear hp
      obtain ⟨ht1, ht2⟩ := ht
      go_wp2
      go_ret
      exact ⟨by rw [HP.out]; rfl, hg⟩
theorem rpages_any (k : Int) (w : World) :
    Calls Tryd.prog 41 #[.int .i64 k] w fun e w' => e = .returned (.int .i64 (pgs k)) ∧ Ch [] w w' := by
  unfold pgs
  by_cases h : 0 ≤ k ∧ k < 16
  · rw [if_neg]
    · exact rpages_hi k w h.1 h.2
    · have := szL_bd _ (sz_in h.1 h.2); omega
  · have h0 : sz k = 0 := by unfold sz; rw [if_pos (by omega)]
    rw [if_pos h0]
    exact rpages_lo k w h0
theorem rslots_lo (k : Int) (w : World) (h : sz k = 0) :
    Calls Tryd.prog 58 #[.int .i64 k] w fun e w' => e = .returned (.int .i64 0) ∧ Ch [] w w' := by
  go_enter Tryd.func58, Tryd.ntmps58
  go_wp2_with (go_at_call 39; refine (rsize_any _ _).mono ?_; rintro e w' ⟨rfl, hg⟩)
  go_ret
  exact ⟨rfl, hg⟩
theorem rslots_hi (k : Int) (w : World) (h : 0 < sz k) :
    Calls Tryd.prog 58 #[.int .i64 k] w fun e w' => e = .returned (.int .i64 (pgs k * 64 / sz k)) ∧ Ch [] w w' := by
  have hb := pgs_bd k
  have hs := sz_bd k
  have hz : (sz k == 0) = false := by rw [beq_eq_false_iff_ne]; omega
  go_enter Tryd.func58, Tryd.ntmps58
  go_wp2_with fail
  refine (rsize_any _ _).mono ?_; rintro e w1 ⟨rfl, hg1⟩
  go_wp2_with fail
  refine (rpages_any _ _).mono ?_; rintro e w2 ⟨rfl, hg2⟩
  go_wp2_with fail
  refine (rsize_any _ _).mono ?_; rintro e w3 ⟨rfl, hg3⟩
  go_wp2_with fail
  go_ret
  exact ⟨rfl, hg1.trans (hg2.trans hg3)⟩
theorem rslots_any (k : Int) (w : World) :
    Calls Tryd.prog 58 #[.int .i64 k] w fun e w' => e = .returned (.int .i64 (sls k)) ∧ Ch [] w w' := by
  unfold sls
  by_cases h : sz k = 0
  · rw [if_pos h]; exact rslots_lo k w h
  · rw [if_neg h]; exact rslots_hi k w (by have := sz_bd k; omega)
end Go.Proofs.YtheniiinioggiaaDoor
