/-
  The contracts of package class and of the document answer for sizes, classes, pages and slots: each call returns what the plain functions sz, pgs, sls and cl give, and only new memory is made. Conditions: none.
-/
import Derived.Test.YtebibdoekcophaaChecked
import Derived.WalkKit
import Derived.ProofKit
import Derived.OpenShut
import Derived.Deep.QuietTactic
import Derived.BigQuiet
import Derived.Lib.Hide
import Derived.IntWalk
import Derived.Deep.DeepCutAuto
namespace Go.Proofs.Ytebibdoekcophaa
open Go.RowKit

def szL : List Int := [1,2,3,4,6,8,12,16,24,32,48,64,96,128,192,256]
def sz (k : Int) : Int := if k < 0 ∨ 16 ≤ k then 0 else szL.getD k.toNat 0
def szA : Value := .agg #[Value.int IntKind.i64 1, Value.int IntKind.i64 2, Value.int IntKind.i64 3, Value.int IntKind.i64 4,
              Value.int IntKind.i64 6, Value.int IntKind.i64 8, Value.int IntKind.i64 12, Value.int IntKind.i64 16,
              Value.int IntKind.i64 24, Value.int IntKind.i64 32, Value.int IntKind.i64 48, Value.int IntKind.i64 64,
              Value.int IntKind.i64 96, Value.int IntKind.i64 128, Value.int IntKind.i64 192, Value.int IntKind.i64 256]
theorem Gtrans {a b c : World} (h : Grown a b) (k : Grown b c) : Grown a c := by
  refine ⟨World.keptBut_trans h.1 ?_, fun x => (k.2.1 x).trans (h.2.1 x), Nat.le_trans h.2.2 k.2.2⟩
  exact k.1

theorem table_any (w : World) :
    Calls Try.prog 44 #[] w fun e w' => e = .returned szA ∧ Grown w w' := by
  go_enter Try.func44, Try.ntmps44
  go_wp2
  refine bodyPost_ret (v := szA) (by simp [results, Try.results44, go_sem, szA]) rfl ⟨rfl, (Grown.refl w).alloc _ _⟩
theorem Count_any (w : World) :
    Calls Try.prog 38 #[] w fun e w' => e = .returned (.int .i64 16) ∧ Grown w w' := by
  go_enter Try.func38, Try.ntmps38
  go_wp2_with (go_at_call 44; refine (table_any _).mono ?_; rintro e w' ⟨rfl, hg⟩)
  go_ret
  exact ⟨rfl, hg⟩
theorem size_lo (k : Int) (w : World) (h : k < 0) :
    Calls Try.prog 30 #[.int .i64 k] w fun e w' => e = .returned (.int .i64 0) ∧ Grown w w' := by
  go_enter Try.func30, Try.ntmps30
  go_wp2
  go_ret
  exact ⟨rfl, Grown.refl _⟩
theorem size_hi (k : Int) (w : World) (h : 16 ≤ k) :
    Calls Try.prog 30 #[.int .i64 k] w fun e w' => e = .returned (.int .i64 0) ∧ Grown w w' := by
  go_enter Try.func30, Try.ntmps30
  go_wp2_with (go_at_call 38; refine (Count_any _).mono ?_; rintro e w' ⟨rfl, hg⟩)
  go_ret
  exact ⟨rfl, hg⟩
theorem ix_szA (k : Int) (w : World) (h : 0 ≤ k) (h' : k < 16) : (Instr.index 57 szA (.int .i64 k)).run Try.prog w = .ok (.int .i64 (sz k)) w := by
  have : k = 0 ∨ k = 1 ∨ k = 2 ∨ k = 3 ∨ k = 4 ∨ k = 5 ∨ k = 6 ∨ k = 7 ∨ k = 8 ∨ k = 9 ∨ k = 10 ∨ k = 11 ∨ k = 12 ∨ k = 13 ∨ k = 14 ∨ k = 15 := by omega
  rcases this with rfl | rfl | rfl | rfl | rfl | rfl | rfl | rfl | rfl | rfl | rfl | rfl | rfl | rfl | rfl | rfl <;> (show _ = _; kernel_rfl)
theorem size_mid (k : Int) (w : World) (h : 0 ≤ k) (h' : k < 16) :
    Calls Try.prog 30 #[.int .i64 k] w fun e w' => e = .returned (.int .i64 (sz k)) ∧ Grown w w' := by
  have hix := fun w => ix_szA k w h h'
  go_enter Try.func30, Try.ntmps30
  go_wp2_with (first | (go_at_call 38; refine (Count_any _).mono ?_; rintro e w' ⟨rfl, hg⟩) | (go_at_call 44; refine (table_any _).mono ?_; rintro e w' ⟨rfl, hg1⟩))
  go_ret
  exact ⟨rfl, Gtrans hg hg1⟩
theorem sz_lo {k : Int} (h : k < 0) : sz k = 0 := by unfold sz; rw [if_pos (by omega)]
theorem sz_hi {k : Int} (h : 16 ≤ k) : sz k = 0 := by unfold sz; rw [if_pos (by omega)]
theorem size_any (k : Int) (w : World) :
    Calls Try.prog 30 #[.int .i64 k] w fun e w' => e = .returned (.int .i64 (sz k)) ∧ Grown w w' := by
  by_cases h : k < 0
  · rw [sz_lo h]; exact size_lo k w h
  · by_cases h' : k < 16
    · exact size_mid k w (by omega) h'
    · rw [sz_hi (by omega)]; exact size_hi k w (by omega)
def pg (n : Int) : Int := if n = 24 ∨ n = 128 then 2 else if n = 48 ∨ n = 96 ∨ n = 192 then 3 else if n = 256 then 4 else 1
theorem sz_in {k : Int} (h : 0 ≤ k) (h' : k < 16) : sz k ∈ szL := by
  have : k = 0 ∨ k = 1 ∨ k = 2 ∨ k = 3 ∨ k = 4 ∨ k = 5 ∨ k = 6 ∨ k = 7 ∨ k = 8 ∨ k = 9 ∨ k = 10 ∨ k = 11 ∨ k = 12 ∨ k = 13 ∨ k = 14 ∨ k = 15 := by omega
  rcases this with rfl | rfl | rfl | rfl | rfl | rfl | rfl | rfl | rfl | rfl | rfl | rfl | rfl | rfl | rfl | rfl <;> decide
theorem szL_bd : ∀ n ∈ szL, 1 ≤ n ∧ n ≤ 256 ∧ 1 ≤ pg n ∧ pg n ≤ 4 := by decide
theorem szL_no : ∀ n ∈ szL, ∀ p : Fin 5, 1 ≤ p.val → ((p.val : Nat) : Int) < pg n → ¬ ((p.val : Int) * 64 % n * 8 ≤ (p.val : Int) * 64 - (p.val : Int) * 64 % n) := by decide
theorem szL_yes : ∀ n ∈ szL, (pg n * 64 % n * 8 ≤ pg n * 64 - pg n * 64 % n) := by decide

def pgs (k : Int) : Int := if sz k = 0 then 0 else pg (sz k)
def sls (k : Int) : Int := if sz k = 0 then 0 else pgs k * 64 / sz k
def cl (n : Int) : Int := if n < 1 ∨ 256 < n then -1 else szL.findIdx (fun s => decide (n ≤ s))
theorem sz_get {k : Nat} (h : k < szL.length) : sz k = szL[k]'h := by
  have h' : k < 16 := h
  unfold sz; rw [if_neg (by omega), Int.toNat_natCast]; exact (List.getElem_eq_getD 0).symm
theorem sz_le {k : Nat} (h : k < 16) : sz k ≤ 256 := (szL_bd _ (sz_in (by omega) (by omega))).2.1
theorem cl_of {n : Int} {k : Nat} (hn : 1 ≤ n) (hk : k < 16) (h : n ≤ sz k) (hj : ∀ j : Nat, j < k → sz j < n) : cl n = k := by
  unfold cl
  have := sz_le hk
  have hk' : k < szL.length := hk
  rw [if_neg (by omega)]
  congr 1
  rw [List.findIdx_eq hk']
  refine ⟨by rw [decide_eq_true_eq, ← sz_get hk']; exact h, fun j hj' => ?_⟩
  rw [decide_eq_false_iff_not, ← sz_get (by omega)]
  have := hj j hj'
  omega
theorem cl_no {n : Int} (h : n < 1 ∨ 256 < n) : cl n = -1 := by unfold cl; rw [if_pos h]
theorem GdrewN {a b : World} (h : Grown a b) {n : Nat} : Grown a (b.drewN n) := ⟨h.1, h.2.1, h.2.2⟩
theorem pages_lo (k : Int) (w : World) (h : sz k = 0) :
    Calls Try.prog 32 #[.int .i64 k] w fun e w' => e = .returned (.int .i64 0) ∧ Grown w w' := by
  go_enter Try.func32, Try.ntmps32
  go_wp2_with (go_at_call 30; refine (size_any _ _).mono ?_; rintro e w' ⟨rfl, hg⟩)
  go_ret
  exact ⟨rfl, hg⟩
theorem pages_hi (k : Int) (w : World) (h : 0 ≤ k) (h' : k < 16) :
    Calls Try.prog 32 #[.int .i64 k] w fun e w' => e = .returned (.int .i64 (pg (sz k))) ∧ Grown w w' := by
  have hin := sz_in h h'
  obtain ⟨n, hn⟩ : ∃ n, sz k = n := ⟨_, rfl⟩
  rw [hn] at hin
  have hN := Lib.hid hn
  obtain ⟨h1, h2, h3, h4⟩ := szL_bd n hin
  have hno := szL_no n hin
  have hyes := szL_yes n hin
  have HI := Lib.hid hin; have HNO := Lib.hid hno; have HYES := Lib.hid hyes
  clear hin hno hyes 
  have hz : (n == 0) = false := by rw [beq_eq_false_iff_ne]; omega
  go_enter Try.func32, Try.ntmps32
  go_wp2_with (go_at_call 30; refine (size_any _ _).mono ?_; rintro e w' ⟨rfl, hg⟩)
  go_loopw [4] (fun i wr => ∃ p : Nat, 1 ≤ p ∧ (p : Int) ≤ pg n ∧ i = .int .i64 p ∧ Grown w wr) (fun i _ => (4 - (intOf i).toNat))
  case atStart => exact ⟨1, by omega, by omega, rfl, hg⟩
  case round =>
    obtain ⟨p, hp1, hp2, rfl, hgr⟩ := hrel
    have hm0 : 0 ≤ (p : Int) * 64 % n := Int.emod_nonneg _ (by omega)
    have hm1 : (p : Int) * 64 % n < n := Int.emod_lt_of_pos _ (by omega)
    by_cases hlt : (p : Int) < pg n
    · have ht := HNO.out ⟨p, by omega⟩ hp1 hlt
      go_wp2
      go_quiet (fail)
      go_wp2
      go_roundw
      case rel => exact ⟨p + 1, by omega, by omega, by go_num, GdrewN hgr⟩
      case measure => simp [intOf]; omega
    · have ht := HYES.out
      have hp : pg n = p := by omega
      rw [hp] at ht
      have HP := Lib.hid hp
      clear hp
      go_wp2
      go_quiet (fail)
      go_wp2
      go_ret
      exact ⟨by rw [hN.out, HP.out]; rfl, GdrewN hgr⟩
theorem pages_any (k : Int) (w : World) :
    Calls Try.prog 32 #[.int .i64 k] w fun e w' => e = .returned (.int .i64 (pgs k)) ∧ Grown w w' := by
  unfold pgs
  by_cases h : 0 ≤ k ∧ k < 16
  · rw [if_neg]
    · exact pages_hi k w h.1 h.2
    · have := szL_bd _ (sz_in h.1 h.2); omega
  · have h0 : sz k = 0 := by unfold sz; rw [if_pos (by omega)]
    rw [if_pos h0]
    exact pages_lo k w h0
theorem sz_bd (k : Int) : 0 ≤ sz k ∧ sz k ≤ 256 := by
  by_cases h : 0 ≤ k ∧ k < 16
  · have := szL_bd _ (sz_in h.1 h.2); omega
  · have h0 : sz k = 0 := by unfold sz; rw [if_pos (by omega)]
    omega
theorem pgs_bd (k : Int) : 0 ≤ pgs k ∧ pgs k ≤ 4 := by
  unfold pgs pg; split <;> (repeat' split) <;> omega
theorem slots_lo (k : Int) (w : World) (h : sz k = 0) :
    Calls Try.prog 34 #[.int .i64 k] w fun e w' => e = .returned (.int .i64 0) ∧ Grown w w' := by
  go_enter Try.func34, Try.ntmps34
  go_wp2_with (go_at_call 30; refine (size_any _ _).mono ?_; rintro e w' ⟨rfl, hg⟩)
  go_ret
  exact ⟨rfl, hg⟩
theorem slots_hi (k : Int) (w : World) (h : 0 < sz k) :
    Calls Try.prog 34 #[.int .i64 k] w fun e w' => e = .returned (.int .i64 (pgs k * 64 / sz k)) ∧ Grown w w' := by
  have hb := pgs_bd k
  have hs := sz_bd k
  have hz : (sz k == 0) = false := by rw [beq_eq_false_iff_ne]; omega
  go_enter Try.func34, Try.ntmps34
  go_wp2_with (first | (go_at_call 30; refine (size_any _ _).mono ?_; rintro e w' ⟨rfl, hg⟩) | (go_at_call 32; refine (pages_any _ _).mono ?_; rintro e w' ⟨rfl, hg1⟩))
  go_ret
  exact ⟨rfl, Gtrans hg hg1⟩
theorem slots_any (k : Int) (w : World) :
    Calls Try.prog 34 #[.int .i64 k] w fun e w' => e = .returned (.int .i64 (sls k)) ∧ Grown w w' := by
  unfold sls
  by_cases h : sz k = 0
  · rw [if_pos h]; exact slots_lo k w h
  · rw [if_neg h]; exact slots_hi k w (by have := sz_bd k; omega)
theorem of_any (n : Int) (w : World) :
    Calls Try.prog 36 #[.int .i64 n] w fun e w' => e = .returned (.int .i64 (cl n)) ∧ Grown w w' := by
  go_enter Try.func36, Try.ntmps36
  go_wp2_with (go_at_call 44; refine (table_any _).mono ?_; rintro e w' ⟨rfl, hg⟩)
  go_loop [6] (fun i => ∃ k : Nat, k ≤ 16 ∧ i = .int .i64 k ∧ (n < 1 ∨ ∀ j : Nat, j < k → sz j < n)) (fun i => (16 - (intOf i).toNat))
  case atStart => exact ⟨0, by omega, rfl, .inr (by intro j hj; omega)⟩
  case round =>
    obtain ⟨k, hk, rfl, hr⟩ := hrel
    have HR := Lib.hid hr
    clear hr
    by_cases hlt : k < 16
    · have hix := ix_szA k w' (by omega) (by omega)
      by_cases hn : 1 ≤ n
      · by_cases ht : n ≤ sz k
        · go_wp2
          go_ret
          exact ⟨by rw [cl_of hn hlt ht (by rcases HR.out with h | h; omega; exact h)]; rfl, hg⟩
        · go_wp2
          go_round
          case rel => exact ⟨k + 1, by omega, by go_num, .inr (by
            rcases HR.out with h | h
            · omega
            · intro j hj
              by_cases e : j = k
              · subst e; omega
              · exact h j (by omega))⟩
          case measure => simp [intOf]; omega
      · go_wp2
        go_round
        case rel => exact ⟨k + 1, by omega, by go_num, .inl (by omega)⟩
        case measure => simp [intOf]; omega
    · go_wp2
      go_ret
      have hno : cl n = -1 := cl_no (by
        rcases HR.out with h | h
        · exact .inl h
        · have := h 15 (by omega); have h256 : sz (15:Nat) = 256 := rfl; omega)
      exact ⟨by rw [hno]; rfl, hg⟩
def szC : Array Value := #[Value.int IntKind.i64 1, Value.int IntKind.i64 2, Value.int IntKind.i64 3, Value.int IntKind.i64 4,
              Value.int IntKind.i64 6, Value.int IntKind.i64 8, Value.int IntKind.i64 12, Value.int IntKind.i64 16,
              Value.int IntKind.i64 24, Value.int IntKind.i64 32, Value.int IntKind.i64 48, Value.int IntKind.i64 64,
              Value.int IntKind.i64 96, Value.int IntKind.i64 128, Value.int IntKind.i64 192, Value.int IntKind.i64 256]
theorem Sizes_any (w : World) :
    Calls Try.prog 45 #[] w fun e w' => e = .returned (.slice (some ⟨w.heap.size, 0, none⟩) 16 16) ∧ w' = w.alloc (.cells szC 3) := by
  go_enter Try.func45, Try.ntmps45
  go_wp2
  go_ret
  exact ⟨rfl, rfl⟩
theorem szC_cell (w : World) (k : Int) (h : 0 ≤ k) (h' : k < 16) : (w.alloc (.cells szC 3)).cell? ⟨w.heap.size, k.toNat, none⟩ = some (.int .i64 (sz k)) := by
  have : k = 0 ∨ k = 1 ∨ k = 2 ∨ k = 3 ∨ k = 4 ∨ k = 5 ∨ k = 6 ∨ k = 7 ∨ k = 8 ∨ k = 9 ∨ k = 10 ∨ k = 11 ∨ k = 12 ∨ k = 13 ∨ k = 14 ∨ k = 15 := by omega
  have e : (w.alloc (.cells szC 3)).heap[w.heap.size]? = some (.cells szC 3) := (MapKept.heap_alloc w _).1
  simp only [World.cell?, e]
  rcases this with rfl | rfl | rfl | rfl | rfl | rfl | rfl | rfl | rfl | rfl | rfl | rfl | rfl | rfl | rfl | rfl <;> rfl
theorem rsize_lo (k : Int) (w : World) (h : k < 0) :
    Calls Try.prog 31 #[.int .i64 k] w fun e w' => e = .returned (.int .i64 0) ∧ Grown w w' := by
  go_enter Try.func31, Try.ntmps31
  go_wp2
  go_ret
  exact ⟨rfl, Grown.refl _⟩
theorem rsize_hi (k : Int) (w : World) (h : 16 ≤ k) :
    Calls Try.prog 31 #[.int .i64 k] w fun e w' => e = .returned (.int .i64 0) ∧ Grown w w' := by
  go_enter Try.func31, Try.ntmps31
  go_wp2
  go_ret
  exact ⟨rfl, Grown.refl _⟩
theorem rsize_mid (k : Int) (w : World) (h : 0 ≤ k) (h' : k < 16) :
    Calls Try.prog 31 #[.int .i64 k] w fun e w' => e = .returned (.int .i64 (sz k)) ∧ Grown w w' := by
  have hc := szC_cell w k h h'
  have hg : Grown w (w.alloc (.cells szC 3)) := (Grown.refl w).alloc _ _
  go_enter Try.func31, Try.ntmps31
  go_wp2_with (go_at_call 45; refine (Sizes_any _).mono ?_; rintro e w' ⟨rfl, rfl⟩)
  go_ret
  exact ⟨rfl, hg⟩
theorem rsize_any (k : Int) (w : World) :
    Calls Try.prog 31 #[.int .i64 k] w fun e w' => e = .returned (.int .i64 (sz k)) ∧ Grown w w' := by
  by_cases h : k < 0
  · rw [sz_lo h]; exact rsize_lo k w h
  · by_cases h' : k < 16
    · exact rsize_mid k w (by omega) h'
    · rw [sz_hi (by omega)]; exact rsize_hi k w (by omega)
theorem szL_rno : ∀ n ∈ szL, ∀ p : Fin 5, 1 ≤ p.val → ((p.val : Nat) : Int) < pg n → ¬ (n ≤ (p.val : Int) * 64 ∧ (p.val : Int) * 64 % n * 8 ≤ (p.val : Int) * 64) := by decide
theorem szL_ryes : ∀ n ∈ szL, n ≤ pg n * 64 ∧ (pg n * 64 % n * 8 ≤ pg n * 64) := by decide
theorem rpages_lo (k : Int) (w : World) (h : sz k = 0) :
    Calls Try.prog 33 #[.int .i64 k] w fun e w' => e = .returned (.int .i64 0) ∧ Grown w w' := by
  go_enter Try.func33, Try.ntmps33
  go_wp2_with (go_at_call 31; refine (rsize_any _ _).mono ?_; rintro e w' ⟨rfl, hg⟩)
  go_ret
  exact ⟨rfl, hg⟩
theorem rpages_hi (k : Int) (w : World) (h : 0 ≤ k) (h' : k < 16) :
    Calls Try.prog 33 #[.int .i64 k] w fun e w' => e = .returned (.int .i64 (pg (sz k))) ∧ Grown w w' := by
  have hin := sz_in h h'
  obtain ⟨n, hn⟩ : ∃ n, sz k = n := ⟨_, rfl⟩
  rw [hn] at hin
  have hN := Lib.hid hn
  obtain ⟨h1, h2, h3, h4⟩ := szL_bd n hin
  have hno := szL_rno n hin
  have hyes := szL_ryes n hin
  have HI := Lib.hid hin; have HNO := Lib.hid hno; have HYES := Lib.hid hyes
  clear hin hno hyes
  have hz : (n == 0) = false := by rw [beq_eq_false_iff_ne]; omega
  go_enter Try.func33, Try.ntmps33
  go_wp2_with (go_at_call 31; refine (rsize_any _ _).mono ?_; rintro e w' ⟨rfl, hg⟩)
  go_loop [4] (fun i => ∃ p : Nat, 1 ≤ p ∧ (p : Int) ≤ pg n ∧ i = .int .i64 p) (fun i => (4 - (intOf i).toNat))
  case atStart => exact ⟨1, by omega, by omega, rfl⟩
  case round =>
    obtain ⟨p, hp1, hp2, rfl⟩ := hrel
    have hm0 : 0 ≤ (p : Int) * 64 % n := Int.emod_nonneg _ (by omega)
    have hm1 : (p : Int) * 64 % n < n := Int.emod_lt_of_pos _ (by omega)
    by_cases hlt : (p : Int) < pg n
    · have ht := HNO.out ⟨p, by omega⟩ hp1 hlt
      by_cases hge : n ≤ (p : Int) * 64
      · have ht' : ¬ ((p : Int) * 64 % n * 8 ≤ (p : Int) * 64) := fun h => ht ⟨hge, h⟩
        clear ht
        go_wp2
        go_round
        case rel => exact ⟨p + 1, by omega, by omega, by go_num⟩
        case measure => simp [intOf]; omega
      · clear ht
        go_wp2
        go_round
        case rel => exact ⟨p + 1, by omega, by omega, by go_num⟩
        case measure => simp [intOf]; omega
    · have ht := HYES.out
      have hp : pg n = p := by omega
      rw [hp] at ht
      have HP := Lib.hid hp
      clear hp
      obtain ⟨ht1, ht2⟩ := ht
      go_wp2
      go_ret
      exact ⟨by rw [HP.out]; rfl, hg⟩
theorem rpages_any (k : Int) (w : World) :
    Calls Try.prog 33 #[.int .i64 k] w fun e w' => e = .returned (.int .i64 (pgs k)) ∧ Grown w w' := by
  unfold pgs
  by_cases h : 0 ≤ k ∧ k < 16
  · rw [if_neg]
    · exact rpages_hi k w h.1 h.2
    · have := szL_bd _ (sz_in h.1 h.2); omega
  · have h0 : sz k = 0 := by unfold sz; rw [if_pos (by omega)]
    rw [if_pos h0]
    exact rpages_lo k w h0
theorem rslots_lo (k : Int) (w : World) (h : sz k = 0) :
    Calls Try.prog 35 #[.int .i64 k] w fun e w' => e = .returned (.int .i64 0) ∧ Grown w w' := by
  go_enter Try.func35, Try.ntmps35
  go_wp2_with (go_at_call 31; refine (rsize_any _ _).mono ?_; rintro e w' ⟨rfl, hg⟩)
  go_ret
  exact ⟨rfl, hg⟩
theorem rslots_hi (k : Int) (w : World) (h : 0 < sz k) :
    Calls Try.prog 35 #[.int .i64 k] w fun e w' => e = .returned (.int .i64 (pgs k * 64 / sz k)) ∧ Grown w w' := by
  have hb := pgs_bd k
  have hs := sz_bd k
  have hz : (sz k == 0) = false := by rw [beq_eq_false_iff_ne]; omega
  go_enter Try.func35, Try.ntmps35
  go_wp2_with fail
  refine (rsize_any _ _).mono ?_; rintro e w1 ⟨rfl, hg1⟩
  go_wp2_with fail
  refine (rpages_any _ _).mono ?_; rintro e w2 ⟨rfl, hg2⟩
  go_wp2_with fail
  refine (rsize_any _ _).mono ?_; rintro e w3 ⟨rfl, hg3⟩
  go_wp2_with fail
  go_ret
  exact ⟨rfl, Gtrans hg1 (Gtrans hg2 hg3)⟩
theorem rslots_any (k : Int) (w : World) :
    Calls Try.prog 35 #[.int .i64 k] w fun e w' => e = .returned (.int .i64 (sls k)) ∧ Grown w w' := by
  unfold sls
  by_cases h : sz k = 0
  · rw [if_pos h]; exact rslots_lo k w h
  · rw [if_neg h]; exact rslots_hi k w (by have := sz_bd k; omega)
theorem rof_out (n : Int) (w : World) (h : n < 1 ∨ 256 < n) :
    Calls Try.prog 37 #[.int .i64 n] w fun e w' => e = .returned (.int .i64 (cl n)) ∧ Grown w w' := by
  rw [cl_no h]
  rcases h with h | h <;>
  · go_enter Try.func37, Try.ntmps37
    go_wp2
    go_ret
    exact ⟨rfl, Grown.refl _⟩
theorem rof_in (n : Int) (w : World) (h : 1 ≤ n) (h' : n ≤ 256) :
    Calls Try.prog 37 #[.int .i64 n] w fun e w' => e = .returned (.int .i64 (cl n)) ∧ Grown w w' := by
  go_enter Try.func37, Try.ntmps37
  go_wp2_with fail
  go_loopw [3] (fun i wr => ∃ k : Nat, k ≤ 15 ∧ i = .int .i64 k ∧ (∀ j : Nat, j < k → sz j < n) ∧ Grown w wr) (fun i _ => (16 - (intOf i).toNat))
  case atStart => exact ⟨0, by omega, rfl, by intro j hj; omega, Grown.refl _⟩
  case round =>
    obtain ⟨k, hk, rfl, hr, hgr⟩ := hrel
    have HR := Lib.hid hr
    clear hr
    have h15 : k = 15 → sz k = 256 := fun h => by subst h; rfl
    by_cases ht : sz k < n
    · have hk' : k < 15 := by
        by_cases e : k = 15
        · have := h15 e; omega
        · omega
      clear h15
      go_wp2_with (go_at_call 31; refine (rsize_any _ _).mono ?_; rintro e w' ⟨rfl, hg⟩)
      go_roundw
      case rel => exact ⟨k + 1, by omega, by go_num, by
            intro j hj
            by_cases e : j = k
            · subst e; omega
            · exact HR.out j (by omega), Gtrans hgr hg⟩
      case measure => simp [intOf]; omega
    · clear h15
      go_wp2_with (go_at_call 31; refine (rsize_any _ _).mono ?_; rintro e w' ⟨rfl, hg⟩)
      go_ret
      exact ⟨by rw [cl_of h (by omega) (by omega) HR.out]; rfl, Gtrans hgr hg⟩
theorem rof_any (n : Int) (w : World) :
    Calls Try.prog 37 #[.int .i64 n] w fun e w' => e = .returned (.int .i64 (cl n)) ∧ Grown w w' := by
  by_cases h : n < 1 ∨ 256 < n
  · exact rof_out n w h
  · exact rof_in n w (by omega) (by omega)
theorem told4 (w : World) :
    Calls Try.prog 29 #[] w fun e w' => e = .returned (.bool true) ∧ Grown w w' := by
  go_enter Try.func29, Try.ntmps29
  go_wp2_with fail
  refine (Count_any _).mono ?_; rintro e w1 ⟨rfl, hg1⟩
  go_wp2_with fail
  refine (size_any _ _).mono ?_; rintro e w2 ⟨rfl, hg2⟩
  rw [show sz 4 = 6 from rfl]
  go_wp2_with fail
  refine (pages_any _ _).mono ?_; rintro e w3 ⟨rfl, hg3⟩
  rw [show pgs 4 = 1 from rfl]
  go_wp2_with fail
  refine (slots_any _ _).mono ?_; rintro e w4 ⟨rfl, hg4⟩
  rw [show sls 4 = 10 from rfl]
  go_wp2_with fail
  refine (pages_any _ _).mono ?_; rintro e w5 ⟨rfl, hg5⟩
  rw [show pgs 15 = 4 from rfl]
  go_wp2_with fail
  refine (of_any _ _).mono ?_; rintro e w6 ⟨rfl, hg6⟩
  rw [show cl 5 = 4 from rfl]
  go_wp2_with fail
  refine (of_any _ _).mono ?_; rintro e w7 ⟨rfl, hg7⟩
  rw [show cl 257 = -1 from rfl]
  go_wp2_with fail
  go_ret
  exact ⟨rfl, Gtrans hg1 (Gtrans hg2 (Gtrans hg3 (Gtrans hg4 (Gtrans hg5 (Gtrans hg6 hg7)))))⟩
end Go.Proofs.Ytebibdoekcophaa
