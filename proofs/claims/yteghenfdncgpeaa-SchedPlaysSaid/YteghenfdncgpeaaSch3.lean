/-
  Contracts of package sched: Len, Where, Drop. Conditions: none beyond what each theorem names.
-/
import Derived.Test.YteghenfdncgpeaaSch2
import Derived.Test.YteghenfdncgpeaaSum
namespace Go.Proofs.Yteghenfdncgpeaa
open Go.RowKit
section
variable {w w1 w2 : World} {s c i x : Nat} {vs v v' : Value} {X S : List Nat} {st : SSt}
theorem schLenNil (w : World) : Calls Try.prog 44 #[.pointer none] w fun e w' => e = .returned (.int .i64 0) ∧ w' = w := by
  go_enter Try.func44, Try.ntmps44
  go_wp2_with fail
  refine (schCommonNil w).mono ?_; rintro e w1 ⟨rfl, rfl⟩
  go_wp2_with fail
  go_ret
  exact ⟨rfl, rfl⟩
theorem allS_len (st : SSt) (i : Nat) : (allS st i).length ≤ (st.row i).length + 1 := by
  unfold allS ringList
  split
  · simp
  · omega
theorem SchedAt.rowLe (h : SchedAt w s c vs v X st) (hi : i < X.length) : (st.row i).length ≤ 256 := (h.ring i X[i] (List.getElem?_eq_getElem hi)).le
def totS (st : SSt) (n : Nat) : Nat := st.com.length + sumP (fun i => (allS st i).length) n
theorem schLen (h : SchedAt w s c vs v X st) (hn : X.length ≤ 100) (hl : st.com.length ≤ 100000) :
    Calls Try.prog 44 #[.pointer (some ⟨s, 0, none⟩)] w fun e w' => e = .returned (.int .i64 (totS st X.length : Nat)) ∧ Ch [] w w' := by
  have hC := schCommon h hl
  obtain ⟨u, hu⟩ : ∃ u, st.com.length = u := ⟨_, rfl⟩
  obtain ⟨g, hg⟩ : ∃ g : Nat → Nat, (fun i => (allS st i).length) = g := ⟨_, rfl⟩
  obtain ⟨n, hnn⟩ : ∃ n, X.length = n := ⟨_, rfl⟩
  have hgb : ∀ i, i < n → g i ≤ 257 := fun i hi => by
    have := h.rowLe (i := i) (by omega)
    have := allS_len st i
    rw [← hg]; show (allS st i).length ≤ 257; omega
  have hsg : ∀ k, k ≤ n → sumP g k ≤ k * 257 := fun k hk => sumP_le (fun j hj => hgb j (by omega))
  have hrow : ∀ wr, Ch [] w wr → wr.cell? ⟨s, 0, none⟩ = some vs ∧ PtS wr 22 vs X := fun wr hc => ⟨(h.ch hc).top.cell 0, (h.ch hc).rs⟩
  have hlen : ∀ wr i x, Ch [] w wr → X[i]? = some x → Calls Try.prog 18 #[.pointer (some ⟨x, 0, none⟩)] wr fun e w' => e = .returned (.int .i64 (g i)) ∧ Ch [] wr w' := fun wr i x hc hx => by
    rw [← hg]
    exact ringLen x _ _ _ wr ((h.ch hc).ring i x hx)
  have e0 : totS st X.length = u + sumP g n := by unfold totS; rw [hg, hu, hnn]
  rw [e0]
  obtain ⟨a, cap, rfl, _⟩ := h.rs.form
  rw [hnn] at hrow
  have HN := Lib.hid hnn
  have HROW := Lib.hid hrow
  have HLEN := Lib.hid hlen
  have HSG := Lib.hid hsg
  rw [hu] at hC
  have hnb : n ≤ 100 := by omega
  have hub : u ≤ 100000 := by omega
  clear h hu hg hnn hgb hsg hrow hlen e0 hn hl
  go_enter Try.func44, Try.ntmps44
  go_wp2_with fail
  refine hC.mono ?_; rintro e w1 ⟨v1, rfl, o1, c1⟩
  obtain ⟨a1, cap1, rfl, _⟩ := o1.form
  have q0 := (HROW.out w1 c1).1
  clear hC o1
  go_wp2_with fail
  go_loopw [3, 5, 16] (fun s3 s5 s16 wr => ∃ k : Nat, s16 = .int .i64 k ∧ k ≤ n ∧ s3 = .int .i64 (u + sumP g k : Nat) ∧ Ch [] w wr) (fun _ _ s16 _ => n - (intOf s16).toNat)
  case atStart => exact ⟨0, rfl, by omega, rfl, c1⟩
  case round =>
    clear q0 c1
    obtain ⟨k, rfl, hk, rfl, hc⟩ := hrel
    have hsk := HSG.out k hk
    by_cases hlt : k < n
    · have t1 : decide ((k : Int) < n) = true := decide_eq_true (by omega)
      have hs1 : sumP g (k + 1) = sumP g k + g k := rfl
      have hsk1 := HSG.out (k + 1) hlt
      obtain ⟨x, hx⟩ : ∃ x, X[k]? = some x := ⟨_, List.getElem?_eq_getElem (by have := HN.out; omega)⟩
      obtain ⟨g0, o0, e0, d0⟩ := (HROW.out wr hc).2.at hx
      subst e0
      unfold ptrV at d0
      have hL := HLEN.out wr k x hc hx
      obtain ⟨y, hy⟩ : ∃ y, sumP g k = y := ⟨_, rfl⟩
      obtain ⟨z, hz⟩ : ∃ z, g k = z := ⟨_, rfl⟩
      rw [hy] at hs1 ⊢
      rw [hz] at hs1 hL
      have HS1 := Lib.hid hs1
      have hb : u + y + z ≤ 200000 := by omega
      have v1 : (k : Int) < n := by omega
      have v2 : (0 : Int) ≤ k := by omega
      clear hs1 hy hz hsk hsk1 hx
      go_wp2_with fail
      refine hL.mono ?_; rintro e w2 ⟨rfl, c2⟩
      have hc2 := hc.trans c2
      clear hL hc c2
      go_wp2_with fail
      go_roundw
      case rel => exact ⟨k + 1, by go_num, by omega, by rw [HS1.out]; go_num, hc2⟩
      case measure => simp [intOf]; omega
    · obtain rfl : k = n := by omega
      have t1 : decide ((k : Int) < k) = false := decide_eq_false (by omega)
      obtain ⟨y, hy⟩ : ∃ y, sumP g k = y := ⟨_, rfl⟩
      rw [hy]
      have HY := Lib.hid hy
      clear hy
      go_wp2_with fail
      go_ret
      exact ⟨by rw [HY.out]; rfl, hc⟩
theorem schWhereNil (g : Int) (w : World) : Calls Try.prog 42 #[.pointer none, .int .i64 g] w fun e w' => e = .returned (.tuple #[.int .i64 0, .bool false]) ∧ w' = w := by
  go_enter Try.func42, Try.ntmps42
  go_wp2_with fail
  go_ret2
  exact ⟨rfl, rfl⟩
def inRing (st : SSt) (g : Int) (i : Nat) : Bool := (allS st i).contains g
def whereV (st : SSt) (n : Nat) (g : Int) : Int := match firstP (inRing st g) n with
  | some i => i
  | none => if st.com.contains g then -1 else 0
def whereB (st : SSt) (n : Nat) (g : Int) : Bool := match firstP (inRing st g) n with
  | some _ => true
  | none => st.com.contains g
theorem schWhere (g : Int) (h : SchedAt w s c vs v X st) (hn : X.length ≤ 100) (hl : st.com.length ≤ 100000) :
    Calls Try.prog 42 #[.pointer (some ⟨s, 0, none⟩), .int .i64 g] w fun e w' => e = .returned (.tuple #[.int .i64 (whereV st X.length g), .bool (whereB st X.length g)]) ∧ Ch [] w w' := by
  obtain ⟨n, hnn⟩ : ∃ n, X.length = n := ⟨_, rfl⟩
  have hrow : ∀ wr, Ch [] w wr → wr.cell? ⟨s, 0, none⟩ = some vs ∧ wr.cell? ⟨s, 1, none⟩ = some (.pointer (some ⟨c, 0, none⟩)) ∧ PtS wr 22 vs X := fun wr hc => ⟨(h.ch hc).top.cell 0, (h.ch hc).top.cell 1, (h.ch hc).rs⟩
  have hall : ∀ wr i x, Ch [] w wr → X[i]? = some x → Calls Try.prog 20 #[.pointer (some ⟨x, 0, none⟩)] wr fun e w' => ∃ v', e = .returned v' ∧ OwI w' wr.heap.size v' (allS st i) ∧ Ch [] wr w' := fun wr i x hc hx => ringAll x _ _ _ wr ((h.ch hc).ring i x hx)
  have hcom : ∀ wr, Ch [] w wr → Calls Try.prog 38 #[.pointer (some ⟨c, 0, none⟩)] wr fun e w' => ∃ v', e = .returned v' ∧ Own w' 3 1 v' st.com.length (st.com.map (Value.int .i64)) ∧ Ch [] wr w' := fun wr hc => qAll c v st.com wr (h.ch hc).q hl
  have hlen : ∀ i, i < n → (allS st i).length ≤ 257 := fun i hi => by
    have := h.rowLe (i := i) (by omega)
    have := allS_len st i
    omega
  rw [hnn]
  obtain ⟨a, cap, rfl, _⟩ := h.rs.form
  rw [hnn] at hrow
  have q0 := (hrow w (Ch.refl _ _)).1
  have HN := Lib.hid hnn
  have HROW := Lib.hid hrow
  have HALL := Lib.hid hall
  have HCOM := Lib.hid hcom
  have HLEN := Lib.hid hlen
  have hnb : n ≤ 100 := by omega
  clear h hn hnn hrow hall hcom hlen
  go_enter Try.func42, Try.ntmps42
  go_wp2_with fail
  go_loopw [6, 7, 15] (fun s6 s7 s15 wr => ∃ k : Nat, s15 = .int .i64 k ∧ k ≤ n ∧ (∀ j, j < k → inRing st g j = false) ∧ Ch [] w wr) (fun _ _ s15 _ => n - (intOf s15).toNat)
  case atStart => exact ⟨0, rfl, by omega, fun j hj => by omega, Ch.refl _ _⟩
  case round =>
    clear q0
    obtain ⟨k, rfl, hk, hno, hc⟩ := hrel
    have HNO := Lib.hid hno
    clear hno
    by_cases hlt : k < n
    · have t1 : decide ((k : Int) < n) = true := decide_eq_true (by omega)
      obtain ⟨x, hx⟩ : ∃ x, X[k]? = some x := ⟨_, List.getElem?_eq_getElem (by have := HN.out; omega)⟩
      obtain ⟨g0, o0, e0, d0⟩ := (HROW.out wr hc).2.2.at hx
      subst e0
      unfold ptrV at d0
      have hA := HALL.out wr k x hc hx
      have hle := HLEN.out k hlt
      have v1 : (k : Int) < n := by omega
      have v2 : (0 : Int) ≤ k := by omega
      obtain ⟨L, hL⟩ : ∃ L, allS st k = L := ⟨_, rfl⟩
      have hin : inRing st g k = L.contains g := by unfold inRing; rw [hL]
      rw [hL] at hA hle
      have HIN := Lib.hid hin
      clear hx hL hin
      go_wp2_with fail
      refine hA.mono ?_; rintro e w2 ⟨v2', rfl, o2, c2⟩
      have hc2 := hc.trans c2
      obtain ⟨a2, cap2, rfl, _, _, hrd⟩ := o2.form
      have hct := containsAny a2 L g L.length cap2 w2 hrd rfl (by omega)
      clear hA hc c2 o2
      cases hb : L.contains g with
      | true =>
        rw [hb] at hct
        have e1 : firstP (inRing st g) n = some k := firstP_some (by rw [HIN.out]; exact hb) HNO.out hlt
        have E1 := Lib.hid e1
        clear hb e1 hrd
        go_wp2_with fail
        refine hct.mono ?_; rintro e w3 ⟨rfl, rfl⟩
        clear hct
        go_wp2_with fail
        go_ret2
        exact ⟨by unfold whereV whereB; rw [E1.out]; rfl, hc2⟩
      | false =>
        rw [hb] at hct
        have hno2 : ∀ j, j < k + 1 → inRing st g j = false := fun j hj => by
          by_cases e : j = k
          · subst e; rw [HIN.out]; exact hb
          · exact HNO.out j (by omega)
        have HN2 := Lib.hid hno2
        clear hb hno2 hrd
        go_wp2_with fail
        refine hct.mono ?_; rintro e w3 ⟨rfl, rfl⟩
        clear hct
        go_wp2_with fail
        go_roundw
        case rel => exact ⟨k + 1, by go_num, by omega, HN2.out, hc2⟩
        case measure => simp [intOf]; omega
    · obtain rfl : k = n := by omega
      have t1 : decide ((k : Int) < k) = false := decide_eq_false (by omega)
      have q1 := (HROW.out wr hc).2.1
      have hC := HCOM.out wr hc
      have e1 : firstP (inRing st g) k = none := firstP_none HNO.out
      have E1 := Lib.hid e1
      clear e1
      go_wp2_with fail
      refine hC.mono ?_; rintro e w2 ⟨v2', rfl, o2, c2⟩
      have hc2 := hc.trans c2
      obtain ⟨a2, cap2, rfl, _, _, _, hrd⟩ := o2.rd
      have hct := containsAny a2 st.com g st.com.length cap2 w2 hrd rfl (by omega)
      clear hC hc c2 o2 q1
      cases hb : st.com.contains g with
      | true =>
        rw [hb] at hct
        have HB := Lib.hid hb
        clear hb
        go_wp2_with fail
        refine hct.mono ?_; rintro e w3 ⟨rfl, rfl⟩
        clear hct
        go_wp2_with fail
        go_ret2
        exact ⟨by unfold whereV whereB; rw [E1.out]; simp only [HB.out]; rfl, hc2⟩
      | false =>
        rw [hb] at hct
        have HB := Lib.hid hb
        clear hb
        go_wp2_with fail
        refine hct.mono ?_; rintro e w3 ⟨rfl, rfl⟩
        clear hct
        go_wp2_with fail
        go_ret2
        exact ⟨by unfold whereV whereB; rw [E1.out]; simp only [HB.out]; rfl, hc2⟩
end
end Go.Proofs.Yteghenfdncgpeaa
