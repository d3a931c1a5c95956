/-
  Contracts of package pool: Len. Conditions: none beyond what each theorem names.
-/
import Derived.Test.YtalnkhcippcghaaPool11
import Derived.Test.YtalnkhcippcghaaPoolMath
namespace Go.Proofs.Ytalnkhcippcghaa
open Go.RowKit
theorem poolLenNil (w : World) : Calls Try.prog 43 #[.pointer none] w fun e w' => e = .returned (.int .i64 0) ∧ w' = w := by
  go_enter Try.func43, Try.ntmps43
  go_wp2_with fail
  go_ret
  exact ⟨rfl, rfl⟩
theorem poolFlushedNil (j : Int) (w : World) : Calls Try.prog 36 #[.pointer none, .int .i64 j] w fun e w' => e = .returned (.bool false) ∧ w' = w := by
  go_enter Try.func36, Try.ntmps36
  go_wp2_with fail
  refine (atNil j w).mono ?_; rintro e w1 ⟨rfl, rfl⟩
  go_wp2_with fail
  go_ret
  exact ⟨rfl, rfl⟩
theorem poolGetNil (j : Int) (w : World) : Calls Try.prog 38 #[.pointer none, .int .i64 j] w fun e w' => e = .returned (.tuple #[.int .i64 0, .bool false]) ∧ w' = w := by
  go_enter Try.func38, Try.ntmps38
  go_wp2_with fail
  refine (atNil j w).mono ?_; rintro e w1 ⟨rfl, rfl⟩
  go_wp2_with fail
  go_ret2
  exact ⟨rfl, rfl⟩
theorem sumP_le {g : Nat → Nat} {M : Nat} (h : ∀ j, g j ≤ M) : ∀ n, sumP g n ≤ n * M := by
  intro n
  induction n with
  | zero => simp [sumP]
  | succ n ih => unfold sumP; have := h n; rw [Nat.succ_mul]; omega
theorem sumP_wtF (f : List Int → Nat) (C : Nat → List Int) (l : List Nat) : sumP (fun k => f (C (l.getD k 0))) l.length = wtF f (l.map C) := by
  generalize hn : l.length = n
  induction n generalizing l with
  | zero =>
    have : l = [] := List.eq_nil_of_length_eq_zero hn
    subst this; rfl
  | succ n ih =>
    rcases List.eq_nil_or_concat l with e | ⟨l', b, e⟩
    · subst e; cases hn
    · rw [List.concat_eq_append] at e
      subst e
      have hl : l'.length = n := by simpa using hn
      rw [List.map_append, List.map_cons, List.map_nil, wtF_push, ← ih l' hl]
      show sumP _ n + f (C ((l' ++ [b]).getD n 0)) = _
      rw [sumP_congr (g := fun k => f (C (l'.getD k 0))) n (fun j hj => by
        show f (C ((l' ++ [b]).getD j 0)) = f (C (l'.getD j 0))
        rw [List.getD_eq_getElem?_getD, List.getD_eq_getElem?_getD, List.getElem?_append_left (by omega)])]
      have : (l' ++ [b]).getD n 0 = b := by rw [List.getD_eq_getElem?_getD, ← hl]; simp
      rw [this]
section
variable {w w2 : World} {B p n i : Nat} {vs vf ve : Value} {X F E E' : List Nat} {O T : Nat → Nat} {Fl : Nat → Bool} {C C' : Nat → List Int} {s : PSt} {loc : Nat → Nat}
theorem Rep.rows (hr : Rep n O T F E C loc s) : F.map C = s.full := by
  apply List.ext_getElem?
  intro k
  rw [List.getElem?_map]
  cases hk : F[k]? with
  | none =>
    have h1 := List.getElem?_eq_none_iff.1 hk
    rw [hr.fl] at h1
    rw [List.getElem?_eq_none_iff.2 h1]; rfl
  | some b => rw [hr.full k b hk]; rfl
set_option maxHeartbeats 1000000 in
theorem poolLen (h : PoolAt w p vs vf ve X O T Fl F E C) (hn : X.length ≤ 100) (hF : F.length ≤ 1000) :
    Calls Try.prog 43 #[.pointer (some ⟨p, 0, none⟩)] w fun e w' => e = .returned (.int .i64 (sumP (fun i => (C (O i)).length + (C (T i)).length) X.length + sumP (fun k => (C (F.getD k 0)).length) F.length : Nat)) ∧ Ch [] w w' := by
  have hp0 := h.top.cell 0
  have hp1 := h.top.cell 1
  obtain ⟨a1, cap1, rfl, _⟩ := h.ps.form
  obtain ⟨n, hnn⟩ : ∃ n, X.length = n := ⟨_, rfl⟩
  obtain ⟨m, hm⟩ : ∃ m, F.length = m := ⟨_, rfl⟩
  have hgG : ∃ g G : Nat → Nat, (fun i => (C (O i)).length + (C (T i)).length) = g ∧ (fun k => (C (F.getD k 0)).length) = G := ⟨_, _, rfl, rfl⟩
  obtain ⟨g, G, hg, hG⟩ := hgG
  have hgb : ∀ i, i < n → g i ≤ 64 := fun i hi => by
    have := h.le (List.getElem?_eq_getElem (l := X) (i := i) (by omega))
    rw [← hg]; show _ + _ ≤ _; omega
  have hGb : ∀ k, k < m → G k ≤ 32 := fun k hk => by
    have hk' : k < F.length := by omega
    have := (h.bF F[k] (List.getElem_mem hk')).choose_spec.2.1
    rw [← hG]
    show (C (F.getD k 0)).length ≤ 32
    rw [List.getD_eq_getElem?_getD, List.getElem?_eq_getElem hk']
    exact this
  have hsg : ∀ k, k ≤ n → sumP g k ≤ k * 64 := by
    intro k
    induction k with
    | zero => intro _; simp [sumP]
    | succ k ih => intro hk; have h1 := ih (by omega); have h2 := hgb k (by omega); unfold sumP; omega
  have hsG : ∀ k, k ≤ m → sumP G k ≤ k * 32 := by
    intro k
    induction k with
    | zero => intro _; simp [sumP]
    | succ k ih => intro hk; have h1 := ih (by omega); have h2 := hGb k (by omega); unfold sumP; omega
  have hloc : ∀ wr i, Ch [] w wr → i < n → Calls Try.prog 39 #[.pointer (some ⟨p, 0, none⟩), .int .i64 i] wr fun e w' => e = .returned (.int .i64 (g i)) ∧ Ch [] wr w' := fun wr i hc hi => by
    have := poolLocal i X[i] (h.ch hc) (List.getElem?_eq_getElem (by omega))
    rw [← hg]
    exact this
  have hbl : ∀ wr k b, Ch [] w wr → F[k]? = some b → Calls Try.prog 19 #[.pointer (some ⟨b, 0, none⟩)] wr fun e w' => e = .returned (.int .i64 (G k)) ∧ w' = wr := fun wr k b hc hk => by
    have := bufLen b (C b) wr ((h.ch hc).bF b (List.mem_of_getElem? hk))
    rw [← hG]
    show Calls _ _ _ _ (fun e w' => e = .returned (.int .i64 ((C (F.getD k 0)).length)) ∧ w' = wr)
    rw [List.getD_eq_getElem?_getD, hk]
    exact this
  have hrow : ∀ wr, Ch [] w wr → wr.cell? ⟨p, 0, none⟩ = some (.slice a1 n cap1) ∧ wr.cell? ⟨p, 1, none⟩ = some vf ∧ PtS wr 23 vf F := fun wr hc => by
    have h2 := h.ch hc
    refine ⟨?_, h2.top.cell 1, h2.fu⟩
    have := h2.top.cell 0
    rw [hnn] at this
    exact this
  rw [hnn, hm, hg, hG]
  obtain ⟨q0, q1, _⟩ := hrow w (Ch.refl _ _)
  have HM := Lib.hid hm
  have HROW := Lib.hid hrow
  have HLOC := Lib.hid hloc
  have HBL := Lib.hid hbl
  have HSG := Lib.hid hsg
  have HSN := Lib.hid hsG
  have hnb : n ≤ 100 := by omega
  have hmb : m ≤ 1000 := by omega
  clear h hp0 hp1 hnn hm hg hG hgb hGb hsg hsG hloc hbl hrow hn hF q1
  go_enter Try.func43, Try.ntmps43
  go_wp2_with fail
  go_loopw [3, 4, 14] (fun s3 s4 s14 wr => ∃ k : Nat, s14 = .int .i64 k ∧ k ≤ n ∧ s3 = .int .i64 (sumP g k : Nat) ∧ Ch [] w wr) (fun _ _ s14 _ => n - (intOf s14).toNat)
  case atStart => exact ⟨0, rfl, by omega, rfl, Ch.refl _ _⟩
  case round =>
    obtain ⟨k, rfl, hk, rfl, hc⟩ := hrel
    clear q0
    have hsk := HSG.out k hk
    by_cases hlt : k < n
    · have t1 : decide ((k : Int) < n) = true := decide_eq_true (by omega)
      have hs1 : sumP g (k + 1) = sumP g k + g k := rfl
      have hsk1 := HSG.out (k + 1) hlt
      have hL := HLOC.out wr k hc hlt
      obtain ⟨u, hu⟩ : ∃ u, sumP g k = u := ⟨_, rfl⟩
      obtain ⟨v, hv⟩ : ∃ v, g k = v := ⟨_, rfl⟩
      rw [hu] at hs1 ⊢
      rw [hv] at hs1 hL
      have HS1 := Lib.hid hs1
      have hb : u + v ≤ 10000 := by omega
      clear hs1 hu hv hsk hsk1
      go_wp2_with fail
      refine hL.mono ?_; rintro e w1 ⟨rfl, c1⟩
      clear hL
      have hc1 := hc.trans c1
      clear hc c1
      go_wp2_with fail
      go_roundw
      case rel => exact ⟨k + 1, by go_num, by omega, by rw [HS1.out]; go_num, hc1⟩
      case measure => simp [intOf]; omega
    · obtain rfl : k = n := by omega
      have t1 : decide ((k : Int) < k) = false := decide_eq_false (by omega)
      obtain ⟨_, q1, _⟩ := HROW.out wr hc
      obtain ⟨u, hu⟩ : ∃ u, sumP g k = u := ⟨_, rfl⟩
      rw [hu] at hsk ⊢
      have hub : u ≤ 10000 := by omega
      have HU := Lib.hid hu
      obtain ⟨a, cap, rfl, _⟩ := (HROW.out wr hc).2.2.form
      rw [HM.out] at q1
      clear hsk hu
      go_wp2_with fail
      go_loopw [3, 6, 28] (fun s3 s6 s28 wr => ∃ j : Nat, s28 = .int .i64 j ∧ j ≤ m ∧ s3 = .int .i64 (u + sumP G j : Nat) ∧ Ch [] w wr) (fun _ _ s28 _ => m - (intOf s28).toNat)
      case atStart => exact ⟨0, rfl, by omega, rfl, hc⟩
      case round =>
        clear q1 hc
        obtain ⟨j, rfl, hj, rfl, hc⟩ := hrel
        have hsj := HSN.out j hj
        by_cases hjl : j < m
        · have t2 : decide ((j : Int) < m) = true := decide_eq_true (by omega)
          have hs1 : sumP G (j + 1) = sumP G j + G j := rfl
          have hsj1 := HSN.out (j + 1) hjl
          obtain ⟨b, hb⟩ : ∃ b, F[j]? = some b := ⟨_, List.getElem?_eq_getElem (by have := HM.out; omega)⟩
          obtain ⟨a', cap', he, _, _, hcell⟩ := (HROW.out wr hc).2.2.form
          simp only [Value.slice.injEq] at he
          obtain ⟨rfl, -, rfl⟩ := he
          obtain ⟨g0, o0, rfl, d0⟩ := hcell j b hb
          unfold ptrV at d0
          have hL := HBL.out wr j b hc hb
          obtain ⟨v, hv⟩ : ∃ v, G j = v := ⟨_, rfl⟩
          obtain ⟨y, hy⟩ : ∃ y, sumP G j = y := ⟨_, rfl⟩
          rw [hy] at hs1 ⊢
          rw [hv] at hs1 hL
          have HS1 := Lib.hid hs1
          have hbd : u + y + v ≤ 60000 := by omega
          have v1 : (j : Int) < m := by omega
          have v2 : (0 : Int) ≤ j := by omega
          clear hs1 hy hv hsj hsj1 hcell hb
          go_wp2_with fail
          refine hL.mono ?_; rintro e w1 ⟨rfl, rfl⟩
          clear hL
          go_wp2_with fail
          go_roundw
          case rel => exact ⟨j + 1, by go_num, by omega, by rw [HS1.out]; go_num, hc⟩
          case measure => simp [intOf]; omega
        · obtain rfl : j = m := by omega
          have t2 : decide ((j : Int) < j) = false := decide_eq_false (by omega)
          obtain ⟨y, hy⟩ : ∃ y, sumP G j = y := ⟨_, rfl⟩
          rw [hy] at hsj ⊢
          have HY := Lib.hid hy
          clear hy
          go_wp2_with fail
          go_ret
          exact ⟨by rw [HU.out, HY.out]; rfl, hc⟩
theorem sLen (h : PoolS B w p n s) (hn : n ≤ 100) (hF : s.full.length ≤ 1000) :
    Calls Try.prog 43 #[.pointer (some ⟨p, 0, none⟩)] w fun e w' => e = .returned (.int .i64 (wt List.length s n : Nat)) ∧ Ch [] w w' := by
  obtain ⟨vs, vf, ve, X, O, T, F, E, C, loc, h, hb, hB, hn', hr⟩ := h
  have e : wt List.length s n = sumP (fun i => (C (O i)).length + (C (T i)).length) X.length + sumP (fun k => (C (F.getD k 0)).length) F.length := by
    rw [sumP_wtF List.length C F, hr.rows, hn']
    unfold wt
    rw [sumP_congr (g := fun i => (C (O i)).length + (C (T i)).length) (g' := fun i => (s.one i).length + (s.two i).length) n (fun j hj => by rw [hr.one j hj, hr.two j hj])]
  rw [e]
  exact poolLen h (by omega) (by rw [hr.fl]; exact hF)
end
end Go.Proofs.Ytalnkhcippcghaa
