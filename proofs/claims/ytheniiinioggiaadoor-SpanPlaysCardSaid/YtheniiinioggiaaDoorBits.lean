/-
  Contracts of package bits: a set of small numbers in words. Conditions: none beyond what each theorem names.
-/
import Derived.Test.YtheniiinioggiaaDoorBitMath
import Derived.Test.YtheniiinioggiaaDoorOwI
import Derived.OpenShut
import Derived.Deep.DeepCutAuto
import Derived.Laws.MakeOwn
namespace Go.Proofs.YtheniiinioggiaaDoor
open Go.RowKit
def W64 (x : Nat) : Value := .int .u64 (x : Int)
/-- b is a set below n: S tells who is in it; the words lie in the blocks G (one, or none where n is 0). -/
def SetAt (w : World) (b n : Nat) (S : Nat → Bool) (G : List Nat) : Prop :=
  ∃ (a : Option Addr) (c : Nat) (ws : List Nat), Blk w b #[.int .i64 n, .slice a ws.length c, .int .i64 (cnt S n : Nat)] 66 ∧ ws.length = (n + 63) / 64 ∧ ws.length ≤ c ∧ c ≤ maxLen ∧ n ≤ 16777216 ∧
    (∀ (j x : Nat), ws[j]? = some x → x < 2 ^ 64) ∧ (∀ (i x : Nat), i < n → ws[i / 64]? = some x → x.testBit (i % 64) = S i) ∧
    ((ws = [] ∧ G = []) ∨ ∃ (g o : Nat) (cs : Array Value), G = [g] ∧ a = some ⟨g, o, none⟩ ∧ Blk w g cs 68 ∧ ∀ (j x : Nat), ws[j]? = some x → cs[o + j]? = some (W64 x))
section
variable {w w' : World} {T : List Nat} {b n : Nat} {S : Nat → Bool} {G : List Nat}
theorem SetAt.keep (h : SetAt w b n S G) (hc : Ch T w w') (hb : b ∉ T) (hG : ∀ k ∈ G, k ∉ T) : SetAt w' b n S G := by
  obtain ⟨a, c, ws, h1, h2, h3, h4, h5, h6, h7, h8⟩ := h
  refine ⟨a, c, ws, h1.keep hc hb, h2, h3, h4, h5, h6, h7, ?_⟩
  rcases h8 with h8 | ⟨g, o, cs, rfl, h9, h10, h11⟩
  · exact .inl h8
  · exact .inr ⟨g, o, cs, rfl, h9, h10.keep hc (hG g (by simp)), h11⟩
theorem SetAt.lt (h : SetAt w b n S G) : b < w.heap.size := by
  obtain ⟨a, c, ws, h1, _⟩ := h
  exact h1.lt
theorem SetAt.hi (h : SetAt w b n S G) : ∀ k ∈ G, k < w.heap.size := by
  obtain ⟨a, c, ws, h1, h2, h3, h4, h5, h6, h7, h8⟩ := h
  rcases h8 with ⟨_, rfl⟩ | ⟨g, o, cs, rfl, h9, h10, h11⟩
  · simp
  · intro k hk; simp at hk; subst hk; exact h10.lt
theorem SetAt.apart (h : SetAt w b n S G) : b ∉ G := by
  obtain ⟨a, c, ws, h1, h2, h3, h4, h5, h6, h7, h8⟩ := h
  rcases h8 with ⟨_, rfl⟩ | ⟨g, o, cs, rfl, h9, h10, h11⟩
  · simp
  · intro hk; simp at hk; subst hk; exact absurd rfl (h1.ne h10 (by decide))
theorem SetAt.congr (h : SetAt w b n S G) {U : Nat → Bool} (hU : ∀ k, k < n → S k = U k) : SetAt w b n U G := by
  obtain ⟨a, c, ws, h1, h2, h3, h4, h5, h6, h7, h8⟩ := h
  refine ⟨a, c, ws, ?_, h2, h3, h4, h5, h6, fun i x hi hx => by rw [← hU i hi]; exact h7 i x hi hx, h8⟩
  rw [← cnt_congr n hU]
  exact h1
theorem SetAt.le (h : SetAt w b n S G) : n ≤ 16777216 := by
  obtain ⟨a, c, ws, h1, h2, h3, h4, h5, _⟩ := h
  exact h5
end
def hasI (S : Nat → Bool) (n : Nat) (i : Int) : Bool := decide (0 ≤ i) && (decide (i < n) && S i.toNat)
theorem hasI_in {S : Nat → Bool} {n i : Nat} (h : i < n) : hasI S n i = S i := by
  have h1 : decide ((0 : Int) ≤ (i : Int)) = true := by simp
  have h2 : decide ((i : Int) < (n : Int)) = true := by simp; exact h
  simp only [hasI, h1, h2, Bool.true_and, Int.toNat_natCast]
theorem hasI_out {S : Nat → Bool} {n : Nat} {i : Int} (h : i < 0 ∨ (n : Int) ≤ i) : hasI S n i = false := by
  unfold hasI
  rcases h with h | h
  · rw [show decide ((0 : Int) ≤ i) = false by simp; omega]; rfl
  · rw [show decide (i < (n : Int)) = false by simp; omega]; simp
theorem bitsHasNil (i : Int) (w : World) : Calls Tryd.prog 17 #[.pointer none, .int .i64 i] w fun e w' => e = .returned (.bool false) ∧ w' = w := by
  go_enter Tryd.func17, Tryd.ntmps17
  go_wp2
  go_ret
  exact ⟨rfl, rfl⟩
theorem bitsHasOut (b n : Nat) (S : Nat → Bool) (G : List Nat) (i : Int) (w : World) (h : SetAt w b n S G) (hi : i < 0 ∨ (n : Int) ≤ i) :
    Calls Tryd.prog 17 #[.pointer (some ⟨b, 0, none⟩), .int .i64 i] w fun e w' => e = .returned (.bool false) ∧ w' = w := by
  obtain ⟨a, c, ws, h1, h2, h3, h4, h5, h6, h7, h8⟩ := h
  have c0 := h1.cell 0
  by_cases h0 : i < 0
  · have e0 : decide ((0 : Int) ≤ i) = false := by simp; omega
    clear h1 h2 h3 h4 h6 h7 h8 hi
    go_enter Tryd.func17, Tryd.ntmps17
    go_wp2
    go_ret
    exact ⟨rfl, rfl⟩
  · have e0 : decide ((0 : Int) ≤ i) = true := by simp; omega
    have e1 : decide (i < (n : Int)) = false := by simp; omega
    clear h1 h2 h3 h4 h6 h7 h8 hi
    go_enter Tryd.func17, Tryd.ntmps17
    go_wp2
    go_ret
    exact ⟨rfl, rfl⟩
theorem bitsHasIn (b n : Nat) (S : Nat → Bool) (G : List Nat) (i : Nat) (w : World) (h : SetAt w b n S G) (hi : i < n) :
    Calls Tryd.prog 17 #[.pointer (some ⟨b, 0, none⟩), .int .i64 i] w fun e w' => e = .returned (.bool (S i)) ∧ w' = w := by
  obtain ⟨a, c, ws, h1, h2, h3, h4, h5, h6, h7, h8⟩ := h
  obtain ⟨q, hq⟩ : ∃ q, i / 64 = q := ⟨_, rfl⟩
  obtain ⟨r, hr⟩ : ∃ r, i % 64 = r := ⟨_, rfl⟩
  have hql : q < ws.length := by omega
  obtain ⟨x, hx⟩ : ∃ x, ws[q]? = some x := ⟨ws[q], List.getElem?_eq_getElem hql⟩
  have hb := h7 i x hi (by rw [hq]; exact hx)
  have hf := h6 q x hx
  rcases h8 with ⟨rfl, _⟩ | ⟨g, o, cs, rfl, rfl, h10, h11⟩
  · simp at hql
  have c0 := h1.cell 0
  have c1 := h1.cell 1
  have d1 := (h10.cell (o + q)).trans (h11 q x hx)
  unfold W64 at d1
  obtain ⟨m, hm⟩ : ∃ m, ws.length = m := ⟨_, rfl⟩
  rw [hm] at c1 h2 hql h3
  rw [hr] at hb
  have hrl : r < 64 := by omega
  have hv := word_has x r hf hrl
  rw [hb, Int.natCast_ediv, Int.natCast_pow] at hv
  have e0 : decide ((0 : Int) ≤ i) = true := by simp
  have e1' : decide ((i : Int) < n) = true := by simp; omega
  have e2 : (i : Int) / 64 = (q : Int) := by omega
  have e3 : (i : Int) % 64 = (r : Int) := by omega
  have e4 : (q : Int) < m := by omega
  have e5 : (0 : Int) ≤ q := by omega
  have e6 : (r : Int) < 64 := by omega
  have e7 : (0 : Int) ≤ r := by omega
  have HV := Lib.hid hv
  have HF := Lib.hid hf
  clear hx hb hf h1 h2 h3 h4 h6 h7 h10 h11 hm hq hr hv
  go_enter Tryd.func17, Tryd.ntmps17
  go_wp2_with fail
  go_ret
  refine ⟨?_, rfl⟩
  have hv := HV.out
  rw [show ((2 : Nat) : Int) = 2 from rfl] at hv
  rw [hv]
  cases S i <;> rfl
theorem bitsTurn (b n : Nat) (S : Nat → Bool) (G : List Nat) (i : Nat) (v : Bool) (m : Int) (w : World) (h : SetAt w b n S G) (hi : i < n) (hv : S i = !v) (hm : m = if v then 1 else -1) :
    Calls Tryd.prog 51 #[.pointer (some ⟨b, 0, none⟩), .int .i64 i, .int .i64 m] w fun e w' => e = .returned (.tuple #[]) ∧ SetAt w' b n (upd S i v) G ∧ Ch (b :: G) w w' := by
  obtain ⟨a, c, ws, h1, h2, h3, h4, h5, h6, h7, h8⟩ := h
  obtain ⟨q, hq⟩ : ∃ q, i / 64 = q := ⟨_, rfl⟩
  obtain ⟨r, hr⟩ : ∃ r, i % 64 = r := ⟨_, rfl⟩
  have hql : q < ws.length := by omega
  obtain ⟨x, hx⟩ : ∃ x, ws[q]? = some x := ⟨ws[q], List.getElem?_eq_getElem hql⟩
  have hf := h6 q x hx
  rcases h8 with ⟨rfl, _⟩ | ⟨g, o, cs, rfl, rfl, h10, h11⟩
  · simp at hql
  have hbg : b ≠ g := h1.ne h10 (by decide)
  have c1 := h1.cell 1
  have c2 := h1.cell 2
  have f2 := h1.frozen 2
  have d1 := (h10.cell (o + q)).trans (h11 q x hx)
  have d2 := h10.frozen (o + q)
  unfold W64 at d1
  have hrl : r < 64 := by omega
  obtain ⟨t1, t2, t3⟩ := word_turn x r hf hrl
  have hcu := cnt_upd S n i hi v
  have hle := cnt_le S n
  have hle2 := cnt_le (upd S i v) n
  obtain ⟨C, hC⟩ : ∃ C, cnt S n = C := ⟨_, rfl⟩
  obtain ⟨C', hC'⟩ : ∃ C', cnt (upd S i v) n = C' := ⟨_, rfl⟩
  obtain ⟨y, hy⟩ : ∃ y, x ^^^ 2 ^ r = y := ⟨_, rfl⟩
  rw [hy] at t1 t2
  rw [hC] at c2 hcu hle h1
  rw [hC'] at hcu hle2
  have hCC : (C : Int) + m = C' := by
    rw [hm]
    cases v <;> simp [hv] at hcu ⊢ <;> omega
  have hwr : wrap64 ((C : Int) + m) = C' := by rw [hCC]; exact IntWalk.wrap64_in _ (by omega)
  obtain ⟨k, hk⟩ : ∃ k, ws.length = k := ⟨_, rfl⟩
  have c1' := c1
  rw [hk] at c1
  have e2 : (i : Int) / 64 = (q : Int) := by omega
  have e3 : (i : Int) % 64 = (r : Int) := by omega
  have e4 : (q : Int) < k := by omega
  have e5 : (0 : Int) ≤ q := by omega
  have e6 : (r : Int) < 64 := by omega
  have e7 : (0 : Int) ≤ r := by omega
  have HT1 := Lib.hid t1
  have HT3 := Lib.hid t3
  have HY := Lib.hid hy
  have HC := Lib.hid hC
  have HC' := Lib.hid hC'
  have H1 := Lib.hid h1
  have H2 := Lib.hid h2
  have H7 := Lib.hid h7
  have HX := Lib.hid hx
  have HQ := Lib.hid hq
  have HR := Lib.hid hr
  have HK := Lib.hid hk
  have HV := Lib.hid hv
  have HM := Lib.hid hm
  clear t1 t3 hy hC hC' h1 h2 h7 hx hq hr hk hv hm hcu c1' hCC
  go_enter Tryd.func51, Tryd.ntmps51
  go_wp2_with fail
  go_end0
  have hw : IntKind.u64.wrap ((2 : Int) ^ r) = ((2 ^ r : Nat) : Int) := by
    have h2 : (2 : Nat) ^ r < 2 ^ 64 := Nat.pow_lt_pow_right (by omega) hrl
    have e : ((2 : Int) ^ r) = ((2 ^ r : Nat) : Int) := by rw [Int.natCast_pow]; rfl
    rw [e, IntKind.wrap_u64]
    generalize (2 : Nat) ^ r = P at h2 ⊢
    omega
  rw [hw, HT1.out]
  obtain ⟨w2, hw2⟩ : ∃ w2, w.setCell ⟨g, o + q, none⟩ (.int .u64 (y : Int)) = w2 := ⟨_, rfl⟩
  rw [hw2]
  have hql' : q < ws.length := hql
  have bb2 : Blk w2 b #[.int .i64 n, .slice (some ⟨g, o, none⟩) ws.length c, .int .i64 C] 66 := by rw [← hw2]; exact H1.out.setOther hbg _
  have bg2 : Blk w2 g (cs.setIfInBounds (o + q) (W64 y)) 68 := by rw [← hw2]; exact h10.set (o + q) _
  have bb3 := bb2.set 2 (.int .i64 (C' : Int))
  have bg3 := bg2.setOther (p := ⟨b, 2, none⟩) (fun e => hbg e.symm) (.int .i64 (C' : Int))
  have cc : Ch [b, g] w w2 := by rw [← hw2]; exact (Ch.refl _ _).setCell (.inl (by simp)) _
  have hqc : o + q < cs.size := by
    have := h11 q x HX.out
    exact (Array.getElem?_eq_some_iff.1 this).1
  refine ⟨rfl, ⟨some ⟨g, o, none⟩, c, ws.set q y, ?_, ?_, ?_, h4, h5, ?_, ?_, .inr ⟨g, o, _, rfl, rfl, bg3, ?_⟩⟩, cc.setCell (.inl (by simp)) _⟩
  · rw [List.length_set, HC'.out]
    exact bb3
  · rw [List.length_set]; exact H2.out
  · rw [List.length_set]; exact h3
  · intro j x' hx'
    by_cases hj : j = q
    · subst hj
      rw [List.getElem?_set_self hql'] at hx'
      cases hx'
      exact t2
    · rw [List.getElem?_set_ne (fun e => hj e.symm)] at hx'
      exact h6 j x' hx'
  · intro i' x' hi' hx'
    by_cases hj : i' / 64 = q
    · rw [hj, List.getElem?_set_self hql'] at hx'
      cases hx'
      rw [← HY.out, HT3.out, H7.out i' x hi' (by rw [hj]; exact HX.out)]
      have h1 := HQ.out
      have h2 := HR.out
      by_cases hii : i' = i
      · subst hii
        have h3 := HV.out
        simp only [upd, if_pos, h2, decide_true, h3]
        cases v <;> rfl
      · have : ¬ r = i' % 64 := by omega
        simp [upd, hii, this]
    · rw [List.getElem?_set_ne (fun e => hj e.symm)] at hx'
      have h1 := HQ.out
      have hii : i' ≠ i := by omega
      rw [H7.out i' x' hi' hx']
      simp [upd, hii]
  · intro j x' hx'
    by_cases hj : j = q
    · subst hj
      rw [List.getElem?_set_self hql'] at hx'
      cases hx'
      simp [hqc]
    · rw [List.getElem?_set_ne (fun e => hj e.symm)] at hx'
      rw [Array.getElem?_setIfInBounds_ne (fun e => hj (by omega))]
      exact h11 j x' hx'
theorem bitsSetNil (i : Int) (w : World) : Calls Tryd.prog 15 #[.pointer none, .int .i64 i] w fun e w' => e = .returned (.bool false) ∧ w' = w := by
  go_enter Tryd.func15, Tryd.ntmps15
  go_wp2
  go_ret
  exact ⟨rfl, rfl⟩
theorem bitsSetNo (b n : Nat) (S : Nat → Bool) (G : List Nat) (i : Int) (w : World) (h : SetAt w b n S G) (hi : i < 0 ∨ (n : Int) ≤ i ∨ hasI S n i = true) :
    Calls Tryd.prog 15 #[.pointer (some ⟨b, 0, none⟩), .int .i64 i] w fun e w' => e = .returned (.bool false) ∧ w' = w := by
  have hS := h
  obtain ⟨a, c, ws, h1, h2, h3, h4, h5, h6, h7, h8⟩ := h
  have c0 := h1.cell 0
  by_cases h0 : i < 0
  · have e0 : decide (i < 0) = true := by simp; omega
    clear h1 h2 h3 h4 h6 h7 h8 hi hS
    go_enter Tryd.func15, Tryd.ntmps15
    go_wp2
    go_ret
    exact ⟨rfl, rfl⟩
  · have e0 : decide (i < 0) = false := by simp; omega
    by_cases hn : (n : Int) ≤ i
    · have e1 : decide ((n : Int) ≤ i) = true := by simp; omega
      clear h1 h2 h3 h4 h6 h7 h8 hi hS
      go_enter Tryd.func15, Tryd.ntmps15
      go_wp2
      go_ret
      exact ⟨rfl, rfl⟩
    · have e1 : decide ((n : Int) ≤ i) = false := by simp; omega
      obtain ⟨k, rfl⟩ : ∃ k : Nat, i = k := ⟨i.toNat, by omega⟩
      have hk : k < n := by omega
      have hSk : S k = true := by
        rcases hi with hi | hi | hi
        · omega
        · omega
        · rw [hasI_in hk] at hi; exact hi
      have hH := bitsHasIn b n S G k w hS hk
      rw [hSk] at hH
      clear h1 h2 h3 h4 h6 h7 h8 hi hS hSk
      go_enter Tryd.func15, Tryd.ntmps15
      go_wp2_with fail
      refine hH.mono ?_; rintro e w' ⟨rfl, rfl⟩
      go_wp2
      go_ret
      exact ⟨rfl, rfl⟩
theorem bitsSetNew (b n : Nat) (S : Nat → Bool) (G : List Nat) (i : Nat) (w : World) (h : SetAt w b n S G) (hi : i < n) (hS : S i = false) :
    Calls Tryd.prog 15 #[.pointer (some ⟨b, 0, none⟩), .int .i64 i] w fun e w' => e = .returned (.bool true) ∧ SetAt w' b n (upd S i true) G ∧ Ch (b :: G) w w' := by
  have hT := bitsTurn b n S G i true 1 w h hi (by rw [hS]; rfl) rfl
  have hH := bitsHasIn b n S G i w h hi
  rw [hS] at hH
  obtain ⟨a, c, ws, h1, h2, h3, h4, h5, h6, h7, h8⟩ := h
  have c0 := h1.cell 0
  have e0 : decide ((i : Int) < 0) = false := decide_eq_false (by omega)
  have e1 : decide ((n : Int) ≤ i) = false := decide_eq_false (by omega)
  clear h1 h2 h3 h4 h6 h7 h8
  go_enter Tryd.func15, Tryd.ntmps15
  go_wp2_with fail
  refine hH.mono ?_; rintro e w' ⟨rfl, rfl⟩
  clear hH
  go_wp2_with fail
  refine hT.mono ?_; rintro e w2 ⟨rfl, h3, h4⟩
  clear hT
  go_wp2
  go_ret
  exact ⟨rfl, h3, h4⟩
theorem bitsClearNil (i : Int) (w : World) : Calls Tryd.prog 20 #[.pointer none, .int .i64 i] w fun e w' => e = .returned (.bool false) ∧ w' = w := by
  have hH := bitsHasNil i w
  go_enter Tryd.func20, Tryd.ntmps20
  go_wp2_with fail
  refine hH.mono ?_; rintro e w' ⟨rfl, rfl⟩
  go_wp2
  go_ret
  exact ⟨rfl, rfl⟩
theorem bitsHas (b n : Nat) (S : Nat → Bool) (G : List Nat) (i : Int) (w : World) (h : SetAt w b n S G) :
    Calls Tryd.prog 17 #[.pointer (some ⟨b, 0, none⟩), .int .i64 i] w fun e w' => e = .returned (.bool (hasI S n i)) ∧ w' = w := by
  by_cases hi : i < 0 ∨ (n : Int) ≤ i
  · rw [hasI_out hi]
    exact bitsHasOut b n S G i w h hi
  · obtain ⟨k, rfl⟩ : ∃ k : Nat, i = k := ⟨i.toNat, by omega⟩
    rw [hasI_in (by omega)]
    exact bitsHasIn b n S G k w h (by omega)
theorem bitsClearNo (b n : Nat) (S : Nat → Bool) (G : List Nat) (i : Int) (w : World) (h : SetAt w b n S G) (hi : hasI S n i = false) :
    Calls Tryd.prog 20 #[.pointer (some ⟨b, 0, none⟩), .int .i64 i] w fun e w' => e = .returned (.bool false) ∧ w' = w := by
  have hH := bitsHas b n S G i w h
  rw [hi] at hH
  clear h hi
  go_enter Tryd.func20, Tryd.ntmps20
  go_wp2_with fail
  refine hH.mono ?_; rintro e w' ⟨rfl, rfl⟩
  go_wp2
  go_ret
  exact ⟨rfl, rfl⟩
theorem bitsClearYes (b n : Nat) (S : Nat → Bool) (G : List Nat) (i : Nat) (w : World) (h : SetAt w b n S G) (hi : i < n) (hS : S i = true) :
    Calls Tryd.prog 20 #[.pointer (some ⟨b, 0, none⟩), .int .i64 i] w fun e w' => e = .returned (.bool true) ∧ SetAt w' b n (upd S i false) G ∧ Ch (b :: G) w w' := by
  have hT := bitsTurn b n S G i false (-1) w h hi (by rw [hS]; rfl) rfl
  have hH := bitsHasIn b n S G i w h hi
  rw [hS] at hH
  clear h
  go_enter Tryd.func20, Tryd.ntmps20
  go_wp2_with fail
  refine hH.mono ?_; rintro e w' ⟨rfl, rfl⟩
  clear hH
  go_wp2_with fail
  refine hT.mono ?_; rintro e w2 ⟨rfl, h3, h4⟩
  clear hT
  go_wp2
  go_ret
  exact ⟨rfl, h3, h4⟩
theorem bitsLenNil (w : World) : Calls Tryd.prog 21 #[.pointer none] w fun e w' => e = .returned (.int .i64 0) ∧ w' = w := by
  go_enter Tryd.func21, Tryd.ntmps21
  go_wp2
  go_ret
  exact ⟨rfl, rfl⟩
theorem bitsLen (b n : Nat) (S : Nat → Bool) (G : List Nat) (w : World) (h : SetAt w b n S G) : Calls Tryd.prog 21 #[.pointer (some ⟨b, 0, none⟩)] w fun e w' => e = .returned (.int .i64 n) ∧ w' = w := by
  obtain ⟨a, c, ws, h1, h2, h3, h4, h5, h6, h7, h8⟩ := h
  have c0 := h1.cell 0
  clear h1 h2 h3 h4 h6 h7 h8
  go_enter Tryd.func21, Tryd.ntmps21
  go_wp2
  go_ret
  exact ⟨rfl, rfl⟩
theorem bitsCountNil (w : World) : Calls Tryd.prog 18 #[.pointer none] w fun e w' => e = .returned (.int .i64 0) ∧ w' = w := by
  go_enter Tryd.func18, Tryd.ntmps18
  go_wp2
  go_ret
  exact ⟨rfl, rfl⟩
theorem bitsCount (b n : Nat) (S : Nat → Bool) (G : List Nat) (w : World) (h : SetAt w b n S G) : Calls Tryd.prog 18 #[.pointer (some ⟨b, 0, none⟩)] w fun e w' => e = .returned (.int .i64 (cnt S n : Nat)) ∧ w' = w := by
  obtain ⟨a, c, ws, h1, h2, h3, h4, h5, h6, h7, h8⟩ := h
  have c0 := h1.cell 2
  clear h1 h2 h3 h4 h6 h7 h8
  go_enter Tryd.func18, Tryd.ntmps18
  go_wp2
  go_ret
  exact ⟨rfl, rfl⟩
/-- The library's table, as its own text lays it. -/
def TabW (w : World) : Prop := 0 < w.heap.size ∧ ∀ j, j < Lib.deBruijn64tab.length → w.cell? ⟨0, j, none⟩ = some (.int .u8 ((Lib.deBruijn64tab.getD j 0 : Nat) : Int))
theorem TabW.keep {w w' : World} {T : List Nat} (h : TabW w) (hc : Ch T w w') (hT : ∀ k ∈ T, 0 < k) : TabW w' :=
  ⟨Nat.lt_of_lt_of_le h.1 hc.size, fun j hj => (((hc.below (B := 1) (Nat.succ_le_of_lt h.1) (fun k hk => hT k hk)).cell (p := ⟨0, j, none⟩) (Nat.zero_lt_one)).trans (h.2 j hj))⟩
theorem tz (y : Nat) (w : World) (hy : y < 18446744073709551616) (h0 : y ≠ 0) (hT : TabW w) :
    Calls Tryd.prog 52 #[.int .u64 y] w fun e w' => e = .returned (.int .i64 (Lib.ctz 64 y : Nat)) ∧ w' = w := by
  obtain ⟨hlow, hk⟩ := Lib.lowest_bit 64 y h0 hy
  obtain ⟨hi, htab⟩ := Lib.deBruijn64_at _ hk
  have hcell := hT.2 _ hi
  rw [htab] at hcell
  have key : IntKind.u64.wrap (bits BinOp.and IntKind.u64 (y : Int) (IntKind.u64.wrap (-(y : Int))) * 285870213051353865) / 288230376151711744 = ((2 ^ Lib.ctz 64 y * 285870213051353865 % 18446744073709551616 / 288230376151711744 : Nat) : Int) := by
    have e1 : IntKind.u64.wrap (-(y : Int)) = ((18446744073709551616 - y : Nat) : Int) := by rw [IntKind.wrap_u64]; omega
    rw [e1, bits_and_u64_nat y _ hy (by omega), show y &&& (18446744073709551616 - y) = 2 ^ Lib.ctz 64 y from hlow, IntKind.wrap_u64]
    generalize (2 : Nat) ^ Lib.ctz 64 y = P
    omega
  obtain ⟨k, hkk⟩ : ∃ k, Lib.ctz 64 y = k := ⟨_, rfl⟩
  rw [hkk] at hcell hk hi key ⊢
  obtain ⟨ix, hix⟩ : ∃ ix, 2 ^ k * 285870213051353865 % 18446744073709551616 / 288230376151711744 = ix := ⟨_, rfl⟩
  rw [hix] at hcell hi key
  have hx0 : ((y : Int) == 0) = false := by rw [beq_eq_false_iff_ne]; omega
  have hi' : ix < 64 := hi
  clear hT hlow htab hkk hix h0
  go_enter Tryd.func52, Tryd.ntmps52
  go_wp2_with (simp only [key])
  go_ret
  exact ⟨rfl, rfl⟩
theorem bitsNextNil (i : Int) (v : Bool) (w : World) : Calls Tryd.prog 16 #[.pointer none, .int .i64 i, .bool v] w fun e w' => e = .returned (.int .i64 (-1)) ∧ w' = w := by
  go_enter Tryd.func16, Tryd.ntmps16
  go_wp2
  go_ret
  exact ⟨rfl, rfl⟩
theorem bitsNextPast (b n : Nat) (S : Nat → Bool) (G : List Nat) (i : Int) (v : Bool) (w : World) (h : SetAt w b n S G) (hi : (n : Int) ≤ i) :
    Calls Tryd.prog 16 #[.pointer (some ⟨b, 0, none⟩), .int .i64 i, .bool v] w fun e w' => e = .returned (.int .i64 (-1)) ∧ w' = w := by
  obtain ⟨a, c, ws, h1, h2, h3, h4, h5, h6, h7, h8⟩ := h
  have c0 := h1.cell 0
  have e1 : decide ((n : Int) ≤ i) = true := decide_eq_true (by omega)
  clear h1 h2 h3 h4 h6 h7 h8
  go_enter Tryd.func16, Tryd.ntmps16
  go_wp2
  go_ret
  exact ⟨rfl, rfl⟩
theorem bitsNextIn (b n : Nat) (S : Nat → Bool) (G : List Nat) (i0 : Nat) (v : Bool) (i : Int) (w : World) (h : SetAt w b n S G) (hi : i < (n : Int)) (hii : i0 = i.toNat) (hT : TabW w) :
    Calls Tryd.prog 16 #[.pointer (some ⟨b, 0, none⟩), .int .i64 i, .bool v] w fun e w' => e = .returned (.int .i64 (nxt S n i0 v)) ∧ w' = w := by
  obtain ⟨a, c, ws, h1, h2, h3, h4, h5, h6, h7, h8⟩ := h
  have c0 := h1.cell 0
  have c1 := h1.cell 1
  have e1 : decide ((n : Int) ≤ i) = false := decide_eq_false (by omega)
  obtain ⟨m, hm⟩ : ∃ m, ws.length = m := ⟨_, rfl⟩
  rw [hm] at c1 h2
  have H6 := Lib.hid h6
  have H7 := Lib.hid h7
  have H8 := Lib.hid h8
  have HM := Lib.hid hm
  have H2 := Lib.hid h2
  have HT := Lib.hid hT
  clear h1 h3 h4 h6 h7 h8 hm h2 hT
  by_cases h0 : i < 0
  · obtain rfl : i0 = 0 := by omega
    clear hii
    go_enter Tryd.func16, Tryd.ntmps16
    go_wp2_with fail
    go_loop [1, 7] (fun s1 s7 => ∃ k : Nat, s1 = .int .i64 k ∧ 0 ≤ k ∧ k ≤ n + 63 ∧ Hid (∀ j, 0 ≤ j → j < k → j < n → S j ≠ v)) (fun s1 _ => n + 64 - (intOf s1).toNat)
    case atStart => exact ⟨0, rfl, by omega, by omega, Lib.hid (fun j h1 h2 h3 => by omega)⟩
    case round =>
      obtain ⟨k, rfl, hk0, hk63, HJ⟩ := hrel
      by_cases hlt : k < n
      · obtain ⟨q, hq⟩ : ∃ q, k / 64 = q := ⟨_, rfl⟩
        obtain ⟨r, hr⟩ : ∃ r, k % 64 = r := ⟨_, rfl⟩
        have h2 := H2.out
        have hqm : q < m := by omega
        have hql : q < ws.length := by rw [HM.out]; exact hqm
        obtain ⟨x, hx⟩ : ∃ x, ws[q]? = some x := ⟨ws[q], List.getElem?_eq_getElem hql⟩
        rcases H8.out with ⟨h8, _⟩ | ⟨g, o, cs, _, rfl, h10, h11⟩
        · rw [h8] at hql; simp at hql
        have d1 := (h10.cell (o + q)).trans (h11 q x hx)
        unfold W64 at d1
        have hrl : r < 64 := by omega
        obtain ⟨Y, hY⟩ : ∃ Y, (if v then x else 2 ^ 64 - 1 - x) / 2 ^ r = Y := ⟨_, rfl⟩
        have hx64 := H6.out q x hx
        have hws := word_step S n v x q r Y hx64 hrl (fun t ht htn => by
          have := H7.out (64 * q + t) x htn (by rw [show (64 * q + t) / 64 = q by omega]; exact hx)
          rw [show (64 * q + t) % 64 = t by omega] at this
          exact this) hY.symm
        obtain ⟨y1, y2, y3⟩ := hws
        have hkqr : 64 * q + r = k := by omega
        rw [hkqr] at y2 y3
        have e2 : (k : Int) / 64 = (q : Int) := by omega
        have e3 : (k : Int) % 64 = (r : Int) := by omega
        have e4 : (q : Int) < m := by omega
        have e5 : (0 : Int) ≤ q := by omega
        have e6 : (r : Int) < 64 := by omega
        have e7 : (0 : Int) ≤ r := by omega
        have t1 : decide ((k : Int) < n) = true := decide_eq_true (by omega)
        have Y2 := Lib.hid y2
        have Y3 := Lib.hid y3
        have HY := Lib.hid hY
        have HX := Lib.hid hx64
        have HQ := Lib.hid hkqr
        clear hx h10 h11 y2 y3 hY h2 hq hr hkqr
        obtain ⟨X, hX⟩ : ∃ X, 2 ^ 64 - 1 - x = X := ⟨_, rfl⟩
        have hx1 : bits BinOp.xor IntKind.u64 IntKind.u64.max (x : Int) = (X : Int) := by rw [← hX]; exact word_not x HX.out
        have hx2 : bits BinOp.xor IntKind.u64 (if IntKind.u64.signed = true then -1 else IntKind.u64.max) (x : Int) = (X : Int) := hx1
        have hy : (if v then (x : Int) else (X : Int)) / 2 ^ r = (Y : Int) := by
          have h := HY.out
          rw [hX] at h
          rw [← h, Int.natCast_ediv, Int.natCast_pow]
          cases v <;> rfl
        clear hX
        by_cases hY0 : Y = 0
        · have hb : ((Y : Int) != 0) = false := by rw [hY0]; rfl
          have hjj := Y2.out hY0
          have HJ2 := Lib.hid hjj
          clear hjj hY0
          cases v with
          | true =>
            simp only [if_true] at hy
            go_wp2_with fail
            go_round
            case rel => exact ⟨(q + 1) * 64, by go_num, by have := HQ.out; omega, by have := HQ.out; omega, Lib.hid (fun j h1 h2 h3 => by
              by_cases h4 : j < k
              · exact HJ.out j h1 h4 h3
              · exact HJ2.out j (by omega) (by have := HQ.out; omega) h3)⟩
            case measure => have := HQ.out; simp [intOf]; omega
          | false =>
            simp only [Bool.false_eq_true, if_false] at hy
            go_wp2_with fail
            go_round
            case rel => exact ⟨(q + 1) * 64, by go_num, by have := HQ.out; omega, by have := HQ.out; omega, Lib.hid (fun j h1 h2 h3 => by
              by_cases h4 : j < k
              · exact HJ.out j h1 h4 h3
              · exact HJ2.out j (by omega) (by have := HQ.out; omega) h3)⟩
            case measure => have := HQ.out; simp [intOf]; omega
        · have hb : ((Y : Int) != 0) = true := by rw [bne_iff_ne]; omega
          obtain ⟨z1, z2, z3⟩ := Y3.out hY0
          have hz := tz Y w (by omega) hY0 HT.out
          obtain ⟨t, ht⟩ : ∃ t, Lib.ctz 64 Y = t := ⟨_, rfl⟩
          rw [ht] at z1 z2 z3 hz
          have HZ := Lib.hid hz
          have HZ3 := Lib.hid z3
          have HZ2 := Lib.hid z2
          clear ht hz z3 z2 hY0
          by_cases hkt : k + t < n
          · have u1 : decide ((k : Int) + t < n) = true := decide_eq_true (by omega)
            have hres : nxt S n 0 v = ((k + t : Nat) : Int) := nxt_at hkt (by omega) (HZ2.out hkt) (fun j h1 h2 => by
              by_cases h4 : j < k
              · exact HJ.out j h1 h4 (by omega)
              · exact HZ3.out j (by omega) h2 (by omega))
            have HR := Lib.hid hres
            clear hres
            cases v with
            | true =>
              simp only [if_true] at hy
              go_wp2_with fail
              refine HZ.out.mono ?_; rintro e w' ⟨rfl, rfl⟩
              go_wp2_with fail
              go_ret
              exact ⟨by rw [HR.out, Int.natCast_add]; rfl, rfl⟩
            | false =>
              simp only [Bool.false_eq_true, if_false] at hy
              go_wp2_with fail
              refine HZ.out.mono ?_; rintro e w' ⟨rfl, rfl⟩
              go_wp2_with fail
              go_ret
              exact ⟨by rw [HR.out, Int.natCast_add]; rfl, rfl⟩
          · have u1 : decide ((k : Int) + t < n) = false := decide_eq_false (by omega)
            have hres : nxt S n 0 v = -1 := nxt_none (fun j h1 h2 => by
              by_cases h4 : j < k
              · exact HJ.out j h1 h4 h2
              · exact HZ3.out j (by omega) (by omega) h2)
            have HR := Lib.hid hres
            clear hres
            cases v with
            | true =>
              simp only [if_true] at hy
              go_wp2_with fail
              refine HZ.out.mono ?_; rintro e w' ⟨rfl, rfl⟩
              go_wp2_with fail
              go_ret
              exact ⟨by rw [HR.out]; rfl, rfl⟩
            | false =>
              simp only [Bool.false_eq_true, if_false] at hy
              go_wp2_with fail
              refine HZ.out.mono ?_; rintro e w' ⟨rfl, rfl⟩
              go_wp2_with fail
              go_ret
              exact ⟨by rw [HR.out]; rfl, rfl⟩
      · have t1 : decide ((k : Int) < n) = false := decide_eq_false (by omega)
        go_wp2
        go_ret
        exact ⟨by rw [nxt_none (fun j h1 h2 => HJ.out j h1 (by omega) h2)]; rfl, rfl⟩
  · obtain ⟨i', rfl⟩ : ∃ i' : Nat, i = i' := ⟨i.toNat, by omega⟩
    obtain rfl : i0 = i' := by omega
    clear hii
    go_enter Tryd.func16, Tryd.ntmps16
    go_wp2_with fail
    go_loop [1, 7] (fun s1 s7 => ∃ k : Nat, s1 = .int .i64 k ∧ i0 ≤ k ∧ k ≤ n + 63 ∧ Hid (∀ j, i0 ≤ j → j < k → j < n → S j ≠ v)) (fun s1 _ => n + 64 - (intOf s1).toNat)
    case atStart => exact ⟨i0, rfl, by omega, by omega, Lib.hid (fun j h1 h2 h3 => by omega)⟩
    case round =>
      obtain ⟨k, rfl, hk0, hk63, HJ⟩ := hrel
      by_cases hlt : k < n
      · obtain ⟨q, hq⟩ : ∃ q, k / 64 = q := ⟨_, rfl⟩
        obtain ⟨r, hr⟩ : ∃ r, k % 64 = r := ⟨_, rfl⟩
        have h2 := H2.out
        have hqm : q < m := by omega
        have hql : q < ws.length := by rw [HM.out]; exact hqm
        obtain ⟨x, hx⟩ : ∃ x, ws[q]? = some x := ⟨ws[q], List.getElem?_eq_getElem hql⟩
        rcases H8.out with ⟨h8, _⟩ | ⟨g, o, cs, _, rfl, h10, h11⟩
        · rw [h8] at hql; simp at hql
        have d1 := (h10.cell (o + q)).trans (h11 q x hx)
        unfold W64 at d1
        have hrl : r < 64 := by omega
        obtain ⟨Y, hY⟩ : ∃ Y, (if v then x else 2 ^ 64 - 1 - x) / 2 ^ r = Y := ⟨_, rfl⟩
        have hx64 := H6.out q x hx
        have hws := word_step S n v x q r Y hx64 hrl (fun t ht htn => by
          have := H7.out (64 * q + t) x htn (by rw [show (64 * q + t) / 64 = q by omega]; exact hx)
          rw [show (64 * q + t) % 64 = t by omega] at this
          exact this) hY.symm
        obtain ⟨y1, y2, y3⟩ := hws
        have hkqr : 64 * q + r = k := by omega
        rw [hkqr] at y2 y3
        have e2 : (k : Int) / 64 = (q : Int) := by omega
        have e3 : (k : Int) % 64 = (r : Int) := by omega
        have e4 : (q : Int) < m := by omega
        have e5 : (0 : Int) ≤ q := by omega
        have e6 : (r : Int) < 64 := by omega
        have e7 : (0 : Int) ≤ r := by omega
        have t1 : decide ((k : Int) < n) = true := decide_eq_true (by omega)
        have Y2 := Lib.hid y2
        have Y3 := Lib.hid y3
        have HY := Lib.hid hY
        have HX := Lib.hid hx64
        have HQ := Lib.hid hkqr
        clear hx h10 h11 y2 y3 hY h2 hq hr hkqr
        obtain ⟨X, hX⟩ : ∃ X, 2 ^ 64 - 1 - x = X := ⟨_, rfl⟩
        have hx1 : bits BinOp.xor IntKind.u64 IntKind.u64.max (x : Int) = (X : Int) := by rw [← hX]; exact word_not x HX.out
        have hx2 : bits BinOp.xor IntKind.u64 (if IntKind.u64.signed = true then -1 else IntKind.u64.max) (x : Int) = (X : Int) := hx1
        have hy : (if v then (x : Int) else (X : Int)) / 2 ^ r = (Y : Int) := by
          have h := HY.out
          rw [hX] at h
          rw [← h, Int.natCast_ediv, Int.natCast_pow]
          cases v <;> rfl
        clear hX
        by_cases hY0 : Y = 0
        · have hb : ((Y : Int) != 0) = false := by rw [hY0]; rfl
          have hjj := Y2.out hY0
          have HJ2 := Lib.hid hjj
          clear hjj hY0
          cases v with
          | true =>
            simp only [if_true] at hy
            go_wp2_with fail
            go_round
            case rel => exact ⟨(q + 1) * 64, by go_num, by have := HQ.out; omega, by have := HQ.out; omega, Lib.hid (fun j h1 h2 h3 => by
              by_cases h4 : j < k
              · exact HJ.out j h1 h4 h3
              · exact HJ2.out j (by omega) (by have := HQ.out; omega) h3)⟩
            case measure => have := HQ.out; simp [intOf]; omega
          | false =>
            simp only [Bool.false_eq_true, if_false] at hy
            go_wp2_with fail
            go_round
            case rel => exact ⟨(q + 1) * 64, by go_num, by have := HQ.out; omega, by have := HQ.out; omega, Lib.hid (fun j h1 h2 h3 => by
              by_cases h4 : j < k
              · exact HJ.out j h1 h4 h3
              · exact HJ2.out j (by omega) (by have := HQ.out; omega) h3)⟩
            case measure => have := HQ.out; simp [intOf]; omega
        · have hb : ((Y : Int) != 0) = true := by rw [bne_iff_ne]; omega
          obtain ⟨z1, z2, z3⟩ := Y3.out hY0
          have hz := tz Y w (by omega) hY0 HT.out
          obtain ⟨t, ht⟩ : ∃ t, Lib.ctz 64 Y = t := ⟨_, rfl⟩
          rw [ht] at z1 z2 z3 hz
          have HZ := Lib.hid hz
          have HZ3 := Lib.hid z3
          have HZ2 := Lib.hid z2
          clear ht hz z3 z2 hY0
          by_cases hkt : k + t < n
          · have u1 : decide ((k : Int) + t < n) = true := decide_eq_true (by omega)
            have hres : nxt S n i0 v = ((k + t : Nat) : Int) := nxt_at hkt (by omega) (HZ2.out hkt) (fun j h1 h2 => by
              by_cases h4 : j < k
              · exact HJ.out j h1 h4 (by omega)
              · exact HZ3.out j (by omega) h2 (by omega))
            have HR := Lib.hid hres
            clear hres
            cases v with
            | true =>
              simp only [if_true] at hy
              go_wp2_with fail
              refine HZ.out.mono ?_; rintro e w' ⟨rfl, rfl⟩
              go_wp2_with fail
              go_ret
              exact ⟨by rw [HR.out, Int.natCast_add]; rfl, rfl⟩
            | false =>
              simp only [Bool.false_eq_true, if_false] at hy
              go_wp2_with fail
              refine HZ.out.mono ?_; rintro e w' ⟨rfl, rfl⟩
              go_wp2_with fail
              go_ret
              exact ⟨by rw [HR.out, Int.natCast_add]; rfl, rfl⟩
          · have u1 : decide ((k : Int) + t < n) = false := decide_eq_false (by omega)
            have hres : nxt S n i0 v = -1 := nxt_none (fun j h1 h2 => by
              by_cases h4 : j < k
              · exact HJ.out j h1 h4 h2
              · exact HZ3.out j (by omega) (by omega) h2)
            have HR := Lib.hid hres
            clear hres
            cases v with
            | true =>
              simp only [if_true] at hy
              go_wp2_with fail
              refine HZ.out.mono ?_; rintro e w' ⟨rfl, rfl⟩
              go_wp2_with fail
              go_ret
              exact ⟨by rw [HR.out]; rfl, rfl⟩
            | false =>
              simp only [Bool.false_eq_true, if_false] at hy
              go_wp2_with fail
              refine HZ.out.mono ?_; rintro e w' ⟨rfl, rfl⟩
              go_wp2_with fail
              go_ret
              exact ⟨by rw [HR.out]; rfl, rfl⟩
      · have t1 : decide ((k : Int) < n) = false := decide_eq_false (by omega)
        go_wp2
        go_ret
        exact ⟨by rw [nxt_none (fun j h1 h2 => HJ.out j h1 (by omega) h2)]; rfl, rfl⟩
end Go.Proofs.YtheniiinioggiaaDoor
