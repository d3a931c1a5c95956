/-
  The document's answer for layer 27: Get on the common list; Pick where the common list goes first, or one's own ring. Conditions: none beyond what each theorem names.
-/
import Derived.Test.YteghenfdncgpeaaRefSch
import Derived.Test.YteghenfdncgpeaaRefQueue
namespace Go.Proofs.Yteghenfdncgpeaa
open Go.RowKit
section
variable {w w1 w2 : World} {r i y : Nat} {vs v : Value} {Y S T U : List Nat} {st : SSt}
theorem refQGetIn (p m : Int) (n : Nat) (h : RefAt w S r vs Y st) (hl : st.com.length ≤ 100000)
    (hn : (n : Int) = min (min ((st.com.length : Int) / max p 1 + 1) (max m 0)) (min 128 (st.com.length : Int))) :
    Calls Try.prog 35 #[.pointer (some ⟨r, 1, none⟩), .int .i64 p, .int .i64 m] w fun e w' =>
      ∃ a c, e = .returned (.slice a (st.com.take n).length c) ∧ LsF w' S a c (st.com.take n) ∧ RefAt w' S r vs Y (st.setCom (st.com.drop n)) ∧ Ch [r] w w' := by
  obtain ⟨a, cap, hb, hL⟩ := h.top
  have c := hb.cell 1
  have hcap := hL.2.1
  have hmax := hL.2.2.1
  obtain ⟨P, hP⟩ : ∃ P : Int, (if p < 1 then 1 else p) = P := ⟨_, rfl⟩
  obtain ⟨M, hM⟩ : ∃ M : Int, (if m < 0 then 0 else m) = M := ⟨_, rfl⟩
  have hP1 : max p 1 = P := by rw [← hP]; split <;> omega
  have hM1 : max m 0 = M := by rw [← hM]; split <;> omega
  rw [hP1, hM1] at hn
  have hP0 : 1 ≤ P := by rw [← hP]; split <;> omega
  have hM0 : 0 ≤ M := by rw [← hM]; split <;> omega
  clear hP1 hM1
  obtain ⟨xs, hxs⟩ : ∃ xs, st.com = xs := ⟨_, rfl⟩
  have HXS := Lib.hid hxs
  rw [hxs] at hl hn hcap hb hL c ⊢
  obtain ⟨D, hD⟩ : ∃ D : Nat, (xs.length : Int) / P = D := ⟨((xs.length : Int) / P).toNat, by have := Int.ediv_nonneg (a := (xs.length : Int)) (b := P) (by omega) (by omega); omega⟩
  have hDl : D ≤ xs.length := by have := Int.ediv_le_self (a := (xs.length : Int)) P (by omega); omega
  have e1 : ¬ P = 0 := by omega
  have e2 : (P == 0) = false := by rw [beq_eq_false_iff_ne]; exact e1
  have e4 : Int.tdiv (xs.length : Int) P = (D : Int) := by rw [Int.tdiv_eq_ediv_of_nonneg (by omega)]; exact hD
  have e6 : IntKind.i64.wrap (D : Int) = (D : Int) := IntWalk.i64_in _ (by omega)
  have e7 : IntKind.i64.wrap ((D : Int) + 1) = (D : Int) + 1 := IntWalk.i64_in _ (by omega)
  have hn' : (n : Int) = min (min ((D : Int) + 1) M) (min 128 (xs.length : Int)) := by rw [hn, hD]
  obtain ⟨A, eA⟩ : ∃ A : Int, (if M < (D : Int) + 1 then M else (D : Int) + 1) = A := ⟨_, rfl⟩
  obtain ⟨B, eB⟩ : ∃ B : Int, (if 128 < A then 128 else A) = B := ⟨_, rfl⟩
  have eC : (if (xs.length : Int) < B then (xs.length : Int) else B) = (n : Int) := by
    rw [hn', ← eB, ← eA]
    split <;> split <;> split <;> omega
  have hnl : n ≤ xs.length := by omega
  obtain ⟨k, hk⟩ : ∃ k, xs.length = k := ⟨_, rfl⟩
  rw [hk] at hl hcap eC hnl e4 c hDl hb
  have b1 : (0 : Int) ≤ n := by omega
  have b2 : (n : Int) ≤ k := by omega
  have b3 : (k : Int) ≤ cap := by omega
  have b4 : (n : Int) ≤ cap := by omega
  have htl : (xs.take n).length = n := by rw [List.length_take]; omega
  have hdl : (xs.drop n).length = k - n := by rw [List.length_drop, hk]
  have HEA := Lib.hid eA
  have HEB := Lib.hid eB
  have HEC := Lib.hid eC
  have f0 := hb.frozen 1
  have hfin : ∀ A2 c2, (if cap = n then a else a.map fun x => x.add n) = A2 → cap - n = c2 → ∃ a' c', Value.slice a n cap = .slice a' (xs.take n).length c' ∧ LsF (w.setCell ⟨r, 1, none⟩ (.slice A2 (k - n) c2)) S a' c' (xs.take n) ∧ RefAt (w.setCell ⟨r, 1, none⟩ (.slice A2 (k - n) c2)) S r vs Y (st.setCom (xs.drop n)) ∧ Ch [r] w (w.setCell ⟨r, 1, none⟩ (.slice A2 (k - n) c2)) := by
    intro A2 c2 hA2 hc2
    have hL2 := hL.dropK n (by rw [hk]; exact hnl)
    rw [hA2, hc2] at hL2
    obtain ⟨R1, R2⟩ := h.setCom hL2
    rw [hdl] at R1 R2
    refine ⟨a, cap, by rw [htl], ?_, R1, R2⟩
    exact (show LsF w S a cap (xs.take n) from ⟨hL.1.takeN n, by rw [htl]; omega, hmax, by
        rcases hL.2.2.2 with h0 | h0
        · left; rw [h0]; simp
        · exact .inr h0⟩).keep R2 (fun q hq => by simp at hq; subst hq; exact .inl h.rS)
  have HF := Lib.hid hfin
  clear hn hn' hD htl hdl hk eA eB eC hfin hxs
  by_cases hcn : cap = n
  · subst hcn
    go_enter Try.func35, Try.ntmps35
    go_wp2_with fail
    rw [min4 _ _ _ _ _ _ A B _ _ HEA.out HEB.out HEC.out]
    clear e1 e2 e4 e6 e7 HEA HEB HEC hP hM
    go_wp2_with fail
    go_ret
    obtain ⟨a', c', q1, q2⟩ := HF.out a 0 (by simp) (by omega)
    rw [show k - cap = 0 by omega] at q2
    exact ⟨a', c', congrArg Ending.returned q1, q2⟩
  · go_enter Try.func35, Try.ntmps35
    go_wp2_with fail
    rw [min4 _ _ _ _ _ _ A B _ _ HEA.out HEB.out HEC.out]
    clear e1 e2 e4 e6 e7 HEA HEB HEC hP hM
    go_wp2_with fail
    go_ret
    obtain ⟨a', c', q1, q2⟩ := HF.out (a.map fun x => x.add n) (cap - n) (if_neg hcn) rfl
    exact ⟨a', c', congrArg Ending.returned q1, q2⟩
theorem refPickNo (j tick vic : Int) (h : RefAt w S r vs Y st) (hj : hasP Y.length j = false) :
    Calls Try.prog 53 #[.pointer (some ⟨r, 0, none⟩), .int .i64 j, .int .i64 tick, .int .i64 vic] w fun e w' => e = .returned (.tuple #[.int .i64 0, .bool false]) ∧ w' = w := by
  obtain ⟨_, _, hb, _⟩ := h.top
  have c0 := hb.cell 0
  obtain ⟨a, cap, rfl, _⟩ := h.rs.form
  rcases hasP_cases Y.length j with ⟨_, h1 | ⟨h1, h2⟩⟩ | ⟨i, rfl, h1⟩
  · have t1 : decide (j < 0) = true := decide_eq_true h1
    clear h hb
    go_enter Try.func53, Try.ntmps53
    go_wp2_with fail
    go_ret2
    exact ⟨rfl, rfl⟩
  · obtain ⟨n, hn⟩ : ∃ n, Y.length = n := ⟨_, rfl⟩
    rw [hn] at c0 h2
    have t1 : decide (j < 0) = false := decide_eq_false (by omega)
    have t1n : ¬ j < 0 := by omega
    have t2 : decide (j ≥ (n : Int)) = true := decide_eq_true (by omega)
    clear h hb hn hj
    go_enter Try.func53, Try.ntmps53
    go_wp2_with fail
    go_ret2
    exact ⟨rfl, rfl⟩
  · rw [show hasP Y.length (i : Int) = true from decide_eq_true (by omega)] at hj
    cases hj
theorem refPick_fair {g : Int} {t : List Int} (tick vic : Int) (h : RefAt w S r vs Y st) (hy : Y[i]? = some y) (h0 : tick ≠ 0) (hm : tick.tmod 61 = 0) (hg : st.com = g :: t) (hl : st.com.length ≤ 100000) :
    Calls Try.prog 53 #[.pointer (some ⟨r, 0, none⟩), .int .i64 i, .int .i64 tick, .int .i64 vic] w fun e w' => e = .returned (.tuple #[.int .i64 g, .bool true]) ∧ RefT w S r vs Y (st.setCom t) w' := by
  have hi := (List.getElem?_eq_some_iff.1 hy).1
  obtain ⟨gg, oo, cap, rfl, hcap, hfd⟩ := h.cells hy
  obtain ⟨n, hn⟩ : ∃ n, Y.length = n := ⟨_, rfl⟩
  have HN := Lib.hid hn
  rw [hn] at h hi hfd ⊢
  obtain ⟨q0, q1⟩ := hfd w S st h
  have t0 : decide ((i : Int) < 0) = false := decide_eq_false (by omega)
  have t1 : (i : Int) < n := by omega
  have t2 : (0 : Int) ≤ i := by omega
  have t3 : decide ((i : Int) ≥ (n : Int)) = false := decide_eq_false (by omega)
  have t4 : ¬ (i : Int) < 0 := by omega
  have t5 : ¬ (n : Int) ≤ i := by omega
  clear hn hcap
  clear hfd
  obtain ⟨a, c, hb, hL⟩ := h.top
  rw [hg] at hb hL hl
  obtain ⟨b0, o0, rfl, hc0⟩ := hL.at (i := 0) (by simp)
  have e0 := hc0 0 (by simp)
  rw [show gI (g :: t) 0 = g from rfl, Nat.add_zero] at e0
  obtain ⟨k, hk⟩ : ∃ k, t.length = k := ⟨_, rfl⟩
  rw [List.length_cons, hk] at hb hl
  have c1 := hb.cell 1
  have f1 := hb.frozen 1
  have hnc : (k : Int) + 1 ≤ c := by have h9 := hL.2.1; simp at h9; omega
  have n1 : (1 : Int) ≤ (k : Int) + 1 := by omega
  have n2 : ((k : Int) + 1 == 0) = false := by rw [beq_eq_false_iff_ne]; omega
  have n3 : decide ((k : Int) + 1 > 0) = true := decide_eq_true (by omega)
  have n4 : (0 : Int) < (k : Int) + 1 := by omega
  have z0 : (tick != 0) = true := by simpa using h0
  have ht := hL.tail
  obtain ⟨A2, hA2⟩ : ∃ A2 : Option Addr, (if c = 1 then some ⟨b0, o0, none⟩ else some ⟨b0, o0 + 1, none⟩) = A2 := ⟨_, rfl⟩
  rw [hA2] at ht
  obtain ⟨R1, R2⟩ := h.setCom ht
  rw [hk] at R1 R2
  have hfin : RefT w S r (.slice (some ⟨gg, oo, none⟩) n cap) Y (st.setCom t) (w.setCell ⟨r, 1, none⟩ (.slice A2 k (c - 1))) := ⟨R1, R2.mono (fun q hq => by simp at hq; subst hq; exact .inl (mem_ownR.2 (.inl rfl)))⟩
  have HF := Lib.hid hfin
  clear hc0 hk hg ht R1 R2 hfin h hb hL
  by_cases hc1 : c = 1
  · subst hc1
    rw [if_pos rfl] at hA2
    subst hA2
    obtain rfl : k = 0 := by omega
    go_enter Try.func53, Try.ntmps53
    go_wp2_with fail
    go_ret2
    exact ⟨rfl, HF.out⟩
  · rw [if_neg hc1] at hA2
    subst hA2
    go_enter Try.func53, Try.ntmps53
    go_wp2_with fail
    go_ret2
    exact ⟨rfl, by first | exact HF.out | (have := HF.out; simpa using this)⟩
/-- Why the common list does not go first. -/
theorem fair_why {tick : Int} (h : fairB st tick = false) : tick = 0 ∨ (tick ≠ 0 ∧ tick.tmod 61 ≠ 0) ∨ (tick ≠ 0 ∧ tick.tmod 61 = 0 ∧ st.com = []) := by
  have h1 := of_decide_eq_false h
  by_cases a : tick = 0
  · exact .inl a
  · by_cases b : tick.tmod 61 = 0
    · by_cases c : st.com = []
      · exact .inr (.inr ⟨a, b, c⟩)
      · exact absurd ⟨a, b, c⟩ h1
    · exact .inr (.inl ⟨a, b⟩)
end
end Go.Proofs.Yteghenfdncgpeaa
