/-
  The document's answer for layer 11: Get on a list. Conditions: none beyond what each theorem names.
-/
import Derived.Test.YteghenfdncgpeaaQueue
import Derived.Test.YteghenfdncgpeaaLsF
import Derived.Test.YteghenfdncgpeaaRefL
namespace Go.Proofs.Yteghenfdncgpeaa
open Go.RowKit
/-- Block r is one slice that reads as xs; what it reads lies in no block of S. -/
def RQ (w : World) (r : Nat) (S : List Nat) (xs : List Int) : Prop := ∃ a c, Blk w r #[.slice a xs.length c] 53 ∧ LsF w S a c xs
section
variable {w w' : World} {r : Nat} {S T U : List Nat} {xs : List Int}
theorem RQ.step (h : RQ w r S xs) (hc : Ch T w w') (hr : r ∉ T) (hT : ∀ k ∈ T, k ∈ S ∨ w.heap.size ≤ k) (hU : ∀ k ∈ U, k ∈ S ∨ w.heap.size ≤ k) : RQ w' r U xs := by
  obtain ⟨a, c, h1, h2⟩ := h
  exact ⟨a, c, h1.keep hc hr, h2.step hc hT hU⟩
theorem RQ.still (h : RQ w r S xs) (hc : Ch [] w w') : RQ w' r S xs := h.step hc (by simp) (by simp) (fun _ hk => .inl hk)
theorem RQ.lt (h : RQ w r S xs) : r < w.heap.size := by obtain ⟨a, c, h1, _⟩ := h; exact h1.lt
end
theorem refQGet (r : Nat) (S : List Nat) (xs : List Int) (p m : Int) (n : Nat) (w : World) (h : RQ w r S xs) (hrS : r ∈ S) (hl : xs.length ≤ 100000)
    (hn : (n : Int) = min (min ((xs.length : Int) / max p 1 + 1) (max m 0)) (min 128 (xs.length : Int))) :
    Calls Try.prog 35 #[.pointer (some ⟨r, 0, none⟩), .int .i64 p, .int .i64 m] w fun e w' =>
      ∃ a c, e = .returned (.slice a (xs.take n).length c) ∧ LsF w' S a c (xs.take n) ∧ RQ w' r S (xs.drop n) ∧ Ch [r] w w' := by
  obtain ⟨a, cap, hb, hL⟩ := h
  have c := hb.cell 0
  have hcap := hL.2.1
  have hmax := hL.2.2.1
  obtain ⟨P, hP⟩ : ∃ P : Int, (if p < 1 then 1 else p) = P := ⟨_, rfl⟩
  obtain ⟨M, hM⟩ : ∃ M : Int, (if m < 0 then 0 else m) = M := ⟨_, rfl⟩
  have hP1 : max p 1 = P := by rw [← hP]; split <;> omega
  have hM1 : max m 0 = M := by rw [← hM]; split <;> omega
  rw [hP1, hM1] at hn
  have hP0 : 1 ≤ P := by rw [← hP]; split <;> omega
  have hM0 : 0 ≤ M := by rw [← hM]; split <;> omega
  clear hP1 hM1
  obtain ⟨D, hD⟩ : ∃ D : Nat, (xs.length : Int) / P = D := ⟨((xs.length : Int) / P).toNat, by have := Int.ediv_nonneg (a := (xs.length : Int)) (b := P) (by omega) (by omega); omega⟩
  have hDl : D ≤ xs.length := by have := Int.ediv_le_self (a := (xs.length : Int)) P (by omega); omega
  have e1 : ¬ P = 0 := by omega
  have e2 : (P == 0) = false := by rw [beq_eq_false_iff_ne]; exact e1
  have e4 : Int.tdiv (xs.length : Int) P = (D : Int) := by rw [Int.tdiv_eq_ediv_of_nonneg (by omega)]; exact hD
  have e6 : IntKind.i64.wrap (D : Int) = (D : Int) := IntWalk.i64_in _ (by omega)
  have e7 : IntKind.i64.wrap ((D : Int) + 1) = (D : Int) + 1 := IntWalk.i64_in _ (by omega)
  have hn' : (n : Int) = min (min ((D : Int) + 1) M) (min 128 (xs.length : Int)) := by rw [hn, hD]
  obtain ⟨A, eA⟩ : ∃ A : Int, (if M < (D : Int) + 1 then M else (D : Int) + 1) = A := ⟨_, rfl⟩
  obtain ⟨B, eB⟩ : ∃ B : Int, (if 128 < A then 128 else A) = B := ⟨_, rfl⟩
  have eC : (if (xs.length : Int) < B then (xs.length : Int) else B) = (n : Int) := by
    rw [hn', ← eB, ← eA]
    split <;> split <;> split <;> omega
  have hnl : n ≤ xs.length := by omega
  obtain ⟨k, hk⟩ : ∃ k, xs.length = k := ⟨_, rfl⟩
  rw [hk] at hl hcap eC hnl e4 c hDl
  have b1 : (0 : Int) ≤ n := by omega
  have b2 : (n : Int) ≤ k := by omega
  have b3 : (k : Int) ≤ cap := by omega
  have b4 : (n : Int) ≤ cap := by omega
  have htl : (xs.take n).length = n := by rw [List.length_take]; omega
  have hdl : (xs.drop n).length = k - n := by rw [List.length_drop, hk]
  have HEA := Lib.hid eA
  have HEB := Lib.hid eB
  have HEC := Lib.hid eC
  have HTL := Lib.hid htl
  have HDL := Lib.hid hdl
  have f0 := hb.frozen 0
  rw [hk] at hb
  have hsub : ∀ x ∈ [r], x ∈ S ∨ w.heap.size ≤ x := by intro x hx; simp at hx; subst hx; exact .inl hrS
  have hfin : ∀ A2 c2, (if cap = n then a else a.map fun x => x.add n) = A2 → cap - n = c2 → ∃ a' c', Value.slice a n cap = .slice a' (xs.take n).length c' ∧ LsF (w.setCell ⟨r, 0, none⟩ (.slice A2 (k - n) c2)) S a' c' (xs.take n) ∧ RQ (w.setCell ⟨r, 0, none⟩ (.slice A2 (k - n) c2)) r S (xs.drop n) ∧ Ch [r] w (w.setCell ⟨r, 0, none⟩ (.slice A2 (k - n) c2)) := by
    intro A2 c2 hA2 hc2
    have cs := (Ch.refl [r] w).setCell (p := ⟨r, 0, none⟩) (.inl (by simp)) (.slice A2 (k - n) c2)
    subst hc2
    refine ⟨a, cap, by rw [htl], ?_, ⟨A2, cap - n, by rw [hdl]; exact hb.set 0 _, ?_⟩, cs⟩
    · exact (show LsF w S a cap (xs.take n) from ⟨hL.1.takeN n, by rw [htl]; omega, hmax, by
        rcases hL.2.2.2 with h0 | h0
        · left; rw [h0]; simp
        · exact .inr h0⟩).keep cs hsub
    · refine (show LsF w S A2 (cap - n) (xs.drop n) from ⟨?_, by rw [hdl]; omega, by omega, ?_⟩).keep cs hsub
      · rw [← hA2]; exact hL.1.dropA n cap hL.2.1
      · rw [← hA2]
        split
        · left; exact List.drop_eq_nil_of_le (by have := hL.2.1; omega)
        · rcases hL.2.2.2 with h0 | ⟨y, hy, h1, h2⟩
          · left; rw [h0]; simp
          · subst hy
            have hb' : (y.add n).block = y.block := by unfold Addr.add; split <;> rfl
            exact .inr ⟨y.add n, rfl, by rw [hb']; exact h1, by rw [hb']; exact h2⟩
  have HF := Lib.hid hfin
  clear hn hn' hD htl hdl hk eA eB eC hfin
  by_cases hcn : cap = n
  · subst hcn
    go_enter Try.func35, Try.ntmps35
    go_wp2_with fail
    rw [min4 _ _ _ _ _ _ A B _ _ HEA.out HEB.out HEC.out]
    clear e1 e2 e4 e6 e7 HEA HEB HEC hP hM
    go_wp2_with fail
    go_ret
    obtain ⟨a', c', q1, q2⟩ := HF.out a 0 (by simp) (by omega)
    rw [show k - cap = 0 by omega] at q2
    exact ⟨a', c', congrArg Ending.returned q1, q2⟩
  · go_enter Try.func35, Try.ntmps35
    go_wp2_with fail
    rw [min4 _ _ _ _ _ _ A B _ _ HEA.out HEB.out HEC.out]
    clear e1 e2 e4 e6 e7 HEA HEB HEC hP hM
    go_wp2_with fail
    go_ret
    obtain ⟨a', c', q1, q2⟩ := HF.out (a.map fun x => x.add n) (cap - n) (if_neg hcn) rfl
    exact ⟨a', c', congrArg Ending.returned q1, q2⟩
end Go.Proofs.Yteghenfdncgpeaa
