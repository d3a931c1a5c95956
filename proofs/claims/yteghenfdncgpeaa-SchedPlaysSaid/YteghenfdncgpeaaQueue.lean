/-
  Contracts of package queue: a row of goroutines. Conditions: none beyond what each theorem names.
-/
import Derived.Test.YteghenfdncgpeaaChecked
import Derived.Test.YteghenfdncgpeaaMem
import Derived.Test.YteghenfdncgpeaaInfo
import Derived.Test.YteghenfdncgpeaaClone
import Derived.Test.YteghenfdncgpeaaOwI
import Derived.ProofKit
import Derived.OpenShut
import Derived.Deep.DeepCutAuto
namespace Go.Proofs.Yteghenfdncgpeaa
open Go.RowKit
/-- b is a queue with the goroutines xs; its row is v. -/
def QAt (w : World) (b : Nat) (v : Value) (xs : List Int) : Prop := Blk w b #[v] 87 ∧ Own w 3 1 v xs.length (xs.map (Value.int .i64))
theorem QAt.keep {S : List Nat} {w w' : World} {b : Nat} {v : Value} {xs : List Int} (h : QAt w b v xs) (hc : Ch S w w') (hb : b ∉ S) (hv : ∀ k ∈ S, v.ownBlock ≠ some k) : QAt w' b v xs :=
  ⟨h.1.keep hc hb, h.2.keep hc hv⟩
theorem q_ints (xs : List Int) : ∀ u ∈ xs.map (Value.int .i64), u.oneCell' = true := by
  intro u hu
  obtain ⟨q, _, rfl⟩ := List.mem_map.1 hu
  rfl
theorem qNew (w : World) : Calls Try.prog 30 #[] w fun e w' => e = .returned (.pointer (some ⟨w.heap.size, 0, none⟩)) ∧ QAt w' w.heap.size (.slice none 0 0) [] ∧ Ch [] w w' := by
  go_enter Try.func30, Try.ntmps30
  go_wp2
  go_ret
  exact ⟨rfl, ⟨Blk.new _ _ _, Own.nil _ _ _⟩, (Ch.refl _ _).alloc _⟩
theorem qLenNil (w : World) : Calls Try.prog 32 #[.pointer none] w fun e w' => e = .returned (.int .i64 0) ∧ w' = w := by
  go_enter Try.func32, Try.ntmps32
  go_wp2
  go_ret
  exact ⟨rfl, rfl⟩
theorem qLen (b : Nat) (v : Value) (xs : List Int) (w : World) (h : QAt w b v xs) : Calls Try.prog 32 #[.pointer (some ⟨b, 0, none⟩)] w fun e w' => e = .returned (.int .i64 xs.length) ∧ w' = w := by
  obtain ⟨a, cap, rfl, _⟩ := h.2.form
  have c := h.1.cell 0
  go_enter Try.func32, Try.ntmps32
  go_wp2
  go_ret
  exact ⟨rfl, rfl⟩
theorem qPut (b : Nat) (v : Value) (xs : List Int) (xv : Value) (ys : List Int) (w : World) (h : QAt w b v xs) (hv : ∀ k, v.ownBlock = some k → b < k) (hy : Src Try.prog 1 25 xv ys.length (ys.map (Value.int .i64)) w) (hl : xs.length + ys.length ≤ 100000) :
    Calls Try.prog 31 #[.pointer (some ⟨b, 0, none⟩), xv] w fun e w' => e = .returned (.tuple #[]) ∧
      ∃ v', QAt w' b v' (xs ++ ys) ∧ Ch (b :: v.ownBlock.toList) w w' ∧ (v'.ownBlock = v.ownBlock ∨ ∀ k, v'.ownBlock = some k → w.heap.size ≤ k) := by
  obtain ⟨i0, hi0, hz0, hz1, hz2⟩ := info_parts Try.infoInt
  obtain ⟨a, cap, rfl, _⟩ := h.2.form
  have c := h.1.cell 0
  go_enter Try.func31, Try.ntmps31
  go_wp2_with (at_builtin; refine wpList_append_Own rfl (.tmp 10) (.tmp 11) 25 25 rfl 3 i0 (.int .i64 0) 1 8 Try.underlying25 hi0 hz0 hz1 hz2 rfl (.slice a xs.length cap) xs.length (xs.map (Value.int .i64)) rfl h.2 xv ys.length (ys.map (Value.int .i64)) rfl hy (by unfold maxLen; omega) (by omega) ?_)
  intro v' w2 o2 c2 f2
  have g2 := h.1.keep c2 (by intro hq; have := hv b (by simpa using hq); omega)
  obtain ⟨a4, cap4, rfl, _⟩ := o2.form
  have d := g2.frozen 0
  have c' := g2.cell 0
  clear c
  go_wp2
  go_end0
  refine ⟨rfl, _, ⟨by simpa using g2.set 0 (.slice a4 (xs.length + ys.length) cap4), ?_⟩, (c2.mono (by intro k hk; exact .inl (List.mem_cons_of_mem _ hk))).setCell (.inl (by simp)) _, f2⟩
  have := (o2.keep ((Ch.refl [b] w2).setCell (p := ⟨b, 0, none⟩) (.inl (by simp)) (.slice a4 (xs.length + ys.length) cap4)) (by
    intro k hk he
    simp at hk
    subst hk
    rcases f2 with f | f
    · have := hv k (by rw [← f]; exact he)
      omega
    · have := f k he
      have := h.1.lt
      omega))
  rw [List.length_append, List.map_append]
  exact this
theorem min4 (P : Program) (ats : Array TypeId) (ty : TypeId) (x y : Int) (l A B n : Int) (w : World) (eA : (if y < x then y else x) = A) (eB : (if 128 < A then 128 else A) = B) (eC : (if l < B then l else B) = n) :
    (Builtin.min_ ats ty #[.int .i64 x, .int .i64 y, .int .i64 128, .int .i64 l]).run P w = .ok (.int .i64 n) w := by
  simp [Builtin.min_, Builtin.min2, Sem.run_bind, Sem.run_pure, eA, eB, eC]
theorem qGet2 (b : Nat) (v : Value) (xs : List Int) (p m : Int) (n : Nat) (w : World) (h : QAt w b v xs) (hv : ∀ k, v.ownBlock = some k → b < k) (hl : xs.length ≤ 100000)
    (hn : (n : Int) = min (min ((xs.length : Int) / max p 1 + 1) (max m 0)) (min 128 (xs.length : Int))) :
    Calls Try.prog 33 #[.pointer (some ⟨b, 0, none⟩), .int .i64 p, .int .i64 m] w fun e w' =>
      ∃ v1 v2, e = .returned v1 ∧ Own w' 3 1 v1 n ((xs.take n).map (Value.int .i64)) ∧ QAt w' b v2 (xs.drop n) ∧ (∀ k, v2.ownBlock = some k → w.heap.size ≤ k) ∧ Ch [b] w w' ∧ ∀ k, v1.ownBlock = some k → w.heap.size ≤ k ∧ v2.ownBlock ≠ some k := by
  obtain ⟨a, cap, rfl, hcap, _, hmax, hrd⟩ := h.2.rd
  have c := h.1.cell 0
  obtain ⟨P, hP⟩ : ∃ P : Int, (if p < 1 then 1 else p) = P := ⟨_, rfl⟩
  obtain ⟨M, hM⟩ : ∃ M : Int, (if m < 0 then 0 else m) = M := ⟨_, rfl⟩
  have hP1 : max p 1 = P := by rw [← hP]; split <;> omega
  have hM1 : max m 0 = M := by rw [← hM]; split <;> omega
  rw [hP1, hM1] at hn
  have hP0 : 1 ≤ P := by rw [← hP]; split <;> omega
  have hM0 : 0 ≤ M := by rw [← hM]; split <;> omega
  clear hP1 hM1
  obtain ⟨D, hD⟩ : ∃ D : Nat, (xs.length : Int) / P = D := ⟨((xs.length : Int) / P).toNat, by have := Int.ediv_nonneg (a := (xs.length : Int)) (b := P) (by omega) (by omega); omega⟩
  have hDl : D ≤ xs.length := by have := Int.ediv_le_self (a := (xs.length : Int)) P (by omega); omega
  have e1 : ¬ P = 0 := by omega
  have e2 : (P == 0) = false := by rw [beq_eq_false_iff_ne]; exact e1
  have e4 : Int.tdiv (xs.length : Int) P = (D : Int) := by rw [Int.tdiv_eq_ediv_of_nonneg (by omega)]; exact hD
  have e6 : IntKind.i64.wrap (D : Int) = (D : Int) := IntWalk.i64_in _ (by omega)
  have e7 : IntKind.i64.wrap ((D : Int) + 1) = (D : Int) + 1 := IntWalk.i64_in _ (by omega)
  have hn' : (n : Int) = min (min ((D : Int) + 1) M) (min 128 (xs.length : Int)) := by rw [hn, hD]
  obtain ⟨A, eA⟩ : ∃ A : Int, (if M < (D : Int) + 1 then M else (D : Int) + 1) = A := ⟨_, rfl⟩
  obtain ⟨B, eB⟩ : ∃ B : Int, (if 128 < A then 128 else A) = B := ⟨_, rfl⟩
  have eC : (if (xs.length : Int) < B then (xs.length : Int) else B) = (n : Int) := by
    rw [hn', ← eB, ← eA]
    split <;> split <;> split <;> omega
  have hnl : n ≤ xs.length := by omega
  clear hn hn' hD
  go_enter Try.func33, Try.ntmps33
  go_upto_region 3 with fail
  refine wp_region_quiet_lit (by kernel_rfl) (by kernel_rfl) ?_
  repeat (quiet_step (fail))
  refine wpQuiet_step (fun K hK => ?_)
  go_simp
  refine ⟨.int .i64 n, fun k => ?_, hK _ ?_⟩
  · rw [min4 _ _ _ _ _ _ A B n _ eA eB eC]
    exact ⟨rfl, rfl⟩
  clear hK K
  repeat (quiet_step (fail))
  refine wpQuiet_nil ?_
  intro _ hw'
  obtain ⟨nq, hw''⟩ := hw'
  subst hw''
  clear e1 e2 e4 e6 e7 eA eB eC hP hM
  have b1 : (0 : Int) ≤ n := by omega
  have b2 : (n : Int) ≤ xs.length := by omega
  have b3 : (xs.length : Int) ≤ cap := by omega
  have htl : (xs.take n).length = n := by rw [List.length_take]; omega
  have hC := cloneInts a (xs.take n) cap (w.drewN nq) (Rd.takeN (hrd.drewN nq) n) (by omega)
  rw [htl] at hC
  have HTL := Lib.hid htl
  clear htl
  go_wp2_with fail
  refine hC.mono ?_; rintro e w1 ⟨v1, rfl, o1, f1, c1⟩
  clear hC
  have h1 : QAt w1 b (.slice a xs.length cap) xs := QAt.keep (show QAt (w.drewN nq) b (.slice a xs.length cap) xs from h) c1 (by simp) (by simp)
  have c' := h1.1.cell 0
  have hrd1 : Rd w1 a xs := by
    obtain ⟨a', cap', he, _, _, _, hr⟩ := h1.2.rd
    simp only [Value.slice.injEq, true_and] at he
    obtain ⟨rfl, rfl⟩ := he
    exact hr
  clear c
  have hdl : (xs.drop n).length = xs.length - n := List.length_drop
  by_cases hcn : cap ≤ n
  · have hr2 : Rd w1 a (xs.drop n) := .inl (List.eq_nil_of_length_eq_zero (by omega))
    have b4 : (cap : Int) ≤ n := by omega
    have b5 : cap - n = 0 := by omega
    go_wp2_with fail
    rw [← hdl]
    refine (cloneInts _ (xs.drop n) _ _ hr2 (by rw [hdl]; omega)).mono ?_; rintro e w2 ⟨v2, rfl, o2, f2, c2⟩
    have h2 := h1.1.keep c2 (by simp)
    have d1 := h2.cell 0
    have d2 := h2.frozen 0
    clear c'
    rw [hdl] at o2
    obtain ⟨a4, cap4, rfl, _⟩ := o2.form
    have HDL := Lib.hid hdl
    clear hdl
    go_wp2
    go_ret
    have hb1 : b < w1.heap.size := h1.1.lt
    have hb0 : b < w.heap.size := h.1.lt
    have cs := (Ch.refl [b] w2).setCell (p := ⟨b, 0, none⟩) (.inl (by simp)) (.slice a4 (xs.length - n) cap4)
    refine ⟨v1, _, rfl, ?_, ⟨by simpa using h2.set 0 (.slice a4 (xs.length - n) cap4), ?_⟩, ?_, ?_, ?_⟩
    · refine (o1.keep c2 (by simp)).keep cs ?_
      intro k hk he
      simp at hk
      subst hk
      have := f1 k he
      simp at this
      omega
    · rw [HDL.out]
      refine o2.keep cs ?_
      intro k hk he
      simp at hk
      subst hk
      have := f2 k he
      omega
    · intro k hk
      have := f2 k hk
      have := c1.size
      simp at *
      omega
    · exact ((((Ch.refl [b] w).drewN nq).trans (c1.mono (by simp))).trans (c2.mono (by simp))).trans cs
    · intro k hk
      have g1 := f1 k hk
      have g2 := o1.lt k hk
      refine ⟨by simpa using g1, fun he => ?_⟩
      have := f2 k he
      omega
  · have hr2 : Rd w1 (a.map fun x => x.add n) (xs.drop n) := Rd.dropN hrd1 n
    have b4 : (n : Int) < cap := by omega
    go_wp2_with fail
    rw [← hdl]
    refine (cloneInts _ (xs.drop n) _ _ hr2 (by rw [hdl]; omega)).mono ?_; rintro e w2 ⟨v2, rfl, o2, f2, c2⟩
    have h2 := h1.1.keep c2 (by simp)
    have d1 := h2.cell 0
    have d2 := h2.frozen 0
    clear c'
    rw [hdl] at o2
    obtain ⟨a4, cap4, rfl, _⟩ := o2.form
    have HDL := Lib.hid hdl
    clear hdl
    go_wp2
    go_ret
    have hb1 : b < w1.heap.size := h1.1.lt
    have hb0 : b < w.heap.size := h.1.lt
    have cs := (Ch.refl [b] w2).setCell (p := ⟨b, 0, none⟩) (.inl (by simp)) (.slice a4 (xs.length - n) cap4)
    refine ⟨v1, _, rfl, ?_, ⟨by simpa using h2.set 0 (.slice a4 (xs.length - n) cap4), ?_⟩, ?_, ?_, ?_⟩
    · refine (o1.keep c2 (by simp)).keep cs ?_
      intro k hk he
      simp at hk
      subst hk
      have := f1 k he
      simp at this
      omega
    · rw [HDL.out]
      refine o2.keep cs ?_
      intro k hk he
      simp at hk
      subst hk
      have := f2 k he
      omega
    · intro k hk
      have := f2 k hk
      have := c1.size
      simp at *
      omega
    · exact ((((Ch.refl [b] w).drewN nq).trans (c1.mono (by simp))).trans (c2.mono (by simp))).trans cs
    · intro k hk
      have g1 := f1 k hk
      have g2 := o1.lt k hk
      refine ⟨by simpa using g1, fun he => ?_⟩
      have := f2 k he
      omega
theorem qGet (b : Nat) (v : Value) (xs : List Int) (p m : Int) (n : Nat) (w : World) (h : QAt w b v xs) (hv : ∀ k, v.ownBlock = some k → b < k) (hl : xs.length ≤ 100000)
    (hn : (n : Int) = min (min ((xs.length : Int) / max p 1 + 1) (max m 0)) (min 128 (xs.length : Int))) :
    Calls Try.prog 33 #[.pointer (some ⟨b, 0, none⟩), .int .i64 p, .int .i64 m] w fun e w' =>
      ∃ v1 v2, e = .returned v1 ∧ Own w' 3 1 v1 n ((xs.take n).map (Value.int .i64)) ∧ QAt w' b v2 (xs.drop n) ∧ (∀ k, v2.ownBlock = some k → w.heap.size ≤ k) ∧ Ch [b] w w' :=
  (qGet2 b v xs p m n w h hv hl hn).mono fun _ _ ⟨v1, v2, a, b, c, d, e, _⟩ => ⟨v1, v2, a, b, c, d, e⟩
end Go.Proofs.Yteghenfdncgpeaa
