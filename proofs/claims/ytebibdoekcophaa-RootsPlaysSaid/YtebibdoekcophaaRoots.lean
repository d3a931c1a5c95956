/-
  Contracts of package roots: jobs that are left, as a list. Conditions: none beyond what each theorem names.
-/
import Derived.Test.YtebibdoekcophaaChecked
import Derived.Test.YtebibdoekcophaaMem
import Derived.ProofKit
import Derived.OpenShut
import Derived.Deep.DeepCutAuto
namespace Go.Proofs.Ytebibdoekcophaa
open Go.RowKit

/-- A job: whose stack, from, to. -/
abbrev Job := Int × Int × Int
def jobCells (j : Job) : List Value := [.int .i64 j.1, .int .i64 j.2.1, .int .i64 j.2.2]
def flat (js : List Job) : List Value := js.flatMap jobCells
theorem flat_len (js : List Job) : (flat js).length = js.length * 3 := by
  induction js with
  | nil => rfl
  | cons j t ih => simp only [flat, List.flatMap_cons, List.length_append, List.length_cons] at *; rw [ih]; simp [jobCells]; omega
theorem flat_get (js : List Job) (i : Nat) (j : Job) (h : js[i]? = some j) : (flat js)[3 * i]? = some (.int .i64 j.1) ∧ (flat js)[3 * i + 1]? = some (.int .i64 j.2.1) ∧ (flat js)[3 * i + 2]? = some (.int .i64 j.2.2) := by
  induction js generalizing i with
  | nil => simp at h
  | cons k t ih =>
    cases i with
    | zero =>
      simp at h
      subst h
      simp [flat, jobCells]
    | succ i =>
      have := ih i (by simpa using h)
      have hl : (jobCells k).length = 3 := rfl
      simp only [flat, List.flatMap_cons] at *
      refine ⟨?_, ?_, ?_⟩
      · rw [List.getElem?_append_right (by omega), show 3 * (i + 1) - (jobCells k).length = 3 * i by omega]; exact this.1
      · rw [List.getElem?_append_right (by omega), show 3 * (i + 1) + 1 - (jobCells k).length = 3 * i + 1 by omega]; exact this.2.1
      · rw [List.getElem?_append_right (by omega), show 3 * (i + 1) + 2 - (jobCells k).length = 3 * i + 2 by omega]; exact this.2.2
theorem flat_append (a b : List Job) : flat (a ++ b) = flat a ++ flat b := by simp [flat]
theorem flat_one (js : List Job) : ∀ u ∈ flat js, u.oneCell' = true := by
  intro u hu
  simp only [flat, List.mem_flatMap] at hu
  obtain ⟨j, _, hj⟩ := hu
  simp [jobCells] at hj
  rcases hj with rfl | rfl | rfl <;> rfl

/-- b is a Roots with the jobs js, in the slice v. -/
def RootsAt (w : World) (b : Nat) (v : Value) (js : List Job) : Prop := Blk w b #[v] 55 ∧ Own w 41 3 v js.length (flat js)
theorem RootsAt.keep {S : List Nat} {w w' : World} {b : Nat} {v : Value} {js : List Job} (h : RootsAt w b v js) (hc : Ch S w w') (hb : b ∉ S) (hv : ∀ k ∈ S, v.ownBlock ≠ some k) : RootsAt w' b v js :=
  ⟨h.1.keep hc hb, h.2.keep hc hv⟩
theorem RootsAt.drewN {w : World} {b : Nat} {v : Value} {js : List Job} (h : RootsAt w b v js) (n : Nat) : RootsAt (w.drewN n) b v js := h

theorem rootsLeftNil (w : World) : Calls Try.prog 26 #[.pointer none] w fun e w' => e = .returned (.int .i64 0) ∧ w' = w := by
  go_enter Try.func26, Try.ntmps26
  go_wp2
  go_ret
  exact ⟨rfl, rfl⟩
theorem rootsLeft (b : Nat) (v : Value) (js : List Job) (w : World) (h : RootsAt w b v js) : Calls Try.prog 26 #[.pointer (some ⟨b, 0, none⟩)] w fun e w' => e = .returned (.int .i64 js.length) ∧ w' = w := by
  obtain ⟨a, cap, rfl, _⟩ := h.2.form
  have c := h.1.cell 0
  go_enter Try.func26, Try.ntmps26
  go_wp2
  go_ret
  exact ⟨rfl, rfl⟩
theorem rootsStack (g : Int) (w : World) : Calls Try.prog 43 #[.int .i64 g] w fun e w' => e = .returned (.agg #[.int .i64 g, .int .i64 0, .int .i64 16]) ∧ Ch [] w w' := by
  go_enter Try.func43, Try.ntmps43
  go_wp2
  refine bodyPost_ret (v := .agg #[.int .i64 g, .int .i64 0, .int .i64 16]) (by simp [results, Try.results43, go_sem]) rfl ⟨rfl, (Ch.refl _ _).alloc _⟩
theorem rootsNextNil (w : World) : Calls Try.prog 27 #[.pointer none] w fun e w' => e = .returned (.tuple #[.agg #[.int .i64 0, .int .i64 0, .int .i64 0], .bool false]) ∧ Ch [] w w' := by
  go_enter Try.func27, Try.ntmps27
  go_wp2_with fail
  refine (rootsLeftNil _).mono ?_; rintro e w' ⟨rfl, rfl⟩
  go_wp2
  refine bodyPost_ret (v := .tuple #[.agg #[.int .i64 0, .int .i64 0, .int .i64 0], .bool false]) (by simp [results, Try.results27, go_sem]) rfl ⟨rfl, (Ch.refl _ _).alloc _⟩
theorem rootsNextEmpty (b : Nat) (v : Value) (w : World) (h : RootsAt w b v []) : Calls Try.prog 27 #[.pointer (some ⟨b, 0, none⟩)] w fun e w' =>
    e = .returned (.tuple #[.agg #[.int .i64 0, .int .i64 0, .int .i64 0], .bool false]) ∧ RootsAt w' b v [] ∧ Ch [] w w' := by
  go_enter Try.func27, Try.ntmps27
  go_wp2_with fail
  refine (rootsLeft _ _ _ _ (h.keep ((Ch.refl [] w).alloc _) (by simp) (by simp))).mono ?_; rintro e w' ⟨rfl, rfl⟩
  go_wp2
  have hc : Ch [] w (w.alloc (.cells #[.int .i64 0, .int .i64 0, .int .i64 0] 41)) := (Ch.refl _ _).alloc _
  refine bodyPost_ret (v := .tuple #[.agg #[.int .i64 0, .int .i64 0, .int .i64 0], .bool false]) (by simp [results, Try.results27, go_sem]) rfl ⟨rfl, h.keep hc (by simp) (by simp), hc⟩
theorem rootsNext (b : Nat) (v : Value) (j : Job) (js : List Job) (w : World) (h : RootsAt w b v (j :: js)) : Calls Try.prog 27 #[.pointer (some ⟨b, 0, none⟩)] w fun e w' =>
    e = .returned (.tuple #[.agg #[.int .i64 j.1, .int .i64 j.2.1, .int .i64 j.2.2], .bool true]) ∧ ∃ v', RootsAt w' b v' js ∧ Ch [b] w w' ∧ v'.ownBlock = v.ownBlock := by
  obtain ⟨hb, hown⟩ := h
  have hlt := hb.lt
  have hneb := hown.neBlk hb (by decide)
  rcases hown.2 with ⟨_, h0⟩ | ⟨g, off, cap, cur, rfl, hg, h1, h2, h3, h4⟩
  · simp at h0
  have hglt := hg.lt
  have hgb : g ≠ b := fun e => hneb (by simp [Value.ownBlock, e])
  obtain ⟨e0, e1, e2⟩ := flat_get (j :: js) 0 j rfl
  have c0 : w.cell? ⟨g, off, none⟩ = some (.int .i64 j.1) := (hg.cell _).trans (h4 0 _ e0)
  have c1 : w.cell? ⟨g, off + 1, none⟩ = some (.int .i64 j.2.1) := (hg.cell _).trans (h4 1 _ e1)
  have c2 : w.cell? ⟨g, off + 2, none⟩ = some (.int .i64 j.2.2) := (hg.cell _).trans (h4 2 _ e2)
  have cb := hb.cell 0
  have fb := hb.frozen 0
  have hmx : cap ≤ 9223372036854775807 := h2
  simp only [List.length_cons] at h1
  go_enter Try.func27, Try.ntmps27
  go_wp2_with fail
  refine (rootsLeft _ _ _ _ (RootsAt.keep ⟨hb, hown⟩ ((Ch.refl [] w).alloc _) (by simp) (by simp))).mono ?_; rintro e w' ⟨rfl, rfl⟩
  have htail : ∀ q u, (flat js)[q]? = some u → cur[off + 3 + q]? = some u := fun q u hq => by
    rw [show off + 3 + q = off + (q + 3) by omega]
    refine h4 (q + 3) u ?_
    simp only [flat, List.flatMap_cons] at *
    rw [List.getElem?_append_right (by simp [jobCells])]
    simpa [jobCells] using hq
  by_cases hcap : cap = 1
  · subst hcap
    have hjs : js = [] := List.eq_nil_of_length_eq_zero (by omega)
    subst hjs
    go_wp2
    refine bodyPost_ret (v := .tuple #[.agg #[.int .i64 j.1, .int .i64 j.2.1, .int .i64 j.2.2], .bool true]) (by simp [results, Try.results27, go_sem]) rfl ⟨rfl, .slice (some ⟨g, off, none⟩) 0 0, ⟨?_, rfl, .inr ⟨g, off, 0, cur, rfl, ?_, Nat.le_refl _, Nat.zero_le _, by omega, fun q u hq => by cases hq⟩⟩, ?_, rfl⟩
    · simpa using ((hb.set 0 (.slice (some ⟨g, off, none⟩) 0 0)).alloc _).alloc _
    · exact ((hg.setOther hgb _).alloc _).alloc _
    · exact ((((Ch.refl [b] w).setCell (p := ⟨b, 0, none⟩) (.inl (by simp)) _).alloc _).alloc _)
  · go_wp2
    refine bodyPost_ret (v := .tuple #[.agg #[.int .i64 j.1, .int .i64 j.2.1, .int .i64 j.2.2], .bool true]) (by simp [results, Try.results27, go_sem]) rfl ⟨rfl, .slice (some ⟨g, off + 3, none⟩) js.length (cap - 1), ⟨?_, flat_len js, .inr ⟨g, off + 3, cap - 1, cur, rfl, ?_, by omega, by omega, by omega, htail⟩⟩, ?_, rfl⟩
    · simpa using ((hb.set 0 (.slice (some ⟨g, off + 3, none⟩) js.length (cap - 1))).alloc _).alloc _
    · exact ((hg.setOther hgb _).alloc _).alloc _
    · exact ((((Ch.refl [b] w).setCell (p := ⟨b, 0, none⟩) (.inl (by simp)) _).alloc _).alloc _)

/-- The test in Add: is it this goroutine's? -/
theorem rootsAddF (j : Job) (bg : Nat) (g : Int) (w : World) (h : Blk w bg #[.int .i64 g] 3) : Calls Try.prog 47 #[.agg #[.int .i64 j.1, .int .i64 j.2.1, .int .i64 j.2.2], .pointer (some ⟨bg, 0, none⟩)] w fun e w' =>
    e = .returned (.bool (j.1 == g)) ∧ Ch [] w w' := by
  have c := h.cell 0
  have hlt := h.lt
  go_enter Try.func47, Try.ntmps47
  go_wp2
  go_ret
  exact ⟨rfl, (Ch.refl _ _).alloc _⟩
theorem rootsIndex (v : Value) (js : List Job) (bg : Nat) (g : Int) (w : World) (h : Own w 41 3 v js.length (flat js)) (hg : Blk w bg #[.int .i64 g] 3) (hl : js.length ≤ 100000) :
    Calls Try.prog 48 #[v, .func (.func 47) #[] #[.pointer (some ⟨bg, 0, none⟩)]] w fun e w' =>
      ∃ r : Int, e = .returned (.int .i64 r) ∧ -1 ≤ r ∧ r ≤ 100000 ∧ (0 ≤ r ↔ ∃ j ∈ js, j.1 = g) ∧ Ch [] w w' := by
  obtain ⟨a, cap, rfl, hcap, hnone⟩ := h.form
  go_enter Try.func48, Try.ntmps48
  go_wp2
  go_loopw [8] (fun i wr => ∃ k : Nat, k ≤ js.length ∧ i = .int .i64 k ∧ (∀ q j, q < k → js[q]? = some j → ¬ j.1 = g) ∧ Ch [] w wr) (fun i _ => js.length - (intOf i).toNat)
  case atStart => exact ⟨0, by omega, rfl, by intro q j hq; omega, Ch.refl _ _⟩
  case round =>
    obtain ⟨k, hk, rfl, hno, hc⟩ := hrel
    have HNO := Lib.hid hno
    clear hno
    by_cases hlt : k < js.length
    · obtain ⟨q, off, cap', heq, _, _, hcell, _⟩ := (h.keep hc (by simp)).cellsOf (by omega)
      simp only [Value.slice.injEq, true_and] at heq
      obtain ⟨rfl, rfl⟩ := heq
      obtain ⟨jk, hjk⟩ : ∃ jk, js[k]? = some jk := ⟨_, List.getElem?_eq_getElem hlt⟩
      obtain ⟨e0, e1, e2⟩ := flat_get js k jk hjk
      have c0 := hcell _ _ e0
      have c1 := hcell _ _ e1
      have c2 := hcell _ _ e2
      rw [show off + (3 * k) = off + k * 3 by omega] at c0
      rw [show off + (3 * k + 1) = off + k * 3 + 1 by omega] at c1
      rw [show off + (3 * k + 2) = off + k * 3 + 2 by omega] at c2
      have HJ := Lib.hid hjk
      clear hcell e0 e1 e2 hjk
      by_cases hz : jk.1 = g
      · have hzb : (jk.1 == g) = true := by simpa using hz
        clear hz
        go_wp2_with fail
        refine (rootsAddF jk bg g _ (hg.keep hc (by simp))).mono ?_; rintro e w2 ⟨rfl, hc2⟩
        go_wp2
        go_ret
        exact ⟨k, rfl, by omega, by omega, ⟨fun _ => ⟨jk, List.mem_of_getElem? HJ.out, by simpa using hzb⟩, fun _ => by omega⟩, hc.trans hc2⟩
      · have hzb : (jk.1 == g) = false := by simpa using hz
        have HZ := Lib.hid hz
        clear hz
        go_wp2_with fail
        refine (rootsAddF jk bg g _ (hg.keep hc (by simp))).mono ?_; rintro e w2 ⟨rfl, hc2⟩
        go_wp2
        go_roundw
        case rel =>
          refine ⟨k + 1, by omega, by go_num, fun q' j' hq' hj' => ?_, hc.trans hc2⟩
          by_cases e : q' = k
          · subst e
            have := HJ.out.symm.trans hj'
            simp only [Option.some.injEq] at this
            subst this
            exact HZ.out
          · exact HNO.out q' j' (by omega) hj'
        case measure => simp [intOf]; omega
    · go_wp2
      go_ret
      refine ⟨-1, rfl, by omega, by omega, ⟨fun h => by omega, fun ⟨j, hj, hje⟩ => ?_⟩, hc⟩
      obtain ⟨q, hq⟩ := List.getElem?_of_mem hj
      exact absurd hje (HNO.out q j (by have := (List.getElem?_eq_some_iff.1 hq).1; omega) hq)

def jobHas (js : List Job) (g : Int) : Prop := ∃ j ∈ js, j.1 = g
theorem rootsContains (v : Value) (js : List Job) (bg : Nat) (g : Int) (w : World) (h : Own w 41 3 v js.length (flat js)) (hg : Blk w bg #[.int .i64 g] 3) (hl : js.length ≤ 100000) :
    Calls Try.prog 46 #[v, .func (.func 47) #[] #[.pointer (some ⟨bg, 0, none⟩)]] w fun e w' =>
      ∃ r : Bool, e = .returned (.bool r) ∧ (r = true ↔ jobHas js g) ∧ Ch [] w w' := by
  go_enter Try.func46, Try.ntmps46
  go_wp2_with fail
  refine (rootsIndex v js bg g w h hg hl).mono ?_; rintro e w1 ⟨r, rfl, h1, h2, h3, h4⟩
  go_wp2
  go_ret
  exact ⟨_, rfl, by rw [decide_eq_true_eq]; exact h3, h4⟩
theorem Try.infoJob : (Try.prog.info? 41).map (fun i => (i.zero, i.size, i.bytes)) = some (some (.agg #[.int .i64 0, .int .i64 0, .int .i64 0]), 3, 24) := by kernel_rfl
theorem rootsAddHas (b : Nat) (v : Value) (js : List Job) (g : Int) (w : World) (h : RootsAt w b v js) (hl : js.length ≤ 100000) (hh : jobHas js g) :
    Calls Try.prog 40 #[.pointer (some ⟨b, 0, none⟩), .int .i64 g] w fun e w' => e = .returned (.tuple #[]) ∧ RootsAt w' b v js ∧ Ch [] w w' := by
  obtain ⟨a, cap, rfl, _⟩ := h.2.form
  have cb := h.1.cell 0
  have hlt := h.1.lt
  go_enter Try.func40, Try.ntmps40
  go_wp2_with fail
  have h' : RootsAt (w.alloc (.cells #[.int .i64 g] 3)) b (.slice a js.length cap) js := h.keep ((Ch.refl [] w).alloc _) (by simp) (by simp)
  refine (rootsContains _ js w.heap.size g _ h'.2 (Blk.new _ _ _) hl).mono ?_; rintro e w1 ⟨r, rfl, hr, hc⟩
  obtain rfl : r = true := hr.2 hh
  go_wp2
  go_end0
  have hc' := ((Ch.refl [] w).alloc (.cells #[.int .i64 g] 3)).trans hc
  exact ⟨rfl, h.keep hc' (by simp) (by simp), hc'⟩
end Go.Proofs.Ytebibdoekcophaa
