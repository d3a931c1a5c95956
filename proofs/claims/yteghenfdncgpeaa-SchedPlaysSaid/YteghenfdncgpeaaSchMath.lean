/-
  What the operations of a scheduler come to, place by place. No program in sight. Conditions: none beyond what each theorem names.
-/
import Derived.Test.YteghenfdncgpeaaSchD
namespace Go.Proofs.Yteghenfdncgpeaa
open Go.RowKit
section
variable {st : SSt} {p j n : Nat} {g tick vic : Int} {nb : Bool}
theorem ready_at : (readyS st p g nb).nx p = putN (st.nx p) g nb ∧ (readyS st p g nb).hs p = putH (st.hs p) nb ∧ (readyS st p g nb).row p = putX (st.nx p) (st.hs p) (st.row p) g nb ∧ (readyS st p g nb).com = st.com ++ putO (st.nx p) (st.hs p) (st.row p) g nb :=
  ⟨updN_at _ _ _, updN_at _ _ _, updN_at _ _ _, rfl⟩
theorem ready_ne (h : j ≠ p) : (readyS st p g nb).nx j = st.nx j ∧ (readyS st p g nb).hs j = st.hs j ∧ (readyS st p g nb).row j = st.row j :=
  ⟨updN_ne _ _ h, updN_ne _ _ h, updN_ne _ _ h⟩
theorem getSt_at : (getSt st p).nx p = st.nx p ∧ (getSt st p).hs p = false ∧ (getSt st p).row p = getX (st.hs p) (st.row p) ∧ (getSt st p).com = st.com :=
  ⟨updN_at _ _ _, updN_at _ _ _, updN_at _ _ _, rfl⟩
theorem getSt_ne (h : j ≠ p) : (getSt st p).nx j = st.nx j ∧ (getSt st p).hs j = st.hs j ∧ (getSt st p).row j = st.row j :=
  ⟨updN_ne _ _ h, updN_ne _ _ h, updN_ne _ _ h⟩
theorem steal_at {q : Nat} (h : q ≠ p) : (stealS st p q).nx p = st.nx p ∧ (stealS st p q).hs p = st.hs p ∧ (stealS st p q).row p = stealX (st.nx q) (st.hs q) (st.row p) (st.row q) ∧ (stealS st p q).com = st.com :=
  ⟨(updN_ne _ _ (fun e => h e.symm)).trans (updN_at _ _ _), (updN_ne _ _ (fun e => h e.symm)).trans (updN_at _ _ _), (updN_ne _ _ (fun e => h e.symm)).trans (updN_at _ _ _), rfl⟩
theorem steal_from {q : Nat} : (stealS st p q).nx q = st.nx q ∧ (stealS st p q).hs q = stealH (st.hs q) (st.row p) (st.row q) ∧ (stealS st p q).row q = stealY (st.hs q) (st.row p) (st.row q) :=
  ⟨updN_at _ _ _, updN_at _ _ _, updN_at _ _ _⟩
theorem steal_ne {q : Nat} (h1 : j ≠ p) (h2 : j ≠ q) : (stealS st p q).nx j = st.nx j ∧ (stealS st p q).hs j = st.hs j ∧ (stealS st p q).row j = st.row j :=
  ⟨(updN_ne _ _ h2).trans (updN_ne _ _ h1), (updN_ne _ _ h2).trans (updN_ne _ _ h1), (updN_ne _ _ h2).trans (updN_ne _ _ h1)⟩
theorem fair_false (h : tick.tmod 61 ≠ 0) : fairB st tick = false := decide_eq_false (fun e => h e.2.1)
theorem fair_nobody (h : st.com = []) : fairB st tick = false := decide_eq_false (fun e => e.2.2 h)
theorem pick_fair (h : fairB st tick = true) : pickV st p n tick vic = gI st.com 0 ∧ pickB st p n tick vic = true ∧ pickS st p n tick vic = st.setCom st.com.tail :=
  ⟨by unfold pickV; rw [if_pos h], by unfold pickB; rw [if_pos h], by unfold pickS; rw [if_pos h]⟩
theorem pick_own (h : fairB st tick = false) (h2 : getB (st.hs p) (st.row p) = true) : pickV st p n tick vic = getV (st.nx p) (st.hs p) (st.row p) ∧ pickB st p n tick vic = true ∧ pickS st p n tick vic = getSt st p :=
  ⟨by unfold pickV; rw [if_neg (by rw [h]; simp), if_pos h2], by unfold pickB; rw [if_neg (by rw [h]; simp), if_pos h2], by unfold pickS; rw [if_neg (by rw [h]; simp), if_pos h2]⟩
theorem pick_part (h : fairB st tick = false) (h2 : getB (st.hs p) (st.row p) = false) (h3 : st.com ≠ []) : pickV st p n tick vic = gI st.com 0 ∧ pickB st p n tick vic = true ∧ pickS st p n tick vic = partS st p n :=
  ⟨by unfold pickV; rw [if_neg (by rw [h]; simp), if_neg (by rw [h2]; simp), if_pos h3], by unfold pickB; rw [if_neg (by rw [h]; simp), if_neg (by rw [h2]; simp), if_pos h3], by unfold pickS; rw [if_neg (by rw [h]; simp), if_neg (by rw [h2]; simp), if_pos h3]⟩
theorem pick_steal (h2 : getB (st.hs p) (st.row p) = false) (h3 : st.com = []) : pickV st p n tick vic = getV ((stealV st p n vic).nx p) ((stealV st p n vic).hs p) ((stealV st p n vic).row p) ∧ pickB st p n tick vic = getB ((stealV st p n vic).hs p) ((stealV st p n vic).row p) ∧ pickS st p n tick vic = getSt (stealV st p n vic) p := by
  have h := fair_nobody (tick := tick) h3
  exact ⟨by unfold pickV; rw [if_neg (by rw [h]; simp), if_neg (by rw [h2]; simp), if_neg (by simp [h3])], by unfold pickB; rw [if_neg (by rw [h]; simp), if_neg (by rw [h2]; simp), if_neg (by simp [h3])], by unfold pickS; rw [if_neg (by rw [h]; simp), if_neg (by rw [h2]; simp), if_neg (by simp [h3])]⟩
theorem stealV_no (h : hasP n vic = false ∨ vic = p) : stealV st p n vic = st := by
  unfold stealV
  rw [if_neg (by
    rintro ⟨e1, e2⟩
    rcases h with h | h
    · rw [h] at e1; cases e1
    · exact e2 h)]
theorem stealV_yes {q : Nat} (hq : q < n) (h : q ≠ p) : stealV st p n (q : Int) = stealS st p q := by
  unfold stealV
  rw [if_pos ⟨decide_eq_true (by omega), by omega⟩, Int.toNat_natCast]
theorem allS_of {nx : Int} {hs : Bool} {row : List Int} (h1 : st.nx p = nx) (h2 : st.hs p = hs) (h3 : st.row p = row) : allS st p = ringList nx hs row := by
  unfold allS
  rw [h1, h2, h3]
theorem allS_congr {st2 : SSt} (h1 : st2.nx p = st.nx p) (h2 : st2.hs p = st.hs p) (h3 : st2.row p = st.row p) : allS st2 p = allS st p := by
  unfold allS
  rw [h1, h2, h3]
theorem putX_room {nx : Int} {Y : List Int} (hl : Y.length < 256) : putX nx false Y g false = Y ++ [g] ∧ putO nx false Y g false = [] := by
  unfold putX putO
  simp only [Bool.false_eq_true, if_false]
  unfold ringRow ringOver
  rw [if_pos hl, if_pos hl]
  exact ⟨rfl, rfl⟩
end
end Go.Proofs.Yteghenfdncgpeaa
