/-
  Plain laws for SpanCycles: what stays and what goes on the way through the used places; a list that is read, two lists of one's own. Conditions: none beyond what each theorem names.
-/
import Derived.Test.YtheniiinioggiaaDoorSpanMath
import Derived.Test.YtheniiinioggiaaDoorPutRef
namespace Go.Proofs.YtheniiinioggiaaDoor
open Go.RowKit
theorem cnt_full {U : Nat → Bool} {n : Nat} (h : cnt U n = n) : ∀ j, j < n → U j = true := by
  intro j hj
  have h1 := cnt_not U n
  have h2 := cnt_gap (notS U) 0 n (by rw [cnt_zero]; omega) (by omega) j (by omega) hj
  simpa [notS] using h2
theorem all_full {U : Nat → Bool} {n : Nat} (h : ∀ j, j < n → U j = true) : cnt U n = n := by
  have h1 := cnt_not U n
  have h2 : cnt (notS U) n = 0 := by
    rw [cnt_congr n (T := none_) (fun j hj => show notS U j = none_ j by simp [notS, none_, h j hj]), cnt_none_]
  omega
/-- The next free place, where all below fr are used. -/
theorem free_cases {U : Nat → Bool} {n fr : Nat} (h : ∀ j, j < fr → j < n → U j = true) : (cnt U n = n ∧ nxt U n fr false = -1) ∨ ∃ j : Nat, nxt U n fr false = (j : Int) ∧ j < n ∧ U j = false ∧ (∀ t, t < j → U t = true) ∧ cnt U n < n := by
  rcases nxt_cases U n fr false with ⟨h1, h2⟩ | ⟨j, h1, h2, h3, h4, h5⟩
  · left
    refine ⟨all_full (fun j hj => ?_), h1⟩
    by_cases hjf : j < fr
    · exact h j hjf hj
    · have := h2 j (by omega) hj
      simpa using this
  · right
    refine ⟨j, h1, h2, h4, fun t ht => ?_, ?_⟩
    · by_cases htf : t < fr
      · exact h t htf (by omega)
      · have := h5 t (by omega) ht
        simpa using this
    · have := cnt_le U n
      by_cases he : cnt U n = n
      · have := cnt_full he j h2
        rw [h4] at this
        cases this
      · omega
theorem put_len {U : Nat → Bool} {n j : Nat} (hj : j < n) (hU : U j = false) : cnt (putS U n j true) n = cnt U n + 1 := by
  rw [putS_nat' _ _ _ _ hj]
  have := cnt_upd U n j hj true
  rw [hU] at this
  simpa using this
theorem els_snoc {M : Nat → Bool} {n p : Nat} (hp : p < n) (h : ∀ j, j < n → M j = true → j < p) : els (putS M n p true) n = els M n ++ [(p : Int)] := by
  refine eq_of_SS _ _ (SS_els _ _) ?_ (fun x => ?_)
  · unfold SS
    rw [List.pairwise_append]
    refine ⟨SS_els _ _, by simp, fun a ha b hb => ?_⟩
    simp only [List.mem_singleton] at hb
    subst hb
    rw [mem_els] at ha
    simp only [hasI, Bool.and_eq_true, decide_eq_true_eq] at ha
    have := h a.toNat (by omega) ha.2.2
    omega
  · rw [mem_els, hasI_put _ _ _ _ _ (by omega), List.mem_append, mem_els]
    by_cases hx : x = (p : Int)
    · simp [hx]
    · simp [hx]
theorem els_take {U : Nat → Bool} {n k p : Nat} (h : mem U p = (mem U n).take k) : (els U n).take k = els U p := by
  unfold els
  rw [← List.map_take, ← h]
/-- What goes, on the way. -/
def goes (U M : Nat → Bool) (n k : Nat) : List Int := ((els U n).take k).filter fun x => !hasI M n x
theorem goes_all (U M : Nat → Bool) (n k : Nat) (h : cnt U n ≤ k) : goes U M n k = gone U M n := by
  unfold goes gone
  rw [List.take_of_length_le (by rw [els_len]; exact h)]
theorem goes_keep {U M : Nat → Bool} {n k p : Nat} (hk : k < cnt U n) (hp : p < n) (hg : gI (els U n) k = (p : Int)) (ht : (els U n).take k = els U p) : goes U (putS M n p true) n (k + 1) = goes U M n k := by
  unfold goes
  rw [filter_take_succ _ _ _ (by rw [els_len]; exact hk), hg, hasI_put _ _ _ _ _ (by omega), if_pos rfl]
  simp only [Bool.not_true, Bool.false_eq_true, if_false, List.append_nil]
  rw [ht]
  apply List.filter_congr
  intro x hx
  rw [mem_els] at hx
  simp only [hasI, Bool.and_eq_true, decide_eq_true_eq] at hx
  rw [hasI_put _ _ _ _ _ (by omega), if_neg (by omega)]
theorem goes_go {U M : Nat → Bool} {n k p : Nat} (hk : k < cnt U n) (hp : p < n) (hg : gI (els U n) k = (p : Int)) (hM : M p = false) : goes U M n (k + 1) = goes U M n k ++ [(p : Int)] := by
  unfold goes
  rw [filter_take_succ _ _ _ (by rw [els_len]; exact hk), hg, hasI_in hp, hM]
  simp
theorem goes_len (U M : Nat → Bool) (n k : Nat) : (goes U M n k).length ≤ cnt U n := by
  unfold goes
  refine Nat.le_trans (List.length_filter_le _ _) ?_
  rw [List.length_take, els_len]
  omega
theorem mark_in' {U M : Nat → Bool} {n i : Nat} (hi : i < n) (hU : U i = true) : markB U M n (i : Int) = !M i ∧ markM U M n (i : Int) = putS M n i true := by
  have e : hasI U n (i : Int) = true := by rw [hasI_in hi]; exact hU
  unfold markB markM setB
  rw [e, if_pos rfl, decide_eq_true (show (0 : Int) ≤ i by omega), decide_eq_true (show (i : Int) < n by omega), Int.toNat_natCast]
  exact ⟨rfl, rfl⟩
/-- A list that is only read, beside the blocks S. -/
def LsB (w : World) (S : List Nat) (a : Option Addr) (c : Nat) (xs : List Int) : Prop := Rd w a xs ∧ xs.length ≤ c ∧ c ≤ maxLen ∧ ∀ y, a = some y → y.block < w.heap.size ∧ y.block ∉ S
section
variable {w w' w0 w2 : World} {S T E : List Nat} {v u v' : Value} {xs ys zs : List Int} {B c : Nat} {a : Option Addr}
theorem LsB.step (h : LsB w S a c xs) (hc : Ch T w w') (hT : ∀ k ∈ T, k ∈ S ∨ w.heap.size ≤ k) : LsB w' S a c xs := by
  obtain ⟨h1, h2, h3, h4⟩ := h
  refine ⟨h1.keep hc (fun y hy hk => ?_), h2, h3, fun y hy => ⟨Nat.lt_of_lt_of_le (h4 y hy).1 hc.size, (h4 y hy).2⟩⟩
  rcases hT _ hk with h | h
  · exact (h4 y hy).2 h
  · have := (h4 y hy).1; omega
theorem LsB.beside (h : LsB w S a c xs) (hc : Ch T w w') (hT : ∀ y, a = some y → y.block ∉ T) : LsB w' S a c xs := by
  obtain ⟨h1, h2, h3, h4⟩ := h
  exact ⟨h1.keep hc hT, h2, h3, fun y hy => ⟨Nat.lt_of_lt_of_le (h4 y hy).1 hc.size, (h4 y hy).2⟩⟩
theorem LsB.nil (w : World) (S : List Nat) : LsB w S none 0 [] := ⟨.inl rfl, Nat.le_refl _, Nat.zero_le _, fun y hy => by cases hy⟩
theorem OwD.lsB {n : Nat} (h : OwD w B S (.slice a n c) xs) : LsB w S a c xs := by
  have h5 := h.ls
  exact ⟨h5.1, h5.2.1, h5.2.2.1, fun y hy => by subst hy; exact ⟨h.1.lt y.block rfl, h.2 y.block rfl⟩⟩
theorem putLsB (a : Option Addr) (l : List Int) (x : Int) (n c : Nat) (S : List Nat) (w : World) (h : LsB w S a c l) (hn : n = l.length) (hS : ∀ k ∈ S, k < w.heap.size) (hl : n ≤ 100000) :
    Calls Tryd.prog 23 #[.slice a n c, .int .i64 x] w fun e w' => ∃ a' c', e = .returned (.slice a' (ins l x).length c') ∧ LsB w' S a' c' (ins l x) ∧ Ch [] w w' := by
  obtain ⟨h1, h2, h3, h4⟩ := h
  refine (putRef a l x n c w h1 hn (by omega) h3 hl).mono ?_
  rintro e w' ⟨a', c', rfl, r1, r2, r3, r4, r5⟩
  refine ⟨a', c', rfl, ⟨r1, r2, r3, fun y hy => ?_⟩, r5⟩
  rcases r4 with rfl | r4
  · exact ⟨Nat.lt_of_lt_of_le (h4 y hy).1 r5.size, (h4 y hy).2⟩
  · have h5 := r4 y hy
    refine ⟨?_, fun hk => by have := hS _ hk; omega⟩
    have hx : x ∈ ins l x := (mem_ins l x x).2 (.inl rfl)
    have hlen : 0 < (ins l x).length := List.length_pos_of_mem hx
    obtain ⟨b, o, he, hc⟩ := r1.at hlen
    rw [hy] at he
    cases he
    have := hc 0 hlen
    by_cases hb : b < w'.heap.size
    · exact hb
    · have h2 : w'.heap[b]? = none := Array.getElem?_eq_none (by omega)
      simp [World.cell?, h2] at this
/-- Two lists of one's own. -/
structure Two (w : World) (B : Nat) (E : List Nat) (v : Value) (xs : List Int) (u : Value) (ys : List Int) : Prop where
  a : OwD w B E v xs
  b : OwD w B E u ys
  ap : ∀ k, v.ownBlock = some k → u.ownBlock ≠ some k
theorem Two.step (h : Two w B E v xs u ys) (hc : Ch T w w') (hT : ∀ k ∈ T, k ∈ E ∨ w.heap.size ≤ k) : Two w' B E v xs u ys := ⟨h.a.step hc hT, h.b.step hc hT, h.ap⟩
theorem Two.still (h : Two w B E v xs u ys) (hc : Ch [] w w') : Two w' B E v xs u ys := h.step hc (by simp)
theorem Two.appA (h : Two w B E v xs u ys) (hE : ∀ k ∈ E, k < w.heap.size) (hv : OwI w' B v' zs) (hc : Ch v.ownBlock.toList w w') (hn : NewAt w v v') : Two w' B E v' zs u ys :=
  ⟨OwD.new hv hn h.a.2 hE, ⟨h.b.1.keep hc (fun k hk => h.ap k (by simpa using hk)), h.b.2⟩, fun k hk => by
    rcases hn with h1 | h1
    · exact h.ap k (by rw [← h1]; exact hk)
    · intro h2; have := h1 k hk; have := h.b.1.lt k h2; omega⟩
theorem Two.appB (h : Two w B E v xs u ys) (hE : ∀ k ∈ E, k < w.heap.size) (hv : OwI w' B v' zs) (hc : Ch u.ownBlock.toList w w') (hn : NewAt w u v') : Two w' B E v xs v' zs :=
  ⟨⟨h.a.1.keep hc (fun k hk he => h.ap k he (by simpa using hk)), h.a.2⟩, OwD.new hv hn h.b.2 hE, fun k hk => by
    intro h2
    rcases hn with h1 | h1
    · exact h.ap k hk (by rw [← h1]; exact h2)
    · have := h1 k h2; have := h.a.1.lt k hk; omega⟩
end
end Go.Proofs.YtheniiinioggiaaDoor
