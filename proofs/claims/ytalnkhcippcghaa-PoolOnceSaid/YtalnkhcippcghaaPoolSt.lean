/-
  Contracts of package pool on a pool's state as lists: Put, Get, Flushed, Reset, Local, Lists. Conditions: none beyond what each theorem names.
-/
import Derived.Test.YtalnkhcippcghaaPoolRep
namespace Go.Proofs.Ytalnkhcippcghaa
open Go.RowKit
/-- A pool of n Ps that holds s, in blocks from B on. -/
def PoolS (B : Nat) (w : World) (p n : Nat) (s : PSt) : Prop := ∃ vs vf ve X O T F E C loc, PoolAt w p vs vf ve X O T s.fl F E C ∧ PB B p vs vf ve X O T F E ∧ B ≤ w.heap.size ∧ X.length = n ∧ Rep n O T F E C loc s
def putS (s : PSt) (i : Nat) (v : Int) : PSt :=
  if (s.one i).length < 32 then s.setOne i (s.one i ++ [v])
  else if (s.two i).length < 32 then (s.swap i).setOne i (s.two i ++ [v])
  else (((s.flag i true).swap i).pushOne i).setOne i [v]
def getS (s : PSt) (i : Nat) : PSt :=
  if s.one i ≠ [] then s.setOne i (s.one i).dropLast
  else if s.two i ≠ [] then (s.swap i).setOne i (s.two i).dropLast
  else if s.full = [] then s.swap i
  else ((s.swap i).popF i).setOne i (s.full.getLastD []).dropLast
def getV (s : PSt) (i : Nat) : Int :=
  if s.one i ≠ [] then (s.one i).getLastD 0
  else if s.two i ≠ [] then (s.two i).getLastD 0
  else if s.full = [] then 0
  else (s.full.getLastD []).getLastD 0
def getB (s : PSt) (i : Nat) : Bool :=
  if s.one i ≠ [] then true
  else if s.two i ≠ [] then true
  else if s.full = [] then false
  else true
theorem Fr.le {B : Nat} {w w' : World} (h : Fr B w w') : w.heap.size ≤ w'.heap.size := by
  obtain ⟨S, c, _⟩ := h
  exact c.size
theorem Fr.two {B : Nat} {w w' : World} {a b : Nat} (hc : Ch [a, b] w w') (ha : B ≤ a) (hb : B ≤ b) (pa : PT w a) (pb : PT w b) : Fr B w w' := ⟨[a, b], hc, by
  intro k hk
  simp at hk
  rcases hk with rfl | rfl
  · exact ⟨ha, pa⟩
  · exact ⟨hb, pb⟩⟩
section
variable {w : World} {B p n i : Nat} {vs vf ve : Value} {X F E : List Nat} {O T : Nat → Nat} {Fl : Nat → Bool} {C : Nat → List Int} {s : PSt}
theorem BufAt.pt {b : Nat} {xs : List Int} (h : BufAt w b xs) : PT w b := by
  obtain ⟨cs, hb⟩ := h.blk
  exact ⟨cs, _, hb, by simp⟩
theorem PoolAt.ptX (h : PoolAt w p vs vf ve X O T Fl F E C) {x : Nat} (hx : X[i]? = some x) : PT w x := ⟨_, _, h.pr i x hx, by simp⟩
theorem PoolS.of {loc : Nat → Nat} (h : PoolAt w p vs vf ve X O T s.fl F E C) (hb : PB B p vs vf ve X O T F E) (hB : B ≤ w.heap.size) (hn : X.length = n) (hr : Rep n O T F E C loc s) : PoolS B w p n s := ⟨vs, vf, ve, X, O, T, F, E, C, loc, h, hb, hB, hn, hr⟩
theorem PoolS.still {w' : World} (h : PoolS B w p n s) (hc : Ch [] w w') : PoolS B w' p n s := by
  obtain ⟨vs, vf, ve, X, O, T, F, E, C, loc, h, hb, hB, hn, hr⟩ := h
  exact ⟨vs, vf, ve, X, O, T, F, E, C, loc, h.ch hc, hb, Nat.le_trans hB hc.size, hn, hr⟩
theorem concat_of {α : Type} {l : List α} (h : l ≠ []) (d : α) : ∃ ys, l = ys ++ [l.getLastD d] ∧ l.dropLast = ys := by
  rcases List.eq_nil_or_concat l with e | ⟨ys, v, e⟩
  · exact absurd e h
  · rw [List.concat_eq_append] at e
    subst e
    exact ⟨ys, by rw [List.getLastD_concat], by rw [List.dropLast_concat]⟩
theorem sPut (v : Int) (h : PoolS B w p n s) (hi : i < n) (hv : v ≠ 0) (hlF : s.full.length ≤ 1000) (hlE : s.ne ≤ 1000) :
    Calls Try.prog 35 #[.pointer (some ⟨p, 0, none⟩), .int .i64 i, .int .i64 v] w fun e w' => e = .returned (.int .i64 0) ∧ PoolS B w' p n (putS s i v) ∧ Fr B w w' := by
  obtain ⟨vs, vf, ve, X, O, T, F, E, C, loc, h, hb, hB, hn, hr⟩ := h
  have hiX : i < X.length := by omega
  obtain ⟨x, hx⟩ : ∃ x, X[i]? = some x := ⟨_, List.getElem?_eq_getElem hiX⟩
  have hxB := hb.x x (List.mem_of_getElem? hx)
  have ho := hr.one i hi
  have ht := hr.two i hi
  have hle := h.le hx
  rw [ho, ht] at hle
  unfold putS
  by_cases h1 : (s.one i).length < 32
  · rw [if_pos h1]
    refine (poolPutA i x v h hx hv (by rw [ho]; exact h1)).mono fun e w' ⟨a, b, c⟩ => ⟨a, ⟨vs, vf, ve, X, O, T, F, E, _, loc, b, hb, Nat.le_trans hB c.size, hn, ?_⟩, Fr.one c (hb.o i hiX) (h.one i hiX).pt⟩
    rw [ho]
    exact hr.setOne hi _
  · rw [if_neg h1]
    by_cases h2 : (s.two i).length < 32
    · rw [if_pos h2]
      obtain ⟨loc', hr'⟩ := hr.swap hi
      refine (poolPutB i x v h hx hv (by rw [ho]; omega) (by rw [ht]; exact h2)).mono fun e w' ⟨a, b, c⟩ => ⟨a, ⟨vs, vf, ve, X, _, _, F, E, _, loc', b, (hb.setO i (hb.t i hiX)).setT i (hb.o i hiX), Nat.le_trans hB c.size, hn, ?_⟩, Fr.two c hxB (hb.t i hiX) (h.ptX hx) (h.two i hiX).pt⟩
      have := hr'.setOne hi (s.two i ++ [v])
      rw [updN_at] at this
      rw [ht]
      exact this
    · rw [if_neg h2]
      have l1 : (C (O i)).length = 32 := by rw [ho]; omega
      have l2 : (C (T i)).length = 32 := by rw [ht]; omega
      have hrf := hr.flag i true
      obtain ⟨loc', hr'⟩ := hrf.swap hi
      have hlF' : F.length ≤ 1000 := by rw [hr.fl]; exact hlF
      have hsw : ((s.flag i true).swap i).one i ≠ [] := by
        show updN s.one i (s.two i) i ≠ []
        rw [updN_at]
        intro e
        rw [e] at h2
        simp at h2
      rcases List.eq_nil_or_concat E with rfl | ⟨E', b, rfl⟩
      · refine (poolPutNew i x v h hb hB hx hv l1 l2 hlF').mono fun e w' ⟨a, b, hbs, hP⟩ => ⟨a, ?_⟩
        obtain ⟨vf', ve', q1, q2, q3⟩ := hP
        refine ⟨?_, q3⟩
        obtain ⟨loc2, hr2⟩ := hr'.moreE (b := b) (fun j hj => by
          have h1 := (h.one j (by omega)).lt
          have h2 := (h.two j (by omega)).lt
          unfold updN
          split
          · have := (h.two i (by omega)).lt; omega
          · omega) (fun j hj => by
          have h1 := (h.one j (by omega)).lt
          have h2 := (h.two j (by omega)).lt
          unfold updN
          split
          · have := (h.one i (by omega)).lt; omega
          · omega) (fun hm => by have := (h.bF b hm).lt; omega) (by simp)
        obtain ⟨loc3, hr3⟩ := Rep.pushOne hr2 hi hsw
        have hr4 := hr3.setOne hi [v]
        rw [updN_upd, updN_at, updN_at, updN_upd] at hr4
        have hz : s.ne = 0 := hr.ne.symm
        have e2 : ((((s.flag i true).swap i).moreE.pushOne i).setOne i [v]) = (((s.flag i true).swap i).pushOne i).setOne i [v] := by
          show PSt.mk _ _ _ _ (s.ne + 1 - 1) = PSt.mk _ _ _ _ (s.ne - 1)
          rw [hz]; rfl
        rw [e2] at hr4
        exact .of q1 q2 (Nat.le_trans hB q3.le) hn hr4
      · rw [List.concat_eq_append] at h hb hr hrf hr'
        have hlE' : E'.length ≤ 1000 := by have := hr.ne; rw [List.length_append, List.length_singleton] at this; omega
        refine (poolPutOld i x b v h hb hB hx hv l1 l2 hlF' hlE' (hr.emp E'.length b (by simp))).mono fun e w' ⟨a, hP⟩ => ⟨a, ?_⟩
        obtain ⟨vf', ve', q1, q2, q3⟩ := hP
        refine ⟨?_, q3⟩
        obtain ⟨loc3, hr3⟩ := Rep.pushOne hr' hi hsw
        have hr4 := hr3.setOne hi [v]
        rw [updN_upd, updN_at, updN_at] at hr4
        exact .of q1 q2 (Nat.le_trans hB q3.le) hn hr4
theorem sPutZero (h : PoolS B w p n s) (hi : i < n) : Calls Try.prog 35 #[.pointer (some ⟨p, 0, none⟩), .int .i64 i, .int .i64 0] w fun e w' => e = .returned (.int .i64 1) ∧ w' = w := by
  obtain ⟨vs, vf, ve, X, O, T, F, E, C, loc, h, hb, hB, hn, hr⟩ := h
  exact poolPutArg i _ h (List.getElem?_eq_getElem (by omega))
theorem sGet (h : PoolS B w p n s) (hi : i < n) (hlF : s.full.length ≤ 1000) (hlE : s.ne ≤ 1000) :
    Calls Try.prog 38 #[.pointer (some ⟨p, 0, none⟩), .int .i64 i] w fun e w' => e = .returned (.tuple #[.int .i64 (getV s i), .bool (getB s i)]) ∧ PoolS B w' p n (getS s i) ∧ Fr B w w' := by
  obtain ⟨vs, vf, ve, X, O, T, F, E, C, loc, h, hb, hB, hn, hr⟩ := h
  have hiX : i < X.length := by omega
  obtain ⟨x, hx⟩ : ∃ x, X[i]? = some x := ⟨_, List.getElem?_eq_getElem hiX⟩
  have hxB := hb.x x (List.mem_of_getElem? hx)
  have ho := hr.one i hi
  have ht := hr.two i hi
  unfold getS getV getB
  by_cases h1 : s.one i ≠ []
  · simp only [if_pos h1]
    obtain ⟨ys, e1, e2⟩ := concat_of h1 0
    rw [e2]
    refine (poolGetA i x ys _ h hx (by rw [ho]; exact e1)).mono fun e w' ⟨a, b, c⟩ => ⟨a, ⟨vs, vf, ve, X, O, T, F, E, _, loc, b, hb, Nat.le_trans hB c.size, hn, hr.setOne hi _⟩, Fr.one c (hb.o i hiX) (h.one i hiX).pt⟩
  · simp only [if_neg h1]
    have h0 : s.one i = [] := by simpa using h1
    obtain ⟨loc', hr'⟩ := hr.swap hi
    by_cases h2 : s.two i ≠ []
    · simp only [if_pos h2]
      obtain ⟨ys, e1, e2⟩ := concat_of h2 0
      rw [e2]
      refine (poolGetB i x ys _ h hx (by rw [ho]; exact h0) (by rw [ht]; exact e1)).mono fun e w' ⟨a, b, c⟩ => ⟨a, ⟨vs, vf, ve, X, _, _, F, E, _, loc', b, (hb.setO i (hb.t i hiX)).setT i (hb.o i hiX), Nat.le_trans hB c.size, hn, ?_⟩, Fr.two c hxB (hb.t i hiX) (h.ptX hx) (h.two i hiX).pt⟩
      have := hr'.setOne hi ys
      rw [updN_at] at this
      exact this
    · simp only [if_neg h2]
      have h3 : s.two i = [] := by simpa using h2
      rcases List.eq_nil_or_concat F with rfl | ⟨F', b, rfl⟩
      · have hf : s.full = [] := List.eq_nil_of_length_eq_zero hr.fl.symm
        simp only [if_pos hf]
        exact (poolGetC i x h hx (by rw [ho]; exact h0) (by rw [ht]; exact h3)).mono fun e w' ⟨a, b, c⟩ => ⟨a, ⟨vs, vf, ve, X, _, _, [], E, _, loc', b, (hb.setO i (hb.t i hiX)).setT i (hb.o i hiX), Nat.le_trans hB c.size, hn, hr'⟩, Fr.one c hxB (h.ptX hx)⟩
      · rw [List.concat_eq_append] at h hb hr hr'
        have hfl := hr.fl
        rw [List.length_append, List.length_singleton] at hfl
        have hf : s.full ≠ [] := by intro e; rw [e] at hfl; simp at hfl
        simp only [if_neg hf]
        have hsw : (s.swap i).one i = [] := by show updN s.one i (s.two i) i = []; rw [updN_at]; exact h3
        obtain ⟨⟨k1, k2, k3⟩, loc2, hr2⟩ := hr'.popF hi hsw
        have k1' : s.full.getLastD [] = C b := k1
        obtain ⟨ys, e1, e2⟩ := concat_of k2 0
        rw [k1', e2]
        refine (poolGetD i x b ys _ h hb hB hx (by rw [ho]; exact h0) (by rw [ht]; exact h3) e1 (by omega) (by rw [hr.ne]; exact hlE)).mono fun e w' ⟨a, hP⟩ => ⟨a, ?_⟩
        obtain ⟨vf', ve', q1, q2, q3⟩ := hP
        refine ⟨?_, q3⟩
        have hr4 := hr2.setOne hi ys
        rw [updN_upd, updN_at, updN_at] at hr4
        exact .of q1 q2 (Nat.le_trans hB q3.le) hn hr4
theorem sFlushed (h : PoolS B w p n s) (hi : i < n) : Calls Try.prog 36 #[.pointer (some ⟨p, 0, none⟩), .int .i64 i] w fun e w' => e = .returned (.bool (s.fl i)) ∧ w' = w := by
  obtain ⟨vs, vf, ve, X, O, T, F, E, C, loc, h, hb, hB, hn, hr⟩ := h
  exact poolFlushed i _ h (List.getElem?_eq_getElem (by omega))
theorem sReset (h : PoolS B w p n s) (hi : i < n) : Calls Try.prog 37 #[.pointer (some ⟨p, 0, none⟩), .int .i64 i] w fun e w' => e = .returned (.tuple #[]) ∧ PoolS B w' p n (s.flag i false) ∧ Fr B w w' := by
  obtain ⟨vs, vf, ve, X, O, T, F, E, C, loc, h, hb, hB, hn, hr⟩ := h
  have hiX : i < X.length := by omega
  have hx := List.getElem?_eq_getElem hiX
  exact (poolReset i _ h hx).mono fun e w' ⟨a, b, c⟩ => ⟨a, ⟨vs, vf, ve, X, O, T, F, E, C, loc, b, hb, Nat.le_trans hB c.size, hn, hr.flag i false⟩, Fr.one c (hb.x _ (List.mem_of_getElem? hx)) (h.ptX hx)⟩
theorem sLists (h : PoolS B w p n s) : Calls Try.prog 44 #[.pointer (some ⟨p, 0, none⟩)] w fun e w' => e = .returned (.tuple #[.int .i64 s.full.length, .int .i64 s.ne]) ∧ Ch [] w w' := by
  obtain ⟨vs, vf, ve, X, O, T, F, E, C, loc, h, hb, hB, hn, hr⟩ := h
  rw [← hr.fl, ← hr.ne]
  exact poolLists h
theorem sLocal (h : PoolS B w p n s) (hi : i < n) : Calls Try.prog 39 #[.pointer (some ⟨p, 0, none⟩), .int .i64 i] w fun e w' => e = .returned (.int .i64 ((s.one i).length + (s.two i).length : Nat)) ∧ Ch [] w w' := by
  obtain ⟨vs, vf, ve, X, O, T, F, E, C, loc, h, hb, hB, hn, hr⟩ := h
  rw [← hr.one i hi, ← hr.two i hi]
  exact poolLocal i _ h (List.getElem?_eq_getElem (by omega))
end
end Go.Proofs.Ytalnkhcippcghaa
