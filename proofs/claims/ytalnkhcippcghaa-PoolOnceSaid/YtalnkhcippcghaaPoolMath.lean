/-
  What a pool's calls leave of sums over all its buffers. No program in sight. Conditions: none beyond what each theorem names.
-/
import Derived.Test.YtalnkhcippcghaaPoolSt
namespace Go.Proofs.Ytalnkhcippcghaa
open Go.RowKit
def sumP (g : Nat → Nat) : Nat → Nat
  | 0 => 0
  | n + 1 => sumP g n + g n
theorem sumP_congr {g g' : Nat → Nat} : ∀ n, (∀ j, j < n → g' j = g j) → sumP g' n = sumP g n := by
  intro n
  induction n with
  | zero => intro _; rfl
  | succ n ih =>
    intro h
    unfold sumP
    rw [ih (fun j hj => h j (by omega)), h n (by omega)]
theorem sumP_upd {g g' : Nat → Nat} {i : Nat} : ∀ {n : Nat}, i < n → (∀ j, j < n → j ≠ i → g' j = g j) → sumP g' n + g i = sumP g n + g' i := by
  intro n
  induction n with
  | zero => intro h _; omega
  | succ n ih =>
    intro hi h
    unfold sumP
    by_cases e : i = n
    · subst e
      rw [sumP_congr i (fun j hj => h j (by omega) (by omega))]
      omega
    · have := ih (by omega) (fun j hj => h j (by omega))
      have := h n (by omega) (fun e' => e e'.symm)
      omega
theorem sumP_ge {g : Nat → Nat} {i : Nat} : ∀ {n : Nat}, i < n → g i ≤ sumP g n := by
  intro n
  induction n with
  | zero => intro h; omega
  | succ n ih =>
    intro hi
    unfold sumP
    by_cases e : i = n
    · subst e; omega
    · have := ih (by omega); omega
theorem sumP_only {g : Nat → Nat} {i : Nat} : ∀ {n : Nat}, i < n → (∀ j, j < n → j ≠ i → g j = 0) → sumP g n = g i := by
  intro n hi h
  have h1 := sumP_upd (g := g) (g' := fun _ => 0) hi (fun j hj hne => (h j hj hne).symm)
  have h2 : sumP (fun _ => 0) n = 0 := by
    clear h1 h hi
    induction n with
    | zero => rfl
    | succ n ih => unfold sumP; rw [ih]
  rw [h2] at h1
  simp at h1
  omega
theorem sumP_zero : ∀ n, sumP (fun _ => 0) n = 0 := by
  intro n
  induction n with
  | zero => rfl
  | succ n ih => unfold sumP; rw [ih]
structure Addf (f : List Int → Nat) : Prop where
  nil : f [] = 0
  app : ∀ a b, f (a ++ b) = f a + f b
theorem addLen : Addf List.length := ⟨rfl, fun _ _ => List.length_append⟩
theorem addCnt (y : Int) : Addf (List.count y) := ⟨rfl, fun _ _ => List.count_append⟩
def wtF (f : List Int → Nat) (l : List (List Int)) : Nat := (l.map f).sum
def wt (f : List Int → Nat) (s : PSt) (n : Nat) : Nat := sumP (fun i => f (s.one i) + f (s.two i)) n + wtF f s.full
theorem wtF_push (f : List Int → Nat) (l : List (List Int)) (L : List Int) : wtF f (l ++ [L]) = wtF f l + f L := by
  unfold wtF
  simp
section
variable {f : List Int → Nat} {s : PSt} {n i : Nat}
theorem wt_setOne (hi : i < n) (L : List Int) : wt f (s.setOne i L) n + f (s.one i) = wt f s n + f L := by
  have h := sumP_upd (g := fun j => f (s.one j) + f (s.two j)) (g' := fun j => f ((s.setOne i L).one j) + f (s.two j)) hi (fun j _ hne => by
    show f (updN s.one i L j) + _ = _
    rw [updN_ne _ _ hne])
  have e : (s.setOne i L).one i = L := updN_at _ _ _
  simp only [e] at h
  show sumP (fun j => f ((s.setOne i L).one j) + f (s.two j)) n + wtF f s.full + f (s.one i) = sumP _ n + wtF f s.full + f L
  omega
theorem wt_swap (hi : i < n) : wt f (s.swap i) n = wt f s n := by
  have h : sumP (fun j => f ((s.swap i).one j) + f ((s.swap i).two j)) n = sumP (fun j => f (s.one j) + f (s.two j)) n := sumP_congr n (fun j _ => by
    show f (updN s.one i (s.two i) j) + f (updN s.two i (s.one i) j) = _
    unfold updN
    by_cases e : j = i
    · rw [if_pos e, if_pos e, e]; omega
    · rw [if_neg e, if_neg e])
  unfold wt
  rw [h]; rfl
theorem wt_flag (b : Bool) : wt f (s.flag i b) n = wt f s n := rfl
theorem wt_moreE : wt f s.moreE n = wt f s n := rfl
theorem wt_pushOne (hf : f [] = 0) (hi : i < n) : wt f (s.pushOne i) n = wt f s n := by
  have h := wt_setOne (f := f) (s := s) hi []
  have e : wt f (s.pushOne i) n = wt f (s.setOne i []) n + f (s.one i) := by
    show sumP _ n + wtF f (s.full ++ [s.one i]) = sumP _ n + wtF f s.full + f (s.one i)
    rw [wtF_push, Nat.add_assoc]; rfl
  omega
theorem wt_pushL (L : List Int) : wt f (s.pushL L) n = wt f s n + f L := by
  show sumP _ n + wtF f (s.full ++ [L]) = sumP _ n + wtF f s.full + f L
  rw [wtF_push, Nat.add_assoc]; rfl
theorem wt_popF (hf : f [] = 0) (hi : i < n) (h0 : s.one i = []) (hF : s.full ≠ []) : wt f (s.popF i) n = wt f s n := by
  have h := wt_setOne (f := f) (s := s) hi (s.full.getLastD [])
  rw [h0, hf] at h
  have e : wt f (s.setOne i (s.full.getLastD [])) n = wt f (s.popF i) n + f (s.full.getLastD []) := by
    obtain ⟨ys, e1, e2⟩ := concat_of hF []
    show sumP (fun j => f ((s.setOne i (s.full.getLastD [])).one j) + f (s.two j)) n + wtF f s.full = sumP (fun j => f ((s.setOne i (s.full.getLastD [])).one j) + f (s.two j)) n + wtF f s.full.dropLast + f (s.full.getLastD [])
    have e3 : wtF f s.full = wtF f s.full.dropLast + f (s.full.getLastD []) := by
      rw [e2]
      conv => lhs; rw [e1]
      exact wtF_push f ys _
    omega
  omega
theorem wt_put (hf : Addf f) (hi : i < n) (v : Int) : wt f (putS s i v) n = wt f s n + f [v] := by
  unfold putS
  split
  · have := wt_setOne (f := f) (s := s) hi (s.one i ++ [v])
    rw [hf.app] at this
    omega
  · split
    · have := wt_setOne (f := f) (s := s.swap i) hi (s.two i ++ [v])
      have e : (s.swap i).one i = s.two i := updN_at _ _ _
      rw [hf.app, e, wt_swap hi] at this
      omega
    · have h1 := wt_setOne (f := f) (s := ((s.flag i true).swap i).pushOne i) hi [v]
      have e : (((s.flag i true).swap i).pushOne i).one i = [] := updN_at _ _ _
      rw [e, hf.nil, wt_pushOne hf.nil hi, wt_swap hi, wt_flag] at h1
      omega
theorem dropLast_f (hf : Addf f) {L : List Int} (h : L ≠ []) : f L.dropLast + f [L.getLastD 0] = f L := by
  obtain ⟨ys, e1, e2⟩ := concat_of h 0
  rw [e2, ← hf.app, ← e1]
theorem getLastD_mem {l : List (List Int)} (h : l ≠ []) : l.getLastD [] ∈ l := by
  obtain ⟨ys, e1, _⟩ := concat_of h []
  have : l.getLastD [] ∈ ys ++ [l.getLastD []] := by simp
  rw [← e1] at this
  exact this
theorem wt_get (hf : Addf f) (hi : i < n) (hpos : ∀ L ∈ s.full, L ≠ []) (hb : getB s i = true) : wt f (getS s i) n + f [getV s i] = wt f s n := by
  unfold getB at hb
  unfold getS getV
  by_cases h1 : s.one i ≠ []
  · simp only [if_pos h1]
    have := wt_setOne (f := f) (s := s) hi (s.one i).dropLast
    have := dropLast_f hf h1
    omega
  · simp only [if_neg h1] at hb ⊢
    by_cases h2 : s.two i ≠ []
    · simp only [if_pos h2]
      have h := wt_setOne (f := f) (s := s.swap i) hi (s.two i).dropLast
      have e : (s.swap i).one i = s.two i := updN_at _ _ _
      rw [e, wt_swap hi] at h
      have := dropLast_f hf h2
      omega
    · simp only [if_neg h2] at hb ⊢
      by_cases h3 : s.full = []
      · rw [if_pos h3] at hb; cases hb
      · simp only [if_neg h3]
        have h := wt_setOne (f := f) (s := (s.swap i).popF i) hi (s.full.getLastD []).dropLast
        have e : ((s.swap i).popF i).one i = s.full.getLastD [] := updN_at _ _ _
        have h4 : (s.swap i).one i = [] := by
          show updN s.one i (s.two i) i = []
          rw [updN_at]; simpa using h2
        rw [e, wt_popF hf.nil hi h4 h3, wt_swap hi] at h
        have := dropLast_f hf (hpos _ (getLastD_mem h3))
        omega
theorem get_false (hb : getB s i = false) : s.one i = [] ∧ s.two i = [] ∧ s.full = [] ∧ getV s i = 0 ∧ getS s i = s.swap i := by
  unfold getB at hb
  unfold getS getV
  by_cases h1 : s.one i ≠ []
  · rw [if_pos h1] at hb; cases hb
  · simp only [if_neg h1] at hb ⊢
    by_cases h2 : s.two i ≠ []
    · rw [if_pos h2] at hb; cases hb
    · simp only [if_neg h2] at hb ⊢
      by_cases h3 : s.full = []
      · simp only [if_pos h3]
        exact ⟨by simpa using h1, by simpa using h2, h3, trivial, trivial⟩
      · rw [if_neg h3] at hb; cases hb
theorem wtF_ge {l : List (List Int)} (h : ∀ L ∈ l, L ≠ []) : l.length ≤ wtF List.length l := by
  induction l with
  | nil => simp [wtF]
  | cons a l ih =>
    have h1 := ih (fun L hL => h L (List.mem_cons_of_mem _ hL))
    have h2 := h a (by simp)
    have h3 : 0 < a.length := List.length_pos_iff.2 h2
    have h4 : wtF List.length (a :: l) = a.length + wtF List.length l := by simp [wtF]
    rw [h4, List.length_cons]
    omega
theorem full_le (h : ∀ L ∈ s.full, L ≠ []) : s.full.length ≤ wt List.length s n := by
  have := wtF_ge h
  unfold wt
  omega
theorem wt_zero (h : ∀ L ∈ s.full, L ≠ []) (h0 : wt List.length s n = 0) : s.full = [] ∧ ∀ i, i < n → s.one i = [] ∧ s.two i = [] := by
  have h1 := full_le (n := n) h
  refine ⟨List.eq_nil_of_length_eq_zero (by omega), fun i hi => ?_⟩
  have h2 := sumP_ge (g := fun i => (s.one i).length + (s.two i).length) hi
  have h3 : sumP (fun i => (s.one i).length + (s.two i).length) n = 0 := by
    have e : wt List.length s n = sumP (fun i => (s.one i).length + (s.two i).length) n + wtF List.length s.full := rfl
    omega
  rw [h3] at h2
  replace h2 : (s.one i).length + (s.two i).length ≤ 0 := h2
  exact ⟨List.eq_nil_of_length_eq_zero (by omega), List.eq_nil_of_length_eq_zero (by omega)⟩
theorem getB_nil (h1 : s.one i = []) (h2 : s.two i = []) (h3 : s.full = []) : getB s i = false := by
  unfold getB
  rw [h1, h2, h3]
  rfl
/-- What stays of the others through a Get. -/
theorem get_others {j : Nat} (hne : j ≠ i) : (getS s i).one j = s.one j ∧ (getS s i).two j = s.two j := by
  unfold getS
  split
  · exact ⟨updN_ne _ _ hne, rfl⟩
  · split
    · exact ⟨(updN_ne _ _ hne).trans (updN_ne _ _ hne), updN_ne _ _ hne⟩
    · split
      · exact ⟨updN_ne _ _ hne, updN_ne _ _ hne⟩
      · exact ⟨(updN_ne _ _ hne).trans ((updN_ne _ _ hne).trans (updN_ne _ _ hne)), updN_ne _ _ hne⟩
theorem get_rows : (getS s i).full.length + (getS s i).ne = s.full.length + s.ne ∧ (getS s i).fl = s.fl := by
  unfold getS
  split
  · exact ⟨rfl, rfl⟩
  · split
    · exact ⟨rfl, rfl⟩
    · split
      · exact ⟨rfl, rfl⟩
      · next h =>
        refine ⟨?_, rfl⟩
        show s.full.dropLast.length + (s.ne + 1) = _
        have : 0 < s.full.length := List.length_pos_iff.2 h
        rw [List.length_dropLast]
        omega
/-- If all the others have nothing, one gets while there is some. -/
theorem getB_of (hi : i < n) (ho : ∀ j, j < n → j ≠ i → s.one j = [] ∧ s.two j = []) (hw : 0 < wt List.length s n) : getB s i = true := by
  cases hb : getB s i with
  | true => rfl
  | false =>
    obtain ⟨h1, h2, h3, _, _⟩ := get_false hb
    have e : sumP (fun i => (s.one i).length + (s.two i).length) n = 0 := by
      rw [sumP_only hi (fun j hj hne => by rw [(ho j hj hne).1, (ho j hj hne).2]; rfl), h1, h2]; rfl
    have e2 : wt List.length s n = sumP (fun i => (s.one i).length + (s.two i).length) n + wtF List.length s.full := rfl
    rw [e, h3] at e2
    have e3 : wtF List.length ([] : List (List Int)) = 0 := rfl
    omega
end
def initP : PSt := ⟨fun _ => [], fun _ => [], fun _ => false, [], 0⟩
theorem wt_init {f : List Int → Nat} (hf : f [] = 0) (n : Nat) : wt f initP n = 0 := by
  show sumP (fun _ => f [] + f []) n + 0 = 0
  rw [hf]
  exact sumP_zero n
end Go.Proofs.Ytalnkhcippcghaa
