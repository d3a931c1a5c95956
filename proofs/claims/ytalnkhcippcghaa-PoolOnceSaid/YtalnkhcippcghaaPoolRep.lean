/-
  A pool's state on lists, and how the blocks that hold it turn. Conditions: none beyond what each theorem names.
-/
import Derived.Test.YtalnkhcippcghaaPool9
namespace Go.Proofs.Ytalnkhcippcghaa
open Go.RowKit
/-- A pool's state: each P's two buffers, whether it gave some away, the full ones, how many are empty. -/
structure PSt where
  one : Nat → List Int
  two : Nat → List Int
  fl : Nat → Bool
  full : List (List Int)
  ne : Nat
/-- The blocks hold that; loc tells where each stands, so that all differ. -/
structure Rep (n : Nat) (O T : Nat → Nat) (F E : List Nat) (C : Nat → List Int) (loc : Nat → Nat) (s : PSt) : Prop where
  o : ∀ i, i < n → loc (O i) = 4 * i
  t : ∀ i, i < n → loc (T i) = 4 * i + 1
  f : ∀ k b : Nat, F[k]? = some b → loc b = 4 * k + 2
  e : ∀ k b : Nat, E[k]? = some b → loc b = 4 * k + 3
  one : ∀ i, i < n → C (O i) = s.one i
  two : ∀ i, i < n → C (T i) = s.two i
  full : ∀ k b : Nat, F[k]? = some b → s.full[k]? = some (C b)
  fl : F.length = s.full.length
  ne : E.length = s.ne
  emp : ∀ k b : Nat, E[k]? = some b → C b = []
  pos : ∀ L ∈ s.full, L ≠ []
theorem updN_self {α : Type} (f : Nat → α) (i : Nat) : updN f i (f i) = f := by
  funext k
  unfold updN
  by_cases h : k = i <;> simp [h]
theorem getPush {α : Type} {l : List α} {a b : α} {k : Nat} (h : (l ++ [a])[k]? = some b) : l[k]? = some b ∨ k = l.length ∧ b = a := by
  rw [List.getElem?_append] at h
  split at h
  · exact .inl h
  · next hk =>
    right
    rw [List.getElem?_singleton] at h
    split at h
    · next hk2 =>
      cases h
      exact ⟨by omega, rfl⟩
    · cases h
theorem getFront {α : Type} {l : List α} {a b : α} {k : Nat} (h : l[k]? = some b) : (l ++ [a])[k]? = some b := by
  rw [List.getElem?_append_left (List.getElem?_eq_some_iff.1 h).1]; exact h
namespace PSt
def setOne (s : PSt) (i : Nat) (L : List Int) : PSt := { s with one := updN s.one i L }
def swap (s : PSt) (i : Nat) : PSt := { s with one := updN s.one i (s.two i), two := updN s.two i (s.one i) }
def moreE (s : PSt) : PSt := { s with ne := s.ne + 1 }
def pushOne (s : PSt) (i : Nat) : PSt := { s with one := updN s.one i [], full := s.full ++ [s.one i], ne := s.ne - 1 }
def pushL (s : PSt) (L : List Int) : PSt := { s with full := s.full ++ [L], ne := s.ne - 1 }
def popF (s : PSt) (i : Nat) : PSt := { s with one := updN s.one i (s.full.getLastD []), full := s.full.dropLast, ne := s.ne + 1 }
def flag (s : PSt) (i : Nat) (b : Bool) : PSt := { s with fl := updN s.fl i b }
end PSt
section
variable {n : Nat} {O T : Nat → Nat} {F E : List Nat} {C : Nat → List Int} {loc : Nat → Nat} {s : PSt}
theorem Rep.flag (h : Rep n O T F E C loc s) (i : Nat) (b : Bool) : Rep n O T F E C loc (s.flag i b) := ⟨h.o, h.t, h.f, h.e, h.one, h.two, h.full, h.fl, h.ne, h.emp, h.pos⟩
theorem Rep.setOne (h : Rep n O T F E C loc s) {i : Nat} (hi : i < n) (L : List Int) : Rep n O T F E (updN C (O i) L) loc (s.setOne i L) := by
  have hoi := h.o i hi
  have hne : ∀ b, loc b ≠ 4 * i → updN C (O i) L b = C b := fun b hb => updN_ne _ _ (fun e => hb (by rw [e]; exact hoi))
  refine ⟨h.o, h.t, h.f, h.e, fun j hj => ?_, fun j hj => ?_, fun k b hb => ?_, h.fl, h.ne, fun k b hb => ?_, h.pos⟩
  · by_cases e : j = i
    · subst e; show updN C (O j) L (O j) = updN s.one j L j; rw [updN_at, updN_at]
    · show _ = updN s.one i L j
      rw [hne _ (by rw [h.o j hj]; omega), updN_ne _ _ e]; exact h.one j hj
  · rw [hne _ (by rw [h.t j hj]; omega)]; exact h.two j hj
  · rw [hne _ (by rw [h.f k b hb]; omega)]; exact h.full k b hb
  · rw [hne _ (by rw [h.e k b hb]; omega)]; exact h.emp k b hb
theorem Rep.swap (h : Rep n O T F E C loc s) {i : Nat} (hi : i < n) : ∃ loc', Rep n (updN O i (T i)) (updN T i (O i)) F E C loc' (s.swap i) := by
  have hoi := h.o i hi
  have hti := h.t i hi
  have hot : O i ≠ T i := fun e => by rw [e, hti] at hoi; omega
  have hne : ∀ b, loc b ≠ 4 * i → loc b ≠ 4 * i + 1 → updN (updN loc (O i) (4 * i + 1)) (T i) (4 * i) b = loc b := fun b h1 h2 => by
    rw [updN_ne _ _ (fun e => h2 (by rw [e]; exact hti)), updN_ne _ _ (fun e => h1 (by rw [e]; exact hoi))]
  refine ⟨updN (updN loc (O i) (4 * i + 1)) (T i) (4 * i), fun j hj => ?_, fun j hj => ?_, fun k b hb => ?_, fun k b hb => ?_, fun j hj => ?_, fun j hj => ?_, h.full, h.fl, h.ne, h.emp, h.pos⟩
  · by_cases e : j = i
    · subst e; rw [updN_at, updN_at]
    · rw [updN_ne O _ e, hne _ (by rw [h.o j hj]; omega) (by rw [h.o j hj]; omega)]; exact h.o j hj
  · by_cases e : j = i
    · subst e; rw [updN_at, updN_ne _ _ hot, updN_at]
    · rw [updN_ne T _ e, hne _ (by rw [h.t j hj]; omega) (by rw [h.t j hj]; omega)]; exact h.t j hj
  · rw [hne _ (by rw [h.f k b hb]; omega) (by rw [h.f k b hb]; omega)]; exact h.f k b hb
  · rw [hne _ (by rw [h.e k b hb]; omega) (by rw [h.e k b hb]; omega)]; exact h.e k b hb
  · show _ = updN s.one i (s.two i) j
    by_cases e : j = i
    · subst e; rw [updN_at, updN_at]; exact h.two j hj
    · rw [updN_ne O _ e, updN_ne s.one _ e]; exact h.one j hj
  · show _ = updN s.two i (s.one i) j
    by_cases e : j = i
    · subst e; rw [updN_at, updN_at]; exact h.one j hj
    · rw [updN_ne T _ e, updN_ne s.two _ e]; exact h.two j hj
/-- A buffer that is none of the pool's comes to the empty ones. -/
theorem Rep.moreE (h : Rep n O T F E C loc s) {b : Nat} (ho : ∀ i, i < n → O i ≠ b) (ht : ∀ i, i < n → T i ≠ b) (hf : b ∉ F) (he : b ∉ E) : ∃ loc', Rep n O T F (E ++ [b]) (updN C b []) loc' s.moreE := by
  have hF : ∀ k x : Nat, F[k]? = some x → x ≠ b := fun k x hx e => hf (by rw [← e]; exact List.mem_of_getElem? hx)
  have hE : ∀ k x : Nat, E[k]? = some x → x ≠ b := fun k x hx e => he (by rw [← e]; exact List.mem_of_getElem? hx)
  refine ⟨updN loc b (4 * E.length + 3), fun j hj => ?_, fun j hj => ?_, fun k x hx => ?_, fun k x hx => ?_, fun j hj => ?_, fun j hj => ?_, fun k x hx => ?_, h.fl, ?_, fun k x hx => ?_, h.pos⟩
  · rw [updN_ne _ _ (ho j hj)]; exact h.o j hj
  · rw [updN_ne _ _ (ht j hj)]; exact h.t j hj
  · rw [updN_ne _ _ (hF k x hx)]; exact h.f k x hx
  · rcases getPush hx with hx | ⟨rfl, rfl⟩
    · rw [updN_ne _ _ (hE k x hx)]; exact h.e k x hx
    · rw [updN_at]
  · rw [updN_ne _ _ (ho j hj)]; exact h.one j hj
  · rw [updN_ne _ _ (ht j hj)]; exact h.two j hj
  · rw [updN_ne _ _ (hF k x hx)]; exact h.full k x hx
  · show (E ++ [b]).length = s.ne + 1
    rw [List.length_append, h.ne]; rfl
  · rcases getPush hx with hx | ⟨rfl, rfl⟩
    · rw [updN_ne _ _ (hE k x hx)]; exact h.emp k x hx
    · rw [updN_at]
/-- A P's first buffer goes to the full ones; the last empty one comes in its place. -/
theorem Rep.pushOne {b : Nat} (h : Rep n O T F (E ++ [b]) C loc s) {i : Nat} (hi : i < n) (hL : s.one i ≠ []) : ∃ loc', Rep n (updN O i b) T (F ++ [O i]) E C loc' (s.pushOne i) := by
  have hoi := h.o i hi
  have hb : loc b = 4 * E.length + 3 := h.e E.length b (by simp)
  have hob : O i ≠ b := fun e => by rw [e, hb] at hoi; omega
  have hne : ∀ x, loc x ≠ 4 * i → loc x ≠ 4 * E.length + 3 → updN (updN loc (O i) (4 * F.length + 2)) b (4 * i) x = loc x := fun x h1 h2 => by
    rw [updN_ne _ _ (fun e => h2 (by rw [e]; exact hb)), updN_ne _ _ (fun e => h1 (by rw [e]; exact hoi))]
  have hlen : ∀ k x : Nat, E[k]? = some x → k < E.length := fun k x hx => (List.getElem?_eq_some_iff.1 hx).1
  refine ⟨updN (updN loc (O i) (4 * F.length + 2)) b (4 * i), fun j hj => ?_, fun j hj => ?_, fun k x hx => ?_, fun k x hx => ?_, fun j hj => ?_, h.two, fun k x hx => ?_, ?_, ?_, fun k x hx => h.emp k x (getFront hx), fun L hm => ?_⟩
  · by_cases e : j = i
    · subst e; rw [updN_at, updN_at]
    · rw [updN_ne O _ e, hne _ (by rw [h.o j hj]; omega) (by rw [h.o j hj]; omega)]; exact h.o j hj
  · rw [hne _ (by rw [h.t j hj]; omega) (by rw [h.t j hj]; omega)]; exact h.t j hj
  · rcases getPush hx with hx | ⟨rfl, rfl⟩
    · rw [hne _ (by rw [h.f k x hx]; omega) (by rw [h.f k x hx]; omega)]; exact h.f k x hx
    · rw [updN_ne _ _ hob, updN_at]
  · have := h.e k x (getFront hx)
    have := hlen k x hx
    rw [hne _ (by omega) (by omega)]; exact h.e k x (getFront hx)
  · show _ = updN s.one i [] j
    by_cases e : j = i
    · subst e; rw [updN_at, updN_at]; exact h.emp E.length b (by simp)
    · rw [updN_ne O _ e, updN_ne s.one _ e]; exact h.one j hj
  · show (s.full ++ [s.one i])[k]? = _
    rcases getPush hx with hx | ⟨rfl, rfl⟩
    · exact getFront (h.full k x hx)
    · rw [h.fl, List.getElem?_concat_length, h.one i hi]
  · show (F ++ [O i]).length = (s.full ++ [s.one i]).length
    rw [List.length_append, List.length_append, h.fl]; rfl
  · show E.length = s.ne - 1
    have := h.ne
    rw [List.length_append, List.length_singleton] at this
    omega
  · rcases List.mem_append.1 hm with hm | hm
    · exact h.pos L hm
    · rw [List.mem_singleton] at hm; rw [hm]; exact hL
/-- The last empty one goes to the full ones, with L. -/
theorem Rep.pushL {b : Nat} (h : Rep n O T F (E ++ [b]) C loc s) {L : List Int} (hL : L ≠ []) : ∃ loc', Rep n O T (F ++ [b]) E (updN C b L) loc' (s.pushL L) := by
  have hb : loc b = 4 * E.length + 3 := h.e E.length b (by simp)
  have hlen : ∀ k x : Nat, E[k]? = some x → k < E.length := fun k x hx => (List.getElem?_eq_some_iff.1 hx).1
  have hbn : ∀ x, loc x ≠ 4 * E.length + 3 → x ≠ b := fun x h1 e => h1 (by rw [e]; exact hb)
  have ho : ∀ i, i < n → O i ≠ b := fun i hi => hbn _ (by rw [h.o i hi]; omega)
  have ht : ∀ i, i < n → T i ≠ b := fun i hi => hbn _ (by rw [h.t i hi]; omega)
  have hF : ∀ k x : Nat, F[k]? = some x → x ≠ b := fun k x hx => hbn _ (by rw [h.f k x hx]; omega)
  have hE : ∀ k x : Nat, E[k]? = some x → x ≠ b := fun k x hx => hbn _ (by rw [h.e k x (getFront hx)]; have := hlen k x hx; omega)
  refine ⟨updN loc b (4 * F.length + 2), fun j hj => ?_, fun j hj => ?_, fun k x hx => ?_, fun k x hx => ?_, fun j hj => ?_, fun j hj => ?_, fun k x hx => ?_, ?_, ?_, fun k x hx => ?_, fun M hm => ?_⟩
  · rw [updN_ne _ _ (ho j hj)]; exact h.o j hj
  · rw [updN_ne _ _ (ht j hj)]; exact h.t j hj
  · rcases getPush hx with hx | ⟨rfl, rfl⟩
    · rw [updN_ne _ _ (hF k x hx)]; exact h.f k x hx
    · rw [updN_at]
  · rw [updN_ne _ _ (hE k x hx)]; exact h.e k x (getFront hx)
  · rw [updN_ne _ _ (ho j hj)]; exact h.one j hj
  · rw [updN_ne _ _ (ht j hj)]; exact h.two j hj
  · show (s.full ++ [L])[k]? = _
    rcases getPush hx with hx | ⟨rfl, rfl⟩
    · rw [updN_ne _ _ (hF k x hx)]; exact getFront (h.full k x hx)
    · rw [h.fl, List.getElem?_concat_length, updN_at]
  · show (F ++ [b]).length = (s.full ++ [L]).length
    rw [List.length_append, List.length_append, h.fl]; rfl
  · show E.length = s.ne - 1
    have := h.ne
    rw [List.length_append, List.length_singleton] at this
    omega
  · rw [updN_ne _ _ (hE k x hx)]; exact h.emp k x (getFront hx)
  · rcases List.mem_append.1 hm with hm | hm
    · exact h.pos M hm
    · rw [List.mem_singleton] at hm; rw [hm]; exact hL
/-- A P's first buffer, which is empty, goes to the empty ones; the last full one comes in its place. -/
theorem Rep.popF {b : Nat} (h : Rep n O T (F ++ [b]) E C loc s) {i : Nat} (hi : i < n) (h0 : s.one i = []) : (s.full.getLastD [] = C b ∧ C b ≠ [] ∧ s.full = s.full.dropLast ++ [C b]) ∧ ∃ loc', Rep n (updN O i b) T F (E ++ [O i]) C loc' (s.popF i) := by
  have hoi := h.o i hi
  have hb : loc b = 4 * F.length + 2 := h.f F.length b (by simp)
  have hob : O i ≠ b := fun e => by rw [e, hb] at hoi; omega
  have hfl := h.fl
  rw [List.length_append, List.length_singleton] at hfl
  have hcb := h.full F.length b (by simp)
  obtain ⟨G, hG⟩ : ∃ G, s.full = G ++ [C b] := by
    rcases List.eq_nil_or_concat s.full with e | ⟨G, c, e⟩
    · rw [e] at hfl; simp at hfl
    · rw [List.concat_eq_append] at e
      rw [e, List.length_append, List.length_singleton] at hfl
      have : F.length = G.length := by omega
      rw [e, this, List.getElem?_concat_length] at hcb
      cases hcb
      exact ⟨G, e⟩
  have hGl : G.length = F.length := by rw [hG, List.length_append, List.length_singleton] at hfl; omega
  have hne : ∀ x, loc x ≠ 4 * i → loc x ≠ 4 * F.length + 2 → updN (updN loc (O i) (4 * E.length + 3)) b (4 * i) x = loc x := fun x h1 h2 => by
    rw [updN_ne _ _ (fun e => h2 (by rw [e]; exact hb)), updN_ne _ _ (fun e => h1 (by rw [e]; exact hoi))]
  have hlen : ∀ k x : Nat, F[k]? = some x → k < F.length := fun k x hx => (List.getElem?_eq_some_iff.1 hx).1
  have hld : s.full.getLastD [] = C b := by rw [hG, List.getLastD_concat]
  have hdl : s.full.dropLast = G := by rw [hG, List.dropLast_concat]
  refine ⟨⟨hld, h.pos _ (by rw [hG]; simp), by rw [hdl]; exact hG⟩, updN (updN loc (O i) (4 * E.length + 3)) b (4 * i), fun j hj => ?_, fun j hj => ?_, fun k x hx => ?_, fun k x hx => ?_, fun j hj => ?_, h.two, fun k x hx => ?_, ?_, ?_, fun k x hx => ?_, fun L hm => ?_⟩
  · by_cases e : j = i
    · subst e; rw [updN_at, updN_at]
    · rw [updN_ne O _ e, hne _ (by rw [h.o j hj]; omega) (by rw [h.o j hj]; omega)]; exact h.o j hj
  · rw [hne _ (by rw [h.t j hj]; omega) (by rw [h.t j hj]; omega)]; exact h.t j hj
  · have := h.f k x (getFront hx)
    have := hlen k x hx
    rw [hne _ (by omega) (by omega)]; exact h.f k x (getFront hx)
  · rcases getPush hx with hx | ⟨rfl, rfl⟩
    · rw [hne _ (by rw [h.e k x hx]; omega) (by rw [h.e k x hx]; omega)]; exact h.e k x hx
    · rw [updN_ne _ _ hob, updN_at]
  · show _ = updN s.one i (s.full.getLastD []) j
    by_cases e : j = i
    · subst e; rw [updN_at, updN_at, hld]
    · rw [updN_ne O _ e, updN_ne s.one _ e]; exact h.one j hj
  · show s.full.dropLast[k]? = _
    have h1 := h.full k x (getFront hx)
    rw [hG, List.getElem?_append_left (by rw [hGl]; exact hlen k x hx)] at h1
    rw [hdl]; exact h1
  · show F.length = s.full.dropLast.length
    rw [hdl, hGl]
  · show (E ++ [O i]).length = s.ne + 1
    rw [List.length_append, h.ne]; rfl
  · rcases getPush hx with hx | ⟨rfl, rfl⟩
    · exact h.emp k x hx
    · rw [h.one i hi]; exact h0
  · exact h.pos L (List.dropLast_subset _ hm)
end
end Go.Proofs.Ytalnkhcippcghaa
