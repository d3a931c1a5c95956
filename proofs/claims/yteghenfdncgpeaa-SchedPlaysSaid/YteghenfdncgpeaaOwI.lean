/-
  A slice of integers of one's own, and append on it. Conditions: none beyond what each theorem names.
-/
import Derived.Test.YteghenfdncgpeaaChecked
import Derived.Test.YteghenfdncgpeaaMem
import Derived.Test.YteghenfdncgpeaaInfo
import Derived.ProofKit
namespace Go.Proofs.Yteghenfdncgpeaa
open Go.RowKit
theorem Rd.src {P : Program} {t e : TypeId} (ht : P.underlying t = some (.slice e)) {w : World} {a : Option Addr} {xs : List Int} (c : Nat) (h : Rd w a xs) : Src P 1 t (.slice a xs.length c) xs.length (xs.map (Value.int .i64)) w := by
  cases a with
  | none =>
    rcases h with rfl | ⟨b, o, he, _⟩
    · exact Src.ofNil w ht c
    · cases he
  | some x =>
    refine Src.ofSlice w ht _ _ _ _ (by simp) (fun j u hu => ?_) (by intro u hu; obtain ⟨q, _, rfl⟩ := List.mem_map.1 hu; rfl)
    rcases h with rfl | ⟨b, o, he, hc⟩
    · simp at hu
    · simp only [Option.some.injEq] at he
      subst he
      have hj : j < xs.length := by have := (List.getElem?_eq_some_iff.1 hu).1; simpa using this
      rw [show (⟨b, o, none⟩ : Addr).add j = ⟨b, o + j, none⟩ by unfold Addr.add; split <;> simp_all, hc j hj, gI_at xs j hj]
      simpa [hj] using hu
/-- v owns the integers xs; its block, if it has one, is B or above. -/
def OwI (w : World) (B : Nat) (v : Value) (xs : List Int) : Prop := Own w 3 1 v xs.length (xs.map (Value.int .i64)) ∧ ∀ k, v.ownBlock = some k → B ≤ k
section
variable {w w' : World} {B C : Nat} {v : Value} {xs ys : List Int} {S : List Nat}
theorem OwI.nil (w : World) (B : Nat) : OwI w B (.slice none 0 0) [] := ⟨Own.nil _ _ _, by simp [Value.ownBlock]⟩
theorem OwI.keep (h : OwI w B v xs) (hc : Ch S w w') (hb : ∀ k ∈ S, v.ownBlock ≠ some k) : OwI w' B v xs := ⟨h.1.keep hc hb, h.2⟩
theorem OwI.keepLt (h : OwI w B v xs) (hc : Ch S w w') (hb : ∀ k ∈ S, k < B) : OwI w' B v xs := h.keep hc (fun k hk he => by have := hb k hk; have := h.2 k he; omega)
theorem OwI.mono (h : OwI w B v xs) (hC : C ≤ B) : OwI w C v xs := ⟨h.1, fun k hk => Nat.le_trans hC (h.2 k hk)⟩
theorem OwI.form (h : OwI w B v xs) : ∃ a cap, v = .slice a xs.length cap ∧ xs.length ≤ cap ∧ cap ≤ maxLen ∧ Rd w a xs := by
  obtain ⟨a, cap, h1, _, h2, h3, h4⟩ := h.1.rd
  exact ⟨a, cap, h1, h2, h3, h4⟩
theorem OwI.lt (h : OwI w B v xs) : ∀ k, v.ownBlock = some k → k < w.heap.size := h.1.lt
theorem OwI.src (h : OwI w B v xs) : Src Try.prog 1 25 v xs.length (xs.map (Value.int .i64)) w := h.1.src Try.underlying25 (by
  intro u hu
  obtain ⟨q, _, rfl⟩ := List.mem_map.1 hu
  rfl)
theorem OwI.alloc (h : OwI w B v xs) (o : Obj) : OwI (w.alloc o) B v xs := ⟨h.1.alloc o, h.2⟩
theorem OwI.empty (w : World) (hB : B ≤ w.heap.size) : OwI (w.alloc (.cells #[] 3)) B (.slice (some ⟨w.heap.size, 0, none⟩) 0 0) [] := ⟨Own.empty _ _ _, by simp [Value.ownBlock]; exact hB⟩
/-- The one-element slice that 'append(l, x)' lays first. -/
theorem srcOne (w : World) (x : Int) : Src Try.prog 1 25 (.slice (some ⟨w.heap.size, 0, none⟩) 1 1) [x].length ([x].map (Value.int .i64)) (w.alloc (.cells #[.int .i64 x] 3)) :=
  Src_lit Try.underlying25 w [_] 1 1 rfl _ (mem_one rfl)
/-- Where the block of the new slice lies. -/
def NewAt (w : World) (v v' : Value) : Prop := v'.ownBlock = v.ownBlock ∨ ∀ k, v'.ownBlock = some k → w.heap.size ≤ k
theorem run_app (w : World) (ty : TypeId) (hv : OwI w B v xs) (hB : B ≤ w.heap.size) {x : Value} (hx : Src Try.prog 1 25 x ys.length (ys.map (Value.int .i64)) w) (hl : xs.length + ys.length ≤ 1000000) :
    ∃ v' w', (Builtin.append_ #[25, 25] ty #[v, x]).run Try.prog w = .ok v' w' ∧ OwI w' B v' (xs ++ ys) ∧ Ch v.ownBlock.toList w w' ∧ NewAt w v v' := by
  obtain ⟨i0, hi0, hz0, hz1, hz2⟩ := info_parts Try.infoInt
  obtain ⟨v', w', h1, h2, h3, h4⟩ := run_append_Own (P := Try.prog) w 25 25 ty 3 i0 (.int .i64 0) 1 8 Try.underlying25 hi0 hz0 hz1 hz2 rfl v xs.length _ hv.1 x ys.length _ hx (by unfold maxLen; omega) (by omega)
  refine ⟨v', w', h1, ⟨by rw [List.length_append, List.map_append]; exact h2, ?_⟩, h3, h4⟩
  intro k hk
  rcases h4 with h | h
  · exact hv.2 k (by rw [← h]; exact hk)
  · exact Nat.le_trans hB (h k hk)
end
theorem wpList_app {w : World} {ops : Array Oper} {rest : List Oper} {o : Oper} {a : Act} {Q : Exit → Act → World → Prop} (hgd : Region.wanted o (yielded ops a.tmps) = true) (s x : Operand)
    (ho : o.op = .call { callee := .builtin .append, args := #[s, x], argTypes := #[25, 25] })
    (B : Nat) (v : Value) (xs : List Int) (hs : a.eval s = v) (hv : OwI w B v xs) (hB : B ≤ w.heap.size) (xv : Value) (ys : List Int) (hx : a.eval x = xv) (hsrc : Src Try.prog 1 25 xv ys.length (ys.map (Value.int .i64)) w)
    (hl : xs.length + ys.length ≤ 1000000)
    (h : ∀ v' w', OwI w' B v' (xs ++ ys) → Ch v.ownBlock.toList w w' → NewAt w v v' → wpList Try.prog ops Q rest (a.put o.dst v') w') :
    wpList Try.prog ops Q (o :: rest) a w := by
  obtain ⟨v', w', hr, h2, h3, h4⟩ := run_app w o.type hv hB hsrc hl
  refine wpList_step fun K hK => ?_
  rw [if_pos hgd]
  unfold Oper.wp execOp
  simp only [ho, resolve, invoke, builtin, Sem.run_bind, Sem.run_pure, Result.andThen_ok, List.map_toArray, List.map_cons, List.map_nil, hs, hx, hr]
  exact hK _ _ (h v' w' h2 h3 h4)
theorem wp_app {w : World} {o : Oper} {a : Act} {K : Act → World → Prop} {Q : Exit → Act → World → Prop} (s x : Operand)
    (ho : o.op = .call { callee := .builtin .append, args := #[s, x], argTypes := #[25, 25] })
    (B : Nat) (v : Value) (xs : List Int) (hs : a.eval s = v) (hv : OwI w B v xs) (hB : B ≤ w.heap.size) (xv : Value) (ys : List Int) (hx : a.eval x = xv) (hsrc : Src Try.prog 1 25 xv ys.length (ys.map (Value.int .i64)) w)
    (hl : xs.length + ys.length ≤ 1000000)
    (h : ∀ v' w', OwI w' B v' (xs ++ ys) → Ch v.ownBlock.toList w w' → NewAt w v v' → K (a.put o.dst v') w') :
    o.wp Try.prog a w K Q := by
  obtain ⟨v', w', hr, h2, h3, h4⟩ := run_app w o.type hv hB hsrc hl
  unfold Oper.wp execOp
  simp only [ho, resolve, invoke, builtin, Sem.run_bind, Sem.run_pure, Result.andThen_ok, List.map_toArray, List.map_cons, List.map_nil, hs, hx, hr]
  exact h v' w' h2 h3 h4
theorem Rd.takeN {w : World} {a : Option Addr} {xs : List Int} (h : Rd w a xs) (n : Nat) : Rd w a (xs.take n) := by
  rcases h with rfl | ⟨b, o, rfl, hc⟩
  · exact .inl (by simp)
  · refine .inr ⟨b, o, rfl, fun i hi => ?_⟩
    rw [List.length_take] at hi
    rw [hc i (by omega)]
    have : gI (xs.take n) i = gI xs i := by simp [gI, List.getD_eq_getElem?_getD, List.getElem?_take, show i < n by omega]
    rw [this]
theorem Rd.dropN {w : World} {a : Option Addr} {xs : List Int} (h : Rd w a xs) (n : Nat) : Rd w (a.map fun x => x.add n) (xs.drop n) := by
  rcases h with rfl | ⟨b, o, rfl, hc⟩
  · exact .inl (by simp)
  · refine .inr ⟨b, o + n, by simp [Addr.add], fun i hi => ?_⟩
    rw [List.length_drop] at hi
    rw [Nat.add_assoc, hc (n + i) (by omega)]
    have : gI (xs.drop n) i = gI xs (n + i) := by simp [gI, List.getD_eq_getElem?_getD, List.getElem?_drop]
    rw [this]
theorem Rd.dropIf {w : World} {b o k c : Nat} {xs : List Int} (h : Rd w (some ⟨b, o, none⟩) xs) (hc : xs.length ≤ c) : Rd w (if c = k then some ⟨b, o, none⟩ else some ⟨b, o + k, none⟩) (xs.drop k) := by
  split
  · exact .inl (List.drop_eq_nil_of_le (by omega))
  · have := h.dropN k
    rwa [Option.map_some, show (⟨b, o, none⟩ : Addr).add k = ⟨b, o + k, none⟩ by unfold Addr.add; split <;> simp_all] at this
theorem Rd.pre {w : World} {a : Option Addr} {p q : List Int} (h : Rd w a (p ++ q)) : Rd w a p := by
  have := h.takeN p.length
  rwa [List.take_left' rfl] at this
theorem Rd.postIf {w : World} {b o c : Nat} {p q : List Int} (v : Int) (h : Rd w (some ⟨b, o, none⟩) (p ++ v :: q)) (hc : (p ++ v :: q).length ≤ c) : Rd w (if c = p.length + 1 then some ⟨b, o, none⟩ else some ⟨b, o + (p.length + 1), none⟩) q := by
  have := h.dropIf (k := p.length + 1) hc
  rwa [show (p ++ v :: q).drop (p.length + 1) = q by simp [List.drop_append]] at this
/-- What is read stays, unless its block turns. -/
theorem Rd.keep {S : List Nat} {w w' : World} {a : Option Addr} {xs : List Int} (h : Rd w a xs) (hc : Ch S w w') (hb : ∀ x, a = some x → x.block ∉ S) : Rd w' a xs := by
  rcases h with h | ⟨b, o, rfl, hx⟩
  · exact .inl h
  · refine .inr ⟨b, o, rfl, fun i hi => ?_⟩
    have h1 := hx i hi
    have hlt := World.block_lt_of_cell? w ⟨b, o + i, none⟩ h1
    have h2 := hc.block b hlt (hb _ rfl)
    rw [← h1]
    simp only [World.cell?, h2]
/-- A list that holds v, parted at the first such place. -/
theorem split_first (xs : List Int) (v : Int) : v ∉ xs ∨ ∃ p q, xs = p ++ v :: q ∧ v ∉ p := by
  induction xs with
  | nil => exact .inl (by simp)
  | cons x xs ih =>
    by_cases hx : x = v
    · subst hx; exact .inr ⟨[], xs, rfl, by simp⟩
    · rcases ih with h | ⟨p, q, rfl, h⟩
      · exact .inl (by simp [h]; exact fun e => hx e.symm)
      · exact .inr ⟨x :: p, q, rfl, by simp [h]; exact fun e => hx e.symm⟩
theorem gI_app (p q : List Int) (v : Int) : gI (p ++ v :: q) p.length = v := by simp [gI, List.getD_eq_getElem?_getD]
theorem gI_ne {p : List Int} (q : List Int) {v : Int} (h : v ∉ p) {k : Nat} (hk : k < p.length) : gI (p ++ q) k ≠ v := by
  intro e
  apply h
  rw [← e]
  simp [gI, List.getD_eq_getElem?_getD, List.getElem?_append_left hk, hk]
theorem gI_mem {xs : List Int} {k : Nat} (hk : k < xs.length) : gI xs k ∈ xs := by rw [gI_at xs k hk]; exact List.getElem_mem hk
theorem OwI.lit (w : World) (B : Nat) (xs : List Int) (hB : B ≤ w.heap.size) (hl : xs.length ≤ 100000) : OwI (w.alloc (.cells (xs.map (Value.int .i64)).toArray 3)) B (.slice (some ⟨w.heap.size, 0, none⟩) xs.length xs.length) xs :=
  ⟨⟨by simp, .inr ⟨w.heap.size, 0, xs.length, _, rfl, Blk.new _ _ _, Nat.le_refl _, by unfold maxLen; omega, by simp, fun j u hu => by simpa using hu⟩⟩, by simp [Value.ownBlock]; exact hB⟩
theorem rd_lit (w : World) (xs : List Int) : Rd (w.alloc (.cells (xs.map (Value.int .i64)).toArray 3)) (some ⟨w.heap.size, 0, none⟩) xs := .inr ⟨_, _, rfl, fun i hi => by
  rw [Nat.zero_add, (Blk.new w _ _).cell, gI_at xs i hi]
  simp [hi]⟩
end Go.Proofs.Yteghenfdncgpeaa
