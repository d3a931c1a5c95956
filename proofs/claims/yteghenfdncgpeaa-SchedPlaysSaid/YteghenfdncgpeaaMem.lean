/-
  General laws on memory, with no program in sight: which blocks a call may turn (Ch), what a block holds (Blk), which slice value owns which elements (Own), and append on such a slice. Conditions: none.
-/
import Derived.WalkKit
import Derived.Lib.Hide
import Derived.IntWalk
import Derived.Deep.AppendSrc
import Derived.Deep.Draws
import Derived.Below
import Derived.StillTailTactics
import Derived.Deep.QuietTactic
import Derived.BigQuiet
namespace Go.Proofs.Yteghenfdncgpeaa
open Go.RowKit

/-- The blocks of S may have turned; new blocks may have come; all else is as it was. -/
structure Ch (S : List Nat) (w w' : World) : Prop where
  os : w'.os = w.os
  tape : w'.tape = w.tape
  output : w'.output = w.output
  size : w.heap.size ≤ w'.heap.size
  block : ∀ k, k < w.heap.size → k ∉ S → w'.heap[k]? = w.heap[k]?
section
variable {S T : List Nat} {a w w' w'' : World}
theorem Ch.refl (S : List Nat) (w : World) : Ch S w w := ⟨rfl, rfl, rfl, Nat.le_refl _, fun _ _ _ => rfl⟩
theorem Ch.trans (h : Ch S w w') (k : Ch S w' w'') : Ch S w w'' :=
  ⟨k.os.trans h.os, k.tape.trans h.tape, k.output.trans h.output, Nat.le_trans h.size k.size,
    fun i hi hs => (k.block i (Nat.lt_of_lt_of_le hi h.size) hs).trans (h.block i hi hs)⟩
theorem Ch.mono (h : Ch S w w') (hs : ∀ k ∈ S, k ∈ T ∨ w.heap.size ≤ k) : Ch T w w' :=
  ⟨h.os, h.tape, h.output, h.size, fun i hi ht => h.block i hi fun hS => by
    rcases hs i hS with h1 | h1
    · exact ht h1
    · omega⟩
theorem Ch.transT (h : Ch S w w') (k : Ch T w' w'') (hs : ∀ i ∈ T, i ∈ S ∨ w.heap.size ≤ i) : Ch S w w'' :=
  ⟨k.os.trans h.os, k.tape.trans h.tape, k.output.trans h.output, Nat.le_trans h.size k.size,
    fun i hi hn => (k.block i (Nat.lt_of_lt_of_le hi h.size) fun hT => by
      rcases hs i hT with h1 | h1
      · exact hn h1
      · omega).trans (h.block i hi hn)⟩
theorem Ch.below (h : Ch S w w') {B : Nat} (hB : B ≤ w.heap.size) (hs : ∀ k ∈ S, B ≤ k) : Below B w w' :=
  ⟨h.os, h.tape, h.output, h.size, fun k hk => h.block k (by omega) fun hS => by have := hs k hS; omega⟩
theorem Ch.of_below {B : Nat} (h : Below B w w') (hB : w.heap.size ≤ B) : Ch S w w' :=
  ⟨h.os, h.tape, h.output, h.size, fun k hk _ => h.block k (by omega)⟩
theorem Ch.drewN (h : Ch S a w) (n : Nat) : Ch S a (w.drewN n) := ⟨h.os, h.tape, h.output, h.size, h.block⟩
theorem Ch.drew (h : Ch S a w) : Ch S a w.drew := ⟨h.os, h.tape, h.output, h.size, h.block⟩
theorem Ch.alloc (h : Ch S a w) (o : Obj) : Ch S a (w.alloc o) :=
  h.trans ⟨rfl, rfl, rfl, by simp, fun k hk _ => Below.heap_alloc _ _ _ hk⟩
theorem Ch.setCell (h : Ch S a w) {p : Addr} (hp : p.block ∈ S ∨ a.heap.size ≤ p.block) (u : Value) : Ch S a (w.setCell p u) :=
  ⟨h.os, h.tape, h.output, by simpa [World.setCell] using h.size, fun k hk hS => by
    rw [Below.heap_setCell _ _ _ _ (by rintro rfl; rcases hp with h1 | h1; exact hS h1; omega)]
    exact h.block k hk hS⟩
theorem Ch.grown (h : Ch S a w) {row : Option Nat} (hg : w.grownBy w' row) (hr : ∀ k, row = some k → k ∈ S ∨ a.heap.size ≤ k) : Ch S a w' :=
  ⟨hg.os.trans h.os, hg.tape.trans h.tape, hg.output.trans h.output, Nat.le_trans h.size hg.size, fun k hk hS => (hg.block k (Nat.lt_of_lt_of_le hk h.size) fun e => by
    rcases hr k e.symm with h1 | h1
    · exact hS h1
    · omega).trans (h.block k hk hS)⟩
theorem Ch.keep (h : Ch S w w') {b : Nat} {o : Obj} (hb : b ∉ S) (ho : w.heap[b]? = some o) : w'.heap[b]? = some o :=
  (h.block b (Array.getElem?_eq_some_iff.1 ho).1 hb).trans ho
end

/-- Block b is the cells cs, of element type t; none of it is frozen. -/
def Blk (w : World) (b : Nat) (cs : Array Value) (t : TypeId) : Prop := w.heap[b]? = some (.cells cs t (0, 0))
section
variable {S : List Nat} {w w' : World} {b : Nat} {cs : Array Value} {t : TypeId}
theorem Blk.lt (h : Blk w b cs t) : b < w.heap.size := (Array.getElem?_eq_some_iff.1 h).1
theorem Blk.cell (h : Blk w b cs t) (i : Nat) : w.cell? ⟨b, i, none⟩ = cs[i]? := cell_of_row w b i cs t (0, 0) h
theorem Blk.frozen (h : Blk w b cs t) (i : Nat) : w.frozen? ⟨b, i, none⟩ = false := by
  have h' : w.heap[b]? = some (.cells cs t (0, 0)) := h
  simp [World.frozen?, h']
theorem Blk.keep (h : Blk w b cs t) (hc : Ch S w w') (hb : b ∉ S) : Blk w' b cs t := hc.keep hb h
theorem Blk.new (w : World) (cs : Array Value) (t : TypeId) : Blk (w.alloc (.cells cs t)) w.heap.size cs t := (MapKept.heap_alloc w _).1
theorem Blk.alloc (h : Blk w b cs t) (o : Obj) : Blk (w.alloc o) b cs t := (Below.heap_alloc w o b h.lt).trans h
theorem Blk.drewN (h : Blk w b cs t) (n : Nat) : Blk (w.drewN n) b cs t := h
theorem Blk.drew (h : Blk w b cs t) : Blk w.drew b cs t := h
theorem Blk.set (h : Blk w b cs t) (i : Nat) (v : Value) : Blk (w.setCell ⟨b, i, none⟩ v) b (cs.setIfInBounds i v) t := by
  have h' : w.heap[b]? = some (.cells cs t (0, 0)) := h
  simp [Blk, World.setCell, Array.getElem?_modify, h']
theorem Blk.setOther (h : Blk w b cs t) {p : Addr} (hp : b ≠ p.block) (v : Value) : Blk (w.setCell p v) b cs t :=
  (Below.heap_setCell w p v b hp).trans h
theorem Blk.ne {b' : Nat} {cs' : Array Value} {t' : TypeId} (h : Blk w b cs t) (h' : Blk w b' cs' t') (ht : t ≠ t') : b ≠ b' := by
  rintro rfl
  have e := Option.some.inj ((show w.heap[b]? = _ from h).symm.trans h')
  simp only [Obj.cells.injEq] at e
  exact ht e.2.1
end

/-- The slice value v has n elements of type e (size cells each), the cells xs; its block is its own from the head of the row to the end of its room. -/
def Own (w : World) (e : TypeId) (size : Nat) (v : Value) (n : Nat) (xs : List Value) : Prop :=
  xs.length = n * size ∧ ((v = .slice none 0 0 ∧ n = 0) ∨
    ∃ g off cap cur, v = .slice (some ⟨g, off, none⟩) n cap ∧ Blk w g cur e ∧ n ≤ cap ∧ cap ≤ maxLen ∧ off + cap * size ≤ cur.size ∧ ∀ j u, xs[j]? = some u → cur[off + j]? = some u)
section
variable {S : List Nat} {w w' : World} {e : TypeId} {size : Nat} {v : Value} {n : Nat} {xs : List Value}
theorem Own.nil (w : World) (e : TypeId) (size : Nat) : Own w e size (.slice none 0 0) 0 [] := ⟨by simp, .inl ⟨rfl, rfl⟩⟩
theorem Own.keep (h : Own w e size v n xs) (hc : Ch S w w') (hb : ∀ k ∈ S, v.ownBlock ≠ some k) : Own w' e size v n xs := by
  refine ⟨h.1, ?_⟩
  rcases h.2 with h1 | ⟨g, off, cap, cur, rfl, hg, r⟩
  · exact .inl h1
  · exact .inr ⟨g, off, cap, cur, rfl, hg.keep hc (fun hS => hb g hS rfl), r⟩
theorem Own.of_row {base : Nat} (h : w.ownsRow base e size v n xs) : Own w e size v n xs := by
  refine ⟨h.1, ?_⟩
  rcases h.2 with h1 | ⟨g, cap, cur, rfl, _, hg, h1, h2, h3, h4⟩
  · exact .inl h1
  · refine .inr ⟨g, 0, cap, cur, rfl, hg, h1, h2, by omega, fun j u hu => ?_⟩
    rw [← h4, List.getElem?_take] at hu
    split at hu
    · simpa using hu
    · cases hu
theorem Own.lt (h : Own w e size v n xs) : ∀ k, v.ownBlock = some k → k < w.heap.size := by
  intro k hk
  rcases h.2 with ⟨rfl, _⟩ | ⟨g, off, cap, cur, rfl, hg, _⟩
  · simp [Value.ownBlock] at hk
  · simp [Value.ownBlock] at hk
    subst hk
    exact hg.lt
theorem Own.le (h : Own w e size v n xs) : n ≤ maxLen := by
  rcases h.2 with ⟨_, rfl⟩ | ⟨g, off, cap, cur, _, _, h1, h2, _⟩
  · exact Nat.zero_le _
  · omega
/-- The slice as it is written out, and its cells. -/
theorem Own.cellsOf (h : Own w e size v n xs) (hn : 0 < n) : ∃ g off cap, v = .slice (some ⟨g, off, none⟩) n cap ∧ n ≤ cap ∧ cap ≤ maxLen ∧ (∀ j u, xs[j]? = Option.some u → w.cell? ⟨g, off + j, none⟩ = Option.some u) ∧
    (∀ j, w.frozen? ⟨g, j, none⟩ = false) := by
  rcases h.2 with ⟨_, h1⟩ | ⟨g, off, cap, cur, rfl, hg, h1, h2, h3, h4⟩
  · omega
  · exact ⟨g, off, cap, rfl, h1, h2, fun j u hu => by rw [hg.cell]; exact h4 j u hu, fun j => hg.frozen j⟩
theorem Own.form (h : Own w e size v n xs) : ∃ a cap, v = .slice a n cap ∧ n ≤ cap ∧ (a = none → n = 0 ∧ cap = 0) := by
  rcases h.2 with ⟨rfl, rfl⟩ | ⟨g, off, cap, cur, rfl, hg, h1, _⟩
  · exact ⟨none, 0, rfl, Nat.le_refl _, fun _ => ⟨rfl, rfl⟩⟩
  · exact ⟨_, cap, rfl, h1, fun h => by cases h⟩
/-- As what append's second argument yields. -/
theorem Own.src {P : Program} {t : TypeId} (ht : P.underlying t = some (.slice e)) (h : Own w e size v n xs) (h1 : ∀ u ∈ xs, u.oneCell' = true) : Src P size t v n xs w := by
  rcases h.2 with ⟨rfl, rfl⟩ | ⟨g, off, cap, cur, rfl, hg, _, _, _, h4⟩
  · have : xs = [] := List.eq_nil_of_length_eq_zero (by have := h.1; omega)
    subst this
    exact Src.ofNil w ht 0
  · exact Src.ofSlice w ht _ _ _ _ h.1 (fun j u hu => by
      rw [show (⟨g, off, none⟩ : Addr).add j = ⟨g, off + j, none⟩ by unfold Addr.add; split <;> simp_all, hg.cell]
      exact h4 j u hu) h1
end

theorem heap_setCells (g : Nat) : ∀ (vs : List Value) (o : Nat) (w : World) (cs : Array Value) (t : TypeId), Blk w g cs t → o + vs.length ≤ cs.size →
    ∃ cs' : Array Value, Blk (w.setCells g o vs) g cs' t ∧ cs'.size = cs.size ∧ (∀ j, j < o → cs'[j]? = cs[j]?) ∧ (∀ j u, vs[j]? = some u → cs'[o + j]? = some u)
  | [], o, w, cs, t, h, _ => ⟨cs, h, rfl, fun _ _ => rfl, fun j u hu => by simp at hu⟩
  | v :: r, o, w, cs, t, h, hl => by
    obtain ⟨cs', h1, h2, h3, h4⟩ := heap_setCells g r (o + 1) (w.setCell ⟨g, o, none⟩ v) _ t (h.set o v) (by simp at hl ⊢; omega)
    refine ⟨cs', h1, by simpa using h2, fun j hj => ?_, fun j u hu => ?_⟩
    · rw [h3 j (by omega), Array.getElem?_setIfInBounds, if_neg (by omega)]
    · cases j with
      | zero =>
        simp only [List.getElem?_cons_zero, Option.some.injEq] at hu
        subst hu
        rw [Nat.add_zero, h3 o (by omega), Array.getElem?_setIfInBounds, if_pos rfl, if_pos (by simp at hl; omega)]
      | succ j =>
        rw [show o + (j + 1) = o + 1 + j by omega]
        exact h4 j u (by simpa using hu)
theorem Ch_setCells (g : Nat) : ∀ (vs : List Value) (o : Nat) (w : World), Ch [g] w (w.setCells g o vs)
  | [], _, w => Ch.refl _ w
  | v :: r, o, w => ((Ch.refl [g] w).setCell (p := ⟨g, o, none⟩) (.inl (by simp)) v).trans (Ch_setCells g r (o + 1) _)

/-- append on a slice of one's own, of whatever source: there is room, or a new row. -/
theorem run_append_Own {P : Program} (w : World) (t tx ty e : TypeId) (i : TypeInfo) (z : Value) (size bytes : Nat) (ht : P.underlying t = some (.slice e)) (hi : P.info? e = some i) (hz : i.zero = some z)
    (hsize : i.size = size) (hby : i.bytes = bytes) (hzs : z.cells.size = size)
    (v : Value) (n : Nat) (xs : List Value) (hown : Own w e size v n xs) (x : Value) (m : Nat) (news : List Value) (hsrc : Src P size tx x m news w)
    (h63 : n + m ≤ maxLen) (hbytes : (n + m) * bytes ≤ 140737488355328) :
    ∃ v' w', (Builtin.append_ #[t, tx] ty #[v, x]).run P w = .ok v' w' ∧ Own w' e size v' (n + m) (xs ++ news) ∧ Ch v.ownBlock.toList w w' ∧
      (v'.ownBlock = v.ownBlock ∨ ∀ k, v'.ownBlock = some k → w.heap.size ≤ k) := by
  subst hsize
  subst hby
  have h63' : n + m ≤ 9223372036854775807 := by simp only [maxLen] at h63; omega
  have hlen : (xs ++ news).length = (n + m) * i.size := by rw [List.length_append, hown.1, hsrc.newsLen, Nat.add_mul]
  rcases hown.2 with ⟨rfl, rfl⟩ | ⟨g, off, cap, cur, rfl, hg, h1, h2, h3, h4⟩
  · have hx0 : xs = [] := List.eq_nil_of_length_eq_zero (by have := hown.1; omega)
    subst hx0
    by_cases hm : m = 0
    · subst hm
      have hn0 : news = [] := List.eq_nil_of_length_eq_zero (by have := hsrc.newsLen; omega)
      refine ⟨.slice none 0 0, w, ?_, by simpa [hn0] using Own.nil w e i.size, Ch.refl _ _, .inl rfl⟩
      have := hsrc.cells
      rcases hsrc.kind with ⟨e', hk⟩ | hk <;> simp [Builtin.append_, run_underlying ht, run_underlying hk, sizeOf, typeInfo, hi, hsrc.len, hsrc.cells]
    · have hr := run_append_grow_src (P := P) w t tx ty e i z ht hi hz none 0 0 [] (by simp [Builtin.firstCells]) x m news hsrc (by omega) (by omega) (growslice_fits (by omega) hbytes)
      have hge := grownCap_ge w (0 + m) 0 e
      refine ⟨_, _, hr, ⟨hlen, .inr ⟨_, 0, _, _, rfl, Blk.new w.drew _ _, hge, grownCap_le_maxLen w (0 + m) 0 e h63, ?_, ?_⟩⟩, ((Ch.refl _ w).drew).alloc _, .inr ?_⟩
      · simp only [Array.size_append, List.size_toArray, size_zeroCells, hzs, List.nil_append, hsrc.newsLen, ← Nat.add_mul]
        rw [Nat.zero_add]; exact Nat.mul_le_mul_right _ (by omega)
      · intro j u hu
        have : j < ([] ++ news : List Value).toArray.size := by simpa using (List.getElem?_eq_some_iff.1 hu).1
        rw [Nat.zero_add j, Array.getElem?_append_left this]
        simpa using hu
      · intro k hk
        simp [Value.ownBlock] at hk
        omega
  · by_cases hroom : n + m ≤ cap
    · have hfit : off + n * i.size + news.length ≤ cur.size := by
        rw [hsrc.newsLen, Nat.add_assoc, ← Nat.add_mul]
        exact Nat.le_trans (Nat.add_le_add_left (Nat.mul_le_mul_right _ hroom) _) h3
      have hr := run_append_room_src (P := P) w t tx ty e i ht hi g off n cap x m news hsrc hroom
        (fun j hj => by rw [hg.cell, Array.getElem?_eq_getElem (by omega)]; rfl) (fun j _ => hg.frozen _)
      obtain ⟨cs', c1, c2, c3, c4⟩ := heap_setCells g news (off + n * i.size) w cur e hg hfit
      refine ⟨_, _, hr, ⟨hlen, .inr ⟨g, off, cap, cs', rfl, c1, hroom, h2, by omega, ?_⟩⟩, Ch_setCells g _ _ _, .inl rfl⟩
      intro j u hu
      rw [List.getElem?_append] at hu
      split at hu
      · rename_i hlt
        rw [c3 _ (by have := hown.1; omega)]
        exact h4 j u hu
      · rename_i hge
        have := c4 _ _ hu
        rwa [show off + n * i.size + (j - xs.length) = off + j by have := hown.1; omega] at this
    · have holds : (Builtin.firstCells i.size n (.slice (some ⟨g, off, none⟩) n cap)).run P w.drew = .ok xs.toArray w.drew :=
        run_firstCells_some w.drew i.size n _ n cap xs hown.1 (fun j u hu => by
          rw [show (⟨g, off, none⟩ : Addr).add j = ⟨g, off + j, none⟩ by unfold Addr.add; split <;> simp_all]
          exact (hg.drew.cell _).trans (h4 j u hu))
      have hr := run_append_grow_src (P := P) w t tx ty e i z ht hi hz (some ⟨g, off, none⟩) n cap xs holds x m news hsrc (by omega) (by omega) (growslice_fits (by omega) hbytes)
      have hge := grownCap_ge w (n + m) cap e
      refine ⟨_, _, hr, ⟨hlen, .inr ⟨_, 0, _, _, rfl, Blk.new w.drew _ _, hge, grownCap_le_maxLen w (n + m) cap e h63, ?_, ?_⟩⟩, ((Ch.refl _ w).drew).alloc _, .inr ?_⟩
      · simp only [Array.size_append, List.size_toArray, size_zeroCells, hzs, hlen, ← Nat.add_mul]
        rw [Nat.zero_add]; exact Nat.mul_le_mul_right _ (by omega)
      · intro j u hu
        have : j < (xs ++ news).toArray.size := by simpa using (List.getElem?_eq_some_iff.1 hu).1
        rw [Nat.zero_add j, Array.getElem?_append_left this]
        simpa using hu
      · intro k hk
        simp [Value.ownBlock] at hk
        omega

theorem wpList_append_Own {P : Program} {w : World} {ops : Array Oper} {rest : List Oper} {o : Oper} {a : Act} {Q : Exit → Act → World → Prop} (hgd : o.guard = none) (s x : Operand) (t tx : TypeId)
    (ho : o.op = .call { callee := .builtin .append, args := #[s, x], argTypes := #[t, tx] })
    (e : TypeId) (i : TypeInfo) (z : Value) (size bytes : Nat) (ht : P.underlying t = some (.slice e)) (hi : P.info? e = some i) (hz : i.zero = some z)
    (hsize : i.size = size) (hby : i.bytes = bytes) (hzs : z.cells.size = size)
    (v : Value) (n : Nat) (xs : List Value) (hs : a.eval s = v) (hown : Own w e size v n xs) (xv : Value) (m : Nat) (news : List Value) (hx : a.eval x = xv) (hsrc : Src P size tx xv m news w)
    (h63 : n + m ≤ maxLen) (hbytes : (n + m) * bytes ≤ 140737488355328)
    (h : ∀ v' w', Own w' e size v' (n + m) (xs ++ news) → Ch v.ownBlock.toList w w' → (v'.ownBlock = v.ownBlock ∨ ∀ k, v'.ownBlock = some k → w.heap.size ≤ k) → wpList P ops Q rest (a.put o.dst v') w') :
    wpList P ops Q (o :: rest) a w := by
  obtain ⟨v', w', hr, h2, h3, h4⟩ := run_append_Own (P := P) w t tx o.type e i z size bytes ht hi hz hsize hby hzs v n xs hown xv m news hsrc h63 hbytes
  refine wpList_plain hgd fun K hK => ?_
  unfold Oper.wp execOp
  simp only [ho, resolve, invoke, builtin, Sem.run_bind, Sem.run_pure, Result.andThen_ok, List.map_toArray, List.map_cons, List.map_nil, hs, hx, hr]
  exact hK _ _ (h v' w' h2 h3 h4)
/-- The one-element slice that 'append(l, x)' lays first. -/
theorem Src_lit {P : Program} {t e' : TypeId} (ht : P.underlying t = some (.slice e')) (w : World) (cs : List Value) (size n : Nat) (hn : cs.length = n * size) (e : TypeId) (h1 : ∀ u ∈ cs, u.oneCell' = true) :
    Src P size t (.slice (some ⟨w.heap.size, 0, none⟩) n n) n cs (w.alloc (.cells cs.toArray e)) :=
  Src.ofSlice _ ht _ _ _ _ hn (fun j u hu => by
    rw [show (⟨w.heap.size, 0, none⟩ : Addr).add j = ⟨w.heap.size, j, none⟩ by unfold Addr.add; split <;> simp_all, (Blk.new w cs.toArray e).cell]
    simpa using hu) h1
theorem mem_one {p : Value → Prop} {x : Value} (h : p x) : ∀ u ∈ [x], p u := fun u hu => by
  simp only [List.mem_singleton] at hu
  subst hu
  exact h
theorem Own.alloc {w : World} {e : TypeId} {size : Nat} {v : Value} {n : Nat} {xs : List Value} (h : Own w e size v n xs) (o : Obj) : Own (w.alloc o) e size v n xs :=
  h.keep ((Ch.refl [] w).alloc o) (fun _ hk => by cases hk)
theorem Blk.new' {w : World} {n : Nat} (h : n = w.heap.size) (cs : Array Value) (t : TypeId) : Blk (w.alloc (.cells cs t)) n cs t := h ▸ Blk.new w cs t
/-- The world at hand under a name of its own. -/
theorem wp_named {P : Program} {c : Code} {Q : Exit → Act → World → Prop} {a : Act} {w : World} (h : ∀ W, W = w → c.wp P Q a W) : c.wp P Q a w := h w rfl
/-- A region that draws its order: n operations that only read, then a tail in its own order. -/
theorem wp_region_tail {P : Program} {id : Nat} {Q : Exit → Act → World → Prop} {a : Act} {w : World} {l : List Oper} (n : Nat) (hm : P.follows .mixedOrders = true) (hB : Region.lexTailB .any l.toArray n = true)
    (h : wpStill P l.toArray (w.drewN 1) (fun a' => wpList P l.toArray Q (l.drop n) a' (w.drewN 1)) (l.take n) a) : (Code.region id l.toArray true).wp P Q a w :=
  wp_region_still_tail n hm hB h
theorem Blk.below {B : Nat} {w w' : World} {b : Nat} {cs : Array Value} {t : TypeId} (h : Blk w b cs t) (hb : Below B w w') (hlt : b < B) : Blk w' b cs t := (hb.block b hlt).trans h
theorem Own.neBlk {w : World} {e : TypeId} {size : Nat} {v : Value} {n : Nat} {xs : List Value} {b : Nat} {cs : Array Value} {t : TypeId} (h : Own w e size v n xs) (hb : Blk w b cs t) (ht : e ≠ t) : v.ownBlock ≠ some b := by
  intro hv
  rcases h.2 with ⟨rfl, _⟩ | ⟨g, off, cap, cur, rfl, hg, _⟩
  · simp [Value.ownBlock] at hv
  · simp [Value.ownBlock] at hv
    exact hg.ne hb ht hv
/-- The j-th of a list of integers (0 behind its end). -/
def gI (xs : List Int) (j : Nat) : Int := xs.getD j 0
theorem gI_at (xs : List Int) (j : Nat) (h : j < xs.length) : gI xs j = xs[j] := by simp [gI, List.getD_eq_getElem?_getD, h]
/-- Behind a there are the integers xs. -/
def Rd (w : World) (a : Option Addr) (xs : List Int) : Prop :=
  xs = [] ∨ ∃ b o, a = some ⟨b, o, none⟩ ∧ ∀ i, i < xs.length → w.cell? ⟨b, o + i, none⟩ = some (.int .i64 (gI xs i))
theorem Rd.at {w : World} {a : Option Addr} {xs : List Int} (h : Rd w a xs) {i : Nat} (hi : i < xs.length) :
    ∃ b o, a = some ⟨b, o, none⟩ ∧ ∀ i, i < xs.length → w.cell? ⟨b, o + i, none⟩ = some (.int .i64 (gI xs i)) := by
  rcases h with rfl | h
  · simp at hi
  · exact h
theorem Rd.drewN {w : World} {a : Option Addr} {xs : List Int} (h : Rd w a xs) (n : Nat) : Rd (w.drewN n) a xs := h
theorem Own.rd {w : World} {e : TypeId} {v : Value} {n : Nat} {xs : List Int} (h : Own w e 1 v n (xs.map (Value.int .i64))) :
    ∃ a cap, v = .slice a xs.length cap ∧ n = xs.length ∧ xs.length ≤ cap ∧ cap ≤ maxLen ∧ Rd w a xs := by
  have hn : n = xs.length := by have := h.1; simp at this; omega
  subst hn
  rcases h.2 with ⟨rfl, h0⟩ | ⟨g, off, cap, cur, rfl, hg, h1, h2, h3, h4⟩
  · exact ⟨none, 0, by rw [h0], rfl, by omega, Nat.zero_le _, .inl (List.eq_nil_of_length_eq_zero h0)⟩
  · refine ⟨_, cap, rfl, rfl, h1, h2, .inr ⟨g, off, rfl, fun i hi => ?_⟩⟩
    rw [hg.cell]
    exact h4 i _ (by simp [gI, List.getD_eq_getElem?_getD, List.getElem?_eq_getElem hi])
/-- What an argument holds, as it is read. -/
theorem Rd.of_row {w : World} {a : Option Addr} {len cap : Nat} {zs : List Int} (h : len ≤ cap) (hz : zs.length = cap) (hc : ∀ x, a = some x → ∀ i, i < zs.length → w.cell? (x.add i) = some (.int .i64 (zs.getD i 0))) (hn : a = none → len = 0) : Rd w a (zs.take len) := by
  cases a with
  | none => exact .inl (by rw [hn rfl]; rfl)
  | some x =>
    by_cases h0 : len = 0
    · exact .inl (by rw [h0]; rfl)
    · have hx := hc x rfl 0 (by omega)
      obtain ⟨b, o, sp⟩ := x
      have : sp = none := by
        cases sp with
        | none => rfl
        | some q => simp [World.cell?, Addr.add] at hx; split at hx <;> simp at hx
      subst this
      refine .inr ⟨b, o, rfl, fun i hi => ?_⟩
      have hi' : i < len := by rw [List.length_take] at hi; omega
      have := hc _ rfl i (by omega)
      rw [show (⟨b, o, none⟩ : Addr).add i = ⟨b, o + i, none⟩ by unfold Addr.add; split <;> simp_all] at this
      rw [this]
      simp [gI, List.getD_eq_getElem?_getD, List.getElem?_take, hi']
theorem Rd.below {w w' : World} {a : Option Addr} {xs : List Int} (h : Rd w a xs) (hb : Below w.heap.size w w') : Rd w' a xs := by
  rcases h with h | ⟨b, o, rfl, hc⟩
  · exact .inl h
  · refine .inr ⟨b, o, rfl, fun i hi => ?_⟩
    have h1 := hc i hi
    rw [hb.cell (p := ⟨b, o + i, none⟩) (World.block_lt_of_cell? w ⟨b, o + i, none⟩ h1)]
    exact h1
theorem Own.drewN {w : World} {e : TypeId} {size : Nat} {v : Value} {n : Nat} {xs : List Value} (h : Own w e size v n xs) (k : Nat) : Own (w.drewN k) e size v n xs := h
/-- The same for one operation. -/
theorem wp_append_Own {P : Program} {w : World} {o : Oper} {a : Act} {K : Act → World → Prop} {Q : Exit → Act → World → Prop} (s x : Operand) (t tx : TypeId)
    (ho : o.op = .call { callee := .builtin .append, args := #[s, x], argTypes := #[t, tx] })
    (e : TypeId) (i : TypeInfo) (z : Value) (size bytes : Nat) (ht : P.underlying t = some (.slice e)) (hi : P.info? e = some i) (hz : i.zero = some z)
    (hsize : i.size = size) (hby : i.bytes = bytes) (hzs : z.cells.size = size)
    (v : Value) (n : Nat) (xs : List Value) (hs : a.eval s = v) (hown : Own w e size v n xs) (xv : Value) (m : Nat) (news : List Value) (hx : a.eval x = xv) (hsrc : Src P size tx xv m news w)
    (h63 : n + m ≤ maxLen) (hbytes : (n + m) * bytes ≤ 140737488355328)
    (h : ∀ v' w', Own w' e size v' (n + m) (xs ++ news) → Ch v.ownBlock.toList w w' → (v'.ownBlock = v.ownBlock ∨ ∀ k, v'.ownBlock = some k → w.heap.size ≤ k) → K (a.put o.dst v') w') :
    o.wp P a w K Q := by
  obtain ⟨v', w', hr, h2, h3, h4⟩ := run_append_Own (P := P) w t tx o.type e i z size bytes ht hi hz hsize hby hzs v n xs hown xv m news hsrc h63 hbytes
  unfold Oper.wp execOp
  simp only [ho, resolve, invoke, builtin, Sem.run_bind, Sem.run_pure, Result.andThen_ok, List.map_toArray, List.map_cons, List.map_nil, hs, hx, hr]
  exact h v' w' h2 h3 h4
/-- The same where the operation is guarded. -/
theorem wpList_append_OwnG {P : Program} {w : World} {ops : Array Oper} {rest : List Oper} {o : Oper} {a : Act} {Q : Exit → Act → World → Prop} (hgd : Region.wanted o (yielded ops a.tmps) = true) (s x : Operand) (t tx : TypeId)
    (ho : o.op = .call { callee := .builtin .append, args := #[s, x], argTypes := #[t, tx] })
    (e : TypeId) (i : TypeInfo) (z : Value) (size bytes : Nat) (ht : P.underlying t = some (.slice e)) (hi : P.info? e = some i) (hz : i.zero = some z)
    (hsize : i.size = size) (hby : i.bytes = bytes) (hzs : z.cells.size = size)
    (v : Value) (n : Nat) (xs : List Value) (hs : a.eval s = v) (hown : Own w e size v n xs) (xv : Value) (m : Nat) (news : List Value) (hx : a.eval x = xv) (hsrc : Src P size tx xv m news w)
    (h63 : n + m ≤ maxLen) (hbytes : (n + m) * bytes ≤ 140737488355328)
    (h : ∀ v' w', Own w' e size v' (n + m) (xs ++ news) → Ch v.ownBlock.toList w w' → (v'.ownBlock = v.ownBlock ∨ ∀ k, v'.ownBlock = some k → w.heap.size ≤ k) → wpList P ops Q rest (a.put o.dst v') w') :
    wpList P ops Q (o :: rest) a w := by
  obtain ⟨v', w', hr, h2, h3, h4⟩ := run_append_Own (P := P) w t tx o.type e i z size bytes ht hi hz hsize hby hzs v n xs hown xv m news hsrc h63 hbytes
  refine wpList_step fun K hK => ?_
  rw [if_pos hgd]
  unfold Oper.wp execOp
  simp only [ho, resolve, invoke, builtin, Sem.run_bind, Sem.run_pure, Result.andThen_ok, List.map_toArray, List.map_cons, List.map_nil, hs, hx, hr]
  exact hK _ _ (h v' w' h2 h3 h4)
/-- The empty slice that '[]T{}' makes. -/
theorem Own.empty (w : World) (e : TypeId) (size : Nat) : Own (w.alloc (.cells #[] e)) e size (.slice (some ⟨w.heap.size, 0, none⟩) 0 0) 0 [] :=
  ⟨by simp, .inr ⟨w.heap.size, 0, 0, #[], rfl, Blk.new _ _ _, Nat.le_refl _, Nat.zero_le _, by simp, fun j u hu => by simp at hu⟩⟩
end Go.Proofs.Yteghenfdncgpeaa
