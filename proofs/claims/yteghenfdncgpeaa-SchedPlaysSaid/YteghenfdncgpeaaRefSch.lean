/-
  The document's answer for layer 27: a scheduler by its rings and a list; what single steps leave. Conditions: none beyond what each theorem names.
-/
import Derived.Test.YteghenfdncgpeaaSchMath
namespace Go.Proofs.Yteghenfdncgpeaa
open Go.RowKit
/-- Block r is a scheduler of the document's: the rings Y, the common list; what the lists read lies in no block of S. -/
structure RefAt (w : World) (S : List Nat) (r : Nat) (vs : Value) (Y : List Nat) (st : SSt) : Prop where
  top : ∃ a c, Blk w r #[vs, .slice a st.com.length c] 79 ∧ LsF w S a c st.com
  rs : PtS w 38 vs Y
  ring : ∀ i y, Y[i]? = some y → RG w y S (nxL (st.nx i) (st.hs i)) (st.row i)
  nd : Y.Nodup
  rS : r ∈ S
  yS : ∀ y ∈ Y, y ∈ S
  vS : ∀ k, vs.ownBlock = some k → k ∈ S
  hS : ∀ k ∈ S, k < w.heap.size
/-- Its own blocks. -/
def ownR (r : Nat) (vs : Value) (Y : List Nat) : List Nat := r :: Y ++ vs.ownBlock.toList
theorem mem_ownR {r k : Nat} {vs : Value} {Y : List Nat} : k ∈ ownR r vs Y ↔ k = r ∨ k ∈ Y ∨ vs.ownBlock = some k := by
  unfold ownR
  simp [or_assoc]
theorem RG.blk {w : World} {r : Nat} {S : List Nat} {Nx X : List Int} (h : RG w r S Nx X) : ∃ cs, Blk w r cs 40 := by
  obtain ⟨a1, c1, a2, c2, hb, _⟩ := h
  exact ⟨_, hb⟩
theorem RG.step {w w' : World} {r : Nat} {S T U : List Nat} {Nx X : List Int} (h : RG w r S Nx X) (hc : Ch T w w') (hr : r ∉ T) (hT : ∀ k ∈ T, k ∈ S ∨ w.heap.size ≤ k) (hU : ∀ k ∈ U, k ∈ S ∨ w.heap.size ≤ k) : RG w' r U Nx X := by
  obtain ⟨a1, c1, a2, c2, h1, h2, h3⟩ := h
  exact ⟨a1, c1, a2, c2, h1.keep hc hr, h2.step hc hT hU, h3.step hc hT hU⟩
section
variable {w w1 w2 : World} {r i y : Nat} {vs v : Value} {Y S T U : List Nat} {st : SSt}
/-- Other blocks turn; more blocks may turn from now on. -/
theorem RefAt.step (h : RefAt w S r vs Y st) (hc : Ch T w w2) (hT : ∀ k ∈ T, k ∈ S ∧ k ∉ ownR r vs Y) (hU : ∀ k ∈ U, k ∈ S ∨ w.heap.size ≤ k ∧ k < w2.heap.size) (hSU : ∀ k ∈ S, k ∈ U) : RefAt w2 U r vs Y st := by
  have hT' : ∀ k ∈ T, k ∈ S ∨ w.heap.size ≤ k := fun k hk => .inl (hT k hk).1
  have hU' : ∀ k ∈ U, k ∈ S ∨ w.heap.size ≤ k := fun k hk => (hU k hk).imp id (fun e => e.1)
  obtain ⟨a, c, hb, hL⟩ := h.top
  refine ⟨⟨a, c, hb.keep hc (fun hk => (hT r hk).2 (mem_ownR.2 (.inl rfl))), hL.step hc hT' hU'⟩, h.rs.keep hc (fun k hk he => (hT k hk).2 (mem_ownR.2 (.inr (.inr he)))), fun j z hz => (h.ring j z hz).step hc (fun hk => (hT z hk).2 (mem_ownR.2 (.inr (.inl (List.mem_of_getElem? hz))))) hT' hU', h.nd, hSU _ h.rS, fun z hz => hSU _ (h.yS z hz), fun k hk => hSU _ (h.vS k hk), fun k hk => ?_⟩
  rcases hU k hk with e | e
  · exact Nat.lt_of_lt_of_le (h.hS k e) hc.size
  · exact e.2
theorem RefAt.still (h : RefAt w S r vs Y st) (hc : Ch [] w w2) : RefAt w2 S r vs Y st := h.step hc (by simp) (fun _ hk => .inl hk) (fun _ hk => hk)
/-- A ring turns. -/
theorem RefAt.setRing (h : RefAt w S r vs Y st) (hy : Y[i]? = some y) {nx : Int} {hs : Bool} {row : List Int} (hr : RG w2 y S (nxL nx hs) row) (hc : Ch [y] w w2) : RefAt w2 S r vs Y (st.setRing i nx hs row) := by
  obtain ⟨cy, hby⟩ := (h.ring i y hy).blk
  have hyS := h.yS y (List.mem_of_getElem? hy)
  have hT : ∀ k ∈ [y], k ∈ S ∨ w.heap.size ≤ k := fun k hk => by simp at hk; subst hk; exact .inl hyS
  have hne : ∀ k cs t, Blk w k cs t → t ≠ 40 → k ∉ [y] := fun k cs t hk ht hm => by
    simp at hm
    exact hk.ne hby ht hm
  obtain ⟨a, c, hb, hL⟩ := h.top
  refine ⟨⟨a, c, hb.keep hc (hne _ _ _ hb (by decide)), hL.keep hc hT⟩, h.rs.keep hc (fun k hk he => ?_), fun j z hz => ?_, h.nd, h.rS, h.yS, h.vS, fun k hk => Nat.lt_of_lt_of_le (h.hS k hk) hc.size⟩
  · obtain ⟨cs, hb⟩ := Own.blkAt h.rs he
    exact hne k _ _ hb (by decide) hk
  · show RG w2 z S (nxL (updN st.nx i nx j) (updN st.hs i hs j)) (updN st.row i row j)
    by_cases e : j = i
    · subst e
      rw [hy] at hz
      cases hz
      rw [updN_at, updN_at, updN_at]
      exact hr
    · rw [updN_ne _ _ e, updN_ne _ _ e, updN_ne _ _ e]
      exact (h.ring j z hz).keep hc (by simpa using nodup_ne h.nd hz hy e) hT
/-- The common list is another one. -/
theorem RefAt.setCom (h : RefAt w S r vs Y st) {a : Option Addr} {c : Nat} {l : List Int} (hL : LsF w S a c l) :
    RefAt (w.setCell ⟨r, 1, none⟩ (.slice a l.length c)) S r vs Y (st.setCom l) ∧ Ch [r] w (w.setCell ⟨r, 1, none⟩ (.slice a l.length c)) := by
  have cs : Ch [r] w (w.setCell ⟨r, 1, none⟩ (.slice a l.length c)) := (Ch.refl [r] w).setCell (.inl (by simp)) _
  obtain ⟨a0, c0, hb, _⟩ := h.top
  have hT : ∀ k ∈ [r], k ∈ S ∨ w.heap.size ≤ k := fun k hk => by simp at hk; subst hk; exact .inl h.rS
  have hne : ∀ k cs t, Blk w k cs t → t ≠ 79 → k ∉ [r] := fun k cs t hk ht hm => by
    simp at hm
    exact hk.ne hb ht hm
  refine ⟨⟨⟨a, c, hb.set 1 _, hL.keep cs hT⟩, h.rs.keep cs (fun k hk he => ?_), fun j z hz => ?_, h.nd, h.rS, h.yS, h.vS, fun k hk => Nat.lt_of_lt_of_le (h.hS k hk) cs.size⟩, cs⟩
  · obtain ⟨cs', hb'⟩ := Own.blkAt h.rs he
    exact hne k _ _ hb' (by decide) hk
  · obtain ⟨cs', hb'⟩ := (h.ring j z hz).blk
    exact (h.ring j z hz).keep cs (hne _ _ _ hb' (by decide)) hT
/-- What an operation leaves. -/
def RefT (w : World) (S : List Nat) (r : Nat) (vs : Value) (Y : List Nat) (st : SSt) (w' : World) : Prop := RefAt w' S r vs Y st ∧ Ch (ownR r vs Y) w w'
theorem refGlobal {xv : Value} {ys : List Int} (h : RefAt w S r vs Y st) (hr : ResL w S xv ys) (hl : st.com.length + ys.length ≤ 100000) :
    Calls Try.prog 52 #[.pointer (some ⟨r, 0, none⟩), xv] w fun e w' => e = .returned (.tuple #[]) ∧ RefT w S r vs Y (st.setCom (st.com ++ ys)) w' := by
  obtain ⟨ax, cx, rfl, hx⟩ := hr
  obtain ⟨a, c, hb, hL⟩ := id h.top
  obtain ⟨n, hn⟩ : ∃ n, st.com.length = n := ⟨_, rfl⟩
  obtain ⟨m, hm⟩ : ∃ m, ys.length = m := ⟨_, rfl⟩
  have HN := Lib.hid hn
  have HM := Lib.hid hm
  rw [hn] at hb hl
  rw [hm] at hl ⊢
  have q1 := fun o => (hb.alloc o).cell 1
  have o1 := OwI.empty w (Nat.le_refl _)
  have ca := (Ch.refl [] w).alloc (.cells #[] 3)
  have src1 := (hL.rd.keep ca (by simp)).src Try.underlying25 c
  rw [hn] at src1
  clear hn hm
  go_enter Try.func52, Try.ntmps52
  go_wp2_with (at_builtin; refine wpList_app rfl (.tmp 5) (.tmp 10) rfl w.heap.size (.slice (some ⟨w.heap.size, 0, none⟩) 0 0) [] rfl o1 (by simp) (.slice a n c) st.com rfl (by rw [HN.out]; exact src1) (by rw [HN.out]; simp; omega) ?_)
  intro v6 w6 o6 c6 n6
  have cc6 : Ch [] w w6 := ca.transT c6 (fun k hk => by simp [Value.ownBlock] at hk; subst hk; exact .inr (Nat.le_refl _))
  have srcx := (hx.rd.keep cc6 (by simp)).src Try.underlying25 cx
  rw [HM.out] at srcx
  replace o6 : OwI w6 w.heap.size v6 st.com := o6
  clear q1 src1 o1
  go_wp2_with (at_builtin; refine wpList_app rfl (.tmp 11) (.tmp 12) rfl w.heap.size v6 st.com rfl o6 cc6.size (.slice ax m cx) ys rfl (by rw [HM.out]; exact srcx) (by rw [HN.out, HM.out]; omega) ?_)
  intro v8 w8 o8 c8 n8
  have cc8 : Ch [] w w8 := cc6.transT c8 (fun k hk => .inr (o6.2 k (by simpa using hk)))
  obtain ⟨a8, c8', e8, hL8⟩ := o8.lsF (S := S) (fun k hk => h.hS k hk)
  obtain ⟨l, hll⟩ : ∃ l, st.com ++ ys = l := ⟨_, rfl⟩
  rw [hll] at e8 hL8
  have HLL := Lib.hid hll
  have h8 := h.still cc8
  obtain ⟨R1, R2⟩ := h8.setCom hL8
  have hb8 := hb.keep cc8 (by simp)
  have p8 := hb8.cell 1
  have f8 := hb8.frozen 1
  obtain ⟨L, hLl⟩ : ∃ L, l.length = L := ⟨_, rfl⟩
  rw [hLl] at e8 R1 R2
  have hfin : RefT w S r vs Y (st.setCom l) (w8.setCell ⟨r, 1, none⟩ (.slice a8 L c8')) := ⟨R1, (cc8.mono (by simp)).trans (R2.mono (fun k hk => by simp at hk; subst hk; exact .inl (mem_ownR.2 (.inl rfl))))⟩
  subst e8
  clear R1 R2 h8 hL8 o8 o6 c6 c8 srcx hll hLl n6 n8
  go_wp2_with fail
  go_end0
  exact ⟨rfl, by rw [HLL.out]; exact hfin⟩
/-- Is there no such P? (As the document asks it.) -/
theorem hasP_cases (n : Nat) (j : Int) : hasP n j = false ∧ (j < 0 ∨ 0 ≤ j ∧ (n : Int) ≤ j) ∨ ∃ i : Nat, j = i ∧ i < n := by
  by_cases h : 0 ≤ j ∧ j < n
  · exact .inr ⟨j.toNat, by omega, by omega⟩
  · exact .inl ⟨decide_eq_false h, by omega⟩
theorem RefAt.cells (h : RefAt w S r vs Y st) (hy : Y[i]? = some y) : ∃ g o cap, vs = .slice (some ⟨g, o, none⟩) Y.length cap ∧ Y.length ≤ cap ∧ ∀ w' S' st', RefAt w' S' r vs Y st' → w'.cell? ⟨r, 0, none⟩ = some vs ∧ w'.cell? ⟨g, o + i, none⟩ = some (.pointer (some ⟨y, 0, none⟩)) := by
  obtain ⟨a, cap, rfl, h1, h2, h3⟩ := h.rs.form
  obtain ⟨g, o, rfl, h4⟩ := h3 i y hy
  refine ⟨g, o, cap, rfl, h1, fun w' S' st' h' => ?_⟩
  obtain ⟨_, _, hb, _⟩ := h'.top
  refine ⟨hb.cell 0, ?_⟩
  obtain ⟨g', o', e, h5⟩ := h'.rs.at hy
  cases e
  exact h5
theorem refReadyNo (j g : Int) (nb : Bool) (h : RefAt w S r vs Y st) (hj : hasP Y.length j = false) :
    Calls Try.prog 51 #[.pointer (some ⟨r, 0, none⟩), .int .i64 j, .int .i64 g, .bool nb] w fun e w' => e = .returned (.int .i64 1) ∧ w' = w := by
  obtain ⟨_, _, hb, _⟩ := h.top
  have c0 := hb.cell 0
  obtain ⟨a, cap, rfl, _⟩ := h.rs.form
  rcases hasP_cases Y.length j with ⟨_, h1 | ⟨h1, h2⟩⟩ | ⟨i, rfl, h1⟩
  · have t1 : decide (j < 0) = true := decide_eq_true h1
    clear h hb
    go_enter Try.func51, Try.ntmps51
    go_wp2_with fail
    go_ret
    exact ⟨rfl, rfl⟩
  · obtain ⟨n, hn⟩ : ∃ n, Y.length = n := ⟨_, rfl⟩
    rw [hn] at c0 h2
    have t1 : decide (j < 0) = false := decide_eq_false (by omega)
    have t1n : ¬ j < 0 := by omega
    have t2 : decide (j ≥ (n : Int)) = true := decide_eq_true (by omega)
    clear h hb hn hj
    go_enter Try.func51, Try.ntmps51
    go_wp2_with fail
    go_ret
    exact ⟨rfl, rfl⟩
  · rw [show hasP Y.length (i : Int) = true from decide_eq_true (by omega)] at hj
    cases hj
theorem RefAt.rowLe {n : Nat} (_ : RefAt w S r vs Y st) (hle : ∀ i, i < n → (st.row i).length ≤ 256) (hi : i < n) : (st.row i).length ≤ 256 := hle i hi
theorem putRefS (g : Int) (nb : Bool) (h : RefAt w S r vs Y st) (hy : Y[i]? = some y) (hl : (st.row i).length ≤ 256) :
    Calls Try.prog 25 #[.pointer (some ⟨y, 0, none⟩), .int .i64 g, .bool nb] w fun e w' => ∃ xv, e = .returned xv ∧ ResL w' S xv (putO (st.nx i) (st.hs i) (st.row i) g nb) ∧ RefAt w' S r vs Y (st.setRing i (putN (st.nx i) g nb) (putH (st.hs i) nb) (putX (st.nx i) (st.hs i) (st.row i) g nb)) ∧ Ch [y] w w' :=
  (refPutAny y S _ _ _ g nb w (h.ring i y hy) (h.yS y (List.mem_of_getElem? hy)) h.hS hl).mono fun _ _ ⟨xv, a, b, d, e⟩ => ⟨xv, a, b, h.setRing hy d e, e⟩
theorem own_y (hy : Y[i]? = some y) (hc : Ch [y] w w1) : Ch (ownR r vs Y) w w1 := hc.mono (fun k hk => by
  simp at hk
  subst hk
  exact .inl (mem_ownR.2 (.inr (.inl (List.mem_of_getElem? hy)))))
theorem refReady (g : Int) (nb : Bool) (h : RefAt w S r vs Y st) (hy : Y[i]? = some y) (hl : (st.row i).length ≤ 256) (hc : st.com.length ≤ 90000) :
    Calls Try.prog 51 #[.pointer (some ⟨r, 0, none⟩), .int .i64 i, .int .i64 g, .bool nb] w fun e w' => e = .returned (.int .i64 0) ∧ RefT w S r vs Y (readyS st i g nb) w' := by
  have hi := (List.getElem?_eq_some_iff.1 hy).1
  obtain ⟨gg, oo, cap, rfl, hcap, hfd⟩ := h.cells hy
  obtain ⟨n, hn⟩ : ∃ n, Y.length = n := ⟨_, rfl⟩
  rw [hn] at h hi hfd ⊢
  obtain ⟨q0, q1⟩ := hfd w S st h
  have hP := putRefS g nb h hy hl
  have t0 : decide ((i : Int) < 0) = false := decide_eq_false (by omega)
  have t1 : (i : Int) < n := by omega
  have t2 : (0 : Int) ≤ i := by omega
  have t3 : decide ((i : Int) ≥ (n : Int)) = false := decide_eq_false (by omega)
  have t4 : ¬ (i : Int) < 0 := by omega
  have t5 : ¬ (n : Int) ≤ i := by omega
  clear hn hcap hfd
  go_enter Try.func51, Try.ntmps51
  go_wp2_with fail
  refine hP.mono ?_; rintro e w2 ⟨xv, rfl, r2, h2, c2⟩
  have hbound := putO_len (st.nx i) (st.hs i) (st.row i) g nb
  have hG := refGlobal h2 r2 (by show st.com.length + _ ≤ _; omega)
  clear hP r2 h2 h
  go_wp2_with fail
  refine hG.mono ?_; rintro e w3 ⟨rfl, h3, c3⟩
  have hfin : RefT w S r (.slice (some ⟨gg, oo, none⟩) n cap) Y (readyS st i g nb) w3 := ⟨h3, (own_y hy c2).trans c3⟩
  clear hG h3 c3 c2
  go_wp2_with fail
  go_ret
  exact ⟨rfl, hfin⟩
end
end Go.Proofs.Yteghenfdncgpeaa
