/-
  Contracts of the document's answer for layer 10: a ring by two lists (who is next: none or one; the row). Conditions: none beyond what each theorem names.
-/
import Derived.Test.YteghenfdncgpeaaRing2
import Derived.Test.YteghenfdncgpeaaLsF
import Derived.Test.YteghenfdncgpeaaRefL
import Derived.Test.YteghenfdncgpeaaPlan
import Derived.Test.YteghenfdncgpeaaHas
import Derived.Test.YteghenfdncgpeaaOut
import Derived.LaidEqlPtr
namespace Go.Proofs.Yteghenfdncgpeaa
open Go.RowKit
/-- Block r is two slices that read as Nx and X; what they read lies in no block of S. -/
def RG (w : World) (r : Nat) (S : List Nat) (Nx X : List Int) : Prop := ∃ a1 c1 a2 c2, Blk w r #[.slice a1 Nx.length c1, .slice a2 X.length c2] 40 ∧ LsF w S a1 c1 Nx ∧ LsF w S a2 c2 X
section
variable {w w' : World} {r : Nat} {S T : List Nat} {Nx X : List Int}
theorem RG.keep (h : RG w r S Nx X) (hc : Ch T w w') (hr : r ∉ T) (hT : ∀ k ∈ T, k ∈ S ∨ w.heap.size ≤ k) : RG w' r S Nx X := by
  obtain ⟨a1, c1, a2, c2, h1, h2, h3⟩ := h
  exact ⟨a1, c1, a2, c2, h1.keep hc hr, h2.keep hc hT, h3.keep hc hT⟩
theorem RG.lt (h : RG w r S Nx X) : r < w.heap.size := by obtain ⟨a1, c1, a2, c2, h1, _⟩ := h; exact h1.lt
end
theorem LsF.dropK {w : World} {S : List Nat} {a : Option Addr} {c : Nat} {xs : List Int} (h : LsF w S a c xs) (k : Nat) (hk : k ≤ xs.length) : LsF w S (if c = k then a else a.map fun x => x.add k) (c - k) (xs.drop k) := by
  refine ⟨h.1.dropA k c h.2.1, by rw [List.length_drop]; have := h.2.1; omega, by have := h.2.2.1; omega, ?_⟩
  split
  · left; exact List.drop_eq_nil_of_le (by have := h.2.1; omega)
  · rcases h.2.2.2 with h0 | ⟨y, hy, h1, h2⟩
    · left; rw [h0]; simp
    · subst hy
      have hb' : (y.add k).block = y.block := by unfold Addr.add; split <;> rfl
      exact .inr ⟨y.add k, rfl, by rw [hb']; exact h1, by rw [hb']; exact h2⟩
/-- A slice that reads as a list, as a result. -/
def ResL (w : World) (S : List Nat) (v : Value) (xs : List Int) : Prop := ∃ a c, v = .slice a xs.length c ∧ LsF w S a c xs
theorem refRingGetNext (r : Nat) (S : List Nat) (n : Int) (X : List Int) (w : World) (h : RG w r S [n] X) (hr : r ∈ S) :
    Calls Try.prog 26 #[.pointer (some ⟨r, 0, none⟩)] w fun e w' => e = .returned (.tuple #[.int .i64 n, .bool true]) ∧ RG w' r S [] X ∧ Ch [r] w w' := by
  obtain ⟨a1, c1, a2, c2, h1, h2, h3⟩ := h
  obtain ⟨b0, o0, rfl, hc0⟩ := h2.at (i := 0) (by simp)
  have e0 := hc0 0 (by simp)
  rw [show gI [n] 0 = n from rfl, Nat.add_zero] at e0
  have q0 := h1.cell 0
  have q1 := h1.cell 1
  have f0 := h1.frozen 0
  clear hc0
  go_enter Try.func26, Try.ntmps26
  go_wp2
  go_ret2
  have cs : Ch [r] w (w.setCell ⟨r, 0, none⟩ (.slice none 0 0)) := (Ch.refl [r] w).setCell (.inl (by simp)) _
  exact ⟨rfl, ⟨none, 0, a2, c2, h1.set 0 _, LsF.nil _ _, h3.keep cs (by intro k hk; simp at hk; subst hk; exact .inl hr)⟩, cs⟩
theorem refRingGetEmpty (r : Nat) (S : List Nat) (w : World) (h : RG w r S [] []) :
    Calls Try.prog 26 #[.pointer (some ⟨r, 0, none⟩)] w fun e w' => e = .returned (.tuple #[.int .i64 0, .bool false]) ∧ w' = w := by
  obtain ⟨a1, c1, a2, c2, h1, h2, h3⟩ := h
  have q0 := h1.cell 0
  have q1 := h1.cell 1
  clear h2 h3
  go_enter Try.func26, Try.ntmps26
  go_wp2
  go_ret2
  exact ⟨rfl, rfl⟩
theorem refRingGetRow (r : Nat) (S : List Nat) (x : Int) (t : List Int) (w : World) (h : RG w r S [] (x :: t)) (hr : r ∈ S) (hl : t.length ≤ 100000) :
    Calls Try.prog 26 #[.pointer (some ⟨r, 0, none⟩)] w fun e w' => e = .returned (.tuple #[.int .i64 x, .bool true]) ∧ RG w' r S [] t ∧ Ch [r] w w' := by
  obtain ⟨a1, c1, a2, c2, h1, h2, h3⟩ := h
  obtain ⟨b0, o0, rfl, hc0⟩ := h3.at (i := 0) (by simp)
  have e0 := hc0 0 (by simp)
  rw [show gI (x :: t) 0 = x from rfl, Nat.add_zero] at e0
  obtain ⟨n, hn⟩ : ∃ n, t.length = n := ⟨_, rfl⟩
  rw [List.length_cons, hn] at h1
  have q0 := h1.cell 0
  have q1 := h1.cell 1
  have f1 := h1.frozen 1
  have hnc : (n : Int) + 1 ≤ c2 := by have h9 := h3.2.1; simp at h9; omega
  have n1 : (1 : Int) ≤ (n : Int) + 1 := by omega
  have n2 : ((n : Int) + 1 == 0) = false := by rw [beq_eq_false_iff_ne]; omega
  have ht := h3.tail
  have HN := Lib.hid hn
  obtain ⟨A2, hA2⟩ : ∃ A2 : Option Addr, (if c2 = 1 then some ⟨b0, o0, none⟩ else some ⟨b0, o0 + 1, none⟩) = A2 := ⟨_, rfl⟩
  rw [hA2] at ht
  clear hc0 hn
  by_cases hc1 : c2 = 1
  · rw [if_pos hc1] at hA2
    subst hA2
    subst hc1
    go_enter Try.func26, Try.ntmps26
    go_wp2
    go_ret2
    have hn0 : n = 0 := by omega
    subst hn0
    have cs : Ch [r] w (w.setCell ⟨r, 1, none⟩ (.slice (some ⟨b0, o0, none⟩) 0 0)) := (Ch.refl [r] w).setCell (.inl (by simp)) _
    exact ⟨rfl, ⟨a1, c1, some ⟨b0, o0, none⟩, 0, by rw [HN.out]; exact h1.set 1 _, h2.keep cs (by intro k hk; simp at hk; subst hk; exact .inl hr), ht.keep cs (by intro k hk; simp at hk; subst hk; exact .inl hr)⟩, cs⟩
  · rw [if_neg hc1] at hA2
    subst hA2
    go_enter Try.func26, Try.ntmps26
    go_wp2
    go_ret2
    have cs : Ch [r] w (w.setCell ⟨r, 1, none⟩ (.slice (some ⟨b0, o0 + 1, none⟩) n (c2 - 1))) := (Ch.refl [r] w).setCell (.inl (by simp)) _
    exact ⟨rfl, ⟨a1, c1, some ⟨b0, o0 + 1, none⟩, c2 - 1, by rw [HN.out]; exact h1.set 1 _, h2.keep cs (by intro k hk; simp at hk; subst hk; exact .inl hr), ht.keep cs (by intro k hk; simp at hk; subst hk; exact .inl hr)⟩, cs⟩
theorem refRingPutRoom (r : Nat) (S : List Nat) (Nx X : List Int) (g : Int) (w : World) (h : RG w r S Nx X) (hr : r ∈ S) (hS : ∀ k ∈ S, k < w.heap.size) (hl : X.length < 256) :
    Calls Try.prog 25 #[.pointer (some ⟨r, 0, none⟩), .int .i64 g, .bool false] w fun e w' => ∃ v, e = .returned v ∧ ResL w' S v (ringOver X g) ∧ RG w' r S Nx (ringRow X g) ∧ Ch [r] w w' := by
  obtain ⟨a1, c1, a2, c2, hb, l1, l2⟩ := h
  obtain ⟨n, hn⟩ : ∃ n, X.length = n := ⟨_, rfl⟩
  rw [hn] at hb hl
  have HX := Lib.hid hn
  have hnl := hl
  have hSW := hS
  have cW : Ch [r] w w := Ch.refl _ _
  have t1 : (n : Int) < 256 := by omega
  have q0 := hb.cell 1
  clear hn
  go_enter Try.func25, Try.ntmps25
  -- the row has room: a new row, one longer
  have q1 := fun o => (hb.alloc o).cell 1
  have o1 := OwI.empty w (Nat.le_refl _)
  have src1 := (l2.rd.keep ((Ch.refl [] w).alloc (.cells #[] 3)) (by simp)).src Try.underlying25 c2
  rw [HX.out] at src1
  go_wp2_with (at_builtin; refine wpList_app rfl (.tmp 32) (.tmp 36) rfl (w).heap.size (.slice (some ⟨(w).heap.size, 0, none⟩) 0 0) [] rfl o1 (by simp) (.slice a2 n c2) X rfl (by rw [HX.out]; exact src1) (by have := HX.out; simp; omega) ?_)
  intro v6 w6 o6 c6 n6
  have hs6 := c6.size
  simp at hs6
  have cc6 : Ch [] w w6 := ((Ch.refl [] w).alloc _).transT c6 (by intro k hk; simp [Value.ownBlock] at hk; omega)
  have o7 := o6.alloc (.cells #[.int .i64 g] 3)
  clear q1 src1 o1
  go_wp2_with (at_builtin; refine wpList_app rfl (.tmp 37) (.tmp 39) rfl (w).heap.size v6 X rfl o7 (by simp; omega) _ [g] rfl (srcOne _ g) (by have := HX.out; simp; omega) ?_)
  intro v9 w9 o9 c9 n9
  have cc9 : Ch [] w w9 := (cc6.alloc _).transT c9 (fun k hk => .inr (o6.2 k (by simpa using hk)))
  have hb9 := hb.keep cc9 (by simp)
  have f9 := hb9.frozen 1
  have p9 := hb9.cell 1
  obtain ⟨a9, d9, e9, l9⟩ := o9.lsF (S := S) hSW
  have hl9 : (X ++ [g]).length = n + 1 := by simp [HX.out]
  rw [hl9] at e9
  subst e9
  have H9 := Lib.hid hl9
  clear hl9
  go_wp2
  go_ret
  have cs : Ch [r] w9 (w9.setCell ⟨r, 1, none⟩ (.slice a9 (n + 1) d9)) := (Ch.refl [r] w9).setCell (.inl (by simp)) _
  have hsub : ∀ k ∈ [r], k ∈ S ∨ w9.heap.size ≤ k := by intro k hk; simp at hk; subst hk; exact .inl hr
  have hrow : ringRow X g = X ++ [g] := by unfold ringRow; rw [if_pos (by rw [HX.out]; exact hnl)]
  have hover : ringOver X g = [] := by unfold ringOver; rw [if_pos (by rw [HX.out]; exact hnl)]
  rw [hrow, hover]
  refine ⟨.slice none 0 0, rfl, ⟨none, 0, rfl, LsF.nil _ _⟩, ⟨_, _, a9, d9, by rw [H9.out]; exact hb9.set 1 _, (l1.keep cc9 (by simp)).keep cs hsub, l9.keep cs hsub⟩, ?_⟩
  exact (cW.trans (cc9.mono (by simp))).trans cs
set_option maxRecDepth 100000 in
set_option maxHeartbeats 1000000 in
theorem refRingPutFull (r : Nat) (S : List Nat) (Nx X : List Int) (g : Int) (w : World) (h : RG w r S Nx X) (hr : r ∈ S) (hS : ∀ k ∈ S, k < w.heap.size) (hl : X.length = 256) :
    Calls Try.prog 25 #[.pointer (some ⟨r, 0, none⟩), .int .i64 g, .bool false] w fun e w' => ∃ v, e = .returned v ∧ ResL w' S v (ringOver X g) ∧ RG w' r S Nx (ringRow X g) ∧ Ch [r] w w' := by
  obtain ⟨a1, c1, a2, c2, hb, l1, l2⟩ := h
  rw [hl] at hb
  have HX := Lib.hid hl
  have hSW := hS
  have cW : Ch [r] w w := Ch.refl _ _
  have q0 := hb.cell 1
  clear hl
  by_cases hc2 : c2 = 128
  · exfalso
    have := l2.2.1
    rw [HX.out] at this
    omega
  go_enter Try.func25, Try.ntmps25
  -- the row is full: its first half and one more are told, the second half stays
  have b1 : (0 : Int) ≤ 128 := by decide
  have b2 : (128 : Int) ≤ (c2 : Int) := by have := l2.2.1; rw [HX.out] at this; omega
  have b4 : (256 : Int) ≤ (c2 : Int) := by have := l2.2.1; rw [HX.out] at this; omega
  have htl : (X.take 128).length = 128 := by rw [List.length_take, HX.out]; rfl
  have hdl : (X.drop 128).length = 128 := by rw [List.length_drop, HX.out]
  have HTL := Lib.hid htl
  have HDL := Lib.hid hdl
  have q1 := fun o => (hb.alloc o).cell 1
  have o1 := OwI.empty w (Nat.le_refl _)
  have src1 := ((l2.rd.takeN 128).keep ((Ch.refl [] w).alloc (.cells #[] 3)) (by simp)).src Try.underlying25 c2
  rw [htl] at src1
  clear htl hdl
  go_wp2_with (at_builtin; refine wpList_app rfl (.tmp 43) (.tmp 48) rfl (w).heap.size (.slice (some ⟨(w).heap.size, 0, none⟩) 0 0) [] rfl o1 (by simp) (.slice a2 128 c2) (X.take 128) rfl (by rw [HTL.out]; exact src1) (by rw [HTL.out]; simp) ?_)
  intro v6 w6 o6 c6 n6
  have hs6 := c6.size
  simp at hs6
  have cc6 : Ch [] w w6 := ((Ch.refl [] w).alloc _).transT c6 (by intro k hk; simp [Value.ownBlock] at hk; omega)
  have o7 := o6.alloc (.cells #[.int .i64 g] 3)
  clear q1 src1 o1
  go_wp2_with (at_builtin; refine wpList_app rfl (.tmp 49) (.tmp 51) rfl (w).heap.size v6 (X.take 128) rfl o7 (by simp; omega) _ [g] rfl (srcOne _ g) (by rw [HTL.out]; simp) ?_)
  intro v8 w8 o8 c8 n8
  have cc8 : Ch [] w w8 := (cc6.alloc _).transT c8 (fun k hk => .inr (o6.2 k (by simpa using hk)))
  have hs8 := cc8.size
  have hb8 := hb.keep cc8 (by simp)
  have q8 := fun o => (hb8.alloc o).cell 1
  have o9 := OwI.empty w8 (B := (w).heap.size) hs8
  have rdd := (Rd.dropA (l2.rd.keep (cc8.alloc (.cells #[] 3)) (by simp)) 128 c2 l2.2.1)
  rw [if_neg hc2] at rdd
  have src9 := rdd.src Try.underlying25 (c2 - 128)
  rw [HDL.out] at src9
  clear rdd
  go_wp2_with (at_builtin; refine wpList_app rfl (.tmp 54) (.tmp 59) rfl (w).heap.size (.slice (some ⟨w8.heap.size, 0, none⟩) 0 0) [] rfl o9 (by simp; omega) (.slice (a2.map fun x => x.add 128) 128 (c2 - 128)) (X.drop 128) rfl (by rw [HDL.out]; exact src9) (by rw [HDL.out]; simp) ?_)
  intro v9 w9 o10 c9 n9
  have hne : ∀ k ∈ (Value.slice (some ⟨w8.heap.size, 0, none⟩) 0 0).ownBlock.toList, w8.heap.size ≤ k := by intro k hk; simp [Value.ownBlock] at hk; omega
  have cc89 : Ch [] w8 w9 := ((Ch.refl [] w8).alloc _).transT c9 (fun k hk => .inr (hne k hk))
  have cc9 : Ch [] w w9 := cc8.trans cc89
  have o8' := o8.keepLt cc89 (by simp)
  have hb9 := hb.keep cc9 (by simp)
  have f9 := hb9.frozen 1
  have p9 := hb9.cell 1
  obtain ⟨a8, d8, e8, l8⟩ := o8'.lsF (S := S) hSW
  obtain ⟨a9, d9, e9, l9⟩ := (show OwI w9 (w).heap.size v9 (X.drop 128) by simpa using o10).lsF (S := S) hSW
  have hl8 : (X.take 128 ++ [g]).length = 129 := by rw [List.length_append, HTL.out]; rfl
  rw [hl8] at e8
  rw [HDL.out] at e9
  subst e8
  subst e9
  have H8 := Lib.hid hl8
  clear hl8 src9 q8
  go_wp2
  go_ret
  have cs : Ch [r] w9 (w9.setCell ⟨r, 1, none⟩ (.slice a9 128 d9)) := (Ch.refl [r] w9).setCell (.inl (by simp)) _
  have hsub : ∀ k ∈ [r], k ∈ S ∨ w9.heap.size ≤ k := by intro k hk; simp at hk; subst hk; exact .inl hr
  have hrow : ringRow X g = X.drop 128 := by unfold ringRow; rw [if_neg (by rw [HX.out]; decide)]
  have hover : ringOver X g = X.take 128 ++ [g] := by unfold ringOver; rw [if_neg (by rw [HX.out]; decide)]
  rw [hrow, hover]
  refine ⟨.slice a8 129 d8, rfl, ⟨a8, d8, by rw [H8.out], l8.keep cs hsub⟩, ⟨_, _, a9, d9, by rw [HDL.out]; exact hb9.set 1 _, (l1.keep cc9 (by simp)).keep cs hsub, l9.keep cs hsub⟩, ?_⟩
  exact (cW.trans (cc9.mono (by simp))).trans cs
theorem lsF_one {w : World} {S : List Nat} {k : Nat} {g : Int} (h : Blk w k #[.int .i64 g] 3) (hk : k ∉ S) : LsF w S (some ⟨k, 0, none⟩) 1 [g] :=
  ⟨.inr ⟨k, 0, rfl, fun i hi => by rw [Nat.zero_add, h.cell]; have h0 : i = 0 := (by simp at hi; omega); subst h0; rfl⟩, Nat.le_refl _, by unfold maxLen; omega, .inr ⟨_, rfl, h.lt, hk⟩⟩
theorem refRingPutNew (r : Nat) (S : List Nat) (X : List Int) (g : Int) (w : World) (h : RG w r S [] X) (hr : r ∈ S) (hS : ∀ k ∈ S, k < w.heap.size) :
    Calls Try.prog 25 #[.pointer (some ⟨r, 0, none⟩), .int .i64 g, .bool true] w fun e w' => ∃ v, e = .returned v ∧ ResL w' S v [] ∧ RG w' r S [g] X ∧ Ch [r] w w' := by
  obtain ⟨a1, c1, a2, c2, hb, l1, l2⟩ := h
  have q0 := hb.cell 0
  have hb1 := hb.alloc (.cells #[.int .i64 g] 3)
  have f0 := hb1.frozen 0
  have p0 := hb1.cell 0
  have hrlt := hb.lt
  go_enter Try.func25, Try.ntmps25
  go_wp2
  go_ret
  have cs : Ch [r] w (w.setCell ⟨r, 0, none⟩ (.slice (some ⟨w.heap.size, 0, none⟩) 1 1)) := (Ch.refl [r] _).setCell (.inl (by simp)) _
  have ca : Ch [] (w.setCell ⟨r, 0, none⟩ (.slice (some ⟨w.heap.size, 0, none⟩) 1 1)) ((w.setCell ⟨r, 0, none⟩ (.slice (some ⟨w.heap.size, 0, none⟩) 1 1)).alloc (.cells #[.int .i64 g] 3)) := (Ch.refl [] _).alloc _
  have hsub : ∀ k ∈ [r], k ∈ S ∨ w.heap.size ≤ k := by intro k hk; simp at hk; subst hk; exact .inl hr
  exact ⟨.slice none 0 0, rfl, ⟨none, 0, rfl, LsF.nil _ _⟩, ⟨some ⟨w.heap.size, 0, none⟩, 1, a2, c2, (hb.set 0 _).alloc _, lsF_one (Blk.new' (by simp [World.setCell]) _ _) (fun hm => by have := hS _ hm; omega), (l2.keep cs hsub).keep ca (by simp)⟩, cs.trans (ca.mono (by simp))⟩
set_option maxRecDepth 100000 in
set_option maxHeartbeats 1000000 in
theorem refRingPutNextRoom (r : Nat) (S : List Nat) (m : Int) (X : List Int) (g : Int) (w : World) (h : RG w r S [m] X) (hr : r ∈ S) (hS : ∀ k ∈ S, k < w.heap.size) (hl : X.length < 256) :
    Calls Try.prog 25 #[.pointer (some ⟨r, 0, none⟩), .int .i64 g, .bool true] w fun e w' => ∃ v, e = .returned v ∧ ResL w' S v (ringOver X m) ∧ RG w' r S [g] (ringRow X m) ∧ Ch [r] w w' := by
  obtain ⟨a1, c1, a2, c2, hb, l1, l2⟩ := h
  obtain ⟨b0, o0, rfl, hc0⟩ := l1.at (i := 0) (by simp)
  have e0 := hc0 0 (by simp)
  rw [show gI [m] 0 = m from rfl, Nat.add_zero] at e0
  have hb0lt := World.block_lt_of_cell? w ⟨b0, o0, none⟩ e0
  have hb0r : b0 ≠ r := by
    rcases l1.2.2.2 with h9 | ⟨y, hy, _, h9⟩
    · cases h9
    · cases hy
      intro he
      exact h9 (he ▸ hr)
  have q0 := hb.cell 0
  have hb1 := hb.alloc (.cells #[.int .i64 g] 3)
  have f0 := hb1.frozen 0
  have p0 := hb1.cell 0
  have hrlt := hb.lt
  clear hc0
  obtain ⟨n, hn⟩ : ∃ n, X.length = n := ⟨_, rfl⟩
  rw [hn] at hb hl hb1
  have HX := Lib.hid hn
  have hnl := hl
  have t1 : (n : Int) < 256 := by omega
  clear hn
  go_enter Try.func25, Try.ntmps25
  go_upto_region 7 with fail
  refine wp_named fun W hW => ?_
  have cs : Ch [r] w (w.setCell ⟨r, 0, none⟩ (.slice (some ⟨w.heap.size, 0, none⟩) 1 1)) := (Ch.refl [r] _).setCell (.inl (by simp)) _
  have ca : Ch [] (w.setCell ⟨r, 0, none⟩ (.slice (some ⟨w.heap.size, 0, none⟩) 1 1)) W := by rw [hW]; exact (Ch.refl [] _).alloc _
  have hsub : ∀ k ∈ [r], k ∈ S ∨ w.heap.size ≤ k := by intro k hk; simp at hk; subst hk; exact .inl hr
  have cW : Ch [r] w W := cs.trans (ca.mono (by simp))
  have l1 : LsF W S (some ⟨w.heap.size, 0, none⟩) 1 [g] := lsF_one (by rw [hW]; exact Blk.new' (by simp [World.setCell]) _ _) (fun hm => by have := hS _ hm; omega)
  have l2 := (l2.keep cs hsub).keep ca (by simp)
  have hSW : ∀ k ∈ S, k < W.heap.size := fun k hk => Nat.lt_of_lt_of_le (hS k hk) cW.size
  have hb : Blk W r #[.slice (some ⟨w.heap.size, 0, none⟩) 1 1, .slice a2 n c2] 40 := by rw [hW]; exact (hb.set 0 _).alloc _
  have q0 := hb.cell 1
  clear hW e0 f0 p0 hb1
  -- the row has room: a new row, one longer
  have q1 := fun o => (hb.alloc o).cell 1
  have o1 := OwI.empty W (Nat.le_refl _)
  have src1 := (l2.rd.keep ((Ch.refl [] W).alloc (.cells #[] 3)) (by simp)).src Try.underlying25 c2
  rw [HX.out] at src1
  go_wp2_with (at_builtin; refine wpList_app rfl (.tmp 32) (.tmp 36) rfl (W).heap.size (.slice (some ⟨(W).heap.size, 0, none⟩) 0 0) [] rfl o1 (by simp) (.slice a2 n c2) X rfl (by rw [HX.out]; exact src1) (by have := HX.out; simp; omega) ?_)
  intro v6 w6 o6 c6 n6
  have hs6 := c6.size
  simp at hs6
  have cc6 : Ch [] W w6 := ((Ch.refl [] W).alloc _).transT c6 (by intro k hk; simp [Value.ownBlock] at hk; omega)
  have o7 := o6.alloc (.cells #[.int .i64 m] 3)
  clear q1 src1 o1
  go_wp2_with (at_builtin; refine wpList_app rfl (.tmp 37) (.tmp 39) rfl (W).heap.size v6 X rfl o7 (by simp; omega) _ [m] rfl (srcOne _ m) (by have := HX.out; simp; omega) ?_)
  intro v9 w9 o9 c9 n9
  have cc9 : Ch [] W w9 := (cc6.alloc _).transT c9 (fun k hk => .inr (o6.2 k (by simpa using hk)))
  have hb9 := hb.keep cc9 (by simp)
  have f9 := hb9.frozen 1
  have p9 := hb9.cell 1
  obtain ⟨a9, d9, e9, l9⟩ := o9.lsF (S := S) hSW
  have hl9 : (X ++ [m]).length = n + 1 := by simp [HX.out]
  rw [hl9] at e9
  subst e9
  have H9 := Lib.hid hl9
  clear hl9
  go_wp2
  go_ret
  have cs : Ch [r] w9 (w9.setCell ⟨r, 1, none⟩ (.slice a9 (n + 1) d9)) := (Ch.refl [r] w9).setCell (.inl (by simp)) _
  have hsub : ∀ k ∈ [r], k ∈ S ∨ w9.heap.size ≤ k := by intro k hk; simp at hk; subst hk; exact .inl hr
  have hrow : ringRow X m = X ++ [m] := by unfold ringRow; rw [if_pos (by rw [HX.out]; exact hnl)]
  have hover : ringOver X m = [] := by unfold ringOver; rw [if_pos (by rw [HX.out]; exact hnl)]
  rw [hrow, hover]
  refine ⟨.slice none 0 0, rfl, ⟨none, 0, rfl, LsF.nil _ _⟩, ⟨_, _, a9, d9, by rw [H9.out]; exact hb9.set 1 _, (l1.keep cc9 (by simp)).keep cs hsub, l9.keep cs hsub⟩, ?_⟩
  exact (cW.trans (cc9.mono (by simp))).trans cs
set_option maxRecDepth 100000 in
set_option maxHeartbeats 1000000 in
theorem refRingPutNextFull (r : Nat) (S : List Nat) (m : Int) (X : List Int) (g : Int) (w : World) (h : RG w r S [m] X) (hr : r ∈ S) (hS : ∀ k ∈ S, k < w.heap.size) (hl : X.length = 256) :
    Calls Try.prog 25 #[.pointer (some ⟨r, 0, none⟩), .int .i64 g, .bool true] w fun e w' => ∃ v, e = .returned v ∧ ResL w' S v (ringOver X m) ∧ RG w' r S [g] (ringRow X m) ∧ Ch [r] w w' := by
  obtain ⟨a1, c1, a2, c2, hb, l1, l2⟩ := h
  obtain ⟨b0, o0, rfl, hc0⟩ := l1.at (i := 0) (by simp)
  have e0 := hc0 0 (by simp)
  rw [show gI [m] 0 = m from rfl, Nat.add_zero] at e0
  have hb0lt := World.block_lt_of_cell? w ⟨b0, o0, none⟩ e0
  have hb0r : b0 ≠ r := by
    rcases l1.2.2.2 with h9 | ⟨y, hy, _, h9⟩
    · cases h9
    · cases hy
      intro he
      exact h9 (he ▸ hr)
  have q0 := hb.cell 0
  have hb1 := hb.alloc (.cells #[.int .i64 g] 3)
  have f0 := hb1.frozen 0
  have p0 := hb1.cell 0
  have hrlt := hb.lt
  clear hc0
  rw [hl] at hb hb1
  have HX := Lib.hid hl
  clear hl
  by_cases hc2 : c2 = 128
  · exfalso
    have := l2.2.1
    rw [HX.out] at this
    omega
  go_enter Try.func25, Try.ntmps25
  go_upto_region 7 with fail
  refine wp_named fun W hW => ?_
  have cs : Ch [r] w (w.setCell ⟨r, 0, none⟩ (.slice (some ⟨w.heap.size, 0, none⟩) 1 1)) := (Ch.refl [r] _).setCell (.inl (by simp)) _
  have ca : Ch [] (w.setCell ⟨r, 0, none⟩ (.slice (some ⟨w.heap.size, 0, none⟩) 1 1)) W := by rw [hW]; exact (Ch.refl [] _).alloc _
  have hsub : ∀ k ∈ [r], k ∈ S ∨ w.heap.size ≤ k := by intro k hk; simp at hk; subst hk; exact .inl hr
  have cW : Ch [r] w W := cs.trans (ca.mono (by simp))
  have l1 : LsF W S (some ⟨w.heap.size, 0, none⟩) 1 [g] := lsF_one (by rw [hW]; exact Blk.new' (by simp [World.setCell]) _ _) (fun hm => by have := hS _ hm; omega)
  have l2 := (l2.keep cs hsub).keep ca (by simp)
  have hSW : ∀ k ∈ S, k < W.heap.size := fun k hk => Nat.lt_of_lt_of_le (hS k hk) cW.size
  have hb : Blk W r #[.slice (some ⟨w.heap.size, 0, none⟩) 1 1, .slice a2 256 c2] 40 := by rw [hW]; exact (hb.set 0 _).alloc _
  have q0 := hb.cell 1
  clear hW e0 f0 p0 hb1
  -- the row is full: its first half and one more are told, the second half stays
  have b1 : (0 : Int) ≤ 128 := by decide
  have b2 : (128 : Int) ≤ (c2 : Int) := by have := l2.2.1; rw [HX.out] at this; omega
  have b4 : (256 : Int) ≤ (c2 : Int) := by have := l2.2.1; rw [HX.out] at this; omega
  have htl : (X.take 128).length = 128 := by rw [List.length_take, HX.out]; rfl
  have hdl : (X.drop 128).length = 128 := by rw [List.length_drop, HX.out]
  have HTL := Lib.hid htl
  have HDL := Lib.hid hdl
  have q1 := fun o => (hb.alloc o).cell 1
  have o1 := OwI.empty W (Nat.le_refl _)
  have src1 := ((l2.rd.takeN 128).keep ((Ch.refl [] W).alloc (.cells #[] 3)) (by simp)).src Try.underlying25 c2
  rw [htl] at src1
  clear htl hdl
  go_wp2_with (at_builtin; refine wpList_app rfl (.tmp 43) (.tmp 48) rfl (W).heap.size (.slice (some ⟨(W).heap.size, 0, none⟩) 0 0) [] rfl o1 (by simp) (.slice a2 128 c2) (X.take 128) rfl (by rw [HTL.out]; exact src1) (by rw [HTL.out]; simp) ?_)
  intro v6 w6 o6 c6 n6
  have hs6 := c6.size
  simp at hs6
  have cc6 : Ch [] W w6 := ((Ch.refl [] W).alloc _).transT c6 (by intro k hk; simp [Value.ownBlock] at hk; omega)
  have o7 := o6.alloc (.cells #[.int .i64 m] 3)
  clear q1 src1 o1
  go_wp2_with (at_builtin; refine wpList_app rfl (.tmp 49) (.tmp 51) rfl (W).heap.size v6 (X.take 128) rfl o7 (by simp; omega) _ [m] rfl (srcOne _ m) (by rw [HTL.out]; simp) ?_)
  intro v8 w8 o8 c8 n8
  have cc8 : Ch [] W w8 := (cc6.alloc _).transT c8 (fun k hk => .inr (o6.2 k (by simpa using hk)))
  have hs8 := cc8.size
  have hb8 := hb.keep cc8 (by simp)
  have q8 := fun o => (hb8.alloc o).cell 1
  have o9 := OwI.empty w8 (B := (W).heap.size) hs8
  have rdd := (Rd.dropA (l2.rd.keep (cc8.alloc (.cells #[] 3)) (by simp)) 128 c2 l2.2.1)
  rw [if_neg hc2] at rdd
  have src9 := rdd.src Try.underlying25 (c2 - 128)
  rw [HDL.out] at src9
  clear rdd
  go_wp2_with (at_builtin; refine wpList_app rfl (.tmp 54) (.tmp 59) rfl (W).heap.size (.slice (some ⟨w8.heap.size, 0, none⟩) 0 0) [] rfl o9 (by simp; omega) (.slice (a2.map fun x => x.add 128) 128 (c2 - 128)) (X.drop 128) rfl (by rw [HDL.out]; exact src9) (by rw [HDL.out]; simp) ?_)
  intro v9 w9 o10 c9 n9
  have hne : ∀ k ∈ (Value.slice (some ⟨w8.heap.size, 0, none⟩) 0 0).ownBlock.toList, w8.heap.size ≤ k := by intro k hk; simp [Value.ownBlock] at hk; omega
  have cc89 : Ch [] w8 w9 := ((Ch.refl [] w8).alloc _).transT c9 (fun k hk => .inr (hne k hk))
  have cc9 : Ch [] W w9 := cc8.trans cc89
  have o8' := o8.keepLt cc89 (by simp)
  have hb9 := hb.keep cc9 (by simp)
  have f9 := hb9.frozen 1
  have p9 := hb9.cell 1
  obtain ⟨a8, d8, e8, l8⟩ := o8'.lsF (S := S) hSW
  obtain ⟨a9, d9, e9, l9⟩ := (show OwI w9 (W).heap.size v9 (X.drop 128) by simpa using o10).lsF (S := S) hSW
  have hl8 : (X.take 128 ++ [m]).length = 129 := by rw [List.length_append, HTL.out]; rfl
  rw [hl8] at e8
  rw [HDL.out] at e9
  subst e8
  subst e9
  have H8 := Lib.hid hl8
  clear hl8 src9 q8
  go_wp2
  go_ret
  have cs : Ch [r] w9 (w9.setCell ⟨r, 1, none⟩ (.slice a9 128 d9)) := (Ch.refl [r] w9).setCell (.inl (by simp)) _
  have hsub : ∀ k ∈ [r], k ∈ S ∨ w9.heap.size ≤ k := by intro k hk; simp at hk; subst hk; exact .inl hr
  have hrow : ringRow X m = X.drop 128 := by unfold ringRow; rw [if_neg (by rw [HX.out]; decide)]
  have hover : ringOver X m = X.take 128 ++ [m] := by unfold ringOver; rw [if_neg (by rw [HX.out]; decide)]
  rw [hrow, hover]
  refine ⟨.slice a8 129 d8, rfl, ⟨a8, d8, by rw [H8.out], l8.keep cs hsub⟩, ⟨_, _, a9, d9, by rw [HDL.out]; exact hb9.set 1 _, (l1.keep cc9 (by simp)).keep cs hsub, l9.keep cs hsub⟩, ?_⟩
  exact (cW.trans (cc9.mono (by simp))).trans cs
theorem refRingAll (r : Nat) (S : List Nat) (Nx X : List Int) (w : World) (h : RG w r S Nx X) (hl : Nx.length + X.length ≤ 100000) :
    Calls Try.prog 29 #[.pointer (some ⟨r, 0, none⟩)] w fun e w' => ∃ v, e = .returned v ∧ OwI w' w.heap.size v (Nx ++ X) ∧ Ch [] w w' := by
  obtain ⟨a1, c1, a2, c2, hb, l1, l2⟩ := h
  obtain ⟨n1, hn1⟩ : ∃ n, Nx.length = n := ⟨_, rfl⟩
  obtain ⟨n2, hn2⟩ : ∃ n, X.length = n := ⟨_, rfl⟩
  rw [hn1, hn2] at hb hl
  have HN1 := Lib.hid hn1
  have HN2 := Lib.hid hn2
  clear hn1 hn2
  go_enter Try.func29, Try.ntmps29
  go_upto_region 1 with fail
  obtain ⟨L, hL⟩ : ∃ L : World → Prop, ∀ w', L w' ↔ (w'.cell? ⟨r, 0, none⟩ = some (.slice a1 n1 c1) ∧ w'.cell? ⟨r, 1, none⟩ = some (.slice a2 n2 c2)) := ⟨_, fun _ => Iff.rfl⟩
  have hS1 : ∀ x : { w' : World // L w' }, x.1.cell? ⟨r, 0, none⟩ = some (.slice a1 n1 c1) := fun x => ((hL _).1 x.2).1
  have hS2 : ∀ x : { w' : World // L w' }, x.1.cell? ⟨r, 1, none⟩ = some (.slice a2 n2 c2) := fun x => ((hL _).1 x.2).2
  have hLk : ∀ w', Ch [] w w' → L w' := fun w' hc => (hL _).2 ⟨(hb.keep hc (by simp)).cell 0, (hb.keep hc (by simp)).cell 1⟩
  have hSA : Nonempty { w' : World // L w' } := ⟨⟨_, hLk w (Ch.refl _ _)⟩⟩
  have HLk := Lib.hid hLk
  clear hL hLk
  refine wp_region_plan (Cls L) (List.range 12) (.reads [1, 2, 3, 4, 6, 7, 8, 9] (.only 0 (.only 5 (.only 10 (.reads [11] .done))))) (by kernel_rfl) (by kernel_rfl) (fun _ _ _ _ _ h => h) ?_
  simp only [Plan.pures, Plan.reads, Plan.only, List.foldr_cons, List.foldr_nil]
  obtain ⟨W0, hW0⟩ : ∃ W0, w.drewN 1 = W0 := ⟨_, rfl⟩
  have cc : Ch [] w W0 := by rw [← hW0]; exact (Ch.refl [] w).drewN 1
  rw [hW0]
  clear hW0
  have hl0 := HLk.out _ cc
  iterate 8 (refine wpPlan_readS hl0 (fun K hK => ?_); simp only [List.getD_cons_zero, List.getD_cons_succ]; go_simp; refine hK _ ?_; clear hK K)
  refine wpPlan_only (fun K hK => ?_)
  simp only [List.getD_cons_zero, List.getD_cons_succ]
  go_simp
  obtain ⟨W2, hW2⟩ : ∃ W2, W0.alloc (.cells #[] 3) = W2 := ⟨_, rfl⟩
  obtain ⟨k0, hk0⟩ : ∃ k0, W0.heap.size = k0 := ⟨_, rfl⟩
  have cc2 : Ch [] w W2 := by rw [← hW2]; exact cc.alloc _
  have o0 : OwI W2 w.heap.size (.slice (some ⟨k0, 0, none⟩) 0 0) [] := by rw [← hW2, ← hk0]; exact OwI.empty _ cc.size
  rw [hW2, hk0]
  refine hK _ _ (fun _ => Cls.mk (HLk.out _ cc2)) ?_
  clear hK K hW2 hk0
  refine wpPlan_onlyU rfl (fun K hK => ?_); simp only [List.getD_cons_zero, List.getD_cons_succ]
  have hs1 := (l1.rd.keep cc2 (by simp)).src Try.underlying25 c1
  rw [HN1.out] at hs1
  refine wp_app (.tmp 3) (.tmp 7) rfl w.heap.size (.slice (some ⟨k0, 0, none⟩) 0 0) [] rfl o0 cc2.size (.slice a1 n1 c1) Nx rfl (by rw [HN1.out]; exact hs1) (by have := HN1.out; simp; omega) (fun v8 w8 o8 c8 n8 => ?_)
  have o8 : OwI w8 w.heap.size v8 Nx := by simpa using o8
  have cc8 : Ch [] w w8 := cc2.transT c8 (fun z hz => .inr (o0.2 z (by simpa using hz)))
  refine hK _ _ (fun _ => Cls.mk (HLk.out _ cc8)) ?_
  clear hK K hs1
  refine wpPlan_onlyU rfl (fun K hK => ?_); simp only [List.getD_cons_zero, List.getD_cons_succ]
  have hs2 := (l2.rd.keep cc8 (by simp)).src Try.underlying25 c2
  rw [HN2.out] at hs2
  refine wp_app (.tmp 8) (.tmp 12) rfl w.heap.size v8 Nx rfl o8 cc8.size (.slice a2 n2 c2) X rfl (by rw [HN2.out]; exact hs2) (by have := HN1.out; have := HN2.out; omega) (fun v9 w9 o9 c9 n9 => ?_)
  have cc9 : Ch [] w w9 := cc8.transT c9 (fun z hz => .inr (o8.2 z (by simpa using hz)))
  have hl9 := HLk.out _ cc9
  refine hK _ _ (fun _ => Cls.mk hl9) ?_
  clear hK K hs2
  refine wpPlan_readS hl9 (fun K hK => ?_); simp only [List.getD_cons_zero, List.getD_cons_succ]; go_simp; refine hK _ ?_; clear hK K
  refine wpPlan_done ?_
  clear hS1 hS2 hSA hl0 hl9
  go_wp2
  go_ret
  exact ⟨v9, rfl, o9, cc9⟩
theorem refRingDelNext (r : Nat) (S : List Nat) (X : List Int) (g : Int) (w : World) (h : RG w r S [g] X) (hr : r ∈ S) :
    Calls Try.prog 28 #[.pointer (some ⟨r, 0, none⟩), .int .i64 g] w fun e w' => e = .returned (.bool true) ∧ RG w' r S [] X ∧ Ch [r] w w' := by
  obtain ⟨a1, c1, a2, c2, h1, h2, h3⟩ := h
  have hH := hasAny a1 [g] g 1 c1 w h2.rd rfl (by decide)
  rw [show ([g] : List Int).contains g = true by simp] at hH
  have q0 := h1.cell 0
  have f0 := h1.frozen 0
  go_enter Try.func28, Try.ntmps28
  go_wp2_with fail
  refine hH.mono ?_; rintro e w1 ⟨rfl, rfl⟩
  go_wp2
  go_ret
  have cs : Ch [r] w1 (w1.setCell ⟨r, 0, none⟩ (.slice none 0 0)) := (Ch.refl [r] w1).setCell (.inl (by simp)) _
  exact ⟨rfl, ⟨none, 0, a2, c2, h1.set 0 _, LsF.nil _ _, h3.keep cs (by intro k hk; simp at hk; subst hk; exact .inl hr)⟩, cs⟩
theorem refRingDelRow (r : Nat) (S : List Nat) (Nx X : List Int) (g : Int) (w : World) (h : RG w r S Nx X) (hr : r ∈ S) (hS : ∀ k ∈ S, k < w.heap.size) (hg : g ∉ Nx) (hl : Nx.length + X.length ≤ 100000) :
    Calls Try.prog 28 #[.pointer (some ⟨r, 0, none⟩), .int .i64 g] w fun e w' => e = .returned (.bool (X.contains g)) ∧ RG w' r S Nx (X.erase g) ∧ Ch [r] w w' := by
  obtain ⟨a1, c1, a2, c2, h1, h2, h3⟩ := h
  have hH := hasAny a1 Nx g Nx.length c1 w h2.rd rfl (by omega)
  rw [show Nx.contains g = false by simpa using hg] at hH
  obtain ⟨n1, hn1⟩ : ∃ n, Nx.length = n := ⟨_, rfl⟩
  rw [hn1] at hH h1 hl
  have HN1 := Lib.hid hn1
  clear hn1
  have q0 := h1.cell 0
  have q1 := h1.cell 1
  rcases split_first X g with hx | ⟨p, q, rfl, hx⟩
  · rw [show X.contains g = false by simpa using hx, List.erase_of_not_mem hx]
    obtain ⟨n2, hn2⟩ : ∃ n, X.length = n := ⟨_, rfl⟩
    have hO := outNone a2 X g n2 c2 w h3.rd hx hn2.symm (by omega)
    rw [hn2] at q1 h1 hl
    have HN2 := Lib.hid hn2
    have f1 := h1.frozen 1
    clear hn2 hx
    go_enter Try.func28, Try.ntmps28
    go_wp2_with fail
    refine hH.mono ?_; rintro e w1 ⟨rfl, rfl⟩
    go_wp2_with fail
    refine hO.mono ?_; rintro e w2 ⟨rfl, rfl⟩
    go_wp2
    go_ret
    have cs : Ch [r] w2 (w2.setCell ⟨r, 1, none⟩ (.slice a2 n2 c2)) := (Ch.refl [r] w2).setCell (.inl (by simp)) _
    have hsub : ∀ k ∈ [r], k ∈ S ∨ w2.heap.size ≤ k := by intro k hk; simp at hk; subst hk; exact .inl hr
    exact ⟨rfl, ⟨a1, c1, a2, c2, by rw [HN1.out, HN2.out]; exact h1.set 1 _, h2.keep cs hsub, h3.keep cs hsub⟩, cs⟩
  · rw [show (p ++ g :: q).contains g = true by simp, show (p ++ g :: q).erase g = p ++ q by rw [List.erase_append_right _ hx, List.erase_cons_head]]
    obtain ⟨n2, hn2⟩ : ∃ n, (p ++ g :: q).length = n := ⟨_, rfl⟩
    have hO := outFound a2 p q g n2 c2 w h3.rd hx hn2.symm (by rw [← hn2]; exact h3.2.1) (by omega)
    rw [hn2] at q1 h1 hl
    clear hn2 hx
    go_enter Try.func28, Try.ntmps28
    go_wp2_with fail
    refine hH.mono ?_; rintro e w1 ⟨rfl, rfl⟩
    go_wp2_with fail
    refine hO.mono ?_; rintro e w2 ⟨v2, rfl, o2, cc2⟩
    obtain ⟨a4, c4, e4, l4⟩ := o2.lsF (S := S) hS
    obtain ⟨m, hm⟩ : ∃ m, (p ++ q).length = m := ⟨_, rfl⟩
    rw [hm] at e4
    subst e4
    have HM := Lib.hid hm
    have hb2 := h1.keep cc2 (by simp)
    have f1 := hb2.frozen 1
    have p1 := hb2.cell 1
    clear hm
    go_wp2
    go_ret
    have cs : Ch [r] w2 (w2.setCell ⟨r, 1, none⟩ (.slice a4 m c4)) := (Ch.refl [r] w2).setCell (.inl (by simp)) _
    have hsub : ∀ k ∈ [r], k ∈ S ∨ w2.heap.size ≤ k := by intro k hk; simp at hk; subst hk; exact .inl hr
    exact ⟨rfl, ⟨a1, c1, a4, c4, by rw [HN1.out, HM.out]; exact hb2.set 1 _, (h2.keep cc2 (by simp)).keep cs hsub, l4.keep cs hsub⟩, (cc2.mono (by simp)).trans cs⟩
theorem Try.infoRefRing : ∃ j, Try.prog.info? 40 = some j ∧ j.size ≠ 0 := by
  have h : (Try.prog.info? 40).map (·.size) = some 2 := by kernel_rfl
  obtain ⟨j, hj, hs⟩ := Option.map_eq_some_iff.1 h
  exact ⟨j, hj, by omega⟩
theorem refStealNone (r o : Nat) (S : List Nat) (Nr X : List Int) (w : World) (h : RG w r S Nr X) (ho : RG w o S [] []) (hne : r ≠ o) :
    Calls Try.prog 27 #[.pointer (some ⟨r, 0, none⟩), .pointer (some ⟨o, 0, none⟩)] w fun e w' => e = .returned (.int .i64 0) ∧ w' = w := by
  obtain ⟨a1, c1, a2, c2, hb, l1, l2⟩ := h
  obtain ⟨d1, e1, d2, e2, hbo, m1, m2⟩ := ho
  obtain ⟨j, hj, hs⟩ := Try.infoRefRing
  have hpe : (binOp .eql 38 (.pointer (some ⟨o, 0, none⟩)) (.pointer (some ⟨r, 0, none⟩))).run Try.prog w = .ok (.bool false) w := run_eql_ptr_other w Try.underlying38 hj hs (by simp [Ne.symm hne]) hbo hb
  have q0 := hbo.cell 0
  have q1 := hbo.cell 1
  clear l1 l2 m1 m2
  go_enter Try.func27, Try.ntmps27
  go_wp2
  go_ret
  exact ⟨rfl, rfl⟩
theorem refStealFull (r o : Nat) (S : List Nat) (Nr X : List Int) (m : Int) (w : World) (h : RG w r S Nr X) (ho : RG w o S [m] []) (hne : r ≠ o) (hl : 256 ≤ X.length) :
    Calls Try.prog 27 #[.pointer (some ⟨r, 0, none⟩), .pointer (some ⟨o, 0, none⟩)] w fun e w' => e = .returned (.int .i64 0) ∧ w' = w := by
  obtain ⟨a1, c1, a2, c2, hb, l1, l2⟩ := h
  obtain ⟨d1, e1, d2, e2, hbo, m1, m2⟩ := ho
  obtain ⟨j, hj, hs⟩ := Try.infoRefRing
  have hpe : (binOp .eql 38 (.pointer (some ⟨o, 0, none⟩)) (.pointer (some ⟨r, 0, none⟩))).run Try.prog w = .ok (.bool false) w := run_eql_ptr_other w Try.underlying38 hj hs (by simp [Ne.symm hne]) hbo hb
  obtain ⟨n, hn⟩ : ∃ n, X.length = n := ⟨_, rfl⟩
  rw [hn] at hb hl
  have q0 := hbo.cell 0
  have q1 := hbo.cell 1
  have q2 := hb.cell 1
  have t1 : (256 : Int) ≤ n := by omega
  clear l1 l2 m1 m2 hn
  go_enter Try.func27, Try.ntmps27
  go_wp2
  go_ret
  exact ⟨rfl, rfl⟩
set_option maxRecDepth 100000 in
set_option maxHeartbeats 2000000 in
theorem refStealHalf (r o : Nat) (S : List Nat) (Nr X No Y : List Int) (k : Nat) (w : World) (h : RG w r S Nr X) (ho : RG w o S No Y) (hr : r ∈ S) (hoS : o ∈ S) (hS : ∀ k ∈ S, k < w.heap.size) (hne : r ≠ o) (hA : Y ≠ []) (hXl : X.length ≤ 256) (hYl : Y.length ≤ 256)
    (hk : k = min (Y.length - Y.length / 2) (256 - X.length)) :
    Calls Try.prog 27 #[.pointer (some ⟨r, 0, none⟩), .pointer (some ⟨o, 0, none⟩)] w fun e w' => e = .returned (.int .i64 k) ∧ RG w' r S Nr (X ++ Y.take k) ∧ RG w' o S No (Y.drop k) ∧ Ch [r, o] w w' := by
  obtain ⟨a1, c1, a2, c2, hb, l1, l2⟩ := h
  obtain ⟨d1, e1, d2, e2, hbo, m1, m2⟩ := ho
  obtain ⟨j, hj, hs⟩ := Try.infoRefRing
  have hpe : (binOp .eql 38 (.pointer (some ⟨o, 0, none⟩)) (.pointer (some ⟨r, 0, none⟩))).run Try.prog w = .ok (.bool false) w := run_eql_ptr_other w Try.underlying38 hj hs (by simp [Ne.symm hne]) hbo hb
  obtain ⟨n, hn⟩ : ∃ n, Y.length = n := ⟨_, rfl⟩
  obtain ⟨mx, hmx⟩ : ∃ n, X.length = n := ⟨_, rfl⟩
  have hn0 : 0 < n := by rw [← hn]; exact List.length_pos_iff.2 hA
  rw [hmx] at hb hXl hk
  rw [hn] at hbo hYl hk
  have hne2 := m2.2.1
  rw [hn] at hne2
  obtain ⟨hh, hhh⟩ : ∃ hh, n / 2 = hh := ⟨_, rfl⟩
  rw [hhh] at hk
  have u1 : ((n : Int)) / 2 = (hh : Int) := by omega
  obtain ⟨p, hp⟩ : ∃ p, n - hh = p := ⟨_, rfl⟩
  obtain ⟨q, hq⟩ : ∃ q, 256 - mx = q := ⟨_, rfl⟩
  rw [hp, hq] at hk
  have u2 : IntKind.i64.wrap ((n : Int) - (hh : Int)) = (p : Int) := by rw [IntWalk.i64_in _ (by omega)]; omega
  have u3 : IntKind.i64.wrap ((256 : Int) - (mx : Int)) = (q : Int) := by rw [IntWalk.i64_in _ (by omega)]; omega
  have u22 : wrap64 ((n : Int) - (hh : Int)) = (p : Int) := by rw [IntWalk.wrap64_in _ (by omega)]; omega
  have u33 : wrap64 ((256 : Int) - (mx : Int)) = (q : Int) := by rw [IntWalk.wrap64_in _ (by omega)]; omega
  have u4 : (if q < p then (q : Int) else (p : Int)) = (k : Int) := by split <;> omega
  have u5 : ((n : Int) == 0) = false := by rw [beq_eq_false_iff_ne]; omega
  have k0 : (0 : Int) ≤ k := by omega
  have k1 : (k : Int) ≤ n := by omega
  have k2 : (k : Int) ≤ e2 := by omega
  have k3 : (n : Int) ≤ e2 := by omega
  have hkn : k ≤ n := by omega
  have htk : (Y.take k).length = k := by rw [List.length_take, hn]; omega
  have hdk : (Y.drop k).length = n - k := by rw [List.length_drop, hn]
  have hdr := Rd.dropA m2.rd k e2 m2.2.1
  have q1 := hbo.cell 1
  have q2 := hb.cell 1
  have HN := Lib.hid hn
  have HX := Lib.hid hmx
  have HTK := Lib.hid htk
  have HDK := Lib.hid hdk
  clear hn hmx htk hdk hk hhh hA hn0 hp hq
  by_cases he : e2 = k
  · have hls := m2.dropK k (by rw [HN.out]; exact hkn)
    rw [if_pos he] at hls
    have hnk : n = k := by omega
    subst hnk
    subst he
    go_enter Try.func27, Try.ntmps27
    go_upto_region 11 with fail
    clear hpe
    obtain ⟨L, hL⟩ : ∃ L : World → Prop, ∀ w', L w' ↔ (w'.cell? ⟨r, 1, none⟩ = some (.slice a2 mx c2) ∧ w'.cell? ⟨o, 1, none⟩ = some (.slice d2 e2 e2)) := ⟨_, fun _ => Iff.rfl⟩
    have hS1 : ∀ x : { w' : World // L w' }, x.1.cell? ⟨r, 1, none⟩ = some (.slice a2 mx c2) := fun x => ((hL _).1 x.2).1
    have hS2 : ∀ x : { w' : World // L w' }, x.1.cell? ⟨o, 1, none⟩ = some (.slice d2 e2 e2) := fun x => ((hL _).1 x.2).2
    have hLk : ∀ w', Ch [] w w' → L w' := fun w' hc => (hL _).2 ⟨(hb.keep hc (by simp)).cell 1, (hbo.keep hc (by simp)).cell 1⟩
    have hSA : Nonempty { w' : World // L w' } := ⟨⟨_, hLk w (Ch.refl _ _)⟩⟩
    have HLk := Lib.hid hLk
    clear hL hLk
    refine wp_region_plan (Cls L) (List.range 14) (.reads [0, 2, 3, 4, 5, 7, 8, 9, 10, 11, 12] (.only 1 (.only 6 (.only 13 (.pures [14, 15] (.only 16 .done)))))) (by kernel_rfl) (by kernel_rfl) (fun _ _ _ _ _ h => h) ?_
    simp only [Plan.pures, Plan.reads, Plan.only, List.foldr_cons, List.foldr_nil]
    obtain ⟨W0, hW0⟩ : ∃ W0, w.drewN 1 = W0 := ⟨_, rfl⟩
    have cc : Ch [] w W0 := by rw [← hW0]; exact (Ch.refl [] w).drewN 1
    rw [hW0]
    clear hW0
    have hl0 := HLk.out _ cc
    iterate 11 (refine wpPlan_readS hl0 (fun K hK => ?_); simp only [List.getD_cons_zero, List.getD_cons_succ]; go_simp; refine hK _ ?_; clear hK K)
    refine wpPlan_only (fun K hK => ?_)
    simp only [List.getD_cons_zero, List.getD_cons_succ]
    go_simp
    obtain ⟨W2, hW2⟩ : ∃ W2, W0.alloc (.cells #[] 3) = W2 := ⟨_, rfl⟩
    obtain ⟨k0, hk0⟩ : ∃ k0, W0.heap.size = k0 := ⟨_, rfl⟩
    have cc2 : Ch [] w W2 := by rw [← hW2]; exact cc.alloc _
    have o0 : OwI W2 w.heap.size (.slice (some ⟨k0, 0, none⟩) 0 0) [] := by rw [← hW2, ← hk0]; exact OwI.empty _ cc.size
    rw [hW2, hk0]
    refine hK _ _ (fun _ => Cls.mk (HLk.out _ cc2)) ?_
    clear hK K hW2 hk0
    refine wpPlan_onlyU rfl (fun K hK => ?_); simp only [List.getD_cons_zero, List.getD_cons_succ]
    have hs1 := (l2.rd.keep cc2 (by simp)).src Try.underlying25 c2
    rw [HX.out] at hs1
    refine wp_app (.tmp 67) (.tmp 71) rfl w.heap.size (.slice (some ⟨k0, 0, none⟩) 0 0) [] rfl o0 cc2.size (.slice a2 mx c2) X rfl (by rw [HX.out]; exact hs1) (by have := HX.out; simp; omega) (fun v8 w8 o8 c8 n8 => ?_)
    have o8 : OwI w8 w.heap.size v8 X := by simpa using o8
    have cc8 : Ch [] w w8 := cc2.transT c8 (fun z hz => .inr (o0.2 z (by simpa using hz)))
    refine hK _ _ (fun _ => Cls.mk (HLk.out _ cc8)) ?_
    clear hK K hs1
    refine wpPlan_onlyU rfl (fun K hK => ?_); simp only [List.getD_cons_zero, List.getD_cons_succ]
    have hs2 := ((m2.rd.takeN e2).keep cc8 (by simp)).src Try.underlying25 e2
    rw [HTK.out] at hs2
    refine wp_app (.tmp 72) (.tmp 78) rfl w.heap.size v8 X rfl o8 cc8.size (.slice d2 e2 e2) (Y.take e2) rfl (by rw [HTK.out]; exact hs2) (by have := HX.out; have := HTK.out; omega) (fun v9 w9 o9 c9 n9 => ?_)
    have cc9 : Ch [] w w9 := cc8.transT c9 (fun z hz => .inr (o8.2 z (by simpa using hz)))
    refine hK _ _ (fun _ => Cls.mk (HLk.out _ cc9)) ?_
    clear hK K hs2
    obtain ⟨a9, d9, ev9, l9⟩ := o9.lsF (S := S) hS
    have hl9 : (X ++ Y.take e2).length = mx + e2 := by rw [List.length_append, HX.out, HTK.out]
    rw [hl9] at ev9
    subst ev9
    have H9 := Lib.hid hl9
    clear hl9
    iterate 2 (refine wpPlan_pure (fun K hK => ?_); simp only [List.getD_cons_zero, List.getD_cons_succ]; go_simp; refine hK _ ?_; clear hK K)
    have hb9 := hb.keep cc9 (by simp)
    have hbo9 := hbo.keep cc9 (by simp)
    have f9 := hb9.frozen 1
    have p9 := hb9.cell 1
    refine wpPlan_only (fun K hK => ?_)
    simp only [List.getD_cons_zero, List.getD_cons_succ]
    go_simp
    refine hK _ _ (by simp) ?_
    clear hK K f9 p9
    refine wpPlan_done ?_
    have cs : Ch [r] w9 (w9.setCell ⟨r, 1, none⟩ (.slice a9 (mx + e2) d9)) := (Ch.refl [r] w9).setCell (.inl (by simp)) _
    have hb10 : Blk (w9.setCell ⟨r, 1, none⟩ (.slice a9 (mx + e2) d9)) r #[.slice a1 Nr.length c1, .slice a9 (mx + e2) d9] 40 := hb9.set 1 _
    have hbo10 := hbo9.setOther (p := ⟨r, 1, none⟩) (Ne.symm hne) (.slice a9 (mx + e2) d9)
    obtain ⟨W, hW⟩ : ∃ W, w9.setCell ⟨r, 1, none⟩ (.slice a9 (mx + e2) d9) = W := ⟨_, rfl⟩
    rw [hW] at cs hb10 hbo10 ⊢
    have fo := hbo10.frozen 1
    have po := hbo10.cell 1
    have hsr : ∀ z ∈ [r], z ∈ S ∨ w9.heap.size ≤ z := by intro z hz; simp at hz; subst hz; exact .inl hr
    have hso : ∀ z ∈ [o], z ∈ S ∨ W.heap.size ≤ z := by intro z hz; simp at hz; subst hz; exact .inl hoS
    clear hW hSA hS1 hS2 hl0 hb hbo hb9 hbo9 o9 u1 u2 u3 u4 u22 u33
    go_wp2
    go_ret
    have cs2 : Ch [o] W (W.setCell ⟨o, 1, none⟩ (.slice d2 0 0)) := (Ch.refl [o] W).setCell (.inl (by simp)) _
    have hls' := (by simpa using hls)
    refine ⟨rfl, ⟨a1, c1, a9, d9, by rw [H9.out]; exact hb10.setOther (p := ⟨o, 1, none⟩) hne _, ((l1.keep cc9 (by simp)).keep cs hsr).keep cs2 hso, (l9.keep cs hsr).keep cs2 hso⟩, ⟨d1, e1, d2, 0, (by rw [HDK.out]; rw [Nat.sub_self]; exact hbo10.set 1 _), ((m1.keep cc9 (by simp)).keep cs hsr).keep cs2 hso, ?_⟩, ?_⟩
    · exact ((LsF.keep hls' cc9 (by simp)).keep cs hsr).keep cs2 hso
    · exact ((cc9.mono (by simp)).trans (cs.mono (by simp))).trans (cs2.mono (by simp))
  · have hls := m2.dropK k (by rw [HN.out]; exact hkn)
    rw [if_neg he] at hls
    go_enter Try.func27, Try.ntmps27
    go_upto_region 11 with fail
    clear hpe
    obtain ⟨L, hL⟩ : ∃ L : World → Prop, ∀ w', L w' ↔ (w'.cell? ⟨r, 1, none⟩ = some (.slice a2 mx c2) ∧ w'.cell? ⟨o, 1, none⟩ = some (.slice d2 n e2)) := ⟨_, fun _ => Iff.rfl⟩
    have hS1 : ∀ x : { w' : World // L w' }, x.1.cell? ⟨r, 1, none⟩ = some (.slice a2 mx c2) := fun x => ((hL _).1 x.2).1
    have hS2 : ∀ x : { w' : World // L w' }, x.1.cell? ⟨o, 1, none⟩ = some (.slice d2 n e2) := fun x => ((hL _).1 x.2).2
    have hLk : ∀ w', Ch [] w w' → L w' := fun w' hc => (hL _).2 ⟨(hb.keep hc (by simp)).cell 1, (hbo.keep hc (by simp)).cell 1⟩
    have hSA : Nonempty { w' : World // L w' } := ⟨⟨_, hLk w (Ch.refl _ _)⟩⟩
    have HLk := Lib.hid hLk
    clear hL hLk
    refine wp_region_plan (Cls L) (List.range 14) (.reads [0, 2, 3, 4, 5, 7, 8, 9, 10, 11, 12] (.only 1 (.only 6 (.only 13 (.pures [14, 15] (.only 16 .done)))))) (by kernel_rfl) (by kernel_rfl) (fun _ _ _ _ _ h => h) ?_
    simp only [Plan.pures, Plan.reads, Plan.only, List.foldr_cons, List.foldr_nil]
    obtain ⟨W0, hW0⟩ : ∃ W0, w.drewN 1 = W0 := ⟨_, rfl⟩
    have cc : Ch [] w W0 := by rw [← hW0]; exact (Ch.refl [] w).drewN 1
    rw [hW0]
    clear hW0
    have hl0 := HLk.out _ cc
    iterate 11 (refine wpPlan_readS hl0 (fun K hK => ?_); simp only [List.getD_cons_zero, List.getD_cons_succ]; go_simp; refine hK _ ?_; clear hK K)
    refine wpPlan_only (fun K hK => ?_)
    simp only [List.getD_cons_zero, List.getD_cons_succ]
    go_simp
    obtain ⟨W2, hW2⟩ : ∃ W2, W0.alloc (.cells #[] 3) = W2 := ⟨_, rfl⟩
    obtain ⟨k0, hk0⟩ : ∃ k0, W0.heap.size = k0 := ⟨_, rfl⟩
    have cc2 : Ch [] w W2 := by rw [← hW2]; exact cc.alloc _
    have o0 : OwI W2 w.heap.size (.slice (some ⟨k0, 0, none⟩) 0 0) [] := by rw [← hW2, ← hk0]; exact OwI.empty _ cc.size
    rw [hW2, hk0]
    refine hK _ _ (fun _ => Cls.mk (HLk.out _ cc2)) ?_
    clear hK K hW2 hk0
    refine wpPlan_onlyU rfl (fun K hK => ?_); simp only [List.getD_cons_zero, List.getD_cons_succ]
    have hs1 := (l2.rd.keep cc2 (by simp)).src Try.underlying25 c2
    rw [HX.out] at hs1
    refine wp_app (.tmp 67) (.tmp 71) rfl w.heap.size (.slice (some ⟨k0, 0, none⟩) 0 0) [] rfl o0 cc2.size (.slice a2 mx c2) X rfl (by rw [HX.out]; exact hs1) (by have := HX.out; simp; omega) (fun v8 w8 o8 c8 n8 => ?_)
    have o8 : OwI w8 w.heap.size v8 X := by simpa using o8
    have cc8 : Ch [] w w8 := cc2.transT c8 (fun z hz => .inr (o0.2 z (by simpa using hz)))
    refine hK _ _ (fun _ => Cls.mk (HLk.out _ cc8)) ?_
    clear hK K hs1
    refine wpPlan_onlyU rfl (fun K hK => ?_); simp only [List.getD_cons_zero, List.getD_cons_succ]
    have hs2 := ((m2.rd.takeN k).keep cc8 (by simp)).src Try.underlying25 e2
    rw [HTK.out] at hs2
    refine wp_app (.tmp 72) (.tmp 78) rfl w.heap.size v8 X rfl o8 cc8.size (.slice d2 k e2) (Y.take k) rfl (by rw [HTK.out]; exact hs2) (by have := HX.out; have := HTK.out; omega) (fun v9 w9 o9 c9 n9 => ?_)
    have cc9 : Ch [] w w9 := cc8.transT c9 (fun z hz => .inr (o8.2 z (by simpa using hz)))
    refine hK _ _ (fun _ => Cls.mk (HLk.out _ cc9)) ?_
    clear hK K hs2
    obtain ⟨a9, d9, ev9, l9⟩ := o9.lsF (S := S) hS
    have hl9 : (X ++ Y.take k).length = mx + k := by rw [List.length_append, HX.out, HTK.out]
    rw [hl9] at ev9
    subst ev9
    have H9 := Lib.hid hl9
    clear hl9
    iterate 2 (refine wpPlan_pure (fun K hK => ?_); simp only [List.getD_cons_zero, List.getD_cons_succ]; go_simp; refine hK _ ?_; clear hK K)
    have hb9 := hb.keep cc9 (by simp)
    have hbo9 := hbo.keep cc9 (by simp)
    have f9 := hb9.frozen 1
    have p9 := hb9.cell 1
    refine wpPlan_only (fun K hK => ?_)
    simp only [List.getD_cons_zero, List.getD_cons_succ]
    go_simp
    refine hK _ _ (by simp) ?_
    clear hK K f9 p9
    refine wpPlan_done ?_
    have cs : Ch [r] w9 (w9.setCell ⟨r, 1, none⟩ (.slice a9 (mx + k) d9)) := (Ch.refl [r] w9).setCell (.inl (by simp)) _
    have hb10 : Blk (w9.setCell ⟨r, 1, none⟩ (.slice a9 (mx + k) d9)) r #[.slice a1 Nr.length c1, .slice a9 (mx + k) d9] 40 := hb9.set 1 _
    have hbo10 := hbo9.setOther (p := ⟨r, 1, none⟩) (Ne.symm hne) (.slice a9 (mx + k) d9)
    obtain ⟨W, hW⟩ : ∃ W, w9.setCell ⟨r, 1, none⟩ (.slice a9 (mx + k) d9) = W := ⟨_, rfl⟩
    rw [hW] at cs hb10 hbo10 ⊢
    have fo := hbo10.frozen 1
    have po := hbo10.cell 1
    have hsr : ∀ z ∈ [r], z ∈ S ∨ w9.heap.size ≤ z := by intro z hz; simp at hz; subst hz; exact .inl hr
    have hso : ∀ z ∈ [o], z ∈ S ∨ W.heap.size ≤ z := by intro z hz; simp at hz; subst hz; exact .inl hoS
    clear hW hSA hS1 hS2 hl0 hb hbo hb9 hbo9 o9 u1 u2 u3 u4 u22 u33
    go_wp2
    go_ret
    have cs2 : Ch [o] W (W.setCell ⟨o, 1, none⟩ (.slice (d2.map fun x => x.add k) (n - k) (e2 - k))) := (Ch.refl [o] W).setCell (.inl (by simp)) _
    have hls' := hls
    refine ⟨rfl, ⟨a1, c1, a9, d9, by rw [H9.out]; exact hb10.setOther (p := ⟨o, 1, none⟩) hne _, ((l1.keep cc9 (by simp)).keep cs hsr).keep cs2 hso, (l9.keep cs hsr).keep cs2 hso⟩, ⟨d1, e1, (d2.map fun x => x.add k), (e2 - k), (by rw [HDK.out]; exact hbo10.set 1 _), ((m1.keep cc9 (by simp)).keep cs hsr).keep cs2 hso, ?_⟩, ?_⟩
    · exact ((LsF.keep hls' cc9 (by simp)).keep cs hsr).keep cs2 hso
    · exact ((cc9.mono (by simp)).trans (cs.mono (by simp))).trans (cs2.mono (by simp))
set_option maxRecDepth 100000 in
set_option maxHeartbeats 4000000 in
theorem refStealOne (r o : Nat) (S : List Nat) (Nr X : List Int) (m : Int) (w : World) (h : RG w r S Nr X) (ho : RG w o S [m] []) (hr : r ∈ S) (hoS : o ∈ S) (hS : ∀ k ∈ S, k < w.heap.size) (hne : r ≠ o) (hXl : X.length < 256) :
    Calls Try.prog 27 #[.pointer (some ⟨r, 0, none⟩), .pointer (some ⟨o, 0, none⟩)] w fun e w' => e = .returned (.int .i64 1) ∧ RG w' r S Nr (X ++ [m]) ∧ RG w' o S [] [] ∧ Ch [r, o] w w' := by
  obtain ⟨a1, c1, a2, c2, hb, l1, l2⟩ := h
  obtain ⟨d1, e1, d2, e2, hbo, m1, m2⟩ := ho
  obtain ⟨j, hj, hs⟩ := Try.infoRefRing
  have hpe : (binOp .eql 38 (.pointer (some ⟨o, 0, none⟩)) (.pointer (some ⟨r, 0, none⟩))).run Try.prog w = .ok (.bool false) w := run_eql_ptr_other w Try.underlying38 hj hs (by simp [Ne.symm hne]) hbo hb
  obtain ⟨mx, hmx⟩ : ∃ n, X.length = n := ⟨_, rfl⟩
  rw [hmx] at hb hXl
  obtain ⟨bm, om, rfl, hcm⟩ := m1.at (i := 0) (by simp)
  have e0 := hcm 0 (by simp)
  rw [show gI [m] 0 = m from rfl, Nat.add_zero] at e0
  have hbm := World.block_lt_of_cell? w ⟨bm, om, none⟩ e0
  have q0 := hbo.cell 0
  have q1 := hbo.cell 1
  have q2 := hb.cell 1
  have t1 : ¬ (256 : Int) ≤ mx := by omega
  have HX := Lib.hid hmx
  clear hmx hcm
  go_enter Try.func27, Try.ntmps27
  go_upto_region 7 with fail
  clear hpe
  obtain ⟨L, hL⟩ : ∃ L : World → Prop, ∀ w', L w' ↔ (w'.cell? ⟨r, 1, none⟩ = some (.slice a2 mx c2) ∧ w'.cell? ⟨o, 0, none⟩ = some (.slice (some ⟨bm, om, none⟩) 1 e1) ∧ w'.cell? ⟨bm, om, none⟩ = some (.int .i64 m)) := ⟨_, fun _ => Iff.rfl⟩
  have hS1 : ∀ x : { w' : World // L w' }, x.1.cell? ⟨r, 1, none⟩ = some (.slice a2 mx c2) := fun x => ((hL _).1 x.2).1
  have hS2 : ∀ x : { w' : World // L w' }, x.1.cell? ⟨o, 0, none⟩ = some (.slice (some ⟨bm, om, none⟩) 1 e1) := fun x => ((hL _).1 x.2).2.1
  have hS3 : ∀ x : { w' : World // L w' }, x.1.cell? ⟨bm, om, none⟩ = some (.int .i64 m) := fun x => ((hL _).1 x.2).2.2
  have hLk : ∀ w', Ch [] w w' → L w' := fun w' hc => (hL _).2 ⟨(hb.keep hc (by simp)).cell 1, (hbo.keep hc (by simp)).cell 0, by rw [World.cell?_of_block (w := w) (hc.block bm hbm (by simp))]; exact e0⟩
  have hSA : Nonempty { w' : World // L w' } := ⟨⟨_, hLk w (Ch.refl _ _)⟩⟩
  have HLk := Lib.hid hLk
  clear hL hLk e0 q0 q1 q2
  refine wp_region_plan (Cls L) (List.range 15) (.reads [0, 2, 3, 4, 5, 7, 8, 9, 10, 11, 12] (.alt 1 (.alt 6 (.only 13 (.only 14 (.pures [15, 16] (.only 17 .done)))) (.alt 13 (.only 6 (.only 14 (.pures [15, 16] (.only 17 .done)))) .done)) (.alt 13 (.only 1 (.only 6 (.only 14 (.pures [15, 16] (.only 17 .done))))) .done))) (by kernel_rfl) (by kernel_rfl) (fun _ _ _ _ _ h => h) ?_
  simp only [Plan.pures, Plan.reads, Plan.only, List.foldr_cons, List.foldr_nil]
  obtain ⟨W0, hW0⟩ : ∃ W0, w.drewN 1 = W0 := ⟨_, rfl⟩
  have cc : Ch [] w W0 := by rw [← hW0]; exact (Ch.refl [] w).drewN 1
  rw [hW0]
  clear hW0
  have hl0 := HLk.out _ cc
  iterate 11 (refine wpPlan_readS hl0 (fun K hK => ?_); simp only [List.getD_cons_zero, List.getD_cons_succ]; go_simp; refine hK _ ?_; clear hK K)
  clear hl0
  refine wpPlan_altU rfl (fun K hK => ?_) ?_; simp only [List.getD_cons_zero, List.getD_cons_succ]
  · go_simp
    obtain ⟨k0, hk0⟩ : ∃ k, (W0).heap.size = k := ⟨_, rfl⟩
    have HK0 := Lib.hid hk0
    obtain ⟨W1, hWn⟩ : ∃ X, (W0).alloc (.cells #[] 3) = X := ⟨_, rfl⟩
    have HS0 := Lib.hid (show W1.heap.size = k0 + 1 by rw [← hWn, ← hk0]; simp)
    have cn : Ch [] w W1 := by rw [← hWn]; exact cc.alloc _
    have o0 : OwI W1 w.heap.size (.slice (some ⟨k0, 0, none⟩) 0 0) [] := by rw [← hWn, ← hk0]; exact OwI.empty _ cc.size
    first | rw [hWn] | (rw [show (W0).alloc _ = W1 from hWn])
    first | (rw [hk0]; clear hk0) | (rw [hk9]; clear hk9) | skip
    refine hK _ _ (fun _ => Cls.mk (HLk.out _ cn)) ?_
    clear hK K cc
    have hWn2 := Lib.hid hWn
    clear hWn
    have cc := cn
    clear cn
    refine wpPlan_altU rfl (fun K hK => ?_) ?_; simp only [List.getD_cons_zero, List.getD_cons_succ]
    · have hsrc2 := (l2.rd.keep cc (by simp)).src Try.underlying25 c2
      rw [HX.out] at hsrc2
      refine wp_app (.tmp 36) (.tmp 40) rfl w.heap.size (.slice (some ⟨k0, 0, none⟩) 0 0) [] rfl o0 cc.size (.slice a2 mx c2) X rfl (by rw [HX.out]; exact hsrc2) (by have := HX.out; simp; omega) (fun v4 w4 o4 c4 n4 => ?_)
      have o4 : OwI w4 w.heap.size v4 X := by simpa using o4
      have cc4 : Ch [] w w4 := cc.transT c4 (fun k hk => .inr (o0.2 k (by simpa using hk)))
      refine hK _ _ (fun _ => Cls.mk (HLk.out _ cc4)) ?_
      clear hK K cc hsrc2
      have cc := cc4
      clear cc4
      refine wpPlan_onlyU rfl (fun K hK => ?_); simp only [List.getD_cons_zero, List.getD_cons_succ]
      go_simp
      obtain ⟨k9, hk9⟩ : ∃ k, (w4).heap.size = k := ⟨_, rfl⟩
      have HK9 := Lib.hid hk9
      obtain ⟨W2, hWn⟩ : ∃ X, (w4).alloc (.cells #[.int .i64 m] 3) = X := ⟨_, rfl⟩
      have HS9 := Lib.hid (show W2.heap.size = k9 + 1 by rw [← hWn, ← hk9]; simp)
      have cn : Ch [] w W2 := by rw [← hWn]; exact cc.alloc _
      have r9 : Rd W2 (some ⟨k9, 0, none⟩) [m] := by rw [← hWn, ← hk9]; exact rd_lit _ [m]
      first | rw [hWn] | (rw [show (w4).alloc _ = W2 from hWn])
      first | (rw [hk0]; clear hk0) | (rw [hk9]; clear hk9) | skip
      refine hK _ _ (fun _ => Cls.mk (HLk.out _ cn)) ?_
      clear hK K cc
      have hWn2 := Lib.hid hWn
      clear hWn
      have cc := cn
      clear cn
      have o4 : OwI W2 w.heap.size v4 X := by rw [← hWn2.out]; exact o4.alloc _
      refine wpPlan_onlyU rfl (fun K hK => ?_); simp only [List.getD_cons_zero, List.getD_cons_succ]
      refine wp_app (.tmp 41) (.tmp 48) rfl w.heap.size v4 X rfl o4 cc.size (.slice (some ⟨k9, 0, none⟩) 1 1) [m] rfl (Rd.src (P := Try.prog) Try.underlying25 1 r9) (by have := HX.out; simp; omega) (fun v10 w10 o10 c10 _ => ?_)
      have cc10 : Ch [] w w10 := cc.transT c10 (fun k hk => .inr (o4.2 k (by simpa using hk)))
      have hl10 := HLk.out _ cc10
      refine hK _ _ (fun _ => Cls.mk hl10) ?_
      clear hK K c10
      obtain ⟨a9, d9, e9, l9⟩ := o10.lsF (S := S) hS
      have hl9 : (X ++ [m]).length = mx + 1 := by simp [HX.out]
      rw [hl9] at e9
      subst e9
      have H9 := Lib.hid hl9
      clear hl9 o10 o4 cc
      iterate 2 (refine wpPlan_pure (fun K hK => ?_); simp only [List.getD_cons_zero, List.getD_cons_succ]; go_simp; refine hK _ ?_; clear hK K)
      have hb9 := hb.keep cc10 (by simp)
      have hbo9 := hbo.keep cc10 (by simp)
      have f9 := hb9.frozen 1
      have p9 := hb9.cell 1
      refine wpPlan_only (fun K hK => ?_)
      simp only [List.getD_cons_zero, List.getD_cons_succ]
      go_simp
      refine hK _ _ (by simp) ?_
      clear hK K f9 p9
      refine wpPlan_done ?_
      have cs : Ch [r] w10 (w10.setCell ⟨r, 1, none⟩ (.slice a9 (mx + 1) d9)) := (Ch.refl [r] w10).setCell (.inl (by simp)) _
      have hb10 : Blk (w10.setCell ⟨r, 1, none⟩ (.slice a9 (mx + 1) d9)) r #[.slice a1 Nr.length c1, .slice a9 (mx + 1) d9] 40 := hb9.set 1 _
      have hbo10 := hbo9.setOther (p := ⟨r, 1, none⟩) (Ne.symm hne) (.slice a9 (mx + 1) d9)
      obtain ⟨W, hW⟩ : ∃ W, w10.setCell ⟨r, 1, none⟩ (.slice a9 (mx + 1) d9) = W := ⟨_, rfl⟩
      rw [hW] at cs hb10 hbo10 ⊢
      have fo := hbo10.frozen 0
      have po := hbo10.cell 0
      have hsr : ∀ z ∈ [r], z ∈ S ∨ w10.heap.size ≤ z := by intro z hz; simp at hz; subst hz; exact .inl hr
      have hso : ∀ z ∈ [o], z ∈ S ∨ W.heap.size ≤ z := by intro z hz; simp at hz; subst hz; exact .inl hoS
      clear hW hSA hS1 hS2 hS3 hl10 hb hbo hb9 hbo9
      go_wp2
      go_ret
      have cs2 : Ch [o] W (W.setCell ⟨o, 0, none⟩ (.slice none 0 0)) := (Ch.refl [o] W).setCell (.inl (by simp)) _
      refine ⟨rfl, ⟨a1, c1, a9, d9, by rw [H9.out]; exact hb10.setOther (p := ⟨o, 0, none⟩) hne _, ((l1.keep cc10 (by simp)).keep cs hsr).keep cs2 hso, (l9.keep cs hsr).keep cs2 hso⟩, ⟨none, 0, d2, e2, hbo10.set 0 _, LsF.nil _ _, ((m2.keep cc10 (by simp)).keep cs hsr).keep cs2 hso⟩, ?_⟩
      exact ((cc10.mono (by simp)).trans (cs.mono (by simp))).trans (cs2.mono (by simp))
    · refine wpPlan_altU rfl (fun K hK => ?_) (by simp [wpPlan]); simp only [List.getD_cons_zero, List.getD_cons_succ]
      go_simp
      obtain ⟨k9, hk9⟩ : ∃ k, (W1).heap.size = k := ⟨_, rfl⟩
      have HK9 := Lib.hid hk9
      obtain ⟨W2, hWn⟩ : ∃ X, (W1).alloc (.cells #[.int .i64 m] 3) = X := ⟨_, rfl⟩
      have HS9 := Lib.hid (show W2.heap.size = k9 + 1 by rw [← hWn, ← hk9]; simp)
      have cn : Ch [] w W2 := by rw [← hWn]; exact cc.alloc _
      have r9 : Rd W2 (some ⟨k9, 0, none⟩) [m] := by rw [← hWn, ← hk9]; exact rd_lit _ [m]
      first | rw [hWn] | (rw [show (W1).alloc _ = W2 from hWn])
      first | (rw [hk0]; clear hk0) | (rw [hk9]; clear hk9) | skip
      refine hK _ _ (fun _ => Cls.mk (HLk.out _ cn)) ?_
      clear hK K cc
      have hWn2 := Lib.hid hWn
      clear hWn
      have cc := cn
      clear cn
      have o0 : OwI W2 w.heap.size (.slice (some ⟨k0, 0, none⟩) 0 0) [] := by rw [← hWn2.out]; exact o0.alloc _
      refine wpPlan_onlyU rfl (fun K hK => ?_); simp only [List.getD_cons_zero, List.getD_cons_succ]
      have hsrc2 := (l2.rd.keep cc (by simp)).src Try.underlying25 c2
      rw [HX.out] at hsrc2
      refine wp_app (.tmp 36) (.tmp 40) rfl w.heap.size (.slice (some ⟨k0, 0, none⟩) 0 0) [] rfl o0 cc.size (.slice a2 mx c2) X rfl (by rw [HX.out]; exact hsrc2) (by have := HX.out; simp; omega) (fun v4 w4 o4 c4 n4 => ?_)
      have o4 : OwI w4 w.heap.size v4 X := by simpa using o4
      have cc4 : Ch [] w w4 := cc.transT c4 (fun k hk => .inr (o0.2 k (by simpa using hk)))
      have r9 := r9.keep c4 (by have := HS0.out; have := HS9.out; have := HK0.out; have := HK9.out; simp [Value.ownBlock]; omega)
      refine hK _ _ (fun _ => Cls.mk (HLk.out _ cc4)) ?_
      clear hK K cc hsrc2
      have cc := cc4
      clear cc4
      refine wpPlan_onlyU rfl (fun K hK => ?_); simp only [List.getD_cons_zero, List.getD_cons_succ]
      refine wp_app (.tmp 41) (.tmp 48) rfl w.heap.size v4 X rfl o4 cc.size (.slice (some ⟨k9, 0, none⟩) 1 1) [m] rfl (Rd.src (P := Try.prog) Try.underlying25 1 r9) (by have := HX.out; simp; omega) (fun v10 w10 o10 c10 _ => ?_)
      have cc10 : Ch [] w w10 := cc.transT c10 (fun k hk => .inr (o4.2 k (by simpa using hk)))
      have hl10 := HLk.out _ cc10
      refine hK _ _ (fun _ => Cls.mk hl10) ?_
      clear hK K c10
      obtain ⟨a9, d9, e9, l9⟩ := o10.lsF (S := S) hS
      have hl9 : (X ++ [m]).length = mx + 1 := by simp [HX.out]
      rw [hl9] at e9
      subst e9
      have H9 := Lib.hid hl9
      clear hl9 o10 o4 cc
      iterate 2 (refine wpPlan_pure (fun K hK => ?_); simp only [List.getD_cons_zero, List.getD_cons_succ]; go_simp; refine hK _ ?_; clear hK K)
      have hb9 := hb.keep cc10 (by simp)
      have hbo9 := hbo.keep cc10 (by simp)
      have f9 := hb9.frozen 1
      have p9 := hb9.cell 1
      refine wpPlan_only (fun K hK => ?_)
      simp only [List.getD_cons_zero, List.getD_cons_succ]
      go_simp
      refine hK _ _ (by simp) ?_
      clear hK K f9 p9
      refine wpPlan_done ?_
      have cs : Ch [r] w10 (w10.setCell ⟨r, 1, none⟩ (.slice a9 (mx + 1) d9)) := (Ch.refl [r] w10).setCell (.inl (by simp)) _
      have hb10 : Blk (w10.setCell ⟨r, 1, none⟩ (.slice a9 (mx + 1) d9)) r #[.slice a1 Nr.length c1, .slice a9 (mx + 1) d9] 40 := hb9.set 1 _
      have hbo10 := hbo9.setOther (p := ⟨r, 1, none⟩) (Ne.symm hne) (.slice a9 (mx + 1) d9)
      obtain ⟨W, hW⟩ : ∃ W, w10.setCell ⟨r, 1, none⟩ (.slice a9 (mx + 1) d9) = W := ⟨_, rfl⟩
      rw [hW] at cs hb10 hbo10 ⊢
      have fo := hbo10.frozen 0
      have po := hbo10.cell 0
      have hsr : ∀ z ∈ [r], z ∈ S ∨ w10.heap.size ≤ z := by intro z hz; simp at hz; subst hz; exact .inl hr
      have hso : ∀ z ∈ [o], z ∈ S ∨ W.heap.size ≤ z := by intro z hz; simp at hz; subst hz; exact .inl hoS
      clear hW hSA hS1 hS2 hS3 hl10 hb hbo hb9 hbo9
      go_wp2
      go_ret
      have cs2 : Ch [o] W (W.setCell ⟨o, 0, none⟩ (.slice none 0 0)) := (Ch.refl [o] W).setCell (.inl (by simp)) _
      refine ⟨rfl, ⟨a1, c1, a9, d9, by rw [H9.out]; exact hb10.setOther (p := ⟨o, 0, none⟩) hne _, ((l1.keep cc10 (by simp)).keep cs hsr).keep cs2 hso, (l9.keep cs hsr).keep cs2 hso⟩, ⟨none, 0, d2, e2, hbo10.set 0 _, LsF.nil _ _, ((m2.keep cc10 (by simp)).keep cs hsr).keep cs2 hso⟩, ?_⟩
      exact ((cc10.mono (by simp)).trans (cs.mono (by simp))).trans (cs2.mono (by simp))
  · refine wpPlan_altU rfl (fun K hK => ?_) (by simp [wpPlan]); simp only [List.getD_cons_zero, List.getD_cons_succ]
    go_simp
    obtain ⟨k9, hk9⟩ : ∃ k, (W0).heap.size = k := ⟨_, rfl⟩
    have HK9 := Lib.hid hk9
    obtain ⟨W1, hWn⟩ : ∃ X, (W0).alloc (.cells #[.int .i64 m] 3) = X := ⟨_, rfl⟩
    have HS9 := Lib.hid (show W1.heap.size = k9 + 1 by rw [← hWn, ← hk9]; simp)
    have cn : Ch [] w W1 := by rw [← hWn]; exact cc.alloc _
    have r9 : Rd W1 (some ⟨k9, 0, none⟩) [m] := by rw [← hWn, ← hk9]; exact rd_lit _ [m]
    first | rw [hWn] | (rw [show (W0).alloc _ = W1 from hWn])
    first | (rw [hk0]; clear hk0) | (rw [hk9]; clear hk9) | skip
    refine hK _ _ (fun _ => Cls.mk (HLk.out _ cn)) ?_
    clear hK K cc
    have hWn2 := Lib.hid hWn
    clear hWn
    have cc := cn
    clear cn
    refine wpPlan_onlyU rfl (fun K hK => ?_); simp only [List.getD_cons_zero, List.getD_cons_succ]
    go_simp
    obtain ⟨k0, hk0⟩ : ∃ k, (W1).heap.size = k := ⟨_, rfl⟩
    have HK0 := Lib.hid hk0
    obtain ⟨W2, hWn⟩ : ∃ X, (W1).alloc (.cells #[] 3) = X := ⟨_, rfl⟩
    have HS0 := Lib.hid (show W2.heap.size = k0 + 1 by rw [← hWn, ← hk0]; simp)
    have cn : Ch [] w W2 := by rw [← hWn]; exact cc.alloc _
    have o0 : OwI W2 w.heap.size (.slice (some ⟨k0, 0, none⟩) 0 0) [] := by rw [← hWn, ← hk0]; exact OwI.empty _ cc.size
    first | rw [hWn] | (rw [show (W1).alloc _ = W2 from hWn])
    first | (rw [hk0]; clear hk0) | (rw [hk9]; clear hk9) | skip
    refine hK _ _ (fun _ => Cls.mk (HLk.out _ cn)) ?_
    clear hK K cc
    have hWn2 := Lib.hid hWn
    clear hWn
    have cc := cn
    clear cn
    have r9 : Rd W2 (some ⟨k9, 0, none⟩) [m] := r9.keep (show Ch [] W1 W2 by rw [← hWn2.out]; exact (Ch.refl [] W1).alloc _) (by simp)
    refine wpPlan_onlyU rfl (fun K hK => ?_); simp only [List.getD_cons_zero, List.getD_cons_succ]
    have hsrc2 := (l2.rd.keep cc (by simp)).src Try.underlying25 c2
    rw [HX.out] at hsrc2
    refine wp_app (.tmp 36) (.tmp 40) rfl w.heap.size (.slice (some ⟨k0, 0, none⟩) 0 0) [] rfl o0 cc.size (.slice a2 mx c2) X rfl (by rw [HX.out]; exact hsrc2) (by have := HX.out; simp; omega) (fun v4 w4 o4 c4 n4 => ?_)
    have o4 : OwI w4 w.heap.size v4 X := by simpa using o4
    have cc4 : Ch [] w w4 := cc.transT c4 (fun k hk => .inr (o0.2 k (by simpa using hk)))
    have r9 := r9.keep c4 (by have := HS0.out; have := HS9.out; have := HK0.out; have := HK9.out; simp [Value.ownBlock]; omega)
    refine hK _ _ (fun _ => Cls.mk (HLk.out _ cc4)) ?_
    clear hK K cc hsrc2
    have cc := cc4
    clear cc4
    refine wpPlan_onlyU rfl (fun K hK => ?_); simp only [List.getD_cons_zero, List.getD_cons_succ]
    refine wp_app (.tmp 41) (.tmp 48) rfl w.heap.size v4 X rfl o4 cc.size (.slice (some ⟨k9, 0, none⟩) 1 1) [m] rfl (Rd.src (P := Try.prog) Try.underlying25 1 r9) (by have := HX.out; simp; omega) (fun v10 w10 o10 c10 _ => ?_)
    have cc10 : Ch [] w w10 := cc.transT c10 (fun k hk => .inr (o4.2 k (by simpa using hk)))
    have hl10 := HLk.out _ cc10
    refine hK _ _ (fun _ => Cls.mk hl10) ?_
    clear hK K c10
    obtain ⟨a9, d9, e9, l9⟩ := o10.lsF (S := S) hS
    have hl9 : (X ++ [m]).length = mx + 1 := by simp [HX.out]
    rw [hl9] at e9
    subst e9
    have H9 := Lib.hid hl9
    clear hl9 o10 o4 cc
    iterate 2 (refine wpPlan_pure (fun K hK => ?_); simp only [List.getD_cons_zero, List.getD_cons_succ]; go_simp; refine hK _ ?_; clear hK K)
    have hb9 := hb.keep cc10 (by simp)
    have hbo9 := hbo.keep cc10 (by simp)
    have f9 := hb9.frozen 1
    have p9 := hb9.cell 1
    refine wpPlan_only (fun K hK => ?_)
    simp only [List.getD_cons_zero, List.getD_cons_succ]
    go_simp
    refine hK _ _ (by simp) ?_
    clear hK K f9 p9
    refine wpPlan_done ?_
    have cs : Ch [r] w10 (w10.setCell ⟨r, 1, none⟩ (.slice a9 (mx + 1) d9)) := (Ch.refl [r] w10).setCell (.inl (by simp)) _
    have hb10 : Blk (w10.setCell ⟨r, 1, none⟩ (.slice a9 (mx + 1) d9)) r #[.slice a1 Nr.length c1, .slice a9 (mx + 1) d9] 40 := hb9.set 1 _
    have hbo10 := hbo9.setOther (p := ⟨r, 1, none⟩) (Ne.symm hne) (.slice a9 (mx + 1) d9)
    obtain ⟨W, hW⟩ : ∃ W, w10.setCell ⟨r, 1, none⟩ (.slice a9 (mx + 1) d9) = W := ⟨_, rfl⟩
    rw [hW] at cs hb10 hbo10 ⊢
    have fo := hbo10.frozen 0
    have po := hbo10.cell 0
    have hsr : ∀ z ∈ [r], z ∈ S ∨ w10.heap.size ≤ z := by intro z hz; simp at hz; subst hz; exact .inl hr
    have hso : ∀ z ∈ [o], z ∈ S ∨ W.heap.size ≤ z := by intro z hz; simp at hz; subst hz; exact .inl hoS
    clear hW hSA hS1 hS2 hS3 hl10 hb hbo hb9 hbo9
    go_wp2
    go_ret
    have cs2 : Ch [o] W (W.setCell ⟨o, 0, none⟩ (.slice none 0 0)) := (Ch.refl [o] W).setCell (.inl (by simp)) _
    refine ⟨rfl, ⟨a1, c1, a9, d9, by rw [H9.out]; exact hb10.setOther (p := ⟨o, 0, none⟩) hne _, ((l1.keep cc10 (by simp)).keep cs hsr).keep cs2 hso, (l9.keep cs hsr).keep cs2 hso⟩, ⟨none, 0, d2, e2, hbo10.set 0 _, LsF.nil _ _, ((m2.keep cc10 (by simp)).keep cs hsr).keep cs2 hso⟩, ?_⟩
    exact ((cc10.mono (by simp)).trans (cs.mono (by simp))).trans (cs2.mono (by simp))
end Go.Proofs.Yteghenfdncgpeaa
