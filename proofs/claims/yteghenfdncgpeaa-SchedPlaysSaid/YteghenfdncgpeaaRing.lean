/-
  Contracts of package ring: a row that goes round, and one that is next. Conditions: none beyond what each theorem names.
-/
import Derived.Test.YteghenfdncgpeaaOwI
import Derived.OpenShut
import Derived.Deep.DeepCutAuto
import Derived.RegionTactic
namespace Go.Proofs.Yteghenfdncgpeaa
open Go.RowKit
def ringCells (l : List Int) (f n : Nat) (nx : Int) (hs : Bool) : Array Value := (l.map (Value.int .i64) ++ [Value.int .i64 f, Value.int .i64 n, Value.int .i64 nx, Value.bool hs]).toArray
/-- b is a ring: the row xs; the next one is nx, if hs. -/
def RingAt (w : World) (b : Nat) (nx : Int) (hs : Bool) (xs : List Int) : Prop :=
  ∃ (l : List Int) (f : Nat), l.length = 256 ∧ f < 256 ∧ xs.length ≤ 256 ∧ (∀ i, i < xs.length → gI l ((f + i) % 256) = gI xs i) ∧ Blk w b (ringCells l f xs.length nx hs) 83
section
variable {w w' : World} {S : List Nat} {b : Nat} {nx : Int} {hs : Bool} {xs : List Int}
theorem RingAt.keep (h : RingAt w b nx hs xs) (hc : Ch S w w') (hb : b ∉ S) : RingAt w' b nx hs xs := by
  obtain ⟨l, f, h1, h2, h3, h4, h5⟩ := h
  exact ⟨l, f, h1, h2, h3, h4, h5.keep hc hb⟩
theorem RingAt.lt (h : RingAt w b nx hs xs) : b < w.heap.size := by
  obtain ⟨l, f, h1, h2, h3, h4, h5⟩ := h
  exact h5.lt
theorem RingAt.le (h : RingAt w b nx hs xs) : xs.length ≤ 256 := by
  obtain ⟨l, f, h1, h2, h3, h4, h5⟩ := h
  exact h3
end
section
variable (l : List Int) (f n : Nat) (nx : Int) (hs : Bool) (h : l.length = 256)
include h
theorem ringCells_f : (ringCells l f n nx hs)[256]? = some (.int .i64 f) := by simp [ringCells, List.getElem?_append_right, h]
theorem ringCells_n : (ringCells l f n nx hs)[257]? = some (.int .i64 n) := by simp [ringCells, List.getElem?_append_right, h]
theorem ringCells_x : (ringCells l f n nx hs)[258]? = some (.int .i64 nx) := by simp [ringCells, List.getElem?_append_right, h]
theorem ringCells_h : (ringCells l f n nx hs)[259]? = some (.bool hs) := by simp [ringCells, List.getElem?_append_right, h]
theorem ringCells_i (i : Nat) (hi : i < 256) : (ringCells l f n nx hs)[i]? = some (.int .i64 (gI l i)) := by
  have : i < l.length := by omega
  simp [ringCells, List.getElem?_append_left, this, gI_at l i this]
theorem ringCells_si (i : Nat) (hi : i < 256) (v : Int) : (ringCells l f n nx hs).setIfInBounds i (.int .i64 v) = ringCells (l.set i v) f n nx hs := by
  simp [ringCells, List.set_append_left, h, hi, List.map_set]
theorem ringCells_sf (v : Nat) : (ringCells l f n nx hs).setIfInBounds 256 (.int .i64 v) = ringCells l v n nx hs := by simp [ringCells, List.set_append_right, h]
theorem ringCells_sn (v : Nat) : (ringCells l f n nx hs).setIfInBounds 257 (.int .i64 v) = ringCells l f v nx hs := by simp [ringCells, List.set_append_right, h]
theorem ringCells_sx (v : Int) : (ringCells l f n nx hs).setIfInBounds 258 (.int .i64 v) = ringCells l f n v hs := by simp [ringCells, List.set_append_right, h]
theorem ringCells_sh (v : Bool) : (ringCells l f n nx hs).setIfInBounds 259 (.bool v) = ringCells l f n nx v := by simp [ringCells, List.set_append_right, h]
end
set_option maxRecDepth 100000 in
theorem ringNew (w : World) : Calls Try.prog 16 #[] w fun e w' => e = .returned (.pointer (some ⟨w.heap.size, 0, none⟩)) ∧ RingAt w' w.heap.size 0 false [] ∧ Ch [] w w' := by
  go_enter Try.func16, Try.ntmps16
  go_wp2
  go_ret
  exact ⟨rfl, ⟨List.replicate 256 0, 0, by simp, by decide, by decide, by simp, Blk.new _ _ _⟩, (Ch.refl _ _).alloc _⟩
theorem ringAt (b f i k : Nat) (w : World) (c : w.cell? ⟨b, 256, none⟩ = some (.int .i64 f)) (hf : f < 256) (hi : i ≤ 256) (hk : k = (f + i) % 256) :
    Calls Try.prog 59 #[.pointer (some ⟨b, 0, none⟩), .int .i64 i] w fun e w' => e = .returned (.pointer (some ⟨b, k, none⟩)) ∧ ∃ nq, w' = w.drewN nq := by
  have e1 : ((f : Int) + (i : Int)) % 256 = (k : Int) := by omega
  have e2 : (0 : Int) ≤ k := by omega
  have e3 : (k : Int) < 256 := by omega
  have e4 : IntKind.i64.wrap ((f : Int) + (i : Int)) = (f : Int) + (i : Int) := IntWalk.i64_in _ (by omega)
  have e5 : Int.tmod ((f : Int) + (i : Int)) 256 = (k : Int) := by rw [Int.tmod_eq_emod_of_nonneg (by omega)]; omega
  have e6 : IntKind.i64.wrap (k : Int) = (k : Int) := IntWalk.i64_in _ (by omega)
  clear hk
  go_enter Try.func59, Try.ntmps59
  go_wp2
  go_quiet (fail)
  go_wp2
  go_ret
  exact ⟨rfl, _, rfl⟩
set_option maxHeartbeats 1000000 in
theorem ringFirst (b : Nat) (nx : Int) (hs : Bool) (x : Int) (t : List Int) (w : World) (h : RingAt w b nx hs (x :: t)) :
    Calls Try.prog 58 #[.pointer (some ⟨b, 0, none⟩)] w fun e w' => e = .returned (.int .i64 x) ∧ RingAt w' b nx hs t ∧ Ch [b] w w' := by
  obtain ⟨l, f, h1, h2, h3, h4, h5⟩ := h
  obtain ⟨n, hn⟩ : ∃ n, t.length = n := ⟨_, rfl⟩
  rw [List.length_cons, hn] at h3 h4 h5
  have cf := (h5.cell 256).trans (ringCells_f l f (n + 1) nx hs h1)
  have hx := h4 0 (by omega)
  rw [Nat.add_zero, Nat.mod_eq_of_lt h2] at hx
  have c0 := (h5.cell f).trans (ringCells_i l f (n + 1) nx hs h1 f h2)
  rw [hx, show gI (x :: t) 0 = x from rfl] at c0
  have H4 := Lib.hid h4
  have HN := Lib.hid hn
  have hA := ringAt b f 0 f w cf h2 (by omega) (by omega)
  clear h4 hn hx
  go_enter Try.func58, Try.ntmps58
  go_wp2_with fail
  refine hA.mono ?_; rintro e w1 ⟨rfl, nq, rfl⟩
  obtain ⟨g, hg⟩ : ∃ g : Nat, (f + 1) % 256 = g := ⟨_, rfl⟩
  have e1 : ((f : Int) + 1) % 256 = (g : Int) := by omega
  have e4 : IntKind.i64.wrap ((f : Int) + 1) = (f : Int) + 1 := IntWalk.i64_in _ (by omega)
  have e5 : Int.tmod ((f : Int) + 1) 256 = (g : Int) := by rw [Int.tmod_eq_emod_of_nonneg (by omega)]; omega
  have e6 : IntKind.i64.wrap (g : Int) = (g : Int) := IntWalk.i64_in _ (by omega)
  have HG := Lib.hid hg
  clear hg hA cf
  go_upto_region 2 with fail
  refine wp_named fun W hW => ?_
  have g5 : Blk W b (ringCells l f (n + 1) nx hs) 83 := by rw [hW]; exact h5.drewN nq
  have hc : Ch [b] w W := by rw [hW]; exact (Ch.refl _ _).drewN nq
  clear hW c0
  have k1 := (g5.cell 256).trans (ringCells_f l f (n + 1) nx hs h1)
  have k2 := (g5.cell 257).trans (ringCells_n l f (n + 1) nx hs h1)
  have q1 := g5.frozen 256
  have q2 := g5.frozen 257
  go_region
  go_wp2
  go_ret
  refine ⟨rfl, ⟨l, g, h1, by have := HG.out; omega, by rw [HN.out]; omega, ?_, ?_⟩, ((hc.setCell (.inl (by simp)) _).setCell (.inl (by simp)) _).drew⟩
  · intro i hi
    have := H4.out (i + 1) (by rw [HN.out] at hi; omega)
    rw [show (f + (i + 1)) % 256 = (g + i) % 256 by have := HG.out; omega] at this
    rw [this]
    simp [gI]
  · have := (g5.set 256 (.int .i64 g)).set 257 (.int .i64 n)
    rw [ringCells_sf l f _ nx hs h1, ringCells_sn l g _ nx hs h1] at this
    rw [HN.out]
    exact this.drew
/-- The row behind a put at its end; what has no room. -/
def ringRow (xs : List Int) (g : Int) : List Int := if xs.length < 256 then xs ++ [g] else xs.drop 128
def ringOver (xs : List Int) (g : Int) : List Int := if xs.length < 256 then [] else xs.take 128 ++ [g]
set_option maxRecDepth 100000 in
theorem ringBehindRoom (b : Nat) (nx : Int) (hs : Bool) (xs : List Int) (g : Int) (w : World) (h : RingAt w b nx hs xs) (hl : xs.length < 256) :
    Calls Try.prog 57 #[.pointer (some ⟨b, 0, none⟩), .int .i64 g] w fun e w' => e = .returned (.slice none 0 0) ∧ RingAt w' b nx hs (xs ++ [g]) ∧ Ch [b] w w' := by
  obtain ⟨l, f, h1, h2, h3, h4, h5⟩ := h
  obtain ⟨n, hn⟩ : ∃ n, xs.length = n := ⟨_, rfl⟩
  rw [hn] at h3 h4 h5 hl
  have cf := (h5.cell 256).trans (ringCells_f l f n nx hs h1)
  have cn := (h5.cell 257).trans (ringCells_n l f n nx hs h1)
  obtain ⟨k, hk⟩ : ∃ k : Nat, k = (f + n) % 256 := ⟨_, rfl⟩
  have hk2 : k < 256 := by omega
  have c0 := (h5.cell k).trans (ringCells_i l f n nx hs h1 k hk2)
  have H4 := Lib.hid h4
  have HN := Lib.hid hn
  have hA := ringAt b f n k w cf h2 (by omega) hk
  have HK := Lib.hid hk
  have qk := h5.frozen k
  clear h4 hn hk
  go_enter Try.func57, Try.ntmps57
  go_wp2_with fail
  refine hA.mono ?_; rintro e w1 ⟨rfl, nq, rfl⟩
  clear hA cf
  go_upto_region 3 with fail
  refine wp_named fun W hW => ?_
  have g5 : Blk W b (ringCells (l.set k g) f n nx hs) 83 := by
    rw [hW, ← ringCells_si l f n nx hs h1 k hk2]
    exact (h5.drewN nq).set k (.int .i64 g)
  have hc : Ch [b] w W := by rw [hW]; exact ((Ch.refl [b] _).drewN nq).setCell (.inl (by simp)) _
  have h1' : (l.set k g).length = 256 := by simpa using h1
  clear hW c0 qk cn
  have k2 := (g5.cell 257).trans (ringCells_n _ f n nx hs h1')
  have q2 := g5.frozen 257
  go_wp2
  go_ret
  refine ⟨rfl, ⟨l.set k g, f, h1', h2, by rw [List.length_append, HN.out]; simp; omega, ?_, ?_⟩, hc.setCell (.inl (by simp)) _⟩
  · intro i hi
    rw [List.length_append, HN.out, List.length_singleton] at hi
    by_cases hin : i < n
    · have e := H4.out i hin
      rw [show gI (xs ++ [g]) i = gI xs i by simp [gI, List.getD_eq_getElem?_getD, List.getElem?_append_left, HN.out, hin], ← e]
      have hne : k ≠ (f + i) % 256 := by have := HK.out; omega
      simp [gI, List.getD_eq_getElem?_getD, List.getElem?_set_ne hne]
    · obtain rfl : i = n := by omega
      rw [← HK.out, show gI (xs ++ [g]) i = g by simp [gI, List.getD_eq_getElem?_getD, ← HN.out]]
      simp [gI, List.getD_eq_getElem?_getD, h1, hk2]
  · have := g5.set 257 (.int .i64 ((n : Int) + 1))
    rw [show ((n : Int) + 1) = ((n + 1 : Nat) : Int) by omega, ringCells_sn _ f n nx hs h1' (n + 1)] at this
    rw [List.length_append, HN.out]
    exact this
set_option maxRecDepth 100000 in
theorem ringBehindFull (b : Nat) (nx : Int) (hs : Bool) (xs : List Int) (g : Int) (w : World) (h : RingAt w b nx hs xs) (hl : xs.length = 256) :
    Calls Try.prog 57 #[.pointer (some ⟨b, 0, none⟩), .int .i64 g] w fun e w' => ∃ v', e = .returned v' ∧ OwI w' w.heap.size v' (xs.take 128 ++ [g]) ∧ RingAt w' b nx hs (xs.drop 128) ∧ Ch [b] w w' := by
  have h' := h
  obtain ⟨l, f, h1, h2, h3, h4, h5⟩ := h
  rw [hl] at h5
  have cn := (h5.cell 257).trans (ringCells_n l f 256 nx hs h1)
  clear h4 h5 h3 h1 h2
  have HL := Lib.hid hl
  obtain ⟨B, hB⟩ : ∃ B, w.heap.size = B := ⟨_, rfl⟩
  have hbB : b < B := by rw [← hB]; exact h'.lt
  rw [hB]
  have HB := Lib.hid hB
  clear hl hB
  go_enter Try.func57, Try.ntmps57
  go_wp2_with fail
  go_loopw [5, 26] (fun s5 s26 wr => ∃ k : Nat, s26 = .int .i64 k ∧ k ≤ 128 ∧ OwI wr B s5 (xs.take k) ∧ RingAt wr b nx hs (xs.drop k) ∧ Ch [b] w wr) (fun _ s26 _ => 128 - (intOf s26).toNat)
  case atStart => exact ⟨0, rfl, by omega, OwI.nil _ _, h', Ch.refl _ _⟩
  case round =>
    clear h'
    obtain ⟨k, rfl, hk, hO, hR, hc⟩ := hrel
    have hsz := hc.size
    by_cases hlt : k < 128
    · have hd : xs.drop k = gI xs k :: xs.drop (k + 1) := by
        rw [gI_at xs k (by rw [HL.out]; omega)]
        exact List.drop_eq_getElem_cons _
      rw [hd] at hR
      have htk : xs.take (k + 1) = xs.take k ++ [gI xs k] := by
        rw [gI_at xs k (by rw [HL.out]; omega)]
        exact List.take_succ_eq_append_getElem _
      have HTK := Lib.hid htk
      clear hd htk
      obtain ⟨u, hu⟩ : ∃ u, gI xs k = u := ⟨_, rfl⟩
      rw [hu] at hR
      have HU := Lib.hid hu
      clear hu
      go_wp2_with fail
      refine (ringFirst b nx hs u _ _ hR).mono ?_; rintro e w1 ⟨rfl, hR1, c1⟩
      have hO1 := (hO.keepLt c1 (by intro q hq; simp at hq; omega)).alloc (.cells #[.int .i64 u] 3)
      have hsz1 := c1.size
      have hBw : w.heap.size = B := HB.out
      have hBs : B ≤ w1.heap.size := by omega
      clear hBw
      go_wp2_with (at_builtin; refine wpList_app rfl (.tmp 28) (.tmp 31) rfl B u5 (xs.take k) rfl hO1 (by simp; omega) _ [u] rfl (srcOne _ u) (by simp; omega) ?_)
      intro v' w2 hv' c2 _
      go_wp2
      go_roundw
      case rel =>
        refine ⟨k + 1, by go_num, by omega, by rw [HTK.out, HU.out]; exact hv', (hR1.keep ((Ch.refl [] w1).alloc _) (by simp)).keep c2 (fun hq => by have := hO.2 b (by simpa using hq); omega), ((hc.trans c1).alloc _).transT c2 (by intro q hq; have := hO.2 q (by simpa using hq); have := HB.out; exact .inr (by omega))⟩
      case measure => simp [intOf]; omega
    · obtain rfl : k = 128 := by omega
      have hBw : w.heap.size = B := HB.out
      have hBs : B ≤ wr.heap.size := by omega
      clear hBw hlt
      have hO1 := hO.alloc (.cells #[.int .i64 g] 3)
      go_wp2_with (at_builtin; refine wpList_app rfl (.tmp 34) (.tmp 36) rfl B u5 (xs.take 128) rfl hO1 (by simp; omega) _ [g] rfl (srcOne _ g) (by simp; omega) ?_)
      intro v' w2 hv' c2 _
      go_wp2
      go_ret
      refine ⟨v', rfl, hv', (hR.keep ((Ch.refl [] wr).alloc _) (by simp)).keep c2 (fun hq => by have := hO.2 b (by simpa using hq); omega), (hc.alloc _).transT c2 (by intro q hq; have := hO.2 q (by simpa using hq); have := HB.out; exact .inr (by omega))⟩
theorem ringBehind (b : Nat) (nx : Int) (hs : Bool) (xs : List Int) (g : Int) (w : World) (h : RingAt w b nx hs xs) :
    Calls Try.prog 57 #[.pointer (some ⟨b, 0, none⟩), .int .i64 g] w fun e w' => ∃ v', e = .returned v' ∧ OwI w' w.heap.size v' (ringOver xs g) ∧ RingAt w' b nx hs (ringRow xs g) ∧ Ch [b] w w' := by
  unfold ringOver ringRow
  by_cases hl : xs.length < 256
  · rw [if_pos hl, if_pos hl]
    exact (ringBehindRoom b nx hs xs g w h hl).mono fun e w' ⟨h1, h2, h3⟩ => ⟨_, h1, OwI.nil _ _, h2, h3⟩
  · rw [if_neg hl, if_neg hl]
    exact ringBehindFull b nx hs xs g w h (by have := h.le; omega)
end Go.Proofs.Yteghenfdncgpeaa
