/-
  The walk of the statement ScanApart: the law returns true at every input. Conditions: none beyond how the arguments are read.
-/
import Derived.Test.YtebibdoekcophaaScanTold
import Derived.Test.YtebibdoekcophaaInts
import Derived.Test.YtebibdoekcophaaOwI
import Derived.Test.YtebibdoekcophaaArgs
import Derived.Test.YtebibdoekcophaaPlan
namespace Go.Proofs.Ytebibdoekcophaa
open Go.RowKit
/-- What the closure 'load' of ScanApart finds: ka, kb: the blocks of the two lists; okb: the block of 'bad'; another scan bt beside. -/
def ApMem (ka kb okb : Nat) (a0 : Option Addr) (A : List Int) (ca : Nat) (b0 : Option Addr) (B : List Int) (cb : Nat) (bt : Nat) (ad : Int) (n i : Nat) (w0 w : World) : Prop :=
  Blk w ka #[.slice a0 A.length ca] 22 ∧ Blk w kb #[.slice b0 B.length cb] 22 ∧ Blk w okb #[.bool false] 4 ∧ ScanAt w bt ad n i ∧ ∀ q, q < w0.heap.size → w.heap[q]? = w0.heap[q]?
theorem Rd.same {w w' : World} {a : Option Addr} {xs : List Int} (h : Rd w a xs) (hb : ∀ q, q < w.heap.size → w'.heap[q]? = w.heap[q]?) : Rd w' a xs := by
  rcases h with h | ⟨b, o, rfl, hc⟩
  · exact .inl h
  · refine .inr ⟨b, o, rfl, fun i hi => ?_⟩
    have h1 := hc i hi
    rw [World.cell?_of_block (w := w) (hb b (World.block_lt_of_cell? w ⟨b, o + i, none⟩ h1))]
    exact h1
section
variable {ka kb okb bt n i : Nat} {a0 b0 : Option Addr} {A B : List Int} {ca cb : Nat} {ad : Int} {w0 w w' : World}
theorem ApMem.keep {S : List Nat} (h : ApMem ka kb okb a0 A ca b0 B cb bt ad n i w0 w) (hc : Ch S w w') (hS : ka ∉ S ∧ kb ∉ S ∧ okb ∉ S ∧ bt ∉ S) (h0 : ∀ k ∈ S, w0.heap.size ≤ k) (hw : w0.heap.size ≤ w.heap.size) : ApMem ka kb okb a0 A ca b0 B cb bt ad n i w0 w' :=
  ⟨h.1.keep hc hS.1, h.2.1.keep hc hS.2.1, h.2.2.1.keep hc hS.2.2.1, Blk.keep h.2.2.2.1 hc hS.2.2.2, fun q hq => (hc.block q (by omega) (fun hm => by have := h0 q hm; omega)).trans (h.2.2.2.2 q hq)⟩
end
theorem apLoadA (ka kb okb bt n i : Nat) (a0 : Option Addr) (A : List Int) (ca : Nat) (b0 : Option Addr) (B : List Int) (cb : Nat) (ad : Int) (w0 w : World) (k : Nat) (hk : k < A.length) (hl : A.length ≤ 300) (hr : Rd w0 a0 A)
    (h : ApMem ka kb okb a0 A ca b0 B cb bt ad n i w0 w) :
    Calls Try.prog 23 #[.int .i64 1000, .int .i64 k, .pointer (some ⟨ka, 0, none⟩), .pointer (some ⟨kb, 0, none⟩), .pointer (some ⟨okb, 0, none⟩)] w fun e w' => e = .returned (.int .i64 (gI A k)) ∧ w' = w := by
  obtain ⟨h1, h2, h3, h4, h5⟩ := h
  obtain ⟨b, o, rfl, hc⟩ := (hr.same h5).at hk
  have d0 := hc k hk
  have c1 := h1.cell 0
  obtain ⟨m, hm⟩ : ∃ m, A.length = m := ⟨_, rfl⟩
  obtain ⟨u, hu⟩ : ∃ u, gI A k = u := ⟨_, rfl⟩
  rw [hm] at c1 hk
  rw [hu] at d0 ⊢
  have k0 : (0 : Int) ≤ k := by omega
  have k1 : (k : Int) < m := by omega
  clear hc h1 h2 h3 h4 h5 hm hu hr
  go_enter Try.func23, Try.ntmps23
  go_wp2
  go_ret
  exact ⟨rfl, rfl⟩
theorem apLoadB (ka kb okb bt n i : Nat) (a0 : Option Addr) (A : List Int) (ca : Nat) (b0 : Option Addr) (B : List Int) (cb : Nat) (ad : Int) (w0 w : World) (k : Nat) (hk : k < B.length) (hl : B.length ≤ 300) (hr : Rd w0 b0 B)
    (h : ApMem ka kb okb a0 A ca b0 B cb bt ad n i w0 w) :
    Calls Try.prog 23 #[.int .i64 5000, .int .i64 k, .pointer (some ⟨ka, 0, none⟩), .pointer (some ⟨kb, 0, none⟩), .pointer (some ⟨okb, 0, none⟩)] w fun e w' => e = .returned (.int .i64 (gI B k)) ∧ w' = w := by
  obtain ⟨h1, h2, h3, h4, h5⟩ := h
  obtain ⟨b, o, rfl, hc⟩ := (hr.same h5).at hk
  have d0 := hc k hk
  have c1 := h2.cell 0
  obtain ⟨m, hm⟩ : ∃ m, B.length = m := ⟨_, rfl⟩
  obtain ⟨u, hu⟩ : ∃ u, gI B k = u := ⟨_, rfl⟩
  rw [hm] at c1 hk
  rw [hu] at d0 ⊢
  have k0 : (0 : Int) ≤ k := by omega
  have k1 : (k : Int) < m := by omega
  clear hc h1 h2 h3 h4 h5 hm hu hr
  go_enter Try.func23, Try.ntmps23
  go_wp2
  go_ret
  exact ⟨rfl, rfl⟩
/-- All that are not 0. -/
def nzL (A : List Int) : List Int := nz (fun j => gI A j) A.length
theorem apAll (a : Option Addr) (A : List Int) (c : Nat) (w : World) (hr : Rd w a A) (hl : A.length ≤ 300) :
    Calls Try.prog 24 #[.slice a A.length c] w fun e w' => ∃ v, e = .returned v ∧ OwI w' w.heap.size v (nzL A) ∧ Ch [] w w' := by
  obtain ⟨n, hn⟩ : ∃ n, A.length = n := ⟨_, rfl⟩
  have HN := Lib.hid hn
  rw [hn] at hl ⊢
  have hc0 : Ch [] w w := Ch.refl _ _
  clear hn
  go_enter Try.func24, Try.ntmps24
  go_wp2_with fail
  go_loopw [3, 4] (fun s3 s4 wr => ∃ k : Nat, s4 = .int .i64 k ∧ k ≤ n ∧ OwI wr w.heap.size s3 (nz (fun j => gI A j) k) ∧ Ch [] w wr) (fun _ s4 _ => n - (intOf s4).toNat)
  case atStart => exact ⟨0, rfl, by omega, OwI.nil _ _, hc0⟩
  case round =>
    clear hc0
    obtain ⟨k, rfl, hk, hO, hc⟩ := hrel
    by_cases hkn : k < n
    · obtain ⟨b, o, rfl, hcell⟩ := (hr.keep hc (by simp)).at (i := k) (by rw [HN.out]; exact hkn)
      have d0 := hcell k (by rw [HN.out]; exact hkn)
      have k0 : (0 : Int) ≤ k := by omega
      have k1 : (k : Int) < n := by omega
      have hz0 := nz_zero (fun j => gI A j) k
      have hz1 := nz_one (fun j => gI A j) k
      have hle := nz_le (fun j => gI A j) k
      obtain ⟨u, hu⟩ : ∃ u, gI A k = u := ⟨_, rfl⟩
      rw [hu] at d0
      simp only [hu] at hz0 hz1
      obtain ⟨Z, hZ⟩ : ∃ Z, nz (fun j => gI A j) k = Z := ⟨_, rfl⟩
      rw [hZ] at hO hz0 hz1 hle
      have HZ0 := Lib.hid hz0
      have HZ1 := Lib.hid hz1
      clear hcell hu hZ hz0 hz1
      by_cases hu0 : u = 0
      · have u1 : (u != 0) = false := by simp [hu0]
        have HU := Lib.hid hu0
        clear hu0
        go_wp2_with fail
        go_roundw
        case rel => exact ⟨k + 1, by go_num, by omega, by rw [HZ0.out HU.out]; exact hO, hc⟩
        case measure => simp [intOf]; omega
      · have u1 : (u != 0) = true := by simp [hu0]
        have HU := Lib.hid hu0
        obtain ⟨x3, y3, rfl, _, _, _⟩ := hO.form
        have hO1 := hO.alloc (.cells #[.int .i64 u] 3)
        clear hu0
        go_wp2_with (at_builtin; refine wpList_app rfl (.tmp 16) (.tmp 21) rfl w.heap.size (.slice x3 Z.length y3) Z rfl hO1 (by have := hc.size; simp; omega) _ [u] rfl (srcOne _ u) (by simp; omega) ?_)
        intro v' w2 o2 c2 _
        have hv := hO.2
        go_wp2
        go_roundw
        case rel => exact ⟨k + 1, by go_num, by omega, by rw [HZ1.out HU.out]; exact o2, (hc.alloc _).transT c2 (fun z hz => .inr (hv z (by simpa using hz)))⟩
        case measure => simp [intOf]; omega
    · obtain rfl : k = n := by omega
      go_wp2
      go_ret
      exact ⟨_, rfl, by unfold nzL; rw [HN.out]; exact hO, hc⟩
/-- How many steps a scan still wants. -/
def remS (n i : Nat) : Nat := (n - i + 15) / 16
theorem remS_step (n i : Nat) (h : i < n) : remS n (chunkEnd n i) + 1 = remS n i := by unfold remS chunkEnd; split <;> omega
theorem remS_same (n : Nat) : chunkEnd n n = n := by unfold chunkEnd; split <;> omega
theorem remS_le (n i : Nat) (h : i ≤ n) : remS n (chunkEnd n i) ≤ remS n i := by
  by_cases hi : i < n
  · have := remS_step n i hi; omega
  · obtain rfl : i = n := by omega
    rw [remS_same]; exact Nat.le_refl _
theorem nz_addA (v : Nat → Int) (i n : Nat) : nz v (i + n) = nz v i ++ nz (fun j => v (i + j)) n := by
  induction n with
  | zero => simp [nz]
  | succ n ih =>
    rw [← Nat.add_assoc]
    by_cases h : v (i + n) = 0
    · rw [nz_zero _ _ h, nz_zero (fun j => v (i + j)) n h, ih]
    · rw [nz_one _ _ h, nz_one (fun j => v (i + j)) n h, ih, List.append_assoc]
/-- Where the two scans stand. -/
structure ApSt (w0 wr : World) (ka kb okb bs bt T : Nat) (a0 : Option Addr) (A : List Int) (ca : Nat) (b0 : Option Addr) (B : List Int) (cb : Nat) (x y : Value) (ps pt : Nat) : Prop where
  mem : ApMem ka kb okb a0 A ca b0 B cb bt 5000 B.length pt w0 wr
  sc : ScanAt wr bs 1000 A.length ps
  ox : OwI wr T x (nz (fun j => gI A j) ps)
  oy : OwI wr T y (nz (fun j => gI B j) pt)
  ne : ∀ k, x.ownBlock = some k → y.ownBlock ≠ some k
  ch : Ch [] w0 wr
  hp : ps ≤ A.length ∧ pt ≤ B.length ∧ A.length ≤ 100 ∧ B.length ≤ 100
  lt : ka < T ∧ kb < T ∧ okb < T ∧ bs < T ∧ bt < T ∧ T ≤ wr.heap.size
  ge : w0.heap.size ≤ bs ∧ w0.heap.size ≤ bt ∧ w0.heap.size ≤ T
  di : bs ≠ ka ∧ bs ≠ kb ∧ bs ≠ okb ∧ bs ≠ bt ∧ bt ≠ ka ∧ bt ≠ kb ∧ bt ≠ okb
section
variable {w0 wr w2 w3 : World} {ka kb okb bs bt T ps pt : Nat} {a0 b0 : Option Addr} {A B L : List Int} {ca cb : Nat} {x y x' : Value}
theorem ApSt.still (h : ApSt w0 wr ka kb okb bs bt T a0 A ca b0 B cb x y ps pt) (hc : Ch [] wr w2) : ApSt w0 w2 ka kb okb bs bt T a0 A ca b0 B cb x y ps pt :=
  ⟨h.mem.keep hc (by simp) (by simp) h.ch.size, Blk.keep h.sc hc (by simp), h.ox.keepLt hc (by simp), h.oy.keepLt hc (by simp), h.ne, h.ch.trans hc, h.hp, ⟨h.lt.1, h.lt.2.1, h.lt.2.2.1, h.lt.2.2.2.1, h.lt.2.2.2.2.1, Nat.le_trans h.lt.2.2.2.2.2 hc.size⟩, h.ge, h.di⟩
theorem apStepS (h : ApSt w0 wr ka kb okb bs bt T a0 A ca b0 B cb x y ps pt) (hr : Rd w0 a0 A) :
    Calls Try.prog 16 #[.pointer (some ⟨bs, 0, none⟩), .func (.func 23) #[] #[.pointer (some ⟨ka, 0, none⟩), .pointer (some ⟨kb, 0, none⟩), .pointer (some ⟨okb, 0, none⟩)]] wr fun e w' =>
      ∃ v' L, e = .returned v' ∧ Own w' 3 1 v' L.length (L.map (Value.int .i64)) ∧ nz (fun j => gI A j) ps ++ L = nz (fun j => gI A j) (chunkEnd A.length ps) ∧ ScanAt w' bs 1000 A.length (chunkEnd A.length ps) ∧ ApMem ka kb okb a0 A ca b0 B cb bt 5000 B.length pt w0 w' ∧ Ch [bs] wr w' ∧ L.length ≤ 16 := by
  obtain ⟨l1, l2, l3, l4, l5, l6⟩ := h.lt
  obtain ⟨d1, d2, d3, d4, d5, d6, d7⟩ := h.di
  have hs0 := h.ch.size
  refine (scanStep 23 [.pointer (some ⟨ka, 0, none⟩), .pointer (some ⟨kb, 0, none⟩), .pointer (some ⟨okb, 0, none⟩)] bs 1000 A.length ps (fun k => gI A k) (fun _ w => ApMem ka kb okb a0 A ca b0 B cb bt 5000 B.length pt w0 w) [] wr (fun _ _ => by kernel_rfl) h.sc h.hp.1 (by have := h.hp; omega) (by simp) (by simp) h.mem ?_ ?_).mono ?_
  · rintro k w1 w2 ⟨g1, g2, g3, g4, g5⟩ hq
    have hbs := h.ge.1
    exact ⟨(hq _ (by omega) (Ne.symm d1)).trans g1, (hq _ (by omega) (Ne.symm d2)).trans g2, (hq _ (by omega) (Ne.symm d3)).trans g3, (hq _ (by omega) (Ne.symm d4)).trans g4, fun q hq' => (hq _ (by omega) (by omega)).trans (g5 q hq')⟩
  · intro k w1 hk hk' hm
    have := (chunkEnd_le A.length ps h.hp.1).2
    refine (apLoadA ka kb okb bt B.length pt a0 A ca b0 B cb 5000 w0 w1 k (by omega) (by have := h.hp; omega) hr hm).mono ?_
    rintro e w' ⟨rfl, rfl⟩
    exact ⟨rfl, hm, Ch.refl _ _⟩
  · rintro e w' ⟨v', rfl, ho, hs, hm, hc⟩
    obtain ⟨q1, q2⟩ := chunkEnd_le A.length ps h.hp.1
    refine ⟨v', _, rfl, ho, ?_, hs, hm, hc, ?_⟩
    · rw [← nz_addA, show ps + (chunkEnd A.length ps - ps) = chunkEnd A.length ps by omega]
    · have := nz_le (fun j => gI A (ps + j)) (chunkEnd A.length ps - ps)
      have : chunkEnd A.length ps ≤ ps + 16 := by unfold chunkEnd; split <;> omega
      omega
theorem apStepT (h : ApSt w0 wr ka kb okb bs bt T a0 A ca b0 B cb x y ps pt) (hr : Rd w0 b0 B) :
    Calls Try.prog 16 #[.pointer (some ⟨bt, 0, none⟩), .func (.func 23) #[] #[.pointer (some ⟨ka, 0, none⟩), .pointer (some ⟨kb, 0, none⟩), .pointer (some ⟨okb, 0, none⟩)]] wr fun e w' =>
      ∃ v' L, e = .returned v' ∧ Own w' 3 1 v' L.length (L.map (Value.int .i64)) ∧ nz (fun j => gI B j) pt ++ L = nz (fun j => gI B j) (chunkEnd B.length pt) ∧ ScanAt w' bs 1000 A.length ps ∧ ApMem ka kb okb a0 A ca b0 B cb bt 5000 B.length (chunkEnd B.length pt) w0 w' ∧ Ch [bt] wr w' ∧ L.length ≤ 16 := by
  obtain ⟨l1, l2, l3, l4, l5, l6⟩ := h.lt
  obtain ⟨d1, d2, d3, d4, d5, d6, d7⟩ := h.di
  have hs0 := h.ch.size
  obtain ⟨g1, g2, g3, g4, g5⟩ := h.mem
  refine (scanStep 23 [.pointer (some ⟨ka, 0, none⟩), .pointer (some ⟨kb, 0, none⟩), .pointer (some ⟨okb, 0, none⟩)] bt 5000 B.length pt (fun k => gI B k) (fun _ w => ApMem ka kb okb a0 A ca b0 B cb bs 1000 A.length ps w0 w) [] wr (fun _ _ => by kernel_rfl) g4 h.hp.2.1 (by have := h.hp; omega) (by simp) (by simp) ⟨g1, g2, g3, h.sc, g5⟩ ?_ ?_).mono ?_
  · rintro k w1 w2 ⟨g1, g2, g3, g4, g5⟩ hq
    have hbt := h.ge.2.1
    exact ⟨(hq _ (by omega) (Ne.symm d5)).trans g1, (hq _ (by omega) (Ne.symm d6)).trans g2, (hq _ (by omega) (Ne.symm d7)).trans g3, (hq _ (by omega) d4).trans g4, fun q hq' => (hq _ (by omega) (by omega)).trans (g5 q hq')⟩
  · intro k w1 hk hk' hm
    have := (chunkEnd_le B.length pt h.hp.2.1).2
    refine (apLoadB ka kb okb bs A.length ps a0 A ca b0 B cb 1000 w0 w1 k (by omega) (by have := h.hp; omega) hr hm).mono ?_
    rintro e w' ⟨rfl, rfl⟩
    exact ⟨rfl, hm, Ch.refl _ _⟩
  · rintro e w' ⟨v', rfl, ho, hs, hm, hc⟩
    obtain ⟨q1, q2⟩ := chunkEnd_le B.length pt h.hp.2.1
    refine ⟨v', _, rfl, ho, ?_, hm.2.2.2.1, ⟨hm.1, hm.2.1, hm.2.2.1, hs, hm.2.2.2.2⟩, hc, ?_⟩
    · rw [← nz_addA, show pt + (chunkEnd B.length pt - pt) = chunkEnd B.length pt by omega]
    · have := nz_le (fun j => gI B (pt + j)) (chunkEnd B.length pt - pt)
      have : chunkEnd B.length pt ≤ pt + 16 := by unfold chunkEnd; split <;> omega
      omega
/-- Behind s's step and the append to x. -/
theorem ApSt.putX (h : ApSt w0 wr ka kb okb bs bt T a0 A ca b0 B cb x y ps pt) (hs : ScanAt w2 bs 1000 A.length (chunkEnd A.length ps)) (hm : ApMem ka kb okb a0 A ca b0 B cb bt 5000 B.length pt w0 w2) (hc : Ch [bs] wr w2)
    (ho : OwI w3 T x' (nz (fun j => gI A j) (chunkEnd A.length ps))) (hc3 : Ch x.ownBlock.toList w2 w3) (hn : NewAt w2 x x') : ApSt w0 w3 ka kb okb bs bt T a0 A ca b0 B cb x' y (chunkEnd A.length ps) pt := by
  obtain ⟨l1, l2, l3, l4, l5, l6⟩ := h.lt
  have hx := h.ox.2
  have hxT : ∀ k ∈ x.ownBlock.toList, T ≤ k := fun k hk => hx k (by simpa using hk)
  have hge := h.ge
  have hs2 := hc.size
  have c02 : Ch [] w0 w2 := h.ch.transT hc (by intro k hk; simp at hk; subst hk; exact .inr hge.1)
  have hyl := h.oy.lt
  refine ⟨hm.keep hc3 ⟨fun hk => ?_, fun hk => ?_, fun hk => ?_, fun hk => ?_⟩ (fun k hk => by have := hxT k hk; omega) c02.size, Blk.keep hs hc3 (fun hk => ?_), ho, (h.oy.keepLt hc (by intro k hk; simp at hk; omega)).keep hc3 (fun k hk he => h.ne k (by simpa using hk) he), ?_, c02.transT hc3 (fun k hk => .inr (by have := hxT k hk; omega)), ⟨(chunkEnd_le _ _ h.hp.1).2, h.hp.2⟩, ⟨l1, l2, l3, l4, l5, by have := hc3.size; omega⟩, h.ge, h.di⟩
  · have := hxT _ hk; omega
  · have := hxT _ hk; omega
  · have := hxT _ hk; omega
  · have := hxT _ hk; omega
  · have := hxT _ hk; omega
  · intro k hk he
    rcases hn with h1 | h1
    · exact h.ne k (by rw [← h1]; exact hk) he
    · have := h1 k hk; have := hyl k he; omega
/-- Behind t's step and the append to y. -/
theorem ApSt.putY (h : ApSt w0 wr ka kb okb bs bt T a0 A ca b0 B cb x y ps pt) (hs : ScanAt w2 bs 1000 A.length ps) (hm : ApMem ka kb okb a0 A ca b0 B cb bt 5000 B.length (chunkEnd B.length pt) w0 w2) (hc : Ch [bt] wr w2)
    (ho : OwI w3 T x' (nz (fun j => gI B j) (chunkEnd B.length pt))) (hc3 : Ch y.ownBlock.toList w2 w3) (hn : NewAt w2 y x') : ApSt w0 w3 ka kb okb bs bt T a0 A ca b0 B cb x x' ps (chunkEnd B.length pt) := by
  obtain ⟨l1, l2, l3, l4, l5, l6⟩ := h.lt
  have hx := h.oy.2
  have hxT : ∀ k ∈ y.ownBlock.toList, T ≤ k := fun k hk => hx k (by simpa using hk)
  have hge := h.ge
  have hs2 := hc.size
  have c02 : Ch [] w0 w2 := h.ch.transT hc (by intro k hk; simp at hk; subst hk; exact .inr hge.2.1)
  have hyl := h.ox.lt
  refine ⟨hm.keep hc3 ⟨fun hk => ?_, fun hk => ?_, fun hk => ?_, fun hk => ?_⟩ (fun k hk => by have := hxT k hk; omega) c02.size, Blk.keep hs hc3 (fun hk => ?_), (h.ox.keepLt hc (by intro k hk; simp at hk; omega)).keep hc3 (fun k hk he => h.ne k he (by simpa using hk)), ho, ?_, c02.transT hc3 (fun k hk => .inr (by have := hxT k hk; omega)), ⟨h.hp.1, (chunkEnd_le _ _ h.hp.2.1).2, h.hp.2.2⟩, ⟨l1, l2, l3, l4, l5, by have := hc3.size; omega⟩, h.ge, h.di⟩
  · have := hxT _ hk; omega
  · have := hxT _ hk; omega
  · have := hxT _ hk; omega
  · have := hxT _ hk; omega
  · have := hxT _ hk; omega
  · intro k hk he
    rcases hn with h1 | h1
    · exact h.ne k hk (by rw [← h1]; exact he)
    · have := h1 k he; have := hyl k hk; omega
end
end Go.Proofs.Ytebibdoekcophaa
