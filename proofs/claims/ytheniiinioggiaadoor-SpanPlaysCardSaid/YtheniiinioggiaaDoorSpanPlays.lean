/-
  The walk of the statement SpanPlays: the law returns true at every input. Conditions: the library's table reads as its text lays it, and how the argument is read.
-/
import Derived.Test.YtheniiinioggiaaDoorRefSpan3
import Derived.Test.YtheniiinioggiaaDoorSpanAddrs
import Derived.Test.YtheniiinioggiaaDoorArgs
import Derived.Deep.CutBlock
import Derived.Deep.CutRange
import Derived.Says
namespace Go.Proofs.YtheniiinioggiaaDoor
open Go.RowKit
/-- How the law brings an op's kind into its range. -/
theorem kind_eq6 (x : Int) (n : Nat) (hn : 0 < n) (hl : n < 1000) : ∃ j : Nat, (wrap64 (x.tmod n + n)).tmod n = (j : Int) ∧ j < n := by
  have h1 := Int.tmod_lt_of_pos x (show (0 : Int) < n by omega)
  have h2 : (x.tmod n).natAbs < n := by
    rw [Int.natAbs_tmod]
    exact Nat.mod_lt _ (by simpa using hn)
  have h3 : wrap64 (x.tmod n + n) = x.tmod n + n := IntWalk.wrap64_in _ (by omega)
  rw [h3, Int.tmod_eq_emod_of_nonneg (by omega)]
  have h4 := Int.emod_nonneg (x.tmod n + n) (show (n : Int) ≠ 0 by omega)
  have h5 := Int.emod_lt_of_pos (x.tmod n + n) (show (0 : Int) < n by omega)
  exact ⟨((x.tmod n + n) % n).toNat, by omega, by omega⟩
theorem full_all {U : Nat → Bool} {n fr : Nat} (h : full U n fr = true) : ∀ t, fr ≤ t → t < n → U t = true := by
  intro t h1 h2
  unfold full at h
  rcases nxt_cases U n fr false with ⟨_, h4⟩ | ⟨j, h3, _⟩
  · simpa using h4 t h1 h2
  · rw [h3] at h
    simp at h
    omega
theorem full_of {U : Nat → Bool} {n fr : Nat} (h : ∀ t, fr ≤ t → t < n → U t = true) : full U n fr = true := by
  unfold full
  rw [nxt_none (fun j h1 h2 => by rw [h j h1 h2]; simp)]
  rfl
/-- The program's span s, the document's x, an op at q; nothing of w0 has turned. -/
structure SP (w0 wr : World) (s x pu pm q : Nat) (f k : Int) (n : Nat) (D : List Nat) (U M : Nat → Bool) (fr fr2 : Nat) (cs : Array Value) : Prop where
  p : SpD w0 wr s f k n D U M fr
  r : RS wr x f k n pu pm U M fr2
  bq : Blk wr q cs 62
  sub : ∀ j, j < n → M j = true → U j = true
  hf : fr2 = fr ∨ (fr2 = n ∧ full U n fr = true)
  dx : ∀ y ∈ [x, pu, pm], y ∉ D ∧ w0.heap.size ≤ y
  dq : q ∉ D ∧ q ∉ [x, pu, pm]
/-- What an address is told as. -/
def adr (f k : Int) (n : Nat) (i : Int) : Int := if 0 ≤ i ∧ i < n then f * 64 + i * sz k else 0
section
variable {w0 wr w2 w3 : World} {s x pu pm q n fr fr2 fr' fr2' : Nat} {f k : Int} {D : List Nat} {U M U2 M2 U3 M3 : Nat → Bool} {cs : Array Value}
theorem SP.still (h : SP w0 wr s x pu pm q f k n D U M fr fr2 cs) (hc : Ch [] wr w2) : SP w0 w2 s x pu pm q f k n D U M fr fr2 cs :=
  ⟨h.p.still hc, h.r.still hc, h.bq.keep hc (by simp), h.sub, h.hf, h.dx, h.dq⟩
theorem SP.mid (h : SP w0 wr s x pu pm q f k n D U M fr fr2 cs) (hc : Ch D wr w2) : RS w2 x f k n pu pm U M fr2 ∧ Blk w2 q cs 62 :=
  ⟨h.r.keep hc (h.dx x (by simp)).1 (h.dx pu (by simp)).1 (h.dx pm (by simp)).1, h.bq.keep hc h.dq.1⟩
theorem SP.fin (h : SP w0 wr s x pu pm q f k n D U M fr fr2 cs) (p2 : SpD w0 w2 s f k n D U2 M2 fr') (c2 : Ch D wr w2) (r3 : RS w3 x f k n pu pm U3 M3 fr2') (c3 : Ch [x, pu, pm] w2 w3)
    (hU : ∀ j, j < n → U3 j = U2 j) (hM : ∀ j, j < n → M3 j = M2 j) (hs : ∀ j, j < n → M2 j = true → U2 j = true) (hf : fr2' = fr' ∨ (fr2' = n ∧ full U2 n fr' = true)) : SP w0 w3 s x pu pm q f k n D U2 M2 fr' fr2' cs :=
  ⟨p2.beside c3 h.dx, r3.congr hU hM, (h.mid c2).2.keep c3 h.dq.2, hs, hf, h.dx, h.dq⟩
theorem SP.full2 (h : SP w0 wr s x pu pm q f k n D U M fr fr2 cs) : full U n fr2 = full U n fr := by
  rcases h.hf with rfl | ⟨rfl, h2⟩
  · rfl
  · rw [h2]
    exact full_of (fun t h3 h4 => by omega)
theorem SP.fr2n (h : SP w0 wr s x pu pm q f k n D U M fr fr2 cs) : fr2 ≤ n := by
  have := h.p.frn
  rcases h.hf with h1 | h1
  · omega
  · omega
theorem xUsed (i : Int) (h : SP w0 wr s x pu pm q f k n D U M fr fr2 cs) : Calls Tryd.prog 37 #[.pointer (some ⟨s, 0, none⟩), .int .i64 i] wr fun e w' => e = .returned (.bool (hasI U n i)) ∧ Ch [] wr w' :=
  (spUsed i h.p).mono (by rintro e w' ⟨rfl, rfl⟩; exact ⟨rfl, Ch.refl _ _⟩)
theorem xMarked (i : Int) (h : SP w0 wr s x pu pm q f k n D U M fr fr2 cs) : Calls Tryd.prog 36 #[.pointer (some ⟨s, 0, none⟩), .int .i64 i] wr fun e w' => e = .returned (.bool (hasI M n i)) ∧ Ch [] wr w' :=
  (spMarked i h.p).mono (by rintro e w' ⟨rfl, rfl⟩; exact ⟨rfl, Ch.refl _ _⟩)
theorem xLive1 (h : SP w0 wr s x pu pm q f k n D U M fr fr2 cs) : Calls Tryd.prog 34 #[.pointer (some ⟨s, 0, none⟩)] wr fun e w' => e = .returned (.int .i64 (cnt U n : Nat)) ∧ Ch [] wr w' :=
  (spLive h.p).mono (by rintro e w' ⟨rfl, rfl⟩; exact ⟨rfl, Ch.refl _ _⟩)
theorem xLive2 (h : SP w0 wr s x pu pm q f k n D U M fr fr2 cs) : Calls Tryd.prog 48 #[.pointer (some ⟨x, 0, none⟩)] wr fun e w' => e = .returned (.int .i64 (cnt U n : Nat)) ∧ Ch [] wr w' :=
  (refSpLive h.r (by have := h.p.nle; omega)).mono (by rintro e w' ⟨rfl, rfl⟩; exact ⟨rfl, Ch.refl _ _⟩)
theorem xFull1 (h : SP w0 wr s x pu pm q f k n D U M fr fr2 cs) (hT : TabW w0) : Calls Tryd.prog 35 #[.pointer (some ⟨s, 0, none⟩)] wr fun e w' => e = .returned (.bool (full U n fr)) ∧ Ch [] wr w' :=
  (spFull h.p hT).mono (by rintro e w' ⟨rfl, rfl⟩; exact ⟨rfl, (Ch.refl _ _).drewN 1⟩)
theorem xFull2 (h : SP w0 wr s x pu pm q f k n D U M fr fr2 cs) : Calls Tryd.prog 49 #[.pointer (some ⟨x, 0, none⟩)] wr fun e w' => e = .returned (.bool (full U n fr)) ∧ Ch [] wr w' := by
  rw [← h.full2]
  exact (refSpFull h.r (by have := h.p.nle; omega) h.fr2n).mono (by rintro e w' ⟨rfl, rfl⟩; exact ⟨rfl, Ch.refl _ _⟩)
theorem xAddr1 (i : Int) (h : SP w0 wr s x pu pm q f k n D U M fr fr2 cs) : Calls Tryd.prog 40 #[.pointer (some ⟨s, 0, none⟩), .int .i64 i] wr fun e w' => e = .returned (.int .i64 (adr f k n i)) ∧ Ch [] wr w' := by
  unfold adr
  by_cases hi : 0 ≤ i ∧ i < (n : Int)
  · rw [if_pos hi]
    obtain ⟨j, rfl⟩ : ∃ j : Nat, i = j := ⟨i.toNat, by omega⟩
    exact spAddrYes j h.p (by omega)
  · rw [if_neg hi]
    exact (spAddrNo i h.p (by omega)).mono (by rintro e w' ⟨rfl, rfl⟩; exact ⟨rfl, Ch.refl _ _⟩)
theorem xAddr2 (i : Int) (h : SP w0 wr s x pu pm q f k n D U M fr fr2 cs) : Calls Tryd.prog 50 #[.pointer (some ⟨x, 0, none⟩), .int .i64 i] wr fun e w' => e = .returned (.int .i64 (adr f k n i)) ∧ Ch [] wr w' := by
  unfold adr
  by_cases hi : 0 ≤ i ∧ i < (n : Int)
  · rw [if_pos hi]
    obtain ⟨j, rfl⟩ : ∃ j : Nat, i = j := ⟨i.toNat, by omega⟩
    exact refSpAddrYes j h.r (by omega) h.p.nle.2 h.p.sz h.p.fb
  · rw [if_neg hi]
    exact (refSpAddrNo i h.r (by omega)).mono (by rintro e w' ⟨rfl, rfl⟩; exact ⟨rfl, Ch.refl _ _⟩)
theorem xAtIn (j : Nat) (h : SP w0 wr s x pu pm q f k n D U M fr fr2 cs) (hj : j < n) : Calls Tryd.prog 38 #[.pointer (some ⟨s, 0, none⟩), .int .i64 (adr f k n j)] wr fun e w' => e = .returned (.tuple #[.int .i64 j, .bool true]) ∧ Ch [] wr w' := by
  have hz := h.p.sz
  have hn := h.p.nle
  have hb := (sz_bd k).2
  obtain ⟨z, hzz⟩ : ∃ z : Nat, sz k = (z : Int) := ⟨(sz k).toNat, by omega⟩
  rw [hzz] at hz hb
  have hp : j * z ≤ 256 * 256 := Nat.mul_le_mul (by omega) (by omega)
  refine spAtYes _ (j * z) z j h.p ?_ hzz (by omega) (Nat.mul_mod_left j z) (Nat.mul_div_cancel j (by omega)) hj
  unfold adr
  rw [if_pos ⟨by omega, by omega⟩, hzz]
  push_cast
  rfl
theorem xAtOut (i : Int) (h : SP w0 wr s x pu pm q f k n D U M fr fr2 cs) (hi : i < 0 ∨ (n : Int) ≤ i) : Calls Tryd.prog 38 #[.pointer (some ⟨s, 0, none⟩), .int .i64 (adr f k n i)] wr fun e w' => e = .returned (.tuple #[.int .i64 0, .bool false]) ∧ Ch [] wr w' := by
  have hf := h.p.fb
  rw [show adr f k n i = 0 by unfold adr; rw [if_neg (by omega)]]
  exact (spAtNo 0 h.p (by omega)).mono (by rintro e w' ⟨rfl, rfl⟩; exact ⟨rfl, Ch.refl _ _⟩)
end
/-- The same without the op. -/
structure SPy (w0 wr : World) (s x pu pm : Nat) (f k : Int) (n : Nat) (D : List Nat) (U M : Nat → Bool) (fr fr2 : Nat) : Prop where
  p : SpD w0 wr s f k n D U M fr
  r : RS wr x f k n pu pm U M fr2
  sub : ∀ j, j < n → M j = true → U j = true
  hf : fr2 = fr ∨ (fr2 = n ∧ full U n fr = true)
  dx : ∀ y ∈ [x, pu, pm], y ∉ D ∧ w0.heap.size ≤ y
theorem SP.forget {w0 wr : World} {s x pu pm q n fr fr2 : Nat} {f k : Int} {D : List Nat} {U M : Nat → Bool} {cs : Array Value} (h : SP w0 wr s x pu pm q f k n D U M fr fr2 cs) : SPy w0 wr s x pu pm f k n D U M fr fr2 := ⟨h.p, h.r, h.sub, h.hf, h.dx⟩
theorem SPy.withOp {w0 wr : World} {s x pu pm n fr fr2 : Nat} {f k : Int} {D : List Nat} {U M : Nat → Bool} (h : SPy w0 wr s x pu pm f k n D U M fr fr2) (cs : Array Value) : SP w0 (wr.alloc (.cells cs 62)) s x pu pm wr.heap.size f k n D U M fr fr2 cs := by
  have ca := (Ch.refl [] wr).alloc (.cells cs 62)
  refine ⟨h.p.still ca, h.r.still ca, Blk.new _ _ _, h.sub, h.hf, h.dx, fun hk => by have := (h.p.bd _ hk).2; omega, fun hk => ?_⟩
  have e1 := h.r.top.lt
  have e2 := h.r.us.lt
  have e3 := h.r.ms.lt
  simp only [List.mem_cons, List.not_mem_nil, or_false] at hk
  omega
set_option maxRecDepth 100000 in
set_option maxHeartbeats 40000000 in
theorem plays6_walk (a0 a1 : Int) (a2 : Option Addr) (len cap : Nat) (F : Nat → Nat → Value) (w : World) (hT : TabW w) (hr : RdS w a2 len 3 F) (ht : ∀ i, i < len → (∃ x, F i 0 = .int .i64 x) ∧ (∃ x, F i 1 = .int .i64 x) ∧ (∃ x, F i 2 = .bool x)) (hm : len ≤ maxLen) :
    Calls Tryd.prog 12 #[.int .i64 a0, .int .i64 a1, .slice a2 len cap] w fun e w' => e = .returned (.bool true) ∧ Below w.heap.size w w' := by
  unfold maxLen at hm
  by_cases hno : sz a1 = 0 ∨ a0 < 1 ∨ 262144 < a0
  · have y1 := spanNewNo a0 a1 w hno
    have y2 := fun w => refSpNewNo a0 a1 w hno
    have Y2 := Lib.hid y2
    clear hno y2
    go_enter Tryd.func12, Tryd.ntmps12
    go_wp2_with fail
    refine y1.mono ?_; rintro e w1 ⟨rfl, c1⟩
    clear y1
    go_wp2_with fail
    refine (Y2.out w1).mono ?_; rintro e w2 ⟨rfl, c2⟩
    have cc := c1.trans c2
    go_wp2_with fail
    refine (told6 _ (hT.ch cc)).mono ?_; rintro e w3 ⟨rfl, c3⟩
    have hend := (cc.trans c3).below (Nat.le_refl _) (by simp)
    go_wp2_with fail
    go_ret
    exact ⟨rfl, hend⟩
  · have hz : 0 < sz a1 := by
      have := (sz_bd a1).1
      omega
    have hf : 1 ≤ a0 ∧ a0 ≤ 262144 := by omega
    obtain ⟨hk, _⟩ := sz_range (Int.ne_of_gt hz)
    obtain ⟨n, hn, hn1, hn2⟩ := sls_in hk.1 hk.2
    have y1 := spNew a0 a1 n w hz hf hn hn2
    have y2 := fun w => refSpNew a0 a1 n w hz hf hn ⟨hn1, hn2⟩
    have Y2 := Lib.hid y2
    clear hno y2 hn hz hk
    go_enter Tryd.func12, Tryd.ntmps12
    go_wp2_with fail
    refine y1.mono ?_; rintro e w1 ⟨s, D, rfl, p1⟩
    clear y1
    go_wp2_with fail
    refine (Y2.out w1).mono ?_; rintro e w2 ⟨x, pu, pm, rfl, r2, l1, l2, l3, c2⟩
    clear Y2
    have p2 := p1.still c2
    have hD : ∀ y ∈ [x, pu, pm], y ∉ D ∧ w.heap.size ≤ y := by
      intro y hy
      have hy2 : w1.heap.size ≤ y := by
        simp only [List.mem_cons, List.not_mem_nil, or_false] at hy
        rcases hy with rfl | rfl | rfl <;> assumption
      exact ⟨fun hk => by have := (p1.bd y hk).2; omega, Nat.le_trans p1.ch.size hy2⟩
    clear p1 l1 l2 l3 c2
    go_upto_region 5 with fail
    have wf : IntKind.i64.wrap (a0 * 64) = a0 * 64 := IntWalk.i64_in _ (by omega)
    have nn : ((n : Int) != (n : Int)) = false := by simp
    have ff : (a0 * 64 != a0 * 64) = false := by simp
    have aa : (a1 != a1) = false := by simp
    have hst : SPy w (w2.drewN 1) s x pu pm a0 a1 n D none_ none_ 0 0 := ⟨p2.still ((Ch.refl [] w2).drewN 1), r2.still ((Ch.refl [] w2).drewN 1), fun j _ h => by simp [none_] at h, .inl rfl, hD⟩
    clear p2 r2 hD
    obtain ⟨L, hL⟩ : ∃ L : World → Prop, ∀ w', L w' ↔ w'.cell? ⟨x, 2, none⟩ = some (.slice (some ⟨pu, 0, none⟩) n n) := ⟨_, fun _ => Iff.rfl⟩
    have hS1 : ∀ x' : { w' : World // L w' }, x'.1.cell? ⟨x, 2, none⟩ = some (.slice (some ⟨pu, 0, none⟩) n n) := fun x' => (hL _).1 x'.2
    have hS0 : L (w2.drewN 1) := (hL _).2 (hst.r.top.cell 2)
    have hSA : Nonempty { w' : World // L w' } := ⟨⟨_, hS0⟩⟩
    clear hL
    have z1 := spSlots hst.p
    have z2 := spBase hst.p
    have z3 := spClass hst.p
    refine wp_region_plan (Cls L) (List.range 29) (.reads [0, 1, 2, 3, 4, 5, 6, 7, 9, 10, 11, 12, 13] (.only 8 (.reads [14, 15, 16, 17, 19, 20] (.only 18 (.reads [21, 22, 23, 24, 26] (.only 25 (.reads [27, 28] .done))))))) (by as_aux_lemma => kernel_rfl) (by as_aux_lemma => kernel_rfl) (fun _ _ _ _ _ h => h) ?_
    simp only [Plan.reads, Plan.only, List.foldr_cons, List.foldr_nil]
    iterate 13 (refine wpPlan_readS hS0 (fun K hK => ?_); simp only [List.getD_cons_zero, List.getD_cons_succ]; go_simp; refine hK _ ?_; clear hK K)
    refine wpPlan_only (fun K hK => ?_)
    simp only [List.getD_cons_zero, List.getD_cons_succ]
    go_simp
    refine z1.mono ?_; rintro e w3 ⟨rfl, rfl⟩
    refine hK _ _ (fun _ => Cls.mk hS0) ?_
    clear hK K z1
    iterate 6 (refine wpPlan_readS hS0 (fun K hK => ?_); simp only [List.getD_cons_zero, List.getD_cons_succ]; go_simp; refine hK _ ?_; clear hK K)
    refine wpPlan_only (fun K hK => ?_)
    simp only [List.getD_cons_zero, List.getD_cons_succ]
    go_simp
    refine z2.mono ?_; rintro e w3 ⟨rfl, rfl⟩
    refine hK _ _ (fun _ => Cls.mk hS0) ?_
    clear hK K z2
    iterate 5 (refine wpPlan_readS hS0 (fun K hK => ?_); simp only [List.getD_cons_zero, List.getD_cons_succ]; go_simp; refine hK _ ?_; clear hK K)
    refine wpPlan_only (fun K hK => ?_)
    simp only [List.getD_cons_zero, List.getD_cons_succ]
    go_simp
    refine z3.mono ?_; rintro e w3 ⟨rfl, rfl⟩
    refine hK _ _ (fun _ => Cls.mk hS0) ?_
    clear hK K z3
    iterate 2 (refine wpPlan_readS hS0 (fun K hK => ?_); simp only [List.getD_cons_zero, List.getD_cons_succ]; go_simp; refine hK _ ?_; clear hK K)
    refine wpPlan_done ?_
    clear hS0 hS1 hSA
    obtain ⟨W3, hW3⟩ : ∃ W3, w2.drewN 1 = W3 := ⟨_, rfl⟩
    rw [hW3] at hst ⊢
    clear hW3
    go_wp2_with fail
    go_loopw [10] (fun s10 wr => ∃ (i : Nat) (U M : Nat → Bool) (fr fr2 : Nat), s10 = .int .i64 i ∧ i ≤ len ∧ i ≤ 100 ∧ SPy w wr s x pu pm a0 a1 n D U M fr fr2) (fun s10 _ => 100 - (intOf s10).toNat)
    case atStart => exact ⟨0, _, _, _, _, rfl, by omega, by omega, hst⟩
    case round =>
      clear hst
      obtain ⟨i, U, M, fr, fr2, rfl, hil, hi100, hst⟩ := hrel
      by_cases hlt : i < len
      · by_cases h100 : i < 100
        · have t1 : decide ((i : Int) < len) = true := decide_eq_true (by omega)
          have t2 : decide ((i : Int) < 100) = true := decide_eq_true (by omega)
          obtain ⟨⟨kd, hx⟩, ⟨I, hI⟩, ⟨bb, hbb⟩⟩ := ht i hlt
          obtain ⟨ba, oa, rfl, hcell⟩ := (hr.keep (by decide) hst.p.ch (by simp)).at hlt
          have d0 := hcell i hlt 0 (by decide)
          have d1 := hcell i hlt 1 (by decide)
          have d2 := hcell i hlt 2 (by decide)
          rw [hx, Nat.add_zero] at d0
          rw [hI] at d1
          rw [hbb] at d2
          clear hcell hx hI hbb
          have hst1 := hst.withOp #[.int .i64 kd, .int .i64 I, .bool bb]
          go_upto_region 11 with fail
          obtain ⟨W1, hW1⟩ : ∃ W1, wr.alloc (.cells #[.int .i64 kd, .int .i64 I, .bool bb] 62) = W1 := ⟨_, rfl⟩
          obtain ⟨q, hq⟩ : ∃ q, wr.heap.size = q := ⟨_, rfl⟩
          rw [hW1, hq] at hst1
          rw [hW1, hq]
          clear hW1 hq hst d0 d1 d2
          have e0 := hst1.bq.cell 0
          have e1 := hst1.bq.cell 1
          have e2' := hst1.bq.cell 2
          obtain ⟨j, hj, hjl⟩ := kind_eq6 kd 6 (by decide) (by decide)
          replace hj : (wrap64 (kd.tmod 6 + 6)).tmod 6 = (j : Int) := hj
          go_upto_block 2 with fail
          go_cut [12, 13, 14, 15, 86] from 87 to 131 (fun s12 s13 s14 s15 s86 wx => ∃ (U M : Nat → Bool) (fr fr2 : Nat), SP w wx s x pu pm q a0 a1 n D U M fr fr2 #[.int .i64 kd, .int .i64 I, .bool bb])
          case first =>
            obtain ⟨J, hJ⟩ : ∃ J : Int, (j : Int) = J := ⟨_, rfl⟩
            try rw [hj]
            rw [hJ]
            have hJ0 : J = 0 ∨ J = 1 ∨ J = 2 ∨ J = 3 ∨ J = 4 ∨ J = 5 := by omega
            clear hj hJ hjl t1 t2
            rcases hJ0 with rfl | rfl | rfl | rfl | rfl | rfl
            · as_aux_lemma =>
                have hn := hst1.p.nle
                by_cases hfull : full U n fr = true
                · have y1 := spAllocNo bb hst1.p hT hfull
                  have hal := full_all hfull
                  have HF := Lib.hid hfull
                  go_wp2_with fail
                  refine y1.mono ?_; rintro e w2 ⟨rfl, rfl⟩
                  have cd := (Ch.refl [] W1).drewN 1
                  have h2 := hst1.still cd
                  obtain ⟨W2, hW2⟩ : ∃ W2, W1.drewN 1 = W2 := ⟨_, rfl⟩
                  rw [hW2] at h2 ⊢
                  have e2 := h2.bq.cell 2
                  have y2 := refSpAllocNo bb h2.r (by omega) h2.fr2n (fun t h3 h4 => by
                    rcases h2.hf with h5 | h5
                    · exact hal t (by omega) h4
                    · omega)
                  clear y1 cd hW2 e0 e1 e2' hst1 hfull hal
                  go_wp2_with fail
                  refine y2.mono ?_; rintro e w3 ⟨rfl, r3, c3⟩
                  have h3 := h2.fin h2.p (Ch.refl _ _) r3 (c3.mono (by simp)) (fun _ _ => rfl) (fun _ _ => rfl) h2.sub (.inr ⟨rfl, HF.out⟩)
                  clear y2 e2 h2 r3 c3
                  go_wp2_with fail
                  go_meet
                  exact ⟨_, _, _, _, h3⟩
                · rcases nxt_cases U n fr false with ⟨g1, g2⟩ | ⟨j, g1, g2, g3, g4, g5⟩
                  · exact absurd (full_of (fun t h3 h4 => by have := g2 t h3 h4; simpa using this)) hfull
                  · have hfr : fr2 = fr := by
                      rcases hst1.hf with h5 | h5
                      · exact h5
                      · exact absurd h5.2 hfull
                    have hMj : M j = false := by
                      cases hM : M j with
                      | false => rfl
                      | true => have := hst1.sub j g2 hM; rw [g4] at this; cases this
                    have y1 := spAllocYes bb j hst1.p hT g1 (by omega)
                    have HFR := Lib.hid hfr
                    have HMJ := Lib.hid hMj
                    have HG4 := Lib.hid g4
                    have HG5 : Hid (∀ t, fr ≤ t → t < j → U t = true) := Lib.hid (fun t h3 h4 => by have := g5 t h3 h4; simpa using this)
                    have hst0 := hst1
                    clear hfull hfr hMj g1 g4 g5
                    have jj : ((j : Int) != (j : Int)) = false := by simp
                    go_wp2_with fail
                    refine y1.mono ?_; rintro e w2 ⟨rfl, p2, c2⟩
                    obtain ⟨r2, b2⟩ := hst0.mid c2
                    have e2 := b2.cell 2
                    have y2 := refSpAllocYes bb j r2 (by omega) (by rw [HFR.out]; exact g3) g2 HG4.out (fun t h3 h4 => HG5.out t (by rw [← HFR.out]; exact h3) h4)
                    clear y1 e0 e1 e2' hst1
                    go_wp2_with fail
                    refine y2.mono ?_; rintro e w3 ⟨rfl, r3, c3⟩
                    have h3 := hst0.fin p2 c2 r3 c3 (fun t _ => by rw [putS_nat' _ _ _ _ g2]) (fun t ht => by
                      cases bb
                      · show upd M j false t = M t
                        rw [upd_self HMJ.out]
                      · show upd M j true t = putS M n j true t
                        rw [putS_nat' _ _ _ _ g2]) (fun t ht hM => by
                      rw [putS_nat' _ _ _ _ g2]
                      by_cases htj : t = j
                      · rw [htj]; simp [upd]
                      · unfold upd
                        rw [if_neg htj]
                        refine hst0.sub t ht ?_
                        cases bb
                        · exact hM
                        · have hM' : putS M n j true t = true := hM
                          rw [putS_nat' _ _ _ _ g2] at hM'
                          unfold upd at hM'
                          rw [if_neg htj] at hM'
                          exact hM') (.inl rfl)
                    clear y2 e2 r2 b2 p2 c2 r3 c3 hst0
                    go_wp2_with fail
                    go_meet
                    exact ⟨_, _, _, _, h3⟩
            · as_aux_lemma =>
                have hn := hst1.p.nle
                by_cases hfull : full U n fr = true
                · have y1 := spAllocNo bb hst1.p hT hfull
                  have hal := full_all hfull
                  have HF := Lib.hid hfull
                  go_wp2_with fail
                  refine y1.mono ?_; rintro e w2 ⟨rfl, rfl⟩
                  have cd := (Ch.refl [] W1).drewN 1
                  have h2 := hst1.still cd
                  obtain ⟨W2, hW2⟩ : ∃ W2, W1.drewN 1 = W2 := ⟨_, rfl⟩
                  rw [hW2] at h2 ⊢
                  have e2 := h2.bq.cell 2
                  have y2 := refSpAllocNo bb h2.r (by omega) h2.fr2n (fun t h3 h4 => by
                    rcases h2.hf with h5 | h5
                    · exact hal t (by omega) h4
                    · omega)
                  clear y1 cd hW2 e0 e1 e2' hst1 hfull hal
                  go_wp2_with fail
                  refine y2.mono ?_; rintro e w3 ⟨rfl, r3, c3⟩
                  have h3 := h2.fin h2.p (Ch.refl _ _) r3 (c3.mono (by simp)) (fun _ _ => rfl) (fun _ _ => rfl) h2.sub (.inr ⟨rfl, HF.out⟩)
                  clear y2 e2 h2 r3 c3
                  go_wp2_with fail
                  go_meet
                  exact ⟨_, _, _, _, h3⟩
                · rcases nxt_cases U n fr false with ⟨g1, g2⟩ | ⟨j, g1, g2, g3, g4, g5⟩
                  · exact absurd (full_of (fun t h3 h4 => by have := g2 t h3 h4; simpa using this)) hfull
                  · have hfr : fr2 = fr := by
                      rcases hst1.hf with h5 | h5
                      · exact h5
                      · exact absurd h5.2 hfull
                    have hMj : M j = false := by
                      cases hM : M j with
                      | false => rfl
                      | true => have := hst1.sub j g2 hM; rw [g4] at this; cases this
                    have y1 := spAllocYes bb j hst1.p hT g1 (by omega)
                    have HFR := Lib.hid hfr
                    have HMJ := Lib.hid hMj
                    have HG4 := Lib.hid g4
                    have HG5 : Hid (∀ t, fr ≤ t → t < j → U t = true) := Lib.hid (fun t h3 h4 => by have := g5 t h3 h4; simpa using this)
                    have hst0 := hst1
                    clear hfull hfr hMj g1 g4 g5
                    have jj : ((j : Int) != (j : Int)) = false := by simp
                    go_wp2_with fail
                    refine y1.mono ?_; rintro e w2 ⟨rfl, p2, c2⟩
                    obtain ⟨r2, b2⟩ := hst0.mid c2
                    have e2 := b2.cell 2
                    have y2 := refSpAllocYes bb j r2 (by omega) (by rw [HFR.out]; exact g3) g2 HG4.out (fun t h3 h4 => HG5.out t (by rw [← HFR.out]; exact h3) h4)
                    clear y1 e0 e1 e2' hst1
                    go_wp2_with fail
                    refine y2.mono ?_; rintro e w3 ⟨rfl, r3, c3⟩
                    have h3 := hst0.fin p2 c2 r3 c3 (fun t _ => by rw [putS_nat' _ _ _ _ g2]) (fun t ht => by
                      cases bb
                      · show upd M j false t = M t
                        rw [upd_self HMJ.out]
                      · show upd M j true t = putS M n j true t
                        rw [putS_nat' _ _ _ _ g2]) (fun t ht hM => by
                      rw [putS_nat' _ _ _ _ g2]
                      by_cases htj : t = j
                      · rw [htj]; simp [upd]
                      · unfold upd
                        rw [if_neg htj]
                        refine hst0.sub t ht ?_
                        cases bb
                        · exact hM
                        · have hM' : putS M n j true t = true := hM
                          rw [putS_nat' _ _ _ _ g2] at hM'
                          unfold upd at hM'
                          rw [if_neg htj] at hM'
                          exact hM') (.inl rfl)
                    clear y2 e2 r2 b2 p2 c2 r3 c3 hst0
                    go_wp2_with fail
                    go_meet
                    exact ⟨_, _, _, _, h3⟩
            · as_aux_lemma =>
                have hn := hst1.p.nle
                by_cases hfull : full U n fr = true
                · have y1 := spAllocNo bb hst1.p hT hfull
                  have hal := full_all hfull
                  have HF := Lib.hid hfull
                  go_wp2_with fail
                  refine y1.mono ?_; rintro e w2 ⟨rfl, rfl⟩
                  have cd := (Ch.refl [] W1).drewN 1
                  have h2 := hst1.still cd
                  obtain ⟨W2, hW2⟩ : ∃ W2, W1.drewN 1 = W2 := ⟨_, rfl⟩
                  rw [hW2] at h2 ⊢
                  have e2 := h2.bq.cell 2
                  have y2 := refSpAllocNo bb h2.r (by omega) h2.fr2n (fun t h3 h4 => by
                    rcases h2.hf with h5 | h5
                    · exact hal t (by omega) h4
                    · omega)
                  clear y1 cd hW2 e0 e1 e2' hst1 hfull hal
                  go_wp2_with fail
                  refine y2.mono ?_; rintro e w3 ⟨rfl, r3, c3⟩
                  have h3 := h2.fin h2.p (Ch.refl _ _) r3 (c3.mono (by simp)) (fun _ _ => rfl) (fun _ _ => rfl) h2.sub (.inr ⟨rfl, HF.out⟩)
                  clear y2 e2 h2 r3 c3
                  go_wp2_with fail
                  go_meet
                  exact ⟨_, _, _, _, h3⟩
                · rcases nxt_cases U n fr false with ⟨g1, g2⟩ | ⟨j, g1, g2, g3, g4, g5⟩
                  · exact absurd (full_of (fun t h3 h4 => by have := g2 t h3 h4; simpa using this)) hfull
                  · have hfr : fr2 = fr := by
                      rcases hst1.hf with h5 | h5
                      · exact h5
                      · exact absurd h5.2 hfull
                    have hMj : M j = false := by
                      cases hM : M j with
                      | false => rfl
                      | true => have := hst1.sub j g2 hM; rw [g4] at this; cases this
                    have y1 := spAllocYes bb j hst1.p hT g1 (by omega)
                    have HFR := Lib.hid hfr
                    have HMJ := Lib.hid hMj
                    have HG4 := Lib.hid g4
                    have HG5 : Hid (∀ t, fr ≤ t → t < j → U t = true) := Lib.hid (fun t h3 h4 => by have := g5 t h3 h4; simpa using this)
                    have hst0 := hst1
                    clear hfull hfr hMj g1 g4 g5
                    have jj : ((j : Int) != (j : Int)) = false := by simp
                    go_wp2_with fail
                    refine y1.mono ?_; rintro e w2 ⟨rfl, p2, c2⟩
                    obtain ⟨r2, b2⟩ := hst0.mid c2
                    have e2 := b2.cell 2
                    have y2 := refSpAllocYes bb j r2 (by omega) (by rw [HFR.out]; exact g3) g2 HG4.out (fun t h3 h4 => HG5.out t (by rw [← HFR.out]; exact h3) h4)
                    clear y1 e0 e1 e2' hst1
                    go_wp2_with fail
                    refine y2.mono ?_; rintro e w3 ⟨rfl, r3, c3⟩
                    have h3 := hst0.fin p2 c2 r3 c3 (fun t _ => by rw [putS_nat' _ _ _ _ g2]) (fun t ht => by
                      cases bb
                      · show upd M j false t = M t
                        rw [upd_self HMJ.out]
                      · show upd M j true t = putS M n j true t
                        rw [putS_nat' _ _ _ _ g2]) (fun t ht hM => by
                      rw [putS_nat' _ _ _ _ g2]
                      by_cases htj : t = j
                      · rw [htj]; simp [upd]
                      · unfold upd
                        rw [if_neg htj]
                        refine hst0.sub t ht ?_
                        cases bb
                        · exact hM
                        · have hM' : putS M n j true t = true := hM
                          rw [putS_nat' _ _ _ _ g2] at hM'
                          unfold upd at hM'
                          rw [if_neg htj] at hM'
                          exact hM') (.inl rfl)
                    clear y2 e2 r2 b2 p2 c2 r3 c3 hst0
                    go_wp2_with fail
                    go_meet
                    exact ⟨_, _, _, _, h3⟩
            · as_aux_lemma =>
                have hn := hst1.p.nle
                go_upto_region 20 with fail
                obtain ⟨L, hL⟩ : ∃ L : World → Prop, ∀ w', L w' ↔ w'.cell? ⟨q, 1, none⟩ = some (.int .i64 I) := ⟨_, fun _ => Iff.rfl⟩
                have hS1 : ∀ x' : { w' : World // L w' }, x'.1.cell? ⟨q, 1, none⟩ = some (.int .i64 I) := fun x' => (hL _).1 x'.2
                have hLk : ∀ w', Blk w' q #[.int .i64 kd, .int .i64 I, .bool bb] 62 → L w' := fun w' hb => (hL _).2 (hb.cell 1)
                have hst2 := hst1.still ((Ch.refl [] W1).drewN 1)
                have hS0 := hLk _ hst2.bq
                have hSA : Nonempty { w' : World // L w' } := ⟨⟨_, hS0⟩⟩
                have HLk := Lib.hid hLk
                clear hL hLk hst1
                have y1 := spMark I hst2.p
                obtain ⟨P, hP⟩ : ∃ P, markB U M n I = P := ⟨_, rfl⟩
                have HP := Lib.hid hP
                rw [hP] at y1
                have pp : (P != P) = false := by simp
                clear hP
                refine wp_region_plan (Cls L) (List.range 9) (.reads [0, 1, 2, 4, 5, 6] (.only 3 (.only 7 (.reads [8] .done)))) (by as_aux_lemma => kernel_rfl) (by as_aux_lemma => kernel_rfl) (fun _ _ _ _ _ h => h) ?_
                simp only [Plan.reads, Plan.only, List.foldr_cons, List.foldr_nil]
                iterate 6 (refine wpPlan_readS hS0 (fun K hK => ?_); simp only [List.getD_cons_zero, List.getD_cons_succ]; go_simp; refine hK _ ?_; clear hK K)
                refine wpPlan_only (fun K hK => ?_)
                simp only [List.getD_cons_zero, List.getD_cons_succ]
                go_simp
                refine y1.mono ?_; rintro e w3 ⟨rfl, p3, c3⟩
                obtain ⟨r3, b3⟩ := hst2.mid c3
                have hl3 := HLk.out _ b3
                refine hK _ _ (fun _ => Cls.mk hl3) ?_
                clear hK K y1
                have y2 := refSpSet I r3 (by omega)
                rw [HP.out] at y2
                refine wpPlan_only (fun K hK => ?_)
                simp only [List.getD_cons_zero, List.getD_cons_succ]
                go_simp
                refine y2.mono ?_; rintro e w4 ⟨rfl, r4, c4⟩
                have h4 := hst2.fin p3 c3 r4 (c4.mono (by simp)) (fun _ _ => rfl) (fun _ _ => rfl) (fun t ht hM => by
                  unfold markM at hM
                  by_cases hu : hasI U n I = true
                  · rw [if_pos hu] at hM
                    have hI : 0 ≤ I ∧ I < (n : Int) := by simp only [hasI, Bool.and_eq_true, decide_eq_true_eq] at hu; exact ⟨hu.1, hu.2.1⟩
                    obtain ⟨i', hi'⟩ : ∃ i' : Nat, I = i' := ⟨I.toNat, by omega⟩
                    rw [hi', putS_nat' _ _ _ _ (by omega)] at hM
                    rw [hi', hasI_in (by omega)] at hu
                    unfold upd at hM
                    by_cases hti : t = i'
                    · rw [hti]; exact hu
                    · rw [if_neg hti] at hM
                      exact hst2.sub t ht hM
                  · rw [if_neg hu] at hM
                    exact hst2.sub t ht hM) hst2.hf
                have hl4 := HLk.out _ h4.bq
                refine hK _ _ (fun _ => Cls.mk hl4) ?_
                clear hK K y2 r3 b3 p3 c3 r4 c4 hst2
                iterate 1 (refine wpPlan_readS hl4 (fun K hK => ?_); simp only [List.getD_cons_zero, List.getD_cons_succ]; go_simp; refine hK _ ?_; clear hK K)
                refine wpPlan_done ?_
                clear hS0 hS1 hSA hl3 hl4
                go_wp2_with fail
                go_meet
                exact ⟨_, _, _, _, h4⟩
            · as_aux_lemma =>
                have hn := hst1.p.nle
                have y1 := spSweep hst1.p hT
                obtain ⟨X, hX⟩ : ∃ X, gone U M n = X := ⟨_, rfl⟩
                have HX := Lib.hid hX
                have hXl : X.length ≤ 1000 := by
                  rw [← hX]
                  unfold gone
                  refine Nat.le_trans (List.length_filter_le _ _) ?_
                  rw [els_len]
                  have := cnt_le U n
                  omega
                clear hX
                have hst0 := hst1
                clear hst1 e0 e1 e2'
                go_wp2_with fail
                refine y1.mono ?_; rintro e w2 ⟨v2, rfl, o2, p2, c2⟩
                rw [HX.out] at o2
                obtain ⟨r2, b2⟩ := hst0.mid c2
                obtain ⟨a2', q2, rfl, z1, z2, rd2⟩ := o2.form
                obtain ⟨l, hl⟩ : ∃ l, X.length = l := ⟨_, rfl⟩
                rw [hl] at o2 z1 hXl ⊢
                have HL := Lib.hid hl
                have hlt2 : ∀ y ∈ [x, pu, pm], y < w2.heap.size := by
                  intro y hy
                  simp only [List.mem_cons, List.not_mem_nil, or_false] at hy
                  rcases hy with rfl | rfl | rfl
                  · exact r2.top.lt
                  · exact r2.us.lt
                  · exact r2.ms.lt
                have hltr : ∀ y ∈ [x, pu, pm], y < W1.heap.size := by
                  intro y hy
                  simp only [List.mem_cons, List.not_mem_nil, or_false] at hy
                  rcases hy with rfl | rfl | rfl
                  · exact hst0.r.top.lt
                  · exact hst0.r.us.lt
                  · exact hst0.r.ms.lt
                have y2 := refSpSweep r2 (by omega) ⟨hlt2 x (by simp), hlt2 pu (by simp), hlt2 pm (by simp)⟩
                clear y1 hl
                go_wp2_with fail
                refine y2.mono ?_; rintro e w3 ⟨v3, rfl, o3, r3, c3⟩
                rw [HX.out] at o3
                have h3 := hst0.fin p2 c2 r3 c3 (fun t ht => by
                  unfold swU
                  rw [if_pos ht]
                  cases hM : M t with
                  | false => simp
                  | true => rw [hst0.sub t ht hM]; rfl) (fun _ _ => rfl) (fun t ht hM => by simp [none_] at hM) (.inl rfl)
                have rd2' : Rd w3 a2' X := rd2.keep c3 (by
                  intro y hy hk
                  subst hy
                  have h5 := o2.2 y.block rfl
                  have h6 := hltr _ hk
                  omega)
                obtain ⟨a3, q3, rfl, z3, z4, rd3⟩ := o3.form
                have hI := ints_same a2' a3 X q2 q3 w3 rd2' rd3 (by rw [HL.out]; unfold maxLen; omega)
                rw [HL.out] at hI ⊢
                clear y2 o2 o3 p2 c2 r2 b2 r3 c3 rd2 rd2' rd3 hlt2 hltr hst0 z3
                go_wp2_with fail
                refine hI.mono ?_; rintro e w4 ⟨rfl, nq, rfl⟩
                have h4 := h3.still ((Ch.refl [] w3).drewN nq)
                clear hI h3
                go_wp2_with fail
                go_meet
                exact ⟨_, _, _, _, h4⟩
            · go_wp2_with fail
              go_meet
              exact ⟨_, _, _, _, hst1⟩
          case rest =>
            obtain ⟨U5, M5, fr5, fr6, hst5⟩ := hcut
            clear hst1 e0 e1 e2' hj hjl wf nn ff aa
            have q1 := hst5.bq.cell 1
            have x2 := hst5.r.top.cell 2
            have hnn := hst5.p.nle
            by_cases hin : 0 ≤ I ∧ I < (n : Int)
            · as_aux_lemma =>
                obtain ⟨j, hj⟩ : ∃ j : Nat, I = j := ⟨I.toNat, by omega⟩
                subst hj
                have hjn : j < n := by omega
                have t3 : decide ((j : Int) ≥ 0) = true := decide_eq_true (by omega)
                have t4 : decide ((j : Int) < n) = true := decide_eq_true (by omega)
                have t3n : (0 : Int) ≤ j := by omega
                have t4n : (j : Int) < n := by omega
                clear hin
                go_upto_region 25 with fail
                go_quiet (fail)
                have hst6 := hst5.still ((Ch.refl [] wc).drewN nq)
                obtain ⟨W6, hW6⟩ : ∃ W, wc.drewN nq = W := ⟨_, rfl⟩
                rw [hW6] at hst6 ⊢
                clear hst5 q1 x2 hW6
                have hu1 := hst6.r.us.cell j
                have hm1 := hst6.r.ms.cell j
                rw [bools_at hjn] at hu1 hm1
                have v1 : hasI U5 n (j : Int) = U5 j := hasI_in hjn
                have v2 : hasI M5 n (j : Int) = M5 j := hasI_in hjn
                obtain ⟨B1, hB1⟩ : ∃ B, U5 j = B := ⟨_, rfl⟩
                obtain ⟨B2, hB2⟩ : ∃ B, M5 j = B := ⟨_, rfl⟩
                rw [hB1] at hu1 v1
                rw [hB2] at hm1 v2
                have V1 := Lib.hid v1
                have V2 := Lib.hid v2
                have b1 : (B1 != B1) = false := by simp
                have b2 : (B2 != B2) = false := by simp
                clear v1 v2 hB1 hB2
                obtain ⟨N, hN⟩ : ∃ N, cnt U5 n = N := ⟨_, rfl⟩
                obtain ⟨Fu, hFu⟩ : ∃ B, full U5 n fr5 = B := ⟨_, rfl⟩
                obtain ⟨A, hA⟩ : ∃ A, adr a0 a1 n (j : Int) = A := ⟨_, rfl⟩
                have HN := Lib.hid hN
                have HFu := Lib.hid hFu
                have HA := Lib.hid hA
                have k1 : ((N : Int) != (N : Int)) = false := by simp
                have k2 : (Fu != Fu) = false := by simp
                have k3 : (A != A) = false := by simp
                clear hN hFu hA
                go_upto_region 26 with fail
                obtain ⟨L, hL⟩ : ∃ L : World → Prop, ∀ w', L w' ↔ (w'.cell? ⟨q, 1, none⟩ = some (.int .i64 (j : Int)) ∧ w'.cell? ⟨x, 2, none⟩ = some (.slice (some ⟨pu, 0, none⟩) n n) ∧ w'.cell? ⟨x, 3, none⟩ = some (.slice (some ⟨pm, 0, none⟩) n n) ∧ w'.cell? ⟨pu, j, none⟩ = some (.bool B1) ∧ w'.cell? ⟨pm, j, none⟩ = some (.bool B2)) := ⟨_, fun _ => Iff.rfl⟩
                have hS1 : ∀ x' : { w' : World // L w' }, x'.1.cell? ⟨q, 1, none⟩ = some (.int .i64 (j : Int)) := fun x' => ((hL _).1 x'.2).1
                have hS2 : ∀ x' : { w' : World // L w' }, x'.1.cell? ⟨x, 2, none⟩ = some (.slice (some ⟨pu, 0, none⟩) n n) := fun x' => ((hL _).1 x'.2).2.1
                have hS3 : ∀ x' : { w' : World // L w' }, x'.1.cell? ⟨x, 3, none⟩ = some (.slice (some ⟨pm, 0, none⟩) n n) := fun x' => ((hL _).1 x'.2).2.2.1
                have hS4 : ∀ x' : { w' : World // L w' }, x'.1.cell? ⟨pu, j, none⟩ = some (.bool B1) := fun x' => ((hL _).1 x'.2).2.2.2.1
                have hS5 : ∀ x' : { w' : World // L w' }, x'.1.cell? ⟨pm, j, none⟩ = some (.bool B2) := fun x' => ((hL _).1 x'.2).2.2.2.2
                have hLk : ∀ w', Ch [] W6 w' → L w' := fun w' hc => (hL _).2 ⟨(hst6.still hc).bq.cell 1, (hst6.still hc).r.top.cell 2, (hst6.still hc).r.top.cell 3, by rw [(hst6.still hc).r.us.cell]; rw [hst6.r.us.cell] at hu1; exact hu1, by rw [(hst6.still hc).r.ms.cell]; rw [hst6.r.ms.cell] at hm1; exact hm1⟩
                have hSt : ∀ w', Ch [] W6 w' → SP w w' s x pu pm q a0 a1 n D U5 M5 fr5 fr6 #[.int .i64 kd, .int .i64 (j : Int), .bool bb] := fun w' hc => hst6.still hc
                have HSt := Lib.hid hSt
                have HLk := Lib.hid hLk
                have cc := (Ch.refl [] W6).drewN 1
                have l0 := HLk.out _ cc
                have hSA : Nonempty { w' : World // L w' } := ⟨⟨_, l0⟩⟩
                clear hL hLk hSt hst6
                refine wp_region_plan (Cls L) (List.range 59) (.reads [0, 1, 2, 4] (.only 3 (.reads [5, 6, 7, 8, 9, 10, 11, 12, 13, 14, 15, 16, 17, 18, 19, 21] (.only 20 (.reads [22, 23, 24, 25, 26, 27, 28, 29, 30, 31, 32, 33, 34, 35, 37] (.only 36 (.only 38 (.reads [39, 40, 41, 42, 44] (.only 43 (.only 45 (.reads [46, 47, 48, 49, 50, 51, 53, 54, 55] (.only 52 (.only 56 (.reads [57, 58] .done)))))))))))))) (by as_aux_lemma => kernel_rfl) (by as_aux_lemma => kernel_rfl) (fun _ _ _ _ _ h => h) ?_
                simp only [Plan.reads, Plan.only, List.foldr_cons, List.foldr_nil]
                iterate 4 (refine wpPlan_readS l0 (fun K hK => ?_); simp only [List.getD_cons_zero, List.getD_cons_succ]; go_simp; refine hK _ ?_; clear hK K)
                have y := xUsed (j : Int) (HSt.out _ cc)
                rw [V1.out] at y
                refine wpPlan_only (fun K hK => ?_)
                simp only [List.getD_cons_zero, List.getD_cons_succ]
                go_simp
                refine y.mono ?_; rintro e w11 ⟨rfl, c11⟩
                have cc11 := cc.trans c11
                have l11 := HLk.out _ cc11
                refine hK _ _ (fun _ => Cls.mk l11) ?_
                clear hK K y l0 cc c11
                iterate 16 (refine wpPlan_readS l11 (fun K hK => ?_); simp only [List.getD_cons_zero, List.getD_cons_succ]; go_simp; refine hK _ ?_; clear hK K)
                have y := xMarked (j : Int) (HSt.out _ cc11)
                rw [V2.out] at y
                refine wpPlan_only (fun K hK => ?_)
                simp only [List.getD_cons_zero, List.getD_cons_succ]
                go_simp
                refine y.mono ?_; rintro e w12 ⟨rfl, c12⟩
                have cc12 := cc11.trans c12
                have l12 := HLk.out _ cc12
                refine hK _ _ (fun _ => Cls.mk l12) ?_
                clear hK K y l11 cc11 c12
                iterate 15 (refine wpPlan_readS l12 (fun K hK => ?_); simp only [List.getD_cons_zero, List.getD_cons_succ]; go_simp; refine hK _ ?_; clear hK K)
                have y := xLive1 (HSt.out _ cc12)
                rw [HN.out] at y
                refine wpPlan_only (fun K hK => ?_)
                simp only [List.getD_cons_zero, List.getD_cons_succ]
                go_simp
                refine y.mono ?_; rintro e w13 ⟨rfl, c13⟩
                have cc13 := cc12.trans c13
                have l13 := HLk.out _ cc13
                refine hK _ _ (fun _ => Cls.mk l13) ?_
                clear hK K y l12 cc12 c13
                have y := xLive2 (HSt.out _ cc13)
                rw [HN.out] at y
                refine wpPlan_only (fun K hK => ?_)
                simp only [List.getD_cons_zero, List.getD_cons_succ]
                go_simp
                refine y.mono ?_; rintro e w14 ⟨rfl, c14⟩
                have cc14 := cc13.trans c14
                have l14 := HLk.out _ cc14
                refine hK _ _ (fun _ => Cls.mk l14) ?_
                clear hK K y l13 cc13 c14
                iterate 5 (refine wpPlan_readS l14 (fun K hK => ?_); simp only [List.getD_cons_zero, List.getD_cons_succ]; go_simp; refine hK _ ?_; clear hK K)
                have y := xFull1 (HSt.out _ cc14) hT
                rw [HFu.out] at y
                refine wpPlan_only (fun K hK => ?_)
                simp only [List.getD_cons_zero, List.getD_cons_succ]
                go_simp
                refine y.mono ?_; rintro e w15 ⟨rfl, c15⟩
                have cc15 := cc14.trans c15
                have l15 := HLk.out _ cc15
                refine hK _ _ (fun _ => Cls.mk l15) ?_
                clear hK K y l14 cc14 c15
                have y := xFull2 (HSt.out _ cc15)
                rw [HFu.out] at y
                refine wpPlan_only (fun K hK => ?_)
                simp only [List.getD_cons_zero, List.getD_cons_succ]
                go_simp
                refine y.mono ?_; rintro e w16 ⟨rfl, c16⟩
                have cc16 := cc15.trans c16
                have l16 := HLk.out _ cc16
                refine hK _ _ (fun _ => Cls.mk l16) ?_
                clear hK K y l15 cc15 c16
                iterate 9 (refine wpPlan_readS l16 (fun K hK => ?_); simp only [List.getD_cons_zero, List.getD_cons_succ]; go_simp; refine hK _ ?_; clear hK K)
                have y := xAddr1 (j : Int) (HSt.out _ cc16)
                rw [HA.out] at y
                refine wpPlan_only (fun K hK => ?_)
                simp only [List.getD_cons_zero, List.getD_cons_succ]
                go_simp
                refine y.mono ?_; rintro e w17 ⟨rfl, c17⟩
                have cc17 := cc16.trans c17
                have l17 := HLk.out _ cc17
                refine hK _ _ (fun _ => Cls.mk l17) ?_
                clear hK K y l16 cc16 c17
                have y := xAddr2 (j : Int) (HSt.out _ cc17)
                rw [HA.out] at y
                refine wpPlan_only (fun K hK => ?_)
                simp only [List.getD_cons_zero, List.getD_cons_succ]
                go_simp
                refine y.mono ?_; rintro e w18 ⟨rfl, c18⟩
                have cc18 := cc17.trans c18
                have l18 := HLk.out _ cc18
                refine hK _ _ (fun _ => Cls.mk l18) ?_
                clear hK K y l17 cc17 c18
                iterate 2 (refine wpPlan_readS l18 (fun K hK => ?_); simp only [List.getD_cons_zero, List.getD_cons_succ]; go_simp; refine hK _ ?_; clear hK K)
                refine wpPlan_done ?_
                have h7 := HSt.out _ cc18
                clear hSA l18 cc18
                clear hS1 hS2 hS3 hS4 hS5 hu1 hm1
                have q1 := h7.bq.cell 1
                have y := xAddr1 (j : Int) h7
                rw [HA.out] at y
                go_wp2_with fail
                refine y.mono ?_; rintro e w19 ⟨rfl, c19⟩
                have h8 := h7.still c19
                clear y q1 h7 c19
                have y := xAtIn j h8 hjn
                rw [HA.out] at y
                go_wp2_with fail
                refine y.mono ?_; rintro e w20 ⟨rfl, c20⟩
                have h9 := h8.still c20
                have q1 := h9.bq.cell 1
                have hfin := h9.forget
                clear y h8 c20 h9
                go_wp2_with fail
                go_roundw
                case rel => exact ⟨i + 1, U5, M5, fr5, fr6, by go_num, by omega, by omega, hfin⟩
                case measure => simp [intOf]; omega
            · have hout : I < 0 ∨ (n : Int) ≤ I := by omega
              have HOUT := Lib.hid hout
              have V1 := Lib.hid (show hasI U5 n I = false from hasI_out (by omega))
              have V2 := Lib.hid (show hasI M5 n I = false from hasI_out (by omega))
              have hcs : (decide (I ≥ 0) = true ∧ 0 ≤ I ∧ decide (I < n) = false ∧ ¬ I < n) ∨ (decide (I ≥ 0) = false ∧ ¬ 0 ≤ I) := by
                by_cases h0 : 0 ≤ I
                · exact .inl ⟨decide_eq_true h0, h0, decide_eq_false (by omega), by omega⟩
                · exact .inr ⟨decide_eq_false h0, h0⟩
              clear hin hout
              rcases hcs with ⟨t3, t3n, t4, t4n⟩ | ⟨t3, t3n⟩
              · as_aux_lemma =>
                  go_upto_region 25 with fail
                  go_quiet (fail)
                  have hst6 := hst5.still ((Ch.refl [] wc).drewN nq)
                  obtain ⟨W6, hW6⟩ : ∃ W, wc.drewN nq = W := ⟨_, rfl⟩
                  rw [hW6] at hst6 ⊢
                  clear hst5 q1 x2 hW6
                  obtain ⟨N, hN⟩ : ∃ N, cnt U5 n = N := ⟨_, rfl⟩
                  obtain ⟨Fu, hFu⟩ : ∃ B, full U5 n fr5 = B := ⟨_, rfl⟩
                  obtain ⟨A, hA⟩ : ∃ A, adr a0 a1 n I = A := ⟨_, rfl⟩
                  have HN := Lib.hid hN
                  have HFu := Lib.hid hFu
                  have HA := Lib.hid hA
                  have k1 : ((N : Int) != (N : Int)) = false := by simp
                  have k2 : (Fu != Fu) = false := by simp
                  have k3 : (A != A) = false := by simp
                  clear hN hFu hA
                  go_upto_region 26 with fail
                  obtain ⟨L, hL⟩ : ∃ L : World → Prop, ∀ w', L w' ↔ w'.cell? ⟨q, 1, none⟩ = some (.int .i64 I) := ⟨_, fun _ => Iff.rfl⟩
                  have hS1 : ∀ x' : { w' : World // L w' }, x'.1.cell? ⟨q, 1, none⟩ = some (.int .i64 I) := fun x' => (hL _).1 x'.2
                  have hLk : ∀ w', Ch [] W6 w' → L w' := fun w' hc => (hL _).2 ((hst6.still hc).bq.cell 1)
                  have hSt : ∀ w', Ch [] W6 w' → SP w w' s x pu pm q a0 a1 n D U5 M5 fr5 fr6 #[.int .i64 kd, .int .i64 I, .bool bb] := fun w' hc => hst6.still hc
                  have HSt := Lib.hid hSt
                  have HLk := Lib.hid hLk
                  have cc := (Ch.refl [] W6).drewN 1
                  have l0 := HLk.out _ cc
                  have hSA : Nonempty { w' : World // L w' } := ⟨⟨_, l0⟩⟩
                  clear hL hLk hSt hst6
                  refine wp_region_plan (Cls L) (List.range 59) (.reads [0, 1, 2, 4] (.only 3 (.reads [5, 6, 7, 8, 9, 10, 11, 12, 13, 14, 15, 16, 17, 18, 19, 21] (.only 20 (.reads [22, 23, 24, 25, 26, 27, 28, 29, 30, 31, 32, 33, 34, 35, 37] (.only 36 (.only 38 (.reads [39, 40, 41, 42, 44] (.only 43 (.only 45 (.reads [46, 47, 48, 49, 50, 51, 53, 54, 55] (.only 52 (.only 56 (.reads [57, 58] .done)))))))))))))) (by as_aux_lemma => kernel_rfl) (by as_aux_lemma => kernel_rfl) (fun _ _ _ _ _ h => h) ?_
                  simp only [Plan.reads, Plan.only, List.foldr_cons, List.foldr_nil]
                  iterate 4 (refine wpPlan_readS l0 (fun K hK => ?_); simp only [List.getD_cons_zero, List.getD_cons_succ]; go_simp; refine hK _ ?_; clear hK K)
                  have y := xUsed I (HSt.out _ cc)
                  rw [V1.out] at y
                  refine wpPlan_only (fun K hK => ?_)
                  simp only [List.getD_cons_zero, List.getD_cons_succ]
                  go_simp
                  refine y.mono ?_; rintro e w11 ⟨rfl, c11⟩
                  have cc11 := cc.trans c11
                  have l11 := HLk.out _ cc11
                  refine hK _ _ (fun _ => Cls.mk l11) ?_
                  clear hK K y l0 cc c11
                  iterate 16 (refine wpPlan_readS l11 (fun K hK => ?_); simp only [List.getD_cons_zero, List.getD_cons_succ]; go_simp; refine hK _ ?_; clear hK K)
                  have y := xMarked I (HSt.out _ cc11)
                  rw [V2.out] at y
                  refine wpPlan_only (fun K hK => ?_)
                  simp only [List.getD_cons_zero, List.getD_cons_succ]
                  go_simp
                  refine y.mono ?_; rintro e w12 ⟨rfl, c12⟩
                  have cc12 := cc11.trans c12
                  have l12 := HLk.out _ cc12
                  refine hK _ _ (fun _ => Cls.mk l12) ?_
                  clear hK K y l11 cc11 c12
                  iterate 15 (refine wpPlan_readS l12 (fun K hK => ?_); simp only [List.getD_cons_zero, List.getD_cons_succ]; go_simp; refine hK _ ?_; clear hK K)
                  have y := xLive1 (HSt.out _ cc12)
                  rw [HN.out] at y
                  refine wpPlan_only (fun K hK => ?_)
                  simp only [List.getD_cons_zero, List.getD_cons_succ]
                  go_simp
                  refine y.mono ?_; rintro e w13 ⟨rfl, c13⟩
                  have cc13 := cc12.trans c13
                  have l13 := HLk.out _ cc13
                  refine hK _ _ (fun _ => Cls.mk l13) ?_
                  clear hK K y l12 cc12 c13
                  have y := xLive2 (HSt.out _ cc13)
                  rw [HN.out] at y
                  refine wpPlan_only (fun K hK => ?_)
                  simp only [List.getD_cons_zero, List.getD_cons_succ]
                  go_simp
                  refine y.mono ?_; rintro e w14 ⟨rfl, c14⟩
                  have cc14 := cc13.trans c14
                  have l14 := HLk.out _ cc14
                  refine hK _ _ (fun _ => Cls.mk l14) ?_
                  clear hK K y l13 cc13 c14
                  iterate 5 (refine wpPlan_readS l14 (fun K hK => ?_); simp only [List.getD_cons_zero, List.getD_cons_succ]; go_simp; refine hK _ ?_; clear hK K)
                  have y := xFull1 (HSt.out _ cc14) hT
                  rw [HFu.out] at y
                  refine wpPlan_only (fun K hK => ?_)
                  simp only [List.getD_cons_zero, List.getD_cons_succ]
                  go_simp
                  refine y.mono ?_; rintro e w15 ⟨rfl, c15⟩
                  have cc15 := cc14.trans c15
                  have l15 := HLk.out _ cc15
                  refine hK _ _ (fun _ => Cls.mk l15) ?_
                  clear hK K y l14 cc14 c15
                  have y := xFull2 (HSt.out _ cc15)
                  rw [HFu.out] at y
                  refine wpPlan_only (fun K hK => ?_)
                  simp only [List.getD_cons_zero, List.getD_cons_succ]
                  go_simp
                  refine y.mono ?_; rintro e w16 ⟨rfl, c16⟩
                  have cc16 := cc15.trans c16
                  have l16 := HLk.out _ cc16
                  refine hK _ _ (fun _ => Cls.mk l16) ?_
                  clear hK K y l15 cc15 c16
                  iterate 9 (refine wpPlan_readS l16 (fun K hK => ?_); simp only [List.getD_cons_zero, List.getD_cons_succ]; go_simp; refine hK _ ?_; clear hK K)
                  have y := xAddr1 I (HSt.out _ cc16)
                  rw [HA.out] at y
                  refine wpPlan_only (fun K hK => ?_)
                  simp only [List.getD_cons_zero, List.getD_cons_succ]
                  go_simp
                  refine y.mono ?_; rintro e w17 ⟨rfl, c17⟩
                  have cc17 := cc16.trans c17
                  have l17 := HLk.out _ cc17
                  refine hK _ _ (fun _ => Cls.mk l17) ?_
                  clear hK K y l16 cc16 c17
                  have y := xAddr2 I (HSt.out _ cc17)
                  rw [HA.out] at y
                  refine wpPlan_only (fun K hK => ?_)
                  simp only [List.getD_cons_zero, List.getD_cons_succ]
                  go_simp
                  refine y.mono ?_; rintro e w18 ⟨rfl, c18⟩
                  have cc18 := cc17.trans c18
                  have l18 := HLk.out _ cc18
                  refine hK _ _ (fun _ => Cls.mk l18) ?_
                  clear hK K y l17 cc17 c18
                  iterate 2 (refine wpPlan_readS l18 (fun K hK => ?_); simp only [List.getD_cons_zero, List.getD_cons_succ]; go_simp; refine hK _ ?_; clear hK K)
                  refine wpPlan_done ?_
                  have h7 := HSt.out _ cc18
                  clear hSA l18 cc18
                  clear hS1
                  have q1 := h7.bq.cell 1
                  have y := xAddr1 I h7
                  rw [HA.out] at y
                  go_wp2_with fail
                  refine y.mono ?_; rintro e w19 ⟨rfl, c19⟩
                  have h8 := h7.still c19
                  clear y q1 h7 c19
                  have y := xAtOut I h8 HOUT.out
                  rw [HA.out] at y
                  go_wp2_with fail
                  refine y.mono ?_; rintro e w20 ⟨rfl, c20⟩
                  have h9 := h8.still c20
                  have q1 := h9.bq.cell 1
                  have hfin := h9.forget
                  clear y h8 c20 h9
                  go_wp2_with fail
                  go_roundw
                  case rel => exact ⟨i + 1, U5, M5, fr5, fr6, by go_num, by omega, by omega, hfin⟩
                  case measure => simp [intOf]; omega
              · as_aux_lemma =>
                  go_upto_region 25 with fail
                  go_quiet (fail)
                  have hst6 := hst5.still ((Ch.refl [] wc).drewN nq)
                  obtain ⟨W6, hW6⟩ : ∃ W, wc.drewN nq = W := ⟨_, rfl⟩
                  rw [hW6] at hst6 ⊢
                  clear hst5 q1 x2 hW6
                  obtain ⟨N, hN⟩ : ∃ N, cnt U5 n = N := ⟨_, rfl⟩
                  obtain ⟨Fu, hFu⟩ : ∃ B, full U5 n fr5 = B := ⟨_, rfl⟩
                  obtain ⟨A, hA⟩ : ∃ A, adr a0 a1 n I = A := ⟨_, rfl⟩
                  have HN := Lib.hid hN
                  have HFu := Lib.hid hFu
                  have HA := Lib.hid hA
                  have k1 : ((N : Int) != (N : Int)) = false := by simp
                  have k2 : (Fu != Fu) = false := by simp
                  have k3 : (A != A) = false := by simp
                  clear hN hFu hA
                  go_upto_region 26 with fail
                  obtain ⟨L, hL⟩ : ∃ L : World → Prop, ∀ w', L w' ↔ w'.cell? ⟨q, 1, none⟩ = some (.int .i64 I) := ⟨_, fun _ => Iff.rfl⟩
                  have hS1 : ∀ x' : { w' : World // L w' }, x'.1.cell? ⟨q, 1, none⟩ = some (.int .i64 I) := fun x' => (hL _).1 x'.2
                  have hLk : ∀ w', Ch [] W6 w' → L w' := fun w' hc => (hL _).2 ((hst6.still hc).bq.cell 1)
                  have hSt : ∀ w', Ch [] W6 w' → SP w w' s x pu pm q a0 a1 n D U5 M5 fr5 fr6 #[.int .i64 kd, .int .i64 I, .bool bb] := fun w' hc => hst6.still hc
                  have HSt := Lib.hid hSt
                  have HLk := Lib.hid hLk
                  have cc := (Ch.refl [] W6).drewN 1
                  have l0 := HLk.out _ cc
                  have hSA : Nonempty { w' : World // L w' } := ⟨⟨_, l0⟩⟩
                  clear hL hLk hSt hst6
                  refine wp_region_plan (Cls L) (List.range 59) (.reads [0, 1, 2, 4] (.only 3 (.reads [5, 6, 7, 8, 9, 10, 11, 12, 13, 14, 15, 16, 17, 18, 19, 21] (.only 20 (.reads [22, 23, 24, 25, 26, 27, 28, 29, 30, 31, 32, 33, 34, 35, 37] (.only 36 (.only 38 (.reads [39, 40, 41, 42, 44] (.only 43 (.only 45 (.reads [46, 47, 48, 49, 50, 51, 53, 54, 55] (.only 52 (.only 56 (.reads [57, 58] .done)))))))))))))) (by as_aux_lemma => kernel_rfl) (by as_aux_lemma => kernel_rfl) (fun _ _ _ _ _ h => h) ?_
                  simp only [Plan.reads, Plan.only, List.foldr_cons, List.foldr_nil]
                  iterate 4 (refine wpPlan_readS l0 (fun K hK => ?_); simp only [List.getD_cons_zero, List.getD_cons_succ]; go_simp; refine hK _ ?_; clear hK K)
                  have y := xUsed I (HSt.out _ cc)
                  rw [V1.out] at y
                  refine wpPlan_only (fun K hK => ?_)
                  simp only [List.getD_cons_zero, List.getD_cons_succ]
                  go_simp
                  refine y.mono ?_; rintro e w11 ⟨rfl, c11⟩
                  have cc11 := cc.trans c11
                  have l11 := HLk.out _ cc11
                  refine hK _ _ (fun _ => Cls.mk l11) ?_
                  clear hK K y l0 cc c11
                  iterate 16 (refine wpPlan_readS l11 (fun K hK => ?_); simp only [List.getD_cons_zero, List.getD_cons_succ]; go_simp; refine hK _ ?_; clear hK K)
                  have y := xMarked I (HSt.out _ cc11)
                  rw [V2.out] at y
                  refine wpPlan_only (fun K hK => ?_)
                  simp only [List.getD_cons_zero, List.getD_cons_succ]
                  go_simp
                  refine y.mono ?_; rintro e w12 ⟨rfl, c12⟩
                  have cc12 := cc11.trans c12
                  have l12 := HLk.out _ cc12
                  refine hK _ _ (fun _ => Cls.mk l12) ?_
                  clear hK K y l11 cc11 c12
                  iterate 15 (refine wpPlan_readS l12 (fun K hK => ?_); simp only [List.getD_cons_zero, List.getD_cons_succ]; go_simp; refine hK _ ?_; clear hK K)
                  have y := xLive1 (HSt.out _ cc12)
                  rw [HN.out] at y
                  refine wpPlan_only (fun K hK => ?_)
                  simp only [List.getD_cons_zero, List.getD_cons_succ]
                  go_simp
                  refine y.mono ?_; rintro e w13 ⟨rfl, c13⟩
                  have cc13 := cc12.trans c13
                  have l13 := HLk.out _ cc13
                  refine hK _ _ (fun _ => Cls.mk l13) ?_
                  clear hK K y l12 cc12 c13
                  have y := xLive2 (HSt.out _ cc13)
                  rw [HN.out] at y
                  refine wpPlan_only (fun K hK => ?_)
                  simp only [List.getD_cons_zero, List.getD_cons_succ]
                  go_simp
                  refine y.mono ?_; rintro e w14 ⟨rfl, c14⟩
                  have cc14 := cc13.trans c14
                  have l14 := HLk.out _ cc14
                  refine hK _ _ (fun _ => Cls.mk l14) ?_
                  clear hK K y l13 cc13 c14
                  iterate 5 (refine wpPlan_readS l14 (fun K hK => ?_); simp only [List.getD_cons_zero, List.getD_cons_succ]; go_simp; refine hK _ ?_; clear hK K)
                  have y := xFull1 (HSt.out _ cc14) hT
                  rw [HFu.out] at y
                  refine wpPlan_only (fun K hK => ?_)
                  simp only [List.getD_cons_zero, List.getD_cons_succ]
                  go_simp
                  refine y.mono ?_; rintro e w15 ⟨rfl, c15⟩
                  have cc15 := cc14.trans c15
                  have l15 := HLk.out _ cc15
                  refine hK _ _ (fun _ => Cls.mk l15) ?_
                  clear hK K y l14 cc14 c15
                  have y := xFull2 (HSt.out _ cc15)
                  rw [HFu.out] at y
                  refine wpPlan_only (fun K hK => ?_)
                  simp only [List.getD_cons_zero, List.getD_cons_succ]
                  go_simp
                  refine y.mono ?_; rintro e w16 ⟨rfl, c16⟩
                  have cc16 := cc15.trans c16
                  have l16 := HLk.out _ cc16
                  refine hK _ _ (fun _ => Cls.mk l16) ?_
                  clear hK K y l15 cc15 c16
                  iterate 9 (refine wpPlan_readS l16 (fun K hK => ?_); simp only [List.getD_cons_zero, List.getD_cons_succ]; go_simp; refine hK _ ?_; clear hK K)
                  have y := xAddr1 I (HSt.out _ cc16)
                  rw [HA.out] at y
                  refine wpPlan_only (fun K hK => ?_)
                  simp only [List.getD_cons_zero, List.getD_cons_succ]
                  go_simp
                  refine y.mono ?_; rintro e w17 ⟨rfl, c17⟩
                  have cc17 := cc16.trans c17
                  have l17 := HLk.out _ cc17
                  refine hK _ _ (fun _ => Cls.mk l17) ?_
                  clear hK K y l16 cc16 c17
                  have y := xAddr2 I (HSt.out _ cc17)
                  rw [HA.out] at y
                  refine wpPlan_only (fun K hK => ?_)
                  simp only [List.getD_cons_zero, List.getD_cons_succ]
                  go_simp
                  refine y.mono ?_; rintro e w18 ⟨rfl, c18⟩
                  have cc18 := cc17.trans c18
                  have l18 := HLk.out _ cc18
                  refine hK _ _ (fun _ => Cls.mk l18) ?_
                  clear hK K y l17 cc17 c18
                  iterate 2 (refine wpPlan_readS l18 (fun K hK => ?_); simp only [List.getD_cons_zero, List.getD_cons_succ]; go_simp; refine hK _ ?_; clear hK K)
                  refine wpPlan_done ?_
                  have h7 := HSt.out _ cc18
                  clear hSA l18 cc18
                  clear hS1
                  have q1 := h7.bq.cell 1
                  have y := xAddr1 I h7
                  rw [HA.out] at y
                  go_wp2_with fail
                  refine y.mono ?_; rintro e w19 ⟨rfl, c19⟩
                  have h8 := h7.still c19
                  clear y q1 h7 c19
                  have y := xAtOut I h8 HOUT.out
                  rw [HA.out] at y
                  go_wp2_with fail
                  refine y.mono ?_; rintro e w20 ⟨rfl, c20⟩
                  have h9 := h8.still c20
                  have q1 := h9.bq.cell 1
                  have hfin := h9.forget
                  clear y h8 c20 h9
                  go_wp2_with fail
                  go_roundw
                  case rel => exact ⟨i + 1, U5, M5, fr5, fr6, by go_num, by omega, by omega, hfin⟩
                  case measure => simp [intOf]; omega
        · have t1 : decide ((i : Int) < len) = true := decide_eq_true (by omega)
          have t2 : decide ((i : Int) < 100) = false := decide_eq_false (by omega)
          go_wp2_with fail
          refine (told6 _ (hst.p.tab hT)).mono ?_; rintro e w3 ⟨rfl, c3⟩
          go_wp2
          go_ret
          exact ⟨rfl, (hst.p.ch.trans c3).below (Nat.le_refl _) (by simp)⟩
      · have t1 : decide ((i : Int) < len) = false := decide_eq_false (by omega)
        go_wp2_with fail
        refine (told6 _ (hst.p.tab hT)).mono ?_; rintro e w3 ⟨rfl, c3⟩
        go_wp2
        go_ret
        exact ⟨rfl, (hst.p.ch.trans c3).below (Nat.le_refl _) (by simp)⟩
end Go.Proofs.YtheniiinioggiaaDoor
