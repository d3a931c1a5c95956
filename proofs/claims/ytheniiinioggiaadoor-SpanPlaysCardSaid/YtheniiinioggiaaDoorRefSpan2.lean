/-
  Contracts of the document's answer for layer 6 (a span): Sweep, Addr, NewSpan. Conditions: none beyond what each theorem names.
-/
import Derived.Test.YtheniiinioggiaaDoorRefSpan
namespace Go.Proofs.YtheniiinioggiaaDoor
open Go.RowKit
def swU (U M : Nat → Bool) (i : Nat) : Nat → Bool := fun t => if t < i then U t && M t else U t
def swM (M : Nat → Bool) (i : Nat) : Nat → Bool := fun t => if t < i then false else M t
def offS (U M : Nat → Bool) : Nat → Bool := fun t => U t && !M t
theorem swU_at (U M : Nat → Bool) (i : Nat) : swU U M i i = U i := by unfold swU; rw [if_neg (by omega)]
theorem swM_at (M : Nat → Bool) (i : Nat) : swM M i i = M i := by unfold swM; rw [if_neg (by omega)]
theorem swU_off {U M : Nat → Bool} {i : Nat} (h : offS U M i = true) : upd (swU U M i) i false = swU U M (i + 1) := by
  funext t
  unfold upd swU
  by_cases ht : t = i
  · subst ht
    rw [if_pos rfl, if_pos (by omega)]
    unfold offS at h
    cases hU : U t <;> cases hM : M t <;> simp [hU, hM] at h ⊢
  · rw [if_neg ht]
    by_cases h1 : t < i
    · rw [if_pos h1, if_pos (by omega)]
    · rw [if_neg h1, if_neg (by omega)]
theorem swU_on {U M : Nat → Bool} {i : Nat} (h : offS U M i = false) : swU U M i = swU U M (i + 1) := by
  funext t
  unfold swU
  by_cases ht : t = i
  · subst ht
    rw [if_neg (by omega), if_pos (by omega)]
    unfold offS at h
    cases hU : U t <;> cases hM : M t <;> simp [hU, hM] at h ⊢
  · by_cases h1 : t < i
    · rw [if_pos h1, if_pos (by omega)]
    · rw [if_neg h1, if_neg (by omega)]
theorem swM_step (M : Nat → Bool) (i : Nat) : upd (swM M i) i false = swM M (i + 1) := by
  funext t
  unfold upd swM
  by_cases ht : t = i
  · subst ht
    rw [if_pos rfl, if_pos (by omega)]
  · rw [if_neg ht]
    by_cases h1 : t < i
    · rw [if_pos h1, if_pos (by omega)]
    · rw [if_neg h1, if_neg (by omega)]
theorem off_gone (U M : Nat → Bool) (n : Nat) : els (offS U M) n = gone U M n := by
  refine eq_of_SS _ _ (SS_els _ _) ((SS_els _ _).filter _) (fun x => ?_)
  unfold gone
  rw [List.mem_filter, mem_els, mem_els]
  by_cases hx : 0 ≤ x ∧ x < (n : Int)
  · obtain ⟨y, rfl⟩ : ∃ y : Nat, x = y := ⟨x.toNat, by omega⟩
    rw [hasI_in (by omega), hasI_in (by omega), hasI_in (by omega)]
    simp [offS]
  · rw [hasI_out (show x < 0 ∨ (n : Int) ≤ x by omega), hasI_out (show x < 0 ∨ (n : Int) ≤ x by omega)]
    simp
section
variable {w w2 w0 : World} {x n pu pm fr fr2 : Nat} {f k : Int} {U M U2 M2 : Nat → Bool} {S : List Nat}
set_option maxHeartbeats 1000000 in
theorem refSpSweep (h : RS w x f k n pu pm U M fr) (hn : n ≤ 1000) (hB : x < w.heap.size ∧ pu < w.heap.size ∧ pm < w.heap.size) :
    Calls Tryd.prog 47 #[.pointer (some ⟨x, 0, none⟩)] w fun e w' => ∃ v, e = .returned v ∧ OwI w' w.heap.size v (gone U M n) ∧ RS w' x f k n pu pm (swU U M n) none_ 0 ∧ Ch [x, pu, pm] w w' := by
  have HB := Lib.hid hB
  have h0 : RS w x f k n pu pm (swU U M 0) (swM M 0) fr := h.congr (fun j _ => by simp [swU]) (fun j _ => by simp [swM])
  clear hB h
  go_enter Tryd.func47, Tryd.ntmps47
  go_wp2_with fail
  go_loopw [3, 4] (fun s3 s4 wr => ∃ (j : Nat) (v : Value), s4 = .int .i64 j ∧ j ≤ n ∧ v = s3 ∧ RS wr x f k n pu pm (swU U M j) (swM M j) fr ∧ OwI wr w.heap.size v (els (offS U M) j) ∧ Ch [x, pu, pm] w wr) (fun _ s4 _ => n - (intOf s4).toNat)
  case atStart => exact ⟨0, .slice none 0 0, rfl, by omega, rfl, h0, OwI.nil _ _, Ch.refl _ _⟩
  case round =>
    clear h0
    obtain ⟨j, v, rfl, hj, rfl, hR, hO, hc⟩ := hrel
    have c2 := hR.top.cell 2
    have c3 := hR.top.cell 3
    by_cases hlt : j < n
    · have t1 : decide ((j : Int) < n) = true := decide_eq_true (by omega)
      have d1 := hR.us.cell j
      have d2 := hR.ms.cell j
      rw [bools_at hlt, swU_at] at d1
      rw [bools_at hlt, swM_at] at d2
      cases hoff : offS U M j with
      | true =>
        have hUM : U j = true ∧ M j = false := by simpa [offS] using hoff
        rw [hUM.1] at d1
        rw [hUM.2] at d2
        have f1 := hR.us.frozen j
        have HE := Lib.hid (show els (offS U M) (j + 1) = els (offS U M) j ++ [(j : Int)] by rw [els_succ, hoff]; simp)
        obtain ⟨R1, q1⟩ := hR.setU j false
        rw [swU_off hoff] at R1
        clear hoff hUM
        go_upto_region 7 with fail
        obtain ⟨W1, hW1⟩ : ∃ W, wr.setCell ⟨pu, j, none⟩ (.bool false) = W := ⟨_, rfl⟩
        rw [hW1] at R1 q1 ⊢
        have hpu : ∀ k ∈ [pu], k < w.heap.size := by intro k hk; simp at hk; subst hk; exact HB.out.2.1
        have O1 := hO.keepLt q1 hpu
        have C1 := hc.trans (q1.mono (T := [x, pu, pm]) (by simp))
        clear hW1 hR hO hc d1 d2 f1 c2 c3 q1 hpu
        have hXl : (els (offS U M) j).length ≤ 1000 := by rw [els_len]; have := cnt_le (offS U M) j; omega
        obtain ⟨a3, q3, rfl, z1, z2, _⟩ := O1.form
        obtain ⟨X, hX⟩ : ∃ X, els (offS U M) j = X := ⟨_, rfl⟩
        rw [hX] at O1 z1 hXl ⊢
        have HE2 := Lib.hid (show els (offS U M) (j + 1) = X ++ [(j : Int)] by rw [HE.out, hX])
        obtain ⟨l, hl⟩ : ∃ l, X.length = l := ⟨_, rfl⟩
        rw [hl] at O1 z1 hXl ⊢
        have HXL := Lib.hid hl
        have ca := (Ch.refl [] W1).alloc (.cells #[.int .i64 (j : Int)] 3)
        have O2 := O1.alloc (.cells #[.int .i64 (j : Int)] 3)
        have R2 := R1.still ca
        have C2 := C1.trans (ca.mono (by simp))
        have hB2 := C2.size
        clear hl hX O1 R1 C1 ca
        go_wp2_with (at_builtin; refine wpList_app rfl (.tmp 37) (.tmp 39) rfl w.heap.size _ X rfl O2 hB2 _ [(j : Int)] rfl (srcOne W1 (j : Int)) (by have := HXL.out; simp; omega) ?_)
        intro v' W3 hv' q3' n3
        have hno : ∀ y, (Value.slice a3 l q3).ownBlock = some y → w.heap.size ≤ y := O2.2
        have R3 := R2.keep q3' (by intro hk; have := hno x (by simpa using hk); have := HB.out; omega) (by intro hk; have := hno pu (by simpa using hk); have := HB.out; omega) (by intro hk; have := hno pm (by simpa using hk); have := HB.out; omega)
        have C3 := C2.transT q3' (fun y hy => .inr (hno y (by simpa using hy)))
        rw [← HE2.out] at hv'
        clear R2 C2 O2 q3' n3 hno
        have m3 := R3.top.cell 3
        have d2 := R3.ms.cell j
        have f2 := R3.ms.frozen j
        rw [bools_at hlt] at d2
        obtain ⟨R4, q4⟩ := R3.setM j false
        rw [swM_step] at R4
        have hpm : ∀ k ∈ [pm], k < w.heap.size := by intro k hk; simp at hk; subst hk; exact HB.out.2.2
        have O4 := hv'.keepLt q4 hpm
        have C4 := C3.trans (q4.mono (T := [x, pu, pm]) (by simp))
        go_wp2_with fail
        go_roundw
        case rel => exact ⟨j + 1, v', by go_num, by omega, rfl, R4, O4, C4⟩
        case measure => simp [intOf]; omega
      | false =>
        have f2 := hR.ms.frozen j
        have HE := Lib.hid (show els (offS U M) (j + 1) = els (offS U M) j by rw [els_succ, hoff]; simp)
        have R1 := hR
        rw [swU_on hoff] at R1
        obtain ⟨R4, q4⟩ := R1.setM j false
        rw [swM_step] at R4
        have hpm : ∀ k ∈ [pm], k < w.heap.size := by intro k hk; simp at hk; subst hk; exact HB.out.2.2
        have O4 := hO.keepLt q4 hpm
        have C4 := hc.trans (q4.mono (T := [x, pu, pm]) (by simp))
        rw [← HE.out] at O4
        clear R1 hR hO hc q4 hpm
        cases hU : U j with
        | false =>
          rw [hU] at d1
          clear hoff hU
          go_wp2_with fail
          go_roundw
          case rel => exact ⟨j + 1, v, by go_num, by omega, rfl, R4, O4, C4⟩
          case measure => simp [intOf]; omega
        | true =>
          have hM : M j = true := by unfold offS at hoff; rw [hU] at hoff; simpa using hoff
          rw [hU] at d1
          rw [hM] at d2
          clear hoff hU hM
          go_wp2_with fail
          go_roundw
          case rel => exact ⟨j + 1, v, by go_num, by omega, rfl, R4, O4, C4⟩
          case measure => simp [intOf]; omega
    · obtain rfl : n = j := by omega
      have t1 : decide ((n : Int) < n) = false := decide_eq_false (by omega)
      have hR2 : RS wr x f k n pu pm (swU U M n) none_ fr := hR.congr (fun _ _ => rfl) (fun j hj => by unfold swM none_; rw [if_pos hj])
      rw [off_gone] at hO
      have c4 := hR2.top.cell 4
      have f4 := hR2.top.frozen 4
      obtain ⟨R1, q1⟩ := hR2.setFr 0
      have hx : ∀ k ∈ [x], k < w.heap.size := by intro k hk; simp at hk; subst hk; exact HB.out.1
      have O1 := hO.keepLt q1 hx
      have C1 := hc.trans (q1.mono (T := [x, pu, pm]) (by simp))
      clear hR hR2 hO hc
      go_wp2_with fail
      go_ret
      exact ⟨v, rfl, O1, R1, C1⟩
theorem refSpAddrNo (i : Int) (h : RS w x f k n pu pm U M fr) (hi : i < 0 ∨ (n : Int) ≤ i) : Calls Tryd.prog 50 #[.pointer (some ⟨x, 0, none⟩), .int .i64 i] w fun e w' => e = .returned (.int .i64 0) ∧ w' = w := by
  have c2 := h.top.cell 2
  by_cases h0 : i < 0
  · have t1 : decide (i < 0) = true := decide_eq_true h0
    clear hi
    go_enter Tryd.func50, Tryd.ntmps50
    go_wp2_with fail
    go_ret
    exact ⟨rfl, rfl⟩
  · have t1 : decide (i < 0) = false := decide_eq_false h0
    have t2 : decide (i ≥ n) = true := decide_eq_true (by omega)
    clear hi
    go_enter Tryd.func50, Tryd.ntmps50
    go_wp2_with fail
    go_ret
    exact ⟨rfl, rfl⟩
theorem refSpAddrYes (i : Nat) (h : RS w x f k n pu pm U M fr) (hi : i < n) (hn : n ≤ 256) (hz : 0 < sz k) (hf : 1 ≤ f ∧ f ≤ 262144) : Calls Tryd.prog 50 #[.pointer (some ⟨x, 0, none⟩), .int .i64 i] w fun e w' => e = .returned (.int .i64 (f * 64 + i * sz k)) ∧ Ch [] w w' := by
  have cd := (Ch.refl [] w).drewN 1
  have hrs := rsize_any k (w.drewN 1)
  obtain ⟨hk, z1, z2⟩ := sz_range (Int.ne_of_gt hz)
  obtain ⟨z, hzz⟩ : ∃ z : Nat, sz k = (z : Int) := ⟨(sz k).toNat, by omega⟩
  rw [hzz] at hrs z1 z2 ⊢
  obtain ⟨p, hp⟩ : ∃ p : Nat, i * z = p := ⟨_, rfl⟩
  have hpl : p ≤ 256 * 256 := by rw [← hp]; exact Nat.mul_le_mul (by omega) (by omega)
  have hpi : (i : Int) * (z : Int) = (p : Int) := by rw [← hp]; push_cast; rfl
  obtain ⟨f1, f2⟩ := hf
  have w7 : IntKind.i64.wrap (f * 64) = f * 64 := IntWalk.i64_in _ (by omega)
  have w8 : IntKind.i64.wrap ((i : Int) * (z : Int)) = (p : Int) := by rw [hpi]; exact IntWalk.i64_in _ (by omega)
  have w9 : IntKind.i64.wrap (f * 64 + (p : Int)) = f * 64 + (p : Int) := IntWalk.i64_in _ (by omega)
  rw [hpi]
  have c2 := h.top.cell 2
  have t1 : decide ((i : Int) < 0) = false := decide_eq_false (by omega)
  have t2 : decide ((i : Int) ≥ (n : Int)) = false := decide_eq_false (by omega)
  obtain ⟨L, hL⟩ : ∃ L : World → Prop, ∀ w', L w' ↔ (w'.cell? ⟨x, 0, none⟩ = some (.int .i64 f) ∧ w'.cell? ⟨x, 1, none⟩ = some (.int .i64 k)) := ⟨_, fun _ => Iff.rfl⟩
  have hS1 : ∀ x' : { w' : World // L w' }, x'.1.cell? ⟨x, 0, none⟩ = some (.int .i64 f) := fun x' => ((hL _).1 x'.2).1
  have hS2 : ∀ x' : { w' : World // L w' }, x'.1.cell? ⟨x, 1, none⟩ = some (.int .i64 k) := fun x' => ((hL _).1 x'.2).2
  have hLk : ∀ w', Ch [] w w' → L w' := fun w' hc => (hL _).2 ⟨(h.still hc).top.cell 0, (h.still hc).top.cell 1⟩
  have hS0 := hLk _ cd
  have hSA : Nonempty { w' : World // L w' } := ⟨⟨_, hS0⟩⟩
  have HLk := Lib.hid hLk
  clear h hL hLk hp hpi hzz
  go_enter Tryd.func50, Tryd.ntmps50
  go_upto_region 3 with fail
  refine wp_region_plan (Cls L) (List.range 14) (.reads [0, 1, 2, 3, 4, 5, 6, 7, 8, 9] (.only 10 (.reads [11, 12, 13] .done))) (by kernel_rfl) (by kernel_rfl) (fun _ _ _ _ _ h => h) ?_
  simp only [Plan.reads, Plan.only, List.foldr_cons, List.foldr_nil]
  iterate 10 (refine wpPlan_readS hS0 (fun K hK => ?_); simp only [List.getD_cons_zero, List.getD_cons_succ]; go_simp; refine hK _ ?_; clear hK K)
  refine wpPlan_only (fun K hK => ?_)
  simp only [List.getD_cons_zero, List.getD_cons_succ]
  go_simp
  refine hrs.mono ?_; rintro e w3 ⟨rfl, c3⟩
  have cc := cd.trans c3
  have l3 := HLk.out _ cc
  refine hK _ _ (fun _ => Cls.mk l3) ?_
  clear hK K hrs c3
  iterate 3 (refine wpPlan_readS l3 (fun K hK => ?_); simp only [List.getD_cons_zero, List.getD_cons_succ]; go_simp; refine hK _ ?_; clear hK K)
  refine wpPlan_done ?_
  clear hS0 hS1 hS2 hSA l3
  go_wp2_with fail
  go_ret
  exact ⟨rfl, cc⟩
end
end Go.Proofs.YtheniiinioggiaaDoor
