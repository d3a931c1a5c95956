/-
  Contracts of package sched: Drop, New. Conditions: none beyond what each theorem names.
-/
import Derived.Test.YteghenfdncgpeaaSch3
namespace Go.Proofs.Yteghenfdncgpeaa
open Go.RowKit
def dropS (st : SSt) (p : Nat) : SSt := (st.setRing p (st.nx p) false []).setCom (st.com ++ allS st p)
theorem ringList_get (nx : Int) (hs : Bool) (Y : List Int) : ringList nx false (getX hs Y) = (ringList nx hs Y).tail := by
  cases hs <;> rfl
theorem ringList_nil {nx : Int} {hs : Bool} {Y : List Int} (h : ringList nx hs Y = []) : hs = false ∧ Y = [] := by
  cases hs with
  | true => cases h
  | false => exact ⟨rfl, h⟩
theorem setRing_set (st : SSt) (i : Nat) (a b : Int) (h1 h2 : Bool) (l m : List Int) : (st.setRing i a h1 l).setRing i b h2 m = st.setRing i b h2 m := by
  unfold SSt.setRing
  simp only [updN_upd]
theorem setRing_self (st : SSt) (i : Nat) : st.setRing i (st.nx i) (st.hs i) (st.row i) = st := by
  unfold SSt.setRing
  simp only [updN_self]
section
variable {w w1 w2 : World} {s c i x : Nat} {vs v v' : Value} {X S : List Nat} {st : SSt}
theorem schDropNo (j : Int) (h : SchedAt w s c vs v X st) (hj : hasP X.length j = false) :
    Calls Try.prog 48 #[.pointer (some ⟨s, 0, none⟩), .int .i64 j] w fun e w' => e = .returned (.int .i64 0) ∧ w' = w := by
  have hh := schHas j h
  rw [hj] at hh
  clear h
  go_enter Try.func48, Try.ntmps48
  go_wp2_with fail
  refine hh.mono ?_; rintro e w1 ⟨rfl, rfl⟩
  go_wp2_with fail
  go_ret
  exact ⟨rfl, rfl⟩
set_option maxHeartbeats 1000000 in
theorem schDrop (h : SchedAt w s c vs v X st) (hx : X[i]? = some x) (hl : st.com.length ≤ 90000) :
    Calls Try.prog 48 #[.pointer (some ⟨s, 0, none⟩), .int .i64 i] w fun e w' => e = .returned (.int .i64 (allS st i).length) ∧ SchT w s c vs v X (dropS st i) w' := by
  have hi := (List.getElem?_eq_some_iff.1 hx).1
  have hh := schHas i h
  rw [show hasP X.length i = true from decide_eq_true (by omega)] at hh
  have hA := ringAll x _ _ _ w (h.ring i x hx)
  have hle := allS_len st i
  have hrl := h.rowLe hi
  obtain ⟨gg, oo, cap, rfl, hcap, d0, hfd⟩ := h.found hx
  obtain ⟨n, hn⟩ : ∃ n, X.length = n := ⟨_, rfl⟩
  rw [hn] at h hi hfd ⊢
  have t1 : (i : Int) < n := by omega
  have t2 : (0 : Int) ≤ i := by omega
  have q0 := (hfd w v st h).1
  have HFD := Lib.hid hfd
  have hLL : ringList (st.nx i) (st.hs i) (st.row i) = allS st i := rfl
  rw [hLL] at hA
  have hxb := (h.ring i x hx).lt
  obtain ⟨L, hL⟩ : ∃ L, allS st i = L := ⟨_, rfl⟩
  rw [hL] at hA hle ⊢
  obtain ⟨m, hm⟩ : ∃ m, L.length = m := ⟨_, rfl⟩
  have HL := Lib.hid hL
  have HM := Lib.hid hm
  clear hn hcap hfd hL
  go_enter Try.func48, Try.ntmps48
  go_wp2_with fail
  refine hh.mono ?_; rintro e w1 ⟨rfl, rfl⟩
  clear hh
  go_wp2_with fail
  refine hA.mono ?_; rintro e w2 ⟨v2, rfl, o2, c2⟩
  obtain ⟨a2, cap2, rfl, _, _, _⟩ := o2.form
  have h2 := h.ch c2
  rw [hm] at o2 hle ⊢
  clear hA hm q0 d0 h
  go_wp2_with fail
  go_loopw [20] (fun s20 wr => ∃ k : Nat, s20 = .int .i64 k ∧ k ≤ m ∧ ∃ hs' row', ringList (st.nx i) hs' row' = L.drop k ∧ SchedAt wr s c (.slice (some ⟨gg, oo, none⟩) n cap) v X (st.setRing i (st.nx i) hs' row') ∧ Ch [x] w2 wr) (fun s20 _ => m - (intOf s20).toNat)
  case atStart => exact ⟨0, rfl, by omega, st.hs i, st.row i, by rw [List.drop_zero]; exact HL.out, by rw [setRing_self]; exact h2, Ch.refl _ _⟩
  case round =>
    clear h2
    obtain ⟨k, rfl, hk, hs', row', hR, h3, c3⟩ := hrel
    by_cases hlt : k < m
    · have u1 : decide ((k : Int) < m) = true := decide_eq_true (by omega)
      obtain ⟨q0, q1, q2⟩ := HFD.out wr v _ h3
      have hring := h3.ring i x hx
      have hG := ringGetAny x _ _ _ wr hring
      have e1 : (st.setRing i (st.nx i) hs' row').nx i = st.nx i := updN_at _ _ _
      have e2 : (st.setRing i (st.nx i) hs' row').hs i = hs' := updN_at _ _ _
      have e3 : (st.setRing i (st.nx i) hs' row').row i = row' := updN_at _ _ _
      rw [e1, e2, e3] at hG
      have hR2 : ringList (st.nx i) false (getX hs' row') = L.drop (k + 1) := by rw [ringList_get, hR, List.tail_drop]
      have HR2 := Lib.hid hR2
      clear hring e1 e2 e3 hR hR2
      go_wp2_with fail
      refine hG.mono ?_; rintro e w3 ⟨rfl, r3, c4⟩
      have h4 := h3.setRing hx r3 c4
      rw [setRing_set] at h4
      have c5 := c3.trans c4
      clear hG h3 r3 c3 c4
      go_wp2_with fail
      go_roundw
      case rel => exact ⟨k + 1, by go_num, by omega, false, _, HR2.out, h4, c5⟩
      case measure => simp [intOf]; omega
    · obtain rfl : k = m := by omega
      have u1 : decide ((k : Int) < k) = false := decide_eq_false (by omega)
      rw [List.drop_eq_nil_of_le (by rw [HM.out]; exact Nat.le_refl _)] at hR
      obtain ⟨rfl, rfl⟩ := ringList_nil hR
      obtain ⟨q0, q1, q2⟩ := HFD.out wr v _ h3
      have o3 := o2.keepLt c3 (by simp; exact hxb)
      have o3' : OwI wr w1.heap.size (.slice a2 k cap2) L := o3
      have hsrc := o3'.src
      have hP := comPutS h3 hsrc (by show st.com.length + _ ≤ _; rw [HM.out]; omega)
      clear hR o3 o2 hsrc
      go_wp2_with fail
      refine hP.mono ?_; rintro e w3 ⟨rfl, hT⟩
      obtain ⟨v3, h4, c4, n4⟩ := hT
      have hfin : SchT w1 s c (.slice (some ⟨gg, oo, none⟩) n cap) v X (dropS st i) w3 := by
        refine ⟨v3, ?_, ((c2.mono (by simp)).trans (turn_x hx c3)).trans c4, n4.imp id (fun f y hy => Nat.le_trans (Nat.le_trans c2.size c3.size) (f y hy))⟩
        unfold dropS
        rw [HL.out]
        exact h4
      clear hP h4 c4 n4 h3 c3 o3'
      go_wp2_with fail
      go_ret
      exact ⟨by rw [HM.out]; rfl, hfin⟩
end
/-- A scheduler without goroutines. -/
def initS : SSt := ⟨fun _ => 0, fun _ => false, fun _ => [], []⟩
theorem Try.infoRingP : (Try.prog.info? 22).map (fun i => (i.zero, i.size, i.bytes)) = some (some (.pointer none), 1, 8) := by kernel_rfl
theorem srcRing (w : World) (b : Nat) : Src Try.prog 1 91 (.slice (some ⟨w.heap.size, 0, none⟩) 1 1) 1 [ptrV b] (w.alloc (.cells #[ptrV b] 22)) :=
  Src_lit Try.underlying91 w [_] 1 1 rfl _ (mem_one rfl)
theorem wp_appR {w : World} {o : Oper} {a : Act} {K : Act → World → Prop} {Q : Exit → Act → World → Prop} (s x : Operand)
    (ho : o.op = .call { callee := .builtin .append, args := #[s, x], argTypes := #[91, 91] })
    (v : Value) (ns : List Nat) (hs : a.eval s = v) (hv : PtS w 22 v ns) (b : Nat) (xv : Value) (hx : a.eval x = xv) (hsrc : Src Try.prog 1 91 xv 1 [ptrV b] w) (hl : ns.length ≤ 100000)
    (h : ∀ v' w', PtS w' 22 v' (ns ++ [b]) → Ch v.ownBlock.toList w w' → (v'.ownBlock = v.ownBlock ∨ ∀ k, v'.ownBlock = some k → w.heap.size ≤ k) → K (a.put o.dst v') w') :
    o.wp Try.prog a w K Q := by
  obtain ⟨i0, hi0, hz0, hz1, hz2⟩ := info_parts Try.infoRingP
  refine wp_append_Own s x _ _ ho 22 i0 (.pointer none) 1 8 Try.underlying91 hi0 hz0 hz1 hz2 rfl v ns.length _ hs hv xv 1 [ptrV b] hx hsrc (by unfold maxLen; omega) (by omega) (fun v' w' h1 h2 h3 => h v' w' ?_ h2 h3)
  unfold PtS
  rw [List.length_append, List.map_append]
  exact h1
theorem schNewArg (w : World) (j : Int) (h : j < 1 ∨ 64 < j) : Calls Try.prog 39 #[.int .i64 j] w fun e w' => e = .returned (.tuple #[.pointer none, .int .i64 1]) ∧ w' = w := by
  rcases h with h | h
  · have t1 : decide (j < 1) = true := decide_eq_true h
    go_enter Try.func39, Try.ntmps39
    go_wp2_with fail
    go_ret2
    exact ⟨rfl, rfl⟩
  · have t1 : decide (j < 1) = false := decide_eq_false (by omega)
    have t2 : decide (j > 64) = true := decide_eq_true (by omega)
    have t3 : ¬ j < 1 := by omega
    go_enter Try.func39, Try.ntmps39
    go_wp2_with fail
    go_ret2
    exact ⟨rfl, rfl⟩
def NewSch (w : World) (n : Nat) (e : Ending) (w' : World) : Prop := ∃ s c vs v X, e = .returned (.tuple #[.pointer (some ⟨s, 0, none⟩), .int .i64 0]) ∧ SchedAt w' s c vs v X initS ∧ X.length = n ∧ Ch [] w w' ∧ ∀ k ∈ blksS s c vs v X, w.heap.size ≤ k
set_option maxHeartbeats 1000000 in
theorem schNew (w : World) (n : Nat) (h1 : 1 ≤ n) (h64 : n ≤ 64) : Calls Try.prog 39 #[.int .i64 n] w fun e w' => NewSch w n e w' := by
  have t1 : decide ((n : Int) < 1) = false := decide_eq_false (by omega)
  have t2 : decide ((n : Int) > 64) = false := decide_eq_false (by omega)
  have t3 : ¬ (n : Int) < 1 := by omega
  have t4 : ¬ (64 : Int) < n := by omega
  obtain ⟨c, hB⟩ : ∃ c, w.heap.size = c := ⟨_, rfl⟩
  have HB := Lib.hid hB
  go_enter Try.func39, Try.ntmps39
  go_wp2_with fail
  refine (qNew w).mono ?_; rintro e w0 ⟨rfl, q0, c0⟩
  rw [hB] at q0 ⊢
  obtain ⟨s, hs⟩ : ∃ s, w0.heap.size = s := ⟨_, rfl⟩
  have hcs : c ≤ s := by have := q0.1.lt; omega
  go_wp2_with fail
  try rw [hs]
  obtain ⟨W1, hW1⟩ : ∃ W1, w0.alloc (.cells #[.slice none 0 0, ptrV c] 93) = W1 := ⟨_, rfl⟩
  have ca : Ch [] w0 W1 := by rw [← hW1]; exact (Ch.refl [] w0).alloc _
  have c1 : Ch [] w W1 := c0.trans ca
  have b1 : Blk W1 s #[.slice none 0 0, ptrV c] 93 := by rw [← hW1]; exact Blk.new' hs.symm _ _
  have hs1 : SchedAt W1 s c (.slice none 0 0) (.slice none 0 0) [] initS := ⟨b1, Own.nil _ _ _, fun i x hx => by simp at hx, q0.keep ca (by simp) (by simp), fun k hk => by simp [Value.ownBlock] at hk, List.nodup_nil⟩
  unfold ptrV at hW1
  rw [hW1]
  clear hW1 b1 hB hs q0 c0 ca
  go_loopw [15] (fun s15 wr => ∃ k : Nat, s15 = .int .i64 k ∧ k ≤ n ∧ ∃ vs X, SchedAt wr s c vs (.slice none 0 0) X initS ∧ X.length = k ∧ Ch [] w wr ∧ (∀ y ∈ X, c ≤ y) ∧ ∀ y, vs.ownBlock = some y → c ≤ y) (fun s15 _ => n - (intOf s15).toNat)
  case atStart => exact ⟨0, rfl, by omega, _, _, hs1, rfl, c1, by simp, by simp [Value.ownBlock]⟩
  case round =>
    clear hs1 c1
    obtain ⟨k, rfl, hk, vs, X, h, hX, hc, hXc, hvc⟩ := hrel
    by_cases hlt : k < n
    · have u1 : decide ((k : Int) < n) = true := decide_eq_true (by omega)
      go_upto_region 6 with fail
      have hd := h.ch ((Ch.refl [] wr).drewN 1)
      obtain ⟨W9, hW9⟩ : ∃ W9, wr.drewN 1 = W9 := ⟨_, rfl⟩
      have cd : Ch [] wr W9 := by rw [← hW9]; exact (Ch.refl [] wr).drewN 1
      rw [hW9] at hd
      obtain ⟨L, hL⟩ : ∃ L : World → Prop, ∀ w', L w' ↔ w'.cell? ⟨s, 0, none⟩ = some vs := ⟨_, fun _ => Iff.rfl⟩
      have hS1 : ∀ y : { w' : World // L w' }, y.1.cell? ⟨s, 0, none⟩ = some vs := fun y => (hL _).1 y.2
      have hLk : ∀ w' a, Blk w' s #[vs, a] 93 → L w' := fun w' a hb => (hL _).2 (hb.cell 0)
      have HLk := Lib.hid hLk
      have l0 := hLk _ _ hd.top
      have hSA : Nonempty { w' : World // L w' } := ⟨⟨_, l0⟩⟩
      clear hL hLk h
      refine wp_region_plan (Cls L) [0, 1, 2, 3, 4, 5, 6, 7, 9] (.reads [0, 1, 2, 3, 4] (.only 5 (.only 6 (.only 7 (.pures [8] (.reads [9] (.only 10 .done))))))) (by kernel_rfl) (by kernel_rfl) (fun _ _ _ _ _ h => h) ?_
      simp only [Plan.pures, Plan.reads, Plan.only, List.foldr_cons, List.foldr_nil]
      rw [hW9]
      clear hW9
      iterate 5 (refine wpPlan_readS l0 (fun K hK => ?_); simp only [List.getD_cons_zero, List.getD_cons_succ]; go_simp; refine hK _ ?_; clear hK K)
      refine wpPlan_only (fun K hK => ?_)
      simp only [List.getD_cons_zero, List.getD_cons_succ]
      go_simp
      refine (ringNew W9).mono ?_; rintro e w1 ⟨rfl, b1, c1⟩
      obtain ⟨x, hx⟩ : ∃ x, W9.heap.size = x := ⟨_, rfl⟩
      rw [hx] at b1 ⊢
      have h1 := hd.ch c1
      have l1 := HLk.out _ _ h1.top
      have hxX : x ∉ X := fun hm => by
        obtain ⟨j, hj⟩ := List.mem_iff_getElem?.1 hm
        have := (hd.ring j x hj).lt
        omega
      refine hK _ _ (fun _ => Cls.mk l1) ?_
      clear hK K
      refine wpPlan_only (fun K hK => ?_)
      simp only [List.getD_cons_zero, List.getD_cons_succ]
      go_simp
      have ca := (Ch.refl [] w1).alloc (.cells #[ptrV x] 22)
      have h4 := h1.ch ca
      have l4 := HLk.out _ _ h4.top
      have b4 := b1.keep ca (by simp)
      have sP := srcRing w1 x
      obtain ⟨W4, hW4⟩ : ∃ W4, w1.alloc (.cells #[ptrV x] 22) = W4 := ⟨_, rfl⟩
      rw [hW4] at ca h4 l4 b4 sP
      unfold ptrV at hW4
      rw [hW4]
      refine hK _ _ (fun _ => Cls.mk l4) ?_
      clear hK K hW4
      refine wpPlan_onlyU rfl (fun K hK => ?_); simp only [List.getD_cons_zero, List.getD_cons_succ]
      refine wp_appR (.tmp 21) (.tmp 23) rfl vs X rfl h4.rs x _ rfl sP (by omega) (fun v6 w6 hv6 c6 n6 => ?_)
      have hne : ∀ k cs t, Blk W4 k cs t → t ≠ 22 → k ∉ vs.ownBlock.toList := fun k cs t hk ht hm => by
        obtain ⟨cs', hb⟩ := Own.blkAt h4.rs (k := k) (by simpa using hm)
        exact hk.ne hb ht rfl
      have r1 := h4.top.keep c6 (hne _ _ _ h4.top (by decide))
      have l6 := HLk.out _ _ r1
      obtain ⟨a6, cap6, rfl, _⟩ := hv6.form
      obtain ⟨k6, hk6⟩ : ∃ k6, (X ++ [x]).length = k6 := ⟨_, rfl⟩
      rw [hk6] at hv6 n6 ⊢
      refine hK _ _ (fun _ => Cls.mk l6) ?_
      clear hK K
      refine wpPlan_pure (fun K hK => ?_); simp only [List.getD_cons_zero, List.getD_cons_succ]; go_simp; refine hK _ ?_; clear hK K
      refine wpPlan_readS l6 (fun K hK => ?_); simp only [List.getD_cons_zero, List.getD_cons_succ]; go_simp; refine hK _ ?_; clear hK K
      have p2 := r1.cell 0
      have q2 := r1.frozen 0
      refine wpPlan_only (fun K hK => ?_)
      simp only [List.getD_cons_zero, List.getD_cons_succ]
      go_simp
      refine hK _ _ (by simp) ?_
      clear hK K p2 q2
      refine wpPlan_done ?_
      have cs : Ch [s] w6 (w6.setCell ⟨s, 0, none⟩ (.slice a6 k6 cap6)) := (Ch.refl [s] w6).setCell (.inl (by simp)) _
      have hns : ∀ k cs t, Blk w6 k cs t → t ≠ 93 → k ∉ [s] := fun k cs t hk ht hm => by
        simp at hm
        exact hk.ne r1 ht hm
      have ring7 : ∀ y, RingAt W4 y 0 false [] → RingAt (w6.setCell ⟨s, 0, none⟩ (.slice a6 k6 cap6)) y 0 false [] := fun y hy => by
        obtain ⟨cb, hb⟩ := hy.blk
        have hy6 := hy.keep c6 (hne _ _ _ hb (by decide))
        obtain ⟨cb6, hb6⟩ := hy6.blk
        exact hy6.keep cs (hns _ _ _ hb6 (by decide))
      have q6 := h4.q.keep c6 (hne _ _ _ h4.q.1 (by decide)) (by simp [Value.ownBlock])
      have hfin : SchedAt (w6.setCell ⟨s, 0, none⟩ (.slice a6 k6 cap6)) s c (.slice a6 k6 cap6) (.slice none 0 0) (X ++ [x]) initS := by
        refine ⟨r1.set 0 _, hv6.keep cs (fun y hy he => ?_), fun j y hy => ?_, q6.keep cs (hns _ _ _ q6.1 (by decide)) (by simp [Value.ownBlock]), fun y hy => by simp [Value.ownBlock] at hy, ?_⟩
        · obtain ⟨cb, hb⟩ := Own.blkAt hv6 he
          exact hns y _ _ hb (by decide) hy
        · rcases getPush hy with hy | ⟨rfl, rfl⟩
          · exact ring7 y (h4.ring j y hy)
          · exact ring7 y b4
        · rw [List.nodup_append]
          exact ⟨hd.nd, by simp, fun a ha b hb e => by simp at hb; subst hb; subst e; exact hxX ha⟩
      have szx : c ≤ x := by have := hc.size; have := cd.size; have := HB.out; omega
      have cc : Ch [] w (w6.setCell ⟨s, 0, none⟩ (.slice a6 k6 cap6)) := by
        have c7 : Ch [] w W4 := ((hc.trans cd).trans c1).trans ca
        refine (c7.transT c6 (fun y hy => .inr ?_)).transT cs (fun y hy => .inr ?_)
        · have := hvc y (by simpa using hy)
          have := HB.out
          omega
        · simp at hy; have := HB.out; omega
      have hX2 : ∀ y ∈ X ++ [x], c ≤ y := fun y hy => by
        rcases List.mem_append.1 hy with hy | hy
        · exact hXc y hy
        · simp at hy; omega
      have hv2 : ∀ y, (Value.slice a6 k6 cap6).ownBlock = some y → c ≤ y := fun y hy => by
        rcases n6 with e | e
        · exact hvc y (by rw [← e]; exact hy)
        · have := e y hy
          have := b4.lt
          omega
      have hXl : (X ++ [x]).length = k + 1 := by rw [List.length_append, hX]; rfl
      clear hd h1 h4 r1 hv6 n6 c6 ring7 q6 hne hns
      go_wp2_with fail
      go_roundw
      case rel => exact ⟨k + 1, by go_num, by omega, _, _, hfin, hXl, cc, hX2, hv2⟩
      case measure => simp [intOf]; omega
    · obtain rfl : k = n := by omega
      have u1 : decide ((k : Int) < k) = false := decide_eq_false (by omega)
      go_wp2_with fail
      go_ret2
      refine ⟨s, c, vs, _, X, rfl, h, hX, hc, fun y hy => ?_⟩
      rcases mem_blksS.1 hy with rfl | rfl | hy | hy | hy
      · have := HB.out; omega
      · have := HB.out; omega
      · have := hXc y hy; have := HB.out; omega
      · have := hvc y hy; have := HB.out; omega
      · simp [Value.ownBlock] at hy
end Go.Proofs.Yteghenfdncgpeaa
