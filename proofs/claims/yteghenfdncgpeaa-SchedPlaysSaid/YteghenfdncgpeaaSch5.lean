/-
  Contracts of package sched: what Pick tries, one by one. Conditions: none beyond what each theorem names.
-/
import Derived.Test.YteghenfdncgpeaaSch4
namespace Go.Proofs.Yteghenfdncgpeaa
open Go.RowKit
/-- Does the common queue go first? -/
def fairB (st : SSt) (tick : Int) : Bool := decide (tick ≠ 0 ∧ tick.tmod 61 = 0 ∧ st.com ≠ [])
/-- How many a P takes of the common queue. -/
def getN (len n : Nat) : Nat := min (min (len / n + 1) 64) (min 128 len)
def foldR (st : SSt) (p : Nat) (l : List Int) : SSt := l.foldl (fun st g => readyS st p g false) st
def partS (st : SSt) (p n : Nat) : SSt := foldR (st.setCom (st.com.drop (getN st.com.length n))) p ((st.com.take (getN st.com.length n)).drop 1)
def getSt (st : SSt) (p : Nat) : SSt := st.setRing p (st.nx p) false (getX (st.hs p) (st.row p))
def stealS (st : SSt) (p q : Nat) : SSt :=
  (st.setRing p (st.nx p) (st.hs p) (stealX (st.nx q) (st.hs q) (st.row p) (st.row q))).setRing q (st.nx q) (stealH (st.hs q) (st.row p) (st.row q)) (stealY (st.hs q) (st.row p) (st.row q))
section
variable {w w1 w2 : World} {s c i x bt bs br bv bp : Nat} {vs v v' : Value} {X S : List Nat} {st : SSt} {tick : Int}
theorem fair_no (h : SchedAt w s c vs v X st) (ct : w.cell? ⟨bt, 0, none⟩ = some (.int .i64 tick)) (cs : w.cell? ⟨bs, 0, none⟩ = some (.pointer (some ⟨s, 0, none⟩))) (hf : fairB st tick = false) :
    Calls Try.prog 66 #[.pointer (some ⟨bt, 0, none⟩), .pointer (some ⟨bs, 0, none⟩)] w fun e w' => e = .returned (.tuple #[.int .i64 0, .bool false]) ∧ w' = w := by
  have c1 := h.top.cell 1
  have hL := qLen c v st.com w h.q
  unfold ptrV at c1
  by_cases h0 : tick = 0
  · subst h0
    clear h hL hf c1
    go_enter Try.func66, Try.ntmps66
    go_wp2_with fail
    go_ret2
    exact ⟨rfl, rfl⟩
  · have t0 : (tick == 0) = false := by rw [beq_eq_false_iff_ne]; exact h0
    obtain ⟨m, hm⟩ : ∃ m, tick.tmod 61 = m := ⟨_, rfl⟩
    by_cases h1 : m = 0
    · subst h1
      have hc : st.com = [] := by
        unfold fairB at hf
        have := of_decide_eq_false hf
        by_cases e : st.com = []
        · exact e
        · exact absurd ⟨h0, hm, e⟩ this
      rw [hc, List.length_nil] at hL
      clear h hf hc
      go_enter Try.func66, Try.ntmps66
      go_wp2_with fail
      refine hL.mono ?_; rintro e w1 ⟨rfl, rfl⟩
      go_wp2_with fail
      go_ret2
      exact ⟨rfl, rfl⟩
    · have t1 : (m != 0) = true := by simpa using h1
      clear h hL hf c1
      go_enter Try.func66, Try.ntmps66
      go_wp2_with fail
      go_ret2
      exact ⟨rfl, rfl⟩
theorem takeN_S {n : Nat} {v2 : Value} (h : SchedAt w s c vs v X st) (hq : QAt w2 c v2 (st.com.drop n)) (hn : ∀ k, v2.ownBlock = some k → w.heap.size ≤ k) (hc : Ch [c] w w2) : SchedAt w2 s c vs v2 X (st.setCom (st.com.drop n)) ∧ Ch (turnS c v X) w w2 ∧ NewAt w v v2 :=
  ⟨h.setCom hq hc (fun k hk => by simp at hk; exact .inl hk) (fun k hk => by have := hn k hk; have := h.q.1.lt; omega), hc.mono (fun k hk => by simp at hk; exact .inl (mem_turnS.2 (.inl hk))), .inr hn⟩
theorem fair_yes {g : Int} {t : List Int} (h : SchedAt w s c vs v X st) (ct : w.cell? ⟨bt, 0, none⟩ = some (.int .i64 tick)) (cs : w.cell? ⟨bs, 0, none⟩ = some (.pointer (some ⟨s, 0, none⟩))) (h0 : tick ≠ 0) (hm : tick.tmod 61 = 0) (hg : st.com = g :: t) (hl : st.com.length ≤ 100000) :
    Calls Try.prog 66 #[.pointer (some ⟨bt, 0, none⟩), .pointer (some ⟨bs, 0, none⟩)] w fun e w' => e = .returned (.tuple #[.int .i64 g, .bool true]) ∧ SchT w s c vs v X (st.setCom t) w' := by
  have c1 := h.top.cell 1
  have hL := qLen c v st.com w h.q
  have hlen : st.com.length = t.length + 1 := by rw [hg]; rfl
  have hG := qGet c v st.com 1 1 1 w h.q h.hv hl (by
    rw [hlen]
    have : (max (1 : Int) 1) = 1 := by decide
    rw [this, Int.ediv_one]
    have : (max (1 : Int) 0) = 1 := by decide
    rw [this]
    push_cast
    omega)
  obtain ⟨m, hmm⟩ : ∃ m, st.com.length = m := ⟨_, rfl⟩
  rw [hmm] at hL hlen
  unfold ptrV at c1
  have t0 : (tick == 0) = false := by rw [beq_eq_false_iff_ne]; exact h0
  have m0 : ((m : Int) == 0) = false := by rw [beq_eq_false_iff_ne]; omega
  have m1 : ¬ (m : Int) = 0 := by omega
  have ht : st.com.take 1 = [g] := by rw [hg]; rfl
  have hd : st.com.drop 1 = t := by rw [hg]; rfl
  have HT := Lib.hid ht
  have HD := Lib.hid hd
  clear hg hmm ht hd
  go_enter Try.func66, Try.ntmps66
  go_wp2_with fail
  refine hL.mono ?_; rintro e w1 ⟨rfl, rfl⟩
  clear hL
  go_wp2_with fail
  refine hG.mono ?_; rintro e w2 ⟨v1, v2, rfl, o1, q2, n2, c2⟩
  rw [HT.out] at o1
  obtain ⟨g1, off1, cap1, rfl, k1, k2, k3, _⟩ := o1.cellsOf (by omega)
  have d1 := k3 0 (.int .i64 g) rfl
  rw [Nat.add_zero] at d1
  obtain ⟨s1, s2, s3⟩ := takeN_S h q2 n2 c2
  rw [HD.out] at s1
  have hfin : SchT w1 s c vs v X (st.setCom t) w2 := ⟨v2, s1, s2, s3⟩
  clear hG h q2 s1 s2 s3 o1 k3
  go_wp2_with fail
  go_ret2
  exact ⟨rfl, hfin⟩
theorem getN_is (len n : Nat) (h1 : 1 ≤ n) : ((getN len n : Nat) : Int) = min (min ((len : Int) / max (n : Int) 1 + 1) (max 64 0)) (min 128 (len : Int)) := by
  unfold getN
  have e : max (n : Int) 1 = (n : Int) := by omega
  rw [e]
  have e2 : (len : Int) / (n : Int) = ((len / n : Nat) : Int) := by simp
  rw [e2]
  omega
theorem getN_le (len n : Nat) : getN len n ≤ len ∧ getN len n ≤ 64 ∧ (0 < len → 0 < getN len n) := by
  unfold getN
  have : 0 ≤ len / n := Nat.zero_le _
  omega
/-- The boxes of Pick's variables stay while a scheduler turns. -/
theorem box_keep {q : Nat} {cs : Array Value} {t : TypeId} (h : SchedAt w s c vs v X st) (hq : Blk w q cs t) (ht : t ≠ 87 ∧ t ≠ 83 ∧ t ≠ 3) (hc : Ch (turnS c v X) w w2) : Blk w2 q cs t := by
  refine hq.keep hc (fun hm => ?_)
  rcases mem_turnS.1 hm with rfl | hm | hm
  · exact hq.ne h.q.1 ht.1 rfl
  · obtain ⟨j, hj⟩ := List.mem_iff_getElem?.1 hm
    obtain ⟨cb, hb⟩ := (h.ring j q hj).blk
    exact hq.ne hb ht.2.1 rfl
  · obtain ⟨cb, hb⟩ := Own.blkAt h.q.2 hm
    exact hq.ne hb ht.2.2 rfl
/-- What part leaves where nobody is in common. -/
def PartNo (w : World) (s c : Nat) (vs : Value) (X : List Nat) (st : SSt) (w' : World) : Prop := ∃ v2, SchedAt w' s c vs v2 X st ∧ Ch [c] w w' ∧ ∀ k, v2.ownBlock = some k → w.heap.size ≤ k
theorem part_no (h : SchedAt w s c vs v X st) (cs : Blk w bs #[.pointer (some ⟨s, 0, none⟩)] 61) (cr : Blk w br #[.pointer (some ⟨x, 0, none⟩)] 22) (h1 : 1 ≤ X.length) (hg : st.com = []) :
    Calls Try.prog 67 #[.pointer (some ⟨bs, 0, none⟩), .pointer (some ⟨br, 0, none⟩)] w fun e w' => e = .returned (.tuple #[.int .i64 0, .bool false]) ∧ PartNo w s c vs X st w' := by
  obtain ⟨a, cap, rfl, _⟩ := h.rs.form
  obtain ⟨n, hn⟩ : ∃ n, X.length = n := ⟨_, rfl⟩
  rw [hn] at h h1 ⊢
  have HG := Lib.hid hg
  clear hn hg
  go_enter Try.func67, Try.ntmps67
  go_upto_region 1 with fail
  have hd := h.ch ((Ch.refl [] w).drewN 1)
  obtain ⟨W9, hW9⟩ : ∃ W9, w.drewN 1 = W9 := ⟨_, rfl⟩
  have cd : Ch [] w W9 := by rw [← hW9]; exact (Ch.refl [] w).drewN 1
  rw [hW9] at hd
  have bsd := cs.keep cd (by simp)
  have brd := cr.keep cd (by simp)
  obtain ⟨L, hL⟩ : ∃ L : World → Prop, ∀ w', L w' ↔ (w'.cell? ⟨s, 0, none⟩ = some (.slice a n cap) ∧ w'.cell? ⟨s, 1, none⟩ = some (.pointer (some ⟨c, 0, none⟩)) ∧ w'.cell? ⟨bs, 0, none⟩ = some (.pointer (some ⟨s, 0, none⟩)) ∧ w'.cell? ⟨br, 0, none⟩ = some (.pointer (some ⟨x, 0, none⟩))) := ⟨_, fun _ => Iff.rfl⟩
  have hS1 : ∀ y : { w' : World // L w' }, y.1.cell? ⟨s, 0, none⟩ = some (.slice a n cap) := fun y => ((hL _).1 y.2).1
  have hS2 : ∀ y : { w' : World // L w' }, y.1.cell? ⟨s, 1, none⟩ = some (.pointer (some ⟨c, 0, none⟩)) := fun y => ((hL _).1 y.2).2.1
  have hS3 : ∀ y : { w' : World // L w' }, y.1.cell? ⟨bs, 0, none⟩ = some (.pointer (some ⟨s, 0, none⟩)) := fun y => ((hL _).1 y.2).2.2.1
  have hS4 : ∀ y : { w' : World // L w' }, y.1.cell? ⟨br, 0, none⟩ = some (.pointer (some ⟨x, 0, none⟩)) := fun y => ((hL _).1 y.2).2.2.2
  have hLk : ∀ w' v' st', SchedAt w' s c (.slice a n cap) v' X st' → Blk w' bs #[.pointer (some ⟨s, 0, none⟩)] 61 → Blk w' br #[.pointer (some ⟨x, 0, none⟩)] 22 → L w' := fun w' v' st' h1 h2 h3 => (hL _).2 ⟨h1.top.cell 0, h1.top.cell 1, h2.cell 0, h3.cell 0⟩
  have HLk := Lib.hid hLk
  have hS0 := hLk W9 _ _ hd bsd brd
  have hSA : Nonempty { w' : World // L w' } := ⟨⟨_, hS0⟩⟩
  clear hL hLk
  refine wp_region_plan (Cls L) (List.range 11) (.reads [0, 1, 2, 3, 4, 5, 6, 7, 8] (.only 9 (.reads [10] .done))) (by kernel_rfl) (by kernel_rfl) (fun _ _ _ _ _ h => h) ?_
  simp only [Plan.pures, Plan.reads, Plan.only, List.foldr_cons, List.foldr_nil]
  rw [hW9]
  clear hW9 h
  iterate 9 (refine wpPlan_readS hS0 (fun K hK => ?_); simp only [List.getD_cons_zero, List.getD_cons_succ]; go_simp; refine hK _ ?_; clear hK K)
  refine wpPlan_only (fun K hK => ?_)
  simp only [List.getD_cons_zero, List.getD_cons_succ]
  go_simp
  refine (qGet c v st.com n 64 0 W9 hd.q hd.hv (by rw [HG.out]; simp) (by rw [HG.out]; simp; omega)).mono ?_; rintro e w2 ⟨v1, v2, rfl, o1, q2, n2, c2⟩
  obtain ⟨a1, cap1, rfl, _⟩ := o1.form
  obtain ⟨s1, s2, s3⟩ := takeN_S hd q2 n2 c2
  rw [List.drop_zero] at s1
  have hl2 := HLk.out _ _ _ s1 (bsd.keep c2 (by simp; exact bsd.ne hd.q.1 (by decide))) (brd.keep c2 (by simp; exact brd.ne hd.q.1 (by decide)))
  refine hK _ _ (fun _ => Cls.mk hl2) ?_
  clear hK K
  refine wpPlan_readS hl2 (fun K hK => ?_); simp only [List.getD_cons_zero, List.getD_cons_succ]; go_simp; refine hK _ ?_; clear hK K
  refine wpPlan_done ?_
  have hfin : PartNo w s c (.slice a n cap) X st w2 := ⟨v2, s1, (cd.mono (by simp)).trans c2, fun k hk => Nat.le_trans cd.size (n2 k hk)⟩
  clear s1 s2 s3 q2 o1 hS0 hS1 hS2 hS3 hS4 hSA hl2 HLk
  go_wp2_with fail
  go_ret2
  exact ⟨rfl, hfin⟩
end
end Go.Proofs.Yteghenfdncgpeaa
