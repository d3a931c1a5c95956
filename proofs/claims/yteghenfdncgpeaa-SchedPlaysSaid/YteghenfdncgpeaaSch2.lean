/-
  Contracts of package sched: Ready, Global, Local, Common. Conditions: none beyond what each theorem names.
-/
import Derived.Test.YteghenfdncgpeaaSch
namespace Go.Proofs.Yteghenfdncgpeaa
open Go.RowKit
def readyS (st : SSt) (p : Nat) (g : Int) (nb : Bool) : SSt :=
  (st.setRing p (putN (st.nx p) g nb) (putH (st.hs p) nb) (putX (st.nx p) (st.hs p) (st.row p) g nb)).setCom (st.com ++ putO (st.nx p) (st.hs p) (st.row p) g nb)
section
variable {w w1 w2 : World} {s c i x : Nat} {vs v v' : Value} {X S : List Nat} {st : SSt}
theorem PtS.at {e : TypeId} {a : Option Addr} {n cap i b : Nat} {ns : List Nat} (h : PtS w e (.slice a n cap) ns) (hb : ns[i]? = some b) : ∃ g o, a = some ⟨g, o, none⟩ ∧ w.cell? ⟨g, o + i, none⟩ = some (ptrV b) := by
  obtain ⟨a', cap', hv, _, _, hc⟩ := h.form
  simp only [Value.slice.injEq] at hv
  obtain ⟨rfl, _, rfl⟩ := hv
  exact hc i b hb
/-- The cells in which a ring and the queue are found: they stay through each operation. -/
theorem SchedAt.found (h : SchedAt w s c vs v X st) (hx : X[i]? = some x) : ∃ g o cap, vs = .slice (some ⟨g, o, none⟩) X.length cap ∧ X.length ≤ cap ∧ w.cell? ⟨g, o + i, none⟩ = some (.pointer (some ⟨x, 0, none⟩)) ∧ ∀ w' v' st', SchedAt w' s c vs v' X st' → w'.cell? ⟨s, 0, none⟩ = some vs ∧ w'.cell? ⟨s, 1, none⟩ = some (.pointer (some ⟨c, 0, none⟩)) ∧ w'.cell? ⟨g, o + i, none⟩ = some (.pointer (some ⟨x, 0, none⟩)) := by
  obtain ⟨a, cap, rfl, h1, h2, h3⟩ := h.rs.form
  obtain ⟨g, o, rfl, h4⟩ := h3 i x hx
  refine ⟨g, o, cap, rfl, h1, h4, fun w' v' st' h' => ⟨h'.top.cell 0, h'.top.cell 1, ?_⟩⟩
  obtain ⟨g', o', e, h5⟩ := h'.rs.at hx
  cases e
  exact h5
theorem ringPutS (g : Int) (nb : Bool) (h : SchedAt w s c vs v X st) (hx : X[i]? = some x) :
    Calls Try.prog 17 #[.pointer (some ⟨x, 0, none⟩), .int .i64 g, .bool nb] w fun e w' => ∃ xv, e = .returned xv ∧ OwI w' w.heap.size xv (putO (st.nx i) (st.hs i) (st.row i) g nb) ∧ SchedAt w' s c vs v X (st.setRing i (putN (st.nx i) g nb) (putH (st.hs i) nb) (putX (st.nx i) (st.hs i) (st.row i) g nb)) ∧ Ch [x] w w' :=
  (ringPutAny x _ _ _ g nb w (h.ring i x hx)).mono fun _ _ ⟨xv, a, b, d, e⟩ => ⟨xv, a, b, h.setRing hx d e, e⟩
theorem comPutS {xv : Value} {ys : List Int} (h : SchedAt w s c vs v X st) (hy : Src Try.prog 1 25 xv ys.length (ys.map (Value.int .i64)) w) (hl : st.com.length + ys.length ≤ 100000) :
    Calls Try.prog 31 #[.pointer (some ⟨c, 0, none⟩), xv] w fun e w' => e = .returned (.tuple #[]) ∧ SchT w s c vs v X (st.setCom (st.com ++ ys)) w' := by
  refine (qPut c v st.com xv ys w h.q h.hv hy hl).mono ?_
  rintro e w' ⟨rfl, v', h1, h2, h3⟩
  refine ⟨rfl, v', h.setCom h1 h2 (fun k hk => by
    simp at hk
    rcases hk with rfl | hk
    · exact .inl rfl
    · exact .inr hk) (fun k hk => ?_), h2.mono (fun k hk => .inl (mem_turnS.2 (by
    simp at hk
    rcases hk with rfl | hk
    · exact .inl rfl
    · exact .inr (.inr hk)))), h3⟩
  rcases h3 with e | h3
  · exact h.hv k (by rw [← e]; exact hk)
  · have := h3 k hk
    have := h.q.1.lt
    omega
theorem turn_x (hx : X[i]? = some x) (hc : Ch [x] w w1) : Ch (turnS c v X) w w1 := hc.mono (fun k hk => by
  simp at hk
  subst hk
  exact .inl (mem_turnS.2 (.inr (.inl (List.mem_of_getElem? hx)))))
theorem putO_len (nx : Int) (hs : Bool) (Y : List Int) (g : Int) (nb : Bool) : (putO nx hs Y g nb).length ≤ 129 := by
  have h : ∀ x, (ringOver Y x).length ≤ 129 := fun x => by
    unfold ringOver
    split
    · simp
    · simp; omega
  unfold putO
  split
  · split
    · exact h _
    · simp
  · exact h _
theorem schReadyNo (j g : Int) (nb : Bool) (h : SchedAt w s c vs v X st) (hj : hasP X.length j = false) :
    Calls Try.prog 41 #[.pointer (some ⟨s, 0, none⟩), .int .i64 j, .int .i64 g, .bool nb] w fun e w' => e = .returned (.int .i64 1) ∧ w' = w := by
  have hh := schHas j h
  rw [hj] at hh
  clear h
  go_enter Try.func41, Try.ntmps41
  go_wp2_with fail
  refine hh.mono ?_; rintro e w1 ⟨rfl, rfl⟩
  go_wp2_with fail
  go_ret
  exact ⟨rfl, rfl⟩
theorem schReady (g : Int) (nb : Bool) (h : SchedAt w s c vs v X st) (hx : X[i]? = some x) (hl : st.com.length ≤ 90000) :
    Calls Try.prog 41 #[.pointer (some ⟨s, 0, none⟩), .int .i64 i, .int .i64 g, .bool nb] w fun e w' => e = .returned (.int .i64 0) ∧ SchT w s c vs v X (readyS st i g nb) w' := by
  have hi := (List.getElem?_eq_some_iff.1 hx).1
  have hh := schHas i h
  rw [show hasP X.length i = true from decide_eq_true (by omega)] at hh
  obtain ⟨gg, oo, cap, rfl, hcap, _, hfd⟩ := h.found hx
  obtain ⟨n, hn⟩ : ∃ n, X.length = n := ⟨_, rfl⟩
  rw [hn] at h hfd hi ⊢
  have t1 : (i : Int) < n := by omega
  have t2 : (0 : Int) ≤ i := by omega
  clear hn hcap
  go_enter Try.func41, Try.ntmps41
  go_wp2_with fail
  refine hh.mono ?_; rintro e w1 ⟨rfl, rfl⟩
  clear hh
  go_upto_region 3 with fail
  have hd := h.ch ((Ch.refl [] w1).drewN 1)
  obtain ⟨W9, hW9⟩ : ∃ W9, w1.drewN 1 = W9 := ⟨_, rfl⟩
  have cd : Ch [] w1 W9 := by rw [← hW9]; exact (Ch.refl [] w1).drewN 1
  rw [hW9] at hd
  obtain ⟨L, hL⟩ : ∃ L : World → Prop, ∀ w', L w' ↔ (w'.cell? ⟨s, 0, none⟩ = some (.slice (some ⟨gg, oo, none⟩) n cap) ∧ w'.cell? ⟨s, 1, none⟩ = some (.pointer (some ⟨c, 0, none⟩)) ∧ w'.cell? ⟨gg, oo + i, none⟩ = some (.pointer (some ⟨x, 0, none⟩))) := ⟨_, fun _ => Iff.rfl⟩
  have hS1 : ∀ y : { w' : World // L w' }, y.1.cell? ⟨s, 0, none⟩ = some (.slice (some ⟨gg, oo, none⟩) n cap) := fun y => ((hL _).1 y.2).1
  have hS2 : ∀ y : { w' : World // L w' }, y.1.cell? ⟨s, 1, none⟩ = some (.pointer (some ⟨c, 0, none⟩)) := fun y => ((hL _).1 y.2).2.1
  have hS3 : ∀ y : { w' : World // L w' }, y.1.cell? ⟨gg, oo + i, none⟩ = some (.pointer (some ⟨x, 0, none⟩)) := fun y => ((hL _).1 y.2).2.2
  have hLk : ∀ w' v' st', SchedAt w' s c (.slice (some ⟨gg, oo, none⟩) n cap) v' X st' → L w' := fun w' v' st' h' => (hL _).2 (hfd w' v' st' h')
  have HLk := Lib.hid hLk
  have hS0 := hLk W9 _ _ hd
  have hSA : Nonempty { w' : World // L w' } := ⟨⟨_, hS0⟩⟩
  clear hL hLk
  clear hfd
  refine wp_region_plan (Cls L) (List.range 15) (.reads [0, 1, 2, 3, 4, 5, 6, 7, 8, 9, 10, 11, 12] (.only 13 (.only 14 .done))) (by kernel_rfl) (by kernel_rfl) (fun _ _ _ _ _ h => h) ?_
  simp only [Plan.pures, Plan.reads, Plan.only, List.foldr_cons, List.foldr_nil]
  rw [hW9]
  clear hW9 h
  iterate 13 (refine wpPlan_readS hS0 (fun K hK => ?_); simp only [List.getD_cons_zero, List.getD_cons_succ]; go_simp; refine hK _ ?_; clear hK K)
  refine wpPlan_only (fun K hK => ?_)
  simp only [List.getD_cons_zero, List.getD_cons_succ]
  go_simp
  refine (ringPutS g nb hd hx).mono ?_; rintro e w2 ⟨xv, rfl, o2, h2, c2⟩
  have l2 := HLk.out _ _ _ h2
  refine hK _ _ (fun _ => Cls.mk l2) ?_
  clear hK K hS0
  refine wpPlan_only (fun K hK => ?_)
  simp only [List.getD_cons_zero, List.getD_cons_succ]
  go_simp
  have hbound := putO_len (st.nx i) (st.hs i) (st.row i) g nb
  refine (comPutS h2 o2.src (by show st.com.length + _ ≤ _; omega)).mono ?_; rintro e w3 ⟨rfl, hT⟩
  obtain ⟨v3, h3, c3, n3⟩ := hT
  refine hK _ _ (fun _ => Cls.mk (HLk.out _ _ _ h3)) ?_
  clear hK K
  refine wpPlan_done ?_
  have hfin : SchT w1 s c (.slice (some ⟨gg, oo, none⟩) n cap) v X (readyS st i g nb) w3 := ⟨v3, h3, ((cd.mono (by simp)).trans (turn_x hx c2)).trans c3, n3.imp id (fun f k hk => Nat.le_trans (Nat.le_trans cd.size c2.size) (f k hk))⟩
  clear hS1 hS2 hS3 hSA l2 h2 h3 c3 n3 o2 c2 hd cd
  go_wp2_with fail
  go_ret
  exact ⟨rfl, hfin⟩
theorem schGlobal (g : Int) (h : SchedAt w s c vs v X st) (hl : st.com.length ≤ 90000) :
    Calls Try.prog 46 #[.pointer (some ⟨s, 0, none⟩), .int .i64 g] w fun e w' => e = .returned (.tuple #[]) ∧ SchT w s c vs v X (st.setCom (st.com ++ [g])) w' := by
  have c1 := h.top.cell 1
  have ca := (Ch.refl [] w).alloc (.cells #[.int .i64 g] 3)
  have h1 := h.ch ca
  have hP := comPutS h1 (srcOne w g) (by simp; omega)
  unfold ptrV at c1
  clear h h1
  go_enter Try.func46, Try.ntmps46
  go_wp2_with fail
  refine hP.mono ?_; rintro e w3 ⟨rfl, hT⟩
  obtain ⟨v3, h3, c3, n3⟩ := hT
  have hfin : SchT w s c vs v X (st.setCom (st.com ++ [g])) w3 := ⟨v3, h3, (ca.mono (by simp)).trans c3, n3.imp id (fun f k hk => Nat.le_trans ca.size (f k hk))⟩
  clear hP h3 c3 n3
  go_wp2_with fail
  go_end0
  exact ⟨rfl, hfin⟩
theorem schCommonNil (w : World) : Calls Try.prog 49 #[.pointer none] w fun e w' => e = .returned (.slice none 0 0) ∧ w' = w := by
  go_enter Try.func49, Try.ntmps49
  go_wp2_with fail
  go_ret
  exact ⟨rfl, rfl⟩
theorem schCommon (h : SchedAt w s c vs v X st) (hl : st.com.length ≤ 100000) :
    Calls Try.prog 49 #[.pointer (some ⟨s, 0, none⟩)] w fun e w' => ∃ v', e = .returned v' ∧ Own w' 3 1 v' st.com.length (st.com.map (Value.int .i64)) ∧ Ch [] w w' := by
  have c1 := h.top.cell 1
  have hA := qAll c v st.com w h.q hl
  unfold ptrV at c1
  clear h
  go_enter Try.func49, Try.ntmps49
  go_wp2_with fail
  refine hA.mono ?_; rintro e w3 ⟨v', rfl, o3, c3⟩
  go_wp2_with fail
  go_ret
  exact ⟨v', rfl, o3, c3⟩
def allS (st : SSt) (i : Nat) : List Int := ringList (st.nx i) (st.hs i) (st.row i)
theorem schLocalNo (j : Int) (h : SchedAt w s c vs v X st) (hj : hasP X.length j = false) :
    Calls Try.prog 47 #[.pointer (some ⟨s, 0, none⟩), .int .i64 j] w fun e w' => e = .returned (.slice none 0 0) ∧ w' = w := by
  have hh := schHas j h
  rw [hj] at hh
  clear h
  go_enter Try.func47, Try.ntmps47
  go_wp2_with fail
  refine hh.mono ?_; rintro e w1 ⟨rfl, rfl⟩
  go_wp2_with fail
  go_ret
  exact ⟨rfl, rfl⟩
theorem schLocal (h : SchedAt w s c vs v X st) (hx : X[i]? = some x) :
    Calls Try.prog 47 #[.pointer (some ⟨s, 0, none⟩), .int .i64 i] w fun e w' => ∃ v', e = .returned v' ∧ OwI w' w.heap.size v' (allS st i) ∧ Ch [] w w' := by
  have hi := (List.getElem?_eq_some_iff.1 hx).1
  have hh := schHas i h
  rw [show hasP X.length i = true from decide_eq_true (by omega)] at hh
  have hA := ringAll x _ _ _ w (h.ring i x hx)
  have c0 := h.top.cell 0
  obtain ⟨gg, oo, cap, rfl, hcap, d0, _⟩ := h.found hx
  obtain ⟨n, hn⟩ : ∃ n, X.length = n := ⟨_, rfl⟩
  rw [hn] at c0 hi
  have t1 : (i : Int) < n := by omega
  have t2 : (0 : Int) ≤ i := by omega
  clear hn hcap h
  go_enter Try.func47, Try.ntmps47
  go_wp2_with fail
  refine hh.mono ?_; rintro e w1 ⟨rfl, rfl⟩
  clear hh
  go_wp2_with fail
  refine hA.mono ?_; rintro e w3 ⟨v', rfl, o3, c3⟩
  go_wp2_with fail
  go_ret
  exact ⟨v', rfl, o3, c3⟩
end
end Go.Proofs.Yteghenfdncgpeaa
