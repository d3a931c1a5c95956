/-
  Contracts of package pool: fresh whatever the case; Give. Conditions: none beyond what each theorem names.
-/
import Derived.Test.YtalnkhcippcghaaPoolSt
namespace Go.Proofs.Ytalnkhcippcghaa
open Go.RowKit
/-- Where a fresh buffer comes from. -/
def NewB (sz b : Nat) (E E' : List Nat) (C C' : Nat → List Int) : Prop := (E = E' ++ [b] ∧ C' = C) ∨ (E = [] ∧ E' = [] ∧ sz ≤ b ∧ C' = updN C b [])
def FreshA (w : World) (B p b : Nat) (vs vf : Value) (X : List Nat) (O T : Nat → Nat) (Fl : Nat → Bool) (F E : List Nat) (C : Nat → List Int) (w' : World) : Prop := ∃ ve' E' C', PoolAt w' p vs vf ve' X O T Fl F E' C' ∧ PB B p vs vf ve' X O T F E' ∧ Fr B w w' ∧ C' b = [] ∧ B ≤ b ∧ NewB w.heap.size b E E' C C' ∧ BufAt w' b []
section
variable {w w2 : World} {B p n i : Nat} {vs vf ve : Value} {X F E E' : List Nat} {O T : Nat → Nat} {Fl : Nat → Bool} {C C' : Nat → List Int} {s : PSt} {loc : Nat → Nat}
theorem Fr.blkT (h : Fr B w w2) {q : Nat} {cs : Array Value} {t : TypeId} (hq : Blk w q cs t) (ht : t ≠ 81 ∧ t ≠ 82 ∧ t ≠ 23 ∧ t ≠ 84 ∧ t ≠ 71) : Blk w2 q cs t := by
  obtain ⟨S, c, hs⟩ := h
  refine hq.keep c (fun hk => ?_)
  obtain ⟨_, cs', t', hb, h5⟩ := hs q hk
  refine hq.ne hb ?_ rfl
  rcases h5 with rfl | rfl | rfl | rfl | rfl
  · exact ht.1
  · exact ht.2.1
  · exact ht.2.2.1
  · exact ht.2.2.2.1
  · exact ht.2.2.2.2
theorem freshAny (h : PoolAt w p vs vf ve X O T Fl F E C) (hb : PB B p vs vf ve X O T F E) (hB : B ≤ w.heap.size) (he : ∀ b ∈ E, C b = []) (hl : E.length ≤ 1000) :
    Calls Try.prog 50 #[.pointer (some ⟨p, 0, none⟩)] w fun e w' => ∃ b, e = .returned (ptrV b) ∧ FreshA w B p b vs vf X O T Fl F E C w' := by
  rcases List.eq_nil_or_concat E with rfl | ⟨E', b, rfl⟩
  · exact (freshNew h).mono fun e w' ⟨a, b, c, d⟩ => ⟨_, a, ve, [], _, b, hb, Fr.still d, updN_at _ _ _, hB, .inr ⟨rfl, rfl, Nat.le_refl _, rfl⟩, c⟩
  · rw [List.concat_eq_append] at h hb he hl ⊢
    have hCb := he b (by simp)
    refine (freshOld b h hb (by simp at hl; omega)).mono fun e w' ⟨a, hbb, hF⟩ => ?_
    obtain ⟨ve', q1, q2, q3⟩ := hF
    exact ⟨b, a, ve', E', C, q1, q2, q3, hCb, hb.e b (by simp), .inl ⟨rfl, rfl⟩, by rw [hCb] at hbb; exact hbb⟩
/-- A P's first buffer goes to all, a fresh one comes in its place. -/
theorem Rep.replOne (hr : Rep n O T F E C loc s) (h : PoolAt w p vs vf ve X O T Fl F E C) (hn : X.length = n) (hi : i < n) (hL : s.one i ≠ []) {b : Nat} (hN : NewB w.heap.size b E E' C C') : ∃ loc', Rep n (updN O i b) T (F ++ [O i]) E' C' loc' (s.pushOne i) := by
  rcases hN with ⟨rfl, rfl⟩ | ⟨rfl, rfl, hb, rfl⟩
  · exact hr.pushOne hi hL
  · obtain ⟨loc2, hr2⟩ := hr.moreE (b := b) (fun j hj => by
      have := (h.one j (by omega)).lt; omega) (fun j hj => by
      have := (h.two j (by omega)).lt; omega) (fun hm => by have := (h.bF b hm).lt; omega) (by simp)
    obtain ⟨loc3, hr3⟩ := Rep.pushOne hr2 hi hL
    have hz : s.ne = 0 := hr.ne.symm
    have e2 : s.moreE.pushOne i = s.pushOne i := by
      show PSt.mk _ _ _ _ (s.ne + 1 - 1) = PSt.mk _ _ _ _ (s.ne - 1)
      rw [hz]; rfl
    rw [e2] at hr3
    exact ⟨loc3, hr3⟩
theorem Rep.replTwo (hr : Rep n O T F E C loc s) (h : PoolAt w p vs vf ve X O T Fl F E C) (hn : X.length = n) (hi : i < n) (hL : s.two i ≠ []) {b : Nat} (hN : NewB w.heap.size b E E' C C') : ∃ loc', Rep n O (updN T i b) (F ++ [T i]) E' C' loc' (((s.swap i).pushOne i).swap i) := by
  obtain ⟨loc1, hr1⟩ := hr.swap hi
  have hsw : (s.swap i).one i ≠ [] := by
    show updN s.one i (s.two i) i ≠ []
    rw [updN_at]; exact hL
  have key : ∃ loc', Rep n (updN (updN O i (T i)) i b) (updN T i (O i)) (F ++ [updN O i (T i) i]) E' C' loc' ((s.swap i).pushOne i) := by
    rcases hN with ⟨rfl, rfl⟩ | ⟨rfl, rfl, hb, rfl⟩
    · exact hr1.pushOne hi hsw
    · obtain ⟨loc2, hr2⟩ := hr1.moreE (b := b) (fun j hj => by
        have h1 := (h.one j (by omega)).lt
        have h2 := (h.two i (by omega)).lt
        unfold updN
        split <;> omega) (fun j hj => by
        have h1 := (h.two j (by omega)).lt
        have h2 := (h.one i (by omega)).lt
        unfold updN
        split <;> omega) (fun hm => by have := (h.bF b hm).lt; omega) (by simp)
      obtain ⟨loc3, hr3⟩ := Rep.pushOne hr2 hi hsw
      have hz : s.ne = 0 := hr.ne.symm
      have e2 : (s.swap i).moreE.pushOne i = (s.swap i).pushOne i := by
        show PSt.mk _ _ _ _ (s.ne + 1 - 1) = PSt.mk _ _ _ _ (s.ne - 1)
        rw [hz]; rfl
      rw [e2] at hr3
      exact ⟨loc3, hr3⟩
  obtain ⟨loc3, hr3⟩ := key
  obtain ⟨loc4, hr4⟩ := hr3.swap hi
  rw [updN_upd, updN_upd, updN_upd, updN_at, updN_at, updN_at, updN_self] at hr4
  exact ⟨loc4, hr4⟩
/-- What Give leaves where the second buffer had some. -/
def GiveT (w : World) (B p i : Nat) (vs : Value) (X : List Nat) (O T : Nat → Nat) (Fl : Nat → Bool) (F E : List Nat) (C : Nat → List Int) (w' : World) : Prop := ∃ b vf' ve' E' C', PoolAt w' p vs vf' ve' X O (updN T i b) Fl F E' C' ∧ PB B p vs vf' ve' X O (updN T i b) F E' ∧ Fr B w w' ∧ NewB w.heap.size b E E' C C'
theorem NewB.le {sz sz' b : Nat} (h : NewB sz' b E E' C C') (hs : sz ≤ sz') : NewB sz b E E' C C' := h.imp id (fun ⟨a, b, c, d⟩ => ⟨a, b, Nat.le_trans hs c, d⟩)
theorem poolGiveT (x : Nat) (h : PoolAt w p vs vf ve X O T Fl F E C) (hb : PB B p vs vf ve X O T F E) (hB : B ≤ w.heap.size) (hx : X[i]? = some x) (hl : C (T i) ≠ []) (he : ∀ b ∈ E, C b = []) (hlF : F.length ≤ 1000) (hlE : E.length ≤ 1000) :
    Calls Try.prog 42 #[.pointer (some ⟨p, 0, none⟩), .int .i64 i] w fun e w' => e = .returned (.bool true) ∧ GiveT w B p i vs X O T (updN Fl i true) (F ++ [T i]) E C w' := by
  have ha := atIn i x h hx
  have hi := (List.getElem?_eq_some_iff.1 hx).1
  have hbt := h.two i hi
  have h1 := bufLen (T i) (C (T i)) w hbt
  have d1 := (h.pr i x hx).cell 1
  have htB := hb.t i hi
  have hxB := hb.x x (List.mem_of_getElem? hx)
  have hg := poolGive i x (T i) h hb hB hx hbt htB hlF
  obtain ⟨n, hn⟩ : ∃ n, (C (T i)).length = n := ⟨_, rfl⟩
  have hn0 : 0 < n := by rw [← hn]; exact List.length_pos_iff.2 hl
  obtain ⟨t, ht⟩ : ∃ t, T i = t := ⟨_, rfl⟩
  rw [hn] at h1
  rw [ht] at h1 d1 hg ⊢
  have n0 : decide ((n : Int) > 0) = true := decide_eq_true (by omega)
  have n00 : (0 : Int) < n := by omega
  unfold ptrV at ha hg d1
  clear hn ht hl hbt
  go_enter Try.func42, Try.ntmps42
  go_wp2_with fail
  refine ha.mono ?_; rintro e w1 ⟨rfl, rfl⟩
  clear ha
  go_wp2_with fail
  refine h1.mono ?_; rintro e w1 ⟨rfl, rfl⟩
  clear h1
  go_wp2_with fail
  refine hg.mono ?_; rintro e w2 ⟨rfl, vf', G1, G2, G3⟩
  clear hg
  have hf := freshAny G1 G2 (Nat.le_trans hB G3.le) he hlE
  unfold ptrV at hf
  go_wp2_with fail
  refine hf.mono ?_; rintro e w3 ⟨b, rfl, ve', E', C', K1, K2, K3, K4, K5, K6, K7⟩
  clear hf
  have e0 := (K1.pr i x hx).cell 1
  have f0 := (K1.pr i x hx).frozen 1
  obtain ⟨R1, R2⟩ := K1.setT hx (b := b) (by rw [K4]; exact K7)
  have hfin : GiveT w1 B p i vs X O T (updN Fl i true) (F ++ [t]) E C (w3.setCell ⟨x, 1, none⟩ (ptrV b)) := ⟨b, vf', ve', E', C', R1, K2.setT i K5, (G3.trans K3).trans (Fr.one R2 hxB (K1.ptX hx)), K6.le G3.le⟩
  unfold ptrV at hfin
  clear K1 K2 K3 K4 K5 K6 K7 R1 R2 G1 G2 G3 h
  go_wp2_with fail
  go_ret
  exact ⟨rfl, hfin⟩
/-- Two buffers' contents turn. -/
theorem PoolAt.buf2 (h : PoolAt w p vs vf ve X O T Fl F E C) {o b : Nat} {L L' M M' : List Int} (ho0 : BufAt w o L) (ho : BufAt w2 o L') (hb0 : BufAt w b M) (hb : BufAt w2 b M') (hc : Ch [o, b] w w2) : PoolAt w2 p vs vf ve X O T Fl F E (updN (updN C b M') o L') := by
  obtain ⟨cb, hbb⟩ := hb0.blk
  obtain ⟨co, hoo⟩ := ho0.blk
  have hne : ∀ k cs t, Blk w k cs t → t ≠ 71 → k ∉ [o, b] := fun k cs t hk ht hm => by
    simp at hm
    rcases hm with hm | hm
    · exact hk.ne hoo ht hm
    · exact hk.ne hbb ht hm
  have hbf : ∀ x, BufAt w x (C x) → BufAt w2 x (updN (updN C b M') o L' x) := fun x hx => by
    by_cases e : x = o
    · subst e; rw [updN_at]; exact ho
    · rw [updN_ne _ _ e]
      by_cases e2 : x = b
      · subst e2; rw [updN_at]; exact hb
      · rw [updN_ne _ _ e2]; exact hx.keep hc (by simp [e, e2])
  refine ⟨h.top.keep hc (hne _ _ _ h.top (by decide)), h.ps.keep hc (fun k hk he => ?_), h.fu.keep hc (fun k hk he => ?_), h.em.keep hc (fun k hk he => ?_), fun i x hx => (h.pr i x hx).keep hc (hne _ _ _ (h.pr i x hx) (by decide)),
    fun i hi => hbf _ (h.one i hi), fun i hi => hbf _ (h.two i hi), fun x hx => hbf _ (h.bF x hx), fun x hx => hbf _ (h.bE x hx), h.xnd, h.ap⟩
  · obtain ⟨cs, hx⟩ := Own.blkAt h.ps he
    exact hne k _ _ hx (by decide) hk
  · obtain ⟨cs, hx⟩ := Own.blkAt h.fu he
    exact hne k _ _ hx (by decide) hk
  · obtain ⟨cs, hx⟩ := Own.blkAt h.em he
    exact hne k _ _ hx (by decide) hk
/-- What Give leaves where half of the first buffer goes. -/
def GiveH (w : World) (B p i : Nat) (vs ve : Value) (X : List Nat) (O T : Nat → Nat) (Fl : Nat → Bool) (F E : List Nat) (C : Nat → List Int) (A D : List Int) (w' : World) : Prop := ∃ b vf', w.heap.size ≤ b ∧ PoolAt w' p vs vf' ve X O T Fl (F ++ [b]) E (updN (updN C b D) (O i) A) ∧ PB B p vs vf' ve X O T (F ++ [b]) E ∧ Fr B w w'
theorem poolGiveH (x : Nat) (h : PoolAt w p vs vf ve X O T Fl F E C) (hb : PB B p vs vf ve X O T F E) (hB : B ≤ w.heap.size) (hx : X[i]? = some x) (hl0 : C (T i) = []) (hl : 4 < (C (O i)).length) (hlF : F.length ≤ 1000) :
    Calls Try.prog 42 #[.pointer (some ⟨p, 0, none⟩), .int .i64 i] w fun e w' => e = .returned (.bool true) ∧ GiveH w B p i vs ve X O T (updN Fl i true) F E C ((C (O i)).take ((C (O i)).length - (C (O i)).length / 2)) ((C (O i)).drop ((C (O i)).length - (C (O i)).length / 2)) w' := by
  have ha := atIn i x h hx
  have hi := (List.getElem?_eq_some_iff.1 hx).1
  have hbt := h.two i hi
  have hbo := h.one i hi
  have h1 := bufLen (T i) (C (T i)) w hbt
  have h2 := bufLen (O i) (C (O i)) w hbo
  have d0 := (h.pr i x hx).cell 0
  have d1 := (h.pr i x hx).cell 1
  have hoB := hb.o i hi
  rw [hl0] at h1
  rw [List.length_nil] at h1
  obtain ⟨L, hL⟩ : ∃ L, C (O i) = L := ⟨_, rfl⟩
  obtain ⟨A, hA⟩ : ∃ A, L.take (L.length - L.length / 2) = A := ⟨_, rfl⟩
  obtain ⟨D, hD⟩ : ∃ D, L.drop (L.length - L.length / 2) = D := ⟨_, rfl⟩
  have hLl : L.length ≤ 32 := by rw [← hL]; exact hbo.choose_spec.2.1
  rw [hL] at hl hbo h2
  rw [hL, hA, hD]
  obtain ⟨t, ht⟩ : ∃ t, T i = t := ⟨_, rfl⟩
  obtain ⟨o, ho⟩ : ∃ o, O i = o := ⟨_, rfl⟩
  rw [ho] at h2 d0 hoB hbo
  rw [ht] at h1 d1
  obtain ⟨c1, c2, c3⟩ : BufAt w o L ∧ L.length ≤ 32 ∧ 4 < L.length := ⟨hbo, hLl, hl⟩
  obtain ⟨n, hn⟩ : ∃ n, L.length = n := ⟨_, rfl⟩
  rw [hn] at h2 hl
  have n0 : decide ((n : Int) > 4) = true := decide_eq_true (by omega)
  have n00 : (4 : Int) < n := by omega
  have hHalf : ∀ w1 b, BufAt w1 o L → BufAt w1 b [] → o ≠ b → Calls Try.prog 17 #[.pointer (some ⟨o, 0, none⟩), .pointer (some ⟨b, 0, none⟩)] w1 fun e w' => (∃ k : Int, e = .returned (.int .i64 k)) ∧ BufAt w' o A ∧ BufAt w' b D ∧ Ch [o, b] w1 w' := fun w1 b q1 q2 q3 => (bufHalf o b L [] w1 q1 q2 q3 (by simp; omega)).mono fun e w' ⟨a, b, c, d⟩ => ⟨⟨_, a⟩, by rw [hA] at b; exact b, by rw [hD, List.nil_append] at c; exact c, d⟩
  have HHalf := Lib.hid hHalf
  unfold ptrV at ha d0 d1
  clear hn ht hl hbt hL hA hD hLl c3 c2 hHalf hl0
  have HO := Lib.hid ho
  clear ho
  go_enter Try.func42, Try.ntmps42
  go_wp2_with fail
  refine ha.mono ?_; rintro e w1 ⟨rfl, rfl⟩
  clear ha
  go_wp2_with fail
  refine h1.mono ?_; rintro e w1 ⟨rfl, rfl⟩
  clear h1
  go_wp2_with fail
  refine h2.mono ?_; rintro e w1 ⟨rfl, rfl⟩
  clear h2
  go_wp2_with fail
  refine (bufNew w1).mono ?_; rintro e w2 ⟨rfl, b2, e2⟩
  obtain ⟨b, hbd⟩ : ∃ b, w1.heap.size = b := ⟨_, rfl⟩
  rw [hbd] at b2
  have hob : o ≠ b := by have := c1.lt; omega
  have HBD := Lib.hid hbd
  have c1' := c1.keep e2 (by simp)
  have hnew := h.ch e2
  have d0' := (hnew.pr i x hx).cell 0
  rw [HO.out] at d0'
  unfold ptrV at d0'
  try rw [hbd]
  clear hbd h
  go_wp2_with fail
  refine (HHalf.out w2 b c1' b2 hob).mono ?_; rintro e w3 ⟨⟨k, rfl⟩, A3, D3, e3⟩
  have G3 := hnew.buf2 c1' A3 b2 D3 e3
  have hbB : B ≤ b := by have := HBD.out; omega
  have f3 : Fr B w1 w3 := (Fr.still e2).trans (Fr.two e3 hoB hbB c1'.pt b2.pt)
  have hg := poolGive i x b G3 hb (Nat.le_trans hB f3.le) hx (by rw [updN_ne _ _ (fun e => hob e.symm), updN_at]; exact D3) hbB hlF
  unfold ptrV at hg
  clear HHalf c1' b2 hnew e3 A3 D3
  go_wp2_with fail
  refine hg.mono ?_; rintro e w4 ⟨rfl, vf', G4, G5, G6⟩
  have hfin : GiveH w1 B p i vs ve X O T (updN Fl i true) F E C A D w4 := ⟨b, vf', by have := HBD.out; omega, by rw [HO.out]; exact G4, G5, f3.trans G6⟩
  clear hg G3 G4 G5 G6
  go_wp2_with fail
  go_ret
  exact ⟨rfl, hfin⟩
theorem poolGiveNo (x : Nat) (h : PoolAt w p vs vf ve X O T Fl F E C) (hx : X[i]? = some x) (hl0 : C (T i) = []) (hl : (C (O i)).length ≤ 4) :
    Calls Try.prog 42 #[.pointer (some ⟨p, 0, none⟩), .int .i64 i] w fun e w' => e = .returned (.bool false) ∧ w' = w := by
  have ha := atIn i x h hx
  have hi := (List.getElem?_eq_some_iff.1 hx).1
  have h1 := bufLen (T i) (C (T i)) w (h.two i hi)
  have h2 := bufLen (O i) (C (O i)) w (h.one i hi)
  have d0 := (h.pr i x hx).cell 0
  have d1 := (h.pr i x hx).cell 1
  rw [hl0, List.length_nil] at h1
  obtain ⟨n, hn⟩ : ∃ n, (C (O i)).length = n := ⟨_, rfl⟩
  rw [hn] at h2 hl
  have n0 : decide ((n : Int) > 4) = false := decide_eq_false (by omega)
  have n00 : ¬ (4 : Int) < n := by omega
  unfold ptrV at ha d0 d1
  clear hn h hl0
  go_enter Try.func42, Try.ntmps42
  go_wp2_with fail
  refine ha.mono ?_; rintro e w1 ⟨rfl, rfl⟩
  clear ha
  go_wp2_with fail
  refine h1.mono ?_; rintro e w1 ⟨rfl, rfl⟩
  clear h1
  go_wp2_with fail
  refine h2.mono ?_; rintro e w1 ⟨rfl, rfl⟩
  clear h2
  go_wp2_with fail
  go_ret
  exact ⟨rfl, rfl⟩
theorem poolGiveNil (j : Int) (w : World) : Calls Try.prog 42 #[.pointer none, .int .i64 j] w fun e w' => e = .returned (.bool false) ∧ w' = w := by
  go_enter Try.func42, Try.ntmps42
  go_wp2_with fail
  refine (atNil j w).mono ?_; rintro e w1 ⟨rfl, rfl⟩
  go_wp2_with fail
  go_ret
  exact ⟨rfl, rfl⟩
end
def giveS (s : PSt) (i : Nat) : PSt :=
  if s.two i ≠ [] then (((s.flag i true).swap i).pushOne i).swap i
  else if 4 < (s.one i).length then ((s.flag i true).moreE.pushL ((s.one i).drop ((s.one i).length - (s.one i).length / 2))).setOne i ((s.one i).take ((s.one i).length - (s.one i).length / 2))
  else s
def giveB (s : PSt) (i : Nat) : Bool := if s.two i ≠ [] then true else if 4 < (s.one i).length then true else false
theorem sGive {w : World} {B p n i : Nat} {s : PSt} (h : PoolS B w p n s) (hi : i < n) (hlF : s.full.length ≤ 1000) (hlE : s.ne ≤ 1000) :
    Calls Try.prog 42 #[.pointer (some ⟨p, 0, none⟩), .int .i64 i] w fun e w' => e = .returned (.bool (giveB s i)) ∧ PoolS B w' p n (giveS s i) ∧ Fr B w w' := by
  have h0 := h
  obtain ⟨vs, vf, ve, X, O, T, F, E, C, loc, h, hb, hB, hn, hr⟩ := h
  have hiX : i < X.length := by omega
  obtain ⟨x, hx⟩ : ∃ x, X[i]? = some x := ⟨_, List.getElem?_eq_getElem hiX⟩
  have ho := hr.one i hi
  have ht := hr.two i hi
  have hlF' : F.length ≤ 1000 := by rw [hr.fl]; exact hlF
  have hlE' : E.length ≤ 1000 := by rw [hr.ne]; exact hlE
  have hemp : ∀ b ∈ E, C b = [] := fun b hb => by
    obtain ⟨k, hk⟩ := List.mem_iff_getElem?.1 hb
    exact hr.emp k b hk
  unfold giveS giveB
  by_cases h1 : s.two i ≠ []
  · simp only [if_pos h1]
    refine (poolGiveT x h hb hB hx (by rw [ht]; exact h1) hemp hlF' hlE').mono fun e w' ⟨a, hP⟩ => ⟨a, ?_⟩
    obtain ⟨b, vf', ve', E', C', q1, q2, q3, q4⟩ := hP
    obtain ⟨loc', hr'⟩ := (hr.flag i true).replTwo h hn hi h1 q4
    exact ⟨.of q1 q2 (Nat.le_trans hB q3.le) hn hr', q3⟩
  · simp only [if_neg h1]
    have h3 : s.two i = [] := by simpa using h1
    by_cases h2 : 4 < (s.one i).length
    · simp only [if_pos h2]
      refine (poolGiveH x h hb hB hx (by rw [ht]; exact h3) (by rw [ho]; exact h2) hlF').mono fun e w' ⟨a, hP⟩ => ⟨a, ?_⟩
      obtain ⟨b, vf', q0, q1, q2, q3⟩ := hP
      rw [ho] at q1
      obtain ⟨loc2, hr2⟩ := (hr.flag i true).moreE (b := b) (fun j hj => by
        have := (h.one j (by omega)).lt; omega) (fun j hj => by
        have := (h.two j (by omega)).lt; omega) (fun hm => by have := (h.bF b hm).lt; omega) (fun hm => by have := (h.bE b hm).lt; omega)
      obtain ⟨loc3, hr3⟩ := hr2.pushL (L := (s.one i).drop ((s.one i).length - (s.one i).length / 2)) (by
        intro e
        have := congrArg List.length e
        rw [List.length_drop, List.length_nil] at this
        omega)
      have hr4 := hr3.setOne hi ((s.one i).take ((s.one i).length - (s.one i).length / 2))
      rw [updN_upd] at hr4
      exact ⟨.of q1 q2 (Nat.le_trans hB q3.le) hn hr4, q3⟩
    · simp only [if_neg h2]
      exact (poolGiveNo x h hx (by rw [ht]; exact h3) (by rw [ho]; omega)).mono fun e w' ⟨a, b⟩ => ⟨a, by rw [b]; exact h0, by rw [b]; exact Fr.refl _ _⟩
end Go.Proofs.Ytalnkhcippcghaa
