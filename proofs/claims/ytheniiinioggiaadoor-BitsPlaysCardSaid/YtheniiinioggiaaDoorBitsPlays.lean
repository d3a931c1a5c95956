/-
  The walk of the statement BitsPlays: the law returns true at every input. Conditions: the library's table reads as its text lays it.
-/
import Derived.Test.YtheniiinioggiaaDoorBitsPl
import Derived.Deep.CutBlock
import Derived.Deep.CutRange
import Derived.Says
namespace Go.Proofs.YtheniiinioggiaaDoor
open Go.RowKit
/-- A list that is only read, beside the blocks S that may turn. -/
def LsA (w : World) (S : List Nat) (a : Option Addr) (c : Nat) (xs : List Int) : Prop := Rd w a xs ∧ xs.length ≤ c ∧ c ≤ maxLen ∧ ∀ y, a = some y → y.block < w.heap.size ∧ y.block ∉ S
theorem LsA.step {w w' : World} {S T U : List Nat} {a : Option Addr} {c : Nat} {xs : List Int} (h : LsA w S a c xs) (hc : Ch T w w') (hT : ∀ k ∈ T, k ∈ S ∨ w.heap.size ≤ k) (hU : ∀ k ∈ U, k ∈ S ∨ w.heap.size ≤ k) : LsA w' U a c xs := by
  obtain ⟨h1, h2, h3, h4⟩ := h
  refine ⟨h1.keep hc (fun y hy hk => ?_), h2, h3, fun y hy => ⟨Nat.lt_of_lt_of_le (h4 y hy).1 hc.size, fun hk => ?_⟩⟩
  · rcases hT _ hk with h | h
    · exact (h4 y hy).2 h
    · have := (h4 y hy).1; omega
  · rcases hU _ hk with h | h
    · exact (h4 y hy).2 h
    · have := (h4 y hy).1; omega
theorem LsA.nil (w : World) (S : List Nat) : LsA w S none 0 [] := ⟨.inl rfl, Nat.le_refl _, Nat.zero_le _, fun y hy => by cases hy⟩
theorem OwI.lsA {w : World} {B : Nat} {v : Value} {xs : List Int} {S : List Nat} (h : OwI w B v xs) (hS : ∀ k ∈ S, k < B) : ∃ a c, v = .slice a xs.length c ∧ LsA w S a c xs := by
  obtain ⟨a, c, rfl, h1, h2, h3⟩ := h.form
  refine ⟨a, c, rfl, h3, h1, h2, fun y hy => ?_⟩
  subst hy
  have hb : (Value.slice (some y) xs.length c).ownBlock = some y.block := rfl
  have h5 := h.lt _ hb
  have h6 := h.2 _ hb
  exact ⟨h5, fun hk => by have := hS _ hk; omega⟩
theorem putLsA (a : Option Addr) (l : List Int) (x : Int) (n c : Nat) (S : List Nat) (w : World) (h : LsA w S a c l) (hn : n = l.length) (hS : ∀ k ∈ S, k < w.heap.size) (hl : n ≤ 100000) :
    Calls Tryd.prog 23 #[.slice a n c, .int .i64 x] w fun e w' => ∃ a' c', e = .returned (.slice a' (ins l x).length c') ∧ LsA w' S a' c' (ins l x) ∧ Ch [] w w' := by
  obtain ⟨h1, h2, h3, h4⟩ := h
  refine (putRef a l x n c w h1 hn (by omega) h3 hl).mono ?_
  rintro e w' ⟨a', c', rfl, r1, r2, r3, r4, r5⟩
  refine ⟨a', c', rfl, ⟨r1, r2, r3, fun y hy => ?_⟩, r5⟩
  rcases r4 with rfl | r4
  · exact ⟨Nat.lt_of_lt_of_le (h4 y hy).1 r5.size, (h4 y hy).2⟩
  · have h5 := r4 y hy
    refine ⟨?_, fun hk => by have := hS _ hk; omega⟩
    have hx : x ∈ ins l x := (mem_ins l x x).2 (.inl rfl)
    have hlen : 0 < (ins l x).length := List.length_pos_of_mem hx
    obtain ⟨b, o, he, hc⟩ := r1.at hlen
    rw [hy] at he
    cases he
    have := hc 0 hlen
    by_cases hb : b < w'.heap.size
    · exact hb
    · have h2 : w'.heap[b]? = none := Array.getElem?_eq_none (by omega)
      simp [World.cell?, h2] at this
/-- Two sets and two lists, made since w. -/
structure BP (w wr : World) (b n : Nat) (S : Nat → Bool) (G : List Nat) (b' m : Nat) (T : Nat → Bool) (G' : List Nat) (a : Option Addr) (kl c : Nat) (a2 : Option Addr) (kk c2 : Nat) : Prop where
  two : TwoSt w wr b n S G b' m T G'
  l : LsA wr (b :: G ++ (b' :: G')) a c (els S n)
  k : LsA wr (b :: G ++ (b' :: G')) a2 c2 (els T m)
  ln : cnt S n = kl
  kn : cnt T m = kk
section
variable {w wr w2 w3 : World} {b n b' m kl c kk c2 kl2 c3 : Nat} {S T U : Nat → Bool} {G G' G2 : List Nat} {a a2 a3 : Option Addr}
theorem BP.hi (h : BP w wr b n S G b' m T G' a kl c a2 kk c2) : ∀ x ∈ b :: G ++ (b' :: G'), x < wr.heap.size := by
  intro x hx
  simp only [List.cons_append, List.mem_cons, List.mem_append] at hx
  rcases hx with rfl | hx | rfl | hx
  · exact h.two.one.at_.lt
  · exact h.two.one.at_.hi x hx
  · exact h.two.two.at_.lt
  · exact h.two.two.at_.hi x hx
theorem BP.still (h : BP w wr b n S G b' m T G' a kl c a2 kk c2) (hc : Ch [] wr w2) : BP w w2 b n S G b' m T G' a kl c a2 kk c2 :=
  ⟨h.two.still hc, h.l.step hc (by simp) (fun _ hk => .inl hk), h.k.step hc (by simp) (fun _ hk => .inl hk), h.ln, h.kn⟩
theorem BP.lo (h : BP w wr b n S G b' m T G' a kl c a2 kk c2) : ∀ x ∈ b :: G ++ (b' :: G'), w.heap.size ≤ x := by
  intro x hx
  simp only [List.cons_append, List.mem_cons, List.mem_append] at hx
  rcases hx with rfl | hx | rfl | hx
  · exact h.two.one.lo
  · exact h.two.one.loG x hx
  · exact h.two.two.lo
  · exact h.two.two.loG x hx
/-- The first set has turned, and its list. -/
theorem BP.one (h : BP w wr b n S G b' m T G' a kl c a2 kk c2) (h2 : TwoSt w w2 b n U G2 b' m T G') (hc : Ch (b :: G) wr w2) (hG : ∀ x ∈ G2, x ∈ G ∨ wr.heap.size ≤ x) (h3 : TwoSt w w3 b n U G2 b' m T G') (hc2 : Ch [] w2 w3) (h4 : LsA w3 (b :: G2 ++ (b' :: G')) a3 c3 (els U n)) (h5 : cnt U n = kl2) : BP w w3 b n U G2 b' m T G' a3 kl2 c3 a2 kk c2 := by
  refine ⟨h3, h4, (h.k.step (U := b :: G2 ++ (b' :: G')) hc ?_ ?_).step hc2 (by simp) (fun _ hk => .inl hk), h5, h.kn⟩
  · intro k hk; exact .inl (List.mem_append_left _ hk)
  · intro k hk
    simp only [List.cons_append, List.mem_cons, List.mem_append] at hk ⊢
    rcases hk with rfl | hk | rfl | hk
    · exact .inl (.inl rfl)
    · rcases hG k hk with h | h
      · exact .inl (.inr (.inl h))
      · exact .inr h
    · exact .inl (.inr (.inr (.inl rfl)))
    · exact .inl (.inr (.inr (.inr hk)))
theorem BP.flip (h : BP w wr b n S G b' m T G' a kl c a2 kk c2) : BP w wr b' m T G' b n S G a2 kk c2 a kl c := by
  have e : ∀ k, k ∈ b' :: G' ++ (b :: G) → k ∈ b :: G ++ (b' :: G') ∨ wr.heap.size ≤ k := fun k hk => by
    rw [List.mem_append] at hk ⊢
    exact .inl hk.symm
  exact ⟨h.two.flip, h.k.step (Ch.refl [] _) (by simp) e, h.l.step (Ch.refl [] _) (by simp) e, h.kn, h.ln⟩
end
theorem kind_eq (x : Int) (n : Nat) (hn : 0 < n) (hl : n < 1000) : ∃ j : Nat, (wrap64 (x.tmod n + n)).tmod n = (j : Int) ∧ j < n := by
  have h1 := Int.tmod_lt_of_pos x (show (0 : Int) < n by omega)
  have h2 : (x.tmod n).natAbs < n := by
    rw [Int.natAbs_tmod]
    exact Nat.mod_lt _ (by simpa using hn)
  have h3 : wrap64 (x.tmod n + n) = x.tmod n + n := IntWalk.wrap64_in _ (by omega)
  rw [h3, Int.tmod_eq_emod_of_nonneg (by omega)]
  have h4 := Int.emod_nonneg (x.tmod n + n) (show (n : Int) ≠ 0 by omega)
  have h5 := Int.emod_lt_of_pos (x.tmod n + n) (show (0 : Int) < n by omega)
  exact ⟨((x.tmod n + n) % n).toNat, by omega, by omega⟩
def inb (i : Int) (n : Nat) : Bool := decide (0 ≤ i) && decide (i < (n : Int))
theorem setB_inb (S : Nat → Bool) (n : Nat) (i : Int) : setB S n i = (inb i n && !hasI S n i) := by
  unfold setB inb hasI
  cases decide (0 ≤ i) <;> cases decide (i < (n : Int)) <;> simp
theorem inb_false {S : Nat → Bool} {n : Nat} {i : Int} (v : Bool) (h : inb i n = false) : putS S n i v = S := by
  unfold putS
  rw [if_neg]
  rintro ⟨h1, h2⟩
  unfold inb at h
  rw [decide_eq_true h1, decide_eq_true h2] at h
  cases h
theorem inb_true {n : Nat} {i : Int} (h : inb i n = true) : 0 ≤ i ∧ i < (n : Int) := by simpa [inb] using h
theorem TwoSt.hi {w wr : World} {b n b' m : Nat} {S T : Nat → Bool} {G G' : List Nat} (h : TwoSt w wr b n S G b' m T G') : ∀ x ∈ b :: G ++ (b' :: G'), x < wr.heap.size := by
  intro x hx
  simp only [List.cons_append, List.mem_cons, List.mem_append] at hx
  rcases hx with rfl | hx | rfl | hx
  · exact h.one.at_.lt
  · exact h.one.at_.hi x hx
  · exact h.two.at_.lt
  · exact h.two.at_.hi x hx
theorem twCopyF {w wr : World} {b n b' : Nat} {S T : Nat → Bool} {G G' : List Nat} (h : TwoSt w wr b n S G b' n T G') :
    Calls Tryd.prog 26 #[.pointer (some ⟨b, 0, none⟩), .pointer (some ⟨b', 0, none⟩)] wr fun e w' => e = .returned (.bool true) ∧ ∃ G2, TwoSt w w' b n T G2 b' n T G' ∧ (∀ k ∈ G2, wr.heap.size ≤ k) ∧ Ch [b] wr w' :=
  (bitsCopyEq b n S G b' T G' wr h.one.at_ h.two.at_).mono fun _ w' ⟨h1, ⟨G2, h2, h3⟩, h4⟩ => ⟨h1, G2, ⟨⟨h2, h.one.ch.transT h4 (by intro k hk; simp at hk; subst hk; exact .inr h.one.lo), h.one.lo, fun k hk => Nat.le_trans h.one.ch.size (h3 k hk)⟩,
    ⟨h.two.at_.keep h4 (by simp; exact h.ne.symm) (by intro k hk hk2; simp at hk2; subst hk2; exact h.two.at_.cross h.one.at_ hk), h.two.ch.transT h4 (by intro k hk; simp at hk; subst hk; exact .inr h.one.lo), h.two.lo, h.two.loG⟩, h.ne, fun k hk hk2 => by have := h3 k hk; have := h.two.at_.hi k hk2; omega⟩, h3, h4⟩
theorem putS_true_no (S : Nat → Bool) (n : Nat) (i : Int) (h : setB S n i = false) : ∀ k, k < n → putS S n i true k = S k := by
  intro k hk
  unfold putS
  split
  · rename_i hi
    unfold upd
    split
    · rename_i e
      unfold setB at h
      rw [decide_eq_true hi.1, decide_eq_true hi.2, ← e] at h
      simpa using h.symm
    · rfl
  · rfl
theorem setB_true {S : Nat → Bool} {n : Nat} {i : Int} (h : setB S n i = true) : (0 ≤ i ∧ i < (n : Int)) ∧ hasI S n i = false := by
  unfold setB at h
  simp only [Bool.and_eq_true, decide_eq_true_eq, Bool.not_eq_true'] at h
  exact ⟨⟨h.1, h.2.1⟩, by unfold hasI; rw [h.2.2]; simp⟩
theorem srcN {w : World} {a : Option Addr} {xs : List Int} (k c : Nat) (h : Rd w a xs) (hk : xs.length = k) : Src Tryd.prog 1 22 (.slice a k c) xs.length (xs.map (Value.int .i64)) w := by
  subst hk
  exact Rd.src Tryd.underlying22 c h
set_option maxRecDepth 100000 in
set_option maxHeartbeats 16000000 in
theorem plays3_walk (a0 a1 : Int) (a2' : Option Addr) (len cap : Nat) (F : Nat → Nat → Value) (w : World) (hT : TabW w) (hr : RdS w a2' len 3 F) (ht : ∀ i, i < len → (∃ x, F i 0 = .int .i64 x) ∧ (∃ x, F i 1 = .int .i64 x) ∧ (∃ x, F i 2 = .bool x)) (hm : len ≤ maxLen) :
    Calls Tryd.prog 6 #[.int .i64 a0, .int .i64 a1, .slice a2' len cap] w fun e w' => e = .returned (.bool true) ∧ Below w.heap.size w w' := by
  unfold maxLen at hm
  obtain ⟨n, hn, hnl⟩ := umod a0 301 (by decide) (by decide)
  obtain ⟨m, hm', hml⟩ := umod a1 301 (by decide) (by decide)
  have HN := Lib.hid hn
  have HM := Lib.hid hm'
  have HT := Lib.hid hT
  have HF := Lib.hid ht
  clear hn hm' hT ht
  go_enter Tryd.func6, Tryd.ntmps6
  go_wp2_with fail
  try rw [HN.out]
  refine (bitsNew n w (by omega)).mono ?_; rintro e w1 ⟨b, G, rfl, h1, hb, hG, c1⟩
  go_wp2_with fail
  try rw [HM.out]
  refine (bitsNew m w1 (by omega)).mono ?_; rintro e w2 ⟨b', G', rfl, h2, hb', hG', c2⟩
  have hst0 : TwoSt w w2 b n none_ G b' m none_ G' := by
    have k1 := h1.lt
    have k2 := h1.hi
    exact ⟨⟨h1.ch c2, c1.trans c2, hb, hG⟩, ⟨h2, c1.trans c2, Nat.le_trans c1.size hb', fun k hk => Nat.le_trans c1.size (hG' k hk)⟩, by omega, fun k hk hk2 => by have := k2 k hk; have := hG' k hk2; omega⟩
  have e0 : ∀ n, els none_ n = [] := fun n => by simp [els, mem, none_]
  have e1 : ∀ n, cnt none_ n = 0 := fun n => cnt_none (fun _ _ => rfl)
  have hst : BP w w2 b n none_ G b' m none_ G' none 0 0 none 0 0 := ⟨hst0, by rw [e0]; exact LsA.nil _ _, by rw [e0]; exact LsA.nil _ _, e1 n, e1 m⟩
  have g1 := bitsLen b n none_ G w2 hst0.one.at_
  have z1 : ((n : Int) != (n : Int)) = false := by simp
  clear h1 h2 hb hb' hG hG' c1 c2 hst0 e0 e1
  go_wp2_with fail
  try rw [HN.out]
  refine g1.mono ?_; rintro e w3 ⟨rfl, rfl⟩
  clear g1
  go_wp2_with fail
  go_loopw [11, 12, 13] (fun s11 s12 s13 wr => ∃ (i kl c kk c2 : Nat) (S T : Nat → Bool) (G : List Nat) (a a2 : Option Addr), s11 = .slice a kl c ∧ s12 = .slice a2 kk c2 ∧ s13 = .int .i64 i ∧ i ≤ len ∧ i ≤ 60 ∧ kl ≤ n ∧ kk ≤ m ∧ BP w wr b n S G b' m T G' a kl c a2 kk c2) (fun _ _ s13 _ => 60 - (intOf s13).toNat)
  case atStart => exact ⟨0, 0, 0, 0, 0, _, _, G, none, none, rfl, rfl, rfl, by omega, by omega, by omega, by omega, hst⟩
  case round =>
    clear hst z1
    obtain ⟨i, kl, c, kk, c2, S, T, G, a, a2, rfl, rfl, rfl, hil, hi60, hkl, hkk, hst⟩ := hrel
    by_cases hlt : i < len
    · by_cases h60 : i < 60
      · have t1 : decide ((i : Int) < len) = true := decide_eq_true (by omega)
        have t2 : decide ((i : Int) < 60) = true := decide_eq_true (by omega)
        obtain ⟨⟨x, hx⟩, ⟨I, hI⟩, ⟨v, hv⟩⟩ := HF.out i hlt
        obtain ⟨ba, oa, rfl, hcell⟩ := (hr.keep (by decide) hst.two.one.ch (by simp)).at hlt
        have d0 := hcell i hlt 0 (by decide)
        have d1 := hcell i hlt 1 (by decide)
        have d2 := hcell i hlt 2 (by decide)
        rw [hx] at d0
        rw [hI] at d1
        rw [hv] at d2
        simp only [Nat.add_zero] at d0
        clear hcell hx hI hv
        go_upto_region 10 with fail
        obtain ⟨W1, hW1⟩ : ∃ W1, wr.alloc (.cells #[.int .i64 x, .int .i64 I, .bool v] 35) = W1 := ⟨_, rfl⟩
        obtain ⟨q, hq⟩ : ∃ q, wr.heap.size = q := ⟨_, rfl⟩
        have bq : Blk W1 q #[.int .i64 x, .int .i64 I, .bool v] 35 := by rw [← hW1, ← hq]; exact Blk.new _ _ _
        have hst1 : BP w W1 b n S G b' m T G' a kl c a2 kk c2 := hst.still (by rw [← hW1]; exact (Ch.refl [] wr).alloc _)
        have hqS : q ∉ b :: G ++ (b' :: G') := fun hk => by have := hst.hi q hk; omega
        have e0 := bq.cell 0
        have e1 := bq.cell 1
        have e2 := bq.cell 2
        rw [hW1, hq]
        obtain ⟨j, hj, hjl⟩ := kind_eq x 6 (by decide) (by decide)
        replace hj : (wrap64 (x.tmod 6 + 6)).tmod 6 = (j : Int) := hj
        have HJJ := Lib.hid hj
        clear hW1 hq hst d0 d1 d2 hj
        go_cut [15] from 55 to 63 (fun s15 wx => s15 = .bool (inb I n) ∧ wx = W1)
        case first =>
          by_cases p0 : 0 ≤ I
          · have p0' : decide (0 ≤ I) = true := decide_eq_true p0
            by_cases p1 : I < (n : Int)
            · have p1' : decide (I < (n : Int)) = true := decide_eq_true p1
              have hb : inb I n = true := by simp [inb, p0, p1]
              have HB := Lib.hid hb
              clear hb t1 t2
              go_wp2_with fail
              go_meet
              exact ⟨by rw [HB.out] <;> rfl, rfl⟩
            · have p1' : decide (I < (n : Int)) = false := decide_eq_false p1
              have hb : inb I n = false := by simp [inb, p1]
              have HB := Lib.hid hb
              clear hb t1 t2
              go_wp2_with fail
              go_meet
              exact ⟨by rw [HB.out] <;> rfl, rfl⟩
          · have p0' : decide (0 ≤ I) = false := decide_eq_false p0
            have hb : inb I n = false := by simp [inb, p0]
            have HB := Lib.hid hb
            clear hb t1 t2
            go_wp2_with fail
            go_meet
            exact ⟨by rw [HB.out] <;> rfl, rfl⟩
        case rest =>
          obtain ⟨rfl, rfl⟩ := hcut
          have hHs := hasAny a (els S n) I kl c _ hst1.l.1 (by rw [els_len]; exact hst1.ln.symm) (by omega)
          rw [els_has] at hHs
          obtain ⟨H, hH⟩ : ∃ H, hasI S n I = H := ⟨_, rfl⟩
          obtain ⟨P, hP⟩ : ∃ P, inb I n = P := ⟨_, rfl⟩
          rw [hH] at hHs
          rw [hP]
          have HH := Lib.hid hH
          have HPP := Lib.hid hP
          clear hH hP
          go_wp2_with fail
          refine hHs.mono ?_; rintro e w4 ⟨rfl, rfl⟩
          clear hHs
          go_upto_block 2 with fail
          go_cut [11, 12, 72] from 73 to 151 (fun s11 s12 s72 wx => ∃ (kl c kk c2 : Nat) (S T : Nat → Bool) (G : List Nat) (a a2 : Option Addr), s11 = .slice a kl c ∧ s12 = .slice a2 kk c2 ∧ kl ≤ n ∧ kk ≤ m ∧ BP w wx b n S G b' m T G' a kl c a2 kk c2 ∧ Blk wx q #[.int .i64 x, .int .i64 I, .bool v] 35)
          case first =>
            rw [HJJ.out]
            clear t1 t2
            have hqG : q ∉ b :: G := fun h => hqS (List.mem_append_left _ h)
            have hqG' : q ∉ b' :: G' := fun h => hqS (List.mem_append_right _ h)
            have sub1 : ∀ k ∈ b :: G, k ∈ b :: G ++ (b' :: G') ∨ w4.heap.size ≤ k := fun k hk => .inl (List.mem_append_left _ hk)
            have sub2 : ∀ k ∈ b :: G ++ (b' :: G'), k ∈ b :: G ++ (b' :: G') ∨ w4.heap.size ≤ k := fun k hk => .inl hk
            have sub3 : ∀ x ∈ G, x ∈ G ∨ w4.heap.size ≤ x := fun _ h => .inl h
            by_cases j01 : j = 0 ∨ j = 1
            · have tw := twSet I hst1.two
              rw [setB_inb, HPP.out, HH.out] at tw
              cases P
              · rw [inb_false (S := S) true HPP.out, Bool.false_and] at tw
                rcases j01 with rfl | rfl
                all_goals
                  go_wp2_with fail
                  refine tw.mono ?_; rintro e w5 ⟨rfl, t5, c5⟩
                  clear tw
                  go_wp2_with fail
                  go_meet
                  exact ⟨kl, c, kk, c2, S, T, G, a, a2, rfl, rfl, hkl, hkk, hst1.one t5 c5 sub3 t5 (Ch.refl [] _) (hst1.l.step c5 sub1 sub2) hst1.ln, bq.keep c5 hqG⟩
              · have hin := inb_true HPP.out
                rw [Bool.true_and] at tw
                obtain ⟨kl2, hkl2⟩ : ∃ kl2, cnt (putS S n I true) n = kl2 := ⟨_, rfl⟩
                have HK2 := Lib.hid hkl2
                have HIN := Lib.hid hin
                clear hkl2 hin
                cases H
                all_goals
                  rcases j01 with rfl | rfl
                  all_goals
                    go_wp2_with fail
                    refine tw.mono ?_; rintro e w5 ⟨rfl, t5, c5⟩
                    have bq5 := bq.keep c5 hqG
                    have e15 := bq5.cell 1
                    have pu := putLsA a (els S n) I kl c (b :: G ++ (b' :: G')) w5 (hst1.l.step c5 sub1 sub2) (by rw [els_len]; exact hst1.ln.symm) (fun k hk => Nat.lt_of_lt_of_le (hst1.hi k hk) c5.size) (by omega)
                    rw [els_put S n I HIN.out, els_len, HK2.out] at pu
                    clear tw e0 e1 e2
                    go_wp2_with fail
                    refine pu.mono ?_; rintro e w6 ⟨a6, c6', rfl, l6, c6⟩
                    clear pu
                    go_wp2_with fail
                    go_meet
                    exact ⟨kl2, c6', kk, c2, putS S n I true, T, G, a6, a2, rfl, rfl, by rw [← HK2.out]; exact cnt_le _ n, hkk, hst1.one t5 c5 sub3 (t5.still c6) c6 l6 HK2.out, bq5.keep c6 (by simp)⟩
            · by_cases j2 : j = 2
              · subst j2
                have tw := twClear I hst1.two
                rw [HH.out] at tw
                have hh : (H != H) = false := by cases H <;> rfl
                clear j01
                rcases split_first (els S n) I with hv | ⟨p, q', hpq, hv⟩
                · have hS : hasI S n I = false := by
                    rw [Bool.eq_false_iff]
                    exact fun h => hv ((mem_els S n I).2 h)
                  have HNO := Lib.hid (putS_false_no S n I hS)
                  have HV := Lib.hid hv
                  clear hS hv
                  go_wp2_with fail
                  refine tw.mono ?_; rintro e w5 ⟨rfl, t5, c5⟩
                  have bq5 := bq.keep c5 hqG
                  have e15 := bq5.cell 1
                  have hl5 := hst1.l.step (U := b :: G ++ (b' :: G')) c5 sub1 sub2
                  have t5' : TwoSt w w5 b n S G b' m T G' := ⟨t5.one.congr HNO.out, t5.two, t5.ne, t5.ap⟩
                  have ou := outNone a (els S n) I kl c w5 hl5.1 HV.out (by rw [els_len]; exact hst1.ln.symm) (by omega)
                  clear tw e0 e1 e2
                  go_wp2_with fail
                  refine ou.mono ?_; rintro e w6 ⟨rfl, rfl⟩
                  clear ou
                  go_wp2_with fail
                  go_meet
                  exact ⟨kl, c, kk, c2, S, T, G, a, a2, rfl, rfl, hkl, hkk, hst1.one t5' c5 sub3 t5' (Ch.refl [] _) hl5 hst1.ln, bq5⟩
                · have hel := els_out S n I p q' hpq
                  obtain ⟨kl2, hkl2⟩ : ∃ kl2, cnt (putS S n I false) n = kl2 := ⟨_, rfl⟩
                  have HK2 := Lib.hid hkl2
                  have HPQ := Lib.hid hpq
                  have HEL := Lib.hid hel
                  have HV := Lib.hid hv
                  clear hv hpq hel hkl2
                  go_wp2_with fail
                  refine tw.mono ?_; rintro e w5 ⟨rfl, t5, c5⟩
                  have bq5 := bq.keep c5 hqG
                  have e15 := bq5.cell 1
                  have hl5 := hst1.l.step (U := b :: G ++ (b' :: G')) c5 sub1 sub2
                  have hlen : (els S n).length = kl := by rw [els_len]; exact hst1.ln
                  have ou := outFound a p q' I kl c w5 (by rw [← HPQ.out]; exact hl5.1) HV.out (by rw [← HPQ.out]; exact hlen.symm) (by have := hl5.2.1; omega) (by omega)
                  rw [HEL.out] at ou
                  clear tw e0 e1 e2 hlen
                  go_wp2_with fail
                  refine ou.mono ?_; rintro e w6 ⟨v6, rfl, o6, c6⟩
                  clear ou
                  obtain ⟨a6, c6', rfl, l6⟩ := o6.lsA (S := b :: G ++ (b' :: G')) (fun k hk => Nat.lt_of_lt_of_le (hst1.hi k hk) c5.size)
                  rw [els_len, HK2.out]
                  go_wp2_with fail
                  go_meet
                  exact ⟨kl2, c6', kk, c2, putS S n I false, T, G, a6, a2, rfl, rfl, by rw [← HK2.out]; exact cnt_le _ n, hkk, hst1.one t5 c5 sub3 (t5.still c6) c6 l6 HK2.out, bq5.keep c6 (by simp)⟩
              · by_cases j3 : j = 3
                · subst j3
                  have hS2 : BP w (w4.drewN 1) b n S G b' m T G' a kl c a2 kk c2 := hst1.still ((Ch.refl [] w4).drewN 1)
                  have hNx := bitsNext b n S G v I (w4.drewN 1) hS2.two.one.at_ (hS2.two.one.tab HT.out)
                  have hRx := nextRef a c n kl S I v (w4.drewN 1) hS2.l.1 (by omega) hS2.ln
                  obtain ⟨V, hV⟩ : ∃ V, nxt S n I.toNat v = V := ⟨_, rfl⟩
                  rw [hV] at hNx hRx
                  have vv : (V != V) = false := by simp
                  obtain ⟨L, hL⟩ : ∃ L : World → Prop, ∀ w', L w' ↔ (w'.cell? ⟨q, 1, none⟩ = some (.int .i64 I) ∧ w'.cell? ⟨q, 2, none⟩ = some (.bool v)) := ⟨_, fun _ => Iff.rfl⟩
                  have hS1 : ∀ x : { w' : World // L w' }, x.1.cell? ⟨q, 1, none⟩ = some (.int .i64 I) := fun x => ((hL _).1 x.2).1
                  have hS3 : ∀ x : { w' : World // L w' }, x.1.cell? ⟨q, 2, none⟩ = some (.bool v) := fun x => ((hL _).1 x.2).2
                  have hS0 : L (w4.drewN 1) := (hL _).2 ⟨(bq.drewN 1).cell 1, (bq.drewN 1).cell 2⟩
                  have hSA : Nonempty { w' : World // L w' } := ⟨⟨_, hS0⟩⟩
                  clear hL hV e0 e1 e2 j01 j2
                  go_upto_region 26 with fail
                  refine wp_region_plan (Cls L) (List.range 14) (.reads [0, 1, 2, 3, 4, 6, 7, 8, 9, 10, 11] (.only 5 (.only 12 (.reads [13] .done)))) (by kernel_rfl) (by kernel_rfl) (fun _ _ _ _ _ h => h) ?_
                  simp only [Plan.reads, Plan.only, List.foldr_cons, List.foldr_nil]
                  iterate 11 (refine wpPlan_readS hS0 (fun K hK => ?_); simp only [List.getD_cons_zero, List.getD_cons_succ]; go_simp; refine hK _ ?_; clear hK K)
                  refine wpPlan_only (fun K hK => ?_)
                  simp only [List.getD_cons_zero, List.getD_cons_succ]
                  go_simp
                  refine hNx.mono ?_; rintro e w5 ⟨rfl, rfl⟩
                  refine hK _ _ (fun _ => Cls.mk hS0) ?_
                  clear hK K
                  refine wpPlan_only (fun K hK => ?_)
                  simp only [List.getD_cons_zero, List.getD_cons_succ]
                  go_simp
                  refine hRx.mono ?_; rintro e w5 ⟨rfl, rfl⟩
                  refine hK _ _ (fun _ => Cls.mk hS0) ?_
                  clear hK K
                  iterate 1 (refine wpPlan_readS hS0 (fun K hK => ?_); simp only [List.getD_cons_zero, List.getD_cons_succ]; go_simp; refine hK _ ?_; clear hK K)
                  refine wpPlan_done ?_
                  clear hS0 hS1 hS3 hSA hNx hRx
                  go_wp2_with fail
                  go_meet
                  exact ⟨kl, c, kk, c2, S, T, G, a, a2, rfl, rfl, hkl, hkk, hS2, bq.drewN 1⟩
                · by_cases j4 : j = 4
                  · subst j4
                    clear j01 j2 j3 e0 e1 e2
                    by_cases hnm : n = m
                    · subst hnm
                      have tw := twCopyF hst1.two
                      have nn : ((n : Int) == (n : Int)) = true := by simp
                      go_wp2_with fail
                      refine tw.mono ?_; rintro e w5 ⟨rfl, G2, t5, g5, c5⟩
                      clear tw
                      have bq5 := bq.keep c5 (by simp; exact fun h => hqG (by simp [h]))
                      have hk5 := hst1.k.step (U := b :: G ++ (b' :: G')) c5 (fun k hk => .inl (by simp at hk; simp [hk])) sub2
                      have hO := OwI.empty (B := w5.heap.size) w5 (Nat.le_refl _)
                      have c5' := (Ch.refl [] w5).alloc (.cells #[] 3)
                      have hsr := srcN kk c2 (hk5.step (U := b :: G ++ (b' :: G')) c5' (by simp) (fun k hk => .inl hk)).1 (by rw [els_len]; exact hst1.kn)
                      have hsz := c5'.size
                      have hle : (els T n).length ≤ 1000 := by rw [els_len]; have := cnt_le T n; omega
                      clear hk5
                      go_wp2_with (at_builtin; refine wpList_app rfl (.tmp 149) (.tmp 150) rfl w5.heap.size _ [] rfl hO hsz (.slice a2 kk c2) (els T n) rfl hsr (by simp; omega) ?_)
                      intro v6 w6 o6 c6 _
                      have c56 : Ch [] w5 w6 := c5'.transT c6 (by simp [Value.ownBlock])
                      have t6 := t5.still c56
                      obtain ⟨a6, c6', rfl, l6⟩ := o6.lsA (S := b :: G2 ++ (b' :: G')) t5.hi
                      rw [els_len, show cnt T n = kk from hst1.kn]
                      clear hO hsr
                      go_wp2_with fail
                      go_meet
                      exact ⟨kk, c6', kk, c2, T, T, G2, a6, a2, rfl, rfl, hkk, hkk, hst1.one t5 (c5.mono (by intro k hk; simp at hk; simp [hk])) (fun x hx => .inr (g5 x hx)) t6 c56 l6 hst1.kn, bq5.keep c56 (by simp)⟩
                    · have nn : ((n : Int) == (m : Int)) = false := by rw [beq_eq_false_iff_ne]; omega
                      have tw := bitsCopyNe b n S G b' m T G' w4 hst1.two.one.at_ hst1.two.two.at_ hnm
                      go_wp2_with fail
                      refine tw.mono ?_; rintro e w5 ⟨rfl, c5⟩
                      clear tw
                      go_wp2_with fail
                      go_meet
                      exact ⟨kl, c, kk, c2, S, T, G, a, a2, rfl, rfl, hkl, hkk, hst1.still c5, bq.keep c5 (by simp)⟩
                  · obtain rfl : j = 5 := by omega
                    clear j01 j2 j3 j4
                    have hf := hst1.flip
                    have tw := twSet I hf.two
                    have sub1' : ∀ k ∈ b' :: G', k ∈ b' :: G' ++ (b :: G) ∨ w4.heap.size ≤ k := fun k hk => .inl (List.mem_append_left _ hk)
                    have sub2' : ∀ k ∈ b' :: G' ++ (b :: G), k ∈ b' :: G' ++ (b :: G) ∨ w4.heap.size ≤ k := fun k hk => .inl hk
                    have sub3' : ∀ x ∈ G', x ∈ G' ∨ w4.heap.size ≤ x := fun _ h => .inl h
                    obtain ⟨B, hB⟩ : ∃ B, setB T m I = B := ⟨_, rfl⟩
                    rw [hB] at tw
                    cases B
                    · have HNO := Lib.hid (putS_true_no T m I hB)
                      clear hB
                      go_wp2_with fail
                      refine tw.mono ?_; rintro e w5 ⟨rfl, t5, c5⟩
                      clear tw
                      have bq5 := bq.keep c5 hqG'
                      have e15 := bq5.cell 1
                      have t5' : TwoSt w w5 b' m T G' b n S G := ⟨t5.one.congr HNO.out, t5.two, t5.ne, t5.ap⟩
                      clear e0 e1 e2
                      go_wp2_with fail
                      go_meet
                      exact ⟨kl, c, kk, c2, S, T, G, a, a2, rfl, rfl, hkl, hkk, (hf.one t5' c5 sub3' t5' (Ch.refl [] _) (hf.l.step c5 sub1' sub2') hf.ln).flip, bq5⟩
                    · obtain ⟨hin, hno⟩ := setB_true hB
                      obtain ⟨kk2, hkk2⟩ : ∃ kk2, cnt (putS T m I true) m = kk2 := ⟨_, rfl⟩
                      have HK2 := Lib.hid hkk2
                      have HIN := Lib.hid hin
                      have HNO := Lib.hid hno
                      clear hkk2 hin hno hB
                      go_wp2_with fail
                      refine tw.mono ?_; rintro e w5 ⟨rfl, t5, c5⟩
                      have bq5 := bq.keep c5 hqG'
                      have e15 := bq5.cell 1
                      have hl5 := hf.l.step (U := b' :: G' ++ (b :: G)) c5 sub1' sub2'
                      have hHa := hasAny a2 (els T m) I kk c2 w5 hl5.1 (by rw [els_len]; exact hf.ln.symm) (by omega)
                      rw [els_has, HNO.out] at hHa
                      have pu := putLsA a2 (els T m) I kk c2 (b' :: G' ++ (b :: G)) w5 hl5 (by rw [els_len]; exact hf.ln.symm) (fun k hk => Nat.lt_of_lt_of_le (hf.hi k hk) c5.size) (by omega)
                      rw [els_put T m I HIN.out, els_len, HK2.out] at pu
                      clear tw e0 e1 e2
                      go_wp2_with fail
                      refine hHa.mono ?_; rintro e w6 ⟨rfl, rfl⟩
                      clear hHa
                      go_wp2_with fail
                      refine pu.mono ?_; rintro e w6 ⟨a6, c6', rfl, l6, c6⟩
                      clear pu
                      go_wp2_with fail
                      go_meet
                      exact ⟨kl, c, kk2, c6', S, putS T m I true, G, a, a6, rfl, rfl, hkl, by rw [← HK2.out]; exact cnt_le _ m, (hf.one t5 c5 sub3' (t5.still c6) c6 l6 HK2.out).flip, bq5.keep c6 (by simp)⟩
          case rest =>
            clear hst1 bq e0 e1 e2 hkl hkk
            obtain ⟨kl, c, kk, c2, S, T, G, a, a2, rfl, rfl, hkl, hkk, hst1, bq⟩ := hcut
            have hS2 := hst1.still ((Ch.refl [] _).drewN 1)
            have hHs := bitsHas b n S G I _ hS2.two.one.at_
            have hRs := hasAny a (els S n) I kl c _ hS2.l.1 (by rw [els_len]; exact hS2.ln.symm) (by omega)
            have hCs := bitsCount b n S G _ hS2.two.one.at_
            rw [hS2.ln] at hCs
            rw [els_has] at hRs
            obtain ⟨H2, hH2⟩ : ∃ H2, hasI S n I = H2 := ⟨_, rfl⟩
            rw [hH2] at hHs hRs
            have hh : (H2 != H2) = false := by cases H2 <;> rfl
            have kkl : ((kl : Int) != (kl : Int)) = false := by simp
            obtain ⟨L, hL⟩ : ∃ L : World → Prop, ∀ w', L w' ↔ (w'.cell? ⟨q, 1, none⟩ = some (.int .i64 I)) := ⟨_, fun _ => Iff.rfl⟩
            have hS1 : ∀ x : { w' : World // L w' }, x.1.cell? ⟨q, 1, none⟩ = some (.int .i64 I) := fun x => (hL _).1 x.2
            have hS0 := (hL _).2 ((bq.drewN 1).cell 1)
            have hSA : Nonempty { w' : World // L w' } := ⟨⟨_, hS0⟩⟩
            clear hL hH2
            go_upto_region 33 with fail
            refine wp_region_plan (Cls L) (List.range 16) (.reads [0, 1, 2, 4, 5, 6] (.only 3 (.only 7 (.reads [8, 9, 10, 12, 13] (.only 11 (.reads [14, 15] .done)))))) (by kernel_rfl) (by kernel_rfl) (fun _ _ _ _ _ h => h) ?_
            simp only [Plan.reads, Plan.only, List.foldr_cons, List.foldr_nil]
            iterate 6 (refine wpPlan_readS hS0 (fun K hK => ?_); simp only [List.getD_cons_zero, List.getD_cons_succ]; go_simp; refine hK _ ?_; clear hK K)
            refine wpPlan_only (fun K hK => ?_)
            simp only [List.getD_cons_zero, List.getD_cons_succ]
            go_simp
            refine hHs.mono ?_; rintro e w5 ⟨rfl, rfl⟩
            refine hK _ _ (fun _ => Cls.mk hS0) ?_
            clear hK K
            refine wpPlan_only (fun K hK => ?_)
            simp only [List.getD_cons_zero, List.getD_cons_succ]
            go_simp
            refine hRs.mono ?_; rintro e w5 ⟨rfl, rfl⟩
            refine hK _ _ (fun _ => Cls.mk hS0) ?_
            clear hK K
            iterate 5 (refine wpPlan_readS hS0 (fun K hK => ?_); simp only [List.getD_cons_zero, List.getD_cons_succ]; go_simp; refine hK _ ?_; clear hK K)
            refine wpPlan_only (fun K hK => ?_)
            simp only [List.getD_cons_zero, List.getD_cons_succ]
            go_simp
            refine hCs.mono ?_; rintro e w5 ⟨rfl, rfl⟩
            refine hK _ _ (fun _ => Cls.mk hS0) ?_
            clear hK K
            iterate 2 (refine wpPlan_readS hS0 (fun K hK => ?_); simp only [List.getD_cons_zero, List.getD_cons_succ]; go_simp; refine hK _ ?_; clear hK K)
            refine wpPlan_done ?_
            clear hS0 hS1 hSA hHs hRs hCs
            go_wp2_with fail
            go_roundw
            case rel => exact ⟨i + 1, kl, c, kk, c2, S, T, G, a, a2, rfl, rfl, by go_num, by omega, by omega, hkl, hkk, hS2⟩
            case measure => simp [intOf]; omega
      · have t1 : decide ((i : Int) < len) = true := decide_eq_true (by omega)
        have t2 : decide ((i : Int) < 60) = false := decide_eq_false (by omega)
        go_wp2_with fail
        refine (told3 _ (hst.two.one.tab HT.out)).mono ?_; rintro e w3 ⟨rfl, c3⟩
        have hst3 := hst.still c3
        clear hst c3
        go_wp2_with fail
        refine (bitsAllN b n kl S G w3 hst3.two.one.at_ (hst3.two.one.tab HT.out) (by omega) hst3.ln).mono ?_; rintro e w4 ⟨a4, q4, rfl, o4, c4⟩
        have hst4 := hst3.still c4
        have hI := intsN a4 a (els S n) kl q4 c w4 o4.rdN hst4.l.1 (by rw [els_len]; exact hst4.ln) (by unfold maxLen; omega)
        clear hst3 c4 o4
        go_wp2_with fail
        refine hI.mono ?_; rintro e w5 ⟨rfl, nq5, rfl⟩
        have hst5 := hst4.still ((Ch.refl [] w4).drewN nq5)
        clear hst4 hI
        go_wp2_with fail
        refine (bitsAllN b' m kk T G' _ hst5.two.two.at_ (hst5.two.two.tab HT.out) (by omega) hst5.kn).mono ?_; rintro e w6 ⟨a6, q6, rfl, o6, c6⟩
        have hst6 := hst5.still c6
        have hI := intsN a6 a2 (els T m) kk q6 c2 w6 o6.rdN hst6.k.1 (by rw [els_len]; exact hst6.kn) (by unfold maxLen; omega)
        clear hst5 c6 o6
        go_wp2_with fail
        refine hI.mono ?_; rintro e w7 ⟨rfl, nq7, rfl⟩
        have hend := (hst6.still ((Ch.refl [] w6).drewN nq7)).two.one.ch.below (Nat.le_refl _) (by simp)
        clear hst6 hI
        go_wp2_with fail
        go_ret
        exact ⟨rfl, hend⟩
    · have t1 : decide ((i : Int) < len) = false := decide_eq_false (by omega)
      go_wp2_with fail
      refine (told3 _ (hst.two.one.tab HT.out)).mono ?_; rintro e w3 ⟨rfl, c3⟩
      have hst3 := hst.still c3
      clear hst c3
      go_wp2_with fail
      refine (bitsAllN b n kl S G w3 hst3.two.one.at_ (hst3.two.one.tab HT.out) (by omega) hst3.ln).mono ?_; rintro e w4 ⟨a4, q4, rfl, o4, c4⟩
      have hst4 := hst3.still c4
      have hI := intsN a4 a (els S n) kl q4 c w4 o4.rdN hst4.l.1 (by rw [els_len]; exact hst4.ln) (by unfold maxLen; omega)
      clear hst3 c4 o4
      go_wp2_with fail
      refine hI.mono ?_; rintro e w5 ⟨rfl, nq5, rfl⟩
      have hst5 := hst4.still ((Ch.refl [] w4).drewN nq5)
      clear hst4 hI
      go_wp2_with fail
      refine (bitsAllN b' m kk T G' _ hst5.two.two.at_ (hst5.two.two.tab HT.out) (by omega) hst5.kn).mono ?_; rintro e w6 ⟨a6, q6, rfl, o6, c6⟩
      have hst6 := hst5.still c6
      have hI := intsN a6 a2 (els T m) kk q6 c2 w6 o6.rdN hst6.k.1 (by rw [els_len]; exact hst6.kn) (by unfold maxLen; omega)
      clear hst5 c6 o6
      go_wp2_with fail
      refine hI.mono ?_; rintro e w7 ⟨rfl, nq7, rfl⟩
      have hend := (hst6.still ((Ch.refl [] w6).drewN nq7)).two.one.ch.below (Nat.le_refl _) (by simp)
      clear hst6 hI
      go_wp2_with fail
      go_ret
      exact ⟨rfl, hend⟩
end Go.Proofs.YtheniiinioggiaaDoor
