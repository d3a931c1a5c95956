/-
  The walk of the statement WaitOnce: the law returns true at every input. Conditions: none beyond how the argument is read.
-/
import Derived.Test.YtaafdhohiekakaaWaitTold
import Derived.Test.YtaafdhohiekakaaLsF
import Derived.Test.YtaafdhohiekakaaHas
import Derived.Test.YtaafdhohiekakaaInts
import Derived.Test.YtaafdhohiekakaaPlan
namespace Go.Proofs.Ytaafdhohiekakaa
open Go.RowKit
/-- Who waits, by two lists. -/
def two (A B : List Int) (j : Nat) : List Int := if j = 0 then A else if j = 1 then B else []
theorem two_set0 (A B L : List Int) : (LsOf (two A B)).set 0 L = LsOf (two L B) := by
  rw [LsOf_set]
  exact LsOf_congr fun j _ => by unfold two; by_cases h : j = 0 <;> simp [h]
theorem two_set1 (A B L : List Int) : (LsOf (two A B)).set 1 L = LsOf (two A L) := by
  rw [LsOf_set]
  exact LsOf_congr fun j _ => by unfold two; by_cases h : j = 1 <;> simp [h]
theorem two_0 (A B : List Int) : gL (LsOf (two A B)) 0 = A := by rw [gL_LsOf _ _ (by decide)]; rfl
theorem two_1 (A B : List Int) : gL (LsOf (two A B)) 1 = B := by rw [gL_LsOf _ _ (by decide)]; rfl
theorem two_not {A B : List Int} {g : Int} (hA : g ∉ A) (hB : g ∉ B) : ∀ k, k < 32 → g ∉ gL (LsOf (two A B)) k := by
  intro k hk
  rw [gL_LsOf _ _ hk]
  unfold two
  split
  · exact hA
  · split
    · exact hB
    · simp
theorem two_len {A B : List Int} {m : Nat} (hA : A.length ≤ m) (hB : B.length ≤ m) : ∀ i, (gL (LsOf (two A B)) i).length ≤ m := lens_bound _ _ (fun i _ => by
  unfold two
  split
  · exact hA
  · split
    · exact hB
    · simp)
theorem two_lens (A B : List Int) : lensOf (LsOf (two A B)) 32 = A.length + B.length := by
  unfold lensOf
  rw [List.take_of_length_le (by rw [LsOf_len]; omega)]
  have : LsOf (two A B) = A :: B :: List.replicate 30 [] := by
    unfold LsOf
    rfl
  rw [this]
  simp
theorem two_lens_le (A B : List Int) : ∀ k, k ≤ 32 → lensOf (LsOf (two A B)) k ≤ A.length + B.length := by
  intro k hk
  rw [← two_lens A B]
  unfold lensOf
  rw [List.take_of_length_le (l := LsOf (two A B)) (i := 32) (by rw [LsOf_len]; omega)]
  have e : ((LsOf (two A B)).map List.length).sum = (((LsOf (two A B)).map List.length).take k).sum + (((LsOf (two A B)).map List.length).drop k).sum := by rw [← List.sum_append, List.take_append_drop]
  rw [List.map_take]
  omega
/-- The state of the law: who waits, and the two rows beside it. -/
structure OnceSt (w wr : World) (b r : Nat) (vs : List Value) (A B : List Int) (a0 : Option Addr) (c0 : Nat) (a1 : Option Addr) (c1 : Nat) : Prop where
  wt : WaitsAt wr b vs (LsOf (two A B))
  br : Blk wr r #[.slice a0 A.length c0, .slice a1 B.length c1] 26
  l0 : LsF wr (r :: b :: blocksOf vs) a0 c0 A
  l1 : LsF wr (r :: b :: blocksOf vs) a1 c1 B
  ch : Ch [] w wr
  rb : r ≠ b
  rv : r ∉ blocksOf vs
  lo : w.heap.size ≤ b
  lr : w.heap.size ≤ r
section
variable {w wr w2 : World} {b r : Nat} {vs vs2 : List Value} {A B A2 B2 : List Int} {a0 a1 : Option Addr} {c0 c1 : Nat}
/-- Nothing of it turns. -/
theorem OnceSt.still (h : OnceSt w wr b r vs A B a0 c0 a1 c1) (hc : Ch [] wr w2) : OnceSt w w2 b r vs A B a0 c0 a1 c1 :=
  ⟨⟨h.wt.1.keep hc (by simp) (by simp), h.wt.2⟩, h.br.keep hc (by simp), h.l0.keep hc (by simp), h.l1.keep hc (by simp), h.ch.trans hc, h.rb, h.rv, h.lo, h.lr⟩
/-- Who waits has turned; the rows are to follow. -/
theorem OnceSt.turn (h : OnceSt w wr b r vs A B a0 c0 a1 c1) (hc : Ch (b :: blocksOf vs) wr w2) (hn : ∀ k ∈ blocksOf vs2, k ∈ blocksOf vs ∨ wr.heap.size ≤ k) :
    Blk w2 r #[.slice a0 A.length c0, .slice a1 B.length c1] 26 ∧ LsF w2 (r :: b :: blocksOf vs2) a0 c0 A ∧ LsF w2 (r :: b :: blocksOf vs2) a1 c1 B ∧ Ch [] w w2 ∧ r ∉ blocksOf vs2 := by
  have hT : ∀ k ∈ b :: blocksOf vs, k ∈ r :: b :: blocksOf vs ∨ wr.heap.size ≤ k := fun k hk => .inl (List.mem_cons_of_mem _ hk)
  have hU : ∀ k ∈ r :: b :: blocksOf vs2, k ∈ r :: b :: blocksOf vs ∨ wr.heap.size ≤ k := by
    intro k hk
    simp only [List.mem_cons] at hk ⊢
    rcases hk with rfl | rfl | hk
    · exact .inl (.inl rfl)
    · exact .inl (.inr (.inl rfl))
    · rcases hn k hk with h | h
      · exact .inl (.inr (.inr h))
      · exact .inr h
  have ha := h.wt.1.above
  refine ⟨h.br.keep hc ?_, h.l0.step hc hT hU, h.l1.step hc hT hU, h.ch.transT hc ?_, ?_⟩
  · simp only [List.mem_cons, not_or]; exact ⟨h.rb, h.rv⟩
  · intro k hk
    simp only [List.mem_cons] at hk
    rcases hk with rfl | hk
    · exact .inr h.lo
    · have := ha k hk; have := h.lo; exact .inr (by omega)
  · intro hk
    rcases hn r hk with h1 | h1
    · exact h.rv h1
    · have := h.br.lt; omega
theorem OnceSt.store0 {v0 : Value} {n : Nat} (h2 : WaitsAt w2 b vs2 (LsOf (two A2 B))) (hb : Blk w2 r #[v0, .slice a1 B.length c1] 26) (l0 : LsF w2 (r :: b :: blocksOf vs2) a0 c0 A2) (l1 : LsF w2 (r :: b :: blocksOf vs2) a1 c1 B) (hn : A2.length = n)
    (ch : Ch [] w w2) (rb : r ≠ b) (rv : r ∉ blocksOf vs2) (lo : w.heap.size ≤ b) (lr : w.heap.size ≤ r) : OnceSt w (w2.setCell ⟨r, 0, none⟩ (.slice a0 n c0)) b r vs2 A2 B a0 c0 a1 c1 := by
  have cs : Ch [r] w2 (w2.setCell ⟨r, 0, none⟩ (.slice a0 n c0)) := (Ch.refl [r] w2).setCell (.inl (by simp)) _
  refine ⟨⟨h2.1.keep cs (by simp; exact fun e => rb e.symm) (by simp; exact rv), h2.2⟩, ?_, l0.keep cs (by simp), l1.keep cs (by simp), ch.transT cs (by intro k hk; simp at hk; subst hk; exact .inr lr), rb, rv, lo, lr⟩
  rw [hn]
  exact hb.set 0 _
theorem OnceSt.store1 {v0 : Value} {n : Nat} (h2 : WaitsAt w2 b vs2 (LsOf (two A B2))) (hb : Blk w2 r #[.slice a0 A.length c0, v0] 26) (l0 : LsF w2 (r :: b :: blocksOf vs2) a0 c0 A) (l1 : LsF w2 (r :: b :: blocksOf vs2) a1 c1 B2) (hn : B2.length = n)
    (ch : Ch [] w w2) (rb : r ≠ b) (rv : r ∉ blocksOf vs2) (lo : w.heap.size ≤ b) (lr : w.heap.size ≤ r) : OnceSt w (w2.setCell ⟨r, 1, none⟩ (.slice a1 n c1)) b r vs2 A B2 a0 c0 a1 c1 := by
  have cs : Ch [r] w2 (w2.setCell ⟨r, 1, none⟩ (.slice a1 n c1)) := (Ch.refl [r] w2).setCell (.inl (by simp)) _
  refine ⟨⟨h2.1.keep cs (by simp; exact fun e => rb e.symm) (by simp; exact rv), h2.2⟩, ?_, l0.keep cs (by simp), l1.keep cs (by simp), ch.transT cs (by intro k hk; simp at hk; subst hk; exact .inr lr), rb, rv, lo, lr⟩
  rw [hn]
  exact hb.set 1 _
end
set_option maxRecDepth 100000 in
set_option maxHeartbeats 8000000 in
theorem once_walk (a : Option Addr) (xs : List Int) (c : Nat) (w : World) (hr : Rd w a xs) (hx : xs.length ≤ 60) :
    Calls Try.prog 3 #[.slice a xs.length c] w fun e w' => e = .returned (.bool true) ∧ Below w.heap.size w w' := by
  obtain ⟨n, hn⟩ : ∃ n, xs.length = n := ⟨_, rfl⟩
  rw [hn] at hx ⊢
  have HN := Lib.hid hn
  have hn60 : ¬ (60 : Int) < n := by omega
  clear hn
  go_enter Try.func3, Try.ntmps3
  go_wp2_with fail
  refine (waitNew _).mono ?_; rintro e w1 ⟨rfl, h1, c1⟩
  obtain ⟨b, hb⟩ : ∃ b, w.heap.size = b := ⟨_, rfl⟩
  rw [hb, rep_LsOf] at h1
  rw [hb]
  have h1 : WaitsAt w1 b (List.replicate 32 (.slice none 0 0)) (LsOf (two [] [])) := by rw [show LsOf (two [] []) = LsOf fun _ => [] from LsOf_congr fun j _ => by unfold two; split <;> (try split) <;> rfl]; exact h1
  have HB := Lib.hid (show w.heap.size ≤ b by omega)
  clear hb
  go_upto_region 7 with fail
  obtain ⟨W1, hW1⟩ : ∃ W, w1.alloc (.cells #[.slice none 0 0, .slice none 0 0] 26) = W := ⟨_, rfl⟩
  obtain ⟨r, hrr⟩ : ∃ r, w1.heap.size = r := ⟨_, rfl⟩
  obtain ⟨vs, hvs⟩ : ∃ vs, List.replicate 32 (Value.slice none 0 0) = vs := ⟨_, rfl⟩
  have hbk : blocksOf vs = [] := by rw [← hvs]; decide
  rw [hvs] at h1
  have br : Blk W1 r #[.slice none 0 0, .slice none 0 0] 26 := by rw [← hW1, ← hrr]; exact Blk.new _ _ _
  have ca : Ch [] w1 W1 := by rw [← hW1]; exact (Ch.refl [] w1).alloc _
  have hrb : b < r := by have := h1.1.lt; omega
  have hst : OnceSt w W1 b r vs [] [] none 0 none 0 := ⟨⟨h1.1.keep ca (by simp) (by simp), h1.2⟩, br, LsF.nil _ _, LsF.nil _ _, c1.trans ca, by omega, by rw [hbk]; simp, HB.out, by have := HB.out; omega⟩
  rw [hrr, hW1]
  clear hW1 hrr hvs hbk h1 br ca hrb c1
  go_wp2_with fail
  go_loopw [5] (fun s5 wr => ∃ (i : Nat) (vs : List Value) (A B : List Int) (a0 : Option Addr) (c0 : Nat) (a1 : Option Addr) (c1 : Nat), s5 = .int .i64 i ∧ i ≤ n ∧ A.length ≤ i ∧ B.length ≤ i ∧ OnceSt w wr b r vs A B a0 c0 a1 c1) (fun s5 _ => n - (intOf s5).toNat)
  case atStart => exact ⟨0, vs, [], [], none, 0, none, 0, rfl, by omega, by simp, by simp, hst⟩
  case round =>
    clear hst
    obtain ⟨i, vs, A, B, a0, c0, a1, c1, rfl, hi, hAl, hBl, hst⟩ := hrel
    by_cases hlt : i < n
    · obtain ⟨ba, oa, rfl, hcell⟩ := (hr.keep hst.ch (by simp)).at (i := i) (by rw [HN.out]; exact hlt)
      have d1 := hcell i (by rw [HN.out]; exact hlt)
      obtain ⟨u, hu⟩ : ∃ u, gI xs i = u := ⟨_, rfl⟩
      rw [hu] at d1
      have d2 : ∀ nq, (wr.drewN nq).cell? ⟨ba, oa + i, none⟩ = some (.int .i64 u) := fun _ => d1
      clear hcell hu
      have i0 : (0 : Int) ≤ i := by omega
      have i1 : (i : Int) < n := by omega
      go_upto_region 10 with fail
      go_quiet (fail)
      go_upto_region 11 with fail
      refine wp_named fun W hW => ?_
      have hS : OnceSt w W b r vs A B a0 c0 a1 c1 := by rw [hW]; exact hst.still ((Ch.refl [] wr).drewN _)
      have d3 : W.cell? ⟨ba, oa + i, none⟩ = some (.int .i64 u) := by rw [hW]; exact d1
      obtain ⟨k, hk, hk2⟩ := umod u 2 (by decide) (by decide)
      obtain ⟨g, hg, hg6⟩ := umod (wrap64 (u.tdiv 2)) 6 (by decide) (by decide)
      replace hk : wrap64 ((IntKind.u64.wrap u).tmod 2) = (k : Int) := hk
      replace hg : wrap64 ((IntKind.u64.wrap (wrap64 (u.tdiv 2))).tmod 6) = (g : Int) := hg
      rw [hk, hg]
      clear hW hst d1 d2 hk hg
      by_cases hbit : (bits BinOp.and IntKind.i64 u 64 != 0) = true
      · have hk' : k = 0 ∨ k = 1 := by omega
        clear hk2
        rcases hk' with rfl | rfl
        · rcases A with _ | ⟨x, t⟩
          · have hK := waitWakeEmpty b vs _ 0 W hS.wt (by decide) (two_0 _ _)
            have q0 := hS.br.cell 0
            go_wp2_with fail
            refine hK.mono ?_; rintro e w2 ⟨rfl, rfl⟩
            go_wp2_with fail
            go_roundw
            case rel => exact ⟨i + 1, vs, [], B, a0, c0, a1, c1, by go_num, by omega, by simp, by omega, hS⟩
            case measure => simp [intOf]; omega
          · obtain ⟨bx, ox, rfl, hc0⟩ := hS.l0.at (i := 0) (by simp)
            have hK := waitWake b vs _ 0 x t W hS.wt (by decide) (two_0 _ _) (by simp at hAl hBl; omega)
            rw [two_set0] at hK
            have HK := Lib.hid hK
            clear hK hc0
            go_wp2_with fail
            refine HK.out.mono ?_; rintro e w2 ⟨rfl, vs2, h2, c2, k2⟩
            clear HK
            obtain ⟨br2, L0, L1, ch2, rv2⟩ := hS.turn c2 k2
            obtain ⟨m, hm⟩ : ∃ m, t.length = m := ⟨_, rfl⟩
            rw [List.length_cons, hm] at br2
            have q0 := br2.cell 0
            have q1 := br2.frozen 0
            have xx : (x != x) = false := by simp
            have e0 : w2.cell? ⟨bx, ox, none⟩ = some (.int .i64 x) := by
              obtain ⟨b', o', he, hc⟩ := L0.at (i := 0) (by simp)
              cases he
              exact hc 0 (by simp)
            have b1 : (1 : Int) ≤ (m : Int) + 1 := by omega
            have b2 : (m : Int) + 1 ≤ c0 := by have := L0.2.1; simp at this; omega
            have HM := Lib.hid hm
            clear hm
            go_wp2_with fail
            go_roundw
            case rel => exact ⟨i + 1, vs2, t, B, _, _, a1, c1, by go_num, by omega, by simp at hAl; omega, by omega, OnceSt.store0 h2 br2 L0.tail L1 HM.out ch2 hS.rb rv2 hS.lo hS.lr⟩
            case measure => simp [intOf]; omega
        · rcases B with _ | ⟨x, t⟩
          · have hK := waitWakeEmpty b vs _ 1 W hS.wt (by decide) (two_1 _ _)
            have q0 := hS.br.cell 1
            go_wp2_with fail
            refine hK.mono ?_; rintro e w2 ⟨rfl, rfl⟩
            go_wp2_with fail
            go_roundw
            case rel => exact ⟨i + 1, vs, A, [], a0, c0, a1, c1, by go_num, by omega, by omega, by simp, hS⟩
            case measure => simp [intOf]; omega
          · obtain ⟨bx, ox, rfl, hc0⟩ := hS.l1.at (i := 0) (by simp)
            have hK := waitWake b vs _ 1 x t W hS.wt (by decide) (two_1 _ _) (by simp at hAl hBl; omega)
            rw [two_set1] at hK
            have HK := Lib.hid hK
            clear hK hc0
            go_wp2_with fail
            refine HK.out.mono ?_; rintro e w2 ⟨rfl, vs2, h2, c2, k2⟩
            clear HK
            obtain ⟨br2, L0, L1, ch2, rv2⟩ := hS.turn c2 k2
            obtain ⟨m, hm⟩ : ∃ m, t.length = m := ⟨_, rfl⟩
            rw [List.length_cons, hm] at br2
            have q0 := br2.cell 1
            have q1 := br2.frozen 1
            have xx : (x != x) = false := by simp
            have e0 : w2.cell? ⟨bx, ox, none⟩ = some (.int .i64 x) := by
              obtain ⟨b', o', he, hc⟩ := L1.at (i := 0) (by simp)
              cases he
              exact hc 0 (by simp)
            have b1 : (1 : Int) ≤ (m : Int) + 1 := by omega
            have b2 : (m : Int) + 1 ≤ c1 := by have := L1.2.1; simp at this; omega
            have HM := Lib.hid hm
            clear hm
            go_wp2_with fail
            go_roundw
            case rel => exact ⟨i + 1, vs2, A, t, a0, c0, _, _, by go_num, by omega, by omega, by simp at hBl; omega, OnceSt.store1 h2 br2 L0 L1.tail HM.out ch2 hS.rb rv2 hS.lo hS.lr⟩
            case measure => simp [intOf]; omega
      · replace hbit : (bits BinOp.and IntKind.i64 u 64 != 0) = false := by simpa using hbit
        have hk' : k = 0 ∨ k = 1 := by omega
        have hlen := two_len (A := A) (B := B) (m := 100000) (by omega) (by omega)
        clear hk2
        have q0 := hS.br.cell 0
        have q1 := hS.br.cell 1
        have H0 := hasAny a0 A g A.length c0 W hS.l0.rd rfl (by omega)
        have H1 := hasAny a1 B g B.length c1 W hS.l1.rd rfl (by omega)
        by_cases gA : (g : Int) ∈ A
        · rw [show A.contains (g : Int) = true by simpa using gA] at H0
          rcases hk' with rfl | rfl
          · have hK := Lib.hid (waitWaitIn b vs _ (g : Int) 0 0 W hS.wt (by decide) (by decide) (by rw [two_0]; exact gA) (fun k hk => by omega) hlen)
            clear hlen H1 gA
            go_wp2_with fail
            refine H0.mono ?_; rintro e w2 ⟨rfl, rfl⟩
            go_wp2_with fail
            refine hK.out.mono ?_; rintro e w2 ⟨rfl, rfl⟩
            go_wp2_with fail
            go_roundw
            case rel => exact ⟨i + 1, vs, A, B, a0, c0, a1, c1, by go_num, by omega, by omega, by omega, hS⟩
            case measure => simp [intOf]; omega
          · have hK := Lib.hid (waitWaitIn b vs _ (g : Int) 1 0 W hS.wt (by decide) (by decide) (by rw [two_0]; exact gA) (fun k hk => by omega) hlen)
            clear hlen H1 gA
            go_wp2_with fail
            refine H0.mono ?_; rintro e w2 ⟨rfl, rfl⟩
            go_wp2_with fail
            refine hK.out.mono ?_; rintro e w2 ⟨rfl, rfl⟩
            go_wp2_with fail
            go_roundw
            case rel => exact ⟨i + 1, vs, A, B, a0, c0, a1, c1, by go_num, by omega, by omega, by omega, hS⟩
            case measure => simp [intOf]; omega
        · rw [show A.contains (g : Int) = false by simpa using gA] at H0
          by_cases gB : (g : Int) ∈ B
          · rw [show B.contains (g : Int) = true by simpa using gB] at H1
            rcases hk' with rfl | rfl
            · have hK := Lib.hid (waitWaitIn b vs _ (g : Int) 0 1 W hS.wt (by decide) (by decide) (by rw [two_1]; exact gB) (fun k hk => by have hk0 : k = 0 := (by omega); rw [hk0, two_0]; exact gA) hlen)
              clear hlen gA gB
              go_wp2_with fail
              refine H0.mono ?_; rintro e w2 ⟨rfl, rfl⟩
              go_wp2_with fail
              refine H1.mono ?_; rintro e w2 ⟨rfl, rfl⟩
              go_wp2_with fail
              refine hK.out.mono ?_; rintro e w2 ⟨rfl, rfl⟩
              go_wp2_with fail
              go_roundw
              case rel => exact ⟨i + 1, vs, A, B, a0, c0, a1, c1, by go_num, by omega, by omega, by omega, hS⟩
              case measure => simp [intOf]; omega
            · have hK := Lib.hid (waitWaitIn b vs _ (g : Int) 1 1 W hS.wt (by decide) (by decide) (by rw [two_1]; exact gB) (fun k hk => by have hk0 : k = 0 := (by omega); rw [hk0, two_0]; exact gA) hlen)
              clear hlen gA gB
              go_wp2_with fail
              refine H0.mono ?_; rintro e w2 ⟨rfl, rfl⟩
              go_wp2_with fail
              refine H1.mono ?_; rintro e w2 ⟨rfl, rfl⟩
              go_wp2_with fail
              refine hK.out.mono ?_; rintro e w2 ⟨rfl, rfl⟩
              go_wp2_with fail
              go_roundw
              case rel => exact ⟨i + 1, vs, A, B, a0, c0, a1, c1, by go_num, by omega, by omega, by omega, hS⟩
              case measure => simp [intOf]; omega
          · rw [show B.contains (g : Int) = false by simpa using gB] at H1
            rcases hk' with rfl | rfl
            · have hK := waitWait b vs _ (g : Int) 0 W hS.wt (by decide) (two_not gA gB) hlen
              rw [two_0, two_set0] at hK
              have HK := Lib.hid hK
              clear hlen gA gB hK
              go_wp2_with fail
              refine H0.mono ?_; rintro e w2 ⟨rfl, rfl⟩
              go_wp2_with fail
              refine H1.mono ?_; rintro e w2 ⟨rfl, rfl⟩
              clear H0 H1
              go_wp2_with fail
              refine HK.out.mono ?_; rintro e w2 ⟨rfl, vs2, h2, c2, k2⟩
              clear HK q0 q1
              obtain ⟨br2, L0, L1, ch2, rv2⟩ := hS.turn c2 k2
              have q0 := fun o => (br2.alloc o).cell 0
              have hs2 := br2.lt
              have o1 := OwI.empty w2 (Nat.le_refl _)
              have src1 := (L0.rd.keep ((Ch.refl [] w2).alloc (.cells #[] 3)) (by simp)).src Try.underlying22 c0
              go_wp2_with (at_builtin; refine wpList_app rfl (.tmp 110) (.tmp 113) rfl w2.heap.size (.slice (some ⟨w2.heap.size, 0, none⟩) 0 0) [] rfl o1 (by simp) (.slice a0 (A).length c0) A rfl src1 (by simp; omega) ?_)
              intro v6 w6 o6 c6 n6
              have o7 := o6.alloc (.cells #[.int .i64 (g : Int)] 3)
              have hs6 := c6.size
              simp at hs6
              go_wp2_with (at_builtin; refine wpList_app rfl (.tmp 114) (.tmp 116) rfl w2.heap.size v6 A rfl o7 (by simp; omega) _ [(g : Int)] rfl (srcOne _ (g : Int)) (by simp; omega) ?_)
              intro v9 w9 o9 c9 n9
              have cc9 : Ch [] w2 w9 := ((((Ch.refl [] w2).alloc (.cells #[] 3)).transT c6 (by intro k hk; simp [Value.ownBlock] at hk; omega)).alloc _).transT c9 (fun k hk => .inr (o6.2 k (by simpa using hk)))
              have br9 := br2.keep cc9 (by simp)
              have q2 := br9.cell 0
              have q3 := br9.frozen 0
              have hab := h2.1.above
              obtain ⟨a9, d9, e9, L9⟩ := o9.lsF (S := r :: b :: blocksOf vs2) (by
                intro k hk
                simp only [List.mem_cons] at hk
                rcases hk with rfl | rfl | hk
                · exact hs2
                · exact h2.1.lt
                · exact (hab k hk).2)
              obtain ⟨m, hm⟩ : ∃ m, (A ++ [(g : Int)]).length = m := ⟨_, rfl⟩
              rw [hm] at e9
              subst e9
              have HM := Lib.hid hm
              clear hm q0 src1 o1 hab
              go_wp2_with fail
              go_roundw
              case rel => exact ⟨i + 1, vs2, A ++ [(g : Int)], B, _, _, a1, c1, by go_num, by omega, by simp; omega, by omega, OnceSt.store0 ⟨h2.1.keep cc9 (by simp) (by simp), h2.2⟩ br9 L9 (L1.keep cc9 (by simp)) HM.out (ch2.trans cc9) hS.rb rv2 hS.lo hS.lr⟩
              case measure => simp [intOf]; omega
            · have hK := waitWait b vs _ (g : Int) 1 W hS.wt (by decide) (two_not gA gB) hlen
              rw [two_1, two_set1] at hK
              have HK := Lib.hid hK
              clear hlen gA gB hK
              go_wp2_with fail
              refine H0.mono ?_; rintro e w2 ⟨rfl, rfl⟩
              go_wp2_with fail
              refine H1.mono ?_; rintro e w2 ⟨rfl, rfl⟩
              clear H0 H1
              go_wp2_with fail
              refine HK.out.mono ?_; rintro e w2 ⟨rfl, vs2, h2, c2, k2⟩
              clear HK q0 q1
              obtain ⟨br2, L0, L1, ch2, rv2⟩ := hS.turn c2 k2
              have q0 := fun o => (br2.alloc o).cell 1
              have hs2 := br2.lt
              have o1 := OwI.empty w2 (Nat.le_refl _)
              have src1 := (L1.rd.keep ((Ch.refl [] w2).alloc (.cells #[] 3)) (by simp)).src Try.underlying22 c1
              go_wp2_with (at_builtin; refine wpList_app rfl (.tmp 110) (.tmp 113) rfl w2.heap.size (.slice (some ⟨w2.heap.size, 0, none⟩) 0 0) [] rfl o1 (by simp) (.slice a1 (B).length c1) B rfl src1 (by simp; omega) ?_)
              intro v6 w6 o6 c6 n6
              have o7 := o6.alloc (.cells #[.int .i64 (g : Int)] 3)
              have hs6 := c6.size
              simp at hs6
              go_wp2_with (at_builtin; refine wpList_app rfl (.tmp 114) (.tmp 116) rfl w2.heap.size v6 B rfl o7 (by simp; omega) _ [(g : Int)] rfl (srcOne _ (g : Int)) (by simp; omega) ?_)
              intro v9 w9 o9 c9 n9
              have cc9 : Ch [] w2 w9 := ((((Ch.refl [] w2).alloc (.cells #[] 3)).transT c6 (by intro k hk; simp [Value.ownBlock] at hk; omega)).alloc _).transT c9 (fun k hk => .inr (o6.2 k (by simpa using hk)))
              have br9 := br2.keep cc9 (by simp)
              have q2 := br9.cell 1
              have q3 := br9.frozen 1
              have hab := h2.1.above
              obtain ⟨a9, d9, e9, L9⟩ := o9.lsF (S := r :: b :: blocksOf vs2) (by
                intro k hk
                simp only [List.mem_cons] at hk
                rcases hk with rfl | rfl | hk
                · exact hs2
                · exact h2.1.lt
                · exact (hab k hk).2)
              obtain ⟨m, hm⟩ : ∃ m, (B ++ [(g : Int)]).length = m := ⟨_, rfl⟩
              rw [hm] at e9
              subst e9
              have HM := Lib.hid hm
              clear hm q0 src1 o1 hab
              go_wp2_with fail
              go_roundw
              case rel => exact ⟨i + 1, vs2, A, B ++ [(g : Int)], a0, c0, _, _, by go_num, by omega, by omega, by simp; omega, OnceSt.store1 ⟨h2.1.keep cc9 (by simp) (by simp), h2.2⟩ br9 (L0.keep cc9 (by simp)) L9 HM.out (ch2.trans cc9) hS.rb rv2 hS.lo hS.lr⟩
              case measure => simp [intOf]; omega
    · obtain rfl : i = n := by omega
      clear hlt
      have hlen := two_len (A := A) (B := B) (m := 100000) (by omega) (by omega)
      have hlens := two_lens_le A B
      go_wp2_with fail
      refine (waitWakeNil 0 _).mono ?_; rintro e w2 ⟨rfl, rfl⟩
      go_upto_region 25 with fail
      obtain ⟨m0, hm0⟩ : ∃ m, A.length = m := ⟨_, rfl⟩
      obtain ⟨m1, hm1⟩ : ∃ m, B.length = m := ⟨_, rfl⟩
      have hbr := hst.br
      rw [hm0, hm1] at hbr
      rw [hm0] at hAl
      rw [hm1] at hBl
      have HM0 := Lib.hid hm0
      have HM1 := Lib.hid hm1
      have HLE := Lib.hid hlen
      have HLS := Lib.hid hlens
      clear hm0 hm1 hlen hlens
      have ew : IntKind.i64.wrap ((m0 : Int) + m1) = (m0 : Int) + m1 := IntWalk.i64_in _ (by omega)
      obtain ⟨L, hL⟩ : ∃ L : World → Prop, ∀ w', L w' ↔ (w'.cell? ⟨r, 0, none⟩ = some (.slice a0 m0 c0) ∧ w'.cell? ⟨r, 1, none⟩ = some (.slice a1 m1 c1)) := ⟨_, fun _ => Iff.rfl⟩
      have hS1 : ∀ x : { w' : World // L w' }, x.1.cell? ⟨r, 0, none⟩ = some (.slice a0 m0 c0) := fun x => ((hL _).1 x.2).1
      have hS2 : ∀ x : { w' : World // L w' }, x.1.cell? ⟨r, 1, none⟩ = some (.slice a1 m1 c1) := fun x => ((hL _).1 x.2).2
      have hLk : ∀ w', Ch [] w2 w' → L w' := fun w' hc => (hL _).2 ⟨(hbr.keep hc (by simp)).cell 0, (hbr.keep hc (by simp)).cell 1⟩
      have hSA : Nonempty { w' : World // L w' } := ⟨⟨_, hLk w2 (Ch.refl _ _)⟩⟩
      have HLk := Lib.hid hLk
      clear hL hLk
      refine wp_region_plan (Cls L) (List.range 42) (.only 0 (.reads [1, 2, 4, 5] (.only 3 (.only 6 (.reads [7, 8, 9, 11, 12] (.only 10 (.only 13 (.reads [14, 15, 16, 18, 19, 20, 21, 22, 23, 24] (.only 17 (.reads [25, 26, 27, 28, 29, 30, 31, 32] (.only 33 (.reads [34, 35, 36, 37] (.only 38 (.reads [39, 40, 41] .done)))))))))))))) (by kernel_rfl) (by kernel_rfl) (fun _ _ _ _ _ h => h) ?_
      simp only [Plan.reads, Plan.only, List.foldr_cons, List.foldr_nil]
      refine wpPlan_only (fun K hK => ?_)
      simp only [List.getD_cons_zero, List.getD_cons_succ]
      go_simp
      refine (told14 _).mono ?_; rintro e w3 ⟨rfl, c3⟩
      have cc3 : Ch [] w2 w3 := ((Ch.refl [] w2).drewN 1).trans c3
      have hl3 := HLk.out _ cc3
      refine hK _ _ (fun _ => Cls.mk hl3) ?_
      clear hK K
      iterate 4 (refine wpPlan_readS hl3 (fun K hK => ?_); simp only [List.getD_cons_zero, List.getD_cons_succ]; go_simp; refine hK _ ?_; clear hK K)
      refine wpPlan_only (fun K hK => ?_)
      simp only [List.getD_cons_zero, List.getD_cons_succ]
      go_simp
      have hAll := waitAll b vs _ 0 w3 (hst.still cc3).wt (by decide) (HLE.out 0)
      rw [two_0] at hAll
      refine hAll.mono ?_; rintro e wm ⟨vm, rfl, om, cm⟩
      clear hAll
      obtain ⟨am, dm, em, xm1, xm2, rdm⟩ := om.form
      rw [HM0.out] at em
      subst em
      have ccm := (cc3).trans cm
      have hlm := HLk.out _ ccm
      refine hK _ _ (fun _ => Cls.mk hlm) ?_
      clear hK K om xm1 xm2
      have hI := ints_same am a0 A dm c0 wm rdm (hst.l0.rd.keep ccm (by simp)) (by have := HM0.out; unfold maxLen; omega)
      rw [HM0.out] at hI
      refine wpPlan_only (fun K hK => ?_)
      simp only [List.getD_cons_zero, List.getD_cons_succ]
      go_simp
      refine hI.mono ?_; rintro e w5 ⟨rfl, nq, hwB⟩
      have cc5 : Ch [] w2 w5 := by rw [hwB]; exact ccm.trans ((Ch.refl [] wm).drewN nq)
      clear hwB
      have hl5 := HLk.out _ cc5
      refine hK _ _ (fun _ => Cls.mk hl5) ?_
      clear hK K hI hlm rdm
      iterate 5 (refine wpPlan_readS hl5 (fun K hK => ?_); simp only [List.getD_cons_zero, List.getD_cons_succ]; go_simp; refine hK _ ?_; clear hK K)
      refine wpPlan_only (fun K hK => ?_)
      simp only [List.getD_cons_zero, List.getD_cons_succ]
      go_simp
      have hAll := waitAll b vs _ 1 w5 (hst.still cc5).wt (by decide) (HLE.out 1)
      rw [two_1] at hAll
      refine hAll.mono ?_; rintro e wm ⟨vm, rfl, om, cm⟩
      clear hAll
      obtain ⟨am, dm, em, xm1, xm2, rdm⟩ := om.form
      rw [HM1.out] at em
      subst em
      have ccm := (cc5).trans cm
      have hlm := HLk.out _ ccm
      refine hK _ _ (fun _ => Cls.mk hlm) ?_
      clear hK K om xm1 xm2
      have hI := ints_same am a1 B dm c1 wm rdm (hst.l1.rd.keep ccm (by simp)) (by have := HM1.out; unfold maxLen; omega)
      rw [HM1.out] at hI
      refine wpPlan_only (fun K hK => ?_)
      simp only [List.getD_cons_zero, List.getD_cons_succ]
      go_simp
      refine hI.mono ?_; rintro e w7 ⟨rfl, nq, hwB⟩
      have cc7 : Ch [] w2 w7 := by rw [hwB]; exact ccm.trans ((Ch.refl [] wm).drewN nq)
      clear hwB
      have hl7 := HLk.out _ cc7
      refine hK _ _ (fun _ => Cls.mk hl7) ?_
      clear hK K hI hlm rdm
      iterate 10 (refine wpPlan_readS hl7 (fun K hK => ?_); simp only [List.getD_cons_zero, List.getD_cons_succ]; go_simp; refine hK _ ?_; clear hK K)
      refine wpPlan_only (fun K hK => ?_)
      simp only [List.getD_cons_zero, List.getD_cons_succ]
      go_simp
      have hW7 := (hst.still cc7).wt
      have hln := waitLen b vs _ w7 hW7 (fun k hk => by have h1 := HLS.out k hk; have h2 := HM0.out; have h3 := HM1.out; omega)
      rw [two_lens, HM0.out, HM1.out] at hln
      refine hln.mono ?_; rintro e w8 ⟨rfl, rfl⟩
      refine hK _ _ (fun _ => Cls.mk hl7) ?_
      clear hK K hln
      iterate 8 (refine wpPlan_readS hl7 (fun K hK => ?_); simp only [List.getD_cons_zero, List.getD_cons_succ]; go_simp; refine hK _ ?_; clear hK K)
      refine wpPlan_only (fun K hK => ?_)
      simp only [List.getD_cons_zero, List.getD_cons_succ]
      go_simp
      refine (waitWaitNil 0 1 _).mono ?_; rintro e w9 ⟨rfl, rfl⟩
      refine hK _ _ (fun _ => Cls.mk hl7) ?_
      clear hK K
      iterate 4 (refine wpPlan_readS hl7 (fun K hK => ?_); simp only [List.getD_cons_zero, List.getD_cons_succ]; go_simp; refine hK _ ?_; clear hK K)
      refine wpPlan_only (fun K hK => ?_)
      simp only [List.getD_cons_zero, List.getD_cons_succ]
      go_simp
      refine (waitLenNil _).mono ?_; rintro e w9 ⟨rfl, rfl⟩
      refine hK _ _ (fun _ => Cls.mk hl7) ?_
      clear hK K
      iterate 3 (refine wpPlan_readS hl7 (fun K hK => ?_); simp only [List.getD_cons_zero, List.getD_cons_succ]; go_simp; refine hK _ ?_; clear hK K)
      refine wpPlan_done ?_
      have hend := (hst.ch.trans cc7).below (Nat.le_refl _) (by simp)
      clear hl7 hl5 hl3 hS1 hS2 hSA hst
      go_wp2_with fail
      go_ret
      exact ⟨rfl, hend⟩
set_option maxRecDepth 100000 in
theorem once_all (a : Option Addr) (xs : List Int) (c : Nat) (w : World) (hr : Rd w a xs) (hm : xs.length ≤ maxLen) :
    Calls Try.prog 3 #[.slice a xs.length c] w fun e w' => e = .returned (.bool true) ∧ Below w.heap.size w w' := by
  by_cases h : xs.length ≤ 60
  · exact once_walk a xs c w hr h
  · obtain ⟨n, hn⟩ : ∃ n, xs.length = n := ⟨_, rfl⟩
    rw [hn] at h hm ⊢
    unfold maxLen at hm
    have t2 : (60 : Int) < n := by omega
    clear hr hn h
    go_enter Try.func3, Try.ntmps3
    go_wp2_with fail
    refine (told14 _).mono ?_; rintro e w1 ⟨rfl, c1⟩
    go_wp2
    go_ret
    exact ⟨rfl, c1.below (Nat.le_refl _) (by simp)⟩
end Go.Proofs.Ytaafdhohiekakaa
