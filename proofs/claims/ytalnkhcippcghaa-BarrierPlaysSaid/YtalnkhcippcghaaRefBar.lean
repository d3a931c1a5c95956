/-
  Contracts of the document's answer for layer 19: Put, Flush on a list of pairs, as a flat list of numbers. Conditions: none beyond what each theorem names.
-/
import Derived.Test.YtalnkhcippcghaaBarrier2
import Derived.Test.YtalnkhcippcghaaHas
import Derived.Test.YtalnkhcippcghaaPlan
namespace Go.Proofs.Ytalnkhcippcghaa
open Go.RowKit
/-- Block r is one slice of n pairs whose numbers are xs; what it reads lies in no block of S. -/
def RefP (w : World) (r n : Nat) (xs : List Int) (S : List Nat) : Prop := ∃ a cap, Blk w r #[.slice a n cap] 49 ∧ xs.length = 2 * n ∧ Rd w a xs ∧ n ≤ cap ∧ cap ≤ maxLen ∧ ∀ x, a = some x → x.block ∉ S
section
variable {w w' : World} {r n : Nat} {xs : List Int} {S U : List Nat}
theorem RefP.keep (h : RefP w r n xs S) (hc : Ch U w w') (hr : r ∉ U) (hU : ∀ k ∈ U, k ∈ S) : RefP w' r n xs S := by
  obtain ⟨a, cap, h1, h0, h2, h3, h4, h5⟩ := h
  exact ⟨a, cap, h1.keep hc hr, h0, h2.keep hc (fun x hx hm => h5 x hx (hU _ hm)), h3, h4, h5⟩
theorem RefP.lt (h : RefP w r n xs S) : r < w.heap.size := by
  obtain ⟨a, cap, h1, _⟩ := h
  exact h1.lt
end
theorem refBarFull (r n : Nat) (xs : List Int) (u v : Int) (S : List Nat) (w : World) (h : RefP w r n xs S) (hf : 16 ≤ n) :
    Calls Try.prog 25 #[.pointer (some ⟨r, 0, none⟩), .int .i64 u, .int .i64 v] w fun e w' => e = .returned (.bool false) ∧ w' = w := by
  obtain ⟨a, cap, h1, h0, h2, h3, h4, h5⟩ := h
  have c := h1.cell 0
  have g : (16 : Int) ≤ n := by omega
  clear h2 h3 h5 h0
  go_enter Try.func25, Try.ntmps25
  go_wp2
  go_ret
  exact ⟨rfl, rfl⟩
theorem refBarZero (r n : Nat) (xs : List Int) (S : List Nat) (w : World) (h : RefP w r n xs S) (hf : n < 16) :
    Calls Try.prog 25 #[.pointer (some ⟨r, 0, none⟩), .int .i64 0, .int .i64 0] w fun e w' => e = .returned (.bool true) ∧ w' = w := by
  obtain ⟨a, cap, h1, h0, h2, h3, h4, h5⟩ := h
  have c := h1.cell 0
  have g : ¬ (16 : Int) ≤ n := by omega
  clear h2 h3 h5 h0
  go_enter Try.func25, Try.ntmps25
  go_wp2
  go_ret
  exact ⟨rfl, rfl⟩
theorem pairSrc (a : Option Addr) (n c : Nat) (xs : List Int) (w : World) (h : Rd w a xs) (hx : xs.length = 2 * n) : Src Try.prog 2 43 (.slice a n c) n (xs.map (Value.int .i64)) w := by
  cases a with
  | none =>
    rcases h with rfl | ⟨b, o, he, _⟩
    · obtain rfl : n = 0 := by simp at hx; omega
      exact Src.ofNil w Try.underlying43 c
    · cases he
  | some x =>
    refine Src.ofSlice _ Try.underlying43 _ _ _ _ (by rw [List.length_map]; omega) (fun j u hu => ?_) (by intro u hu; obtain ⟨q, _, rfl⟩ := List.mem_map.1 hu; rfl)
    have hj : j < xs.length := by have := (List.getElem?_eq_some_iff.1 hu).1; simpa using this
    obtain ⟨b, o, he, hc⟩ := h.at hj
    simp only [Option.some.injEq] at he
    subst he
    rw [show (⟨b, o, none⟩ : Addr).add j = ⟨b, o + j, none⟩ by unfold Addr.add; split <;> simp_all, hc j hj, gI_at xs j hj]
    simpa [hj] using hu
theorem ownPair_rd {w : World} {v : Value} {n : Nat} {xs : List Int} (h : Own w 52 2 v n (xs.map (Value.int .i64))) : ∃ a cap, v = .slice a n cap ∧ n ≤ cap ∧ cap ≤ maxLen ∧ Rd w a xs ∧ xs.length = 2 * n := by
  have hl := h.1
  simp only [List.length_map] at hl
  rcases h.2 with ⟨rfl, rfl⟩ | ⟨g, off, cap, cur, rfl, hg, h1, h2, h3, h4⟩
  · exact ⟨none, 0, rfl, by omega, Nat.zero_le _, .inl (List.eq_nil_of_length_eq_zero (by omega)), by omega⟩
  · exact ⟨_, cap, rfl, h1, h2, .inr ⟨g, off, rfl, fun i hi => by rw [hg.cell]; exact h4 i _ (by simp [gI, List.getD_eq_getElem?_getD, List.getElem?_eq_getElem hi])⟩, by omega⟩
theorem refBarPut (r n : Nat) (xs : List Int) (u v : Int) (S : List Nat) (w : World) (h : RefP w r n xs S) (hS : ∀ k ∈ S, k < w.heap.size) (hf : n < 16) (hu : ¬ u = 0) :
    Calls Try.prog 25 #[.pointer (some ⟨r, 0, none⟩), .int .i64 u, .int .i64 v] w fun e w' => e = .returned (.bool true) ∧ RefP w' r (n + 1) (xs ++ [u, v]) S ∧ Ch [r] w w' := by
  obtain ⟨i0, hi0, hz0, hz1, hz2⟩ := info_parts Try.infoPair
  obtain ⟨a, cap, h1, h0, h2, h3, h4, h5⟩ := h
  have c := h1.cell 0
  have g : ¬ (16 : Int) ≤ n := by omega
  have u1 : (u != 0) = true := by simp [hu]
  go_enter Try.func25, Try.ntmps25
  have hslt : ∀ k ∈ S, k < w.heap.size := hS
  have hrlt := h1.lt
  have o1 : Own (w.alloc (.cells #[] 52)) 52 2 (.slice (some ⟨w.heap.size, 0, none⟩) 0 0) 0 [] := Own.empty _ _ _
  have src1 := pairSrc a n cap xs _ (h2.keep ((Ch.refl [] w).alloc (.cells #[] 52)) (by simp)) h0
  have H0 := Lib.hid h0
  clear h0
  go_wp2_with (at_builtin; refine wpList_append_Own rfl (.tmp 20) (.tmp 24) 43 43 rfl 52 i0 (.agg #[.int .i64 0, .int .i64 0]) 2 16 Try.underlying43 hi0 hz0 hz1 hz2 rfl (.slice (some ⟨w.heap.size, 0, none⟩) 0 0) 0 [] rfl o1 (.slice a n cap) n (xs.map (Value.int .i64)) rfl src1 (by unfold maxLen; omega) (by omega) ?_)
  intro v6 w6 o6 c6 n6
  have cc6 : Ch [] w w6 := ((Ch.refl [] w).alloc _).transT c6 (by intro k hk; simp [Value.ownBlock] at hk; omega)
  have hs6 := c6.size
  simp at hs6
  have n6' : ∀ k, v6.ownBlock = some k → w.heap.size ≤ k := by
    intro k hk
    rcases n6 with h | h
    · rw [h] at hk; simp [Value.ownBlock] at hk; omega
    · have := h k hk; (first | omega | (simp at this; omega))
  have g6 := h1.keep cc6 (by simp)
  have o7 := o6.alloc (.cells #[.int .i64 u, .int .i64 v] 52)
  have src7 : Src Try.prog 2 43 (.slice (some ⟨w6.heap.size, 0, none⟩) 1 1) 1 [.int .i64 u, .int .i64 v] (w6.alloc (.cells #[.int .i64 u, .int .i64 v] 52)) := Src_lit Try.underlying43 w6 [_, _] 2 1 rfl _ (by intro z hz; simp at hz; rcases hz with rfl | rfl <;> rfl)
  go_wp2_with (at_builtin; refine wpList_append_Own rfl (.tmp 25) (.tmp 29) 43 43 rfl 52 i0 (.agg #[.int .i64 0, .int .i64 0]) 2 16 Try.underlying43 hi0 hz0 hz1 hz2 rfl v6 n (xs.map (Value.int .i64)) rfl o7 (.slice (some ⟨w6.heap.size, 0, none⟩) 1 1) 1 [.int .i64 u, .int .i64 v] rfl src7 (by unfold maxLen; omega) (by omega) ?_)
  intro v9 w9 o9 c9 n9
  have cc9 : Ch [] w w9 := (cc6.alloc _).transT c9 (fun k hk => .inr (n6' k (by simpa using hk)))
  have g9 := h1.keep cc9 (by simp)
  have q1 := g9.frozen 0
  have q2 := g9.cell 0
  have o9' : Own w9 52 2 v9 (n + 1) ((xs ++ [u, v]).map (Value.int .i64)) := by simpa using o9
  obtain ⟨a9, cap9, e9, k1, k2, k3, k4⟩ := ownPair_rd o9'
  have n9' : ∀ k, v9.ownBlock = some k → w.heap.size ≤ k := by
    intro k hk
    rcases n9 with h | h
    · exact n6' k (by rw [← h]; exact hk)
    · have := h k hk; (first | omega | (simp at this; omega))
  subst e9
  clear c src1 o1 o9 o9' src7
  go_wp2
  go_ret
  refine ⟨rfl, ⟨a9, cap9, ?_, k4, ?_, k1, k2, ?_⟩, (cc9.mono (by simp)).setCell (.inl (by simp)) _⟩
  · exact g9.set 0 _
  · exact k3.keep ((Ch.refl [r] w9).setCell (.inl (by simp)) _) (fun x hx hm => by have := n9' x.block (by rw [hx]; rfl); simp at hm; omega)
  · intro x hx hm
    have := n9' x.block (by rw [hx]; rfl)
    have := hslt _ hm
    omega
theorem refBarPut0 (r n : Nat) (xs : List Int) (v : Int) (S : List Nat) (w : World) (h : RefP w r n xs S) (hS : ∀ k ∈ S, k < w.heap.size) (hf : n < 16) (hv : ¬ v = 0) :
    Calls Try.prog 25 #[.pointer (some ⟨r, 0, none⟩), .int .i64 0, .int .i64 v] w fun e w' => e = .returned (.bool true) ∧ RefP w' r (n + 1) (xs ++ [0, v]) S ∧ Ch [r] w w' := by
  obtain ⟨i0, hi0, hz0, hz1, hz2⟩ := info_parts Try.infoPair
  obtain ⟨a, cap, h1, h0, h2, h3, h4, h5⟩ := h
  have c := h1.cell 0
  have g : ¬ (16 : Int) ≤ n := by omega
  have u1 : (v != 0) = true := by simp [hv]
  go_enter Try.func25, Try.ntmps25
  have hslt : ∀ k ∈ S, k < w.heap.size := hS
  have hrlt := h1.lt
  have o1 : Own (w.alloc (.cells #[] 52)) 52 2 (.slice (some ⟨w.heap.size, 0, none⟩) 0 0) 0 [] := Own.empty _ _ _
  have src1 := pairSrc a n cap xs _ (h2.keep ((Ch.refl [] w).alloc (.cells #[] 52)) (by simp)) h0
  have H0 := Lib.hid h0
  clear h0
  go_wp2_with (at_builtin; refine wpList_append_Own rfl (.tmp 20) (.tmp 24) 43 43 rfl 52 i0 (.agg #[.int .i64 0, .int .i64 0]) 2 16 Try.underlying43 hi0 hz0 hz1 hz2 rfl (.slice (some ⟨w.heap.size, 0, none⟩) 0 0) 0 [] rfl o1 (.slice a n cap) n (xs.map (Value.int .i64)) rfl src1 (by unfold maxLen; omega) (by omega) ?_)
  intro v6 w6 o6 c6 n6
  have cc6 : Ch [] w w6 := ((Ch.refl [] w).alloc _).transT c6 (by intro k hk; simp [Value.ownBlock] at hk; omega)
  have hs6 := c6.size
  simp at hs6
  have n6' : ∀ k, v6.ownBlock = some k → w.heap.size ≤ k := by
    intro k hk
    rcases n6 with h | h
    · rw [h] at hk; simp [Value.ownBlock] at hk; omega
    · have := h k hk; (first | omega | (simp at this; omega))
  have g6 := h1.keep cc6 (by simp)
  have o7 := o6.alloc (.cells #[.int .i64 (0 : Int), .int .i64 v] 52)
  have src7 : Src Try.prog 2 43 (.slice (some ⟨w6.heap.size, 0, none⟩) 1 1) 1 [.int .i64 (0 : Int), .int .i64 v] (w6.alloc (.cells #[.int .i64 (0 : Int), .int .i64 v] 52)) := Src_lit Try.underlying43 w6 [_, _] 2 1 rfl _ (by intro z hz; simp at hz; rcases hz with rfl | rfl <;> rfl)
  go_wp2_with (at_builtin; refine wpList_append_Own rfl (.tmp 25) (.tmp 29) 43 43 rfl 52 i0 (.agg #[.int .i64 0, .int .i64 0]) 2 16 Try.underlying43 hi0 hz0 hz1 hz2 rfl v6 n (xs.map (Value.int .i64)) rfl o7 (.slice (some ⟨w6.heap.size, 0, none⟩) 1 1) 1 [.int .i64 (0 : Int), .int .i64 v] rfl src7 (by unfold maxLen; omega) (by omega) ?_)
  intro v9 w9 o9 c9 n9
  have cc9 : Ch [] w w9 := (cc6.alloc _).transT c9 (fun k hk => .inr (n6' k (by simpa using hk)))
  have g9 := h1.keep cc9 (by simp)
  have q1 := g9.frozen 0
  have q2 := g9.cell 0
  have o9' : Own w9 52 2 v9 (n + 1) ((xs ++ [(0 : Int), v]).map (Value.int .i64)) := by simpa using o9
  obtain ⟨a9, cap9, e9, k1, k2, k3, k4⟩ := ownPair_rd o9'
  have n9' : ∀ k, v9.ownBlock = some k → w.heap.size ≤ k := by
    intro k hk
    rcases n9 with h | h
    · exact n6' k (by rw [← h]; exact hk)
    · have := h k hk; (first | omega | (simp at this; omega))
  subst e9
  clear c src1 o1 o9 o9' src7
  go_wp2
  go_ret
  refine ⟨rfl, ⟨a9, cap9, ?_, k4, ?_, k1, k2, ?_⟩, (cc9.mono (by simp)).setCell (.inl (by simp)) _⟩
  · exact g9.set 0 _
  · exact k3.keep ((Ch.refl [r] w9).setCell (.inl (by simp)) _) (fun x hx hm => by have := n9' x.block (by rw [hx]; rfl); simp at hm; omega)
  · intro x hx hm
    have := n9' x.block (by rw [hx]; rfl)
    have := hslt _ hm
    omega
set_option maxHeartbeats 2000000 in
theorem refBarFlush (r n : Nat) (xs : List Int) (S : List Nat) (w : World) (h : RefP w r n xs S) (hS : ∀ k ∈ S, k < w.heap.size) (hr : r ∈ S) (hn : n ≤ 16) :
    Calls Try.prog 29 #[.pointer (some ⟨r, 0, none⟩)] w fun e w' => ∃ v', e = .returned v' ∧ OwI w' w.heap.size v' (xs.foldl tell []) ∧ RefP w' r 0 [] S ∧ Ch [r] w w' := by
  obtain ⟨B, hB⟩ : ∃ B, w.heap.size = B := ⟨_, rfl⟩
  have hBw : B ≤ w.heap.size := by omega
  have hrB : r < B := by rw [← hB]; exact h.lt
  rw [hB] at hS ⊢
  have hc0 : Ch [] w w := Ch.refl _ _
  have hxl : xs.length = 2 * n := h.choose_spec.choose_spec.2.1
  have HX := Lib.hid hxl
  have HB := Lib.hid hB
  clear hxl hB
  go_enter Try.func29, Try.ntmps29
  go_wp2_with fail
  go_loopw [3, 4] (fun s3 s4 wr => ∃ t : Nat, s4 = .int .i64 t ∧ t ≤ n ∧ OwI wr B s3 ((xs.take (2 * t)).foldl tell []) ∧ Ch [] w wr) (fun _ s4 _ => n - (intOf s4).toNat)
  case atStart => exact ⟨0, rfl, by omega, OwI.nil _ _, hc0⟩
  case round =>
    clear hc0
    obtain ⟨t, rfl, ht, hO, hc⟩ := hrel
    have hR := h.keep hc (by simp) (by simp)
    obtain ⟨a, cap, r1, r2, r3, r4, r5, r6⟩ := hR
    have cr := r1.cell 0
    have fr := r1.frozen 0
    by_cases hlt : t < n
    · obtain ⟨ba, oa, rfl, hcell⟩ := r3.at (i := 2 * t) (by rw [HX.out]; omega)
      have d1 := hcell (2 * t) (by rw [HX.out]; omega)
      have d2 := hcell (2 * t + 1) (by rw [HX.out]; omega)
      obtain ⟨u, hu⟩ : ∃ u, gI xs (2 * t) = u := ⟨_, rfl⟩
      obtain ⟨v, hv⟩ : ∃ v, gI xs (2 * t + 1) = v := ⟨_, rfl⟩
      rw [hu, Nat.mul_comm 2 t] at d1
      rw [hv, Nat.mul_comm 2 t, ← Nat.add_assoc] at d2
      have HU := Lib.hid (show gI xs (2 * t + 0) = u from hu)
      have HV := Lib.hid hv
      have hsz := hc.size
      have b0 : (0 : Int) ≤ t := by omega
      have b1 : (t : Int) < n := by omega
      clear hcell hu hv fr r2 r3
      go_upto_region 5 with fail
      obtain ⟨L, hLL⟩ : ∃ L : World → Prop, ∀ w', L w' ↔ (w'.cell? ⟨r, 0, none⟩ = some (.slice (some ⟨ba, oa, none⟩) n cap) ∧ w'.cell? ⟨ba, oa + t * 2, none⟩ = some (.int .i64 u) ∧ w'.cell? ⟨ba, oa + t * 2 + 1, none⟩ = some (.int .i64 v)) := ⟨_, fun _ => Iff.rfl⟩
      have hS1 : ∀ x : { w' : World // L w' }, x.1.cell? ⟨r, 0, none⟩ = some (.slice (some ⟨ba, oa, none⟩) n cap) := fun x => ((hLL _).1 x.2).1
      have hS2 : ∀ x : { w' : World // L w' }, x.1.cell? ⟨ba, oa + t * 2, none⟩ = some (.int .i64 u) := fun x => ((hLL _).1 x.2).2.1
      have hS3 : ∀ x : { w' : World // L w' }, x.1.cell? ⟨ba, oa + t * 2 + 1, none⟩ = some (.int .i64 v) := fun x => ((hLL _).1 x.2).2.2
      have hS0 : L (wr.drewN 1) := (hLL _).2 ⟨cr, d1, d2⟩
      have hSA : Nonempty { w' : World // L w' } := ⟨⟨_, hS0⟩⟩
      have hl1 : L ((wr.drewN 1).alloc (.cells #[.int .i64 u, .int .i64 v] 3)) := by
        have ca : Ch [] wr ((wr.drewN 1).alloc (.cells #[.int .i64 u, .int .i64 v] 3)) := ((Ch.refl [] wr).drewN 1).alloc _
        refine (hLL _).2 ⟨(r1.keep ca (by simp)).cell 0, ?_, ?_⟩
        · rw [World.cell?_of_block (w := wr) (ca.block ba (World.block_lt_of_cell? wr ⟨ba, oa + t * 2, none⟩ d1) (by simp))]; exact d1
        · rw [World.cell?_of_block (w := wr) (ca.block ba (World.block_lt_of_cell? wr ⟨ba, oa + t * 2, none⟩ d1) (by simp))]; exact d2
      clear hLL
      refine wp_region_plan (Cls L) (List.range 19) (.reads [0, 1, 2, 3, 4, 5, 6, 7, 8, 9, 10, 11, 12, 13, 14, 15, 18] (.only 16 (.reads [17] .done))) (by kernel_rfl) (by kernel_rfl) (fun _ _ _ _ _ h => h) ?_
      simp only [Plan.reads, Plan.only, List.foldr_cons, List.foldr_nil]
      iterate 17 (refine wpPlan_readS hS0 (fun K hK => ?_); simp only [List.getD_cons_zero, List.getD_cons_succ]; go_simp; refine hK _ ?_; clear hK K)
      refine wpPlan_only (fun K hK => ?_)
      simp only [List.getD_cons_zero, List.getD_cons_succ]
      go_simp
      refine hK _ _ (fun _ => Cls.mk hl1) ?_
      clear hK K
      refine wpPlan_readS hl1 (fun K hK => ?_); simp only [List.getD_cons_zero, List.getD_cons_succ]; go_simp; refine hK _ ?_; clear hK K
      refine wpPlan_done ?_
      clear hS0 hS1 hS2 hS3 hSA hl1
      obtain ⟨W1, hW1⟩ : ∃ W1, (wr.drewN 1).alloc (.cells #[.int .i64 u, .int .i64 v] 3) = W1 := ⟨_, rfl⟩
      obtain ⟨q, hq⟩ : ∃ q, wr.heap.size = q := ⟨_, rfl⟩
      have bq : Blk W1 q #[.int .i64 u, .int .i64 v] 3 := by rw [← hW1, ← hq]; exact Blk.new (wr.drewN 1) _ _
      have ca : Ch [] wr W1 := by rw [← hW1]; exact ((Ch.refl [] wr).drewN 1).alloc _
      have hO1 : OwI W1 B u3 ((xs.take (2 * t + 0)).foldl tell []) := hO.keepLt ca (by simp)
      have hqo : ∀ k, u3.ownBlock = some k → k < q := fun k hk => by rw [← hq]; exact hO.lt k hk
      have hc1 := hc.trans ca
      have hqB : B ≤ q := by rw [← hq, ← HB.out]; exact hc.size
      rw [hW1, hq]
      clear hW1 hO hc hq cr d1 d2 r1
      have hne : ∀ k, u3.ownBlock = some k → k ≠ q := fun k hk => by have := hqo k hk; omega
      go_wp2_with fail
      go_loopw [3, 34] (fun s3 s34 wx => ∃ j : Nat, s34 = .int .i64 j ∧ j ≤ 2 ∧ OwI wx B s3 ((xs.take (2 * t + j)).foldl tell []) ∧ (∀ k, s3.ownBlock = some k → k ≠ q) ∧ Blk wx q #[.int .i64 u, .int .i64 v] 3 ∧ Ch [] w wx) (fun _ s34 _ => 2 - (intOf s34).toNat)
      case atStart => exact ⟨0, rfl, by omega, hO1, hne, bq, hc1⟩
      case round =>
        clear hO1 hqo hc1 ca bq hne hsz
        obtain ⟨j, rfl, hj, hO, hne, bq, hc⟩ := hrel
        have hj' : j = 0 ∨ j = 1 ∨ j = 2 := by omega
        have hbl := bq.lt
        clear hj
        rcases hj' with rfl | rfl | rfl
        · have hx : gI xs (2 * t + 0) = u := HU.out
          have hj2 : 2 * t + 0 < xs.length := by rw [HX.out]; omega
          have htk : (xs.take (2 * t + (0 + 1))).foldl tell [] = tell ((xs.take (2 * t + 0)).foldl tell []) u := by
            rw [← Nat.add_assoc, List.take_succ_eq_append_getElem hj2, ← gI_at _ _ hj2, hx, List.foldl_append]
            rfl
          obtain ⟨O, hOO⟩ : ∃ O, (xs.take (2 * t + 0)).foldl tell [] = O := ⟨_, rfl⟩
          have hOl : O.length ≤ 32 := by
            rw [← hOO]
            have := tells_len (xs.take (2 * t + 0))
            rw [List.length_take] at this
            omega
          rw [hOO] at hO htk
          have HTK := Lib.hid htk
          have q0 := bq.cell 0
          clear hx hj2 htk hOO
          by_cases hx0 : u = 0
          · have ht : tell O u = O := by unfold tell; rw [if_pos (.inl hx0)]
            have HT := Lib.hid ht
            have hx2 : (u != 0) = false := by simp [hx0]
            have hx3 : (u == 0) = true := by simp [hx0]
            clear ht hx0
            go_wp2_with fail
            go_roundw
            case rel => exact ⟨0 + 1, by go_num, by omega, by rw [HTK.out, HT.out]; exact hO, hne, bq, hc⟩
            case measure => simp [intOf]
          · have hx2 : (u != 0) = true := by simp [hx0]
            have hx3 : (u == 0) = false := by simp [hx0]
            obtain ⟨ao, co, rfl, hoc, _, hord⟩ := hO.form
            have hcon := hasAny ao O u O.length co wr hord rfl (by omega)
            by_cases hmem : u ∈ O
            · have ht : tell O u = O := by unfold tell; rw [if_pos (.inr hmem)]
              rw [show O.contains u = true by simpa using hmem] at hcon
              have HT := Lib.hid ht
              have HC := Lib.hid hcon
              clear ht hx0 hmem hcon
              go_wp2_with fail
              refine HC.out.mono ?_; rintro e w2 ⟨rfl, rfl⟩
              go_wp2_with fail
              go_roundw
              case rel => exact ⟨0 + 1, by go_num, by omega, by rw [HTK.out, HT.out]; exact hO, hne, bq, hc⟩
              case measure => simp [intOf]
            · have ht : tell O u = O ++ [u] := by unfold tell; rw [if_neg (by simp [hx0, hmem])]
              rw [show O.contains u = false by simpa using hmem] at hcon
              have HT := Lib.hid ht
              have HC := Lib.hid hcon
              clear ht hx0 hmem hcon
              have hO1 := hO.alloc (.cells #[.int .i64 u] 3)
              go_wp2_with fail
              refine HC.out.mono ?_; rintro e w2 ⟨rfl, rfl⟩
              go_wp2_with (at_builtin; refine wpList_app rfl (.tmp 46) (.tmp 48) rfl B (.slice ao O.length co) O rfl hO1 (by simp; omega) _ [u] rfl (srcOne _ u) (by simp; omega) ?_)
              intro v' w3 hv' c3 n3
              have hbv : ∀ z ∈ (Value.slice ao O.length co).ownBlock.toList, B ≤ z := fun z hz => hO.2 z (by simpa using hz)
              have hbz : q ∉ (Value.slice ao O.length co).ownBlock.toList := fun hz => hne q (by simpa using hz) rfl
              have c3' : Ch (Value.slice ao O.length co).ownBlock.toList w2 w3 := ((Ch.refl _ _).alloc _).trans c3
              have hqlt := bq.lt
              have hne' : ∀ k, v'.ownBlock = some k → k ≠ q := by
                intro k hk
                rcases n3 with h | h
                · exact hne k (by rw [← h]; exact hk)
                · have := h k hk; simp at this; omega
              have HB2 := Lib.hid hbv
              clear hord hbv
              go_wp2
              go_roundw
              case rel => exact ⟨0 + 1, by go_num, by omega, by rw [HTK.out, HT.out]; exact hv', hne', bq.keep c3' hbz, hc.transT c3' (fun z hz => .inr (by have := HB2.out z hz; have := HB.out; omega))⟩
              case measure => simp [intOf]
        · have hx : gI xs (2 * t + 1) = v := HV.out
          have hj2 : 2 * t + 1 < xs.length := by rw [HX.out]; omega
          have htk : (xs.take (2 * t + (1 + 1))).foldl tell [] = tell ((xs.take (2 * t + 1)).foldl tell []) v := by
            rw [← Nat.add_assoc, List.take_succ_eq_append_getElem hj2, ← gI_at _ _ hj2, hx, List.foldl_append]
            rfl
          obtain ⟨O, hOO⟩ : ∃ O, (xs.take (2 * t + 1)).foldl tell [] = O := ⟨_, rfl⟩
          have hOl : O.length ≤ 32 := by
            rw [← hOO]
            have := tells_len (xs.take (2 * t + 1))
            rw [List.length_take] at this
            omega
          rw [hOO] at hO htk
          have HTK := Lib.hid htk
          have q0 := bq.cell 1
          clear hx hj2 htk hOO
          by_cases hx0 : v = 0
          · have ht : tell O v = O := by unfold tell; rw [if_pos (.inl hx0)]
            have HT := Lib.hid ht
            have hx2 : (v != 0) = false := by simp [hx0]
            have hx3 : (v == 0) = true := by simp [hx0]
            clear ht hx0
            go_wp2_with fail
            go_roundw
            case rel => exact ⟨1 + 1, by go_num, by omega, by rw [HTK.out, HT.out]; exact hO, hne, bq, hc⟩
            case measure => simp [intOf]
          · have hx2 : (v != 0) = true := by simp [hx0]
            have hx3 : (v == 0) = false := by simp [hx0]
            obtain ⟨ao, co, rfl, hoc, _, hord⟩ := hO.form
            have hcon := hasAny ao O v O.length co wr hord rfl (by omega)
            by_cases hmem : v ∈ O
            · have ht : tell O v = O := by unfold tell; rw [if_pos (.inr hmem)]
              rw [show O.contains v = true by simpa using hmem] at hcon
              have HT := Lib.hid ht
              have HC := Lib.hid hcon
              clear ht hx0 hmem hcon
              go_wp2_with fail
              refine HC.out.mono ?_; rintro e w2 ⟨rfl, rfl⟩
              go_wp2_with fail
              go_roundw
              case rel => exact ⟨1 + 1, by go_num, by omega, by rw [HTK.out, HT.out]; exact hO, hne, bq, hc⟩
              case measure => simp [intOf]
            · have ht : tell O v = O ++ [v] := by unfold tell; rw [if_neg (by simp [hx0, hmem])]
              rw [show O.contains v = false by simpa using hmem] at hcon
              have HT := Lib.hid ht
              have HC := Lib.hid hcon
              clear ht hx0 hmem hcon
              have hO1 := hO.alloc (.cells #[.int .i64 v] 3)
              go_wp2_with fail
              refine HC.out.mono ?_; rintro e w2 ⟨rfl, rfl⟩
              go_wp2_with (at_builtin; refine wpList_app rfl (.tmp 46) (.tmp 48) rfl B (.slice ao O.length co) O rfl hO1 (by simp; omega) _ [v] rfl (srcOne _ v) (by simp; omega) ?_)
              intro v' w3 hv' c3 n3
              have hbv : ∀ z ∈ (Value.slice ao O.length co).ownBlock.toList, B ≤ z := fun z hz => hO.2 z (by simpa using hz)
              have hbz : q ∉ (Value.slice ao O.length co).ownBlock.toList := fun hz => hne q (by simpa using hz) rfl
              have c3' : Ch (Value.slice ao O.length co).ownBlock.toList w2 w3 := ((Ch.refl _ _).alloc _).trans c3
              have hqlt := bq.lt
              have hne' : ∀ k, v'.ownBlock = some k → k ≠ q := by
                intro k hk
                rcases n3 with h | h
                · exact hne k (by rw [← h]; exact hk)
                · have := h k hk; simp at this; omega
              have HB2 := Lib.hid hbv
              clear hord hbv
              go_wp2
              go_roundw
              case rel => exact ⟨1 + 1, by go_num, by omega, by rw [HTK.out, HT.out]; exact hv', hne', bq.keep c3' hbz, hc.transT c3' (fun z hz => .inr (by have := HB2.out z hz; have := HB.out; omega))⟩
              case measure => simp [intOf]
        · go_wp2_with fail
          go_roundw
          case rel => exact ⟨t + 1, by go_num, by omega, by rw [show 2 * (t + 1) = 2 * t + 2 by omega]; exact hO, hc⟩
          case measure => simp [intOf]; omega
    · obtain rfl : t = n := by omega
      rw [List.take_of_length_le (by rw [HX.out]; omega)] at hO
      clear hlt ht
      go_wp2_with fail
      go_ret
      have cs := (Ch.refl [r] wr).setCell (p := ⟨r, 0, none⟩) (.inl (by simp)) (.slice none 0 0)
      refine ⟨_, rfl, hO.keepLt cs (by intro k hk; simp at hk; omega), ⟨none, 0, r1.set 0 _, rfl, .inl rfl, Nat.le_refl _, Nat.zero_le _, fun x hx => by cases hx⟩, (hc.mono (by simp)).trans cs⟩
end Go.Proofs.Ytalnkhcippcghaa
