/-
  The document's answer for layer 21: its list of jobs. Conditions: none beyond what each theorem names.
-/
import Derived.Test.YtebibdoekcophaaRootsNew
import Derived.Test.YtebibdoekcophaaRootsAdd
import Derived.Test.YtebibdoekcophaaOwI
namespace Go.Proofs.Ytebibdoekcophaa
open Go.RowKit
/-- The slice (a, js.length, c) reads as the jobs js; what it reads lies in none of the blocks of S. -/
def LsJ (w : World) (S : List Nat) (a : Option Addr) (c : Nat) (js : List Job) : Prop :=
  js.length ≤ c ∧ c ≤ maxLen ∧ (js = [] ∨ ∃ b o, a = some ⟨b, o, none⟩ ∧ b < w.heap.size ∧ b ∉ S ∧ ∀ i u, (flat js)[i]? = some u → w.cell? ⟨b, o + i, none⟩ = some u)
section
variable {w w' : World} {S T U : List Nat} {a : Option Addr} {c : Nat} {v : Value} {js : List Job}
theorem LsJ.step (h : LsJ w S a c js) (hc : Ch T w w') (hT : ∀ k ∈ T, k ∈ S ∨ w.heap.size ≤ k) (hU : ∀ k ∈ U, k ∈ S ∨ w.heap.size ≤ k) : LsJ w' U a c js := by
  obtain ⟨h1, h2, h3⟩ := h
  refine ⟨h1, h2, ?_⟩
  rcases h3 with h3 | ⟨b, o, rfl, h4, h5, h6⟩
  · exact .inl h3
  · have hbT : b ∉ T := fun hm => by
      rcases hT _ hm with h | h
      · exact h5 h
      · omega
    refine .inr ⟨b, o, rfl, Nat.lt_of_lt_of_le h4 hc.size, fun hm => ?_, fun i u hu => ?_⟩
    · rcases hU _ hm with h | h
      · exact h5 h
      · omega
    · rw [World.cell?_of_block (w := w) (hc.block b h4 hbT)]
      exact h6 i u hu
theorem LsJ.keep (h : LsJ w S a c js) (hc : Ch T w w') (hT : ∀ k ∈ T, k ∈ S ∨ w.heap.size ≤ k) : LsJ w' S a c js := h.step hc hT (fun _ hk => .inl hk)
theorem Own.lsJ {n : Nat} (h : Own w 41 3 v n (flat js)) (hS : ∀ k, v.ownBlock = some k → k ∉ S) : ∃ a c, v = .slice a js.length c ∧ n = js.length ∧ LsJ w S a c js := by
  have hn : n = js.length := by have := h.1; rw [flat_len] at this; omega
  subst hn
  rcases h.2 with ⟨rfl, h0⟩ | ⟨g, off, cap, cur, rfl, hg, h1, h2, h3, h4⟩
  · exact ⟨none, 0, by rw [h0], rfl, by omega, Nat.zero_le _, .inl (List.eq_nil_of_length_eq_zero h0)⟩
  · exact ⟨_, cap, rfl, rfl, h1, h2, .inr ⟨g, off, rfl, hg.lt, hS g rfl, fun i u hu => by rw [hg.cell]; exact h4 i u hu⟩⟩
theorem LsJ.at {j : Job} (h : LsJ w S a c (j :: js)) : ∃ b o, a = some ⟨b, o, none⟩ ∧ w.cell? ⟨b, o, none⟩ = some (.int .i64 j.1) ∧ w.cell? ⟨b, o + 1, none⟩ = some (.int .i64 j.2.1) ∧ w.cell? ⟨b, o + 2, none⟩ = some (.int .i64 j.2.2) ∧
    LsJ w S (if c = 1 then some ⟨b, o, none⟩ else some ⟨b, o + 3, none⟩) (c - 1) js := by
  obtain ⟨h1, h2, h3⟩ := h
  rcases h3 with h3 | ⟨b, o, rfl, h4, h5, h6⟩
  · cases h3
  obtain ⟨e0, e1, e2⟩ := flat_get (j :: js) 0 j rfl
  simp only [List.length_cons] at h1
  refine ⟨b, o, rfl, h6 0 _ e0, h6 1 _ e1, h6 2 _ e2, by omega, by omega, ?_⟩
  by_cases hj : js = []
  · exact .inl hj
  · have : 0 < js.length := List.length_pos_iff.2 hj
    rw [if_neg (by omega)]
    refine .inr ⟨b, o + 3, rfl, h4, h5, fun i u hu => ?_⟩
    rw [show o + 3 + i = o + (i + 3) by omega]
    refine h6 (i + 3) u ?_
    simp only [flat, List.flatMap_cons] at *
    rw [List.getElem?_append_right (by simp [jobCells])]
    simpa [jobCells] using hu
theorem LsJ.get {k : Nat} (h : LsJ w S a c js) (hk : k < js.length) : ∃ b o, a = some ⟨b, o, none⟩ ∧ w.cell? ⟨b, o + k * 3, none⟩ = some (.int .i64 (js[k]).1) := by
  obtain ⟨h1, h2, h3⟩ := h
  rcases h3 with h3 | ⟨b, o, rfl, h4, h5, h6⟩
  · subst h3; simp at hk
  · obtain ⟨e0, _, _⟩ := flat_get js k js[k] (by simp [hk])
    exact ⟨b, o, rfl, by rw [Nat.mul_comm]; exact h6 _ _ e0⟩
theorem LsJ.src (h : LsJ w S a c js) : Src Try.prog 3 46 (.slice a js.length c) js.length (flat js) w := by
  obtain ⟨h1, h2, h3⟩ := h
  rcases h3 with rfl | ⟨b, o, rfl, h4, h5, h6⟩
  · cases a with
    | none => exact Src.ofNil w Try.underlying46 c
    | some x => exact Src.ofSlice _ Try.underlying46 _ _ _ _ rfl (fun j u hu => by cases hu) (fun u hu => by cases hu)
  · refine Src.ofSlice _ Try.underlying46 _ _ _ _ (flat_len js) (fun j u hu => ?_) (flat_one js)
    rw [show (⟨b, o, none⟩ : Addr).add j = ⟨b, o + j, none⟩ by unfold Addr.add; split <;> simp_all]
    exact h6 j u hu
end
/-- v owns the jobs js; its block, if it has one, is B or above. -/
def OwJ (w : World) (B : Nat) (v : Value) (js : List Job) : Prop := Own w 41 3 v js.length (flat js) ∧ ∀ k, v.ownBlock = some k → B ≤ k
theorem wp_appJ {w : World} {o : Oper} {a : Act} {K : Act → World → Prop} {Q : Exit → Act → World → Prop} (s x : Operand)
    (ho : o.op = .call { callee := .builtin .append, args := #[s, x], argTypes := #[46, 46] })
    (B : Nat) (v : Value) (js : List Job) (hs : a.eval s = v) (hv : OwJ w B v js) (hB : B ≤ w.heap.size) (xv : Value) (ks : List Job) (hx : a.eval x = xv) (hsrc : Src Try.prog 3 46 xv ks.length (flat ks) w)
    (hl : js.length + ks.length ≤ 1000000)
    (h : ∀ v' w', OwJ w' B v' (js ++ ks) → Ch v.ownBlock.toList w w' → NewAt w v v' → K (a.put o.dst v') w') :
    o.wp Try.prog a w K Q := by
  obtain ⟨i0, hi0, hz0, hz1, hz2⟩ := info_parts Try.infoJob
  refine wp_append_Own s x 46 46 ho 41 i0 (.agg #[.int .i64 0, .int .i64 0, .int .i64 0]) 3 24 Try.underlying46 hi0 hz0 hz1 hz2 rfl v js.length (flat js) hs hv.1 xv ks.length (flat ks) hx hsrc (by unfold maxLen; omega) (by omega) ?_
  intro v' w' h2 h3 h4
  refine h v' w' ⟨by rw [List.length_append, flat_append]; exact h2, ?_⟩ h3 h4
  intro k hk
  rcases h4 with h | h
  · exact hv.2 k (by rw [← h]; exact hk)
  · exact Nat.le_trans hB (h k hk)
theorem OwJ.lsJ {w : World} {B : Nat} {v : Value} {js : List Job} {S : List Nat} (h : OwJ w B v js) (hS : ∀ k ∈ S, k < B) : ∃ a c, v = .slice a js.length c ∧ LsJ w S a c js := by
  obtain ⟨a, c, h1, _, h3⟩ := h.1.lsJ (S := S) (fun k hk hm => by have := hS k hm; have := h.2 k hk; omega)
  exact ⟨a, c, h1, h3⟩
set_option maxHeartbeats 1000000 in
theorem refJobs (gl : Int) (a : Option Addr) (gs : List Int) (c : Nat) (w : World) (hg : gl ≤ 1000) (hl : gs.length ≤ 1000) (hr : Rd w a gs) :
    Calls Try.prog 39 #[.int .i64 gl, .slice a gs.length c] w fun e w' =>
      ∃ v, e = .returned v ∧ Own w' 41 3 v (gJobs gl (gCount gl) ++ sJobs gs).length (flat (gJobs gl (gCount gl) ++ sJobs gs)) ∧ (∀ k, v.ownBlock = some k → w.heap.size ≤ k) ∧ Ch [] w w' := by
  obtain ⟨i0, hi0, hz0, hz1, hz2⟩ := info_parts Try.infoJob
  go_enter Try.func39, Try.ntmps39
  go_wp2_with fail
  have hgc : 8 * gCount gl < gl.toNat + 8 ∧ gl.toNat ≤ 8 * gCount gl := by unfold gCount; omega
  have hc0 : Ch [] w w := Ch.refl _ _
  go_loopw [5, 6] (fun s5 s6 wr => ∃ (k : Nat), s6 = .int .i64 (8 * (k : Int)) ∧ k ≤ gCount gl ∧ Own wr 41 3 s5 k (flat (gJobs gl k)) ∧ (∀ q, s5.ownBlock = some q → w.heap.size ≤ q) ∧ Ch [] w wr) (fun _ s6 _ => (gl - intOf s6).toNat)
  case atStart => exact ⟨0, rfl, by omega, Own.nil _ _ _, by simp [Value.ownBlock], hc0⟩
  case round =>
    obtain ⟨k, rfl, hk, hO, hv, hc⟩ := hrel
    clear hc0
    obtain ⟨va, vc, rfl, _⟩ := hO.form
    have hkk : k ≤ 126 := by omega
    by_cases hlt : 8 * (k : Int) < gl
    · have hj := Lib.hid (gJobs_succ gl k)
      have hbig : k + 1 ≤ gCount gl := by omega
      obtain ⟨m, hm⟩ : ∃ m, (if gl < 8 * (k : Int) + 8 then gl else 8 * (k : Int) + 8) = m := ⟨_, rfl⟩
      have hmm : gJob gl k = (-1, 8 * (k : Int), m) := by rw [← hm]; rfl
      have HMM := Lib.hid hmm
      clear hmm
      have hown1 := hO.alloc (.cells #[.int .i64 (-1), .int .i64 (8 * (k : Int)), .int .i64 m] 41)
      go_wp2_with (at_builtin; refine wpList_append_Own rfl (.tmp 13) (.tmp 20) 46 46 rfl 41 i0 (.agg #[.int .i64 0, .int .i64 0, .int .i64 0]) 3 24 Try.underlying46 hi0 hz0 hz1 hz2 rfl (.slice va k vc) k (flat (gJobs gl k)) rfl hown1 _ 1 _ rfl (Src_lit Try.underlying46 _ (flat [(-1, 8 * (k : Int), m)]) 3 1 rfl _ (flat_one _)) (by unfold maxLen; omega) (by omega) ?_)
      intro v' w2 hown2 hc2 hf2
      go_wp2
      go_roundw
      case rel =>
        refine ⟨k + 1, by congr 1, hbig, ?_, ?_, ?_⟩
        · rw [hj.out, flat_append, HMM.out]
          exact hown2
        · intro q hq
          rcases hf2 with h | h
          · exact hv q (by rw [← h]; exact hq)
          · have := h q hq; have := hc.size; simp at *; omega
        · exact (hc.alloc (.cells #[.int .i64 (-1), .int .i64 (8 * (k : Int)), .int .i64 m] 41)).transT hc2 (fun q hq => .inr (hv q (by simpa using hq)))
      case measure => simp [intOf]; omega
    · obtain rfl : k = gCount gl := by omega
      go_wp2
      have hJ : (gJobs gl (gCount gl)).length = gCount gl := gJobs_len _ _
      obtain ⟨N, hN⟩ : ∃ N, gCount gl = N := ⟨_, rfl⟩
      rw [hN] at hO hv hk hgc hJ ⊢
      obtain ⟨L, hL⟩ : ∃ L, gJobs gl N = L := ⟨_, rfl⟩
      rw [hL] at hO hJ
      have HNN := Lib.hid hN
      have HLL := Lib.hid hL
      obtain ⟨n, hn⟩ : ∃ n, gs.length = n := ⟨_, rfl⟩
      rw [hn] at hl ⊢
      have HN := Lib.hid hn
      have HJ := Lib.hid hJ
      clear hN hL hn hJ
      go_loopw [5, 7] (fun s5 s7 wq => ∃ (q : Nat), s7 = .int .i64 q ∧ q ≤ n ∧ Own wq 41 3 s5 (N + q) (flat (L ++ sJobs (gs.take q))) ∧ (∀ x, s5.ownBlock = some x → w.heap.size ≤ x) ∧ Ch [] w wq) (fun _ s7 _ => n - (intOf s7).toNat)
      case atStart => exact ⟨0, rfl, by omega, by simpa [sJobs] using hO, hv, hc⟩
      case round =>
        clear hO hv hc
        obtain ⟨q, rfl, hq, hO, hv, hc⟩ := hrel
        obtain ⟨va, vc, rfl, _⟩ := hO.form
        by_cases hql : q < n
        · obtain ⟨ga, go, rfl, hgc'⟩ := (hr.keep hc (by simp)).at (i := q) (by rw [HN.out]; exact hql)
          have d1 := hgc' q (by rw [HN.out]; exact hql)
          have hs := sJobs_take gs q (by rw [HN.out]; exact hql)
          obtain ⟨g, hgg⟩ : ∃ g, gI gs q = g := ⟨_, rfl⟩
          rw [hgg] at d1 hs
          have HS := Lib.hid hs
          have hown1 := hO.alloc (.cells #[.int .i64 g, .int .i64 0, .int .i64 16] 41)
          clear hgc' hs hgg
          go_wp2_with (at_builtin; refine wpList_append_Own rfl (.tmp 28) (.tmp 34) 46 46 rfl 41 i0 (.agg #[.int .i64 0, .int .i64 0, .int .i64 0]) 3 24 Try.underlying46 hi0 hz0 hz1 hz2 rfl (.slice va (N + q) vc) (N + q) (flat (L ++ sJobs (gs.take q))) rfl hown1 _ 1 _ rfl (Src_lit Try.underlying46 _ (flat [(g, 0, 16)]) 3 1 rfl _ (flat_one _)) (by unfold maxLen; omega) (by omega) ?_)
          intro v' w2 hown2 hc2 hf2
          go_wp2
          go_roundw
          case rel =>
            refine ⟨q + 1, by go_num, by omega, ?_, ?_, ?_⟩
            · rw [HS.out, ← List.append_assoc, flat_append _ [(g, 0, 16)], ← Nat.add_assoc]
              exact hown2
            · intro x hx
              rcases hf2 with h | h
              · exact hv x (by rw [← h]; exact hx)
              · have := h x hx; have := hc.size; simp at *; omega
            · exact (hc.alloc (.cells #[.int .i64 g, .int .i64 0, .int .i64 16] 41)).transT hc2 (fun x hx => .inr (hv x (by simpa using hx)))
          case measure => simp [intOf]; omega
        · obtain rfl : q = n := by omega
          rw [List.take_of_length_le (by rw [HN.out]; omega)] at hO
          have hlen : (L ++ sJobs gs).length = N + q := by rw [List.length_append, HJ.out, sJobs_len, HN.out]
          have HL := Lib.hid hlen
          clear hlen
          go_wp2
          go_ret
          exact ⟨_, rfl, by rw [HNN.out, HLL.out, HL.out]; exact hO, hv, hc⟩
end Go.Proofs.Ytebibdoekcophaa
