/-
  The contract of slices.Delete on []int where one element goes: the others stay in their order, in the same row. Conditions: the slice is the caller's own.
-/
import Derived.Test.YteghenfdncgpeaaOwI
import Derived.OpenShut
import Derived.Lib.SliceRun
import Derived.Deep.DeepCutAuto
namespace Go.Proofs.Yteghenfdncgpeaa
open Go.RowKit
/-- Append on a slice that has room. -/
theorem wpList_room {w : World} {ops : Array Oper} {rest : List Oper} {o : Oper} {a : Act} {Q : Exit → Act → World → Prop} (hgd : o.guard = none) (s x : Operand)
    (ho : o.op = .call { callee := .builtin .append, args := #[s, x], argTypes := #[25, 25] })
    (g off n cap : Nat) (cur : Array Value) (hs : a.eval s = .slice (some ⟨g, off, none⟩) n cap) (hg : Blk w g cur 3) (xv : Value) (ys : List Int) (hx : a.eval x = xv) (hsrc : Src Try.prog 1 25 xv ys.length (ys.map (Value.int .i64)) w)
    (hroom : n + ys.length ≤ cap) (hfit : off + cap ≤ cur.size)
    (h : ∀ cur' w', Blk w' g cur' 3 → cur'.size = cur.size → (∀ j, j < off + n → cur'[j]? = cur[j]?) → (∀ j u, (ys.map (Value.int .i64))[j]? = some u → cur'[off + n + j]? = some u) → Ch [g] w w' →
      wpList Try.prog ops Q rest (a.put o.dst (.slice (some ⟨g, off, none⟩) (n + ys.length) cap)) w') :
    wpList Try.prog ops Q (o :: rest) a w := by
  obtain ⟨i0, hi0, hz0, hz1, hz2⟩ := info_parts Try.infoInt
  have hl : (ys.map (Value.int .i64)).length = ys.length := by simp
  have hr := run_append_room_src (P := Try.prog) (w := w) 25 25 o.type 3 i0 Try.underlying25 hi0 g off n cap xv ys.length (ys.map (Value.int .i64)) (by rw [hz1]; exact hsrc) hroom
    (fun j hj => by rw [hz1, Nat.mul_one, hg.cell, Array.getElem?_eq_getElem (by omega)]; rfl) (fun j _ => hg.frozen _)
  rw [hz1, Nat.mul_one] at hr
  obtain ⟨cs', c1, c2, c3, c4⟩ := heap_setCells g (ys.map (Value.int .i64)) (off + n) w cur 3 hg (by omega)
  refine wpList_plain hgd fun K hK => ?_
  unfold Oper.wp execOp
  simp only [ho, resolve, invoke, builtin, Sem.run_bind, Sem.run_pure, Result.andThen_ok, List.map_toArray, List.map_cons, List.map_nil, hs, hx, hr]
  exact hK _ _ (h cs' _ c1 c2 c3 c4 (Ch_setCells g _ _ _))
set_option maxHeartbeats 1000000 in
theorem deleteOne (B : Nat) (v : Value) (p : List Int) (x : Int) (q : List Int) (w : World) (h : OwI w B v (p ++ x :: q)) (hl : (p ++ x :: q).length ≤ 1000000) :
    Calls Try.prog 63 #[v, .int .i64 p.length, .int .i64 ((p.length : Int) + 1)] w fun e w' =>
      ∃ v', e = .returned v' ∧ OwI w' B v' (p ++ q) ∧ v'.ownBlock = v.ownBlock ∧ Ch v.ownBlock.toList w w' := by
  obtain ⟨⟨hx, hO⟩, hB⟩ := h
  obtain ⟨n, hn⟩ : ∃ n, (p ++ x :: q).length = n := ⟨_, rfl⟩
  rw [hn] at hx hO hl
  have hnq : n = p.length + 1 + q.length := by rw [← hn]; simp; omega
  rcases hO with ⟨_, h0⟩ | ⟨g, off, cap, cur, rfl, hg, h1, h2, h3, h4⟩
  · omega
  obtain ⟨i, hi⟩ : ∃ i, p.length = i := ⟨_, rfl⟩
  obtain ⟨m, hm⟩ : ∃ m, q.length = m := ⟨_, rfl⟩
  have hrd : Rd w (some ⟨g, off, none⟩) (p ++ x :: q) := .inr ⟨g, off, rfl, fun j hj => by
    rw [hg.cell]
    exact h4 j _ (by rw [List.getElem?_map, List.getElem?_eq_getElem hj, gI_at _ j hj]; rfl)⟩
  have r2 : Rd w (if cap = i + 1 then some ⟨g, off, none⟩ else some ⟨g, off + (i + 1), none⟩) q := by rw [← hi]; exact hrd.postIf x (by rw [hn]; exact h1)
  rw [hi, hm] at hnq
  rw [hi]
  rw [Nat.mul_one] at hx h3
  unfold maxLen at h2
  have H4 := Lib.hid h4
  have HI := Lib.hid hi
  have HM := Lib.hid hm
  have HN := Lib.hid hn
  have HNQ := Lib.hid hnq
  have l1 : i < n := by omega
  have l2 : i + 1 + m = n := by omega
  clear h4 hi hm hn hnq hrd hx
  have b0 : (0 : Int) ≤ i := by omega
  have b1 : (i : Int) ≤ (i : Int) + 1 := by omega
  have b2 : (i : Int) + 1 ≤ n := by omega
  have b3 : (n : Int) ≤ cap := by omega
  have b5 : (0 : Int) ≤ (i : Int) + 1 := by omega
  have b6 : ((i : Int) + 1).toNat = i + 1 := by omega
  have b7 : (i : Int) ≤ cap := by omega
  have b8 : ((i : Int) == (i : Int) + 1) = false := by rw [beq_eq_false_iff_ne]; omega
  go_enter Try.func63, Try.ntmps63
  go_wp2
  refine wp_region_tail 6 (by kernel_rfl) (by kernel_rfl) ?_
  simp only [List.take_succ_cons, List.take_zero, List.drop_succ_cons, List.drop_zero]
  repeat still_step
  refine wpStill_nil ?_
  obtain ⟨A2, hA2⟩ : ∃ A2 : Option Addr, (if cap = i + 1 then (some ⟨g, off, none⟩ : Option Addr) else some ⟨g, off + (i + 1), none⟩) = A2 := ⟨_, rfl⟩
  try rw [hA2]
  rw [hA2] at r2
  have HA := Lib.hid hA2
  have hmi : n - (i + 1) = q.length := by rw [HM.out]; omega
  rw [hmi]
  have HMI := Lib.hid hmi
  clear hA2 hmi b0 b1 b2 b3 b5 b6 b7 b8
  refine wpList_room rfl (.tmp 22) (.tmp 25) rfl g off i cap cur rfl (hg.drewN 1) (.slice A2 q.length (cap - (i + 1))) q rfl (Rd.src (P := Try.prog) Try.underlying25 _ (r2.drewN 1)) (by rw [HM.out]; omega) h3 ?_
  intro cur1 w1 g1 s1 k1 k2 c1
  rw [HM.out]
  have zI : ∀ w, (zeroValue 3).run Try.prog w = .ok (.int .i64 0) w := fun _ => by kernel_rfl
  have hcl : ∀ ty, (Builtin.clear_ #[25] ty #[.slice (some ⟨g, off + (i + m), none⟩) (n - (i + m)) (cap - (i + m))]).run Try.prog w1 = .ok (.tuple #[]) (w1.setCells g (off + (i + m)) (List.replicate (n - (i + m)) (.int .i64 0))) :=
    fun ty => Lib.run_clear_slice w1 _ _ ty _ Try.underlying25 zI rfl rfl g (off + (i + m)) _ _ (by omega) (fun t ht => by rw [g1.cell, Array.getElem?_eq_getElem (by omega)]; rfl) (fun t ht => g1.frozen _)
  have b0 : (0 : Int) ≤ ((i + m : Nat) : Int) := by omega
  have b1 : ((i + m : Nat) : Int) ≤ n := by omega
  have b3 : (n : Int) ≤ cap := by omega
  have b4 : ¬ cap = i + m := by omega
  have K1 := Lib.hid k1
  have K2 := Lib.hid k2
  clear k1 k2 zI
  go_wp2
  go_ret
  obtain ⟨cur2, d1, d2, d3, d4⟩ := heap_setCells g (List.replicate (n - (i + m)) (Value.int .i64 0)) (off + (i + m)) w1 cur1 3 g1 (by simp; omega)
  refine ⟨.slice (some ⟨g, off, none⟩) (i + m) cap, rfl, ⟨⟨by simp, .inr ⟨g, off, cap, cur2, ?_, d1, ?_, by unfold maxLen; omega, by omega, ?_⟩⟩, fun k hk => hB k (by simpa [Value.ownBlock] using hk)⟩, rfl, ((Ch.refl [g] w).drewN 1).trans (c1.trans (Ch_setCells g _ _ _))⟩
  · rw [List.length_append, HI.out, HM.out]
  · rw [List.length_append, HI.out, HM.out]; omega
  · intro j u hu
    have hj : j < i + m := by
      have := (List.getElem?_eq_some_iff.1 hu).1
      rw [List.length_map, List.length_append, HI.out, HM.out] at this
      exact this
    rw [d3 _ (by omega)]
    by_cases hji : j < i
    · rw [K1.out _ (by omega)]
      apply H4.out
      rw [← hu]
      simp [List.getElem?_append_left, HI.out, hji]
    · have := K2.out (j - i) u (by
        rw [← hu, List.map_append, List.getElem?_append_right (by rw [List.length_map, HI.out]; omega), List.length_map, HI.out])
      rwa [show off + i + (j - i) = off + j by omega] at this
end Go.Proofs.Yteghenfdncgpeaa
