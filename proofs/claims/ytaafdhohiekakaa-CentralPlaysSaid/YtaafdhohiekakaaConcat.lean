/-
  The contract of slices.Concat on two []int: a new slice with the numbers of both. Conditions: both are read whole.
-/
import Derived.Test.YtaafdhohiekakaaOwI
import Derived.OpenShut
import Derived.Lib.AppendZerosOnto
import Derived.WalkSpells
namespace Go.Proofs.Ytaafdhohiekakaa
open Go.RowKit
theorem wpList_append_any {P : Program} {w : World} {ops : Array Oper} {rest : List Oper} {o : Oper} {a : Act} {Q : Exit → Act → World → Prop} (hgd : o.guard = none) (s x : Operand) (t tx : TypeId)
    (ho : o.op = .call { callee := .builtin .append, args := #[s, x], argTypes := #[t, tx] }) (v xv : Value) (hs : a.eval s = v) (hx : a.eval x = xv) (v' : Value) (w' : World) (hr : (Builtin.append_ #[t, tx] o.type #[v, xv]).run P w = .ok v' w')
    (h : wpList P ops Q rest (a.put o.dst v') w') : wpList P ops Q (o :: rest) a w := by
  refine wpList_plain hgd fun K hK => ?_
  unfold Oper.wp execOp
  simp only [ho, resolve, invoke, builtin, Sem.run_bind, Sem.run_pure, Result.andThen_ok, List.map_toArray, List.map_cons, List.map_nil, hs, hx, hr]
  exact hK _ _ h
theorem growNil (n : Nat) (w : World) (hl : n ≤ 1000000) :
    Calls Try.prog 51 #[.slice none 0 0, .int .i64 n] w fun e w' => ∃ v', e = .returned v' ∧ OwI w' w.heap.size v' [] ∧ Ch [] w w' := by
  by_cases h0 : n = 0
  · subst h0
    go_enter Try.func51, Try.ntmps51
    go_wp2
    go_ret
    exact ⟨_, rfl, OwI.nil _ _, Ch.refl _ _⟩
  · obtain ⟨i0, hi0, hz0, hz1, hz2⟩ := info_parts Try.infoInt
    obtain ⟨G, hG⟩ : ∃ G, grownCap w (0 + n) 0 3 = G := ⟨_, rfl⟩
    have hGn : n ≤ G := by have := grownCap_ge w (0 + n) 0 3; omega
    have hGm : G ≤ maxLen := by rw [← hG]; exact grownCap_le_maxLen w (0 + n) 0 3 (by unfold maxLen; omega)
    have hrz : ∀ ty, ∃ cs : Array Value, cs.size = G ∧ (Builtin.append_ #[22, 3] ty #[.slice none 0 0, .int .i64 (n : Int)]).run Try.prog w = .ok (.slice (some ⟨w.heap.size, 0, none⟩) n G) (w.drew.alloc (.cells cs 3)) := fun ty => by
      have h := Lib.run_append_grow_zeros w 22 3 ty 3 i0 (.int .i64 0) .i64 .i64 Try.underlying22 Try.underlying3 hi0 hz0 none 0 0 [] (by simp [Builtin.firstCells]) n (by omega) (by omega) (by omega) (by omega) (by rw [hz2]; omega) (growslice_fits (by omega) (by rw [hz2]; omega))
      rw [hG, Nat.zero_add] at h
      refine ⟨_, ?_, h⟩
      simp [size_zeroCells, show (Value.int IntKind.i64 0).cells.size = 1 from rfl]
      omega
    obtain ⟨cs, hcs, hr⟩ := hrz 22
    have h63 : G ≤ 9223372036854775807 := by unfold maxLen at hGm; omega
    have n0 : (0 : Int) < n := by omega
    clear hrz hG hz0 hz1 hz2 hi0
    go_enter Try.func51, Try.ntmps51
    go_wp2_with (at_builtin; refine wpList_append_any rfl (.tmp 20) (.tmp 21) 22 3 rfl (.slice none 0 0) (.int .i64 (n : Int)) rfl rfl _ _ hr ?_)
    go_wp2
    go_ret
    refine ⟨.slice (some ⟨w.heap.size, 0, none⟩) 0 G, rfl, ⟨⟨by simp, .inr ⟨w.heap.size, 0, G, cs, rfl, Blk.new _ _ _, by simp, hGm, by omega, by simp⟩⟩, by simp [Value.ownBlock]⟩, ((Ch.refl [] w).drew).alloc _⟩
theorem concatTwo (s : Nat) (a1 a2 : Option Addr) (p q : List Int) (c1 c2 : Nat) (w : World) (hs : Blk w s #[.slice a1 p.length c1, .slice a2 q.length c2] 22) (h1 : Rd w a1 p) (h2 : Rd w a2 q) (hl : p.length + q.length ≤ 100000) :
    Calls Try.prog 43 #[.slice (some ⟨s, 0, none⟩) 2 2] w fun e w' => ∃ v', e = .returned v' ∧ OwI w' w.heap.size v' (p ++ q) ∧ Ch [] w w' := by
  obtain ⟨n, hn⟩ : ∃ n, p.length = n := ⟨_, rfl⟩
  obtain ⟨m, hm⟩ : ∃ m, q.length = m := ⟨_, rfl⟩
  obtain ⟨B, hB⟩ : ∃ B, w.heap.size = B := ⟨_, rfl⟩
  have hBw : B ≤ w.heap.size := by omega
  have x1 := h1
  have x2 := h2
  have r1 := Rd.src (P := Try.prog) (t := 22) Try.underlying22 c1 h1
  have r2 := fun (w' : World) (hc : Ch [] w w') => Rd.src (P := Try.prog) (t := 22) Try.underlying22 c2 (h2.keep hc (by simp))
  have r1' := fun (w' : World) (hc : Ch [] w w') => Rd.src (P := Try.prog) (t := 22) Try.underlying22 c1 (h1.keep hc (by simp))
  rw [hn, hm] at hs
  rw [hn, hm] at hl
  have k0 := hs.cell 0
  have k1 := hs.cell 1
  have hsB : s < B := by rw [← hB]; exact hs.lt
  rw [hB]
  have HB := Lib.hid hB
  have HN := Lib.hid hn
  have HM := Lib.hid hm
  have R1 := Lib.hid r1'
  have R2 := Lib.hid r2
  clear r1 r2 r1' x1 x2 h1 h2 hB hn hm
  go_enter Try.func43, Try.ntmps43
  go_wp2_with fail
  go_loop [3, 11] (fun s3 s11 => (s11 = .int .i64 0 ∧ s3 = .int .i64 0) ∨ (s11 = .int .i64 1 ∧ s3 = .int .i64 n) ∨ (s11 = .int .i64 2 ∧ s3 = .int .i64 ((n + m : Nat) : Int))) (fun _ s11 => 2 - (intOf s11).toNat)
  case atStart => exact .inl ⟨rfl, rfl⟩
  case round =>
    rcases hrel with ⟨rfl, rfl⟩ | ⟨rfl, rfl⟩ | ⟨rfl, rfl⟩
    · go_wp2_with fail
      go_round
      case rel => exact .inr (.inl ⟨rfl, rfl⟩)
      case measure => simp [intOf]
    · go_wp2_with fail
      go_round
      case rel => exact .inr (.inr ⟨rfl, by go_num⟩)
      case measure => simp [intOf]
    · go_wp2_with fail
      refine (growNil (n + m) _ (by omega)).mono ?_; rintro e w1 ⟨v1, rfl, o1, c1'⟩
      have hw1 : B ≤ w1.heap.size := by have := c1'.size; omega
      have o1' : OwI w1 B v1 [] := o1.mono (by have := HB.out; omega)
      have k0' := (hs.keep c1' (by simp)).cell 0
      have k1' := (hs.keep c1' (by simp)).cell 1
      have hc1 : Ch [] w w1 := c1'
      clear k0 k1 o1 c1'
      go_wp2_with fail
      go_loopw [6, 27] (fun s6 s27 wr => ((s27 = .int .i64 0 ∧ OwI wr B s6 []) ∨ (s27 = .int .i64 1 ∧ OwI wr B s6 p) ∨ (s27 = .int .i64 2 ∧ OwI wr B s6 (p ++ q))) ∧ Blk wr s #[.slice a1 n c1, .slice a2 m c2] 22 ∧ Ch [] w wr ∧ B ≤ wr.heap.size) (fun _ s27 _ => 2 - (intOf s27).toNat)
      case atStart => exact ⟨.inl ⟨rfl, o1'⟩, hs.keep hc1 (by simp), hc1, hw1⟩
      case round =>
        clear o1' hc1 k0' k1' hw1 hs hBw
        obtain ⟨hrel, hs, hc, hsz⟩ := hrel
        have k0 := hs.cell 0
        have k1 := hs.cell 1
        rcases hrel with ⟨rfl, hO⟩ | ⟨rfl, hO⟩ | ⟨rfl, hO⟩
        · have src := R1.out wr hc
          rw [HN.out] at src
          go_wp2_with (at_builtin; refine wpList_app rfl (.tmp 31) (.tmp 32) rfl B u6 [] rfl hO hsz (.slice a1 n c1) p rfl (by rw [HN.out]; exact src) (by rw [HN.out]; simp; omega) ?_)
          intro v' w2 hv' c2 _
          have hb : ∀ k ∈ u6.ownBlock.toList, B ≤ k := fun k hk => hO.2 k (by simpa using hk)
          have HBB := Lib.hid hb
          have hs2 := c2.size
          clear hb src k0 k1
          go_wp2_with fail
          go_roundw
          case rel => exact ⟨.inr (.inl ⟨rfl, hv'⟩), hs.keep c2 (fun hq => by have := HBB.out s hq; omega), hc.transT c2 (by intro k hk; have := HBB.out k hk; exact .inr (by have := HB.out; omega)), by omega⟩
          case measure => simp [intOf]
        · have src := R2.out wr hc
          rw [HM.out] at src
          go_wp2_with (at_builtin; refine wpList_app rfl (.tmp 31) (.tmp 32) rfl B u6 p rfl hO hsz (.slice a2 m c2) q rfl (by rw [HM.out]; exact src) (by rw [HN.out, HM.out]; omega) ?_)
          intro v' w2 hv' c2 _
          have hb : ∀ k ∈ u6.ownBlock.toList, B ≤ k := fun k hk => hO.2 k (by simpa using hk)
          have HBB := Lib.hid hb
          have hs2 := c2.size
          clear hb src k0 k1
          go_wp2_with fail
          go_roundw
          case rel => exact ⟨.inr (.inr ⟨rfl, hv'⟩), hs.keep c2 (fun hq => by have := HBB.out s hq; omega), hc.transT c2 (by intro k hk; have := HBB.out k hk; exact .inr (by have := HB.out; omega)), by omega⟩
          case measure => simp [intOf]
        · go_wp2_with fail
          go_ret
          exact ⟨_, rfl, hO, hc⟩
end Go.Proofs.Ytaafdhohiekakaa
