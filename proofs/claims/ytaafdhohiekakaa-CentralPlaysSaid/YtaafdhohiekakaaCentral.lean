/-
  Contracts of package central: rows of spans. Conditions: none beyond what each theorem names.
-/
import Derived.Test.YtaafdhohiekakaaRefRows
import Derived.Test.YtaafdhohiekakaaConcat
import Derived.Test.YtaafdhohiekakaaClone
import Derived.Test.YtaafdhohiekakaaIx
import Derived.Test.YtaafdhohiekakaaPlan
import Derived.OpenShut
import Derived.Laws.Rows
import Derived.Laws.MakeOwn
import Derived.Deep.DeepCutAuto
namespace Go.Proofs.Ytaafdhohiekakaa
open Go.RowKit
/-- c is a central with its rows in block g: 4 k + 2 u + f is the row of class k, unswept (u), full (f). -/
structure CentAt (w : World) (c g : Nat) (vs : List Value) (Ls : List (List Int)) : Prop where
  top : Blk w c #[.slice (some ⟨g, 0, none⟩) 16 16] 75
  rows : RowsAt w g 78 vs Ls
  len : Ls.length = 64
section
variable {w w' : World} {S : List Nat} {c g : Nat} {vs : List Value} {Ls : List (List Int)}
theorem CentAt.vlen (h : CentAt w c g vs Ls) : vs.length = 64 := by rw [h.rows.len]; exact h.len
theorem CentAt.keep (h : CentAt w c g vs Ls) (hc : Ch S w w') (h1 : c ∉ S) (h2 : g ∉ S) (h3 : ∀ k ∈ S, k ∉ blocksOf vs) : CentAt w' c g vs Ls :=
  ⟨h.top.keep hc h1, h.rows.keep hc h2 h3, h.len⟩
theorem CentAt.ch (h : CentAt w c g vs Ls) (hc : Ch [] w w') : CentAt w' c g vs Ls := h.keep hc (by simp) (by simp) (by simp)
theorem CentAt.cg (h : CentAt w c g vs Ls) : c ≠ g := h.top.ne h.rows.blk (by decide)
theorem CentAt.cb (h : CentAt w c g vs Ls) : c ∉ blocksOf vs := by
  intro hk
  obtain ⟨v, hv, he⟩ := mem_blocksOf.1 hk
  obtain ⟨i, hi⟩ := List.mem_iff_getElem?.1 hv
  exact (h.rows.own i v hi).1.neBlk h.top (by decide) he
end
theorem countC (w : World) : Calls Try.prog 45 #[] w fun e w' => e = .returned (.int .i64 16) ∧ Ch [] w w' := by
  have ht : ∀ w : World, Calls Try.prog 52 #[] w fun e w' => (∃ v, e = .returned v) ∧ Ch [] w w' := by
    intro w
    go_enter Try.func52, Try.ntmps52
    go_wp2
    refine bodyPost_ret (v := .agg #[Value.int IntKind.i64 1, Value.int IntKind.i64 2, Value.int IntKind.i64 3, Value.int IntKind.i64 4, Value.int IntKind.i64 6, Value.int IntKind.i64 8, Value.int IntKind.i64 12, Value.int IntKind.i64 16, Value.int IntKind.i64 24, Value.int IntKind.i64 32, Value.int IntKind.i64 48, Value.int IntKind.i64 64, Value.int IntKind.i64 96, Value.int IntKind.i64 128, Value.int IntKind.i64 192, Value.int IntKind.i64 256]) (by simp [results, Try.results52, go_sem]) rfl ⟨⟨_, rfl⟩, (Ch.refl _ w).alloc _⟩
  go_enter Try.func45, Try.ntmps45
  go_wp2_with fail
  refine (ht w).mono ?_; rintro e w1 ⟨⟨v, rfl⟩, c1⟩
  clear ht
  go_wp2
  go_ret
  exact ⟨rfl, c1⟩
theorem Try.infoCRows : (Try.prog.info? 78).map (fun i => (i.zero, i.size, i.bytes)) = some (some (.agg (Array.replicate 4 (.slice none 0 0))), 4, 96) := by kernel_rfl
theorem run_makeRows (w : World) : (Instr.makeSlice 73 (.int .i64 16) (.int .i64 16)).run Try.prog w =
    .ok (.slice (some ⟨w.heap.size, 0, none⟩) 16 16) (w.alloc (.cells (Array.replicate 64 (.slice none 0 0)) 78)) := by
  obtain ⟨i0, hi0, hz0, hz1, hz2⟩ := info_parts Try.infoCRows
  have hr := run_makeSlice (P := Try.prog) w 73 78 i0 _ Try.underlying73 hi0 hz0 .i64 .i64 16 16 (by omega) (Int.le_refl _) (by rw [hz1]; omega) (by rw [hz2]; omega) (by omega)
  have hm : madeCells (Value.agg (Array.replicate 4 (.slice none 0 0))).cells ((16 : Int).toNat * 4) = Array.replicate 64 (.slice none 0 0) := by kernel_rfl
  rw [hr, hz1, hm]
  rfl
theorem gL_rep (m i : Nat) : gL (List.replicate m []) i = [] := by
  unfold gL
  rw [List.getD_eq_getElem?_getD, List.getElem?_replicate]
  split <;> rfl
/-- A new central. -/
def NewCent (w : World) (e : Ending) (w' : World) : Prop := ∃ c g, e = .returned (.pointer (some ⟨c, 0, none⟩)) ∧ CentAt w' c g (List.replicate 64 (.slice none 0 0)) (List.replicate 64 []) ∧ w.heap.size ≤ c ∧ w.heap.size ≤ g ∧ Ch [] w w'
theorem centNew (w : World) : Calls Try.prog 23 #[] w (NewCent w) := by
  have hmk := run_makeRows
  go_enter Try.func23, Try.ntmps23
  go_wp2_with fail
  refine (countC w).mono ?_; rintro e w1 ⟨rfl, c1⟩
  go_wp2_with fail
  go_ret
  have hs := c1.size
  refine ⟨_, _, rfl, ⟨Blk.new' (by simp) _ _, ⟨by simp, ?_, ?_, ?_⟩, by simp⟩, by omega, hs, (c1.alloc _).alloc _⟩
  · rw [List.toArray_replicate]
    exact (Blk.new _ _ _).alloc _
  · intro i v hv
    obtain ⟨hi, rfl⟩ := List.getElem?_eq_some_iff.1 hv
    rw [gL_rep, List.getElem_replicate]
    exact OwI.nil _ _
  · intro i j v u k _ hv _ hk
    obtain ⟨hi, rfl⟩ := List.getElem?_eq_some_iff.1 hv
    rw [List.getElem_replicate] at hk
    cases hk
theorem sideC (b : Bool) (w : World) : Calls Try.prog 47 #[.bool b] w fun e w' => e = .returned (.int .i64 (if b then 1 else 0)) ∧ w' = w := by
  cases b
  · go_enter Try.func47, Try.ntmps47
    go_wp2
    go_ret
    exact ⟨rfl, rfl⟩
  · go_enter Try.func47, Try.ntmps47
    go_wp2
    go_ret
    exact ⟨rfl, rfl⟩
def okC (k : Int) : Bool := decide (0 ≤ k) && decide (k < 16)
theorem centHasNil (k : Int) (w : World) : Calls Try.prog 46 #[.pointer none, .int .i64 k] w fun e w' => e = .returned (.bool false) ∧ w' = w := by
  go_enter Try.func46, Try.ntmps46
  go_wp2
  go_ret
  exact ⟨rfl, rfl⟩
theorem centHas (c g : Nat) (vs : List Value) (Ls : List (List Int)) (k : Int) (w : World) (h : CentAt w c g vs Ls) : Calls Try.prog 46 #[.pointer (some ⟨c, 0, none⟩), .int .i64 k] w fun e w' => e = .returned (.bool (okC k)) ∧ w' = w := by
  have c0 := h.top.cell 0
  unfold okC
  by_cases h0 : 0 ≤ k
  · have e0 : decide (0 ≤ k) = true := decide_eq_true h0
    by_cases h1 : k < 16
    · have e1 : decide (k < 16) = true := decide_eq_true h1
      go_enter Try.func46, Try.ntmps46
      go_wp2
      go_ret
      exact ⟨by simp [h0, h1], rfl⟩
    · have e1 : decide (k < 16) = false := decide_eq_false h1
      go_enter Try.func46, Try.ntmps46
      go_wp2
      go_ret
      exact ⟨by simp [h1], rfl⟩
  · have e0 : decide (0 ≤ k) = false := decide_eq_false h0
    go_enter Try.func46, Try.ntmps46
    go_wp2
    go_ret
    exact ⟨by simp [h0], rfl⟩
theorem lastEmpty (g i : Nat) (a : Option Addr) (cap : Nat) (w : World) (hc : w.cell? ⟨g, i, none⟩ = some (.slice a 0 cap)) :
    Calls Try.prog 48 #[.pointer (some ⟨g, i, none⟩)] w fun e w' => e = .returned (.tuple #[.int .i64 0, .bool false]) ∧ w' = w := by
  go_enter Try.func48, Try.ntmps48
  go_wp2
  go_ret2
  exact ⟨rfl, rfl⟩
theorem OwI.front {w : World} {B : Nat} {a : Option Addr} {c m : Nat} {p : List Int} {x : Int} {n : Nat} (h : OwI w B (.slice a m c) (p ++ [x])) (hn : p.length = n) : OwI w B (.slice a n c) p := by
  subst hn
  obtain ⟨⟨h1, h2⟩, h3⟩ := h
  refine ⟨⟨by simp, ?_⟩, fun k hk => h3 k (by cases a with
    | none => simp [Value.ownBlock] at hk
    | some y => simpa [Value.ownBlock] using hk)⟩
  rcases h2 with ⟨_, h2⟩ | ⟨g, off, cap, cur, he, hb, hle, hm, hsz, hj⟩
  · simp at h2
  · simp only [Value.slice.injEq] at he
    obtain ⟨rfl, he2, rfl⟩ := he
    refine .inr ⟨g, off, c, cur, rfl, hb, by simp at hle; omega, hm, hsz, fun j u hu => hj j u ?_⟩
    have hjl := (List.getElem?_eq_some_iff.1 hu).1
    rw [List.map_append, List.getElem?_append_left hjl]
    exact hu
theorem lastSome (g i : Nat) (B : Nat) (a : Option Addr) (cap n : Nat) (p : List Int) (x : Int) (w : World) (hc : w.cell? ⟨g, i, none⟩ = some (.slice a (n + 1) cap)) (hf : w.frozen? ⟨g, i, none⟩ = false) (hn : p.length = n) (h : OwI w B (.slice a (n + 1) cap) (p ++ [x])) :
    Calls Try.prog 48 #[.pointer (some ⟨g, i, none⟩)] w fun e w' => e = .returned (.tuple #[.int .i64 x, .bool true]) ∧ w' = w.setCell ⟨g, i, none⟩ (.slice a n cap) := by
  obtain ⟨a', c', he, z1, z2, hrd⟩ := h.form
  simp only [Value.slice.injEq] at he
  obtain ⟨rfl, he2, rfl⟩ := he
  clear he2
  obtain ⟨ba, oa, rfl, hcell⟩ := hrd.at (i := n) (by simp [hn])
  have d := hcell n (by simp [hn])
  rw [show gI (p ++ [x]) n = x by rw [← hn]; exact gI_app p [] x] at d
  have hncap : n + 1 ≤ cap := by simp [hn] at z1; exact z1
  unfold maxLen at z2
  have e1 : ((n + 1 : Nat) : Int) - 1 = (n : Int) := by omega
  have e1' : (n : Int) + 1 - 1 = (n : Int) := by omega
  have e2 : (0 : Int) ≤ n := by omega
  have e3 : (n : Int) < (n : Int) + 1 := by omega
  have e4 : (n : Int) ≤ cap := by omega
  have e5 : (((n + 1 : Nat) : Int) == 0) = false := by rw [beq_eq_false_iff_ne]; omega
  have e6 : ((n : Int) + 1 == 0) = false := by rw [beq_eq_false_iff_ne]; omega
  clear hcell hrd z1 h hn
  go_enter Try.func48, Try.ntmps48
  go_wp2_with fail
  go_ret2
  exact ⟨rfl, rfl⟩
end Go.Proofs.Ytaafdhohiekakaa
