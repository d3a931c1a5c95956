/-
  The document's answer for layer 27: Drop, NewSched. Conditions: none beyond what each theorem names.
-/
import Derived.Test.YteghenfdncgpeaaRefSch5
import Derived.Test.YteghenfdncgpeaaSch4
namespace Go.Proofs.Yteghenfdncgpeaa
open Go.RowKit
theorem nodup_set {l : List Nat} (h : l.Nodup) {b : Nat} (hb : b ∉ l) (i : Nat) : (l.set i b).Nodup := by
  induction l generalizing i with
  | nil => simp
  | cons a l ih =>
    rw [List.nodup_cons] at h
    rw [List.mem_cons, not_or] at hb
    cases i with
    | zero =>
      rw [List.set_cons_zero, List.nodup_cons]
      exact ⟨hb.2, h.2⟩
    | succ i =>
      rw [List.set_cons_succ, List.nodup_cons]
      refine ⟨fun hm => ?_, ih h.2 hb.2 i⟩
      rcases List.mem_or_eq_of_mem_set hm with e | e
      · exact h.1 e
      · exact hb.1 e.symm
theorem PtS.put {w : World} {e : TypeId} {g off n c k : Nat} {ys : List Nat} (h : PtS w e (.slice (some ⟨g, off, none⟩) n c) ys) (hk : k < ys.length) (b : Nat) : PtS (w.setCell ⟨g, off + k, none⟩ (.pointer (some ⟨b, 0, none⟩))) e (.slice (some ⟨g, off, none⟩) n c) (ys.set k b) := by
  unfold PtS at h ⊢
  refine ⟨by simp, ?_⟩
  rcases h.2 with ⟨he, _⟩ | ⟨g', off', cap, cur, he, hg, h1, h2, h3, h4⟩
  · cases he
  · simp only [Value.slice.injEq, Option.some.injEq, Addr.mk.injEq, and_true] at he
    obtain ⟨⟨rfl, rfl⟩, rfl, rfl⟩ := he
    rw [List.length_set]
    refine .inr ⟨g, off, c, _, rfl, hg.set (off + k) _, h1, h2, by simpa using h3, fun j u hu => ?_⟩
    rw [Array.getElem?_setIfInBounds]
    rw [List.getElem?_map, List.getElem?_set] at hu
    by_cases hj : k = j
    · subst hj
      rw [if_pos rfl, if_pos (by omega)]
      simp [hk, ptrV] at hu
      rw [hu]
    · rw [if_neg hj] at hu
      rw [if_neg (by omega)]
      exact h4 j u (by rw [List.getElem?_map]; exact hu)
section
variable {w w1 w2 : World} {r i y : Nat} {vs v : Value} {Y S T U : List Nat} {st : SSt}
/-- A new ring in the place of one. -/
theorem RefAt.fresh {g o n c b : Nat} (h : RefAt w S r (.slice (some ⟨g, o, none⟩) n c) Y st) (hy : Y[i]? = some y) (hb : w.heap.size = b) {W : World} (hW : w.alloc (.cells #[.slice none 0 0, .slice none 0 0] 40) = W) (nx : Int) :
    RefAt (W.setCell ⟨g, o + i, none⟩ (.pointer (some ⟨b, 0, none⟩))) (S ++ [b]) r (.slice (some ⟨g, o, none⟩) n c) (Y.set i b) (st.setRing i nx false []) ∧ Ch [g] w (W.setCell ⟨g, o + i, none⟩ (.pointer (some ⟨b, 0, none⟩))) := by
  have hi := (List.getElem?_eq_some_iff.1 hy).1
  have ca : Ch [] w W := by rw [← hW]; exact (Ch.refl [] w).alloc _
  have bb : Blk W b #[.slice none 0 0, .slice none 0 0] 40 := by rw [← hW]; exact Blk.new' hb.symm _ _
  have h3 : RefAt W (S ++ [b]) r (.slice (some ⟨g, o, none⟩) n c) Y st := h.step ca (by simp) (fun k hk => by
    rcases List.mem_append.1 hk with hk | hk
    · exact .inl hk
    · simp at hk
      subst hk
      exact .inr ⟨by omega, bb.lt⟩) (fun k hk => List.mem_append.2 (.inl hk))
  have cs : Ch [g] W (W.setCell ⟨g, o + i, none⟩ (.pointer (some ⟨b, 0, none⟩))) := (Ch.refl [g] W).setCell (.inl (by simp)) _
  have hgS : g ∈ S := h.vS g rfl
  have hgb : g ≠ b := fun e => by have := h.hS g hgS; omega
  have hne : ∀ k cs t, Blk W k cs t → t ≠ 38 → k ∉ [g] := fun k cs t hk ht hm => by
    obtain ⟨cs', hb'⟩ := Own.blkAt h3.rs (k := g) rfl
    simp at hm
    exact hk.ne hb' ht hm
  have hT : ∀ k ∈ [g], k ∈ S ++ [b] ∨ W.heap.size ≤ k := fun k hk => by simp at hk; subst hk; exact .inl (List.mem_append.2 (.inl hgS))
  have hbY : b ∉ Y := fun hm => by have := h.hS b (h.yS b hm); omega
  obtain ⟨a, c2, ht, hL⟩ := h3.top
  refine ⟨⟨⟨a, c2, ht.keep cs (hne _ _ _ ht (by decide)), hL.keep cs hT⟩, h3.rs.put hi b, fun j z hz => ?_, nodup_set h.nd hbY i, h3.rS, fun z hz => ?_, h3.vS, fun k hk => Nat.lt_of_lt_of_le (h3.hS k hk) cs.size⟩, (ca.mono (by simp)).trans cs⟩
  · show RG _ z (S ++ [b]) (nxL (updN st.nx i nx j) (updN st.hs i false j)) (updN st.row i [] j)
    rw [List.getElem?_set] at hz
    by_cases e : i = j
    · subst e
      rw [if_pos rfl, if_pos hi] at hz
      cases hz
      rw [updN_at, updN_at, updN_at]
      exact ⟨none, 0, none, 0, bb.keep cs (hne _ _ _ bb (by decide)), LsF.nil _ _, LsF.nil _ _⟩
    · rw [if_neg e] at hz
      rw [updN_ne _ _ (Ne.symm e), updN_ne _ _ (Ne.symm e), updN_ne _ _ (Ne.symm e)]
      obtain ⟨cz, hbz⟩ := (h3.ring j z hz).blk
      exact (h3.ring j z hz).keep cs (hne _ _ _ hbz (by decide)) hT
  · rcases List.mem_or_eq_of_mem_set hz with e | rfl
    · exact h3.yS z e
    · simp
theorem refDropNo (j : Int) (h : RefAt w S r vs Y st) (hj : hasP Y.length j = false) :
    Calls Try.prog 54 #[.pointer (some ⟨r, 0, none⟩), .int .i64 j] w fun e w' => e = .returned (.int .i64 0) ∧ w' = w := by
  obtain ⟨_, _, hb, _⟩ := h.top
  have c0 := hb.cell 0
  obtain ⟨a, cap, rfl, _⟩ := h.rs.form
  rcases hasP_cases Y.length j with ⟨_, h1 | ⟨h1, h2⟩⟩ | ⟨i, rfl, h1⟩
  · have t1 : decide (j < 0) = true := decide_eq_true h1
    clear h hb
    go_enter Try.func54, Try.ntmps54
    go_wp2_with fail
    go_ret
    exact ⟨rfl, rfl⟩
  · obtain ⟨n, hn⟩ : ∃ n, Y.length = n := ⟨_, rfl⟩
    rw [hn] at c0 h2
    have t1 : decide (j < 0) = false := decide_eq_false (by omega)
    have t1n : ¬ j < 0 := by omega
    have t2 : decide (j ≥ (n : Int)) = true := decide_eq_true (by omega)
    clear h hb hn hj
    go_enter Try.func54, Try.ntmps54
    go_wp2_with fail
    go_ret
    exact ⟨rfl, rfl⟩
  · rw [show hasP Y.length (i : Int) = true from decide_eq_true (by omega)] at hj
    cases hj
/-- What Drop leaves: a new ring stands in the place of the old one. -/
def RefD (w : World) (S : List Nat) (r : Nat) (vs : Value) (Y : List Nat) (st : SSt) (w' : World) : Prop := ∃ b Y', RefAt w' (S ++ [b]) r vs Y' st ∧ Y'.length = Y.length ∧ Ch (ownR r vs Y) w w' ∧ w.heap.size ≤ b ∧ ∀ y ∈ Y', y ∈ Y ∨ y = b
theorem refDrop (h : RefAt w S r vs Y st) (hy : Y[i]? = some y) (hl : (st.row i).length ≤ 256) (hc : st.com.length ≤ 90000) :
    Calls Try.prog 54 #[.pointer (some ⟨r, 0, none⟩), .int .i64 i] w fun e w' => e = .returned (.int .i64 (allS st i).length) ∧ RefD w S r vs Y (dropS st i) w' := by
  have hi := (List.getElem?_eq_some_iff.1 hy).1
  have hA := allRefS h hy hl
  have hle := allS_len st i
  obtain ⟨gg, oo, cap, rfl, hcap, hfd⟩ := h.cells hy
  obtain ⟨n, hn⟩ : ∃ n, Y.length = n := ⟨_, rfl⟩
  have HN := Lib.hid hn
  rw [hn] at h hi hfd ⊢
  obtain ⟨q0, q1⟩ := hfd w S st h
  obtain ⟨L, hL⟩ : ∃ L, allS st i = L := ⟨_, rfl⟩
  rw [hL] at hA hle ⊢
  have HL := Lib.hid hL
  have HFD := Lib.hid hfd
  have t0 : decide ((i : Int) < 0) = false := decide_eq_false (by omega)
  have t1 : (i : Int) < n := by omega
  have t2 : (0 : Int) ≤ i := by omega
  have t3 : decide ((i : Int) ≥ (n : Int)) = false := decide_eq_false (by omega)
  have t4 : ¬ (i : Int) < 0 := by omega
  have t5 : ¬ (n : Int) ≤ i := by omega
  clear hn hcap hfd hL
  go_enter Try.func54, Try.ntmps54
  go_wp2_with fail
  refine hA.mono ?_; rintro e w2 ⟨v2, rfl, o2, c2⟩
  have h2 := h.still c2
  obtain ⟨p0, p1⟩ := HFD.out w2 S st h2
  obtain ⟨a2, cap2, rfl, _, _, _⟩ := o2.form
  obtain ⟨m, hm⟩ : ∃ m, L.length = m := ⟨_, rfl⟩
  rw [hm] at o2 hle ⊢
  obtain ⟨b, hb⟩ : ∃ b, w2.heap.size = b := ⟨_, rfl⟩
  obtain ⟨W3, hW3⟩ : ∃ W3, w2.alloc (.cells #[.slice none 0 0, .slice none 0 0] 40) = W3 := ⟨_, rfl⟩
  have ca : Ch [] w2 W3 := by rw [← hW3]; exact (Ch.refl [] w2).alloc _
  obtain ⟨p2, p3⟩ := HFD.out W3 S st (h2.still ca)
  obtain ⟨cg, hbg⟩ := Own.blkAt (h2.still ca).rs (k := gg) rfl
  have p4 := hbg.frozen (oo + i)
  obtain ⟨h4, c4⟩ := h2.fresh hy hb hW3 (st.nx i)
  have HM := Lib.hid hm
  have hB : w.heap.size ≤ b := by have := c2.size; omega
  have cc4 : Ch (ownR r (.slice (some ⟨gg, oo, none⟩) n cap) Y) w (W3.setCell ⟨gg, oo + i, none⟩ (.pointer (some ⟨b, 0, none⟩))) := (c2.mono (by simp)).trans (c4.mono (fun k hk => by
    simp at hk
    subst hk
    exact .inl (mem_ownR.2 (.inr (.inr rfl)))))
  have hres : ResL (W3.setCell ⟨gg, oo + i, none⟩ (.pointer (some ⟨b, 0, none⟩))) (S ++ [b]) (.slice a2 m cap2) L := by
    obtain ⟨a3, c3, e3, hL3⟩ := o2.lsF (S := S) h.hS
    rw [hm] at e3
    cases e3
    exact ⟨_, _, by rw [hm], hL3.step c4 (fun k hk => by simp at hk; subst hk; exact .inl (h2.vS k rfl)) (fun k hk => by
      rcases List.mem_append.1 hk with hk | hk
      · exact .inl hk
      · simp at hk; subst hk; exact .inr (by omega))⟩
  have hG := refGlobal h4 hres (by show st.com.length + _ ≤ _; rw [hm]; omega)
  have hY : ∀ z ∈ Y.set i b, z ∈ Y ∨ z = b := fun z hz => List.mem_or_eq_of_mem_set hz
  have hYl : (Y.set i b).length = n := by rw [List.length_set]; exact HN.out
  have HY := Lib.hid hY
  clear hA q0 q1 hbg hm ca c4 h4 hres h2 o2 c2 hY
  go_wp2_with (first | rw [hb] | rw [hW3])
  refine hG.mono ?_; rintro e w5 ⟨rfl, h5, c5⟩
  have hfin : RefD w S r (.slice (some ⟨gg, oo, none⟩) n cap) Y (dropS st i) w5 := ⟨b, Y.set i b, by unfold dropS; rw [HL.out]; exact h5, by rw [List.length_set], (cc4.transT c5 (fun k hk => by
    rcases mem_ownR.1 hk with rfl | hk | hk
    · exact .inl (mem_ownR.2 (.inl rfl))
    · rcases HY.out k hk with hk | rfl
      · exact .inl (mem_ownR.2 (.inr (.inl hk)))
      · exact .inr hB
    · exact .inl (mem_ownR.2 (.inr (.inr hk))))), hB, HY.out⟩
  clear hG h5 c5 cc4 h
  go_wp2_with fail
  go_ret
  exact ⟨by rw [HM.out]; rfl, hfin⟩
end
theorem Try.infoRRP : (Try.prog.info? 38).map (fun i => (i.zero, i.size, i.bytes)) = some (some (.pointer none), 1, 8) := by kernel_rfl
theorem srcRR (w : World) (b : Nat) : Src Try.prog 1 77 (.slice (some ⟨w.heap.size, 0, none⟩) 1 1) 1 [ptrV b] (w.alloc (.cells #[ptrV b] 38)) :=
  Src_lit Try.underlying77 w [_] 1 1 rfl _ (mem_one rfl)
theorem wpList_appRR {w : World} {ops : Array Oper} {rest : List Oper} {o : Oper} {a : Act} {Q : Exit → Act → World → Prop} (hgd : Region.wanted o (yielded ops a.tmps) = true) (s x : Operand)
    (ho : o.op = .call { callee := .builtin .append, args := #[s, x], argTypes := #[77, 77] })
    (v : Value) (ns : List Nat) (hs : a.eval s = v) (hv : PtS w 38 v ns) (b : Nat) (xv : Value) (hx : a.eval x = xv) (hsrc : Src Try.prog 1 77 xv 1 [ptrV b] w) (hl : ns.length ≤ 100000)
    (h : ∀ v' w', PtS w' 38 v' (ns ++ [b]) → Ch v.ownBlock.toList w w' → (v'.ownBlock = v.ownBlock ∨ ∀ k, v'.ownBlock = some k → w.heap.size ≤ k) → wpList Try.prog ops Q rest (a.put o.dst v') w') :
    wpList Try.prog ops Q (o :: rest) a w := by
  obtain ⟨i0, hi0, hz0, hz1, hz2⟩ := info_parts Try.infoRRP
  refine wpList_append_OwnG hgd s x _ _ ho 38 i0 (.pointer none) 1 8 Try.underlying77 hi0 hz0 hz1 hz2 rfl v ns.length _ hs hv xv 1 [ptrV b] hx hsrc (by unfold maxLen; omega) (by omega) (fun v' w' h1 h2 h3 => h v' w' ?_ h2 h3)
  unfold PtS
  rw [List.length_append, List.map_append]
  exact h1
/-- What NewSched leaves. -/
def NewRef (w : World) (n : Nat) (e : Ending) (w' : World) : Prop := ∃ r S vs Y, e = .returned (.pointer (some ⟨r, 0, none⟩)) ∧ RefAt w' S r vs Y initS ∧ Y.length = n ∧ Ch [] w w' ∧ ∀ k ∈ S, w.heap.size ≤ k
theorem RefAt.push {W4 w6 : World} {r x : Nat} {vs v : Value} {Y S : List Nat} (h4 : RefAt W4 S r vs Y initS) (b4 : Blk W4 x #[.slice none 0 0, .slice none 0 0] 40) (hx : x ∉ Y) (hxS : x ∈ S) (hv6 : PtS w6 38 v (Y ++ [x])) (c6 : Ch vs.ownBlock.toList W4 w6) (n6 : v.ownBlock = vs.ownBlock ∨ ∀ k, v.ownBlock = some k → W4.heap.size ≤ k) :
    RefAt (w6.setCell ⟨r, 0, none⟩ v) (S ++ v.ownBlock.toList) r v (Y ++ [x]) initS ∧ Ch (r :: vs.ownBlock.toList) W4 (w6.setCell ⟨r, 0, none⟩ v) := by
  have hne : ∀ k cs t, Blk W4 k cs t → t ≠ 38 → k ∉ vs.ownBlock.toList := fun k cs t hk ht hm => by
    obtain ⟨cs', hb⟩ := Own.blkAt h4.rs (k := k) (by simpa using hm)
    exact hk.ne hb ht rfl
  obtain ⟨a, c, hb4, hL4⟩ := h4.top
  have r1 := hb4.keep c6 (hne _ _ _ hb4 (by decide))
  have cs : Ch [r] w6 (w6.setCell ⟨r, 0, none⟩ v) := (Ch.refl [r] w6).setCell (.inl (by simp)) _
  have hns : ∀ k cs t, Blk w6 k cs t → t ≠ 79 → k ∉ [r] := fun k cs t hk ht hm => by
    simp at hm
    exact hk.ne r1 ht hm
  have hT : ∀ k ∈ vs.ownBlock.toList, k ∈ S ∨ W4.heap.size ≤ k := fun k hk => .inl (h4.vS k (by simpa using hk))
  have hU : ∀ k ∈ S ++ v.ownBlock.toList, k ∈ S ∨ W4.heap.size ≤ k := fun k hk => by
    rcases List.mem_append.1 hk with hk | hk
    · exact .inl hk
    · have hk : v.ownBlock = some k := by simpa using hk
      rcases n6 with e | e
      · exact .inl (h4.vS k (by rw [← e]; exact hk))
      · exact .inr (e k hk)
  have hT2 : ∀ k ∈ [r], k ∈ S ++ v.ownBlock.toList ∨ w6.heap.size ≤ k := fun k hk => by simp at hk; subst hk; exact .inl (List.mem_append.2 (.inl h4.rS))
  have ring7 : ∀ y, RG W4 y S [] [] → RG (w6.setCell ⟨r, 0, none⟩ v) y (S ++ v.ownBlock.toList) [] [] := fun y hy => by
    obtain ⟨cb, hb⟩ := hy.blk
    have h6 := hy.step c6 (hne _ _ _ hb (by decide)) hT hU
    obtain ⟨cb6, hb6⟩ := h6.blk
    exact h6.keep cs (hns _ _ _ hb6 (by decide)) hT2
  refine ⟨⟨⟨a, c, r1.set 0 _, (hL4.step c6 hT hU).keep cs hT2⟩, hv6.keep cs (fun y hy he => ?_), fun j y hy => ?_, ?_, List.mem_append.2 (.inl h4.rS), fun y hy => ?_, fun k hk => List.mem_append.2 (.inr (by simpa using hk)), fun k hk => ?_⟩, (c6.mono (fun k hk => .inl (List.mem_cons_of_mem _ hk))).trans (cs.mono (fun k hk => .inl (by simp at hk; simp [hk])))⟩
  · obtain ⟨cb, hb⟩ := Own.blkAt hv6 he
    exact hns y _ _ hb (by decide) hy
  · rcases getPush hy with hy | ⟨rfl, rfl⟩
    · exact ring7 y (h4.ring j y hy)
    · exact ring7 y ⟨none, 0, none, 0, b4, LsF.nil _ _, LsF.nil _ _⟩
  · rw [List.nodup_append]
    exact ⟨h4.nd, by simp, fun a ha b hb e => by simp at hb; subst hb; subst e; exact hx ha⟩
  · rcases List.mem_append.1 hy with hy | hy
    · exact List.mem_append.2 (.inl (h4.yS y hy))
    · simp at hy
      subst hy
      exact List.mem_append.2 (.inl hxS)
  · rcases List.mem_append.1 hk with hk | hk
    · exact Nat.lt_of_lt_of_le (h4.hS k hk) (Nat.le_trans c6.size cs.size)
    · exact Nat.lt_of_lt_of_le (Own.lt hv6 k (by simpa using hk)) cs.size
theorem refNew (w : World) (n : Nat) (h64 : n ≤ 64) : Calls Try.prog 50 #[.int .i64 n] w fun e w' => NewRef w n e w' := by
  obtain ⟨r, hr⟩ : ∃ r, w.heap.size = r := ⟨_, rfl⟩
  have HR := Lib.hid hr
  obtain ⟨W1, hW1⟩ : ∃ W1, w.alloc (.cells #[.slice none 0 0, .slice none 0 0] 79) = W1 := ⟨_, rfl⟩
  have ca : Ch [] w W1 := by rw [← hW1]; exact (Ch.refl [] w).alloc _
  have b1 : Blk W1 r #[.slice none 0 0, .slice none 0 0] 79 := by rw [← hW1]; exact Blk.new' hr.symm _ _
  have hs1 : RefAt W1 [r] r (.slice none 0 0) [] initS := ⟨⟨none, 0, b1, LsF.nil _ _⟩, Own.nil _ _ _, fun i x hx => by simp at hx, List.nodup_nil, by simp, by simp, fun k hk => by simp [Value.ownBlock] at hk, fun k hk => by simp at hk; subst hk; exact b1.lt⟩
  go_enter Try.func50, Try.ntmps50
  clear b1
  go_wp2_with (first | rw [hr] | rw [hW1])
  clear hW1 hr
  go_loopw [4] (fun s4 wr => ∃ k : Nat, s4 = .int .i64 k ∧ k ≤ n ∧ ∃ S vs Y, RefAt wr S r vs Y initS ∧ Y.length = k ∧ Ch [] w wr ∧ ∀ y ∈ S, r ≤ y) (fun s4 _ => n - (intOf s4).toNat)
  case atStart => exact ⟨0, rfl, by omega, _, _, _, hs1, rfl, ca, by simp⟩
  case round =>
    clear hs1 ca
    obtain ⟨k, rfl, hk, S, vs, Y, h, hY, hc, hSr⟩ := hrel
    by_cases hlt : k < n
    · have u1 : decide ((k : Int) < n) = true := decide_eq_true (by omega)
      obtain ⟨x, hx⟩ : ∃ x, wr.heap.size = x := ⟨_, rfl⟩
      obtain ⟨W2, hW2⟩ : ∃ W2, wr.alloc (.cells #[.slice none 0 0, .slice none 0 0] 40) = W2 := ⟨_, rfl⟩
      have c2 : Ch [] wr W2 := by rw [← hW2]; exact (Ch.refl [] wr).alloc _
      have b2 : Blk W2 x #[.slice none 0 0, .slice none 0 0] 40 := by rw [← hW2]; exact Blk.new' hx.symm _ _
      obtain ⟨W4, hW4⟩ : ∃ W4, W2.alloc (.cells #[ptrV x] 38) = W4 := ⟨_, rfl⟩
      have c4 : Ch [] W2 W4 := by rw [← hW4]; exact (Ch.refl [] W2).alloc _
      have b4 := b2.keep c4 (by simp)
      have sP := srcRR W2 x
      rw [hW4] at sP
      have cc := c2.trans c4
      have hxS : x ∉ S := fun hm => by have := h.hS x hm; omega
      have hxY : x ∉ Y := fun hm => hxS (h.yS x hm)
      have h4 : RefAt W4 (S ++ [x]) r vs Y initS := h.step cc (by simp) (fun k hk => by
        rcases List.mem_append.1 hk with hk | hk
        · exact .inl hk
        · simp at hk
          subst hk
          exact .inr ⟨by omega, b4.lt⟩) (fun k hk => List.mem_append.2 (.inl hk))
      obtain ⟨aq, cq, hq, _⟩ := h4.top
      have q0 := hq.cell 0
      obtain ⟨aq0, cq0, hq0, _⟩ := h.top
      have q00 := hq0.cell 0
      have hrx : r ≤ x := by have := hc.size; have := HR.out; omega
      obtain ⟨av, capv, rfl, _⟩ := h.rs.form
      rw [hY] at h4 q0 q00
      have h4rs := h4.rs
      unfold ptrV at hW4
      clear hq0 b2
      go_wp2_with (first | rw [hx] | rw [hW2] | rw [hW4] | (at_builtin; refine wpList_appRR rfl (.tmp 16) (.tmp 19) rfl _ Y rfl h4rs x _ rfl sP (by omega) ?_))
      intro v6 w6 hv6 c6 n6
      obtain ⟨h7, c7⟩ := h4.push b4 hxY (by simp) hv6 c6 n6
      obtain ⟨a6, cap6, rfl, _⟩ := hv6.form
      have r1 := hq.keep c6 (fun hm => by
        obtain ⟨cs', hb⟩ := Own.blkAt h4.rs (k := r) (by simpa using hm)
        exact hq.ne hb (by decide) rfl)
      have p2 := r1.cell 0
      have q2 := r1.frozen 0
      have hXl : (Y ++ [x]).length = k + 1 := by rw [List.length_append, hY]; rfl
      rw [hXl] at h7 c7 n6 ⊢
      rw [hY] at p2
      have hfin := h7
      have hlow : ∀ y, (Value.slice av k capv).ownBlock = some y → r ≤ y := fun y hy => hSr y (h.vS y (by rw [hY]; exact hy))
      have hcc : Ch [] w (w6.setCell ⟨r, 0, none⟩ (.slice a6 (k + 1) cap6)) := (hc.trans cc).transT c7 (fun y hy => .inr (by
        have := HR.out
        rcases List.mem_cons.1 hy with rfl | hy
        · omega
        · have := hlow y (by simpa using hy); omega))
      have hSr2 : ∀ y ∈ (S ++ [x]) ++ (Value.slice a6 (k + 1) cap6).ownBlock.toList, r ≤ y := fun y hy => by
        rcases List.mem_append.1 hy with hy | hy
        · rcases List.mem_append.1 hy with hy | hy
          · exact hSr y hy
          · simp at hy; omega
        · have hy : (Value.slice a6 (k + 1) cap6).ownBlock = some y := by simpa using hy
          rcases n6 with e | e
          · exact hlow y (by rw [← e]; exact hy)
          · have := e y hy
            have := b4.lt
            omega
      clear h4 h4rs hq r1 hv6 c6 n6 h7 c7 h sP b4 cc c2 c4 hlow
      go_wp2_with fail
      go_roundw
      case rel => exact ⟨k + 1, by go_num, by omega, _, _, _, hfin, hXl, hcc, hSr2⟩
      case measure => simp [intOf]; omega
    · obtain rfl : k = n := by omega
      have u1 : decide ((k : Int) < k) = false := decide_eq_false (by omega)
      go_wp2_with fail
      go_ret
      exact ⟨r, S, vs, Y, rfl, h, hY, hc, fun y hy => by have := hSr y hy; have := HR.out; omega⟩
end Go.Proofs.Yteghenfdncgpeaa
