/-
  Contracts of package sched: Pick. Conditions: none beyond what each theorem names.
-/
import Derived.Test.YteghenfdncgpeaaSch7
namespace Go.Proofs.Yteghenfdncgpeaa
open Go.RowKit
def stealV (st : SSt) (p n : Nat) (vic : Int) : SSt := if hasP n vic = true ∧ vic ≠ p then stealS st p vic.toNat else st
def pickS (st : SSt) (p n : Nat) (tick vic : Int) : SSt :=
  if fairB st tick = true then st.setCom st.com.tail
  else if getB (st.hs p) (st.row p) = true then getSt st p
  else if st.com ≠ [] then partS st p n
  else getSt (stealV st p n vic) p
def pickV (st : SSt) (p n : Nat) (tick vic : Int) : Int :=
  if fairB st tick = true then gI st.com 0
  else if getB (st.hs p) (st.row p) = true then getV (st.nx p) (st.hs p) (st.row p)
  else if st.com ≠ [] then gI st.com 0
  else getV ((stealV st p n vic).nx p) ((stealV st p n vic).hs p) ((stealV st p n vic).row p)
def pickB (st : SSt) (p n : Nat) (tick vic : Int) : Bool :=
  if fairB st tick = true then true
  else if getB (st.hs p) (st.row p) = true then true
  else if st.com ≠ [] then true
  else getB ((stealV st p n vic).hs p) ((stealV st p n vic).row p)
section
variable {w w1 w2 : World} {s c i x bt bs br bv bp : Nat} {vs v v' : Value} {X S : List Nat} {st : SSt} {tick vic : Int}
theorem schPickNil (j tick vic : Int) (w : World) : Calls Try.prog 43 #[.pointer none, .int .i64 j, .int .i64 tick, .int .i64 vic] w fun e w' => e = .returned (.tuple #[.int .i64 0, .bool false]) ∧ Ch [] w w' := by
  go_enter Try.func43, Try.ntmps43
  go_wp2_with fail
  refine (schHasNil j _).mono ?_; rintro e w1 ⟨rfl, rfl⟩
  go_wp2_with fail
  go_ret2
  exact ⟨rfl, ((((Ch.refl [] w).alloc _).alloc _).alloc _).alloc _⟩
theorem schPickNo (j tick vic : Int) (h : SchedAt w s c vs v X st) (hj : hasP X.length j = false) : Calls Try.prog 43 #[.pointer (some ⟨s, 0, none⟩), .int .i64 j, .int .i64 tick, .int .i64 vic] w fun e w' => e = .returned (.tuple #[.int .i64 0, .bool false]) ∧ Ch [] w w' := by
  go_enter Try.func43, Try.ntmps43
  go_wp2_with fail
  obtain ⟨W, hW⟩ : ∃ W, (((w.alloc (.cells #[.pointer (some ⟨s, 0, none⟩)] 61)).alloc (.cells #[.int .i64 j] 3)).alloc (.cells #[.int .i64 tick] 3)).alloc (.cells #[.int .i64 vic] 3) = W := ⟨_, rfl⟩
  have cW : Ch [] w W := by rw [← hW]; exact ((((Ch.refl [] w).alloc _).alloc _).alloc _).alloc _
  rw [hW]
  have hh := schHas j (h.ch cW)
  rw [hj] at hh
  refine hh.mono ?_; rintro e w1 ⟨rfl, rfl⟩
  clear hh h hW
  go_wp2_with fail
  go_ret2
  exact ⟨rfl, cW⟩
set_option maxHeartbeats 2000000 in
theorem schPick (tick vic : Int) (h : SchedAt w s c vs v X st) (hx : X[i]? = some x) (hl : st.com.length ≤ 80000) :
    Calls Try.prog 43 #[.pointer (some ⟨s, 0, none⟩), .int .i64 i, .int .i64 tick, .int .i64 vic] w fun e w' => e = .returned (.tuple #[.int .i64 (pickV st i X.length tick vic), .bool (pickB st i X.length tick vic)]) ∧ SchT w s c vs v X (pickS st i X.length tick vic) w' := by
  have hi := (List.getElem?_eq_some_iff.1 hx).1
  obtain ⟨bs, hbs⟩ : ∃ bs, w.heap.size = bs := ⟨_, rfl⟩
  have HBS := Lib.hid hbs
  have hlt := h.lt
  obtain ⟨gg, oo, cap, rfl, hcap, _, hfd⟩ := h.found hx
  obtain ⟨n, hn⟩ : ∃ n, X.length = n := ⟨_, rfl⟩
  have HN := Lib.hid hn
  rw [hn] at h hi hfd hlt ⊢
  have t1 : (i : Int) < n := by omega
  have t2 : (0 : Int) ≤ i := by omega
  clear hcap hn
  go_enter Try.func43, Try.ntmps43
  go_wp2_with fail
  obtain ⟨W, hW⟩ : ∃ W, (((w.alloc (.cells #[.pointer (some ⟨s, 0, none⟩)] 61)).alloc (.cells #[.int .i64 i] 3)).alloc (.cells #[.int .i64 tick] 3)).alloc (.cells #[.int .i64 vic] 3) = W := ⟨_, rfl⟩
  have cW : Ch [] w W := by rw [← hW]; exact ((((Ch.refl [] w).alloc _).alloc _).alloc _).alloc _
  obtain ⟨bp, hbp⟩ : ∃ bp, bs + 1 = bp := ⟨_, rfl⟩
  obtain ⟨bt, hbt⟩ : ∃ bt, bp + 1 = bt := ⟨_, rfl⟩
  obtain ⟨bv, hbv⟩ : ∃ bv, bt + 1 = bv := ⟨_, rfl⟩
  have B0 : Blk W bs #[.pointer (some ⟨s, 0, none⟩)] 61 := by rw [← hW]; repeat (first | exact Blk.new' (by first | omega | (simp; omega) | (simp <;> omega)) _ _ | refine Blk.alloc ?_ _)
  have B1 : Blk W bp #[.int .i64 i] 3 := by rw [← hW]; repeat (first | exact Blk.new' (by first | omega | (simp; omega) | (simp <;> omega)) _ _ | refine Blk.alloc ?_ _)
  have B2 : Blk W bt #[.int .i64 tick] 3 := by rw [← hW]; repeat (first | exact Blk.new' (by first | omega | (simp; omega) | (simp <;> omega)) _ _ | refine Blk.alloc ?_ _)
  have B3 : Blk W bv #[.int .i64 vic] 3 := by rw [← hW]; repeat (first | exact Blk.new' (by first | omega | (simp; omega) | (simp <;> omega)) _ _ | refine Blk.alloc ?_ _)
  have hlo : ∀ k ∈ blksS s c (.slice (some ⟨gg, oo, none⟩) n cap) v X, k < bp ∧ k < bt ∧ k < bv := fun k hk => by have := hlt k hk; omega
  rw [hW]
  try rw [hbs]
  rw [hbp, hbt, hbv]
  have hW1 := h.ch cW
  have hh := schHas i hW1
  rw [show hasP X.length i = true from decide_eq_true (by have := HN.out; omega)] at hh
  refine hh.mono ?_; rintro e w1 ⟨rfl, rfl⟩
  clear hh hW hbs hbp hbt hbv hlt
  have b0 := B0.cell 0
  have b1 := B1.cell 0
  go_upto_region 3 with fail
  have hd := hW1.ch ((Ch.refl [] w1).drewN 1)
  obtain ⟨W9, hW9⟩ : ∃ W9, w1.drewN 1 = W9 := ⟨_, rfl⟩
  have cd : Ch [] w1 W9 := by rw [← hW9]; exact (Ch.refl [] w1).drewN 1
  rw [hW9] at hd
  have B0' := B0.keep cd (by simp)
  have B1' := B1.keep cd (by simp)
  have B2' := B2.keep cd (by simp)
  have B3' := B3.keep cd (by simp)
  obtain ⟨L, hL⟩ : ∃ L : World → Prop, ∀ w', L w' ↔ (w'.cell? ⟨bs, 0, none⟩ = some (.pointer (some ⟨s, 0, none⟩)) ∧ w'.cell? ⟨bp, 0, none⟩ = some (.int .i64 i) ∧ w'.cell? ⟨s, 0, none⟩ = some (.slice (some ⟨gg, oo, none⟩) n cap) ∧ w'.cell? ⟨gg, oo + i, none⟩ = some (.pointer (some ⟨x, 0, none⟩))) := ⟨_, fun _ => Iff.rfl⟩
  have hS1 : ∀ y : { w' : World // L w' }, y.1.cell? ⟨bs, 0, none⟩ = some (.pointer (some ⟨s, 0, none⟩)) := fun y => ((hL _).1 y.2).1
  have hS2 : ∀ y : { w' : World // L w' }, y.1.cell? ⟨bp, 0, none⟩ = some (.int .i64 i) := fun y => ((hL _).1 y.2).2.1
  have hS3 : ∀ y : { w' : World // L w' }, y.1.cell? ⟨s, 0, none⟩ = some (.slice (some ⟨gg, oo, none⟩) n cap) := fun y => ((hL _).1 y.2).2.2.1
  have hS4 : ∀ y : { w' : World // L w' }, y.1.cell? ⟨gg, oo + i, none⟩ = some (.pointer (some ⟨x, 0, none⟩)) := fun y => ((hL _).1 y.2).2.2.2
  have hLk : ∀ w' v' st', SchedAt w' s c (.slice (some ⟨gg, oo, none⟩) n cap) v' X st' → Blk w' bs #[.pointer (some ⟨s, 0, none⟩)] 61 → Blk w' bp #[.int .i64 i] 3 → L w' := fun w' v' st' h1 h2 h3 => (hL _).2 ⟨h2.cell 0, h3.cell 0, (hfd w' v' st' h1).1, (hfd w' v' st' h1).2.2⟩
  have l9 := hLk _ _ _ hd B0' B1'
  have hSA : Nonempty { w' : World // L w' } := ⟨⟨_, l9⟩⟩
  have HLk := Lib.hid hLk
  clear hL hLk hW1 hfd b0 b1
  refine wp_region_plan (Cls L) (List.range 9) (.reads [0, 1, 2, 3, 4, 5, 6] (.only 7 (.only 8 .done))) (by kernel_rfl) (by kernel_rfl) (fun _ _ _ _ _ h => h) ?_
  simp only [Plan.pures, Plan.reads, Plan.only, List.foldr_cons, List.foldr_nil]
  rw [hW9]
  clear hW9
  iterate 7 (refine wpPlan_readS l9 (fun K hK => ?_); simp only [List.getD_cons_zero, List.getD_cons_succ]; go_simp; refine hK _ ?_; clear hK K)
  refine wpPlan_only (fun K hK => ?_)
  simp only [List.getD_cons_zero, List.getD_cons_succ]
  go_simp
  obtain ⟨br, hbr⟩ : ∃ br, W9.heap.size = br := ⟨_, rfl⟩
  have bn := Blk.new' hbr.symm #[.pointer none] 22
  have cn := (Ch.refl [] W9).alloc (.cells #[.pointer none] 22)
  rw [hbr]
  obtain ⟨W10, hW10⟩ : ∃ W10, W9.alloc (.cells #[.pointer none] 22) = W10 := ⟨_, rfl⟩
  rw [hW10] at bn cn ⊢
  clear hW10
  have l10 := HLk.out _ _ _ (hd.ch cn) (B0'.keep cn (by simp)) (B1'.keep cn (by simp))
  refine hK _ _ (fun _ => Cls.mk l10) ?_
  clear hK K
  have p0 := bn.cell 0
  have q0 := bn.frozen 0
  refine wpPlan_only (fun K hK => ?_)
  simp only [List.getD_cons_zero, List.getD_cons_succ]
  go_simp
  have cs : Ch [br] W10 (W10.setCell ⟨br, 0, none⟩ (.pointer (some ⟨x, 0, none⟩))) := (Ch.refl [br] W10).setCell (.inl (by simp)) _
  have c11 : Ch [] W9 (W10.setCell ⟨br, 0, none⟩ (.pointer (some ⟨x, 0, none⟩))) := cn.transT cs (fun k hk => by simp at hk; omega)
  have b11 := bn.set 0 (.pointer (some ⟨x, 0, none⟩))
  replace b11 : Blk (W10.setCell ⟨br, 0, none⟩ (.pointer (some ⟨x, 0, none⟩))) br #[.pointer (some ⟨x, 0, none⟩)] 22 := b11
  obtain ⟨W11, hW11⟩ : ∃ W11, W10.setCell ⟨br, 0, none⟩ (.pointer (some ⟨x, 0, none⟩)) = W11 := ⟨_, rfl⟩
  rw [hW11] at cs c11 b11 ⊢
  clear hW11 p0 q0
  have hd11 := hd.ch c11
  have E0 := B0'.keep c11 (by simp)
  have E1 := B1'.keep c11 (by simp)
  have E2 := B2'.keep c11 (by simp)
  have E3 := B3'.keep c11 (by simp)
  refine hK _ _ (fun _ => Cls.mk (HLk.out _ _ _ hd11 E0 E1)) ?_
  clear hK K
  refine wpPlan_done ?_
  have cc : Ch [] w W11 := (cW.trans cd).trans c11
  clear l9 l10 hS1 hS2 hS3 hS4 hSA HLk hd B0 B1 B2 B3 B0' B1' B2' B3' bn cn cs cW cd c11 h
  have e0 := b11.cell 0
  go_wp2_with fail
  obtain ⟨qf, hqf⟩ : ∃ qf, W11.heap.size = qf := ⟨_, rfl⟩
  have FN := Blk.new' hqf.symm #[.func (.func 66) #[] #[.pointer (some ⟨bt, 0, none⟩), .pointer (some ⟨bs, 0, none⟩)], .func (.func 19) #[.pointer (some ⟨x, 0, none⟩)] #[], .func (.func 67) #[] #[.pointer (some ⟨bs, 0, none⟩), .pointer (some ⟨br, 0, none⟩)], .func (.func 68) #[] #[.pointer (some ⟨bs, 0, none⟩), .pointer (some ⟨bv, 0, none⟩), .pointer (some ⟨bp, 0, none⟩), .pointer (some ⟨br, 0, none⟩)]] 29
  have cN := (Ch.refl [] W11).alloc (.cells #[.func (.func 66) #[] #[.pointer (some ⟨bt, 0, none⟩), .pointer (some ⟨bs, 0, none⟩)], .func (.func 19) #[.pointer (some ⟨x, 0, none⟩)] #[], .func (.func 67) #[] #[.pointer (some ⟨bs, 0, none⟩), .pointer (some ⟨br, 0, none⟩)], .func (.func 68) #[] #[.pointer (some ⟨bs, 0, none⟩), .pointer (some ⟨bv, 0, none⟩), .pointer (some ⟨bp, 0, none⟩), .pointer (some ⟨br, 0, none⟩)]] 29)
  rw [hqf]
  obtain ⟨W, hW⟩ : ∃ W, W11.alloc (.cells #[.func (.func 66) #[] #[.pointer (some ⟨bt, 0, none⟩), .pointer (some ⟨bs, 0, none⟩)], .func (.func 19) #[.pointer (some ⟨x, 0, none⟩)] #[], .func (.func 67) #[] #[.pointer (some ⟨bs, 0, none⟩), .pointer (some ⟨br, 0, none⟩)], .func (.func 68) #[] #[.pointer (some ⟨bs, 0, none⟩), .pointer (some ⟨bv, 0, none⟩), .pointer (some ⟨bp, 0, none⟩), .pointer (some ⟨br, 0, none⟩)]] 29) = W := ⟨_, rfl⟩
  rw [hW] at FN cN ⊢
  have hS := hd11.ch cN
  have G0 := E0.keep cN (by simp)
  have G1 := E1.keep cN (by simp)
  have G2 := E2.keep cN (by simp)
  have G3 := E3.keep cN (by simp)
  have GR := b11.keep cN (by simp)
  have cF := cc.trans cN
  clear hW hqf cN hd11 E0 E1 E2 E3 b11 cc e0
  obtain ⟨FC, hFC⟩ : ∃ FC : Array Value, #[.func (.func 66) #[] #[.pointer (some ⟨bt, 0, none⟩), .pointer (some ⟨bs, 0, none⟩)], .func (.func 19) #[.pointer (some ⟨x, 0, none⟩)] #[], .func (.func 67) #[] #[.pointer (some ⟨bs, 0, none⟩), .pointer (some ⟨br, 0, none⟩)], .func (.func 68) #[] #[.pointer (some ⟨bs, 0, none⟩), .pointer (some ⟨bv, 0, none⟩), .pointer (some ⟨bp, 0, none⟩), .pointer (some ⟨br, 0, none⟩)]] = FC := ⟨_, rfl⟩
  have HFC := Lib.hid hFC
  rw [hFC] at FN
  clear hFC
  go_loopw [15, 16, 17, 39] (fun s15 s16 s17 s39 wr => ∃ r : Nat, s39 = .int .i64 r ∧ r ≤ 4 ∧ Blk wr qf FC 29 ∧ (r ≤ 2 → wr = W) ∧ (1 ≤ r → fairB st tick = false) ∧ (2 ≤ r → getB (st.hs i) (st.row i) = false) ∧ (3 ≤ r → st.com = []) ∧ (r = 3 → PartNo W s c (.slice (some ⟨gg, oo, none⟩) n cap) X st wr) ∧ (r = 4 → SchT W s c (.slice (some ⟨gg, oo, none⟩) n cap) v X (getSt (stealV st i n vic) i) wr ∧ getB ((stealV st i n vic).hs i) ((stealV st i n vic).row i) = false)) (fun _ _ _ s39 _ => 4 - (intOf s39).toNat)
  case atStart => exact ⟨0, rfl, by omega, FN, fun _ => rfl, fun e => by omega, fun e => by omega, fun e => by omega, fun e => by omega, fun e => by omega⟩
  case round =>
    clear FN
    obtain ⟨r, rfl, hr4, FN, x2, f1, f2, f3, p3, p4⟩ := hrel
    by_cases hr0 : r = 0
    · subst hr0
      obtain rfl := x2 (by omega)
      have d9 := FN.cell 0
      rw [← HFC.out] at d9
      clear x2 f1 f2 f3 p3 p4 hr4
      cases hf : fairB st tick with
      | false =>
        have hC := fair_no hS (G2.cell 0) (G0.cell 0) hf
        go_wp2_with fail
        refine hC.mono ?_; rintro e w5 ⟨rfl, rfl⟩
        clear hC
        go_wp2_with fail
        go_roundw
        case rel => exact ⟨1, by go_num, by omega, FN, fun _ => by first | trivial | rfl, fun _ => by first | trivial | exact hf, fun e => by omega, fun e => by omega, fun e => by omega, fun e => by omega⟩
        case measure => simp [intOf]
      | true =>
        obtain ⟨y1, y2, y3⟩ := of_decide_eq_true hf
        obtain ⟨g, t, hgt⟩ : ∃ g t, st.com = g :: t := List.exists_cons_of_ne_nil y3
        have hC := fair_yes hS (G2.cell 0) (G0.cell 0) y1 y2 hgt (by omega)
        have e1 : pickV st i n tick vic = g := by unfold pickV; rw [if_pos hf, hgt]; rfl
        have e2 : pickB st i n tick vic = true := by unfold pickB; rw [if_pos hf]
        have e3 : pickS st i n tick vic = st.setCom t := by unfold pickS; rw [if_pos hf, hgt]; rfl
        have E1 := Lib.hid e1
        have E2 := Lib.hid e2
        have E3 := Lib.hid e3
        clear e1 e2 e3 y1 y2 y3 hgt hf
        go_wp2_with fail
        refine hC.mono ?_; rintro e w5 ⟨rfl, hT⟩
        have hfin := SchT.trans (v := v) (X := X) (cF.mono (by simp)) (.inl rfl) hT
        clear hC hT
        go_wp2_with fail
        go_ret2
        exact ⟨by rw [E1.out, E2.out]; rfl, by rw [E3.out]; exact hfin⟩
    · by_cases hr1 : r = 1
      · subst hr1
        obtain rfl := x2 (by omega)
        have hf := f1 (by omega)
        have d9 := FN.cell 1
        rw [← HFC.out] at d9
        clear x2 f1 f2 f3 p3 p4 hr4 hr0
        cases hb : getB (st.hs i) (st.row i) with
        | false =>
          have hz : st.hs i = false ∧ st.row i = [] := by
            unfold getB at hb
            simp only [Bool.or_eq_false_iff, Bool.not_eq_false', List.isEmpty_iff] at hb
            exact hb
          have hring := hS.ring i x hx
          rw [hz.1, hz.2] at hring
          have hC := ringGetEmpty x (st.nx i) wr hring
          clear hring hz
          go_wp2_with fail
          refine hC.mono ?_; rintro e w5 ⟨rfl, rfl⟩
          clear hC
          go_wp2_with fail
          go_roundw
          case rel => exact ⟨2, by go_num, by omega, FN, fun _ => by first | trivial | rfl, fun _ => by first | trivial | exact hf, fun _ => by first | trivial | exact hb, fun e => by omega, fun e => by omega, fun e => by omega⟩
          case measure => simp [intOf]
        | true =>
          have hC := getRing hS hx
          rw [hb] at hC
          have e1 : pickV st i n tick vic = getV (st.nx i) (st.hs i) (st.row i) := by unfold pickV; rw [if_neg (by rw [hf]; simp), if_pos hb]
          have e2 : pickB st i n tick vic = true := by unfold pickB; rw [if_neg (by rw [hf]; simp), if_pos hb]
          have e3 : pickS st i n tick vic = getSt st i := by unfold pickS; rw [if_neg (by rw [hf]; simp), if_pos hb]
          have E1 := Lib.hid e1
          have E2 := Lib.hid e2
          have E3 := Lib.hid e3
          obtain ⟨V, hV⟩ : ∃ V, getV (st.nx i) (st.hs i) (st.row i) = V := ⟨_, rfl⟩
          rw [hV] at hC
          have HV := Lib.hid hV
          clear e1 e2 e3 hf hb hV
          go_wp2_with fail
          refine hC.mono ?_; rintro e w5 ⟨rfl, h5, c5⟩
          have hfin := SchT.trans (v := v) (X := X) (cF.mono (by simp)) (.inl rfl) ⟨v, h5, turn_x hx c5, .inl rfl⟩
          clear hC h5 c5
          go_wp2_with fail
          go_ret2
          exact ⟨by rw [E1.out, E2.out, HV.out]; rfl, by rw [E3.out]; exact hfin⟩
      · by_cases hr2 : r = 2
        · subst hr2
          obtain rfl := x2 (by omega)
          have hf := f1 (by omega)
          have hb := f2 (by omega)
          have d9 := FN.cell 2
          rw [← HFC.out] at d9
          clear x2 f1 f2 f3 p3 p4 hr4 hr0 hr1
          by_cases hg : st.com = []
          · have hC := part_no hS G0 GR (by rw [HN.out]; omega) hg
            go_wp2_with fail
            refine hC.mono ?_; rintro e w5 ⟨rfl, hP⟩
            have FN5 : Blk w5 qf FC 29 := by
              obtain ⟨_, _, c5, _⟩ := hP
              exact FN.keep c5 (by simp; exact FN.ne hS.q.1 (by decide))
            clear hC
            go_wp2_with fail
            go_roundw
            case rel => exact ⟨3, by go_num, by omega, FN5, fun e => by omega, fun _ => by first | trivial | exact hf, fun _ => by first | trivial | exact hb, fun _ => by first | trivial | exact hg, fun _ => hP, fun e => by omega⟩
            case measure => simp [intOf]
          · have hC := part_yes hS G0 GR hx hg hl
            rw [HN.out] at hC
            have e1 : pickV st i n tick vic = gI st.com 0 := by unfold pickV; rw [if_neg (by rw [hf]; simp), if_neg (by rw [hb]; simp), if_pos hg]
            have e2 : pickB st i n tick vic = true := by unfold pickB; rw [if_neg (by rw [hf]; simp), if_neg (by rw [hb]; simp), if_pos hg]
            have e3 : pickS st i n tick vic = partS st i n := by unfold pickS; rw [if_neg (by rw [hf]; simp), if_neg (by rw [hb]; simp), if_pos hg]
            have E1 := Lib.hid e1
            have E2 := Lib.hid e2
            have E3 := Lib.hid e3
            obtain ⟨V, hV⟩ : ∃ V, gI st.com 0 = V := ⟨_, rfl⟩
            rw [hV] at hC
            have HV := Lib.hid hV
            clear e1 e2 e3 hf hb hV hg
            go_wp2_with fail
            refine hC.mono ?_; rintro e w5 ⟨rfl, hT⟩
            have hfin := SchT.trans (v := v) (X := X) (cF.mono (by simp)) (.inl rfl) hT
            clear hC hT
            go_wp2_with fail
            go_ret2
            exact ⟨by rw [E1.out, E2.out, HV.out]; rfl, by rw [E3.out]; exact hfin⟩
        · by_cases hr3 : r = 3
          · subst hr3
            have hf := f1 (by omega)
            have hb := f2 (by omega)
            have hg := f3 (by omega)
            obtain ⟨v2, hS2, c2, n2⟩ := p3 rfl
            have d9 := FN.cell 3
            rw [← HFC.out] at d9
            have G0' := G0.keep c2 (by simp; exact G0.ne hS.q.1 (by decide))
            have G1' := G1.keep c2 (by simp; exact G1.ne hS.q.1 (by decide))
            have G3' := G3.keep c2 (by simp; exact G3.ne hS.q.1 (by decide))
            have GR' := GR.keep c2 (by simp; exact GR.ne hS.q.1 (by decide))
            have cT2 : Ch (turnS c v X) W wr := c2.mono (fun k hk => .inl (mem_turnS.2 (.inl (by simpa using hk))))
            have hbv : bv ∉ turnS c v2 X := fun hm => by
              rcases mem_turnS.1 hm with e | e | e
              · have := (hlo c (mem_blksS.2 (.inr (.inl rfl)))).2.2; omega
              · have := (hlo bv (mem_blksS.2 (.inr (.inr (.inl e))))).2.2; omega
              · have := n2 bv e; have := G3.lt; omega
            obtain ⟨st2, hst2⟩ : ∃ st2, stealV st i n vic = st2 := ⟨_, rfl⟩
            have hC : Calls Try.prog 68 #[.pointer (some ⟨bs, 0, none⟩), .pointer (some ⟨bv, 0, none⟩), .pointer (some ⟨bp, 0, none⟩), .pointer (some ⟨br, 0, none⟩)] wr fun e w' => e = .returned (.tuple #[.int .i64 (getV (st2.nx i) (st2.hs i) (st2.row i)), .bool (getB (st2.hs i) (st2.row i))]) ∧ SchedAt w' s c (.slice (some ⟨gg, oo, none⟩) n cap) v2 X (getSt st2 i) ∧ Ch (turnS c v2 X) wr w' := by
              rw [← hst2]
              unfold stealV
              by_cases hh : hasP n vic = true ∧ vic ≠ i
              · rw [if_pos hh]
                obtain ⟨z1, z2⟩ := of_decide_eq_true hh.1
                obtain ⟨q, hq⟩ : ∃ q : Nat, vic = q := ⟨vic.toNat, by omega⟩
                subst hq
                rw [Int.toNat_natCast]
                exact steal_yes hS2 G0' GR' G3' hbv (G1'.cell 0) hx (by rw [HN.out]; omega) (by have := hh.2; omega)
              · rw [if_neg hh]
                refine steal_no hS2 G0' GR' (G3'.cell 0) (G1'.cell 0) hx ?_
                rw [HN.out]
                by_cases e : hasP n vic = true
                · right
                  by_cases e2 : vic = i
                  · exact e2
                  · exact absurd ⟨e, e2⟩ hh
                · left; simpa using e
            have e1 : pickV st i n tick vic = getV (st2.nx i) (st2.hs i) (st2.row i) := by unfold pickV; rw [if_neg (by rw [hf]; simp), if_neg (by rw [hb]; simp), if_neg (by simp [hg]), hst2]
            have e2 : pickB st i n tick vic = getB (st2.hs i) (st2.row i) := by unfold pickB; rw [if_neg (by rw [hf]; simp), if_neg (by rw [hb]; simp), if_neg (by simp [hg]), hst2]
            have e3 : pickS st i n tick vic = getSt st2 i := by unfold pickS; rw [if_neg (by rw [hf]; simp), if_neg (by rw [hb]; simp), if_neg (by simp [hg]), hst2]
            have E1 := Lib.hid e1
            have E2 := Lib.hid e2
            have E3 := Lib.hid e3
            have HS2 := Lib.hid hst2
            have kFN : ∀ w', Ch (turnS c v2 X) wr w' → Blk w' qf FC 29 := fun w' hc => box_keep hS2 FN (by decide) hc
            have HKF := Lib.hid kFN
            have HF := Lib.hid hf
            have HBB := Lib.hid hb
            have HG := Lib.hid hg
            obtain ⟨V, hV⟩ : ∃ V, getV (st2.nx i) (st2.hs i) (st2.row i) = V := ⟨_, rfl⟩
            obtain ⟨b, hbb⟩ : ∃ b, getB (st2.hs i) (st2.row i) = b := ⟨_, rfl⟩
            rw [hV, hbb] at hC
            have HV := Lib.hid hV
            have HVB := Lib.hid hbb
            clear x2 f1 f2 f3 p3 p4 hr4 hr0 hr1 hr2 e1 e2 e3 hf hb hg hV hbb hst2 hbv kFN G0' G1' G3' GR'
            cases b with
            | true =>
              go_wp2_with fail
              refine hC.mono ?_; rintro e w5 ⟨rfl, h5, c5⟩
              have hfin := SchT.trans (v := v) (X := X) (cF.mono (by simp)) (.inl rfl) (SchT.trans cT2 (.inr n2) ⟨v2, h5, c5, .inl rfl⟩)
              clear hC h5 c5
              go_wp2_with fail
              go_ret2
              exact ⟨by rw [E1.out, E2.out, HV.out, HVB.out]; rfl, by rw [E3.out]; exact hfin⟩
            | false =>
              go_wp2_with fail
              refine hC.mono ?_; rintro e w5 ⟨rfl, h5, c5⟩
              have hT4 : SchT W s c (.slice (some ⟨gg, oo, none⟩) n cap) v X (getSt st2 i) w5 := SchT.trans cT2 (.inr n2) ⟨v2, h5, c5, .inl rfl⟩
              have FN5 := HKF.out w5 c5
              clear hC h5 c5
              go_wp2_with fail
              go_roundw
              case rel => exact ⟨4, by go_num, by omega, FN5, fun e => by omega, fun _ => HF.out, fun _ => HBB.out, fun _ => HG.out, fun e => by omega, fun _ => by rw [HS2.out]; exact ⟨hT4, HVB.out⟩⟩
              case measure => simp [intOf]
          · obtain rfl : r = 4 := by omega
            have hf := f1 (by omega)
            have hb := f2 (by omega)
            have hg := f3 (by omega)
            obtain ⟨hT, hbb⟩ := p4 rfl
            obtain ⟨st2, hst2⟩ : ∃ st2, stealV st i n vic = st2 := ⟨_, rfl⟩
            rw [hst2] at hT hbb
            have hz : st2.hs i = false ∧ st2.row i = [] := by
              have hbb' := hbb
              unfold getB at hbb'
              simp only [Bool.or_eq_false_iff, Bool.not_eq_false', List.isEmpty_iff] at hbb'
              exact hbb'
            have e1 : pickV st i n tick vic = 0 := by unfold pickV; rw [if_neg (by rw [hf]; simp), if_neg (by rw [hb]; simp), if_neg (by simp [hg]), hst2, hz.1, hz.2]; rfl
            have e2 : pickB st i n tick vic = false := by unfold pickB; rw [if_neg (by rw [hf]; simp), if_neg (by rw [hb]; simp), if_neg (by simp [hg]), hst2]; exact hbb
            have e3 : pickS st i n tick vic = getSt st2 i := by unfold pickS; rw [if_neg (by rw [hf]; simp), if_neg (by rw [hb]; simp), if_neg (by simp [hg]), hst2]
            have E1 := Lib.hid e1
            have E2 := Lib.hid e2
            have E3 := Lib.hid e3
            have hfin := SchT.trans (v := v) (X := X) (cF.mono (by simp)) (.inl rfl) hT
            clear x2 f1 f2 f3 p3 p4 hr4 hr0 hr1 hr2 hr3 e1 e2 e3 hf hb hg hst2 hz hbb hT
            go_wp2_with fail
            go_ret2
            exact ⟨by rw [E1.out, E2.out]; rfl, by rw [E3.out]; exact hfin⟩
end
end Go.Proofs.Yteghenfdncgpeaa
