/-
  The walk of the statement RingKeeps: the law returns true at every input. Conditions: none.
-/
import Derived.Test.YteghenfdncgpeaaRingTold
import Derived.Test.YteghenfdncgpeaaRow
import Derived.Deep.LoopGhost
namespace Go.Proofs.Yteghenfdncgpeaa
open Go.RowKit
/-- One is put behind a row: what is told and what stays are what there was and the one. -/
theorem ring_count (xs : List Int) (g x : Int) : (ringOver xs g).count x + (ringRow xs g).count x = xs.count x + [g].count x := by
  unfold ringOver ringRow
  split
  · simp [List.count_append]
  · have := congrArg (List.count x) (List.take_append_drop 128 xs)
    rw [List.count_append] at this
    rw [List.count_append]
    omega
theorem ring_sub (xs : List Int) (g : Int) : (ringRow xs g).Sublist (xs ++ [g]) := by
  unfold ringRow
  split
  · exact List.Sublist.refl _
  · exact (List.drop_sublist _ _).trans (List.sublist_append_left _ _)
theorem ring_mem (xs : List Int) (g y : Int) (h : y ∈ ringOver xs g) : y ∈ xs ∨ y = g := by
  unfold ringOver at h
  split at h
  · simp at h
  · simp only [List.mem_append, List.mem_singleton] at h
    rcases h with h | h
    · exact .inl (List.mem_of_mem_take h)
    · exact .inr h
theorem ring_over_len (xs : List Int) (g : Int) : (ringOver xs g).length ≤ 129 := by
  unfold ringOver
  split
  · simp
  · simp; omega
theorem ring_ne (xs : List Int) (g : Int) (h : xs.length ≤ 256) : ringRow xs g ≠ [] := by
  unfold ringRow
  split
  · simp
  · intro e
    have := congrArg List.length e
    simp at this
    omega
theorem count_take_succ (O : List Int) (j : Nat) (h : j < O.length) (x : Int) : (O.take (j + 1)).count x = (O.take j).count x + if gI O j = x then 1 else 0 := by
  rw [List.take_succ_eq_append_getElem h, List.count_append, ← gI_at O j h, List.count_singleton]
  simp
set_option maxRecDepth 100000 in
set_option maxHeartbeats 4000000 in
theorem keeps_walk (a0 a1 : Int) (w : World) :
    Calls Try.prog 3 #[.int .i64 a0, .int .i64 a1] w fun e w' => e = .returned (.bool true) ∧ Below w.heap.size w w' := by
  obtain ⟨k, hk, hkl⟩ := umod a0 700 (by decide) (by decide)
  obtain ⟨j, hj, hjl⟩ := umod a1 9 (by decide) (by decide)
  have hmk := fun w => run_makeInts w k (by omega)
  go_enter Try.func3, Try.ntmps3
  go_wp2_with fail
  refine (ringNew _).mono ?_; rintro e w1 ⟨rfl, hr1, c1⟩
  obtain ⟨b, hb⟩ : ∃ b, w.heap.size = b := ⟨_, rfl⟩
  rw [hb] at hr1 ⊢
  have HB := Lib.hid hb
  clear hb
  go_wp2_with fail
  rw [hk, hj]
  obtain ⟨e, he⟩ : ∃ e : Nat, e = j + 1 := ⟨_, rfl⟩
  try rw [show (1 : Int) + (j : Int) = (e : Int) by omega]
  have he1 : ¬ (e : Int) = 0 := by omega
  have he2 : ((e : Int) == 0) = false := by rw [beq_eq_false_iff_ne]; omega
  have he3 : (0 : Int) < e := by omega
  have hk7 : k ≤ 700 := by omega
  obtain ⟨sb, hsb⟩ : ∃ sb, w1.heap.size = sb := ⟨_, rfl⟩
  have hbs : b < sb := by rw [← hsb]; exact hr1.lt
  try rw [hsb]
  refine wp_named fun w2 hw => ?_
  have hw2 : Row w2 sb (List.replicate k 0) := by
    rw [hw]
    unfold Row
    first
    | exact Blk.new' hsb.symm _ _
    | simpa using Blk.new' (w := w1) hsb.symm (List.replicate k (Value.int .i64 0)).toArray 3
  have hr2 : RingAt w2 b 0 false [] := by rw [hw]; exact hr1.keep ((Ch.refl [] w1).alloc _) (by simp)
  have hc2 : Ch [] w w2 := by rw [hw]; exact c1.alloc _
  have hs2 : sb < w2.heap.size := Blk.lt hw2
  clear hw hsb hr1 c1 hmk hk hj hkl hjl he
  go_loopw [9, 10] (fun s9 s10 wr => ∃ (i : Nat) (lst : Int) (xs S : List Int), s10 = .int .i64 i ∧ s9 = .int .i64 lst ∧ i ≤ k ∧ RingAt wr b 0 false xs ∧ Row wr sb S ∧ S.length = k ∧
      Hid (∀ x : Nat, x < k → gI S x + (xs.count (x : Int) : Int) = if x < i then 1 else 0) ∧ Hid (xs.Pairwise (· < ·)) ∧ Hid (∀ y ∈ xs, 0 ≤ y ∧ y < (i : Int)) ∧ Hid (∀ y ∈ xs, lst < y) ∧ lst < (i : Int) ∧ sb < wr.heap.size ∧ Ch [] w wr) (fun _ s10 _ => k - (intOf s10).toNat)
  case atStart => exact ⟨0, -1, [], List.replicate k 0, rfl, rfl, by omega, hr2, hw2, by simp, Lib.hid (fun x hx => by simp [gI, List.getD_eq_getElem?_getD, hx]), Lib.hid List.Pairwise.nil, Lib.hid (by simp), Lib.hid (by simp), by omega, hs2, hc2⟩
  case round =>
    clear hr2 hw2 hc2 hs2
    obtain ⟨i, lst, xs, S, rfl, rfl, hi, hR, hS, hSl, HC, HP, HB2, HL, hlst, hsz, hc⟩ := hrel
    by_cases hlt : i < k
    · have hP := ringPutRow b 0 false xs (i : Int) wr hR
      have HSl := Lib.hid hSl
      have hxl : xs.length ≤ 256 := hR.le
      obtain ⟨B, hBB⟩ : ∃ B, wr.heap.size = B := ⟨_, rfl⟩
      rw [hBB] at hP hsz
      clear hSl hBB
      go_wp2_with fail
      refine hP.mono ?_; rintro e' w3 ⟨v3, rfl, o3, h3, c3⟩
      obtain ⟨O, hO⟩ : ∃ O, ringOver xs (i : Int) = O := ⟨_, rfl⟩
      obtain ⟨xr, hxr⟩ : ∃ xr, ringRow xs (i : Int) = xr := ⟨_, rfl⟩
      have hcnt : ∀ x : Int, O.count x + xr.count x = xs.count x + [(i : Int)].count x := by rw [← hO, ← hxr]; exact ring_count xs i
      have hmemO : ∀ y ∈ O, 0 ≤ y ∧ y < (k : Int) := by
        intro y hy
        rw [← hO] at hy
        rcases ring_mem xs i y hy with h | h
        · have := HB2.out y h; omega
        · omega
      have hsub : xr.Sublist (xs ++ [(i : Int)]) := by rw [← hxr]; exact ring_sub xs i
      have hOl : O.length ≤ 129 := by rw [← hO]; exact ring_over_len xs i
      have hxr0 : xr ≠ [] := by rw [← hxr]; exact ring_ne xs i hxl
      rw [hO] at o3
      rw [hxr] at h3
      have hS3 := hS.keep c3 (by simp; omega)
      have hc3 := hc.transT c3 (by intro q hq; simp at hq; subst hq; exact .inr (by have := HB.out; omega))
      have hxrl : xr.length ≤ 256 := h3.le
      obtain ⟨a3, p3, rfl, _, _, _⟩ := o3.form
      obtain ⟨n, hn⟩ : ∃ n, O.length = n := ⟨_, rfl⟩
      rw [hn] at o3 hOl ⊢
      have HO := Lib.hid hn
      have HCN := Lib.hid hcnt
      have HMO := Lib.hid hmemO
      have HSUB := Lib.hid hsub
      clear hP hS hR hO hxr hcnt hmemO hsub hc c3 hn
      go_wp2_with fail
      go_loopw [12] (fun s12 wr => ∃ (z : Nat) (S' : List Int), s12 = .int .i64 z ∧ z ≤ n ∧ Row wr sb S' ∧ Hid (S'.length = k) ∧ Hid (∀ x : Nat, x < k → gI S' x = gI S x + ((O.take z).count (x : Int) : Int)) ∧ RingAt wr b 0 false xr ∧ OwI wr B (.slice a3 n p3) O ∧ Ch [] w wr) (fun s12 _ => n - (intOf s12).toNat)
      case atStart => exact ⟨0, S, rfl, by omega, hS3, HSl, Lib.hid (by simp), h3, o3, hc3⟩
      case round =>
        clear hS3 h3 o3 hc3
        obtain ⟨z, S', rfl, hz, hS3, HSl3, HC3, h3, o3, hc3⟩ := hrel
        by_cases hzn : z < n
        · obtain ⟨a3', p3', he3', _, _, hrd⟩ := o3.form
          simp only [Value.slice.injEq] at he3'
          obtain ⟨rfl, hxx, rfl⟩ := he3'
          clear hxx
          obtain ⟨ba, oa, rfl, hcell⟩ := hrd.at (i := z) (by rw [HO.out]; exact hzn)
          have d1 := hcell z (by rw [HO.out]; exact hzn)
          have hy := HMO.out (gI O z) (gI_mem (by rw [HO.out]; exact hzn))
          obtain ⟨y, hyy⟩ : ∃ y : Nat, gI O z = (y : Int) := ⟨(gI O z).toNat, by omega⟩
          rw [hyy] at d1 hy
          have hyk : y < k := by omega
          have d2 := hS3.cell y (by rw [HSl3.out]; exact hyk)
          have q2 := hS3.frozen y
          obtain ⟨c, hcc⟩ : ∃ c : Int, gI S' y = c := ⟨_, rfl⟩
          have hcb : -1000 ≤ c ∧ c ≤ 1000 := by
            have e1 := HC3.out y hyk
            have e2 := HC.out y hyk
            have e3 : (O.take z).count (y : Int) ≤ (O.take z).length := List.count_le_length
            have e4 : xs.count (y : Int) ≤ xs.length := List.count_le_length
            have e5 : (O.take z).length ≤ 129 := by rw [List.length_take]; omega
            split at e2 <;> omega
          rw [hcc] at d2
          have HY := Lib.hid hyy
          have HCC := Lib.hid hcc
          obtain ⟨hcb1, hcb2⟩ := hcb
          clear hcell hy hcc hrd hyy
          have y0 : (0 : Int) ≤ y := by omega
          have y1 : ¬ (k : Int) ≤ y := by omega
          go_wp2_with fail
          go_roundw
          case rel =>
            have cs := (Ch.refl [sb] wr).setCell (p := ⟨sb, y, none⟩) (.inl (by simp)) (.int .i64 (c + 1))
            refine ⟨z + 1, S'.set y (c + 1), by go_num, by omega, hS3.set y (c + 1), Lib.hid (by rw [List.length_set]; exact HSl3.out), Lib.hid ?_, h3.keep cs (by simp; omega), o3.keepLt cs (by intro q hq; simp at hq; omega), hc3.setCell (.inr (by have := HB.out; show w.heap.size ≤ sb; omega)) _⟩
            intro x hx
            rw [gI_set _ _ _ _ (by rw [HSl3.out]; exact hyk), count_take_succ O z (by rw [HO.out]; exact hzn), HY.out]
            have := HC3.out x hx
            by_cases hxy : x = y
            · subst hxy
              rw [if_pos rfl, if_pos rfl, ← HCC.out]
              omega
            · rw [if_neg hxy, if_neg (by omega)]
              omega
          case measure => simp [intOf]; omega
        · obtain rfl : z = n := by omega
          have HI : ∀ x : Nat, x < k → gI S' x + (xr.count (x : Int) : Int) = if x < i + 1 then 1 else 0 := by
            intro x hx
            have e1 := HC3.out x hx
            have e2 := HC.out x hx
            have e3 := HCN.out (x : Int)
            rw [List.take_of_length_le (by rw [HO.out]; exact Nat.le_refl _)] at e1
            rw [List.count_singleton] at e3
            by_cases hxi : x = i
            · subst hxi
              simp at e3
              rw [if_neg (by omega)] at e2
              rw [if_pos (by omega)]
              omega
            · rw [show ((i : Int) == (x : Int)) = false by rw [beq_eq_false_iff_ne]; omega] at e3
              simp at e3
              by_cases hxl : x < i
              · rw [if_pos hxl] at e2
                rw [if_pos (by omega)]
                omega
              · rw [if_neg hxl] at e2
                rw [if_neg (by omega)]
                omega
          have HPW : xr.Pairwise (· < ·) := by
            refine List.Pairwise.sublist HSUB.out ?_
            rw [List.pairwise_append]
            exact ⟨HP.out, List.pairwise_singleton _ _, fun u hu v hv => by simp at hv; subst hv; exact (HB2.out u hu).2⟩
          have HBD : ∀ y ∈ xr, (0 : Int) ≤ y ∧ y < ((i + 1 : Nat) : Int) := by
            intro y hy
            have := HSUB.out.subset hy
            simp only [List.mem_append, List.mem_singleton] at this
            rcases this with h | h
            · have := HB2.out y h; omega
            · omega
          have HLS : ∀ y ∈ xr, lst < y := by
            intro y hy
            have := HSUB.out.subset hy
            simp only [List.mem_append, List.mem_singleton] at this
            rcases this with h | h
            · exact HL.out y h
            · omega
          have HHI := Lib.hid HI
          have HHP := Lib.hid HPW
          have HHB := Lib.hid HBD
          have HHL := Lib.hid HLS
          have hlen := ringLen b 0 false xr wr h3
          rw [show (ringList 0 false xr).length = xr.length from rfl] at hlen
          obtain ⟨ml, hml⟩ : ∃ ml, xr.length = ml := ⟨_, rfl⟩
          rw [hml] at hlen hxrl
          have hxr1 : ¬ (257 : Int) < ml := by omega
          have HML := Lib.hid hml
          clear hml
          clear HI HPW HBD HLS hzn hz o3 HC3 HCN HSUB HC HP HB2 HL HO HMO
          go_wp2_with fail
          refine hlen.mono ?_; rintro e' w5 ⟨rfl, c5⟩
          have h5 := h3.keep c5 (by simp)
          have hS5 := hS3.keep c5 (by simp)
          have hc5 := hc3.trans c5
          have hsz5 : sb < w5.heap.size := Blk.lt hS5
          clear hlen h3 hS3 hc3 c5
          by_cases hze : (i : Int) % (e : Int) = 0
          · have hze2 : (((i : Int) % (e : Int)) == 0) = true := by rw [hze]; rfl
            obtain ⟨g, t, hgt⟩ : ∃ g t, xr = g :: t := by
              cases xr with
              | nil => exact absurd rfl hxr0
              | cons g t => exact ⟨g, t, rfl⟩
            subst hgt
            have hgb := HHB.out g (by simp)
            have hgl := HHL.out g (by simp)
            obtain ⟨y, hyy⟩ : ∃ y : Nat, g = (y : Int) := ⟨g.toNat, by omega⟩
            subst hyy
            have hyk : y < k := by omega
            have hyi : y < i + 1 := by omega
            have y0 : (0 : Int) ≤ y := by omega
            have y1 : ¬ (k : Int) ≤ y := by omega
            have y2 : ¬ (y : Int) ≤ lst := by omega
            obtain ⟨c, hcc⟩ : ∃ c : Int, gI S' y = c := ⟨_, rfl⟩
            have hcb : -1000 ≤ c ∧ c ≤ 1000 := by
              have e2 := HHI.out y hyk
              have e3 : ((y : Int) :: t).count (y : Int) ≤ ((y : Int) :: t).length := List.count_le_length
              rw [HML.out] at e3
              split at e2 <;> omega
            obtain ⟨hcb1, hcb2⟩ := hcb
            have HCC := Lib.hid hcc
            clear hgb hgl hcc hze
            go_wp2_with fail
            refine (ringGetRow b 0 (y : Int) t _ h5).mono ?_; rintro e' w6 ⟨rfl, h6, c6⟩
            have hS6 := hS5.keep c6 (by simp; omega)
            have d2 := hS6.cell y (by rw [HSl3.out]; exact hyk)
            have q2 := hS6.frozen y
            rw [HCC.out] at d2
            have hc6 := hc5.transT c6 (by intro q hq; simp at hq; subst hq; exact .inr (by have := HB.out; omega))
            go_wp2_with fail
            go_roundw
            case rel =>
              have cs := (Ch.refl [sb] w6).setCell (p := ⟨sb, y, none⟩) (.inl (by simp)) (.int .i64 (c + 1))
              refine ⟨i + 1, y, t, S'.set y (c + 1), by go_num, rfl, by omega, h6.keep cs (by simp; omega), hS6.set y (c + 1), by rw [List.length_set]; exact HSl3.out, Lib.hid ?_, Lib.hid (List.Pairwise.of_cons HHP.out), Lib.hid (fun u hu => HHB.out u (List.mem_cons_of_mem _ hu)), Lib.hid (fun u hu => List.rel_of_pairwise_cons HHP.out hu), by omega, Nat.lt_of_lt_of_le (Blk.lt hS6) cs.size, hc6.setCell (.inr (by have := HB.out; show w.heap.size ≤ sb; omega)) _⟩
              intro x hx
              have e1 := HHI.out x hx
              rw [gI_set _ _ _ _ (by rw [HSl3.out]; exact hyk)]
              rw [List.count_cons] at e1
              by_cases hxy : x = y
              · subst hxy
                simp at e1
                rw [if_pos rfl, ← HCC.out, if_pos (by omega)]
                rw [if_pos (by omega)] at e1
                omega
              · rw [show ((y : Int) == (x : Int)) = false by rw [beq_eq_false_iff_ne]; omega] at e1
                simp at e1
                rw [if_neg hxy]
                by_cases hxi : x < i + 1
                · rw [if_pos hxi] at e1 ⊢; omega
                · rw [if_neg hxi] at e1 ⊢; omega
            case measure => simp [intOf]; omega
          · have hze2 : (((i : Int) % (e : Int)) == 0) = false := by rw [beq_eq_false_iff_ne]; exact hze
            go_wp2_with fail
            go_roundw
            case rel => exact ⟨i + 1, lst, xr, S', by go_num, rfl, by omega, h5, hS5, HSl3.out, HHI, HHP, HHB, HHL, by omega, hsz5, hc5⟩
            case measure => simp [intOf]; omega
    · obtain rfl : i = k := by omega
      clear hlt hi hlst
      have hxl : xs.length ≤ 256 := hR.le
      have HSl := Lib.hid hSl
      obtain ⟨B, hBB⟩ : ∃ B, wr.heap.size = B := ⟨_, rfl⟩
      have hall := ringAll b 0 false xs wr hR
      rw [hBB, show ringList 0 false xs = xs from rfl] at hall
      rw [hBB] at hsz
      clear hSl hBB
      go_wp2_with fail
      refine hall.mono ?_; rintro e' w3 ⟨v3, rfl, o3, c3⟩
      have hS3 := hS.keep c3 (by simp)
      have hc3 := hc.trans c3
      obtain ⟨a3, p3, rfl, _, _, _⟩ := o3.form
      obtain ⟨n, hn⟩ : ∃ n, xs.length = n := ⟨_, rfl⟩
      rw [hn] at o3 hxl ⊢
      have HN := Lib.hid hn
      clear hall hS hR hc c3 hn
      go_wp2_with fail
      go_loopw [16] (fun s16 wr => ∃ (z : Nat) (S' : List Int), s16 = .int .i64 z ∧ z ≤ n ∧ Row wr sb S' ∧ Hid (S'.length = i) ∧ Hid (∀ x : Nat, x < i → gI S' x = gI S x + ((xs.take z).count (x : Int) : Int)) ∧ OwI wr B (.slice a3 n p3) xs ∧ Ch [] w wr) (fun s16 _ => n - (intOf s16).toNat)
      case atStart => exact ⟨0, S, rfl, by omega, hS3, HSl, Lib.hid (by simp), o3, hc3⟩
      case round =>
        clear hS3 o3 hc3
        obtain ⟨z, S', rfl, hz, hS3, HSl3, HC3, o3, hc3⟩ := hrel
        by_cases hzn : z < n
        · obtain ⟨a3', p3', he3', _, _, hrd⟩ := o3.form
          simp only [Value.slice.injEq] at he3'
          obtain ⟨rfl, hxx, rfl⟩ := he3'
          clear hxx
          obtain ⟨ba, oa, rfl, hcell⟩ := hrd.at (i := z) (by rw [HN.out]; exact hzn)
          have d1 := hcell z (by rw [HN.out]; exact hzn)
          have hy := HB2.out (gI xs z) (gI_mem (by rw [HN.out]; exact hzn))
          obtain ⟨y, hyy⟩ : ∃ y : Nat, gI xs z = (y : Int) := ⟨(gI xs z).toNat, by omega⟩
          rw [hyy] at d1 hy
          have hyk : y < i := by omega
          have d2 := hS3.cell y (by rw [HSl3.out]; exact hyk)
          have q2 := hS3.frozen y
          obtain ⟨c, hcc⟩ : ∃ c : Int, gI S' y = c := ⟨_, rfl⟩
          have hcb : -1000 ≤ c ∧ c ≤ 1000 := by
            have e1 := HC3.out y hyk
            have e2 := HC.out y hyk
            have e3 : (xs.take z).count (y : Int) ≤ (xs.take z).length := List.count_le_length
            have e4 : xs.count (y : Int) ≤ xs.length := List.count_le_length
            have e5 : (xs.take z).length ≤ 256 := by rw [List.length_take, HN.out]; omega
            rw [HN.out] at e4
            split at e2 <;> omega
          rw [hcc] at d2
          have HY := Lib.hid hyy
          have HCC := Lib.hid hcc
          obtain ⟨hcb1, hcb2⟩ := hcb
          have y0 : (0 : Int) ≤ y := by omega
          have z0 : (0 : Int) ≤ z := by omega
          have z1 : (z : Int) < n := by omega
          have g1 : decide ((y : Int) < 0) = false := by simp
          have g2 : decide (i ≤ y) = false := by simp; omega
          have hrel' : ∀ cs : Ch [sb] wr (wr.setCell ⟨sb, y, none⟩ (.int .i64 (c + 1))), ∀ x : Nat, x < i → gI (S'.set y (c + 1)) x = gI S x + ((xs.take (z + 1)).count (x : Int) : Int) := by
            intro _ x hx
            rw [gI_set _ _ _ _ (by rw [HSl3.out]; exact hyk), count_take_succ xs z (by rw [HN.out]; exact hzn), HY.out]
            have := HC3.out x hx
            by_cases hxy : x = y
            · subst hxy
              rw [if_pos rfl, if_pos rfl, ← HCC.out]
              omega
            · rw [if_neg hxy, if_neg (by omega)]
              omega
          have HREL := Lib.hid hrel'
          clear hy hcc hrd hyy hrel'
          by_cases hz0 : 0 < z
          · obtain ⟨v, hv⟩ : ∃ v : Nat, z = v + 1 := ⟨z - 1, by omega⟩
            have d3 := hcell v (by rw [HN.out]; omega)
            have hlt : gI xs v < (y : Int) := by
              rw [← HY.out, gI_at xs v (by rw [HN.out]; omega), gI_at xs z (by rw [HN.out]; omega)]
              exact List.pairwise_iff_getElem.1 HP.out v z (by rw [HN.out]; omega) (by rw [HN.out]; omega) (by omega)
            obtain ⟨u, hu⟩ : ∃ u, gI xs v = u := ⟨_, rfl⟩
            rw [hu] at d3 hlt
            have e2 : (z : Int) - 1 = (v : Int) := by omega
            have e3 : IntKind.i64.wrap (v : Int) = (v : Int) := IntWalk.i64_in _ (by omega)
            have g3 : decide ((0 : Int) < (z : Int)) = true := by simp; omega
            have g4 : decide ((y : Int) ≤ u) = false := by simp; omega
            have v0 : (0 : Int) ≤ v := by omega
            have v1 : (v : Int) < n := by omega
            have HV := Lib.hid hv
            clear hcell hu hv
            go_wp2_with fail
            go_quiet (fail)
            have hS4 : Row (wr.drewN nq) sb S' := hS3
            go_wp2_with fail
            go_roundw
            case rel =>
              have cs0 := (Ch.refl [sb] wr).setCell (p := ⟨sb, y, none⟩) (.inl (by simp)) (.int .i64 (c + 1))
              have cs := ((Ch.refl [sb] wr).drewN nq).setCell (p := ⟨sb, y, none⟩) (.inl (by simp)) (.int .i64 (c + 1))
              exact ⟨z + 1, S'.set y (c + 1), by go_num, by omega, hS4.set y (c + 1), Lib.hid (by rw [List.length_set]; exact HSl3.out), Lib.hid (HREL.out cs0), o3.keepLt cs (by intro q hq; simp at hq; omega), (hc3.drewN nq).setCell (.inr (by have := HB.out; show w.heap.size ≤ sb; omega)) _⟩
            case measure => simp [intOf]; omega
          · have g3 : decide ((0 : Int) < (z : Int)) = false := by simp; omega
            clear hcell
            go_wp2_with fail
            go_quiet (fail)
            have hS4 : Row (wr.drewN nq) sb S' := hS3
            go_wp2_with fail
            go_roundw
            case rel =>
              have cs0 := (Ch.refl [sb] wr).setCell (p := ⟨sb, y, none⟩) (.inl (by simp)) (.int .i64 (c + 1))
              have cs := ((Ch.refl [sb] wr).drewN nq).setCell (p := ⟨sb, y, none⟩) (.inl (by simp)) (.int .i64 (c + 1))
              exact ⟨z + 1, S'.set y (c + 1), by go_num, by omega, hS4.set y (c + 1), Lib.hid (by rw [List.length_set]; exact HSl3.out), Lib.hid (HREL.out cs0), o3.keepLt cs (by intro q hq; simp at hq; omega), (hc3.drewN nq).setCell (.inr (by have := HB.out; show w.heap.size ≤ sb; omega)) _⟩
            case measure => simp [intOf]; omega
        · obtain rfl : z = n := by omega
          have HI : ∀ x : Nat, x < i → gI S' x = 1 := by
            intro x hx
            have e1 := HC3.out x hx
            have e2 := HC.out x hx
            rw [List.take_of_length_le (by rw [HN.out]; exact Nat.le_refl _)] at e1
            rw [if_pos hx] at e2
            omega
          have HHI := Lib.hid HI
          clear HI hzn
          go_wp2_with fail
          go_loopw [17] (fun s17 wx => ∃ v : Nat, s17 = .int .i64 v ∧ v ≤ i ∧ wx = wr) (fun s17 _ => i - (intOf s17).toNat)
          case atStart => exact ⟨0, rfl, by omega, rfl⟩
          case round =>
            obtain ⟨v, rfl, hv, rfl⟩ := hrel
            by_cases hvi : v < i
            · have d1 := hS3.cell v (by rw [HSl3.out]; exact hvi)
              rw [HHI.out v hvi] at d1
              go_wp2_with fail
              go_roundw
              case rel => exact ⟨v + 1, by go_num, by omega, by first | rfl | trivial⟩
              case measure => simp [intOf]; omega
            · obtain rfl : v = i := by omega
              clear hvi
              go_wp2_with fail
              refine (told10 _).mono ?_; rintro e' w6 ⟨rfl, c6⟩
              go_wp2
              go_ret
              exact ⟨rfl, (hc3.trans c6).below (Nat.le_refl _) (by simp)⟩
end Go.Proofs.Yteghenfdncgpeaa
