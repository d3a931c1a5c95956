/-
  The walk of the statement WaitOrder: the law returns true at every input. Conditions: none beyond how the argument is read.
-/
import Derived.Test.YtaafdhohiekakaaWaitTold
namespace Go.Proofs.Ytaafdhohiekakaa
open Go.RowKit
/-- The place that the law makes of a number. -/
def pl (u : Int) : Nat := (wrap64 ((IntKind.u64.wrap u).tmod 32)).toNat
theorem pl_eq (u : Int) : wrap64 ((IntKind.u64.wrap u).tmod 32) = (pl u : Int) ∧ pl u < 32 := by
  obtain ⟨r, hr, hrl⟩ := umod u 32 (by decide) (by decide)
  unfold pl
  rw [hr]
  exact ⟨by simp, by simp; omega⟩
/-- Who waits at a place, of the first n. -/
def Pn (xs : List Int) (n : Nat) (a : Nat) : List Int := (rng 0 n).filter fun x => pl (gI xs x.toNat) == a
theorem Pn_len (xs : List Int) (n a : Nat) : (Pn xs n a).length ≤ n := by
  have := List.length_filter_le (fun x : Int => pl (gI xs x.toNat) == a) (rng 0 n)
  rw [rng_len] at this
  exact this
theorem Pn_succ (xs : List Int) (n a : Nat) : Pn xs (n + 1) a = if a = pl (gI xs n) then Pn xs n (pl (gI xs n)) ++ [(n : Int)] else Pn xs n a := by
  unfold Pn
  rw [rng_zero, List.filter_append]
  by_cases h : a = pl (gI xs n)
  · subst h; simp
  · rw [if_neg h]
    have : (pl (gI xs n) == a) = false := by rw [beq_eq_false_iff_ne]; exact fun e => h e.symm
    simp [this]
theorem Pn_mem (xs : List Int) (n a : Nat) (x : Int) (h : x ∈ Pn xs n a) : 0 ≤ x ∧ x < n ∧ pl (gI xs x.toNat) = a := by
  unfold Pn at h
  rw [List.mem_filter, mem_rng] at h
  simp at h
  omega
/-- Who is still to be woken at a place, from i on, without one. -/
def Rn (xs : List Int) (n : Nat) (o : Int) (i a : Nat) : List Int := (rng i (n - i)).filter fun x => pl (gI xs x.toNat) == a && x != o
theorem Rn_len (xs : List Int) (n : Nat) (o : Int) (i a : Nat) : (Rn xs n o i a).length ≤ n := by
  have := List.length_filter_le (fun x : Int => pl (gI xs x.toNat) == a && x != o) (rng i (n - i))
  rw [rng_len] at this
  unfold Rn
  omega
theorem rng_nodup (c : Int) (n : Nat) : (rng c n).Nodup := by
  induction n with
  | zero => simp [rng]
  | succ n ih =>
    rw [rng_succ, List.nodup_append]
    refine ⟨ih, by simp, ?_⟩
    intro a ha b hb
    simp at hb
    rw [mem_rng] at ha
    omega
theorem Pn_erase (xs : List Int) (n a : Nat) (o : Int) : (Pn xs n a).erase o = Rn xs n o 0 a := by
  unfold Pn Rn
  rw [List.Nodup.erase_eq_filter ((rng_nodup 0 n).filter _), List.filter_filter]
  simp only [Nat.sub_zero]
  congr 1
  funext x
  exact Bool.and_comm _ _
theorem Rn_end (xs : List Int) (n : Nat) (o : Int) (a : Nat) : Rn xs n o n a = [] := by simp [Rn, rng]
theorem Rn_step (xs : List Int) (n : Nat) (o : Int) (i a : Nat) (h : i < n) : Rn xs n o i a = if pl (gI xs i) = a ∧ (i : Int) ≠ o then (i : Int) :: Rn xs n o (i + 1) a else Rn xs n o (i + 1) a := by
  unfold Rn
  rw [show n - i = n - (i + 1) + 1 by omega, rng_cons, List.filter_cons]
  by_cases h1 : pl (gI xs i) = a <;> by_cases h2 : (i : Int) = o
  · simp [h1, h2]
  · simp [h1, h2]
  · simp [h1, h2]
  · simp [h1, h2]
set_option maxRecDepth 100000 in
set_option maxHeartbeats 4000000 in
theorem order_walk (a : Option Addr) (xs : List Int) (c : Nat) (y : Int) (w : World) (hr : Rd w a xs) (hx : xs.length ≤ 60) :
    Calls Try.prog 4 #[.slice a xs.length c, .int .i64 y] w fun e w' => e = .returned (.bool true) ∧ Below w.heap.size w w' := by
  obtain ⟨n, hn⟩ : ∃ n, xs.length = n := ⟨_, rfl⟩
  rw [hn] at hx ⊢
  have HN := Lib.hid hn
  have hn60 : ¬ (60 : Int) < n := by omega
  clear hn
  go_enter Try.func4, Try.ntmps4
  go_wp2_with fail
  refine (waitNew _).mono ?_; rintro e w1 ⟨rfl, h1, c1⟩
  obtain ⟨b, hb⟩ : ∃ b, w.heap.size = b := ⟨_, rfl⟩
  rw [hb, rep_LsOf] at h1
  rw [hb]
  have h1' : WaitsAt w1 b (List.replicate 32 (.slice none 0 0)) (LsOf (Pn xs 0)) := h1
  have HB := Lib.hid hb
  clear hb h1
  go_wp2_with fail
  go_loopw [6] (fun s6 wr => ∃ (i : Nat) (vs : List Value), s6 = .int .i64 i ∧ i ≤ n ∧ WaitsAt wr b vs (LsOf (Pn xs i)) ∧ Ch [] w wr) (fun s6 _ => n - (intOf s6).toNat)
  case atStart => exact ⟨0, _, rfl, by omega, h1', c1⟩
  case round =>
    clear h1' c1
    obtain ⟨i, vs, rfl, hi, hW, hc⟩ := hrel
    by_cases hlt : i < n
    · obtain ⟨ba, oa, rfl, hcell⟩ := (hr.keep hc (by simp)).at (i := i) (by rw [HN.out]; exact hlt)
      have d1 := hcell i (by rw [HN.out]; exact hlt)
      have hp := pl_eq (gI xs i)
      have hP := waitWait b vs _ (i : Int) (pl (gI xs i)) wr hW hp.2 (fun k hk => by
        rw [gL_LsOf _ _ hk]
        intro hm
        have := Pn_mem xs i k _ hm
        omega) (lens_bound _ _ (fun k _ => by have := Pn_len xs i k; omega))
      rw [gL_LsOf _ _ hp.2, LsOf_set, show (fun j => if j = pl (gI xs i) then Pn xs i (pl (gI xs i)) ++ [(i : Int)] else Pn xs i j) = Pn xs (i + 1) from funext fun j => (Pn_succ xs i j).symm] at hP
      obtain ⟨u, hu⟩ : ∃ u, gI xs i = u := ⟨_, rfl⟩
      rw [hu] at d1 hp hP
      have hpe := hp.1
      have ha := hW.1.above
      have HA := Lib.hid ha
      have HP := Lib.hid hP
      clear hcell hu hp hP ha
      go_wp2_with fail
      try rw [hpe]
      refine HP.out.mono ?_; rintro e w2 ⟨rfl, vs2, h2, c2, _⟩
      clear HP
      go_wp2
      go_roundw
      case rel =>
        refine ⟨i + 1, vs2, by go_num, by omega, h2, hc.transT c2 ?_⟩
        intro k hk
        simp only [List.mem_cons] at hk
        rcases hk with rfl | hk
        · exact .inr (by have := HB.out; omega)
        · exact .inr (by have := HA.out k hk; have := HB.out; omega)
      case measure => simp [intOf]; omega
    · obtain rfl : i = n := by omega
      clear hlt hi
      by_cases hn0 : i = 0
      · have n1 : ¬ (0 : Int) < i := by omega
        have hT : WaitsAt wr b vs (LsOf (fun j => if j < 0 then [] else Rn xs i (-1) 0 j)) := by
          rw [show LsOf (fun j => if j < 0 then [] else Rn xs i (-1) 0 j) = LsOf (Pn xs i) from LsOf_congr fun j _ => by rw [if_neg (by omega), ← Pn_erase, List.erase_of_not_mem (fun hm => by have := Pn_mem xs i j _ hm; omega)]]
          exact hW
        have hcT := hc
        obtain ⟨vsT, hvT⟩ : ∃ vsT, vs = vsT := ⟨_, rfl⟩
        rw [hvT] at hT
        clear hvT hn0
        go_wp2_with fail
        go_loopw [8] (fun s8 wr => ∃ (t : Nat) (vs : List Value), s8 = .int .i64 t ∧ t ≤ 32 ∧ WaitsAt wr b vs (LsOf (fun j => if j < t then [] else Rn xs i (-1) 0 j)) ∧ Ch [] w wr) (fun s8 _ => 32 - (intOf s8).toNat)
        case atStart => exact ⟨0, vsT, rfl, by omega, hT, hcT⟩
        case round =>
          clear hT hcT hW hc
          obtain ⟨t, vs, rfl, ht, hW, hc⟩ := hrel
          by_cases hlt : t < 32
          · have t0 : (0 : Int) ≤ t := by omega
            have t1 : decide ((t : Int) < 32) = true := by simp; omega
            go_wp2_with fail
            go_loopw [9] (fun s9 wr => ∃ (z : Nat) (vs : List Value), s9 = .int .i64 z ∧ z ≤ i ∧ WaitsAt wr b vs (LsOf (fun j => if j < t then [] else if j = t then Rn xs i (-1) z t else Rn xs i (-1) 0 j)) ∧ Ch [] w wr) (fun s9 _ => i - (intOf s9).toNat)
            case atStart => exact ⟨0, vs, rfl, by omega, by
              rw [show LsOf (fun j => if j < t then [] else if j = t then Rn xs i (-1) 0 t else Rn xs i (-1) 0 j) = LsOf (fun j => if j < t then [] else Rn xs i (-1) 0 j) from LsOf_congr fun j _ => by
                split
                · rfl
                · split
                  · rename_i h; rw [h]
                  · rfl]
              exact hW, hc⟩
            case round =>
              clear hW hc
              obtain ⟨z, vs, rfl, hz, hW, hc⟩ := hrel
              by_cases hzi : z < i
              · exact absurd hzi (by omega)
              · obtain rfl : z = i := by omega
                have hE := waitWakeEmpty b vs _ t wr hW hlt (by rw [gL_LsOf _ _ hlt, if_neg (by omega), if_pos rfl, Rn_end])
                have hW' : WaitsAt wr b vs (LsOf (fun j => if j < t + 1 then [] else Rn xs z (-1) 0 j)) := by
                  rw [show LsOf (fun j => if j < t + 1 then [] else Rn xs z (-1) 0 j) = LsOf (fun j => if j < t then [] else if j = t then Rn xs z (-1) z t else Rn xs z (-1) 0 j) from LsOf_congr fun j _ => by
                    by_cases h : j < t
                    · rw [if_pos h, if_pos (by omega)]
                    · rw [if_neg h]
                      by_cases h2 : j = t
                      · subst h2; rw [if_pos (by omega), if_pos rfl, Rn_end]
                      · rw [if_neg h2, if_neg (by omega)]]
                  exact hW
                have HE := Lib.hid hE
                clear hW hE hzi
                go_wp2_with fail
                refine HE.out.mono ?_; rintro e w4 ⟨rfl, rfl⟩
                clear HE
                go_wp2_with fail
                go_roundw
                case rel => exact ⟨t + 1, vs, by go_num, by omega, hW', hc⟩
                case measure => simp [intOf]; omega
          · obtain rfl : t = 32 := by omega
            rw [show LsOf (fun j => if j < 32 then [] else Rn xs i (-1) 0 j) = LsOf fun _ => [] from LsOf_congr fun j hj => by rw [if_pos hj]] at hW
            clear hlt
            go_wp2_with fail
            refine (told14 _).mono ?_; rintro e w4 ⟨rfl, c4⟩
            have hLen := waitLen b vs _ w4 ⟨hW.1.keep c4 (by simp) (by simp), hW.2⟩ (fun k hk => by
              have : ∀ k, k ≤ 32 → lensOf (LsOf fun _ => ([] : List Int)) k = 0 := by decide
              rw [this k hk]; omega)
            rw [show lensOf (LsOf fun _ => ([] : List Int)) 32 = 0 by decide] at hLen
            go_wp2_with fail
            refine hLen.mono ?_; rintro e w6 ⟨rfl, rfl⟩
            go_wp2
            go_ret
            exact ⟨rfl, (hc.trans c4).below (Nat.le_refl _) (by simp)⟩
      · have n1 : (0 : Int) < i := by omega
        obtain ⟨o, ho, hol⟩ := umod y (i : Int) (by omega) (by omega)
        have e2 : IntKind.u64.wrap (i : Int) = (i : Int) := by
          simp only [IntKind.wrap]
          rw [if_neg (by simp [IntKind.signed])]
          exact Int.emod_eq_of_lt (by omega) (by simp [IntKind.bits]; omega)
        have e3 : ¬ (i : Int) = 0 := by omega
        have e4 : ((i : Int) == 0) = false := by rw [beq_eq_false_iff_ne]; omega
        have hoP : (o : Int) ∈ Pn xs i (pl (gI xs o)) := by
          unfold Pn
          rw [List.mem_filter, mem_rng]
          refine ⟨by omega, ?_⟩
          simp
        obtain ⟨p, q, hpq, hop⟩ : ∃ p q, Pn xs i (pl (gI xs o)) = p ++ (o : Int) :: q ∧ (o : Int) ∉ p := by
          rcases split_first (Pn xs i (pl (gI xs o))) (o : Int) with h | h
          · exact absurd hoP h
          · exact h
        have hpl := (pl_eq (gI xs o)).2
        have hD := waitDel b vs _ (o : Int) (pl (gI xs o)) p q wr hW hpl (by rw [gL_LsOf _ _ hpl]; exact hpq) hop (fun j hj => by
          rw [gL_LsOf _ _ (by omega)]
          intro hm
          have := Pn_mem xs i j _ hm
          simp at this
          omega) (lens_bound _ _ (fun k _ => by have := Pn_len xs i k; omega))
        rw [LsOf_set, show LsOf (fun j => if j = pl (gI xs o) then p ++ q else Pn xs i j) = LsOf (fun j => if j < 0 then [] else Rn xs i (o : Int) 0 j) from LsOf_congr fun j _ => by
          rw [if_neg (Nat.not_lt_zero j), ← Pn_erase]
          by_cases h : j = pl (gI xs o)
          · subst h
            rw [if_pos rfl, hpq, List.erase_append_right _ hop]
            simp
          · rw [if_neg h, List.erase_of_not_mem (fun hm => by
              have := Pn_mem xs i j _ hm
              simp at this
              omega)]] at hD
        have ha := hW.1.above
        have HA := Lib.hid ha
        have HD := Lib.hid hD
        have HO := Lib.hid ho
        clear hoP hpq hop hpl hD ha ho hol
        go_wp2_with fail
        try rw [HO.out]
        refine HD.out.mono ?_; rintro e w2 ⟨rfl, vs2, h2, c2, _⟩
        have hD2 := waitDelNone b vs2 _ (o : Int) w2 h2 (fun k hk => by
          rw [gL_LsOf _ _ hk, if_neg (Nat.not_lt_zero k)]
          intro hm
          unfold Rn at hm
          rw [List.mem_filter] at hm
          simp at hm) (lens_bound _ _ (fun k _ => by rw [if_neg (Nat.not_lt_zero k)]; have := Rn_len xs i (o : Int) 0 k; omega))
        clear HD e2 e3 e4
        go_wp2_with fail
        refine hD2.mono ?_; rintro e w3 ⟨rfl, rfl⟩
        have hT := h2
        have hcT : Ch [] w w3 := hc.transT c2 (by
          intro k hk
          simp only [List.mem_cons] at hk
          rcases hk with rfl | hk
          · exact .inr (by have := HB.out; omega)
          · exact .inr (by have := HA.out k hk; have := HB.out; omega))
        obtain ⟨vsT, hvT⟩ : ∃ vsT, vs2 = vsT := ⟨_, rfl⟩
        rw [hvT] at hT
        clear hvT h2 c2 hD2
        go_wp2_with fail
        go_loopw [8] (fun s8 wr => ∃ (t : Nat) (vs : List Value), s8 = .int .i64 t ∧ t ≤ 32 ∧ WaitsAt wr b vs (LsOf (fun j => if j < t then [] else Rn xs i (o : Int) 0 j)) ∧ Ch [] w wr) (fun s8 _ => 32 - (intOf s8).toNat)
        case atStart => exact ⟨0, vsT, rfl, by omega, hT, hcT⟩
        case round =>
          clear hT hcT hW hc
          obtain ⟨t, vs, rfl, ht, hW, hc⟩ := hrel
          by_cases hlt : t < 32
          · have t0 : (0 : Int) ≤ t := by omega
            have t1 : decide ((t : Int) < 32) = true := by simp; omega
            go_wp2_with fail
            go_loopw [9] (fun s9 wr => ∃ (z : Nat) (vs : List Value), s9 = .int .i64 z ∧ z ≤ i ∧ WaitsAt wr b vs (LsOf (fun j => if j < t then [] else if j = t then Rn xs i (o : Int) z t else Rn xs i (o : Int) 0 j)) ∧ Ch [] w wr) (fun s9 _ => i - (intOf s9).toNat)
            case atStart => exact ⟨0, vs, rfl, by omega, by
              rw [show LsOf (fun j => if j < t then [] else if j = t then Rn xs i (o : Int) 0 t else Rn xs i (o : Int) 0 j) = LsOf (fun j => if j < t then [] else Rn xs i (o : Int) 0 j) from LsOf_congr fun j _ => by
                split
                · rfl
                · split
                  · rename_i h; rw [h]
                  · rfl]
              exact hW, hc⟩
            case round =>
              clear hW hc
              obtain ⟨z, vs, rfl, hz, hW, hc⟩ := hrel
              by_cases hzi : z < i
              · have hst := Rn_step xs i (o : Int) z t hzi
                obtain ⟨ba, oa, rfl, hcell⟩ := (hr.keep hc (by simp)).at (i := z) (by rw [HN.out]; exact hzi)
                have d1 := hcell z (by rw [HN.out]; exact hzi)
                have hp := pl_eq (gI xs z)
                obtain ⟨u, hu⟩ : ∃ u, gI xs z = u := ⟨_, rfl⟩
                obtain ⟨r, hrr⟩ : ∃ r, pl u = r := ⟨_, rfl⟩
                rw [hu, hrr] at hst hp
                rw [hu] at d1
                have hpe := hp.1
                clear hcell hu hp hrr
                by_cases ho : (z : Int) = (o : Int)
                · rw [if_neg (fun h => h.2 ho)] at hst
                  have o1 : ((z : Int) == (o : Int)) = true := by rw [ho]; exact beq_self_eq_true _
                  rw [hst] at hW
                  clear hst ho
                  go_wp2_with fail
                  go_roundw
                  case rel => exact ⟨z + 1, vs, by go_num, by omega, hW, hc⟩
                  case measure => simp [intOf]; omega
                · have o1 : ((z : Int) == (o : Int)) = false := by rw [beq_eq_false_iff_ne]; exact ho
                  by_cases hrt : r = t
                  · rw [hrt] at hst hpe
                    rw [if_pos ⟨rfl, ho⟩] at hst
                    have n1 : ((t : Int) != (t : Int)) = false := by simp
                    have n2 : (wrap64 ((IntKind.u64.wrap u).tmod 32) != (t : Int)) = false := by rw [hpe]; simp
                    have hK := waitWake b vs _ t (z : Int) (Rn xs i (o : Int) (z + 1) t) wr hW hlt (by rw [gL_LsOf _ _ hlt, if_neg (by omega), if_pos rfl, hst]) (by have := Rn_len xs i (o : Int) (z + 1) t; omega)
                    rw [LsOf_set, show LsOf (fun j => if j = t then Rn xs i (o : Int) (z + 1) t else if j < t then [] else if j = t then Rn xs i (o : Int) z t else Rn xs i (o : Int) 0 j) = LsOf (fun j => if j < t then [] else if j = t then Rn xs i (o : Int) (z + 1) t else Rn xs i (o : Int) 0 j) from LsOf_congr fun j _ => by
                      by_cases h : j = t
                      · subst h; simp
                      · simp [h]] at hK
                    have ha := hW.1.above
                    have HA := Lib.hid ha
                    have HK := Lib.hid hK
                    clear hst ho hK ha hrt
                    go_wp2_with fail
                    refine HK.out.mono ?_; rintro e w4 ⟨rfl, vs4, h4, c4, _⟩
                    clear HK
                    go_wp2_with fail
                    go_roundw
                    case rel =>
                      refine ⟨z + 1, vs4, by go_num, by omega, h4, hc.transT c4 ?_⟩
                      intro k hk
                      simp only [List.mem_cons] at hk
                      rcases hk with rfl | hk
                      · exact .inr (by have := HB.out; omega)
                      · exact .inr (by have := HA.out k hk; have := HB.out; omega)
                    case measure => simp [intOf]; omega
                  · rw [if_neg (fun h => hrt h.1)] at hst
                    have hrt' : (r : Int) ≠ (t : Int) := by omega
                    have n1 : ((r : Int) != (t : Int)) = true := by simp [hrt']
                    have n2 : (wrap64 ((IntKind.u64.wrap u).tmod 32) != (t : Int)) = true := by rw [hpe]; simp [hrt']
                    rw [hst] at hW
                    clear hst ho hrt hrt'
                    go_wp2_with fail
                    go_roundw
                    case rel => exact ⟨z + 1, vs, by go_num, by omega, hW, hc⟩
                    case measure => simp [intOf]; omega
              · obtain rfl : z = i := by omega
                have hE := waitWakeEmpty b vs _ t wr hW hlt (by rw [gL_LsOf _ _ hlt, if_neg (by omega), if_pos rfl, Rn_end])
                have hW' : WaitsAt wr b vs (LsOf (fun j => if j < t + 1 then [] else Rn xs z (o : Int) 0 j)) := by
                  rw [show LsOf (fun j => if j < t + 1 then [] else Rn xs z (o : Int) 0 j) = LsOf (fun j => if j < t then [] else if j = t then Rn xs z (o : Int) z t else Rn xs z (o : Int) 0 j) from LsOf_congr fun j _ => by
                    by_cases h : j < t
                    · rw [if_pos h, if_pos (by omega)]
                    · rw [if_neg h]
                      by_cases h2 : j = t
                      · subst h2; rw [if_pos (by omega), if_pos rfl, Rn_end]
                      · rw [if_neg h2, if_neg (by omega)]]
                  exact hW
                have HE := Lib.hid hE
                clear hW hE hzi
                go_wp2_with fail
                refine HE.out.mono ?_; rintro e w4 ⟨rfl, rfl⟩
                clear HE
                go_wp2_with fail
                go_roundw
                case rel => exact ⟨t + 1, vs, by go_num, by omega, hW', hc⟩
                case measure => simp [intOf]; omega
          · obtain rfl : t = 32 := by omega
            rw [show LsOf (fun j => if j < 32 then [] else Rn xs i (o : Int) 0 j) = LsOf fun _ => [] from LsOf_congr fun j hj => by rw [if_pos hj]] at hW
            clear hlt
            go_wp2_with fail
            refine (told14 _).mono ?_; rintro e w4 ⟨rfl, c4⟩
            have hLen := waitLen b vs _ w4 ⟨hW.1.keep c4 (by simp) (by simp), hW.2⟩ (fun k hk => by
              have : ∀ k, k ≤ 32 → lensOf (LsOf fun _ => ([] : List Int)) k = 0 := by decide
              rw [this k hk]; omega)
            rw [show lensOf (LsOf fun _ => ([] : List Int)) 32 = 0 by decide] at hLen
            go_wp2_with fail
            refine hLen.mono ?_; rintro e w6 ⟨rfl, rfl⟩
            go_wp2
            go_ret
            exact ⟨rfl, (hc.trans c4).below (Nat.le_refl _) (by simp)⟩
theorem order_all (a : Option Addr) (xs : List Int) (c : Nat) (y : Int) (w : World) (hr : Rd w a xs) (hm : xs.length ≤ maxLen) :
    Calls Try.prog 4 #[.slice a xs.length c, .int .i64 y] w fun e w' => e = .returned (.bool true) ∧ Below w.heap.size w w' := by
  by_cases h : xs.length ≤ 60
  · exact order_walk a xs c y w hr h
  · obtain ⟨n, hn⟩ : ∃ n, xs.length = n := ⟨_, rfl⟩
    rw [hn] at h hm ⊢
    unfold maxLen at hm
    have t2 : (60 : Int) < n := by omega
    clear hr hn h
    go_enter Try.func4, Try.ntmps4
    go_wp2_with fail
    refine (told14 _).mono ?_; rintro e w1 ⟨rfl, c1⟩
    go_wp2
    go_ret
    exact ⟨rfl, c1.below (Nat.le_refl _) (by simp)⟩
end Go.Proofs.Ytaafdhohiekakaa
