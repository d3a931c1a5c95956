/-
  The document's answer for layer 27: Where, Len, Drop. Conditions: none beyond what each theorem names.
-/
import Derived.Test.YteghenfdncgpeaaRefSch
namespace Go.Proofs.Yteghenfdncgpeaa
open Go.RowKit
theorem nxL_ring (nx : Int) (hs : Bool) (Z : List Int) : nxL nx hs ++ Z = ringList nx hs Z := by
  cases hs <;> rfl
section
variable {w w1 w2 : World} {r i y : Nat} {vs v : Value} {Y S T U : List Nat} {st : SSt}
theorem allRefS (h : RefAt w S r vs Y st) (hy : Y[i]? = some y) (hl : (st.row i).length ≤ 256) :
    Calls Try.prog 29 #[.pointer (some ⟨y, 0, none⟩)] w fun e w' => ∃ v, e = .returned v ∧ OwI w' w.heap.size v (allS st i) ∧ Ch [] w w' := by
  have hb : (nxL (st.nx i) (st.hs i)).length ≤ 1 := by unfold nxL; split <;> simp
  have := refRingAll y S _ _ w (h.ring i y hy) (by omega)
  rw [nxL_ring] at this
  exact this
theorem refWhere (g : Int) (h : RefAt w S r vs Y st) (hn : Y.length ≤ 100) (hle : ∀ p, (st.row p).length ≤ 256) (hl : st.com.length ≤ 100000) :
    Calls Try.prog 55 #[.pointer (some ⟨r, 0, none⟩), .int .i64 g] w fun e w' => e = .returned (.tuple #[.int .i64 (whereV st Y.length g), .bool (whereB st Y.length g)]) ∧ Ch [] w w' := by
  obtain ⟨n, hnn⟩ : ∃ n, Y.length = n := ⟨_, rfl⟩
  have hrow : ∀ wr, Ch [] w wr → wr.cell? ⟨r, 0, none⟩ = some vs ∧ PtS wr 38 vs Y := fun wr hc => by
    obtain ⟨_, _, hb, _⟩ := (h.still hc).top
    exact ⟨hb.cell 0, (h.still hc).rs⟩
  obtain ⟨aq, cq, hbq, hLq⟩ := h.top
  obtain ⟨m, hm⟩ : ∃ m, st.com.length = m := ⟨_, rfl⟩
  rw [hm] at hbq hl
  have hcom : ∀ wr, Ch [] w wr → wr.cell? ⟨r, 1, none⟩ = some (.slice aq m cq) ∧ Rd wr aq st.com := fun wr hc => ⟨(hbq.keep hc (by simp)).cell 1, hLq.rd.keep hc (by simp)⟩
  have hall : ∀ wr i y, Ch [] w wr → Y[i]? = some y → Calls Try.prog 29 #[.pointer (some ⟨y, 0, none⟩)] wr fun e w' => ∃ v', e = .returned v' ∧ OwI w' wr.heap.size v' (allS st i) ∧ Ch [] wr w' := fun wr i y hc hy => allRefS (h.still hc) hy (hle i)
  have hlen : ∀ i, (allS st i).length ≤ 257 := fun i => by have := allS_len st i; have := hle i; omega
  rw [hnn]
  obtain ⟨a, cap, rfl, _⟩ := h.rs.form
  rw [hnn] at hrow
  have q0 := (hrow w (Ch.refl _ _)).1
  have HM := Lib.hid hm
  have HN := Lib.hid hnn
  have HROW := Lib.hid hrow
  have HALL := Lib.hid hall
  have HCOM := Lib.hid hcom
  have HLEN := Lib.hid hlen
  have hnb : n ≤ 100 := by omega
  clear h hn hnn hrow hall hcom hlen hle hbq hLq hm q0
  go_enter Try.func55, Try.ntmps55
  go_wp2_with fail
  go_loopw [6] (fun s6 wr => ∃ k : Nat, s6 = .int .i64 k ∧ k ≤ n ∧ (∀ j, j < k → inRing st g j = false) ∧ Ch [] w wr) (fun s6 _ => n - (intOf s6).toNat)
  case atStart => exact ⟨0, rfl, by omega, fun j hj => by omega, Ch.refl _ _⟩
  case round =>
    obtain ⟨k, rfl, hk, hno, hc⟩ := hrel
    have HNO := Lib.hid hno
    have q0 := (HROW.out wr hc).1
    clear hno
    by_cases hlt : k < n
    · have t1 : decide ((k : Int) < n) = true := decide_eq_true (by omega)
      obtain ⟨x, hx⟩ : ∃ x, Y[k]? = some x := ⟨_, List.getElem?_eq_getElem (by have := HN.out; omega)⟩
      obtain ⟨g0, o0, e0, d0⟩ := (HROW.out wr hc).2.at hx
      subst e0
      unfold ptrV at d0
      have hA := HALL.out wr k x hc hx
      have hle := HLEN.out k
      have v1 : (k : Int) < n := by omega
      have v2 : (0 : Int) ≤ k := by omega
      obtain ⟨L, hL⟩ : ∃ L, allS st k = L := ⟨_, rfl⟩
      have hin : inRing st g k = L.contains g := by unfold inRing; rw [hL]
      rw [hL] at hA hle
      have HIN := Lib.hid hin
      clear hx hL hin
      go_wp2_with fail
      refine hA.mono ?_; rintro e w2 ⟨v2', rfl, o2, c2⟩
      have hc2 := hc.trans c2
      obtain ⟨a2, cap2, rfl, _, _, hrd⟩ := o2.form
      have hct := hasAny a2 L g L.length cap2 w2 hrd rfl (by omega)
      clear hA hc c2 o2 q0
      cases hb : L.contains g with
      | true =>
        rw [hb] at hct
        have e1 : firstP (inRing st g) n = some k := firstP_some (by rw [HIN.out]; exact hb) HNO.out hlt
        have E1 := Lib.hid e1
        clear hb e1 hrd
        go_wp2_with fail
        refine hct.mono ?_; rintro e w3 ⟨rfl, rfl⟩
        clear hct
        go_wp2_with fail
        go_ret2
        exact ⟨by unfold whereV whereB; rw [E1.out]; rfl, hc2⟩
      | false =>
        rw [hb] at hct
        have hno2 : ∀ j, j < k + 1 → inRing st g j = false := fun j hj => by
          by_cases e : j = k
          · subst e; rw [HIN.out]; exact hb
          · exact HNO.out j (by omega)
        have HN2 := Lib.hid hno2
        clear hb hno2 hrd
        go_wp2_with fail
        refine hct.mono ?_; rintro e w3 ⟨rfl, rfl⟩
        clear hct
        go_wp2_with fail
        go_roundw
        case rel => exact ⟨k + 1, by go_num, by omega, HN2.out, hc2⟩
        case measure => simp [intOf]; omega
    · obtain rfl : k = n := by omega
      have t1 : decide ((k : Int) < k) = false := decide_eq_false (by omega)
      obtain ⟨q1, hrd⟩ := HCOM.out wr hc
      have hct := hasAny aq st.com g m cq wr hrd HM.out.symm (by omega)
      have e1 : firstP (inRing st g) k = none := firstP_none HNO.out
      have E1 := Lib.hid e1
      clear e1 hrd
      cases hb : st.com.contains g with
      | true =>
        rw [hb] at hct
        have HB := Lib.hid hb
        clear hb
        go_wp2_with fail
        refine hct.mono ?_; rintro e w3 ⟨rfl, rfl⟩
        clear hct
        go_wp2_with fail
        go_ret2
        exact ⟨by unfold whereV whereB; rw [E1.out]; simp only [HB.out]; rfl, hc⟩
      | false =>
        rw [hb] at hct
        have HB := Lib.hid hb
        clear hb
        go_wp2_with fail
        refine hct.mono ?_; rintro e w3 ⟨rfl, rfl⟩
        clear hct
        go_wp2_with fail
        go_ret2
        exact ⟨by unfold whereV whereB; rw [E1.out]; simp only [HB.out]; rfl, hc⟩
theorem refLen (h : RefAt w S r vs Y st) (hn : Y.length ≤ 100) (hle : ∀ p, (st.row p).length ≤ 256) (hl : st.com.length ≤ 100000) :
    Calls Try.prog 56 #[.pointer (some ⟨r, 0, none⟩)] w fun e w' => e = .returned (.int .i64 (totS st Y.length : Nat)) ∧ Ch [] w w' := by
  obtain ⟨n, hnn⟩ : ∃ n, Y.length = n := ⟨_, rfl⟩
  obtain ⟨g, hg⟩ : ∃ g : Nat → Nat, (fun i => (allS st i).length) = g := ⟨_, rfl⟩
  have hgb : ∀ i, g i ≤ 257 := fun i => by
    have := allS_len st i
    have := hle i
    rw [← hg]; show (allS st i).length ≤ 257; omega
  have hsg : ∀ k, sumP g k ≤ k * 257 := fun k => sumP_le (fun j _ => hgb j)
  have hrow : ∀ wr, Ch [] w wr → wr.cell? ⟨r, 0, none⟩ = some vs ∧ PtS wr 38 vs Y := fun wr hc => by
    obtain ⟨_, _, hb, _⟩ := (h.still hc).top
    exact ⟨hb.cell 0, (h.still hc).rs⟩
  have hall : ∀ wr i y, Ch [] w wr → Y[i]? = some y → Calls Try.prog 29 #[.pointer (some ⟨y, 0, none⟩)] wr fun e w' => ∃ v' : Value, e = .returned v' ∧ (∃ a c, v' = .slice a (g i) c) ∧ Ch [] wr w' := fun wr i y hc hy => (allRefS (h.still hc) hy (hle i)).mono fun _ _ ⟨v', e1, e2, e3⟩ => ⟨v', e1, by
    obtain ⟨a, c, e4, _⟩ := e2.form
    exact ⟨a, c, by rw [e4, ← hg]⟩, e3⟩
  obtain ⟨aq, cq, hbq, _⟩ := h.top
  obtain ⟨u, hu⟩ : ∃ u, st.com.length = u := ⟨_, rfl⟩
  rw [hu] at hbq hl
  have c1 := hbq.cell 1
  have e0 : totS st Y.length = u + sumP g n := by unfold totS; rw [hg, hu, hnn]
  rw [e0]
  obtain ⟨a, cap, rfl, _⟩ := h.rs.form
  rw [hnn] at hrow
  have HN := Lib.hid hnn
  have HROW := Lib.hid hrow
  have HALL := Lib.hid hall
  have HSG := Lib.hid hsg
  have HGB := Lib.hid hgb
  have hnb : n ≤ 100 := by omega
  clear h hu hg hnn hgb hsg hrow hall e0 hn hle hbq
  go_enter Try.func56, Try.ntmps56
  go_wp2_with fail
  go_loopw [3, 4] (fun s3 s4 wr => ∃ k : Nat, s4 = .int .i64 k ∧ k ≤ n ∧ s3 = .int .i64 (u + sumP g k : Nat) ∧ Ch [] w wr) (fun _ s4 _ => n - (intOf s4).toNat)
  case atStart => exact ⟨0, rfl, by omega, rfl, Ch.refl _ _⟩
  case round =>
    clear c1
    obtain ⟨k, rfl, hk, rfl, hc⟩ := hrel
    have hsk := HSG.out k
    have q0 := (HROW.out wr hc).1
    by_cases hlt : k < n
    · have t1 : decide ((k : Int) < n) = true := decide_eq_true (by omega)
      have hs1 : sumP g (k + 1) = sumP g k + g k := rfl
      have hgk := HGB.out k
      obtain ⟨x, hx⟩ : ∃ x, Y[k]? = some x := ⟨_, List.getElem?_eq_getElem (by have := HN.out; omega)⟩
      obtain ⟨g0, o0, e0, d0⟩ := (HROW.out wr hc).2.at hx
      subst e0
      unfold ptrV at d0
      have hL := HALL.out wr k x hc hx
      obtain ⟨y, hy⟩ : ∃ y, sumP g k = y := ⟨_, rfl⟩
      obtain ⟨z, hz⟩ : ∃ z, g k = z := ⟨_, rfl⟩
      rw [hy] at hs1 ⊢
      rw [hz] at hs1 hL hgk
      have HS1 := Lib.hid hs1
      have hb : u + y + z ≤ 200000 := by omega
      have v1 : (k : Int) < n := by omega
      have v2 : (0 : Int) ≤ k := by omega
      clear hs1 hy hz hsk hx
      go_wp2_with fail
      refine hL.mono ?_; rintro e w2 ⟨v2', rfl, ⟨a2, cc2, rfl⟩, c2⟩
      have hc2 := hc.trans c2
      clear hL hc c2 q0
      go_wp2_with fail
      go_roundw
      case rel => exact ⟨k + 1, by go_num, by omega, by rw [HS1.out]; go_num, hc2⟩
      case measure => simp [intOf]; omega
    · obtain rfl : k = n := by omega
      have t1 : decide ((k : Int) < k) = false := decide_eq_false (by omega)
      obtain ⟨y, hy⟩ : ∃ y, sumP g k = y := ⟨_, rfl⟩
      rw [hy]
      have HY := Lib.hid hy
      clear hy
      go_wp2_with fail
      go_ret
      exact ⟨by rw [HY.out]; rfl, hc⟩
end
end Go.Proofs.Yteghenfdncgpeaa
