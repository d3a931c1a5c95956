/-
  The walks of the three statements on classes (ClassTable, ClassLeast, ClassRises): each law returns true at every input, and only new memory is made. Conditions: none.
-/
import Derived.Test.YtebibdoekcophaaCl
namespace Go.Proofs.Ytebibdoekcophaa
open Go.RowKit
theorem table_walk (a0 : Int) (a1 : Int) (w0 : (Lit.int .i64 a0).wf = true) (w1 : (Lit.int .i64 a1).wf = true) (w : World) :
    Calls Try.prog 7 #[.int .i64 a0, .int .i64 a1] w fun e w' => e = .returned (.bool true) ∧ Grown w w' := by
  have hG := Grown.refl w
  go_enter Try.func7, Try.ntmps7
  go_wp2_with fail
  refine (told4 _).mono ?_; rintro e w' ⟨rfl, hg⟩; replace hG := Gtrans hG hg; clear hg
  go_wp2_with (first
   | (go_at_call 30; refine (size_any _ _).mono ?_; rintro e w' ⟨rfl, hg⟩; replace hG := Gtrans hG hg; clear hg)
   | (go_at_call 31; refine (rsize_any _ _).mono ?_; rintro e w' ⟨rfl, hg⟩; replace hG := Gtrans hG hg; clear hg)
   | (go_at_call 32; refine (pages_any _ _).mono ?_; rintro e w' ⟨rfl, hg⟩; replace hG := Gtrans hG hg; clear hg)
   | (go_at_call 33; refine (rpages_any _ _).mono ?_; rintro e w' ⟨rfl, hg⟩; replace hG := Gtrans hG hg; clear hg)
   | (go_at_call 34; refine (slots_any _ _).mono ?_; rintro e w' ⟨rfl, hg⟩; replace hG := Gtrans hG hg; clear hg)
   | (go_at_call 35; refine (rslots_any _ _).mono ?_; rintro e w' ⟨rfl, hg⟩; replace hG := Gtrans hG hg; clear hg)
   | (go_at_call 36; refine (of_any _ _).mono ?_; rintro e w' ⟨rfl, hg⟩; replace hG := Gtrans hG hg; clear hg)
   | (go_at_call 37; refine (rof_any _ _).mono ?_; rintro e w' ⟨rfl, hg⟩; replace hG := Gtrans hG hg; clear hg))
  go_ret
  exact ⟨rfl, hG⟩
theorem umod (a m : Int) (h1 : 1 ≤ m) (h2 : m ≤ 4294967296) : ∃ r : Nat, wrap64 ((IntKind.u64.wrap a).tmod m) = r ∧ (r : Int) < m := by
  have h0 : 0 ≤ IntKind.u64.wrap a := by
    simp only [IntKind.wrap]
    rw [if_neg (by simp [IntKind.signed])]
    exact Int.emod_nonneg _ (by decide)
  rw [Int.tmod_eq_emod_of_nonneg h0]
  have h3 := Int.emod_nonneg (IntKind.u64.wrap a) (b := m) (by omega)
  have h4 := Int.emod_lt_of_pos (IntKind.u64.wrap a) (b := m) (by omega)
  refine ⟨(IntKind.u64.wrap a % m).toNat, ?_, ?_⟩
  · rw [IntWalk.wrap64_in]
    · omega
    · omega
  · omega
theorem cl_mono : ∀ x : Fin 256, ∀ y : Fin 256, x.val ≤ y.val → cl (1 + (x.val : Int)) ≤ cl (1 + (y.val : Int)) := by
  have h0 : ∀ x : Fin 255, cl (1 + (x.val : Int)) ≤ cl (1 + ((x.val + 1 : Nat) : Int)) := by decide +kernel
  have h1 : ∀ d x : Nat, x + d < 256 → cl (1 + (x : Int)) ≤ cl (1 + ((x + d : Nat) : Int)) := by
    intro d
    induction d with
    | zero => intro x _; exact Int.le_refl _
    | succ d ih => intro x h; exact Int.le_trans (ih x (by omega)) (h0 ⟨x + d, by omega⟩)
  intro x y hxy
  have := h1 (y.val - x.val) x.val (by have := y.isLt; omega)
  rwa [show x.val + (y.val - x.val) = y.val by omega] at this
theorem cl_facts : ∀ x : Fin 256, 0 ≤ cl (1 + (x.val : Int)) ∧ cl (1 + (x.val : Int)) ≤ 15 ∧ 1 + (x.val : Int) ≤ sz (cl (1 + (x.val : Int))) ∧
    sz (cl (1 + (x.val : Int))) < 2 * (1 + (x.val : Int)) ∧ (0 < cl (1 + (x.val : Int)) → sz (cl (1 + (x.val : Int)) - 1) < 1 + (x.val : Int)) := by decide +kernel
theorem c_facts : ∀ c : Fin 16, 1 ≤ c.val → sz ((c.val : Int) - 1) < sz (c.val : Int) ∧ 1 ≤ sls (c.val : Int) ∧ 1 ≤ pgs (c.val : Int) ∧ pgs (c.val : Int) ≤ 4 := by decide +kernel
theorem rises_facts (x y : Nat) (hx : x < 256) (hy : y < 256) (h : x ≤ y) :
    cl (1 + (x : Int)) ≤ cl (1 + (y : Int)) ∧ sz (cl (1 + (x : Int))) < 2 * (1 + (x : Int)) ∧ 1 + (y : Int) ≤ sz (cl (1 + (y : Int))) := by
  have hm := cl_mono ⟨x, hx⟩ ⟨y, hy⟩ h
  obtain ⟨f1, f2, f3, f4, f5⟩ := cl_facts ⟨x, hx⟩
  obtain ⟨g1, g2, g3, g4, g5⟩ := cl_facts ⟨y, hy⟩
  simp only at hm f1 f2 f3 f4 f5 g1 g2 g3 g4 g5
  exact ⟨hm, f4, g3⟩
set_option maxRecDepth 100000 in
set_option maxHeartbeats 1000000 in
theorem rises_walk (a0 : Int) (a1 : Int) (w0 : (Lit.int .i64 a0).wf = true) (w1 : (Lit.int .i64 a1).wf = true) (w : World) :
    Calls Try.prog 9 #[.int .i64 a0, .int .i64 a1] w fun e w' => e = .returned (.bool true) ∧ Grown w w' := by
  obtain ⟨x, hx, hxl⟩ := umod a0 256 (by decide) (by decide)
  obtain ⟨y, hy, hyl⟩ := umod a1 256 (by decide) (by decide)
  have hG := Grown.refl w
  have hord : (y < x ∧ _) ∨ (x ≤ y ∧ _) := (Nat.lt_or_ge y x).elim (fun h => .inl ⟨h, rises_facts y x (by omega) (by omega) (by omega)⟩) (fun h => .inr ⟨h, rises_facts x y (by omega) (by omega) h⟩)
  rcases hord with ⟨hlt, hm, hs, ht⟩ | ⟨hle, hm, hs, ht⟩
  all_goals
    go_enter Try.func9, Try.ntmps9
    go_wp2_with (first
     | (go_at_call 30; refine (size_any _ _).mono ?_; rintro e w' ⟨rfl, hg⟩; replace hG := Gtrans hG hg; clear hg)
     | (go_at_call 36; refine (of_any _ _).mono ?_; rintro e w' ⟨rfl, hg⟩; replace hG := Gtrans hG hg; clear hg))
    go_loopw [9] (fun i wr => ∃ c : Nat, 1 ≤ c ∧ c ≤ 16 ∧ i = .int .i64 c ∧ Grown w wr) (fun i _ => (16 - (intOf i).toNat))
    case atStart => exact ⟨1, by omega, by omega, rfl, hG⟩
    case round =>
      obtain ⟨c, hc1, hc2, rfl, hgr⟩ := hrel
      clear hG hm ht
      by_cases hc : c < 16
      · obtain ⟨f1, f2, f3, f4⟩ := c_facts ⟨c, hc⟩ hc1
        simp only at f1 f2 f3 f4
        go_wp2_with (first
         | (go_at_call 38; refine (Count_any _).mono ?_; rintro e w' ⟨rfl, hg⟩; replace hgr := Gtrans hgr hg; clear hg)
         | (go_at_call 30; refine (size_any _ _).mono ?_; rintro e w' ⟨rfl, hg⟩; replace hgr := Gtrans hgr hg; clear hg)
         | (go_at_call 32; refine (pages_any _ _).mono ?_; rintro e w' ⟨rfl, hg⟩; replace hgr := Gtrans hgr hg; clear hg)
         | (go_at_call 34; refine (slots_any _ _).mono ?_; rintro e w' ⟨rfl, hg⟩; replace hgr := Gtrans hgr hg; clear hg))
        go_roundw
        case rel => exact ⟨c + 1, by omega, by omega, by go_num, hgr⟩
        case measure => simp [intOf]; omega
      · go_wp2_with (first
         | (go_at_call 38; refine (Count_any _).mono ?_; rintro e w' ⟨rfl, hg⟩; replace hgr := Gtrans hgr hg; clear hg))
        refine (told4 _).mono ?_; rintro e w' ⟨rfl, hg⟩; replace hgr := Gtrans hgr hg; clear hg
        go_wp2_with fail
        refine (size_any _ _).mono ?_; rintro e w' ⟨rfl, hg⟩; replace hgr := Gtrans hgr hg; clear hg
        rw [show sz (-1) = 0 from rfl]
        go_wp2_with fail
        refine (size_any _ _).mono ?_; rintro e w' ⟨rfl, hg⟩; replace hgr := Gtrans hgr hg; clear hg
        rw [show sz 16 = 0 from rfl]
        go_wp2_with fail
        refine (slots_any _ _).mono ?_; rintro e w' ⟨rfl, hg⟩; replace hgr := Gtrans hgr hg; clear hg
        rw [show sls 16 = 0 from rfl]
        go_wp2_with fail
        refine (of_any _ _).mono ?_; rintro e w' ⟨rfl, hg⟩; replace hgr := Gtrans hgr hg; clear hg
        rw [show cl 0 = -1 from rfl]
        go_wp2_with fail
        go_ret
        exact ⟨rfl, hgr⟩
def KGrown (w w' : World) : Prop := Grown w w'
theorem KG_all (w : World) (p : Prop) : (∀ w', KGrown w w' → p) ↔ p := ⟨fun h => h w (Grown.refl w), fun h _ _ => h⟩
theorem wp_region_quietC_lit {P : Program} {C : World → Prop} {id : Nat} {Q : Exit → Act → World → Prop} {a : Act} {w : World} {l : List Oper} (hm : P.follows .mixedOrders = true) (hB : Region.lexB .any l.toArray = true)
    (hC : C { w with drawn := w.drawn + 1 }) (h : wpQuiet P l.toArray C (fun a' => ∀ w', C w' → Q .normal a' w') l a) : (Code.region id l.toArray true).wp P Q a w :=
  wp_region_quiet hm hB hC (by simpa using h)
theorem cl_n : ∀ x : Fin 256, pgs (cl (1 + (x.val : Int))) = pg (sz (cl (1 + (x.val : Int)))) ∧ sls (cl (1 + (x.val : Int))) = pgs (cl (1 + (x.val : Int))) * 64 / sz (cl (1 + (x.val : Int))) ∧
    8 * (pgs (cl (1 + (x.val : Int))) * 64 % sz (cl (1 + (x.val : Int)))) ≤ pgs (cl (1 + (x.val : Int))) * 64 ∧ 1 ≤ sls (cl (1 + (x.val : Int))) ∧ 1 ≤ sz (cl (1 + (x.val : Int))) ∧ cl (sz (cl (1 + (x.val : Int)))) = cl (1 + (x.val : Int)) := by decide +kernel
theorem least_facts (x : Nat) (h : x < 256) : ∃ k n p s : Int, cl (1 + (x : Int)) = k ∧ sz k = n ∧ pgs k = p ∧ sls k = s ∧ 0 ≤ k ∧ k ≤ 15 ∧ 1 + (x : Int) ≤ n ∧ (0 < k → sz (k - 1) < 1 + (x : Int)) ∧
    8 * (p * 64 % n) ≤ p * 64 ∧ 1 ≤ s ∧ p * 64 / n = s ∧ cl n = k ∧ 1 ≤ n ∧ n ≤ 256 ∧ 0 ≤ p ∧ p ≤ 4 ∧ (∀ c : Nat, 1 ≤ c → (c : Int) < p → ¬ (n ≤ (c : Int) * 64 ∧ 8 * ((c : Int) * 64 % n) ≤ (c : Int) * 64)) := by
  obtain ⟨f1, f2, f3, f4, f5⟩ := cl_facts ⟨x, h⟩
  obtain ⟨g1, g2, g3, g4, g5, g6⟩ := cl_n ⟨x, h⟩
  simp only at f1 f2 f3 f4 f5 g1 g2 g3 g4 g5 g6
  have hin := sz_in f1 (by omega)
  have hpb := pgs_bd (cl (1 + (x : Int)))
  have hsb := sz_bd (cl (1 + (x : Int)))
  refine ⟨_, _, _, _, rfl, rfl, rfl, rfl, f1, f2, f3, f5, g3, g4, g2.symm, g6, g5, hsb.2, hpb.1, hpb.2, ?_⟩
  intro c h1 h2
  have := szL_rno _ hin ⟨c, by omega⟩ h1 (by rw [← g1]; exact h2)
  simp only at this
  rwa [Int.mul_comm 8]
set_option maxRecDepth 100000 in
set_option maxHeartbeats 1000000 in
theorem least_walk (a0 : Int) (w0 : (Lit.int .i64 a0).wf = true) (w : World) :
    Calls Try.prog 8 #[.int .i64 a0] w fun e w' => e = .returned (.bool true) ∧ Grown w w' := by
  obtain ⟨x, hx, hxl⟩ := umod a0 256 (by decide) (by decide)
  have hG := Grown.refl w
  obtain ⟨k, n, p, s, hk, hn, hp, hs, f1, f2, f3, f5, g3, g4, g2, g6, n1, n2, p1, p2, hc⟩ := least_facts x (by omega)
  have G2 := Lib.hid g2; have HC := Lib.hid hc
  clear g2 hc
  have hz : 0 = k ∨ 0 < k := by omega
  rcases hz with hz | hz
  all_goals
    go_enter Try.func8, Try.ntmps8
    go_upto_region 6 with (first
       | (go_at_call 30; refine (size_any _ _).mono ?_; rintro e w' ⟨rfl, hg⟩; replace hG := Gtrans hG hg; clear hg)
       | (go_at_call 32; refine (pages_any _ _).mono ?_; rintro e w' ⟨rfl, hg⟩; replace hG := Gtrans hG hg; clear hg)
       | (go_at_call 36; refine (of_any _ _).mono ?_; rintro e w' ⟨rfl, hg⟩; replace hG := Gtrans hG hg; clear hg))
    go_cut [65] (fun u wr => u = .bool false ∧ Grown w wr)
    case first =>
      have h0 := Int.emod_nonneg (p * 64) (b := n) (by omega)
      have h1 := Int.emod_lt_of_pos (p * 64) (b := n) (by omega)
      have q3 := G2.out
      have d1 : decide (n < 1) = false := decide_eq_false (by omega)
      have d2 : decide (p * 64 < 8 * (p * 64 % n)) = false := decide_eq_false (by omega)
      refine wp_region_quietC_lit (C := fun w' => KGrown w w') (by kernel_rfl) (by kernel_rfl) (GdrewN hG (n := 1)) ?_
      have hKK := fun p => KG_all w p
      repeat (go_big_quiet_step ((intro hC; go_at_call 34; refine (slots_any _ _).mono ?_; rintro e w' ⟨rfl, hg⟩; exact ⟨by rw [hs], Gtrans hC hg⟩)))
      refine wpQuiet_nil ?_
      intro w' hw'
      go_wp2
      go_meet
      case rel => exact ⟨by rw [decide_eq_false (by omega)], hw'⟩
    case rest => 
      obtain ⟨rfl, hG⟩ := hcut
      go_wp2_with fail
      go_loopw [7] (fun i wr => ∃ c : Nat, 1 ≤ c ∧ c ≤ 5 ∧ i = .int .i64 c ∧ Grown w wr) (fun i _ => (5 - (intOf i).toNat))
      case atStart => exact ⟨1, by omega, by omega, rfl, hG⟩
      case round =>
        obtain ⟨c, hc1, hc2, rfl, hgr⟩ := hrel
        have h0 := Int.emod_nonneg ((c : Int) * 64) (b := n) (by omega)
        have h1 := Int.emod_lt_of_pos ((c : Int) * 64) (b := n) (by omega)
        have harm := HC.out c hc1
        have HARM := Lib.hid harm
        clear harm hG
        by_cases hlt : (c : Int) < p
        · by_cases hge : n ≤ (c : Int) * 64
          · have hno : ¬ (8 * ((c : Int) * 64 % n) ≤ (c : Int) * 64) := fun h => HARM.out hlt ⟨hge, h⟩
            go_wp2_with (go_at_call 32; refine (pages_any _ _).mono ?_; rintro e w' ⟨rfl, hg⟩; replace hgr := Gtrans hgr hg; clear hg)
            go_roundw
            case rel => exact ⟨c + 1, by omega, by omega, by go_num, hgr⟩
            case measure => simp [intOf]; omega
          · go_wp2_with (go_at_call 32; refine (pages_any _ _).mono ?_; rintro e w' ⟨rfl, hg⟩; replace hgr := Gtrans hgr hg; clear hg)
            go_roundw
            case rel => exact ⟨c + 1, by omega, by omega, by go_num, hgr⟩
            case measure => simp [intOf]; omega
        · go_wp2_with (go_at_call 32; refine (pages_any _ _).mono ?_; rintro e w' ⟨rfl, hg⟩; replace hgr := Gtrans hgr hg; clear hg)
          refine (told4 _).mono ?_; rintro e w' ⟨rfl, hg⟩; replace hgr := Gtrans hgr hg; clear hg
          go_wp2_with (go_at_call 36; refine (of_any _ _).mono ?_; rintro e w' ⟨rfl, hg⟩; replace hgr := Gtrans hgr hg; clear hg)
          go_ret
          exact ⟨rfl, hgr⟩
end Go.Proofs.Ytebibdoekcophaa
