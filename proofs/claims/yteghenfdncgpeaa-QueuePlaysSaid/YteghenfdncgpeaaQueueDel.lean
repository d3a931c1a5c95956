/-
  Contracts of package queue: Del. Conditions: none beyond what each theorem names.
-/
import Derived.Test.YteghenfdncgpeaaQueue
import Derived.Test.YteghenfdncgpeaaIx
import Derived.Test.YteghenfdncgpeaaDelete
namespace Go.Proofs.Yteghenfdncgpeaa
open Go.RowKit
theorem qDelNil (x : Int) (w : World) : Calls Try.prog 37 #[.pointer none, .int .i64 x] w fun e w' => e = .returned (.bool false) ∧ w' = w := by
  go_enter Try.func37, Try.ntmps37
  go_wp2
  go_ret
  exact ⟨rfl, rfl⟩
theorem qGetNil (p m : Int) (w : World) : Calls Try.prog 33 #[.pointer none, .int .i64 p, .int .i64 m] w fun e w' => e = .returned (.slice none 0 0) ∧ w' = w := by
  go_enter Try.func33, Try.ntmps33
  go_wp2
  go_ret
  exact ⟨rfl, rfl⟩
theorem qDelNone (b : Nat) (v : Value) (xs : List Int) (x : Int) (w : World) (h : QAt w b v xs) (hx : x ∉ xs) (hl : xs.length ≤ 100000) :
    Calls Try.prog 37 #[.pointer (some ⟨b, 0, none⟩), .int .i64 x] w fun e w' => e = .returned (.bool false) ∧ w' = w := by
  obtain ⟨a, cap, rfl, e1, e2, e3, hrd⟩ := h.2.rd
  have c := h.1.cell 0
  have hi := ixNone a xs x xs.length cap w hrd hx rfl (by omega)
  clear e1 hx
  go_enter Try.func37, Try.ntmps37
  go_wp2_with fail
  refine hi.mono ?_; rintro e w2 ⟨rfl, rfl⟩
  go_wp2
  go_ret
  exact ⟨rfl, rfl⟩
theorem qDelFound (b : Nat) (v : Value) (p q : List Int) (x : Int) (w : World) (h : QAt w b v (p ++ x :: q)) (hb : ∀ k, v.ownBlock = some k → b < k) (hx : x ∉ p) (hl : (p ++ x :: q).length ≤ 100000) :
    Calls Try.prog 37 #[.pointer (some ⟨b, 0, none⟩), .int .i64 x] w fun e w' =>
      e = .returned (.bool true) ∧ ∃ v', QAt w' b v' (p ++ q) ∧ v'.ownBlock = v.ownBlock ∧ Ch (b :: v.ownBlock.toList) w w' := by
  obtain ⟨a, cap, rfl, e1, e2, e3, hrd⟩ := h.2.rd
  have c := h.1.cell 0
  have hi := ixFound a p q x (p ++ x :: q).length cap w hrd hx rfl (by omega)
  have hd := deleteOne (b + 1) _ p x q w ⟨h.2, fun k hk => hb k hk⟩ (by omega)
  have hpl : p.length ≤ 100000 := by simp at hl; omega
  clear e1 hx hrd
  generalize hn : (p ++ x :: q).length = n at *
  obtain ⟨i, hip⟩ : ∃ i, p.length = i := ⟨_, rfl⟩
  rw [hip] at hi hd hpl
  have HN := Lib.hid hn
  have HD := Lib.hid hd
  have HBB := Lib.hid hb
  clear hn hd hip hb
  go_enter Try.func37, Try.ntmps37
  go_wp2_with fail
  refine hi.mono ?_; rintro e w2 ⟨rfl, rfl⟩
  go_wp2_with fail
  refine HD.out.mono ?_; rintro e w2 ⟨v', rfl, o2, f2, c2⟩
  have hbn : b ∉ (Value.slice a n cap).ownBlock.toList := by
    intro hq
    have := HBB.out b (by simpa using hq)
    omega
  have h2 := h.1.keep c2 hbn
  have d1 := h2.cell 0
  have d2 := h2.frozen 0
  obtain ⟨a4, cap4, rfl, _⟩ := o2.form
  generalize hm : (p ++ q).length = m at *
  have HM := Lib.hid hm
  clear c HD hi hm
  go_wp2
  go_ret
  have cs := (Ch.refl [b] w2).setCell (p := ⟨b, 0, none⟩) (.inl (by simp)) (.slice a4 m cap4)
  refine ⟨rfl, _, ⟨by simpa using h2.set 0 (.slice a4 m cap4), ?_⟩, f2, ?_⟩
  · exact (o2.keep cs (by
      intro k hk he
      simp at hk
      subst hk
      have := o2.2 _ he
      omega)).1
  · exact (c2.mono (by intro k hk; exact .inl (List.mem_cons_of_mem _ hk))).trans (cs.mono (by intro k hk; exact .inl (by simp at hk; subst hk; simp)))
end Go.Proofs.Yteghenfdncgpeaa
