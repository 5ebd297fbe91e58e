/-
  CoinNames: the law's walk.
-/
import Derived.Test.YtfloclamdpageaaCoinF
namespace Go.Proofs.Ytfloclamdpageaa
open Go.RowKit

theorem nm_sum : sumFrom ([(⟨2000000000000, none, 0, 0, []⟩ : OutV), ⟨1, none, 0, 0, []⟩].map (·.v)) 0 = (0, 91) := by kernel_rfl
theorem nm_none : sumFrom (([] : List OutV).map (·.v)) 0 = (0, 0) := by kernel_rfl
theorem nm_short : parse [] = (zeroC, 61) := by kernel_rfl
theorem nm_form : parse [0, 255, 255, 255, 255, 255, 255, 255, 255] = (zeroC, 62) := by kernel_rfl
theorem nm_most : moneyB 2000000000000 = true := by kernel_rfl
theorem nm_less : moneyB (-1) = false := by kernel_rfl
theorem nm_outs (w : World) : OutsIn (w.alloc (.cells #[.int .i64 2000000000000, .slice none 0 0, .int .i64 1, .slice none 0 0] 24)) (some ⟨w.heap.size, 0, none⟩) 2 [⟨2000000000000, none, 0, 0, []⟩, ⟨1, none, 0, 0, []⟩] := by
  have B := Blk.new w 24 [.int .i64 2000000000000, .slice none 0 0, .int .i64 1, .slice none 0 0]
  refine ⟨rfl, fun a ha => ?_, fun _ => ⟨_, 0, rfl, fun i a hi => ?_⟩⟩
  · simp only [List.mem_cons, List.mem_nil_iff, or_false] at ha
    rcases ha with rfl | rfl
    · exact ⟨by decide, Bys.nil _ _, Nat.le_refl _⟩
    · exact ⟨by decide, Bys.nil _ _, Nat.le_refl _⟩
  · rcases i with _ | _ | i
    · simp at hi; subst hi
      refine B.range _ _ fun j v hv => ?_
      rcases j with _ | _ | j <;> simp [OutV.cells] at hv ⊢ <;> assumption
    · simp at hi; subst hi
      refine B.range _ _ fun j v hv => ?_
      rcases j with _ | _ | j <;> simp [OutV.cells] at hv ⊢ <;> assumption
    · simp at hi
theorem nm_bys (w : World) : Bys (w.alloc (.cells #[.int .u8 0, .int .u8 255, .int .u8 255, .int .u8 255, .int .u8 255, .int .u8 255, .int .u8 255, .int .u8 255, .int .u8 255] 5)) (some ⟨w.heap.size, 0, none⟩) 9 [0, 255, 255, 255, 255, 255, 255, 255, 255] :=
  Bys.lit w _ [0, 255, 255, 255, 255, 255, 255, 255, 255] (by intro x hx; simp only [List.mem_cons, List.mem_nil_iff, or_false] at hx; omega)
set_option maxHeartbeats 4000000 in
set_option maxRecDepth 100000 in
theorem coinnames_any (w : World) : Calls Try.prog 5 #[] w fun e w' => e = .returned (.bool true) ∧ Below w.heap.size w w' := by
  go_enter Try.func5, Try.ntmps5
  go_wp2_with fail
  refine (Sum_any _ (some ⟨w.heap.size, 0, none⟩) 2 2 [⟨2000000000000, none, 0, 0, []⟩, ⟨1, none, 0, 0, []⟩] (nm_outs w) (by decide)).mono ?_
  rintro e w1 ⟨rfl, hb1⟩
  rw [nm_sum]
  have HB1 := hide (Below.then_ (below_alloc (Below.refl _ w) _) hb1)
  clear hb1
  go_wp2_with fail
  refine (Parse_any w1 none 0 0 [] (Bys.nil _ _) (by decide)).mono ?_
  rintro e w2 ⟨⟨⟨v2, A2, n2, c2, xs2⟩, h2, p2⟩, rfl, hd2, F2, hb2⟩
  rw [nm_short]
  simp only [CoinV.val]
  have HB2 := hide (below_alloc (Below.then_ HB1.out hb2) (.cells #[.int .i64 v2, .slice A2 n2 c2, .int .i64 h2, .bool p2] 26))
  clear hb2 hd2 F2
  have Y := nm_bys (w2.alloc (.cells #[.int .i64 v2, .slice A2 n2 c2, .int .i64 h2, .bool p2] 26))
  rw [World.size_alloc] at Y
  have HY := hide Y
  clear Y
  go_wp2_with fail
  refine (Parse_any _ _ 9 9 [0, 255, 255, 255, 255, 255, 255, 255, 255] HY.out (by decide)).mono ?_
  rintro e w3 ⟨⟨⟨v3, A3, n3, c3, xs3⟩, h3, p3⟩, rfl, hd3, F3, hb3⟩
  rw [nm_form]
  simp only [CoinV.val]
  have HB3 := hide (below_alloc (Below.then_ (below_alloc HB2.out _) hb3) (.cells #[.int .i64 v3, .slice A3 n3 c3, .int .i64 h3, .bool p3] 26))
  clear hb3 hd3 F3
  go_wp2_with fail
  refine (Sum_any _ none 0 0 [] (RowsIn.nil _ _ _ _ _) (by decide)).mono ?_
  rintro e w4 ⟨rfl, hb4⟩
  rw [nm_none]
  have HB4 := hide (Below.then_ HB3.out hb4)
  clear hb4
  go_wp2_with fail
  refine (coinalive_any _).mono ?_
  rintro e w5 ⟨rfl, hb5⟩
  have HB5 := hide (Below.then_ HB4.out hb5)
  clear hb5
  go_wp2_with fail
  refine (Money_any _ 2000000000000).mono ?_
  rintro e w6 ⟨rfl, rfl⟩
  rw [nm_most]
  go_wp2_with fail
  refine (Money_any _ (-1)).mono ?_
  rintro e w6 ⟨rfl, rfl⟩
  rw [nm_less]
  go_wp2_with fail
  go_ret
  exact ⟨rfl, HB5.out⟩
end Go.Proofs.Ytfloclamdpageaa
