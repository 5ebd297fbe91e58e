/-
  pieceAlive, PieceNames.
-/
import Derived.Test.YtjipgimnhkliaaaStr
namespace Go.Proofs.Ytjipgimnhkliaaa
open Go.RowKit

set_option maxHeartbeats 2000000 in
set_option maxRecDepth 100000 in
theorem palive_any (w : World) : Calls Try.prog 30 #[] w fun e w' => e = .returned (.bool true) ∧ Below w.heap.size w w' := by
  go_enter Try.func30, Try.ntmps30
  go_wp2_with fail
  refine (Count_any w w none 0 0 [] 253 (Below.refl _ _) (Bys.nil _ _) (Nat.le_refl _) (by decide) (by decide) (by decide)).mono ?_
  rintro e w1 ⟨A1, n1, c1, rfl, t1, f1⟩
  have hn1 : n1 = 3 := by rw [← t1.len]; decide
  subst hn1
  go_wp2_with fail
  refine (New_any w1 A1 3 c1 _ t1.bys (by decide)).mono ?_
  rintro e w2 ⟨g, h, rfl, hR, hg, hh, hb2⟩
  have s1 := run_str w2 A1 3 c1 _ (t1.bys.below hb2)
  have e1 : ba ([] ++ cnt (253 : Int).toNat) = ⟨#[253, 253, 0]⟩ := by decide
  rw [e1] at s1
  have c0 : Rd.count ⟨[] ++ cnt (253 : Int).toNat, 0⟩ (300 : Int).toNat = (253, ⟨[], 0⟩) := by rfl
  clear e1
  go_wp2_with fail
  refine (RCount_any w2 g h _ 300 hR (by decide)).mono ?_
  rw [c0]
  clear c0
  rintro e w3 ⟨rfl, hR3, ho3⟩
  go_wp2_with fail
  refine (Left_any w3 g h _ hR3).mono ?_
  rintro e w4 ⟨rfl, rfl⟩
  go_wp2_with fail
  refine (Err_any w3 g h _ hR3).mono ?_
  rintro e w4 ⟨rfl, rfl⟩
  go_wp2
  go_ret
  refine ⟨rfl, ?_⟩
  exact ho3.under (Below.then_ t1.below hb2) (fun i hi => by have := t1.below.size; omega)
set_option maxHeartbeats 4000000 in
set_option maxRecDepth 100000 in
theorem pnames_any (w : World) : Calls Try.prog 10 #[] w fun e w' => e = .returned (.bool true) ∧ Below w.heap.size w w' := by
  go_enter Try.func10, Try.ntmps10
  go_wp2_with fail
  refine (palive_any w).mono ?_
  rintro e w1 ⟨rfl, hb1⟩
  have B1 := Bys.lit w1 5 [253, 252, 0] (by intro x hx; simp at hx; omega)
  simp only [bcs, List.map_cons, List.map_nil, List.length_cons, List.length_nil, Nat.zero_add, Nat.reduceAdd] at B1
  go_wp2_with fail
  refine (New_any _ _ 3 3 _ B1 (by decide)).mono ?_
  rintro e w2 ⟨g, h, rfl, hR, hg, hh, hb2⟩
  have b2 : Below w.heap.size w w2 := Below.then_ hb1 (Below.then_ ((Below.refl _ w1).alloc (Nat.le_refl _) _) hb2)
  go_wp2_with fail
  refine (New_any w2 none 0 0 [] (Bys.nil _ _) (by decide)).mono ?_
  rintro e w3 ⟨g2, h2, rfl, hR2, hg2, hh2, hb3⟩
  have b3 : Below w.heap.size w w3 := Below.then_ b2 hb3
  have hR3 := hR.below hb3
  have hz := hR.lt
  have c0 : Rd.count ⟨[253, 252, 0], 0⟩ (1000 : Int).toNat = (0, ⟨[253, 252, 0], 62⟩) := by rfl
  go_wp2_with fail
  refine (RCount_any w3 g h _ 1000 hR3 (by decide)).mono ?_
  rw [c0]
  rintro e w4 ⟨rfl, hR4, ho4⟩
  have hR24 := hR2.keep ho4 (by omega) (by omega)
  have b4 := ho4.under b3 (fun i hi => by have := hb1.size; simp at hg; omega)
  have c1 : Rd.fixed ⟨[], 0⟩ 4 = (0, ⟨[], 61⟩) := by rfl
  clear c0
  go_wp2_with fail
  refine (RFixed_any w4 g2 h2 _ 4 hR24).mono ?_
  rw [c1]
  rintro e w5 ⟨rfl, hR5, ho5⟩
  have hR45 := hR4.keep ho5 (by omega) (by omega)
  have b5 := ho5.under b4 (fun i hi => by have := b2.size; omega)
  clear c1
  go_wp2_with fail
  refine (Err_any w5 g h _ hR45).mono ?_
  rintro e w6 ⟨rfl, rfl⟩
  go_wp2_with fail
  refine (Left_any w5 g h _ hR45).mono ?_
  rintro e w6 ⟨rfl, rfl⟩
  go_wp2_with fail
  refine (Err_any w5 g2 h2 _ hR5).mono ?_
  rintro e w6 ⟨rfl, rfl⟩
  go_wp2_with fail
  refine (Count_any w5 w5 none 0 0 [] 65536 (Below.refl _ _) (Bys.nil _ _) (Nat.le_refl _) (by decide) (by decide) (by decide)).mono ?_
  rintro e w6 ⟨A6, n6, c6, rfl, t6, _⟩
  have hn6 : n6 = 5 := by rw [← t6.len]; decide
  subst hn6
  go_wp2_with fail
  refine (Count_any w6 w6 none 0 0 [] 4294967296 (Below.refl _ _) (Bys.nil _ _) (Nat.le_refl _) (by decide) (by decide) (by decide)).mono ?_
  rintro e w7 ⟨A7, n7, c7, rfl, t7, _⟩
  have hn7 : n7 = 9 := by rw [← t7.len]; decide
  subst hn7
  go_wp2_with fail
  refine (Fixed_any w7 w7 none 0 0 [] 5 99 (Below.refl _ _) (Bys.nil _ _) (by decide) (by decide) (by decide)).mono ?_
  rintro e w8 ⟨A8, n8, c8, rfl, t8, _⟩
  have hn8 : n8 = 8 := by rw [← t8.len]; decide
  subst hn8
  go_wp2_with fail
  refine (Fixed_any w8 w8 none 0 0 [] 5 (-1) (Below.refl _ _) (Bys.nil _ _) (by decide) (by decide) (by decide)).mono ?_
  rintro e w9 ⟨A9, n9, c9, rfl, t9, _⟩
  have hn9 : n9 = 0 := by rw [← t9.len]; decide
  subst hn9
  go_wp2
  go_ret
  exact ⟨rfl, Below.then_ (Below.then_ (Below.then_ (Below.then_ b5 t6.below) t7.below) t8.below) t9.below⟩
end Go.Proofs.Ytjipgimnhkliaaa
