/-
  bynamelaw06.PieceAlone answers true. No condition.
-/
import Derived.Test.YtjipgimnhkliaaaPieceL
import Derived.Test.YtjipgimnhkliaaaPure06B
namespace Go.Proofs.Ytjipgimnhkliaaa
open Go.RowKit

set_option maxHeartbeats 4000000 in
set_option maxRecDepth 100000 in
theorem palone_any (w : World) (A : Option Addr) (n c : Nat) (bs : List Int) (most : Int) (hB : Bys w A n bs) (hc : n ≤ c) (h0 : 0 ≤ most) (hm : most < 18446744073709551616) :
    Calls Try.prog 8 #[.slice A n c, .int .u64 most] w fun e w' => e = .returned (.bool true) ∧ Below w.heap.size w w' := by
  have HM := hide hm
  clear hm
  by_cases hl : 100 < n
  · have hl' : (100 : Int) < (n : Int) := by omega
    go_enter Try.func8, Try.ntmps8
    go_wp2_with fail
    refine (palive_any w).mono ?_
    rintro e w1 ⟨rfl, hb1⟩
    go_wp2
    go_ret
    exact ⟨rfl, hb1⟩
  · have hl' : (n : Int) ≤ 100 := by omega
    go_enter Try.func8, Try.ntmps8
    go_wp2_with fail
    refine (palive_any w).mono ?_
    rintro e w1 ⟨rfl, hb1⟩
    have B1 := hB.below hb1
    go_wp2_with fail
    refine (New_any w1 A n c bs B1 (by omega)).mono ?_
    rintro e w2 ⟨g, h, rfl, hR, hg, hh, hb2⟩
    have b2 := Below.then_ hb1 hb2
    have B2 := B1.below hb2
    obtain ⟨N, U, X, hpe⟩ : ∃ N U X, Rd.peek bs most.toNat = (N, U, X) := ⟨_, _, _, rfl⟩
    have c0 : Rd.count ⟨bs, 0⟩ most.toNat = (N, ⟨bs.drop U, X⟩) := by simp [Rd.count, hpe]
    have HP := hide hpe
    clear hpe
    go_wp2_with fail
    refine (RCount_any w2 g h _ most hR h0).mono ?_
    rw [c0]
    rintro e w3 ⟨rfl, hR3, ho3⟩
    have b3 := ho3.under b2 (fun i hi => by have := hb1.size; omega)
    have B3 : Bys w3 A n bs := B2.keep ho3 (fun h0 ad e hi => by have := B1.lt h0 ad e; omega)
    clear c0
    go_wp2_with fail
    refine (Err_any w3 g h _ hR3).mono ?_
    rintro e w4 ⟨rfl, rfl⟩
    by_cases hX : X = 0
    · subst hX
      obtain ⟨q1, q2, q3⟩ := peek_back bs most.toNat B3.2.1 N U HP.out
      have hNm : (N : Int) ≤ most := by omega
      have HQ1 := hide q1
      have hUn : U ≤ n := by rw [← B3.1]; exact q2
      have hNU : U64 N := ⟨by omega, by have := HM.out; omega⟩
      clear q1 q2 q3
      go_wp2_with fail
      obtain ⟨S, hS⟩ : ∃ S, S = ba (cnt N) := ⟨_, rfl⟩
      have HS := hide hS
      obtain ⟨A2, hs3, hs4, hBA2, _⟩ := slice_head A n c U hUn hc
      obtain ⟨V, hV⟩ : ∃ V, (bs.drop U).length = V := ⟨_, rfl⟩
      have hlen : V = n - U := by rw [← hV, List.length_drop, B3.1]
      have HLEN := hide hV
      have hsubI : (n : Int) - (V : Int) = (U : Int) := by omega
      have hsub : IntKind.i64.wrap ((n : Int) - (V : Int)) = (U : Int) := by rw [IntKind.wrap_i64]; omega
      clear hS hlen hV hsubI
      have hstr := hide (show ∀ (w' : World) (A' : Option Addr) (n' c' : Nat) (xs : List Int), Bys w' A' n' xs → xs = cnt N → (convert 24 9 (.slice A' n' c')).run Try.prog w' = .ok (.string S) w' from fun w' A' n' c' xs h e => by rw [HS.out, ← e]; exact run_str w' A' n' c' xs h)
      have hsub2 := hide (hBA2)
      go_region_held (fun _ => True) (trivial) (first | (go_at_call 35; refine (Count_any _ _ none 0 0 [] N (Below.refl _ _) (Bys.nil _ _) (Nat.le_refl _) hNU.1 hNU.2 (by decide)).mono ?_; rintro e w5 ⟨A5, n5, c5, rfl, t5, f5⟩; have hb5 := Below.undrew t5.below; have B5 := B3.below hb5; have hR5 := hR3.below hb5; have s50 := hstr.out w5 A5 n5 c5 _ t5.bys (by simp); have s51 := hstr.out w5.drew A5 n5 c5 _ t5.bys (by simp); have s60 := hstr.out w5 A2 U c _ (hsub2.out w5 bs B5) HQ1.out.symm; have s61 := hstr.out w5.drew A2 U c _ (hsub2.out w5 bs B5) HQ1.out.symm; have s62 := hstr.out w5.drew.drew A2 U c _ (hsub2.out w5 bs B5) HQ1.out.symm) | (go_at_call 34; (first | (with_reducible refine (Left_any _ g h _ hR5).mono ?_) | (with_reducible refine (Left_any _ g h _ hR5.drew).mono ?_) | (with_reducible refine (Left_any _ g h _ hR5.drew.drew).mono ?_)); rintro e w6 ⟨rfl, rfl⟩; rw [HLEN.out]))
      all_goals
        go_wp2
        go_ret
        have hz := Below.then_ b3 hb5
        first | exact ⟨rfl, hz⟩ | exact ⟨rfl, hz.drew⟩ | exact ⟨rfl, hz.drew.drew⟩ | exact ⟨rfl, hz.drew.drew.drew⟩
    · have hpz := peek_zero_or bs most.toNat (by rw [HP.out]; exact hX)
      rw [HP.out] at hpz
      obtain ⟨rfl, rfl⟩ : N = 0 ∧ U = 0 := hpz
      have hX1 : (X != 0) = true := by simpa using hX
      have HL := hide B3.1
      clear hX
      go_wp2_with fail
      refine (Left_any w3 g h _ hR3).mono ?_
      rintro e w4 ⟨rfl, rfl⟩
      simp only [List.drop_zero, HL.out]
      go_wp2
      go_ret
      exact ⟨rfl, b3⟩
end Go.Proofs.Ytjipgimnhkliaaa
