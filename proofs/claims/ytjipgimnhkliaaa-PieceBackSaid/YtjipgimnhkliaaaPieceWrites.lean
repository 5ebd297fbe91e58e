/-
  bynamelaw06.PieceWrites answers true. No condition.
-/
import Derived.Test.YtjipgimnhkliaaaPieceL
import Derived.Test.YtjipgimnhkliaaaPure06B
namespace Go.Proofs.Ytjipgimnhkliaaa
open Go.RowKit

def AllLe (k : Nat) (xss : List (List Int)) : Prop := ∀ x ∈ xss, x.length ≤ k
theorem AllLe.snoc {k : Nat} {xss : List (List Int)} {x : List Int} (h : AllLe k xss) (hx : x.length ≤ k) : AllLe k (xss ++ [x]) := fun y hy => by
  rcases List.mem_append.1 hy with h1 | h1
  · exact h y h1
  · simp at h1; subst h1; exact hx
set_option maxHeartbeats 4000000 in
set_option maxRecDepth 100000 in
theorem pwrites_skip (w : World) (A : Option Addr) (m c : Nat) (n : Int) (B : Option Addr) (l cB : Nat) (h : 100 < m ∨ 9 < l) :
    Calls Try.prog 9 #[.slice A m c, .int .u64 n, .slice B l cB] w fun e w' => e = .returned (.bool true) ∧ Below w.heap.size w w' := by
  have key : (100 : Int) < (m : Int) ∨ ((m : Int) ≤ 100 ∧ (9 : Int) < (l : Int)) := by omega
  clear h
  rcases key with h1 | ⟨h1, h2⟩
  all_goals
    go_enter Try.func9, Try.ntmps9
    go_wp2_with fail
    refine (palive_any w).mono ?_
    rintro e w1 ⟨rfl, hb1⟩
    go_wp2
    go_ret
    exact ⟨rfl, hb1⟩
set_option maxHeartbeats 8000000 in
set_option maxRecDepth 100000 in
theorem pwrites_any (w : World) (A : Option Addr) (m c : Nat) (bs : List Int) (n : Int) (B : Option Addr) (l cB : Nat) (xss : List (List Int)) (hB : Bys w A m bs) (hc : m ≤ c) (hn : U64 n) (hX : Byss w B l xss) (hm : (m : Int) ≤ 100) (hl : (l : Int) ≤ 9) :
    Calls Try.prog 9 #[.slice A m c, .int .u64 n, .slice B l cB] w fun e w' => e = .returned (.bool true) ∧ Below w.heap.size w w' := by
  have HM := hide hX.1
  go_enter Try.func9, Try.ntmps9
  go_wp2_with fail
  refine (palive_any w).mono ?_
  rintro e w1 ⟨rfl, hb1⟩
  obtain ⟨S0, hS0⟩ : ∃ S, S = ba bs := ⟨_, rfl⟩
  have str0 := hide (show ∀ w' : World, Below w.heap.size w w' → (convert 24 9 (.slice A m c)).run Try.prog w' = .ok (.string S0) w' from fun w' hb => by rw [hS0]; exact run_str w' A m c bs (hB.below hb))
  have s0 := str0.out w1 hb1
  clear hS0
  go_wp2_with (at_builtin; refine wpList_app rfl _ _ rfl w1 _ 0 0 [] (by rfl) (Mine.nil ((Below.refl _ w1).alloc (Nat.le_refl _) _) _) A m c bs (by rfl) ((hB.below hb1).alloc _) (by omega) ?_; intro A2 n2 c2 w2 t2 f2)
  rw [List.nil_append] at t2
  have hl2 : n2 ≤ 100 := by rw [← t2.len, hB.1]; omega
  refine (refcount_any w2 w2 n (Below.refl _ _) hn.1 hn.2).mono ?_
  rintro e w3 ⟨A3, n3, c3, rfl, t3, f3⟩
  have t2' := t2.keep t3.below
  have hl3 : n3 ≤ 9 := by rw [← t3.len]; exact (cnt_length _).2
  clear s0
  go_wp2_with (at_builtin; refine wpList_app rfl _ _ rfl w1 A2 n2 c2 _ (by rfl) t2' A3 n3 c3 _ (by rfl) t3.bys (by omega) ?_; intro A4 n4 c4 w4 t4 f4)
  have hl4 : n4 ≤ 109 := by have e1 := t4.len; have e2 := t2.len; have e3 := t3.len; rw [List.length_append] at e1; omega
  go_loopw [8, 10, 33] (fun o x i wr => ∃ (j : Nat) (A' : Option Addr) (n' c' : Nat), j ≤ l ∧ o = .slice A' n' c' ∧ i = .int .i64 j ∧ n' ≤ 109 + j * 309 ∧ Mine 5 w1 wr A' n' c' (bs ++ cnt n.toNat ++ (xss.take j).flatMap txt) ∧ AllLe 300 (xss.take j)) (fun _ _ i _ => l - (intOf i).toNat)
  case atStart => exact ⟨0, A4, n4, c4, by omega, rfl, rfl, by omega, by simpa using t4, by simp [AllLe]⟩
  case round =>
    obtain ⟨j, A', n', c', hj, rfl, rfl, hn', ht, hall⟩ := hrel
    obtain ⟨w5, hw5⟩ : ∃ w5, w5 = wr := ⟨_, rfl⟩
    subst hw5
    have b5 := Below.then_ hb1 ht.below
    by_cases hlt : j < l
    · obtain ⟨b, off, rfl, hrow⟩ := hX.2 (by omega)
      obtain ⟨x, hx⟩ : ∃ x, xss[j]? = some x := ⟨_, List.getElem?_eq_getElem (by rw [HM.out]; exact hlt)⟩
      obtain ⟨A5, n5, c5, hcell, hBx, hcx⟩ := hrow j x hx
      have hcell2 := cell_under b5 hcell
      have hs : xss.take (j + 1) = xss.take j ++ [x] := by rw [List.take_add_one, hx]; rfl
      have E := hide (show bs ++ cnt n.toNat ++ (xss.take (j + 1)).flatMap txt = bs ++ cnt n.toNat ++ (xss.take j).flatMap txt ++ txt x by rw [hs, List.flatMap_append]; simp [List.append_assoc])
      have HS := hide hs
      have HR := hide hrow
      have i0 : (0 : Int) ≤ (j : Int) := by omega
      have i1 : (j : Int) < (l : Int) := by omega
      have HQ := hide hBx.1
      clear hs hx hcell hrow hX
      by_cases h300 : 300 < n5
      · have h3' : (300 : Int) < (n5 : Int) := by omega
        go_wp2
        go_ret
        exact ⟨rfl, b5⟩
      · have h3' : (n5 : Int) ≤ 300 := by omega
        go_wp2_with fail
        refine (reftext_any w5 w5 A5 n5 c5 x (Below.refl _ _) (hBx.below b5) (by omega)).mono ?_
        rintro e w6 ⟨A6, n6, c6, rfl, t6, f6⟩
        have hl6 : n6 ≤ 309 := by have e1 := t6.len; have e2 := HQ.out; have e3 := (cnt_length x.length).2; rw [txt, List.length_append] at e1; omega
        have ht' := ht.keep t6.below
        go_wp2_with (at_builtin; refine wpList_app rfl _ _ rfl w1 A' n' c' _ (by rfl) ht' A6 n6 c6 _ (by rfl) t6.bys (by omega) ?_; intro A7 n7 c7 w7 t7 f7)
        have hl7 : n7 ≤ 109 + (j + 1) * 309 := by have e1 := t7.len; have e2 := ht.len; have e3 := t6.len; rw [List.length_append] at e1; omega
        go_wp2
        exact ⟨⟨j + 1, A7, n7, c7, by omega, rfl, by simp, hl7, by rw [E.out]; exact t7, by rw [HS.out]; exact hall.snoc (by have := HQ.out; omega)⟩, by simp [intOf]; omega⟩
    · obtain rfl : j = l := by omega
      rw [List.take_of_length_le (by rw [HM.out]; exact Nat.le_refl _)] at ht hall
      have HX := hide hX
      clear hX
      go_wp2
      go_loopw [11, 12] (fun i _ wr => ∃ z : Int, -1 ≤ z ∧ z ≤ 10 ∧ i = .int .i64 z ∧ Below w5.heap.size w5 wr) (fun i _ _ => (10 - intOf i).toNat)
      case atStart => exact ⟨-1, by omega, by omega, rfl, Below.refl _ _⟩
      case round =>
        obtain ⟨z, hz1, hz2, rfl, hb6⟩ := hrel
        obtain ⟨w6, hw6⟩ : ∃ w6, w6 = wr := ⟨_, rfl⟩
        subst hw6
        have b6 := Below.then_ b5 hb6
        by_cases hz9 : z ≤ 9
        · obtain ⟨S, hS⟩ : ∃ S, S = ba (bs ++ dig n.toNat (Rd.within z).toNat) := ⟨_, rfl⟩
          have hstr := hide (show ∀ (w' : World) (A' : Option Addr) (n' c' : Nat) (xs : List Int), Bys w' A' n' xs → xs = bs ++ dig n.toNat (Rd.within z).toNat → (convert 24 9 (.slice A' n' c')).run Try.prog w' = .ok (.string S) w' from fun w' A' n' c' xs h e => by rw [hS, ← e]; exact run_str w' A' n' c' xs h)
          clear hS
          go_wp2_with (at_builtin; refine wpList_app rfl _ _ rfl w6 _ 0 0 [] (by rfl) (Mine.nil ((Below.refl _ w6).alloc (Nat.le_refl _) _) _) A m c bs (by rfl) ((hB.below b6).alloc _) (by omega) ?_; intro A7 n7 c7 w7 t7 f7)
          rw [List.nil_append] at t7
          have hl7 : n7 ≤ 100 := by rw [← t7.len, hB.1]; omega
          refine (reffixed_any w7 w7 n z (Below.refl _ _) hn.1 hn.2).mono ?_
          rintro e w8 ⟨A8, n8, c8, rfl, t8, f8⟩
          have t7' := t7.keep t8.below
          have hl8 : n8 ≤ 8 := by rw [← t8.len, dig_length]; have := within_range z; omega
          go_wp2_with (at_builtin; refine wpList_app rfl _ _ rfl w6 A7 n7 c7 _ (by rfl) t7' A8 n8 c8 _ (by rfl) t8.bys (by omega) ?_; intro A9 n9 c9 w9 t9 f9)
          have b9 := Below.then_ b6 t9.below
          have s1 := hstr.out w9 A9 n9 c9 _ t9.bys rfl
          have s2 := hstr.out w9.drew A9 n9 c9 _ t9.bys rfl
          have B9 := hB.below b9
          have B9d : Bys w9.drew A m bs := B9
          have HN1 := hide hn.1
          have HN2 := hide hn.2
          go_region_held (fun _ => True) (trivial) ((go_at_call 39; (first | (with_reducible refine (Fixed_any w9 w9 A m c bs n z (Below.refl _ _) B9 HN1.out HN2.out (by omega)).mono ?_) | (with_reducible refine (Fixed_any w9.drew w9.drew A m c bs n z (Below.refl _ _) B9d HN1.out HN2.out (by omega)).mono ?_)); rintro e w10 ⟨A10, n10, c10, rfl, t10, f10⟩; have b10 : Below w9.heap.size w9 w10 := Below.undrew' t10.below; have s3 := hstr.out w10 A10 n10 c10 _ t10.bys rfl; have s4 := hstr.out w10.drew A10 n10 c10 _ t10.bys rfl; have BB := t9.bys.below b10; have s5 := hstr.out w10 A9 n9 c9 _ BB rfl; have s6 := hstr.out w10.drew A9 n9 c9 _ BB rfl; have s7 := hstr.out w10.drew.drew A9 n9 c9 _ BB rfl))
          all_goals
            have hfin := Below.then_ hb6 (Below.then_ t9.below b10)
            go_wp2
            first
              | exact ⟨⟨z + 1, by omega, by omega, by simp, hfin⟩, by simp [intOf]; omega⟩
              | exact ⟨⟨z + 1, by omega, by omega, by simp, hfin.drew⟩, by simp [intOf]; omega⟩
              | exact ⟨⟨z + 1, by omega, by omega, by simp, hfin.drew.drew⟩, by simp [intOf]; omega⟩
        · obtain ⟨S, hS⟩ : ∃ S, S = ba (bs ++ cnt n.toNat ++ xss.flatMap txt) := ⟨_, rfl⟩
          have hstr := hide (show ∀ (w' : World) (A' : Option Addr) (n' c' : Nat) (xs : List Int), Bys w' A' n' xs → xs = bs ++ cnt n.toNat ++ xss.flatMap txt → (convert 24 9 (.slice A' n' c')).run Try.prog w' = .ok (.string S) w' from fun w' A' n' c' xs h e => by rw [hS, ← e]; exact run_str w' A' n' c' xs h)
          clear hS
          have T6 := ht.bys.below hb6
          have B6 := hB.below b6
          have X6 := HX.out.below b6
          have HN1 := hide hn.1
          have HN2 := hide hn.2
          have hx6 := hide (show ∀ x ∈ xss, x.length ≤ 1000000 from fun x hx => by have := hall x hx; omega)
          have hj6 := hide (show j ≤ 10000 by omega)
          have B6d : Bys w6.drew A m bs := B6
          have sA0 := hstr.out w6 A' n' c' _ T6 rfl
          have sA1 := hstr.out w6.drew A' n' c' _ T6 rfl
          go_wp2_with fail
          go_region_held (fun _ => True) (trivial) (first
            | (go_at_call 35; (first | (with_reducible refine (Count_any w6 w6 A m c bs n (Below.refl _ _) B6 hc HN1.out HN2.out (by omega)).mono ?_) | (with_reducible refine (Count_any w6.drew w6.drew A m c bs n (Below.refl _ _) B6d hc HN1.out HN2.out (by omega)).mono ?_)); rintro e w7 ⟨A7, n7, c7, rfl, t7, f7⟩; have b7 : Below w6.heap.size w6 w7 := Below.undrew' t7.below; have X7 := X6.below b7; have X7d : Byss w7.drew B j xss := X7; have B7 := t7.bys; have B7d : Bys w7.drew A7 n7 _ := B7; have hl7 : n7 ≤ 1000000000 := (by have e1 := t7.len; have e2 := (cnt_length n.toNat).2; have e3 := hB.1; rw [List.length_append] at e1; omega); have T7 := T6.below b7; have sB0 := hstr.out w7 A' n' c' _ T7 rfl; have sB1 := hstr.out w7.drew A' n' c' _ T7 rfl)
            | (go_at_call 40; (first | (with_reducible refine (Text_any w7 w7 A7 n7 c7 _ B j cB xss (Below.refl _ _) B7 X7 hl7 hj6.out hx6.out).mono ?_) | (with_reducible refine (Text_any w7.drew w7.drew A7 n7 c7 _ B j cB xss (Below.refl _ _) B7d X7d hl7 hj6.out hx6.out).mono ?_)); rintro e w8 ⟨A8, n8, c8, rfl, t8, f8⟩; have b8 : Below w7.heap.size w7 w8 := Below.undrew' t8.below; have b68 := Below.then_ b7 b8; have T8 := T6.below b68; have sC0 := hstr.out w8 A' n' c' _ T8 rfl; have sC1 := hstr.out w8.drew A' n' c' _ T8 rfl; have sC2 := hstr.out w8.drew.drew A' n' c' _ T8 rfl; have sD0 := hstr.out w8 A8 n8 c8 _ t8.bys rfl; have sD1 := hstr.out w8.drew A8 n8 c8 _ t8.bys rfl; have sD2 := hstr.out w8.drew.drew A8 n8 c8 _ t8.bys rfl; have b88 := Below.then_ b6 b68; have sE0 := str0.out w8 b88; have sE1 := str0.out w8.drew b88.drew; have sE2 := str0.out w8.drew.drew b88.drew.drew; have sE3 := str0.out w8.drew.drew.drew b88.drew.drew.drew))
          all_goals
            go_wp2
            go_ret
            first | exact ⟨rfl, b88⟩ | exact ⟨rfl, b88.drew⟩ | exact ⟨rfl, b88.drew.drew⟩ | exact ⟨rfl, b88.drew.drew.drew⟩
theorem pwrites_all (w : World) (A : Option Addr) (m c : Nat) (bs : List Int) (n : Int) (B : Option Addr) (l cB : Nat) (xss : List (List Int)) (hB : Bys w A m bs) (hc : m ≤ c) (hn : U64 n) (hX : Byss w B l xss) :
    Calls Try.prog 9 #[.slice A m c, .int .u64 n, .slice B l cB] w fun e w' => e = .returned (.bool true) ∧ Below w.heap.size w w' := by
  by_cases h : 100 < m ∨ 9 < l
  · exact pwrites_skip w A m c n B l cB h
  · exact pwrites_any w A m c bs n B l cB xss hB hc hn hX (by omega) (by omega)
end Go.Proofs.Ytjipgimnhkliaaa
