/-
  bynamelaw06.PieceBack answers true. No condition.
-/
import Derived.Test.YtjipgimnhkliaaaPieceReads
import Derived.Test.YtjipgimnhkliaaaPieceWrites
import Derived.Test.YtjipgimnhkliaaaPure06C
namespace Go.Proofs.Ytjipgimnhkliaaa
open Go.RowKit

theorem Byss.one (w w1 : World) (e : TypeId) (A : Option Addr) (n c : Nat) (x : List Int) (h : Bys w A n x) (hc : n ≤ c) (hb : Below w.heap.size w w1) : Byss (w1.alloc (.cells #[.slice A n c] e)) (some ⟨w1.heap.size, 0, none⟩) 1 [x] := by
  refine ⟨rfl, fun _ => ⟨w1.heap.size, 0, rfl, fun j xs hj => ?_⟩⟩
  rcases j with _ | j
  · simp at hj; subst hj
    exact ⟨A, n, c, by rw [Nat.zero_add]; exact (Blk.new w1 e [.slice A n c]).c0, (h.below hb).alloc _, hc⟩
  · simp at hj
set_option maxHeartbeats 4000000 in
set_option maxRecDepth 100000 in
theorem pback_skip (w : World) (n : Int) (B : Option Addr) (l cB : Nat) (cut : Int) (h : 9 < l) :
    Calls Try.prog 13 #[.int .u64 n, .slice B l cB, .int .i64 cut] w fun e w' => e = .returned (.bool true) ∧ Below w.heap.size w w' := by
  have key : (9 : Int) < (l : Int) := by omega
  clear h
  go_enter Try.func13, Try.ntmps13
  go_wp2_with fail
  refine (palive_any w).mono ?_
  rintro e w1 ⟨rfl, hb1⟩
  go_wp2
  go_ret
  exact ⟨rfl, hb1⟩
set_option maxHeartbeats 16000000 in
set_option maxRecDepth 100000 in
theorem pback_any (w : World) (n : Int) (B : Option Addr) (l cB : Nat) (xss : List (List Int)) (cut : Int) (hn : U64 n) (hX : Byss w B l xss) (hl : (l : Int) ≤ 9) :
    Calls Try.prog 13 #[.int .u64 n, .slice B l cB, .int .i64 cut] w fun e w' => e = .returned (.bool true) ∧ Below w.heap.size w w' := by
  have HM := hide hX.1
  have HX := hide hX
  have HN1 := hide hn.1
  have HN2 := hide hn.2
  have en := hide (show ((n.toNat : Nat) : Int) = n by have := hn.1; omega)
  have hnn := hide (show n.toNat < 18446744073709551616 by have := hn.1; have := hn.2; omega)
  have hW8 : Hid ((Rd.within 8).toNat = 8) := hide (by decide)
  clear hX
  go_enter Try.func13, Try.ntmps13
  go_wp2_with fail
  refine (palive_any w).mono ?_
  rintro e w1 ⟨rfl, hb1⟩
  go_wp2_with fail
  refine (Fixed_any w1 w1 none 0 0 [] n 8 (Below.refl _ _) (Bys.nil _ _) HN1.out HN2.out (by decide)).mono ?_
  rintro e w2 ⟨A2, n2, c2, rfl, t2, f2⟩
  rw [List.nil_append, hW8.out] at t2
  have hl2 : n2 ≤ 8 := by rw [← t2.len, dig_length]; exact Nat.le_refl _
  go_wp2_with fail
  refine (Count_any w2 w2 A2 n2 c2 _ n (Below.refl _ _) t2.bys t2.cap HN1.out HN2.out (by omega)).mono ?_
  rintro e w3 ⟨A3, n3, c3, rfl, t3, f3⟩
  have hl3 : n3 ≤ 17 := by rw [← t3.len, List.length_append, dig_length]; have := (cnt_length n.toNat).2; omega
  have b3 := Below.then_ (Below.then_ hb1 t2.below) t3.below
  have hc3 := t3.cap
  go_wp2
  go_loopw [7, 9, 25] (fun o _ i wr => ∃ (j : Nat) (A' : Option Addr) (n' c' : Nat), j ≤ l ∧ o = .slice A' n' c' ∧ i = .int .i64 j ∧ n' ≤ 17 + j * 309 ∧ n' ≤ c' ∧ Below w.heap.size w wr ∧ Bys wr A' n' (dig n.toNat 8 ++ cnt n.toNat ++ (xss.take j).flatMap txt) ∧ AllLe 300 (xss.take j)) (fun _ _ i _ => l - (intOf i).toNat)
  case atStart => exact ⟨0, A3, n3, c3, by omega, rfl, rfl, by omega, hc3, b3, by simpa using t3.bys, by simp [AllLe]⟩
  case round =>
    obtain ⟨j, A', n', c', hj, rfl, rfl, hn', hcc, hb5, hB', hall⟩ := hrel
    obtain ⟨w5, hw5⟩ : ∃ w5, w5 = wr := ⟨_, rfl⟩
    subst hw5
    by_cases hlt : j < l
    · obtain ⟨b, off, rfl, hrow⟩ := HX.out.2 (by omega)
      obtain ⟨x, hx⟩ : ∃ x, xss[j]? = some x := ⟨_, List.getElem?_eq_getElem (by rw [HM.out]; exact hlt)⟩
      obtain ⟨A5, n5, c5, hcell, hBx, hcx⟩ := hrow j x hx
      have hcell2 := cell_under hb5 hcell
      have hs : xss.take (j + 1) = xss.take j ++ [x] := by rw [List.take_add_one, hx]; rfl
      have E := hide (show dig n.toNat 8 ++ cnt n.toNat ++ (xss.take (j + 1)).flatMap txt = dig n.toNat 8 ++ cnt n.toNat ++ (xss.take j).flatMap txt ++ [x].flatMap txt by rw [hs, List.flatMap_append, ← List.append_assoc])
      have HS := hide hs
      have HR := hide hrow
      have i0 : (0 : Int) ≤ (j : Int) := by omega
      have i1 : (j : Int) < (l : Int) := by omega
      have HQ := hide hBx.1
      clear hs hx hcell hrow
      by_cases h300 : 300 < n5
      · have h3' : (300 : Int) < (n5 : Int) := by omega
        go_wp2
        go_ret
        exact ⟨rfl, hb5⟩
      · have h3' : (n5 : Int) ≤ 300 := by omega
        have X1 := Byss.one w w5 24 A5 n5 c5 x hBx hcx hb5
        go_wp2_with fail
        refine (Text_any _ _ A' n' c' _ _ 1 1 [x] (Below.refl _ _) (hB'.alloc _) X1 (by omega) (by decide) (by intro y hy; simp at hy; subst hy; have := HQ.out; omega)).mono ?_
        rintro e w6 ⟨A6, n6, c6, rfl, t6, f6⟩
        have hl6 : n6 ≤ 17 + (j + 1) * 309 := by
          have e1 := t6.len; have e2 := HQ.out; have e3 := (cnt_length x.length).2; have e4 := hB'.1
          rw [List.length_append] at e1
          simp only [List.flatMap_cons, List.flatMap_nil, List.append_nil, txt, List.length_append] at e1
          simp only [List.length_append] at e4
          omega
        have b6 : Below w.heap.size w w6 := Below.then_ hb5 (Below.then_ ((Below.refl _ w5).alloc (Nat.le_refl _) _) t6.below)
        have hc6 := t6.cap
        go_wp2
        exact ⟨⟨j + 1, A6, n6, c6, by omega, rfl, by simp, hl6, hc6, b6, by rw [E.out]; exact t6.bys, by rw [HS.out]; exact hall.snoc (by have := HQ.out; omega)⟩, by simp [intOf]; omega⟩
    · obtain rfl : j = l := by omega
      rw [List.take_of_length_le (by rw [HM.out]; exact Nat.le_refl _)] at hB' hall
      have HB := hide hB'
      have HA := hide hall
      clear hall hB'
      go_wp2_with fail
      refine (New_any w5 A' n' c' _ HB.out (by omega)).mono ?_
      rintro e w6 ⟨g, h, rfl, hR, hg, hh, hb6⟩
      have b6 := Below.then_ hb5 hb6
      have hz := hb5.size
      have e1 := fixed_append (dig n.toNat 8) (cnt n.toNat ++ xss.flatMap txt) 8 (by rw [dig_length]; rfl) (by decide)
      rw [← List.append_assoc, num_dig, Nat.mod_eq_of_lt (by have := hnn.out; simpa using this)] at e1
      go_wp2_with fail
      refine (RFixed_any w6 g h _ 8 hR).mono ?_
      rw [e1]
      rintro e w7 ⟨he, hR7, ho7⟩
      obtain rfl : e = .returned (.int .u64 n) := by rw [he]; simp only [en.out]
      clear he
      have b7 := ho7.under b6 (fun i hi => by omega)
      have e2 := count_append n.toNat n.toNat (xss.flatMap txt) hnn.out (Nat.le_refl _)
      clear e1
      go_wp2_with fail
      refine (RCount_any w7 g h _ n hR7 HN1.out).mono ?_
      rw [e2]
      rintro e w8 ⟨he, hR8, ho8⟩
      obtain rfl : e = .returned (.int .u64 n) := by rw [he]; simp only [en.out]
      clear he
      have b8 := ho8.under b7 (fun i hi => by omega)
      clear e2
      go_wp2
      go_loopw [12, 52] (fun _ i wr => ∃ k : Nat, k ≤ j ∧ i = .int .i64 k ∧ RdAt 96 wr g h ⟨(xss.drop k).flatMap txt, 0⟩ ∧ Below w.heap.size w wr ∧ Only (fun i => i = g) w8 wr) (fun _ i _ => j - (intOf i).toNat)
      case atStart => exact ⟨0, by omega, rfl, by simpa using hR8, b8, Only.refl _ _⟩
      case round =>
        obtain ⟨k, hk, rfl, hR9, b9, ho9⟩ := hrel
        obtain ⟨w9, hw9⟩ : ∃ w9, w9 = wr := ⟨_, rfl⟩
        subst hw9
        by_cases hlt2 : k < j
        · obtain ⟨b, off, rfl, hrow⟩ := HX.out.2 (by omega)
          obtain ⟨x, hx⟩ : ∃ x, xss[k]? = some x := ⟨_, List.getElem?_eq_getElem (by rw [HM.out]; exact hlt2)⟩
          obtain ⟨A5, n5, c5, hcell, hBx, hcx⟩ := hrow k x hx
          have hcell2 := cell_under b9 hcell
          have hkl : k < xss.length := by rw [HM.out]; exact hlt2
          have hd : xss.drop k = x :: xss.drop (k + 1) := by
            rw [List.drop_eq_getElem_cons hkl]
            rw [List.getElem?_eq_getElem hkl] at hx
            injection hx with hx
            rw [hx]
          have hxl := HA.out x (List.mem_of_getElem? hx)
          have e3 := text_append x ((xss.drop (k + 1)).flatMap txt) hxl
          rw [hd, List.flatMap_cons] at hR9
          have E3 := hide e3
          have HR := hide hrow
          have i0 : (0 : Int) ≤ (k : Int) := by omega
          have i1 : (k : Int) < (j : Int) := by omega
          obtain ⟨S, hS⟩ : ∃ S, S = ba x := ⟨_, rfl⟩
          have hstr := hide (show ∀ (w' : World) (A' : Option Addr) (n' c' : Nat) (xs : List Int), Bys w' A' n' xs → xs = x → (convert 24 9 (.slice A' n' c')).run Try.prog w' = .ok (.string S) w' from fun w' A' n' c' xs h e => by rw [hS, ← e]; exact run_str w' A' n' c' xs h)
          have BX := hide hBx
          have BX9 := hBx.below b9
          have s10 := hstr.out w9 A5 n5 c5 _ BX9 rfl
          have s11 := hstr.out w9.drew A5 n5 c5 _ BX9 rfl
          have hR9d := hR9.drew
          clear hS e3 hd hkl hx hcell hrow hBx
          go_wp2_with fail
          go_region_held (fun _ => True) (trivial) ((go_at_call 46; (first | (with_reducible refine (RText_any w9 g h _ 300 hR9 (by decide)).mono ?_) | (with_reducible refine (RText_any w9.drew g h _ 300 hR9d (by decide)).mono ?_)); rw [E3.out]; rintro e w10 ⟨A10, n10, c10, rfl, hB10, _, hf10, hR10, ho10⟩; have ho10' : Only (fun i => i = g) w9 w10 := only_undrew ho10 three; have b10 := ho10'.under b9 (fun i hi => by omega); have BB := BX.out.below b10; have s1 := hstr.out w10 A5 n5 c5 _ BB rfl; have s2 := hstr.out w10.drew A5 n5 c5 _ BB rfl; have s3 := hstr.out w10.drew.drew A5 n5 c5 _ BB rfl; have s4 := hstr.out w10 A10 n10 c10 _ hB10 rfl; have s5 := hstr.out w10.drew A10 n10 c10 _ hB10 rfl; have s6 := hstr.out w10.drew.drew A10 n10 c10 _ hB10 rfl))
          all_goals
            go_wp2
            have ho := ho9.trans ho10' (fun _ _ h => h)
            first
              | exact ⟨⟨k + 1, by omega, by simp, hR10, b10, ho⟩, by simp [intOf]; omega⟩
              | exact ⟨⟨k + 1, by omega, by simp, hR10, b10.drew, ho.drew⟩, by simp [intOf]; omega⟩
              | exact ⟨⟨k + 1, by omega, by simp, hR10, b10.drew.drew, ho.drew.drew⟩, by simp [intOf]; omega⟩
        · obtain rfl : k = j := by omega
          rw [List.drop_of_length_le (by rw [HM.out]; exact Nat.le_refl _)] at hR9
          simp only [List.flatMap_nil] at hR9
          go_wp2_with fail
          refine (Left_any w9 g h _ hR9).mono ?_
          rintro e w10 ⟨rfl, rfl⟩
          go_wp2_with fail
          refine (Err_any w9 g h _ hR9).mono ?_
          rintro e w10 ⟨rfl, rfl⟩
          by_cases hc1 : cut < 0
          · go_wp2
            go_ret
            exact ⟨rfl, b9⟩
          · have hc0 : 0 ≤ cut := by omega
            by_cases hc2 : (n' : Int) ≤ cut
            · go_wp2
              go_ret
              exact ⟨rfl, b9⟩
            · obtain ⟨C, rfl⟩ : ∃ C : Nat, cut = C := ⟨cut.toNat, by omega⟩
              have hCn : (C : Int) < (n' : Int) := by omega
              have hB9 := HB.out.below (show Below w5.heap.size w5 w9 from ?hbel)
              case hbel =>
                have h1 := (ho7.trans ho8 (fun _ _ h => h)).trans ho9 (fun _ _ h => h)
                exact h1.under hb6 (fun i hi => by omega)
              obtain ⟨A7, hs3, hs4, hBA7, _⟩ := slice_head A' n' c' C (by omega) hcc
              have B7 := hBA7 w9 _ hB9
              have hfin := back_cut n.toNat xss C hnn.out HA.out (by rw [hB9.1]; omega)
              have HF := hide hfin
              clear hfin hc1 hc2 hBA7
              go_wp2_with fail
              refine (New_any w9 A7 C c' _ B7 (by omega)).mono ?_
              rintro e w10 ⟨g2, h2, rfl, hQ, hg2, hh2, hb10⟩
              have b10 := Below.then_ b9 hb10
              have hz9 := b9.size
              clear hs3 hs4
              go_wp2_with fail
              refine (RFixed_any w10 g2 h2 _ 8 hQ).mono ?_
              rintro e w11 ⟨rfl, hQ1, ho1⟩
              have b11 := ho1.under b10 (fun i hi => by omega)
              go_wp2_with fail
              refine (RCount_any w11 g2 h2 _ n hQ1 HN1.out).mono ?_
              rintro e w12 ⟨rfl, hQ2, ho2⟩
              have b12 := ho2.under b11 (fun i hi => by omega)
              generalize (((Rd.fixed ⟨(dig n.toNat 8 ++ cnt n.toNat ++ xss.flatMap txt).take C, 0⟩ 8).2).count n.toNat).2 = r0 at *
              go_wp2
              go_loopw [90] (fun i wr => ∃ t : Nat, t ≤ k ∧ i = .int .i64 t ∧ RdAt 96 wr g2 h2 (txtRun r0 (xss.take t)) ∧ Below w.heap.size w wr) (fun i _ => k - (intOf i).toNat)
              case atStart => exact ⟨0, by omega, rfl, by simpa [txtRun] using hQ2, b12⟩
              case round =>
                obtain ⟨t, ht, rfl, hQ3, b13⟩ := hrel
                by_cases hlt3 : t < k
                · obtain ⟨x, hx⟩ : ∃ x, xss[t]? = some x := ⟨_, List.getElem?_eq_getElem (by rw [HM.out]; exact hlt3)⟩
                  have hs : xss.take (t + 1) = xss.take t ++ [x] := by rw [List.take_add_one, hx]; rfl
                  have E4 := hide (show txtRun r0 (xss.take (t + 1)) = ((txtRun r0 (xss.take t)).text 300).2 by rw [hs, txtRun_snoc])
                  clear hs hx
                  go_wp2_with fail
                  refine (RText_any _ g2 h2 _ 300 hQ3 (by decide)).mono ?_
                  rintro e w14 ⟨A14, n14, c14, rfl, _, _, _, hQ4, ho4⟩
                  have b14 := ho4.under b13 (fun i hi => by omega)
                  go_wp2
                  exact ⟨⟨t + 1, by omega, by simp, by rw [E4.out]; exact hQ4, b14⟩, by simp [intOf]; omega⟩
                · obtain rfl : t = k := by omega
                  rw [List.take_of_length_le (by rw [HM.out]; exact Nat.le_refl _)] at hQ3
                  go_wp2_with fail
                  refine (Err_any _ g2 h2 _ hQ3).mono ?_
                  rintro e w15 ⟨he, rfl⟩
                  rw [HF.out] at he
                  subst he
                  go_wp2
                  go_ret
                  exact ⟨rfl, b13⟩
theorem pback_all (w : World) (n : Int) (B : Option Addr) (l cB : Nat) (xss : List (List Int)) (cut : Int) (hn : U64 n) (hX : Byss w B l xss) :
    Calls Try.prog 13 #[.int .u64 n, .slice B l cB, .int .i64 cut] w fun e w' => e = .returned (.bool true) ∧ Below w.heap.size w w' := by
  by_cases h : 9 < l
  · exact pback_skip w n B l cB cut h
  · exact pback_any w n B l cB xss cut hn hX (by omega)
end Go.Proofs.Ytjipgimnhkliaaa
