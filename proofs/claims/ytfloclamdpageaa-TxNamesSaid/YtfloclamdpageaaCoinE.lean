/-
  coin: Parse.
-/
import Derived.Test.YtfloclamdpageaaCoinD
import Derived.Test.YtfloclamdpageaaPure09B
namespace Go.Proofs.Ytfloclamdpageaa
open Go.RowKit

theorem coin_one (v : Int) (A : Option Addr) (n c : Nat) (h : Int) (p : Bool) : ∀ x ∈ [Value.int .i64 v, .slice A n c, .int .i64 h, .bool p], x.oneCell' = true := by
  intro x hx
  simp only [List.mem_cons, List.mem_nil_iff, or_false] at hx
  rcases hx with rfl | rfl | rfl | rfl <;> rfl
theorem only_set4 (w : World) (g : Nat) (a b c d : Value) : Only (fun i => i = g) w ((((w.setCell ⟨g, 0, none⟩ a).setCell ⟨g, 1, none⟩ b).setCell ⟨g, 2, none⟩ c).setCell ⟨g, 3, none⟩ d) := by
  have h : ∀ (v : World) (k : Nat) (u : Value), Only (fun i => i = g) w v → Only (fun i => i = g) w (v.setCell ⟨g, k, none⟩ u) := fun v k u h => h.setCell (p := ⟨g, k, none⟩) (.inr rfl) u
  exact h _ _ _ (h _ _ _ (h _ _ _ (h _ _ _ (Only.refl _ w))))
theorem blk_set4 {w : World} {g : Nat} {t : TypeId} {x y z u : Value} (h : Blk w g t [x, y, z, u]) (a b c d : Value) : Blk ((((w.setCell ⟨g, 0, none⟩ a).setCell ⟨g, 1, none⟩ b).setCell ⟨g, 2, none⟩ c).setCell ⟨g, 3, none⟩ d) g t [a, b, c, d] :=
  (((h.set_ 0 a).set_ 1 b).set_ 2 c).set_ 3 d
set_option maxHeartbeats 4000000 in
set_option maxRecDepth 100000 in
theorem Parse_any (w : World) (A : Option Addr) (n c : Nat) (bs : List Int) (hB : Bys w A n bs) (hn : n ≤ 1000000000) :
    Calls Try.prog 15 #[.slice A n c] w fun e w' => ∃ V : CoinV, e = .returned (.tuple #[V.val, .int .i64 (parse bs).2]) ∧ V.d = (parse bs).1 ∧ V.Fine w' ∧ Below w.heap.size w w' := by
  have HB := hide hB
  have HN := hide hn
  have BZ := hide (Blk.new w 26 [.int .i64 0, .slice none 0 0, .int .i64 0, .bool false])
  have hb0 : Below w.heap.size w (w.alloc (.cells #[.int .i64 0, .slice none 0 0, .int .i64 0, .bool false] 26)) := below_alloc (Below.refl _ _) _
  clear hB hn
  go_enter Try.func15, Try.ntmps15
  go_wp2_with fail
  refine (New_any _ A n c bs (HB.out.below hb0) HN.out).mono ?_
  rintro e w1 ⟨g, h, rfl, hR1, hg, hh, hb1⟩
  rw [World.size_alloc] at hg hh
  have BZ1 := hide (Blk.under BZ.out hb1)
  have hb1' := hide (Below.then_ hb0 hb1)
  clear hb1 hb0 BZ
  go_wp2_with fail
  refine (RCount_any w1 g h _ 2000000001 hR1 (by decide)).mono ?_
  rintro e w2 ⟨rfl, hR2, ho2⟩
  rw [show (2000000001 : Int).toNat = 2000000001 from by decide] at hR2 ⊢
  obtain ⟨N, r2, h2⟩ : ∃ N r2, Rd.count ⟨bs, 0⟩ 2000000001 = (N, r2) := ⟨_, _, rfl⟩
  have hN := count_most ⟨bs, 0⟩ 2000000001
  rw [h2] at hR2 hN ⊢
  simp only at hR2 hN ⊢
  go_wp2_with fail
  refine (RFixed_any w2 g h _ 8 hR2).mono ?_
  rintro e w3 ⟨rfl, hR3, ho3⟩
  have hF := fixed_u64 r2 8 (by obtain ⟨_, _, _, _, hB2, _⟩ := hR2; exact hB2.2.1)
  obtain ⟨F, r3, h3⟩ : ∃ F r3, r2.fixed 8 = (F, r3) := ⟨_, _, rfl⟩
  rw [h3] at hR3 hF ⊢
  simp only at hR3 hF ⊢
  have hw3 := i64_wrap F (by omega) (by omega)
  have hv3 := i64_range F (by omega) (by omega)
  have hw4 := hide hv3
  generalize hv : i64 F = v at hw3 hv3 hw4
  go_wp2_with fail
  refine (Err_any w3 g h _ hR3).mono ?_
  rintro e w4 ⟨rfl, rfl⟩
  have ho13 := ho2.trans ho3 (fun _ _ h => h)
  have hgn : ¬ w.heap.size = g := by omega
  have hgw : w.heap.size < g := by omega
  have BZ3 := hide (ho13.blk BZ1.out hgn)
  have hb3 := hide (Below.trans hb1'.out (ho13.below hb1'.out.size (fun i hi => by omega)))
  have HI : Hid ((Try.prog.info? 26).map (·.size) = some ([.int .i64 0, .slice none 0 0, .int .i64 0, .bool false] : List Value).length) := hide (by kernel_rfl)
  have HU := hide Try.underlying26
  have HI4 : Hid ((Try.prog.info? 26).map (·.size) = some 4) := hide (by kernel_rfl)
  have HP : Hid (parse bs = if r3.err = 0 ∧ ¬ money v then (zeroC, 62) else if (r3.text 2000).2.err ≠ 0 then (zeroC, (r3.text 2000).2.err) else if 0 < (r3.text 2000).2.rest.length then (zeroC, 62) else (⟨⟨v, (r3.text 2000).1⟩, (N : Int) / 2, decide ((N : Int) % 2 = 1)⟩, 0)) := hide (by
    unfold parse; simp only [h2, h3, hv])
  clear ho13 ho2 ho3 h2 h3 hv hR1 hR2 hb1' BZ1 hv3
  by_cases he : r3.err = 0
  · by_cases hm : money v
    · have m1 := (money_iff v).2 hm
      go_wp2_with (go_at_call 21; refine (Money_any _ _).mono ?_; rintro e w' ⟨rfl, rfl⟩)
      refine (RText_any w3 g h r3 2000 hR3 (by decide)).mono ?_
      rintro e w7 ⟨A7, m7, c7, rfl, hB7, hc7, hf7, hR7, ho7⟩
      obtain ⟨T, r7, h7⟩ : ∃ T r7, r3.text 2000 = (T, r7) := ⟨_, _, rfl⟩
      rw [h7] at hB7 hR7
      simp only at hB7 hR7
      have hP := HP.out
      rw [if_neg (fun h => h.2 hm), h7] at hP
      simp only at hP
      have BZ7 := hide (ho7.blk BZ3.out hgn)
      have hb7 := hide (Below.trans hb3.out (ho7.below hb3.out.size (fun i hi => by omega)))
      clear ho7 hR3
      go_wp2_with fail
      refine (Err_any w7 g h _ hR7).mono ?_
      rintro e w8 ⟨rfl, rfl⟩
      by_cases he7 : r7.err = 0
      · rw [if_neg (fun h => h he7)] at hP
        go_wp2_with fail
        refine (Left_any w7 g h _ hR7).mono ?_
        rintro e w8 ⟨rfl, rfl⟩
        by_cases hl7 : 0 < r7.rest.length
        · rw [if_pos hl7] at hP
          have hl8 : (0 : Int) < (r7.rest.length : Int) := by omega
          have HP2 := hide hP
          clear hP hR7 hl7
          go_wp2_with (refine wpList_store_blk rfl 26 _ _ rfl w.heap.size 0 26 [.int .i64 0, .slice none 0 0, .int .i64 0, .bool false] [.int .i64 0, .slice none 0 0, .int .i64 0, .bool false] (by rfl) (by rfl) BZ7.out (by decide) HI.out (by decide) ?_; intro w9 o9 z9 b9; simp only [Act.put])
          rw [lay_all _ _ rfl] at b9
          refine bodyPost_ret (results_cell_tmp_blk rfl _ _ w.heap.size 26 _ _ (by rfl) b9 HU.out rfl HI.out) rfl ⟨⟨⟨0, none, 0, 0, []⟩, 0, false⟩, ?_, ?_, ⟨⟨by decide, Bys.nil _ _, Nat.le_refl _⟩, by decide⟩, ?_⟩
          · rw [HP2.out]; rfl
          · rw [HP2.out]; rfl
          · exact hb7.out.trans (o9.below (by exact hb7.out.size) (fun i hi => by omega))
        · rw [if_neg hl7] at hP
          have hl8 : (r7.rest.length : Int) = 0 := by omega
          have HP2 := hide hP
          clear hP hR7 hl7
          have hM0 : 0 ≤ (N : Int) := by omega
          have hM1 : (N : Int) ≤ 2000000001 := by omega
          clear hN
          generalize (N : Int) = M at HP2 hM0 hM1 ⊢
          generalize (F : Int) = FF
          obtain ⟨q, hq⟩ : ∃ q, q = M / 2 := ⟨_, rfl⟩
          obtain ⟨m, hm9⟩ : ∃ m, m = M % 2 := ⟨_, rfl⟩
          have hqa : M.tdiv 2 = q := by rw [Int.tdiv_eq_ediv_of_nonneg (by omega)]; omega
          have hqb : IntKind.u64.wrap q = q := by rw [IntKind.wrap_u64]; omega
          have hqc : IntKind.i64.wrap q = q := by rw [IntKind.wrap_i64]; omega
          have hqd : M.tmod 2 = m := by rw [Int.tmod_eq_emod_of_nonneg (by omega)]; omega
          have hqe : IntKind.u64.wrap m = m := by rw [IntKind.wrap_u64]; omega
          have hqr := hide (show (-9223372036854775808 ≤ q ∧ q ≤ 9223372036854775807) from by omega)
          obtain ⟨P, hqf⟩ : ∃ P, (m == 1) = P := ⟨_, rfl⟩
          have HP3 : Hid (parse bs = (⟨⟨v, T⟩, q, P⟩, 0)) := hide (by rw [HP2.out, ← hq, ← hm9, ← hqf]; rfl)
          have HMM := hide (And.intro hM0 hM1)
          clear HP2 hq hm9 hM0 hM1
          have z0 := BZ7.out.c0
          have z1 := BZ7.out.c1
          have z2 := BZ7.out.c2
          have z3 := BZ7.out.c3
          have f0 := BZ7.out.frozen 0
          have f1 := BZ7.out.frozen 1
          have f2 := BZ7.out.frozen 2
          have f3 := BZ7.out.frozen 3
          go_wp2_with fail
          have b9 := blk_set4 BZ7.out (.int .i64 v) (.slice A7 m7 c7) (.int .i64 q) (.bool P)
          have o9 := only_set4 w7 w.heap.size (.int .i64 v) (.slice A7 m7 c7) (.int .i64 q) (.bool P)
          refine bodyPost_ret (results_cell_tmp_blk rfl _ _ w.heap.size 26 _ _ (by rfl) b9 HU.out rfl HI4.out) rfl ⟨⟨⟨v, A7, m7, c7, T⟩, q, P⟩, ?_, ?_, ⟨⟨hw4.out, hB7.keep o9 (fun _ ad e hf => ?_), hc7⟩, hqr.out⟩, ?_⟩
          · rw [HP3.out]; simp [CoinV.val]
          · rw [HP3.out]; rfl
          · have h1 := hf7 ad e; have h2 := BZ3.out.lt; omega
          · exact hb7.out.trans (o9.below (by exact hb7.out.size) (fun i hi => by omega))
      · rw [if_pos he7] at hP
        have HP2 := hide hP
        clear hP
        go_wp2_with (first | (go_at_call 35; refine (Err_any w7 g h _ hR7).mono ?_; rintro e w8 ⟨rfl, rfl⟩) | (refine wpList_store_blk rfl 26 _ _ rfl w.heap.size 0 26 [.int .i64 0, .slice none 0 0, .int .i64 0, .bool false] [.int .i64 0, .slice none 0 0, .int .i64 0, .bool false] (by rfl) (by rfl) BZ7.out (by decide) HI.out (by decide) ?_; intro w9 o9 z9 b9; simp only [Act.put]))
        rw [lay_all _ _ rfl] at b9
        refine bodyPost_ret (results_cell_tmp_blk rfl _ _ w.heap.size 26 _ _ (by rfl) b9 HU.out rfl HI.out) rfl ⟨⟨⟨0, none, 0, 0, []⟩, 0, false⟩, ?_, ?_, ⟨⟨by decide, Bys.nil _ _, Nat.le_refl _⟩, by decide⟩, ?_⟩
        · rw [HP2.out]; rfl
        · rw [HP2.out]; rfl
        · exact hb7.out.trans (o9.below (by exact hb7.out.size) (fun i hi => by omega))
    · have m1 : moneyB v = false := by unfold moneyB; simpa using hm
      have hP := HP.out
      rw [if_pos ⟨he, hm⟩] at hP
      have HP2 := hide hP
      clear hP hm
      go_wp2_with (first | (go_at_call 21; refine (Money_any _ _).mono ?_; rintro e w' ⟨rfl, rfl⟩) | (refine wpList_store_blk rfl 26 _ _ rfl w.heap.size 0 26 [.int .i64 0, .slice none 0 0, .int .i64 0, .bool false] [.int .i64 0, .slice none 0 0, .int .i64 0, .bool false] (by rfl) (by rfl) BZ3.out (by decide) HI.out (by decide) ?_; intro w9 o9 z9 b9; simp only [Act.put]))
      rw [lay_all _ _ rfl] at b9
      refine bodyPost_ret (results_cell_tmp_blk rfl _ _ w.heap.size 26 _ _ (by rfl) b9 HU.out rfl HI.out) rfl ⟨⟨⟨0, none, 0, 0, []⟩, 0, false⟩, ?_, ?_, ⟨⟨by decide, Bys.nil _ _, Nat.le_refl _⟩, by decide⟩, ?_⟩
      · rw [HP2.out]; rfl
      · rw [HP2.out]; rfl
      · exact hb3.out.trans (o9.below (by exact hb3.out.size) (fun i hi => by omega))
  · have he' : (r3.err == 0) = false := by simpa using he
    go_wp2_with fail
    refine (RText_any w3 g h r3 2000 hR3 (by decide)).mono ?_
    rintro e w7 ⟨A7, m7, c7, rfl, hB7, hc7, hf7, hR7, ho7⟩
    obtain ⟨T, r7, h7⟩ : ∃ T r7, r3.text 2000 = (T, r7) := ⟨_, _, rfl⟩
    rw [h7] at hB7 hR7
    simp only at hB7 hR7
    have hP := HP.out
    rw [if_neg (fun h => he h.1), h7] at hP
    simp only at hP
    have BZ7 := hide (ho7.blk BZ3.out hgn)
    have hb7 := hide (Below.trans hb3.out (ho7.below hb3.out.size (fun i hi => by omega)))
    clear ho7 hR3
    go_wp2_with fail
    refine (Err_any w7 g h _ hR7).mono ?_
    rintro e w8 ⟨rfl, rfl⟩
    by_cases he7 : r7.err = 0
    · rw [if_neg (fun h => h he7)] at hP
      go_wp2_with fail
      refine (Left_any w7 g h _ hR7).mono ?_
      rintro e w8 ⟨rfl, rfl⟩
      by_cases hl7 : 0 < r7.rest.length
      · rw [if_pos hl7] at hP
        have hl8 : (0 : Int) < (r7.rest.length : Int) := by omega
        have HP2 := hide hP
        clear hP hR7 hl7
        go_wp2_with (refine wpList_store_blk rfl 26 _ _ rfl w.heap.size 0 26 [.int .i64 0, .slice none 0 0, .int .i64 0, .bool false] [.int .i64 0, .slice none 0 0, .int .i64 0, .bool false] (by rfl) (by rfl) BZ7.out (by decide) HI.out (by decide) ?_; intro w9 o9 z9 b9; simp only [Act.put])
        rw [lay_all _ _ rfl] at b9
        refine bodyPost_ret (results_cell_tmp_blk rfl _ _ w.heap.size 26 _ _ (by rfl) b9 HU.out rfl HI.out) rfl ⟨⟨⟨0, none, 0, 0, []⟩, 0, false⟩, ?_, ?_, ⟨⟨by decide, Bys.nil _ _, Nat.le_refl _⟩, by decide⟩, ?_⟩
        · rw [HP2.out]; rfl
        · rw [HP2.out]; rfl
        · exact hb7.out.trans (o9.below (by exact hb7.out.size) (fun i hi => by omega))
      · rw [if_neg hl7] at hP
        have hl8 : (r7.rest.length : Int) = 0 := by omega
        have HP2 := hide hP
        clear hP hR7 hl7
        have hM0 : 0 ≤ (N : Int) := by omega
        have hM1 : (N : Int) ≤ 2000000001 := by omega
        clear hN
        generalize (N : Int) = M at HP2 hM0 hM1 ⊢
        generalize (F : Int) = FF
        obtain ⟨q, hq⟩ : ∃ q, q = M / 2 := ⟨_, rfl⟩
        obtain ⟨m, hm9⟩ : ∃ m, m = M % 2 := ⟨_, rfl⟩
        have hqa : M.tdiv 2 = q := by rw [Int.tdiv_eq_ediv_of_nonneg (by omega)]; omega
        have hqb : IntKind.u64.wrap q = q := by rw [IntKind.wrap_u64]; omega
        have hqc : IntKind.i64.wrap q = q := by rw [IntKind.wrap_i64]; omega
        have hqd : M.tmod 2 = m := by rw [Int.tmod_eq_emod_of_nonneg (by omega)]; omega
        have hqe : IntKind.u64.wrap m = m := by rw [IntKind.wrap_u64]; omega
        have hqr := hide (show (-9223372036854775808 ≤ q ∧ q ≤ 9223372036854775807) from by omega)
        obtain ⟨P, hqf⟩ : ∃ P, (m == 1) = P := ⟨_, rfl⟩
        have HP3 : Hid (parse bs = (⟨⟨v, T⟩, q, P⟩, 0)) := hide (by rw [HP2.out, ← hq, ← hm9, ← hqf]; rfl)
        have HMM := hide (And.intro hM0 hM1)
        clear HP2 hq hm9 hM0 hM1
        have z0 := BZ7.out.c0
        have z1 := BZ7.out.c1
        have z2 := BZ7.out.c2
        have z3 := BZ7.out.c3
        have f0 := BZ7.out.frozen 0
        have f1 := BZ7.out.frozen 1
        have f2 := BZ7.out.frozen 2
        have f3 := BZ7.out.frozen 3
        go_wp2_with fail
        have b9 := blk_set4 BZ7.out (.int .i64 v) (.slice A7 m7 c7) (.int .i64 q) (.bool P)
        have o9 := only_set4 w7 w.heap.size (.int .i64 v) (.slice A7 m7 c7) (.int .i64 q) (.bool P)
        refine bodyPost_ret (results_cell_tmp_blk rfl _ _ w.heap.size 26 _ _ (by rfl) b9 HU.out rfl HI4.out) rfl ⟨⟨⟨v, A7, m7, c7, T⟩, q, P⟩, ?_, ?_, ⟨⟨hw4.out, hB7.keep o9 (fun _ ad e hf => ?_), hc7⟩, hqr.out⟩, ?_⟩
        · rw [HP3.out]; simp [CoinV.val]
        · rw [HP3.out]; rfl
        · have h1 := hf7 ad e; have h2 := BZ3.out.lt; omega
        · exact hb7.out.trans (o9.below (by exact hb7.out.size) (fun i hi => by omega))
    · rw [if_pos he7] at hP
      have HP2 := hide hP
      clear hP
      go_wp2_with (first | (go_at_call 35; refine (Err_any w7 g h _ hR7).mono ?_; rintro e w8 ⟨rfl, rfl⟩) | (refine wpList_store_blk rfl 26 _ _ rfl w.heap.size 0 26 [.int .i64 0, .slice none 0 0, .int .i64 0, .bool false] [.int .i64 0, .slice none 0 0, .int .i64 0, .bool false] (by rfl) (by rfl) BZ7.out (by decide) HI.out (by decide) ?_; intro w9 o9 z9 b9; simp only [Act.put]))
      rw [lay_all _ _ rfl] at b9
      refine bodyPost_ret (results_cell_tmp_blk rfl _ _ w.heap.size 26 _ _ (by rfl) b9 HU.out rfl HI.out) rfl ⟨⟨⟨0, none, 0, 0, []⟩, 0, false⟩, ?_, ?_, ⟨⟨by decide, Bys.nil _ _, Nat.le_refl _⟩, by decide⟩, ?_⟩
      · rw [HP2.out]; rfl
      · rw [HP2.out]; rfl
      · exact hb7.out.trans (o9.below (by exact hb7.out.size) (fun i hi => by omega))
end Go.Proofs.Ytfloclamdpageaa
