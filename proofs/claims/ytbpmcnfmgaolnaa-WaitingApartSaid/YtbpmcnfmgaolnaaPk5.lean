import Derived.Test.YtbpmcnfmgaolnaaPk4
import Derived.Test.YtbpmcnfmgaolnaaPk3
/-
  coin: Parse.
-/
namespace Go.Proofs.Ytbpmcnfmgaolnaa
open Go.RowKit

theorem coin_one (v : Int) (A : Option Addr) (n c : Nat) (h : Int) (p : Bool) : ∀ x ∈ [Value.int .i64 v, .slice A n c, .int .i64 h, .bool p], x.oneCell' = true := by
  intro x hx
  simp only [List.mem_cons, List.mem_nil_iff, or_false] at hx
  rcases hx with rfl | rfl | rfl | rfl <;> rfl
theorem only_set4 (w : World) (g : Nat) (a b c d : Value) : Only (fun i => i = g) w ((((w.setCell ⟨g, 0, none⟩ a).setCell ⟨g, 1, none⟩ b).setCell ⟨g, 2, none⟩ c).setCell ⟨g, 3, none⟩ d) := by
  have h : ∀ (v : World) (k : Nat) (u : Value), Only (fun i => i = g) w v → Only (fun i => i = g) w (v.setCell ⟨g, k, none⟩ u) := fun v k u h => h.setCell (p := ⟨g, k, none⟩) (.inr rfl) u
  exact h _ _ _ (h _ _ _ (h _ _ _ (h _ _ _ (Only.refl _ w))))
theorem blk_set4 {w : World} {g : Nat} {t : TypeId} {x y z u : Value} (h : Blk w g t [x, y, z, u]) (a b c d : Value) : Blk ((((w.setCell ⟨g, 0, none⟩ a).setCell ⟨g, 1, none⟩ b).setCell ⟨g, 2, none⟩ c).setCell ⟨g, 3, none⟩ d) g t [a, b, c, d] :=
  (((h.set_ 0 a).set_ 1 b).set_ 2 c).set_ 3 d
set_option maxHeartbeats 4000000 in
set_option maxRecDepth 100000 in
theorem Parse_any (w : World) (A : Option Addr) (n c : Nat) (bs : List Int) (hB : Bys w A n bs) (hn : n ≤ 1000000000) :
    Calls Try.prog 47 #[.slice A n c] w fun e w' => ∃ V : CoinV, e = .returned (.tuple #[V.val, .int .i64 (parse bs).2]) ∧ V.d = (parse bs).1 ∧ V.Fine w' ∧ Below w.heap.size w w' := by
  have HB := hide hB
  have HN := hide hn
  have BZ := hide (Blk.new w 86 [.int .i64 0, .slice none 0 0, .int .i64 0, .bool false])
  have hb0 : Below w.heap.size w (w.alloc (.cells #[.int .i64 0, .slice none 0 0, .int .i64 0, .bool false] 86)) := below_alloc (Below.refl _ _) _
  clear hB hn
  go_enter Try.func47, Try.ntmps47
  go_wp2_with fail
  refine (New_any _ A n c bs (HB.out.below hb0) HN.out).mono ?_
  rintro e w1 ⟨g, h, rfl, hR1, hg, hh, hb1⟩
  rw [World.size_alloc] at hg hh
  have BZ1 := hide (Blk.under BZ.out hb1)
  have hb1' := hide (Below.then_ hb0 hb1)
  clear hb1 hb0 BZ
  go_wp2_with fail
  refine (RCount_any w1 g h _ 2000000001 hR1 (by decide)).mono ?_
  rintro e w2 ⟨rfl, hR2, ho2⟩
  rw [show (2000000001 : Int).toNat = 2000000001 from by decide] at hR2 ⊢
  obtain ⟨N, r2, h2⟩ : ∃ N r2, Rd.count ⟨bs, 0⟩ 2000000001 = (N, r2) := ⟨_, _, rfl⟩
  have hN := count_most ⟨bs, 0⟩ 2000000001
  rw [h2] at hR2 hN ⊢
  simp only at hR2 hN ⊢
  go_wp2_with fail
  refine (RFixed_any w2 g h _ 8 hR2).mono ?_
  rintro e w3 ⟨rfl, hR3, ho3⟩
  have hF := fixed_u64 r2 8 (by obtain ⟨_, _, _, _, hB2, _⟩ := hR2; exact hB2.2.1)
  obtain ⟨F, r3, h3⟩ : ∃ F r3, r2.fixed 8 = (F, r3) := ⟨_, _, rfl⟩
  rw [h3] at hR3 hF ⊢
  simp only at hR3 hF ⊢
  have hw3 := i64_wrap F (by omega) (by omega)
  have hv3 := i64_range F (by omega) (by omega)
  have hw4 := hide hv3
  generalize hv : i64 F = v at hw3 hv3 hw4
  go_wp2_with fail
  refine (Err_any w3 g h _ hR3).mono ?_
  rintro e w4 ⟨rfl, rfl⟩
  have ho13 := ho2.trans ho3 (fun _ _ h => h)
  have hgn : ¬ w.heap.size = g := by omega
  have hgw : w.heap.size < g := by omega
  have BZ3 := hide (ho13.blk BZ1.out hgn)
  have hb3 := hide (Below.trans hb1'.out (ho13.below hb1'.out.size (fun i hi => by omega)))
  have HI : Hid ((Try.prog.info? 86).map (·.size) = some ([.int .i64 0, .slice none 0 0, .int .i64 0, .bool false] : List Value).length) := hide (by kernel_rfl)
  have HU := hide Try.underlying86
  have HI4 : Hid ((Try.prog.info? 86).map (·.size) = some 4) := hide (by kernel_rfl)
  have HP : Hid (parse bs = if r3.err = 0 ∧ ¬ money v then (zeroC, 62) else if (r3.text 2000).2.err ≠ 0 then (zeroC, (r3.text 2000).2.err) else if 0 < (r3.text 2000).2.rest.length then (zeroC, 62) else (⟨⟨v, (r3.text 2000).1⟩, (N : Int) / 2, decide ((N : Int) % 2 = 1)⟩, 0)) := hide (by
    unfold parse; simp only [h2, h3, hv])
  clear ho13 ho2 ho3 h2 h3 hv hR1 hR2 hb1' BZ1 hv3
  by_cases he : r3.err = 0
  · by_cases hm : money v
    · have m1 := (money_iff v).2 hm
      go_wp2_with (go_at_call 91; refine (Money_any _ _).mono ?_; rintro e w' ⟨rfl, rfl⟩)
      refine (RText_f w3 g h r3 2000 hR3 (by decide)).mono ?_
      rintro e w7 ⟨A7, m7, c7, rfl, hB7, hc7, hf7, hR7, ho7, ff7⟩
      obtain ⟨T, r7, h7⟩ : ∃ T r7, r3.text 2000 = (T, r7) := ⟨_, _, rfl⟩
      rw [h7] at hB7 hR7
      simp only at hB7 hR7
      have hP := HP.out
      rw [if_neg (fun h => h.2 hm), h7] at hP
      simp only at hP
      have BZ7 := hide (ho7.blk BZ3.out hgn)
      have hb7 := hide (Below.trans hb3.out (ho7.below hb3.out.size (fun i hi => by omega)))
      clear ho7 hR3
      go_wp2_with fail
      refine (Err_any w7 g h _ hR7).mono ?_
      rintro e w8 ⟨rfl, rfl⟩
      by_cases he7 : r7.err = 0
      · rw [if_neg (fun h => h he7)] at hP
        go_wp2_with fail
        refine (Left_any w7 g h _ hR7).mono ?_
        rintro e w8 ⟨rfl, rfl⟩
        by_cases hl7 : 0 < r7.rest.length
        · rw [if_pos hl7] at hP
          have hl8 : (0 : Int) < (r7.rest.length : Int) := by omega
          have HP2 := hide hP
          clear hP hR7 hl7
          go_wp2_with (refine wpList_store_blk rfl 86 _ _ rfl w.heap.size 0 86 [.int .i64 0, .slice none 0 0, .int .i64 0, .bool false] [.int .i64 0, .slice none 0 0, .int .i64 0, .bool false] (by rfl) (by rfl) BZ7.out (by decide) HI.out (by decide) ?_; intro w9 o9 z9 b9; simp only [Act.put])
          rw [lay_all _ _ rfl] at b9
          refine bodyPost_ret (results_cell_tmp_blk rfl _ _ w.heap.size 86 _ _ (by rfl) b9 HU.out rfl HI.out) rfl ⟨⟨⟨0, none, 0, 0, []⟩, 0, false⟩, ?_, ?_, ⟨⟨by decide, Bys.nil _ _, Nat.le_refl _, Free.zero _ _⟩, by decide⟩, ?_⟩
          · rw [HP2.out]; rfl
          · rw [HP2.out]; rfl
          · exact hb7.out.trans (o9.below (by exact hb7.out.size) (fun i hi => by omega))
        · rw [if_neg hl7] at hP
          have hl8 : (r7.rest.length : Int) = 0 := by omega
          have HP2 := hide hP
          clear hP hR7 hl7
          have hM0 : 0 ≤ (N : Int) := by omega
          have hM1 : (N : Int) ≤ 2000000001 := by omega
          clear hN
          generalize (N : Int) = M at HP2 hM0 hM1 ⊢
          generalize (F : Int) = FF
          obtain ⟨q, hq⟩ : ∃ q, q = M / 2 := ⟨_, rfl⟩
          obtain ⟨m, hm9⟩ : ∃ m, m = M % 2 := ⟨_, rfl⟩
          have hqa : M.tdiv 2 = q := by rw [Int.tdiv_eq_ediv_of_nonneg (by omega)]; omega
          have hqb : IntKind.u64.wrap q = q := by rw [IntKind.wrap_u64]; omega
          have hqc : IntKind.i64.wrap q = q := by rw [IntKind.wrap_i64]; omega
          have hqd : M.tmod 2 = m := by rw [Int.tmod_eq_emod_of_nonneg (by omega)]; omega
          have hqe : IntKind.u64.wrap m = m := by rw [IntKind.wrap_u64]; omega
          have hqr := hide (show (-9223372036854775808 ≤ q ∧ q ≤ 9223372036854775807) from by omega)
          obtain ⟨P, hqf⟩ : ∃ P, (m == 1) = P := ⟨_, rfl⟩
          have HP3 : Hid (parse bs = (⟨⟨v, T⟩, q, P⟩, 0)) := hide (by rw [HP2.out, ← hq, ← hm9, ← hqf]; rfl)
          have HMM := hide (And.intro hM0 hM1)
          clear HP2 hq hm9 hM0 hM1
          have z0 := BZ7.out.c0
          have z1 := BZ7.out.c1
          have z2 := BZ7.out.c2
          have z3 := BZ7.out.c3
          have f0 := BZ7.out.frozen 0
          have f1 := BZ7.out.frozen 1
          have f2 := BZ7.out.frozen 2
          have f3 := BZ7.out.frozen 3
          go_wp2_with fail
          have b9 := blk_set4 BZ7.out (.int .i64 v) (.slice A7 m7 c7) (.int .i64 q) (.bool P)
          have o9 := only_set4 w7 w.heap.size (.int .i64 v) (.slice A7 m7 c7) (.int .i64 q) (.bool P)
          refine bodyPost_ret (results_cell_tmp_blk rfl _ _ w.heap.size 86 _ _ (by rfl) b9 HU.out rfl HI4.out) rfl ⟨⟨⟨v, A7, m7, c7, T⟩, q, P⟩, ?_, ?_, ⟨⟨hw4.out, hB7.keep o9 (fun _ ad e hf => ?_), hc7, ff7.keep hB7 o9 (fun _ ad e hf => by have h1 := hf7 ad e; have h2 := BZ3.out.lt; omega)⟩, hqr.out⟩, ?_⟩
          · rw [HP3.out]; simp [CoinV.val]
          · rw [HP3.out]; rfl
          · have h1 := hf7 ad e; have h2 := BZ3.out.lt; omega
          · exact hb7.out.trans (o9.below (by exact hb7.out.size) (fun i hi => by omega))
      · rw [if_pos he7] at hP
        have HP2 := hide hP
        clear hP
        go_wp2_with (first | (go_at_call 79; refine (Err_any w7 g h _ hR7).mono ?_; rintro e w8 ⟨rfl, rfl⟩) | (refine wpList_store_blk rfl 86 _ _ rfl w.heap.size 0 86 [.int .i64 0, .slice none 0 0, .int .i64 0, .bool false] [.int .i64 0, .slice none 0 0, .int .i64 0, .bool false] (by rfl) (by rfl) BZ7.out (by decide) HI.out (by decide) ?_; intro w9 o9 z9 b9; simp only [Act.put]))
        rw [lay_all _ _ rfl] at b9
        refine bodyPost_ret (results_cell_tmp_blk rfl _ _ w.heap.size 86 _ _ (by rfl) b9 HU.out rfl HI.out) rfl ⟨⟨⟨0, none, 0, 0, []⟩, 0, false⟩, ?_, ?_, ⟨⟨by decide, Bys.nil _ _, Nat.le_refl _, Free.zero _ _⟩, by decide⟩, ?_⟩
        · rw [HP2.out]; rfl
        · rw [HP2.out]; rfl
        · exact hb7.out.trans (o9.below (by exact hb7.out.size) (fun i hi => by omega))
    · have m1 : moneyB v = false := by unfold moneyB; simpa using hm
      have hP := HP.out
      rw [if_pos ⟨he, hm⟩] at hP
      have HP2 := hide hP
      clear hP hm
      go_wp2_with (first | (go_at_call 91; refine (Money_any _ _).mono ?_; rintro e w' ⟨rfl, rfl⟩) | (refine wpList_store_blk rfl 86 _ _ rfl w.heap.size 0 86 [.int .i64 0, .slice none 0 0, .int .i64 0, .bool false] [.int .i64 0, .slice none 0 0, .int .i64 0, .bool false] (by rfl) (by rfl) BZ3.out (by decide) HI.out (by decide) ?_; intro w9 o9 z9 b9; simp only [Act.put]))
      rw [lay_all _ _ rfl] at b9
      refine bodyPost_ret (results_cell_tmp_blk rfl _ _ w.heap.size 86 _ _ (by rfl) b9 HU.out rfl HI.out) rfl ⟨⟨⟨0, none, 0, 0, []⟩, 0, false⟩, ?_, ?_, ⟨⟨by decide, Bys.nil _ _, Nat.le_refl _, Free.zero _ _⟩, by decide⟩, ?_⟩
      · rw [HP2.out]; rfl
      · rw [HP2.out]; rfl
      · exact hb3.out.trans (o9.below (by exact hb3.out.size) (fun i hi => by omega))
  · have he' : (r3.err == 0) = false := by simpa using he
    go_wp2_with fail
    refine (RText_f w3 g h r3 2000 hR3 (by decide)).mono ?_
    rintro e w7 ⟨A7, m7, c7, rfl, hB7, hc7, hf7, hR7, ho7, ff7⟩
    obtain ⟨T, r7, h7⟩ : ∃ T r7, r3.text 2000 = (T, r7) := ⟨_, _, rfl⟩
    rw [h7] at hB7 hR7
    simp only at hB7 hR7
    have hP := HP.out
    rw [if_neg (fun h => he h.1), h7] at hP
    simp only at hP
    have BZ7 := hide (ho7.blk BZ3.out hgn)
    have hb7 := hide (Below.trans hb3.out (ho7.below hb3.out.size (fun i hi => by omega)))
    clear ho7 hR3
    go_wp2_with fail
    refine (Err_any w7 g h _ hR7).mono ?_
    rintro e w8 ⟨rfl, rfl⟩
    by_cases he7 : r7.err = 0
    · rw [if_neg (fun h => h he7)] at hP
      go_wp2_with fail
      refine (Left_any w7 g h _ hR7).mono ?_
      rintro e w8 ⟨rfl, rfl⟩
      by_cases hl7 : 0 < r7.rest.length
      · rw [if_pos hl7] at hP
        have hl8 : (0 : Int) < (r7.rest.length : Int) := by omega
        have HP2 := hide hP
        clear hP hR7 hl7
        go_wp2_with (refine wpList_store_blk rfl 86 _ _ rfl w.heap.size 0 86 [.int .i64 0, .slice none 0 0, .int .i64 0, .bool false] [.int .i64 0, .slice none 0 0, .int .i64 0, .bool false] (by rfl) (by rfl) BZ7.out (by decide) HI.out (by decide) ?_; intro w9 o9 z9 b9; simp only [Act.put])
        rw [lay_all _ _ rfl] at b9
        refine bodyPost_ret (results_cell_tmp_blk rfl _ _ w.heap.size 86 _ _ (by rfl) b9 HU.out rfl HI.out) rfl ⟨⟨⟨0, none, 0, 0, []⟩, 0, false⟩, ?_, ?_, ⟨⟨by decide, Bys.nil _ _, Nat.le_refl _, Free.zero _ _⟩, by decide⟩, ?_⟩
        · rw [HP2.out]; rfl
        · rw [HP2.out]; rfl
        · exact hb7.out.trans (o9.below (by exact hb7.out.size) (fun i hi => by omega))
      · rw [if_neg hl7] at hP
        have hl8 : (r7.rest.length : Int) = 0 := by omega
        have HP2 := hide hP
        clear hP hR7 hl7
        have hM0 : 0 ≤ (N : Int) := by omega
        have hM1 : (N : Int) ≤ 2000000001 := by omega
        clear hN
        generalize (N : Int) = M at HP2 hM0 hM1 ⊢
        generalize (F : Int) = FF
        obtain ⟨q, hq⟩ : ∃ q, q = M / 2 := ⟨_, rfl⟩
        obtain ⟨m, hm9⟩ : ∃ m, m = M % 2 := ⟨_, rfl⟩
        have hqa : M.tdiv 2 = q := by rw [Int.tdiv_eq_ediv_of_nonneg (by omega)]; omega
        have hqb : IntKind.u64.wrap q = q := by rw [IntKind.wrap_u64]; omega
        have hqc : IntKind.i64.wrap q = q := by rw [IntKind.wrap_i64]; omega
        have hqd : M.tmod 2 = m := by rw [Int.tmod_eq_emod_of_nonneg (by omega)]; omega
        have hqe : IntKind.u64.wrap m = m := by rw [IntKind.wrap_u64]; omega
        have hqr := hide (show (-9223372036854775808 ≤ q ∧ q ≤ 9223372036854775807) from by omega)
        obtain ⟨P, hqf⟩ : ∃ P, (m == 1) = P := ⟨_, rfl⟩
        have HP3 : Hid (parse bs = (⟨⟨v, T⟩, q, P⟩, 0)) := hide (by rw [HP2.out, ← hq, ← hm9, ← hqf]; rfl)
        have HMM := hide (And.intro hM0 hM1)
        clear HP2 hq hm9 hM0 hM1
        have z0 := BZ7.out.c0
        have z1 := BZ7.out.c1
        have z2 := BZ7.out.c2
        have z3 := BZ7.out.c3
        have f0 := BZ7.out.frozen 0
        have f1 := BZ7.out.frozen 1
        have f2 := BZ7.out.frozen 2
        have f3 := BZ7.out.frozen 3
        go_wp2_with fail
        have b9 := blk_set4 BZ7.out (.int .i64 v) (.slice A7 m7 c7) (.int .i64 q) (.bool P)
        have o9 := only_set4 w7 w.heap.size (.int .i64 v) (.slice A7 m7 c7) (.int .i64 q) (.bool P)
        refine bodyPost_ret (results_cell_tmp_blk rfl _ _ w.heap.size 86 _ _ (by rfl) b9 HU.out rfl HI4.out) rfl ⟨⟨⟨v, A7, m7, c7, T⟩, q, P⟩, ?_, ?_, ⟨⟨hw4.out, hB7.keep o9 (fun _ ad e hf => ?_), hc7, ff7.keep hB7 o9 (fun _ ad e hf => by have h1 := hf7 ad e; have h2 := BZ3.out.lt; omega)⟩, hqr.out⟩, ?_⟩
        · rw [HP3.out]; simp [CoinV.val]
        · rw [HP3.out]; rfl
        · have h1 := hf7 ad e; have h2 := BZ3.out.lt; omega
        · exact hb7.out.trans (o9.below (by exact hb7.out.size) (fun i hi => by omega))
    · rw [if_pos he7] at hP
      have HP2 := hide hP
      clear hP
      go_wp2_with (first | (go_at_call 79; refine (Err_any w7 g h _ hR7).mono ?_; rintro e w8 ⟨rfl, rfl⟩) | (refine wpList_store_blk rfl 86 _ _ rfl w.heap.size 0 86 [.int .i64 0, .slice none 0 0, .int .i64 0, .bool false] [.int .i64 0, .slice none 0 0, .int .i64 0, .bool false] (by rfl) (by rfl) BZ7.out (by decide) HI.out (by decide) ?_; intro w9 o9 z9 b9; simp only [Act.put]))
      rw [lay_all _ _ rfl] at b9
      refine bodyPost_ret (results_cell_tmp_blk rfl _ _ w.heap.size 86 _ _ (by rfl) b9 HU.out rfl HI.out) rfl ⟨⟨⟨0, none, 0, 0, []⟩, 0, false⟩, ?_, ?_, ⟨⟨by decide, Bys.nil _ _, Nat.le_refl _, Free.zero _ _⟩, by decide⟩, ?_⟩
      · rw [HP2.out]; rfl
      · rw [HP2.out]; rfl
      · exact hb7.out.trans (o9.below (by exact hb7.out.size) (fun i hi => by omega))
end Go.Proofs.Ytbpmcnfmgaolnaa
/-
  coin: outputs, read; the document's.
-/
namespace Go.Proofs.Ytbpmcnfmgaolnaa
open Go.RowKit

/-- An output, read. -/
def Rd.out (r : Rd) : OutD × Rd := if ((r.fixed 8).2.text 2000).2.err ≠ 0 then (⟨0, []⟩, ((r.fixed 8).2.text 2000).2) else (⟨i64 (r.fixed 8).1, ((r.fixed 8).2.text 2000).1⟩, ((r.fixed 8).2.text 2000).2)
theorem out_eq (r : Rd) (F : Nat) (r1 : Rd) (T : List Int) (r2 : Rd) (h1 : r.fixed 8 = (F, r1)) (h2 : r1.text 2000 = (T, r2)) : r.out = if r2.err ≠ 0 then (⟨0, []⟩, r2) else (⟨i64 F, T⟩, r2) := by
  simp only [Rd.out, h1, h2]
def OutPost (T : TypeId) (w : World) (g h : Nat) (r' : Rd) (d : OutD) (e : Ending) (w' : World) : Prop :=
  ∃ V : OutV, e = .returned (.agg #[.int .i64 V.v, .slice V.A V.n V.c]) ∧ V.d = d ∧ V.Fine w' ∧ Fr w V.A ∧ RdAt T w' g h r' ∧ Only (fun i => i = g) w w'
theorem only_set2 (w : World) (g : Nat) (a b : Value) : Only (fun i => i = g) w ((w.setCell ⟨g, 0, none⟩ a).setCell ⟨g, 1, none⟩ b) :=
  ((Only.refl (fun i => i = g) w).setCell (p := ⟨g, 0, none⟩) (.inr rfl) a).setCell (p := ⟨g, 1, none⟩) (.inr rfl) b
theorem blk_set2 {w : World} {g : Nat} {t : TypeId} {x y : Value} (h : Blk w g t [x, y]) (a b : Value) : Blk ((w.setCell ⟨g, 0, none⟩ a).setCell ⟨g, 1, none⟩ b) g t [a, b] := (h.set_ 0 a).set_ 1 b
set_option maxHeartbeats 4000000 in
set_option maxRecDepth 100000 in
theorem OutRead_any (w : World) (g h : Nat) (r : Rd) (hR : RdAt 164 w g h r) :
    Calls Try.prog 121 #[.pointer (some ⟨g, 0, none⟩)] w (OutPost 164 w g h r.out.2 r.out.1) := by
  have hgl := hR.lt.1
  have hhl := hR.lt.2
  have hne := hide (show ¬ w.heap.size = g by omega)
  have hnh := hide (show ¬ w.heap.size = h by omega)
  have hR0 := hR.below ((Below.refl _ w).alloc (Nat.le_refl _) (.cells #[.int .i64 0, .slice none 0 0] 62))
  have BZ := hide (Blk.new w 62 [.int .i64 0, .slice none 0 0])
  have O0 := hide (Only.alloc0 (F := fun i => i = g) w (.cells #[.int .i64 0, .slice none 0 0] 62))
  clear hR
  go_enter Try.func121, Try.ntmps121
  go_wp2_with fail
  refine (RFixed_any _ g h _ 8 hR0).mono ?_
  rintro e w1 ⟨rfl, hR1, o1⟩
  have hF := fixed_u64 r 8 (by obtain ⟨_, _, _, _, hB2, _⟩ := hR0; exact hB2.2.1)
  obtain ⟨F, r1, h1⟩ : ∃ F r1, r.fixed 8 = (F, r1) := ⟨_, _, rfl⟩
  rw [h1] at hR1 hF ⊢
  simp only at hR1 hF ⊢
  have hw3 := i64_wrap F (by omega) (by omega)
  have hv3 := hide (i64_range F (by omega) (by omega))
  have B1 := hide (o1.blk BZ.out hne.out)
  have O1 := hide (O0.out.trans o1 (fun _ _ h => h))
  clear BZ O0 o1 hR0
  go_wp2_with fail
  refine (RText_f _ g h _ 2000 hR1 (by decide)).mono ?_
  rintro e w2 ⟨A2, n2, c2, rfl, hB2, hc2, hf2, hR2, o2, ff2⟩
  obtain ⟨T, r2, h2⟩ : ∃ T r2, r1.text 2000 = (T, r2) := ⟨_, _, rfl⟩
  have HO := hide (out_eq r F r1 T r2 h1 h2)
  rw [h2] at hB2 hR2
  simp only at hB2 hR2
  generalize hv : i64 F = v at hw3 hv3 HO
  generalize (F : Int) = FF at hw3
  have B2 := hide ((o2.blk B1.out hne.out).alloc (.cells #[.int .i64 v, .slice A2 n2 c2] 62))
  have N2 := hide (Blk.new w2 62 [.int .i64 v, .slice A2 n2 c2])
  have O2 := hide ((O1.out.trans o2 (fun _ _ h => h)).alloc (.cells #[.int .i64 v, .slice A2 n2 c2] 62))
  have hs2 := hide (show w.heap.size < w2.heap.size from (o2.blk B1.out hne.out).lt)
  have hf2' := hide (show Fr w A2 from fun ad e => by have h1 := hf2 ad e; have h2 := O1.out.size; omega)
  have hf2b := hide (show ∀ ad, A2 = some ad → w.heap.size < ad.block from fun ad e => by have h1 := hf2 ad e; have h2 := B1.out.lt; omega)
  have HFF := hide (ff2.below hB2 (below_alloc (Below.refl _ _) (.cells #[.int .i64 v, .slice A2 n2 c2] 62)))
  have FB9 := hide (hB2.alloc (.cells #[.int .i64 v, .slice A2 n2 c2] 62))
  have hB2' := hide (hB2.alloc (.cells #[.int .i64 v, .slice A2 n2 c2] 62))
  have hR2' := hR2.below ((Below.refl _ w2).alloc (Nat.le_refl _) (.cells #[.int .i64 v, .slice A2 n2 c2] 62))
  clear B1 O1 o2 hR1 hR2 hf2 hB2 h1 h2 hv
  have f0 := B2.out.frozen 0
  have f1 := B2.out.frozen 1
  have z0 := B2.out.c0
  have z1 := B2.out.c1
  have q0 := N2.out.c0
  have q1 := N2.out.c1
  have HU := hide Try.underlying62
  have HI2 : Hid ((Try.prog.info? 62).map (·.size) = some 2) := hide (by kernel_rfl)
  go_wp2_with fail
  refine (Err_any _ g h _ hR2').mono ?_
  rintro e w3 ⟨rfl, rfl⟩
  by_cases he : r2.err = 0
  · have hO := HO.out
    rw [if_neg (fun h => h he)] at hO
    have HO2 := hide hO
    clear hO HO
    go_wp2_with fail
    have b9 := blk_set2 B2.out (.int .i64 v) (.slice A2 n2 c2)
    have o9 := only_set2 (w2.alloc (.cells #[.int .i64 v, .slice A2 n2 c2] 62)) w.heap.size (.int .i64 v) (.slice A2 n2 c2)
    refine bodyPost_ret (results_cell_blk rfl _ _ w.heap.size 62 _ _ (by rfl) b9 HU.out rfl HI2.out) rfl ⟨⟨v, A2, n2, c2, T⟩, rfl, ?_, ⟨hv3.out, hB2'.out.keep o9 (fun _ ad e hf => ?_), hc2, HFF.out.keep FB9.out o9 (fun _ ad e hf => by have := hf2b.out ad e; omega)⟩, hf2'.out, ?_, ?_⟩
    · rw [HO2.out]; rfl
    · have := hf2b.out ad e; omega
    · rw [HO2.out]; exact hR2'.keep o9 (fun e => hne.out e.symm) (fun e => hnh.out e.symm)
    · exact O2.out.trans o9 (fun i hi e => by omega)
  · have he' : (r2.err == 0) = false := by simpa using he
    have hO := HO.out
    rw [if_pos he] at hO
    have HO2 := hide hO
    clear hO HO
    go_wp2_with fail
    have b9 := blk_set2 B2.out (.int .i64 0) (.slice none 0 0)
    have o9 := only_set2 (w2.alloc (.cells #[.int .i64 v, .slice A2 n2 c2] 62)) w.heap.size (.int .i64 0) (.slice none 0 0)
    refine bodyPost_ret (results_cell_blk rfl _ _ w.heap.size 62 _ _ (by rfl) b9 HU.out rfl HI2.out) rfl ⟨⟨0, none, 0, 0, []⟩, rfl, ?_, ⟨(show (-9223372036854775808 : Int) ≤ 0 ∧ (0 : Int) ≤ 9223372036854775807 by decide), Bys.nil _ _, Nat.le_refl _, Free.zero _ _⟩, Fr.none _, ?_, ?_⟩
    · rw [HO2.out]; rfl
    · rw [HO2.out]; exact hR2'.keep o9 (fun e => hne.out e.symm) (fun e => hnh.out e.symm)
    · exact O2.out.trans o9 (fun i hi e => by omega)
set_option maxHeartbeats 4000000 in
set_option maxRecDepth 100000 in
theorem refOutRead_any (w : World) (g h : Nat) (r : Rd) (hR : RdAt 128 w g h r) :
    Calls Try.prog 127 #[.pointer (some ⟨g, 0, none⟩)] w (OutPost 128 w g h r.out.2 r.out.1) := by
  have hgl := hR.lt.1
  have hhl := hR.lt.2
  have hne := hide (show ¬ w.heap.size = g by omega)
  have hnh := hide (show ¬ w.heap.size = h by omega)
  have hR0 := hR.below ((Below.refl _ w).alloc (Nat.le_refl _) (.cells #[.int .i64 0, .slice none 0 0] 62))
  have BZ := hide (Blk.new w 62 [.int .i64 0, .slice none 0 0])
  have O0 := hide (Only.alloc0 (F := fun i => i = g) w (.cells #[.int .i64 0, .slice none 0 0] 62))
  clear hR
  go_enter Try.func127, Try.ntmps127
  go_wp2_with fail
  refine (reffixedof_any _ g h _ 8 hR0).mono ?_
  rintro e w1 ⟨rfl, hR1, o1⟩
  have hF := fixed_u64 r 8 (by obtain ⟨_, _, _, _, hB2, _⟩ := hR0; exact hB2.2.1)
  obtain ⟨F, r1, h1⟩ : ∃ F r1, r.fixed 8 = (F, r1) := ⟨_, _, rfl⟩
  rw [h1] at hR1 hF ⊢
  simp only at hR1 hF ⊢
  have hw3 := i64_wrap F (by omega) (by omega)
  have hv3 := hide (i64_range F (by omega) (by omega))
  have B1 := hide (o1.blk BZ.out hne.out)
  have O1 := hide (O0.out.trans o1 (fun _ _ h => h))
  clear BZ O0 o1 hR0
  go_wp2_with fail
  refine (reftextof_f _ g h _ 2000 hR1 (by decide)).mono ?_
  rintro e w2 ⟨A2, n2, c2, rfl, hB2, hc2, hf2, hR2, o2, ff2⟩
  obtain ⟨T, r2, h2⟩ : ∃ T r2, r1.text 2000 = (T, r2) := ⟨_, _, rfl⟩
  have HO := hide (out_eq r F r1 T r2 h1 h2)
  rw [h2] at hB2 hR2
  simp only at hB2 hR2
  generalize hv : i64 F = v at hw3 hv3 HO
  generalize (F : Int) = FF at hw3
  have B2 := hide (o2.blk B1.out hne.out)
  have O2 := hide (O1.out.trans o2 (fun _ _ h => h))
  have hf2' := hide (show Fr w A2 from fun ad e => by have h1 := hf2 ad e; have h2 := O1.out.size; omega)
  have hf2b := hide (show ∀ ad, A2 = some ad → w.heap.size < ad.block from fun ad e => by have h1 := hf2 ad e; have h2 := B1.out.lt; omega)
  have HFF := hide ff2
  have FB9 := hide hB2
  have HB2 := hide hB2
  have HR2 := hide hR2
  have e1 : w2.cell? ⟨g, 1, none⟩ = some (.int .i64 r2.err) := by obtain ⟨_, _, _, hb, _⟩ := hR2; exact hb.c1
  clear B1 O1 o2 hR1 hf2 h1 h2 hv hB2 hR2
  have f0 := B2.out.frozen 0
  have f1 := B2.out.frozen 1
  have z0 := B2.out.c0
  have z1 := B2.out.c1
  have HU := hide Try.underlying62
  have HI2 : Hid ((Try.prog.info? 62).map (·.size) = some 2) := hide (by kernel_rfl)
  by_cases he : r2.err = 0
  · have hO := HO.out
    rw [if_neg (fun h => h he)] at hO
    have HO2 := hide hO
    clear hO HO
    go_wp2_with fail
    have b9 := blk_set2 B2.out (.int .i64 v) (.slice A2 n2 c2)
    have o9 := only_set2 w2 w.heap.size (.int .i64 v) (.slice A2 n2 c2)
    refine bodyPost_ret (results_cell_blk rfl _ _ w.heap.size 62 _ _ (by rfl) b9 HU.out rfl HI2.out) rfl ⟨⟨v, A2, n2, c2, T⟩, rfl, ?_, ⟨hv3.out, HB2.out.keep o9 (fun _ ad e hf => ?_), hc2, HFF.out.keep FB9.out o9 (fun _ ad e hf => by have := hf2b.out ad e; omega)⟩, hf2'.out, ?_, ?_⟩
    · rw [HO2.out]; rfl
    · have := hf2b.out ad e; omega
    · rw [HO2.out]; exact HR2.out.keep o9 (fun e => hne.out e.symm) (fun e => hnh.out e.symm)
    · exact O2.out.trans o9 (fun i hi e => by omega)
  · have he' : (r2.err == 0) = false := by simpa using he
    have hO := HO.out
    rw [if_pos he] at hO
    have HO2 := hide hO
    clear hO HO
    go_wp2_with fail
    have b9 := blk_set2 B2.out (.int .i64 0) (.slice none 0 0)
    have o9 := only_set2 w2 w.heap.size (.int .i64 0) (.slice none 0 0)
    refine bodyPost_ret (results_cell_blk rfl _ _ w.heap.size 62 _ _ (by rfl) b9 HU.out rfl HI2.out) rfl ⟨⟨0, none, 0, 0, []⟩, rfl, ?_, ⟨(show (-9223372036854775808 : Int) ≤ 0 ∧ (0 : Int) ≤ 9223372036854775807 by decide), Bys.nil _ _, Nat.le_refl _, Free.zero _ _⟩, Fr.none _, ?_, ?_⟩
    · rw [HO2.out]; rfl
    · rw [HO2.out]; exact HR2.out.keep o9 (fun e => hne.out e.symm) (fun e => hnh.out e.symm)
    · exact O2.out.trans o9 (fun i hi e => by omega)
end Go.Proofs.Ytbpmcnfmgaolnaa
/-
  coin: references, read; the document's.
-/
namespace Go.Proofs.Ytbpmcnfmgaolnaa
open Go.RowKit

def Rd.ref (r : Rd) : RefD × Rd := if ((r.raw 32).2.fixed 4).2.err ≠ 0 then (zeroR, ((r.raw 32).2.fixed 4).2) else (⟨(r.raw 32).1, ((r.raw 32).2.fixed 4).1⟩, ((r.raw 32).2.fixed 4).2)
theorem ref_eq (r : Rd) (X : List Int) (r1 : Rd) (F : Nat) (r2 : Rd) (h1 : r.raw 32 = (X, r1)) (h2 : r1.fixed 4 = (F, r2)) : r.ref = if r2.err ≠ 0 then (zeroR, r2) else (⟨X, F⟩, r2) := by
  simp only [Rd.ref, h1, h2]
theorem raw_ok (r : Rd) (k : Int) (h : (r.raw k).2.err = 0) : r.err = 0 := by
  apply Classical.byContradiction
  intro he
  have : r.raw k = ([], r) := by simp [Rd.raw, he]
  rw [this] at h
  exact he h
theorem raw_full (r : Rd) (k : Int) (hk : 1 ≤ k) (h : (r.raw k).2.err = 0) : (r.raw k).1.length = k.toNat := by
  have h0 := raw_ok r k h
  unfold Rd.raw at h ⊢
  have hk1 : ¬ k < 1 := by omega
  simp only [h0, ne_eq, not_true_eq_false, false_or, hk1, if_false] at h ⊢
  by_cases hl : (r.rest.length : Int) < k
  · rw [if_pos hl] at h; exact absurd h (by show ¬ (61 : Int) = 0; decide)
  · rw [if_neg hl, List.length_take]; omega
theorem fixed_u32 (r : Rd) (h : Byt r.rest) : (r.fixed 4).1 < 4294967296 := by
  have h1 := num_lt _ (raw_byt r (Rd.within 4) h)
  have h2 := raw_length r (Rd.within 4) 4 (by decide)
  have h3 : 256 ^ (r.raw (Rd.within 4)).1.length ≤ 256 ^ 4 := Nat.pow_le_pow_right (by decide) h2
  unfold Rd.fixed
  simp only
  have h4 : (256 : Nat) ^ 4 = 4294967296 := by decide
  omega
def RefPost (T : TypeId) (w : World) (g h : Nat) (r' : Rd) (d : RefD) (e : Ending) (w' : World) : Prop :=
  e = .returned (.agg d.cells.toArray) ∧ d.Fine ∧ RdAt T w' g h r' ∧ Only (fun i => i = g) w w'
theorem bys_range {w : World} {b off n : Nat} {bs : List Int} (h : Bys w (some ⟨b, off, none⟩) n bs) (hn : 0 < n) : w.rangeAt b off (bs.map (Value.int .u8)) := by
  obtain ⟨b', off', e, hc⟩ := h.2.2 hn
  injection e with e
  injection e with e1 e2
  subst e1
  subst e2
  intro j v hv
  rw [List.getElem?_map] at hv
  cases hx : bs[j]? with
  | none => rw [hx] at hv; cases hv
  | some x =>
    rw [hx] at hv
    simp at hv
    rw [hc j x hx, hv]
theorem arrayAt_run (a : Addr) (c : Nat) (w : World) : (Instr.arrayAt 31 (.slice (some a) 32 c)).run Try.prog w = .ok (.pointer (some a)) w := by
  unfold Instr.arrayAt
  simp [run_underlying Try.underlying31]
attribute [local go_sem ↓] mkRef_fold loadHash_fold loadRef_fold
attribute [local go_sem] mkRef_zero
set_option maxHeartbeats 4000000 in
set_option maxRecDepth 100000 in
theorem RefRead_any (w : World) (g h : Nat) (r : Rd) (hR : RdAt 164 w g h r) :
    Calls Try.prog 120 #[.pointer (some ⟨g, 0, none⟩)] w (RefPost 164 w g h r.ref.2 r.ref.1) := by
  have hgl := hR.lt.1
  have hhl := hR.lt.2
  have hne := hide (show ¬ w.heap.size = g by omega)
  have hnh := hide (show ¬ w.heap.size = h by omega)
  have hR0 := hR.below ((Below.refl _ w).alloc (Nat.le_refl _) (.cells zeroR.cells.toArray 58))
  have BZ := hide (Blk.new w 58 zeroR.cells)
  have O0 := hide (Only.alloc0 (F := fun i => i = g) w (.cells zeroR.cells.toArray 58))
  have hby := hide (show Byt r.rest by obtain ⟨_, _, _, _, hB2, _⟩ := hR0; exact hB2.2.1)
  clear hR
  go_enter Try.func120, Try.ntmps120
  go_wp2_with (refine wpList_alloc_agg rfl 58 rfl zeroR.cells zeroRef ?_; simp only [Act.put, List.setIfInBounds_toArray, List.set_cons_zero, List.set_cons_succ])
  refine (Raw_any _ g h _ 32 hR0).mono ?_
  rintro e w1 ⟨A1, n1, c1, rfl, hB1, hc1, hf1, hR1, o1⟩
  have hrb := hide (raw_byt r 32 hby.out)
  obtain ⟨X, r1, h1⟩ : ∃ X r1, r.raw 32 = (X, r1) := ⟨_, _, rfl⟩
  have hfull := raw_full r 32 (by decide)
  rw [h1] at hR1 hB1 hrb hfull
  simp only at hR1 hB1 hrb hfull
  have B1 := hide (o1.blk BZ.out hne.out)
  have O1 := hide (O0.out.trans o1 (fun _ _ h => h))
  have hf1b := hide (show ∀ ad, A1 = some ad → w.heap.size < ad.block from fun ad e => by have h1 := hf1 ad e; simp at h1; omega)
  have hf1c := hide (show ∀ ad, A1 = some ad → ad.block ≠ g from fun ad e => by have h1 := hf1 ad e; simp at h1; omega)
  clear BZ O0 o1 hR0 hf1
  go_wp2_with fail
  refine (RFixed_any _ g h _ 4 hR1).mono ?_
  rintro e w2 ⟨rfl, hR2, o2⟩
  have hF := fixed_u32 r1 (by obtain ⟨_, _, _, _, hB2, _⟩ := hR1; exact hB2.2.1)
  have hok := fixed_ok r1 4
  obtain ⟨F, r2, h2⟩ : ∃ F r2, r1.fixed 4 = (F, r2) := ⟨_, _, rfl⟩
  have HO := hide (ref_eq r X r1 F r2 h1 h2)
  rw [h2] at hR2 hF hok ⊢
  simp only at hR2 hF hok ⊢
  have B2 := hide (o2.blk B1.out hne.out)
  have O2 := hide (O1.out.trans o2 (fun _ _ h => h))
  have hB2 := hB1.keep o2 (fun _ ad e hf => hf1c.out ad e hf)
  clear B1 O1 o2 hR1 hB1 h1 h2
  have hconv : IntKind.u32.wrap (F : Int) = (F : Int) := by rw [IntKind.wrap_u32]; omega
  have HF := hide hF
  go_wp2_with fail
  refine (Err_any _ g h _ hR2).mono ?_
  rintro e w3 ⟨rfl, rfl⟩
  have HU := hide Try.underlying58
  by_cases he : r2.err = 0
  · have hO := HO.out
    rw [if_neg (fun h => h he)] at hO
    have HO2 := hide hO
    have hX := hfull (hok he)
    have hX32 : X.length = 32 := by rw [hX]; rfl
    have hn1 : n1 = 32 := by rw [← hB2.1]; exact hX32
    subst hn1
    obtain ⟨b, off, hA, _⟩ := hB2.2.2 (by decide)
    subst hA
    have hl := loadHash_run w2 b off X (bys_range hB2 (by decide)) hX32
    have hm := mkRef_run X (F : Int) hX32
    have ha := arrayAt_run ⟨b, off, none⟩ c1
    have HFine := hide (show RefD.Fine ⟨X, (F : Int)⟩ from ⟨hX32, hrb.out, by show (0 : Int) ≤ (F : Int); omega, by show (F : Int) < 4294967296; omega⟩)
    clear hO HO hfull hok hX hX32 hB2 hF
    go_wp2_with (refine wpList_store_blk rfl 58 _ _ rfl w.heap.size 0 58 zeroR.cells (RefD.cells ⟨X, (F : Int)⟩) (by rfl) (by rfl) B2.out (by rw [RefD.cells_len HFine.out, RefD.cells_len zeroR_fine]; exact Nat.le_refl _) (by rw [RefD.cells_len HFine.out]; exact isRef) (RefD.one _) ?_; intro w9 o9 z9 b9; simp only [Act.put])
    rw [lay_all _ _ (by rw [RefD.cells_len HFine.out, RefD.cells_len zeroR_fine])] at b9
    refine bodyPost_ret (results_cell_blk rfl _ _ w.heap.size 58 _ _ (by rfl) b9 HU.out rfl (by rw [RefD.cells_len HFine.out]; exact isRef)) rfl ⟨?_, ?_, ?_, ?_⟩
    · rw [HO2.out]
    · rw [HO2.out]; exact HFine.out
    · rw [HO2.out]; exact hR2.keep o9 (fun e => hne.out e.symm) (fun e => hnh.out e.symm)
    · exact O2.out.trans o9 (fun i hi e => by omega)
  · have he' : (r2.err == 0) = false := by simpa using he
    have hO := HO.out
    rw [if_pos he] at hO
    have HO2 := hide hO
    clear hO HO hfull hok hB2 hF
    go_wp2_with (refine wpList_store_blk rfl 58 _ _ rfl w.heap.size 0 58 zeroR.cells zeroR.cells (by rfl) (by rfl) B2.out (by omega) (by rw [RefD.cells_len zeroR_fine]; exact isRef) (RefD.one _) ?_; intro w9 o9 z9 b9; simp only [Act.put])
    rw [lay_all _ _ rfl] at b9
    refine bodyPost_ret (results_cell_blk rfl _ _ w.heap.size 58 _ _ (by rfl) b9 HU.out rfl (by rw [RefD.cells_len zeroR_fine]; exact isRef)) rfl ⟨?_, ?_, ?_, ?_⟩
    · rw [HO2.out]
    · rw [HO2.out]; exact zeroR_fine
    · rw [HO2.out]; exact hR2.keep o9 (fun e => hne.out e.symm) (fun e => hnh.out e.symm)
    · exact O2.out.trans o9 (fun i hi e => by omega)
theorem ref_back (d : RefD) (hf : d.Fine) (rest : List Int) : Rd.ref ⟨d.bytes ++ rest, 0⟩ = (d, ⟨rest, 0⟩) := by
  have e : d.bytes ++ rest = d.id ++ (dig d.at_.toNat 4 ++ rest) := by rw [RefD.bytes, List.append_assoc]
  have h1 : Rd.raw ⟨d.bytes ++ rest, 0⟩ 32 = (d.id, ⟨dig d.at_.toNat 4 ++ rest, 0⟩) := by
    rw [e]
    have := raw_append d.id (dig d.at_.toNat 4 ++ rest)
    rw [hf.len] at this
    exact this
  have hlt : d.at_.toNat < 256 ^ 4 := by
    have h0 := hf.at0
    have h1 := hf.at1
    have e4 : (256 : Nat) ^ 4 = 4294967296 := by decide
    rw [e4]; omega
  have h2 : Rd.fixed ⟨dig d.at_.toNat 4 ++ rest, 0⟩ 4 = (d.at_.toNat, ⟨rest, 0⟩) := by
    rw [fixed_append _ _ 4 (by rw [dig_length]; rfl) (by decide), num_dig, Nat.mod_eq_of_lt hlt]
  rw [ref_eq _ _ _ _ _ h1 h2, if_neg (by simp)]
  obtain ⟨x, n⟩ := d
  have h0 := hf.at0
  simp only at h0 ⊢
  rw [Int.toNat_of_nonneg h0]
theorem out_back (d : OutD) (rest : List Int) (h0 : -9223372036854775808 ≤ d.value) (h1 : d.value ≤ 9223372036854775807) (hl : d.lock.length ≤ 2000) : Rd.out ⟨d.bytes ++ rest, 0⟩ = (d, ⟨rest, 0⟩) := by
  have e : d.bytes ++ rest = dig (u64 d.value).toNat 8 ++ (txt d.lock ++ rest) := by rw [OutD.bytes, List.append_assoc]
  have k1 : Rd.fixed ⟨d.bytes ++ rest, 0⟩ 8 = ((u64 d.value).toNat, ⟨txt d.lock ++ rest, 0⟩) := by
    rw [e, fixed_append _ _ 8 (by rw [dig8]; rfl) (by decide), num_dig8]
  have k2 : Rd.text ⟨txt d.lock ++ rest, 0⟩ 2000 = (d.lock, ⟨rest, 0⟩) := text_app _ _ _ (by omega) (by decide)
  rw [out_eq _ _ _ _ _ k1 k2, if_neg (by simp)]
  have hu : ((u64 d.value).toNat : Int) = u64 d.value := by unfold u64; omega
  rw [hu, i64_u64 _ h0 h1]
/-- What the document's loop has laid down behind j rounds. -/
def partR (X : List Int) (j : Nat) : RefD := ⟨X.take j ++ List.replicate (32 - j) 0, 0⟩
theorem partR_zero (X : List Int) : partR X 0 = zeroR := by simp [partR, zeroR]
theorem partR_len (X : List Int) (j : Nat) (hX : X.length = 32) (hj : j ≤ 32) : (partR X j).id.length = 32 := by simp [partR, hX]; omega
theorem partR_get (X : List Int) (j : Nat) (hX : X.length = 32) (hj : j < 32) : (partR X j).cells[j]? = some (.int .u8 0) := by
  rw [RefD.cells, List.getElem?_append_left (by rw [List.length_map, partR_len X j hX (by omega)]; exact hj), List.getElem?_map]
  simp only [partR]
  rw [List.getElem?_append_right (by rw [List.length_take]; omega), List.getElem?_replicate, if_pos (by rw [List.length_take]; omega)]
  rfl
theorem partR_set (X : List Int) (j : Nat) (x : Int) (hX : X.length = 32) (hj : j < 32) (hx : X[j]? = some x) : (partR X j).cells.set j (.int .u8 x) = (partR X (j + 1)).cells := by
  rw [RefD.cells, RefD.cells, List.set_append_left _ _ (by rw [List.length_map, partR_len X j hX (by omega)]; exact hj), ← List.map_set]
  congr 2
  simp only [partR]
  have e : 32 - j = (32 - (j + 1)) + 1 := by omega
  have hl : (X.take j).length = j := by rw [List.length_take]; omega
  rw [List.set_append_right _ _ (by omega), hl, Nat.sub_self, e, List.replicate_succ, List.set_cons_zero, List.take_add_one, hx]
  simp
theorem partR_full (X : List Int) (hX : X.length = 32) : (partR X 32).id = X := by simp [partR, List.take_of_length_le, hX]
set_option maxHeartbeats 4000000 in
set_option maxRecDepth 100000 in
theorem refRefRead_any (w : World) (g h : Nat) (r : Rd) (hR : RdAt 128 w g h r) :
    Calls Try.prog 125 #[.pointer (some ⟨g, 0, none⟩)] w (RefPost 128 w g h r.ref.2 r.ref.1) := by
  have hgl := hR.lt.1
  have hhl := hR.lt.2
  have hne := hide (show ¬ w.heap.size = g by omega)
  have hnh := hide (show ¬ w.heap.size = h by omega)
  have hne1 := hide (show ¬ w.heap.size + 1 = g by omega)
  have hnh1 := hide (show ¬ w.heap.size + 1 = h by omega)
  obtain ⟨wa, hwa⟩ : ∃ wa, wa = (w.alloc (.cells zeroR.cells.toArray 58)).alloc (.cells zeroR.cells.toArray 58) := ⟨_, rfl⟩
  have hR0 := hide (show RdAt 128 wa g h r by rw [hwa]; exact hR.below (below_alloc (below_alloc (Below.refl _ w) _) _))
  have BZ := hide (show Blk wa w.heap.size 58 zeroR.cells by rw [hwa]; exact (Blk.new w 58 zeroR.cells).alloc _)
  have BY := hide (show Blk wa (w.heap.size + 1) 58 zeroR.cells by rw [hwa]; exact Blk.new1 w _ 58 zeroR.cells)
  have O0 := hide (show Only (fun i => i = g) w wa by rw [hwa]; exact (Only.alloc0 (F := fun i => i = g) w _).alloc _)
  have hby := hide (show Byt r.rest by obtain ⟨_, _, _, _, hB2, _⟩ := hR; exact hB2.2.1)
  clear hR
  go_enter Try.func125, Try.ntmps125
  go_wp2_with (first
    | (refine wpList_alloc_agg rfl 58 rfl zeroR.cells zeroRef ?_; simp only [Act.put, List.setIfInBounds_toArray, List.set_cons_zero, List.set_cons_succ, World.size_alloc])
    | (rw [← hwa]; refine wpList_store_blk rfl 58 _ _ rfl (w.heap.size + 1) 0 58 zeroR.cells zeroR.cells (by rfl) (by rfl) BY.out (by omega) (by rw [RefD.cells_len zeroR_fine]; exact isRef) (RefD.one _) ?_; intro wb ob zb bb; simp only [Act.put]))
  rw [lay_all _ _ rfl] at bb
  have hsz : wa.heap.size = w.heap.size + 2 := by rw [hwa]; simp [World.size_alloc]
  have hRb := hR0.out.keep ob (fun e => hne1.out e.symm) (fun e => hnh1.out e.symm)
  have BZb := hide (ob.blk BZ.out (by omega))
  have Ob := hide (O0.out.trans ob (fun i hi e => by omega))
  clear hwa hR0 BZ BY O0 ob
  refine (refraw_any _ g h _ 32 hRb).mono ?_
  rintro e w1 ⟨A1, n1, c1, rfl, hB1, hc1, hf1, hR1, o1⟩
  have hrb := hide (raw_byt r 32 hby.out)
  obtain ⟨X, r1, h1⟩ : ∃ X r1, r.raw 32 = (X, r1) := ⟨_, _, rfl⟩
  have hfull := raw_full r 32 (by decide)
  rw [h1] at hR1 hB1 hrb hfull
  simp only at hR1 hB1 hrb hfull
  have B1 := hide (o1.blk BZb.out hne.out)
  have Y1 := hide (o1.blk bb hne1.out)
  have O1 := hide (Ob.out.trans o1 (fun _ _ h => h))
  have hf1b := hide (show ∀ ad, A1 = some ad → w.heap.size + 1 < ad.block from fun ad e => by have h1 := hf1 ad e; omega)
  have hf1c := hide (show ∀ ad, A1 = some ad → ad.block ≠ g from fun ad e => by have h1 := hf1 ad e; omega)
  clear BZb Ob o1 hRb hf1 bb
  go_wp2_with fail
  refine (reffixedof_any _ g h _ 4 hR1).mono ?_
  rintro e w2 ⟨rfl, hR2, o2⟩
  have hF := fixed_u32 r1 (by obtain ⟨_, _, _, _, hB2, _⟩ := hR1; exact hB2.2.1)
  have hok := fixed_ok r1 4
  obtain ⟨F, r2, h2⟩ : ∃ F r2, r1.fixed 4 = (F, r2) := ⟨_, _, rfl⟩
  have HO := hide (ref_eq r X r1 F r2 h1 h2)
  rw [h2] at hR2 hF hok ⊢
  simp only at hR2 hF hok ⊢
  have B2 := hide (o2.blk B1.out hne.out)
  have Y2 := hide (o2.blk Y1.out hne1.out)
  have O2 := hide (O1.out.trans o2 (fun _ _ h => h))
  have HB2 := hide (hB1.keep o2 (fun _ ad e hf => hf1c.out ad e hf))
  have HR2 := hide hR2
  have e1 : w2.cell? ⟨g, 1, none⟩ = some (.int .i64 r2.err) := by obtain ⟨_, _, _, hb, _⟩ := hR2; exact hb.c1
  clear B1 Y1 O1 o2 hR1 hB1 h1 h2 hR2
  have hconv : IntKind.u32.wrap (F : Int) = (F : Int) := by rw [IntKind.wrap_u32]; omega
  have HF := hide hF
  have HU := hide Try.underlying58
  by_cases he : r2.err = 0
  · have hO := HO.out
    rw [if_neg (fun h => h he)] at hO
    have HO2 := hide hO
    have hX := hfull (hok he)
    have hX32 : X.length = 32 := by rw [hX]; rfl
    have hn1 : n1 = 32 := by rw [← HB2.out.1]; exact hX32
    subst hn1
    obtain ⟨b, off, hA, hcell⟩ := HB2.out.2.2 (by decide)
    subst hA
    have HC := hide hcell
    have HX := hide hX32
    have HFine := hide (show RefD.Fine ⟨X, (F : Int)⟩ from ⟨hX32, hrb.out, by show (0 : Int) ≤ (F : Int); omega, by show (F : Int) < 4294967296; omega⟩)
    clear hO HO hfull hok hX hX32 hF hcell
    go_wp2_with fail
    go_loopw [6, 18, 28] (fun _ i _ wr => ∃ j : Nat, j ≤ 32 ∧ i = .int .i64 j ∧ Blk wr (w.heap.size + 1) 58 (partR X j).cells ∧ Only (fun i => i = w.heap.size + 1) w2 wr) (fun _ i _ _ => 32 - (intOf i).toNat)
    case atStart => exact ⟨0, by omega, rfl, by rw [partR_zero]; exact Y2.out, Only.refl _ _⟩
    case round =>
      obtain ⟨j, hj, rfl, hY, ho⟩ := hrel
      by_cases hlt : j < 32
      · obtain ⟨x, hx⟩ : ∃ x, X[j]? = some x := ⟨_, List.getElem?_eq_getElem (by rw [HX.out]; exact hlt)⟩
        have c0 : wr.cell? ⟨b, off + j, none⟩ = some (.int .u8 x) := (World.cell?_of_block (w := w2) (ho.block b (World.block_lt_of_cell? w2 _ (HC.out j x hx)) (by have := hf1b.out _ rfl; simp only at this; omega))).trans (HC.out j x hx)
        have c1 : wr.cell? ⟨w.heap.size + 1, j, none⟩ = some (.int .u8 0) := by rw [hY.cell]; exact partR_get X j HX.out hlt
        have f1 := hY.frozen j
        have hY2 := hide (hY.set_ j (.int .u8 x))
        rw [partR_set X j x HX.out hlt hx] at hY2
        have HO3 := hide (ho.trans (Only.cell1 wr (w.heap.size + 1) j (.int .u8 x)) (fun _ _ h => h))
        have i0 : (0 : Int) ≤ (j : Int) := by omega
        have i1 : (j : Int) < 32 := by omega
        clear hY ho hx
        go_wp2_with fail
        exact ⟨⟨j + 1, by omega, by simp, hY2.out, HO3.out⟩, by simp [intOf]; omega⟩
      · obtain rfl : j = 32 := by omega
        have hYc : (partR X 32).cells = RefD.cells ⟨X, 0⟩ := by rw [RefD.cells, partR_full X HX.out]; rfl
        rw [hYc] at hY
        have HY := hide hY
        have HO3 := hide ho
        have f32 := hY.frozen 32
        have c32 := RefD.c32 (r := ⟨X, 0⟩) ⟨HX.out, hrb.out, by show (0 : Int) ≤ 0; decide, by show (0 : Int) < 4294967296; decide⟩ hY
        have Bz := hide (ho.blk B2.out (by omega))
        clear hY ho
        have hset := hide (show (RefD.cells ⟨X, 0⟩).set 32 (.int .u32 (F : Int)) = RefD.cells ⟨X, (F : Int)⟩ from by
          rw [RefD.cells, RefD.cells, List.set_append_right _ _ (by rw [List.length_map, HX.out]; exact Nat.le_refl _), List.length_map, HX.out]; rfl)
        have hY3 := hide (HY.out.set_ 32 (.int .u32 (F : Int)))
        rw [hset.out] at hY3
        have Bz3 := hide (Bz.out.far (p := ⟨w.heap.size + 1, 32, none⟩) (by simp) (.int .u32 (F : Int)))
        have HO4 := hide (HO3.out.trans (Only.cell1 wr (w.heap.size + 1) 32 (.int .u32 (F : Int))) (fun _ _ h => h))
        go_wp2_with (first
          | (refine wpList_load_blk rfl 58 _ rfl (w.heap.size + 1) 0 58 (RefD.cells ⟨X, (F : Int)⟩) (RefD.cells ⟨X, (F : Int)⟩) _ (by rfl) hY3.out (fun i v hv => by rw [Nat.zero_add]; exact hv) HU.out rfl (by rw [RefD.cells_len HFine.out]; exact isRef) ?_; simp only [Act.put, List.setIfInBounds_toArray, List.set_cons_zero, List.set_cons_succ])
          | (refine wpList_store_blk rfl 58 _ _ rfl w.heap.size 0 58 zeroR.cells (RefD.cells ⟨X, (F : Int)⟩) (by rfl) (by rfl) Bz3.out (by rw [RefD.cells_len HFine.out, RefD.cells_len zeroR_fine]; exact Nat.le_refl _) (by rw [RefD.cells_len HFine.out]; exact isRef) (RefD.one _) ?_; intro w9 o9 z9 b9; simp only [Act.put]))
        rw [lay_all _ _ (by rw [RefD.cells_len HFine.out, RefD.cells_len zeroR_fine])] at b9
        refine bodyPost_ret (results_cell_blk rfl _ _ w.heap.size 58 _ _ (by rfl) b9 HU.out rfl (by rw [RefD.cells_len HFine.out]; exact isRef)) rfl ⟨?_, ?_, ?_, ?_⟩
        · rw [HO2.out]
        · rw [HO2.out]; exact HFine.out
        · rw [HO2.out]; exact (HR2.out.keep HO4.out (fun e => hne1.out e.symm) (fun e => hnh1.out e.symm)).keep o9 (fun e => hne.out e.symm) (fun e => hnh.out e.symm)
        · exact (O2.out.trans HO4.out (fun i hi e => by omega)).trans o9 (fun i hi e => by omega)
  · have he' : (r2.err == 0) = false := by simpa using he
    have hO := HO.out
    rw [if_pos he] at hO
    have HO2 := hide hO
    clear hO HO hfull hok hF
    go_wp2_with (first
      | (refine wpList_load_blk rfl 58 _ rfl (w.heap.size + 1) 0 58 zeroR.cells zeroR.cells _ (by rfl) Y2.out (fun i v hv => by rw [Nat.zero_add]; exact hv) HU.out rfl (by rw [RefD.cells_len zeroR_fine]; exact isRef) ?_; simp only [Act.put, List.setIfInBounds_toArray, List.set_cons_zero, List.set_cons_succ])
      | (refine wpList_store_blk rfl 58 _ _ rfl w.heap.size 0 58 zeroR.cells zeroR.cells (by rfl) (by rfl) B2.out (by omega) (by rw [RefD.cells_len zeroR_fine]; exact isRef) (RefD.one _) ?_; intro w9 o9 z9 b9; simp only [Act.put]))
    rw [lay_all _ _ rfl] at b9
    refine bodyPost_ret (results_cell_blk rfl _ _ w.heap.size 58 _ _ (by rfl) b9 HU.out rfl (by rw [RefD.cells_len zeroR_fine]; exact isRef)) rfl ⟨?_, ?_, ?_, ?_⟩
    · rw [HO2.out]
    · rw [HO2.out]; exact zeroR_fine
    · rw [HO2.out]; exact HR2.out.keep o9 (fun e => hne.out e.symm) (fun e => hnh.out e.symm)
    · exact O2.out.trans o9 (fun i hi e => by omega)
theorem scan_new (w0 w2 : World) (A : Option Addr) (n c : Nat) (bs : List Int) (hB : Bys w0 A n bs) (hc : n ≤ c) (hn : n ≤ 1000000000) (hb : Below w0.heap.size w0 w2) :
    ∃ k, RdAt 128 (w2.alloc (.cells #[.slice A n c, .int .i64 0] 128)) w2.heap.size k ⟨bs, 0⟩ ∧ (k < w0.heap.size ∨ k = w2.heap.size) := by
  have bq := Blk.new w2 128 [.slice A n c, .int .i64 0]
  have hB2 := (hB.below hb).alloc (.cells #[.slice A n c, .int .i64 0] 128)
  have hs := hb.size
  by_cases h0 : 0 < n
  · obtain ⟨b, off, rfl, _⟩ := hB.2.2 h0
    have hlt := hB.lt h0 _ rfl
    simp only at hlt
    exact ⟨b, ⟨_, n, c, bq, hB2, hc, fun _ => ⟨fun ad e => by injection e with e; rw [← e], by omega⟩, by simp; omega, hn⟩, .inl hlt⟩
  · exact ⟨w2.heap.size, ⟨_, n, c, bq, hB2, hc, fun h => absurd h h0, by simp, hn⟩, .inr rfl⟩
end Go.Proofs.Ytbpmcnfmgaolnaa
/-
  Transactions as bytes, and how they are read: plain functions, no program in sight.
-/
namespace Go.Proofs.Ytbpmcnfmgaolnaa
open Go.RowKit

structure InD where
  ref : RefD
  unlock : List Int
  order : Int
def InD.bytes (a : InD) : List Int := a.ref.bytes ++ txt a.unlock ++ dig a.order.toNat 4
structure TxD where
  version : Int
  ins : List InD
  outs : List OutD
  until_ : Int
def TxD.bytes (t : TxD) : List Int := dig t.version.toNat 4 ++ cnt t.ins.length ++ t.ins.flatMap InD.bytes ++ cnt t.outs.length ++ t.outs.flatMap OutD.bytes ++ dig t.until_.toNat 4
/-! ### In memory -/
structure InV where
  ref : RefD
  A : Option Addr
  n : Nat
  c : Nat
  bs : List Int
  order : Int
def InV.cells (a : InV) : List Value := a.ref.cells ++ [.slice a.A a.n a.c, .int .u32 a.order]
def InV.d (a : InV) : InD := ⟨a.ref, a.bs, a.order⟩
structure InV.Fine (w : World) (a : InV) : Prop where
  ref : a.ref.Fine
  bys : Bys w a.A a.n a.bs
  cap : a.n ≤ a.c
  order : 0 ≤ a.order ∧ a.order ≤ 4294967295
abbrev InsIn (w : World) (A : Option Addr) (n : Nat) (xs : List InV) : Prop := RowsIn InV.cells 35 InV.Fine w A n xs
theorem InV.Fine.below {w w' : World} {a : InV} (h : a.Fine w) (hb : Below w.heap.size w w') : a.Fine w' := ⟨h.ref, h.bys.below hb, h.cap, h.order⟩
theorem InsIn.below' {w w' : World} {A : Option Addr} {n : Nat} {xs : List InV} (h : InsIn w A n xs) (hb : Below w.heap.size w w') : InsIn w' A n xs := h.below hb fun _ h => h.below hb
structure TxV where
  version : Int
  iA : Option Addr
  iN : Nat
  iC : Nat
  ins : List InV
  oA : Option Addr
  oN : Nat
  oC : Nat
  outs : List OutV
  until_ : Int
def TxV.cells (t : TxV) : List Value := [.int .u32 t.version, .slice t.iA t.iN t.iC, .slice t.oA t.oN t.oC, .int .u32 t.until_]
def TxV.d (t : TxV) : TxD := ⟨t.version, t.ins.map InV.d, t.outs.map OutV.d, t.until_⟩
structure TxV.Fine (w : World) (t : TxV) : Prop where
  version : 0 ≤ t.version ∧ t.version ≤ 4294967295
  until_ : 0 ≤ t.until_ ∧ t.until_ ≤ 4294967295
  ins : InsIn w t.iA t.iN t.ins
  outs : OutsIn w t.oA t.oN t.outs
  icap : t.iN ≤ t.iC
  ocap : t.oN ≤ t.oC
/-- Not too great. -/
structure TxV.Small (t : TxV) : Prop where
  ins : t.iN ≤ 1000
  outs : t.oN ≤ 1000
  unlock : ∀ a ∈ t.ins, a.n ≤ 10000
  lock : ∀ a ∈ t.outs, a.n ≤ 10000
theorem TxV.Fine.below {w w' : World} {t : TxV} (h : t.Fine w) (hb : Below w.heap.size w w') : t.Fine w' := ⟨h.version, h.until_, h.ins.below' hb, h.outs.below' hb, h.icap, h.ocap⟩
theorem InV.one (a : InV) : ∀ v ∈ a.cells, v.oneCell' = true := by
  intro v hv
  rcases List.mem_append.1 hv with h | h
  · exact a.ref.one v h
  · simp only [List.mem_cons, List.mem_nil_iff, or_false] at h
    rcases h with rfl | rfl <;> rfl
theorem InV.cells_len {a : InV} (h : a.ref.Fine) : a.cells.length = 35 := by simp [InV.cells, RefD.cells_len h]
/-! ### How long -/
theorem InV.bytes_len (a : InV) (h : a.ref.Fine) (hl : a.bs.length ≤ 10000) : a.d.bytes.length ≤ 10100 := by
  have h1 := txt_len a.bs
  simp only [InV.d, InD.bytes, RefD.bytes, List.length_append, dig_length, h.len]
  omega
theorem OutV.bytes_len (a : OutV) (hl : a.bs.length ≤ 10000) : a.d.bytes.length ≤ 10100 := by
  have h1 := txt_len a.bs
  simp only [OutV.d, OutD.bytes, List.length_append, dig_length]
  omega
theorem flatMap_len {α : Type} (f : α → List Int) (l : List α) (k : Nat) (h : ∀ a ∈ l, (f a).length ≤ k) : (l.flatMap f).length ≤ k * l.length := by
  induction l with
  | nil => simp
  | cons a l ih =>
    have h1 := ih (fun b hb => h b (by simp [hb]))
    have h2 := h a (by simp)
    simp only [List.flatMap_cons, List.length_append, List.length_cons, Nat.mul_add, Nat.mul_one]
    omega
theorem flatMap_take {α : Type} (f : α → List Int) (l : List α) (j : Nat) (a : α) (h : l[j]? = some a) : (l.take (j + 1)).flatMap f = (l.take j).flatMap f ++ f a := by
  rw [List.take_add_one, h]; simp
theorem TxD.bytes_eq (t : TxV) : t.d.bytes = dig t.version.toNat 4 ++ cnt t.ins.length ++ (t.ins.flatMap fun a => a.d.bytes) ++ cnt t.outs.length ++ (t.outs.flatMap fun a => a.d.bytes) ++ dig t.until_.toNat 4 := by
  simp [TxV.d, TxD.bytes, List.flatMap_map]
end Go.Proofs.Ytbpmcnfmgaolnaa
/-
  tx: transactions as bytes.
-/
namespace Go.Proofs.Ytbpmcnfmgaolnaa
open Go.RowKit

/-- An append to bytes of one's own: what was made since the world wo, in which they stood so, is left alone too. -/
theorem wpList_app3 {w : World} {ops : Array Oper} {rest : List Oper} {o : Oper} {a : Act} {Q : Exit → Act → World → Prop} (hgd : o.guard = none) (s x : Operand)
    (ho : o.op = .call { callee := .builtin .append, args := #[s, x], argTypes := #[56, 56] })
    (w0 wo : World) (A : Option Addr) (n c : Nat) (bs : List Int) (hs : a.eval s = .slice A n c) (h : Mine 5 w0 wo A n c bs) (hbo : Below wo.heap.size wo w) (B : Option Addr) (m c' : Nat) (cs : List Int) (hx : a.eval x = .slice B m c') (hB : Bys w B m cs) (hlen : n + m ≤ 140737488355328)
    (hK : ∀ A' n' c' w', Mine 5 w0 w' A' n' c' (bs ++ cs) → Only (fun i => w0.heap.size ≤ i ∧ i < wo.heap.size) w w' → wpList Try.prog ops Q rest (a.put o.dst (.slice A' n' c')) w') : wpList Try.prog ops Q (o :: rest) a w := by
  obtain ⟨i, z, hi, hz, hs1, hby, hzs⟩ := u8_info
  obtain ⟨h0, rfl, G, h1, h2⟩ := h
  have hlt := h1.lt
  refine wpList_append_tail hgd s x 56 ho 5 i z Try.underlying56 hi hz hs1 hby hzs _ bs G hs (h1.below hbo) B m c' cs hx hB hlen fun A' c2 G' w' t' o' g' k' => ?_
  have hb : Below w0.heap.size w0 w := Below.then_ h0 hbo
  have hG : ∀ i, G' i → w0.heap.size ≤ i := fun i hi => by
    rcases g' i hi with h | h
    · exact h2 i h
    · exact Nat.le_trans hb.size h
  exact hK A' _ c2 w' ⟨hb.trans (o'.below hb.size (fun i hi hg => by have := h2 i hg; omega)), by rw [List.length_append, hB.1], G', t', hG⟩ (o'.mono (fun i _ hg => ⟨h2 i hg, hlt i hg⟩))
def zeroI : InV := ⟨zeroR, none, 0, 0, [], 0⟩
set_option maxRecDepth 100000 in
theorem zeroIn_info : (Try.prog.info? 60).map (·.zero) = some (some (.agg zeroI.cells.toArray)) := by kernel_rfl
set_option maxRecDepth 100000 in
theorem isIn : (Try.prog.info? 60).map (·.size) = some 35 := by kernel_rfl
def loadIn (a : Addr) : Sem Value := loadVar 60 a
theorem loadIn_fold (a : Addr) : loadVar 60 a = loadIn a := rfl
theorem loadIn_run (w : World) (b o : Nat) (a : InV) (h : w.rangeAt b o a.cells) (hf : a.ref.Fine) : (loadIn ⟨b, o, none⟩).run Try.prog w = .ok (.agg a.cells.toArray) w :=
  run_loadVar_mid w b o _ a.cells _ h Try.underlying60 rfl (by rw [isIn, InV.cells_len hf])
attribute [local go_sem ↓] loadIn_fold loadRef_fold
theorem InV.range_ref {w : World} {b o : Nat} {a : InV} (h : w.rangeAt b o a.cells) : w.rangeAt b o a.ref.cells := fun j v hv => h j v (by
  rw [InV.cells, List.getElem?_append_left (List.getElem?_eq_some_iff.1 hv).1]; exact hv)
theorem InV.c33 {w : World} {b : Nat} {a : InV} (h : w.rangeAt b 0 a.cells) (hf : a.ref.Fine) : w.cell? ⟨b, 33, none⟩ = some (.slice a.A a.n a.c) := by
  have := h 33 (.slice a.A a.n a.c) (by rw [InV.cells, List.getElem?_append_right (by rw [RefD.cells_len hf]; exact Nat.le_refl _), RefD.cells_len hf]; rfl)
  simpa using this
theorem InV.c34 {w : World} {b : Nat} {a : InV} (h : w.rangeAt b 0 a.cells) (hf : a.ref.Fine) : w.cell? ⟨b, 34, none⟩ = some (.int .u32 a.order) := by
  have := h 34 (.int .u32 a.order) (by rw [InV.cells, List.getElem?_append_right (by rw [RefD.cells_len hf]; decide), RefD.cells_len hf]; rfl)
  simpa using this
theorem u64_small (n : Int) (h0 : 0 ≤ n) (h1 : n ≤ 4294967295) : IntKind.u64.wrap n = n := by rw [IntKind.wrap_u64]; omega
set_option maxHeartbeats 4000000 in
set_option maxRecDepth 100000 in
theorem TBytes_any (w : World) (t : TxV) (hf : t.Fine w) (hs : t.Small) :
    Calls Try.prog 54 #[.agg t.cells.toArray] w (MinePost 5 w none t.d.bytes) := by
  have E := hide (TxD.bytes_eq t)
  obtain ⟨version, iA, iN, iC, ins, oA, oN, oC, outs, until_⟩ := t
  obtain ⟨hv, hu, hins, houts, hic, hoc⟩ := hf
  obtain ⟨hs1, hs2, hs3, hs4⟩ := hs
  simp only at hv hu hins houts hic hoc hs1 hs2 hs3 hs4 E
  have HV := hide hv
  have HU := hide hu
  have HN := hide hs1
  have HM := hide hs2
  have HUL := hide hs3
  have HLK := hide hs4
  have vv := u64_small version hv.1 hv.2
  have vu := u64_small until_ hu.1 hu.2
  have vn := u64_small (iN : Int) (by omega) (by omega)
  have vm := u64_small (oN : Int) (by omega) (by omega)
  have B0 := Blk.new w 37 [.int .u32 version, .slice iA iN iC, .slice oA oN oC, .int .u32 until_]
  have hb0 := hide (show Below w.heap.size w (w.alloc (.cells #[.int .u32 version, .slice iA iN iC, .slice oA oN oC, .int .u32 until_] 37)) from below_alloc (Below.refl _ _) _)
  have HI := hide (hins.below' hb0.out)
  have HO1 := hide (houts.below' hb0.out)
  clear hins houts hs1 hs2 hs3 hs4 hv hu hic hoc
  show Calls _ _ #[.agg #[.int .u32 version, .slice iA iN iC, .slice oA oN oC, .int .u32 until_]] _ _
  go_enter Try.func54, Try.ntmps54
  go_wp2_with fail
  obtain ⟨w1, hw1⟩ : ∃ w1, w1 = w.alloc (.cells #[.int .u32 version, .slice iA iN iC, .slice oA oN oC, .int .u32 until_] 37) := ⟨_, rfl⟩
  rw [← hw1] at B0 hb0 HI HO1 ⊢
  clear hw1
  have x0 := B0.c0
  have x1 := B0.c1
  have x2 := B0.c2
  have x3 := B0.c3
  refine wp_region_held_drew (S := fun w' => Below w1.heap.size w1 w') (by kernel_rfl) (by exact (Below.refl _ _).drew) (fun hSA0 => ?_)
  obtain ⟨w1d, hwA⟩ : ∃ x, x = w1.drew := ⟨_, rfl⟩
  rw [← hwA] at hSA0 ⊢
  have hDA : Below w1.heap.size w1 w1d := by rw [hwA]; exact (Below.refl _ _).drew
  clear hwA
  (refine wpAnyH_take (i := 0) (oi := ⟨some 8, .fieldAddr 37 (.tmp 1) 0, 0, "tx.go:28", #[], none⟩) (v := ?_) rfl (by kernel_rfl) (by kernel_rfl) (by kernel_rfl) (fun _ _ _ h => h) (Or.inl ⟨by rfl, fun w' hSw => ?_⟩) hSA0 ?_; rotate_left; focus (go_simp; try with_reducible rfl))
  simp only [Act.put, List.setIfInBounds_toArray, List.set_cons_zero, List.set_cons_succ]
  (refine wpAnyH_take (i := 1) (oi := ⟨some 9, .load 27 (.tmp 8), 27, "tx.go:28", #[⟨0, .data⟩], none⟩) (v := ?_) rfl (by kernel_rfl) (by kernel_rfl) (by kernel_rfl) (fun _ _ _ h => h) (Or.inl ⟨by rfl, fun w' hSw => ?_⟩) hSA0 ?_; rotate_left; focus (have l0 := cell_under hSw x0; go_simp; try with_reducible rfl))
  simp only [Act.put, List.setIfInBounds_toArray, List.set_cons_zero, List.set_cons_succ]
  (refine wpAnyH_take (i := 2) (oi := ⟨some 10, .convert 27 113 (.tmp 9), 113, "tx.go:28", #[⟨1, .data⟩], none⟩) (v := ?_) rfl (by kernel_rfl) (by kernel_rfl) (by kernel_rfl) (fun _ _ _ h => h) (Or.inl ⟨by rfl, fun w' hSw => ?_⟩) hSA0 ?_; rotate_left; focus (go_simp; try with_reducible rfl))
  simp only [Act.put, List.setIfInBounds_toArray, List.set_cons_zero, List.set_cons_succ]
  (refine wpAnyH_take (i := 4) (oi := ⟨some 12, .fieldAddr 37 (.tmp 1) 1, 0, "tx.go:28", #[], none⟩) (v := ?_) rfl (by kernel_rfl) (by kernel_rfl) (by kernel_rfl) (fun _ _ _ h => h) (Or.inl ⟨by rfl, fun w' hSw => ?_⟩) hSA0 ?_; rotate_left; focus (go_simp; try with_reducible rfl))
  simp only [Act.put, List.setIfInBounds_toArray, List.set_cons_zero, List.set_cons_succ]
  (refine wpAnyH_take (i := 5) (oi := ⟨some 13, .load 34 (.tmp 12), 34, "tx.go:28", #[⟨4, .data⟩], none⟩) (v := ?_) rfl (by kernel_rfl) (by kernel_rfl) (by kernel_rfl) (fun _ _ _ h => h) (Or.inl ⟨by rfl, fun w' hSw => ?_⟩) hSA0 ?_; rotate_left; focus (have l1 := cell_under hSw x1; go_simp; try with_reducible rfl))
  simp only [Act.put, List.setIfInBounds_toArray, List.set_cons_zero, List.set_cons_succ]
  (refine wpAnyH_take (i := 6) (oi := ⟨some 14, .call { callee := .builtin .len, args := #[.tmp 13], argTypes := #[34] }, 3, "tx.go:28", #[⟨5, .data⟩], none⟩) (v := ?_) rfl (by kernel_rfl) (by kernel_rfl) (by kernel_rfl) (fun _ _ _ h => h) (Or.inl ⟨by rfl, fun w' hSw => ?_⟩) hSA0 ?_; rotate_left; focus (go_simp; try with_reducible rfl))
  simp only [Act.put, List.setIfInBounds_toArray, List.set_cons_zero, List.set_cons_succ]
  (refine wpAnyH_take (i := 7) (oi := ⟨some 15, .convert 3 113 (.tmp 14), 113, "tx.go:28", #[⟨6, .data⟩], none⟩) (v := ?_) rfl (by kernel_rfl) (by kernel_rfl) (by kernel_rfl) (fun _ _ _ h => h) (Or.inl ⟨by rfl, fun w' hSw => ?_⟩) hSA0 ?_; rotate_left; focus (go_simp; try with_reducible rfl))
  simp only [Act.put, List.setIfInBounds_toArray, List.set_cons_zero, List.set_cons_succ]
  refine wpAnyH_ready (rs := [3]) (by kernel_rfl) (by simp) ?_
  refine AllReadyH.cons rfl (fun K hK => ?_) AllReadyH.nil
  go_simp
  go_wp2_with (go_at_call 86; refine (Fixed_any w1d w1d none 0 0 [] version 4 (Below.refl _ _) (Bys.nil _ _) HV.out.1 (by have := HV.out.2; omega) (by decide)).mono ?_; rintro e w2 ⟨A2, n2, c2, rfl, t2, f2⟩)
  refine hK.out _ _ (Below.then_ hSA0 t2.below) (fun hSA1 => ?_)
  clear hK K
  refine wpAnyH_ready (rs := [8]) (by kernel_rfl) (by simp) ?_
  refine AllReadyH.cons rfl (fun K hK => ?_) AllReadyH.nil
  go_simp
  go_wp2_with (go_at_call 74; refine (Count_any w2 w2 A2 n2 c2 _ (iN : Int) (Below.refl _ _) t2.bys t2.cap (by omega) (by have := HN.out; omega) (by have := t2.len; rw [List.nil_append, dig_length] at this; have : (Rd.within 4).toNat = 4 := rfl; omega)).mono ?_; rintro e w3 ⟨A3, n3, c3, rfl, t3, f3⟩)
  refine hK.out _ _ (Below.then_ hSA1 t3.below) (fun hSA2 => ?_)
  clear hK K
  (refine wpAnyH_take (i := 9) (oi := ⟨some 3, .assign (.tmp 16), 56, "tx.go:28", #[⟨8, .data⟩, ⟨8, .chain⟩, ⟨0, .phase⟩, ⟨1, .phase⟩, ⟨2, .phase⟩, ⟨3, .phase⟩, ⟨4, .phase⟩, ⟨5, .phase⟩, ⟨6, .phase⟩, ⟨7, .phase⟩, ⟨8, .phase⟩], none⟩) (v := ?_) rfl (by kernel_rfl) (by kernel_rfl) (by kernel_rfl) (fun _ _ _ h => h) (Or.inl ⟨by rfl, fun w' hSw => ?_⟩) hSA2 ?_; rotate_left; focus (go_simp; try with_reducible rfl))
  simp only [Act.put, List.setIfInBounds_toArray, List.set_cons_zero, List.set_cons_succ]
  refine wpAnyH_done (by kernel_rfl) ?_ _
  obtain ⟨p0, hp0⟩ : ∃ p0, p0 = dig version.toNat 4 ++ cnt iN := ⟨_, rfl⟩
  have T3 := hide (show Mine 5 w1 w3 A3 n3 c3 p0 from by rw [hp0]; exact t3.older hSA1)
  have HP0 := hide hp0
  have hl0 : p0.length ≤ 13 := by rw [hp0, List.length_append, dig_length]; have := (cnt_length iN).2; omega
  have HL0 := hide hl0
  have hilen := hide HI.out.1
  clear hp0 hl0 t2 t3 f2 f3 hSA0 hDA
  have y1 := cell_under hSA2 x1
  go_wp2_with fail
  go_loopw [3, 20] (fun b i ws => ∃ (j : Nat) (A' : Option Addr) (m' c' : Nat), j ≤ iN ∧ i = .int .i64 j ∧ b = .slice A' m' c' ∧ Mine 5 w1 ws A' m' c' (p0 ++ (ins.take j).flatMap fun a => a.d.bytes)) (fun _ i _ => iN - (intOf i).toNat)
  case atStart => exact ⟨0, A3, n3, c3, by omega, rfl, rfl, by simpa using T3.out⟩
  case round =>
    obtain ⟨j, A4, n4, c4, hj, rfl, rfl, ht⟩ := hrel
    have HT := hide ht
    have hlen4 : n4 ≤ 13 + 10100 * j := by
      have h1 := ht.len
      have h2 := flatMap_len (fun a : InV => a.d.bytes) (ins.take j) 10100 (fun a ha => (HI.out.2.1 a (List.mem_of_mem_take ha)).ref |> fun hr => InV.bytes_len a hr (by have h3 := (HI.out.2.1 a (List.mem_of_mem_take ha)).bys.1; have h4 := HUL.out a (List.mem_of_mem_take ha); omega))
      rw [List.length_append] at h1
      rw [List.length_take] at h2
      have h5 := HL0.out
      have h6 : 10100 * min j ins.length ≤ 10100 * j := Nat.mul_le_mul_left _ (Nat.min_le_left _ _)
      omega
    have HLEN4 := hide hlen4
    by_cases hlt : j < iN
    · obtain ⟨a, ha⟩ : ∃ a, ins[j]? = some a := ⟨_, List.getElem?_eq_getElem (by have := hilen.out; omega)⟩
      have haf := (HI.out.2.1 a (List.mem_of_getElem? ha))
      have haW := haf.below ht.below
      obtain ⟨b, off, rfl, hrow⟩ := HI.out.2.2 (by omega)
      have hld := loadIn_run wr b (off + j * 35) a (range_under (hrow j a ha) ht.below) haf.ref
      have HA0 := hide haW
      have HAB := hide haf.bys
      have HC := hide haf.cap
      have HO := hide haf.order
      have vo := u64_small a.order haf.order.1 haf.order.2
      have hta := flatMap_take (fun a : InV => a.d.bytes) ins j a ha
      have HTA := hide hta
      have lz : zeroI.cells.length = 35 := rfl
      have la : a.cells.length = 35 := InV.cells_len haf.ref
      have hla : a.bs.length ≤ 10000 := by have h3 := haf.bys.1; have h4 := HUL.out a (List.mem_of_getElem? ha); omega
      have HLA := hide hla
      have KZ := hide (Blk.new wr 60 zeroI.cells)
      have hI := isIn
      have i0 : (0 : Int) ≤ (j : Int) := by omega
      have i1 : (j : Int) < (iN : Int) := by omega
      clear ht haf haW hrow hta hla hlen4 ha
      go_wp2_with (first
        | (refine wpList_alloc_agg rfl 60 rfl zeroI.cells zeroIn_info ?_; simp only [Act.put, List.setIfInBounds_toArray, List.set_cons_zero, List.set_cons_succ])
        | (refine wpList_store_blk rfl 60 _ _ rfl wr.heap.size 0 60 zeroI.cells a.cells (by rfl) (by rfl) KZ.out (by rw [lz, la]; decide) (by rw [hI, la]) (InV.one a) ?_; intro w5 o5 z5 b5; rw [lay_all zeroI.cells _ (by rw [lz, la])] at b5; have hlr := loadRef_run w5 wr.heap.size 0 a.ref (InV.range_ref b5.whole) HA0.out.ref; simp only [Act.put]))
      have hb5 : Below wr.heap.size wr w5 := Below.trans ((Below.refl _ wr).alloc (Nat.le_refl _) _) (o5.below (by simp) (fun i hi e => by have h9 : i = wr.heap.size := e; omega))
      have HB5 := hide hb5
      have B5 := hide b5
      clear o5 z5 b5 hld KZ
      refine (RefBytes_any w5 a.ref HA0.out.ref).mono ?_
      rintro e wq ⟨Aq, nq, cq, rfl, tq, fq⟩
      have hbq := Below.then_ HB5.out tq.below
      have HBQ := hide hbq
      have HBq := hide tq.bys
      have B6q := hide (B5.out.under tq.below)
      have HLq := hide tq.len
      clear tq fq hlr hbq
      go_wp2_with (at_builtin; refine wpList_app3 rfl _ _ rfl w1 wr A4 n4 c4 _ (by rfl) HT.out HBQ.out Aq nq cq _ (by rfl) HBq.out (by have := HLq.out; have h1 := HLEN4.out; have h2 := HN.out; simp only [RefD.bytes, List.length_append, dig_length, HA0.out.ref.len] at this; omega) ?_; intro A5 n5 c5 w6 t5 o6; simp only [Act.put, List.setIfInBounds_toArray, List.set_cons_zero, List.set_cons_succ])
      have B6 := hide (o6.blk B6q.out (fun e => by have := e.2; omega))
      have T5 := hide t5
      have HA := hide (HAB.out.below t5.below)
      have y33 := InV.c33 B6.out.whole HA0.out.ref
      have y34 := InV.c34 B6.out.whole HA0.out.ref
      have hl5 : n5 ≤ 20000000 := by
        have h0 := t5.len
        have h1 := HT.out.len
        have h2 := HLEN4.out
        have h3 := HN.out
        rw [List.length_append, h1] at h0
        simp only [RefD.bytes, List.length_append, dig_length, HA0.out.ref.len] at h0
        omega
      have HL5 := hide hl5
      clear t5 o6 hl5 B6q HBq HLq
      go_wp2_with fail
      refine wp_region_held_drew (S := fun w' => Below w6.heap.size w6 w') (by kernel_rfl) (by exact (Below.refl _ _).drew) (fun hSB0 => ?_)
      obtain ⟨w6d, hwB⟩ : ∃ x, x = w6.drew := ⟨_, rfl⟩
      rw [← hwB] at hSB0 ⊢
      have hDB : Below w6.heap.size w6 w6d := by rw [hwB]; exact (Below.refl _ _).drew
      clear hwB
      (refine wpAnyH_take (i := 0) (oi := ⟨some 29, .move (.tmp 3), 56, "tx.go:31", #[], none⟩) (v := ?_) rfl (by kernel_rfl) (by kernel_rfl) (by kernel_rfl) (fun _ _ _ h => h) (Or.inl ⟨by rfl, fun w' hSw => ?_⟩) hSB0 ?_; rotate_left; focus (go_simp; try with_reducible rfl))
      simp only [Act.put, List.setIfInBounds_toArray, List.set_cons_zero, List.set_cons_succ]
      (refine wpAnyH_take (i := 1) (oi := ⟨some 30, .fieldAddr 60 (.tmp 5) 1, 0, "tx.go:31", #[], none⟩) (v := ?_) rfl (by kernel_rfl) (by kernel_rfl) (by kernel_rfl) (fun _ _ _ h => h) (Or.inl ⟨by rfl, fun w' hSw => ?_⟩) hSB0 ?_; rotate_left; focus (go_simp; try with_reducible rfl))
      simp only [Act.put, List.setIfInBounds_toArray, List.set_cons_zero, List.set_cons_succ]
      (refine wpAnyH_take (i := 2) (oi := ⟨some 31, .load 56 (.tmp 30), 56, "tx.go:31", #[⟨1, .data⟩], none⟩) (v := ?_) rfl (by kernel_rfl) (by kernel_rfl) (by kernel_rfl) (fun _ _ _ h => h) (Or.inl ⟨by rfl, fun w' hSw => ?_⟩) hSB0 ?_; rotate_left; focus (have l33 := cell_under hSw y33; go_simp; try with_reducible rfl))
      simp only [Act.put, List.setIfInBounds_toArray, List.set_cons_zero, List.set_cons_succ]
      (refine wpAnyH_take (i := 5) (oi := ⟨some 34, .fieldAddr 60 (.tmp 5) 2, 0, "tx.go:31", #[], none⟩) (v := ?_) rfl (by kernel_rfl) (by kernel_rfl) (by kernel_rfl) (fun _ _ _ h => h) (Or.inl ⟨by rfl, fun w' hSw => ?_⟩) hSB0 ?_; rotate_left; focus (go_simp; try with_reducible rfl))
      simp only [Act.put, List.setIfInBounds_toArray, List.set_cons_zero, List.set_cons_succ]
      (refine wpAnyH_take (i := 6) (oi := ⟨some 35, .load 27 (.tmp 34), 27, "tx.go:31", #[⟨5, .data⟩], none⟩) (v := ?_) rfl (by kernel_rfl) (by kernel_rfl) (by kernel_rfl) (fun _ _ _ h => h) (Or.inl ⟨by rfl, fun w' hSw => ?_⟩) hSB0 ?_; rotate_left; focus (have l34 := cell_under hSw y34; go_simp; try with_reducible rfl))
      simp only [Act.put, List.setIfInBounds_toArray, List.set_cons_zero, List.set_cons_succ]
      (refine wpAnyH_take (i := 7) (oi := ⟨some 36, .convert 27 113 (.tmp 35), 113, "tx.go:31", #[⟨6, .data⟩], none⟩) (v := ?_) rfl (by kernel_rfl) (by kernel_rfl) (by kernel_rfl) (fun _ _ _ h => h) (Or.inl ⟨by rfl, fun w' hSw => ?_⟩) hSB0 ?_; rotate_left; focus (go_simp; try with_reducible rfl))
      simp only [Act.put, List.setIfInBounds_toArray, List.set_cons_zero, List.set_cons_succ]
      refine wpAnyH_ready (rs := [3]) (by kernel_rfl) (by simp) ?_
      refine AllReadyH.cons rfl (fun K hK => ?_) AllReadyH.nil
      go_simp
      skip
      refine hK.out _ _ (below_alloc hSB0 _) (fun hSB1 => ?_)
      clear hK K
      refine wpAnyH_ready (rs := [4]) (by kernel_rfl) (by simp) ?_
      refine AllReadyH.cons rfl (fun K hK => ?_) AllReadyH.nil
      go_simp
      go_wp2_with (go_at_call 99; refine (Text_any _ _ A5 n5 c5 _ (some ⟨w6d.heap.size, 0, none⟩) 1 1 [a.bs] (Below.refl _ _) ((T5.out.bys.below hDB).alloc _) (Byss.one w6 w6d 56 a.A a.n a.c a.bs HA.out HC.out hDB) (by have := HL5.out; omega) (by decide) (by intro x hx; simp at hx; subst hx; have := HLA.out; omega)).mono ?_; rintro e w7 ⟨A7, n7, c7, rfl, t7, f7⟩)
      refine hK.out _ _ (Below.then_ hSB1 t7.below) (fun hSB2 => ?_)
      clear hK K
      refine wpAnyH_ready (rs := [8]) (by kernel_rfl) (by simp) ?_
      refine AllReadyH.cons rfl (fun K hK => ?_) AllReadyH.nil
      go_simp
      go_wp2_with (go_at_call 86; refine (Fixed_any w7 w7 A7 n7 c7 _ a.order 4 (Below.refl _ _) t7.bys HO.out.1 (by have := HO.out.2; omega) (by have := t7.len; have h1 := HL5.out; have h2 := T5.out.len; have h3 := HLA.out; have h4 := txt_len a.bs; simp only [List.flatMap_cons, List.flatMap_nil, List.append_nil, List.length_append] at this h2; omega)).mono ?_; rintro e w8 ⟨A8, n8, c8, rfl, t8, f8⟩)
      refine hK.out _ _ (Below.then_ hSB2 t8.below) (fun hSB3 => ?_)
      clear hK K
      (refine wpAnyH_take (i := 9) (oi := ⟨some 3, .assign (.tmp 37), 56, "tx.go:31", #[⟨8, .data⟩, ⟨8, .chain⟩, ⟨0, .phase⟩, ⟨1, .phase⟩, ⟨2, .phase⟩, ⟨3, .phase⟩, ⟨4, .phase⟩, ⟨5, .phase⟩, ⟨6, .phase⟩, ⟨7, .phase⟩, ⟨8, .phase⟩], none⟩) (v := ?_) rfl (by kernel_rfl) (by kernel_rfl) (by kernel_rfl) (fun _ _ _ h => h) (Or.inl ⟨by rfl, fun w' hSw => ?_⟩) hSB3 ?_; rotate_left; focus (go_simp; try with_reducible rfl))
      simp only [Act.put, List.setIfInBounds_toArray, List.set_cons_zero, List.set_cons_succ]
      refine wpAnyH_done (by kernel_rfl) ?_ _
      have T8 := hide (show Mine 5 w1 w8 A8 n8 c8 _ from t8.older (Below.then_ T5.out.below hSB2))
      have hj9 : (j : Int) ≤ 1000 := by have := HN.out; omega
      go_wp2_with fail
      refine ⟨⟨j + 1, A8, n8, c8, by omega, by simp, rfl, ?_⟩, by simp [intOf]; omega⟩
      rw [HTA.out]
      have e : p0 ++ ((ins.take j).flatMap (fun a => a.d.bytes) ++ a.d.bytes) = p0 ++ (ins.take j).flatMap (fun a => a.d.bytes) ++ a.ref.bytes ++ [a.bs].flatMap txt ++ dig a.order.toNat (Rd.within 4).toNat := by
        rw [show (Rd.within 4).toNat = 4 from rfl]
        simp [InV.d, InD.bytes]
      rw [e]
      exact T8.out
    · obtain rfl : iN = j := by omega
      have hall : ins.take iN = ins := List.take_of_length_le (by have := hilen.out; omega)
      rw [hall] at HT
      have z2 := cell_under HT.out.below x2
      have z3 := cell_under HT.out.below x3
      clear ht hall hlen4 hlt hj
      have hl4 : n4 ≤ 20000000 := by have := HLEN4.out; have := HN.out; omega
      go_wp2_with fail
      refine (Count_any wr wr A4 n4 c4 _ (oN : Int) (Below.refl _ _) HT.out.bys HT.out.cap (by omega) (by have := HM.out; omega) (by omega)).mono ?_
      rintro e wb ⟨Ab, nb, cb, rfl, tb, fb⟩
      have Tb := hide (show Mine 5 w1 wb Ab nb cb _ from tb.older HT.out.below)
      have z2 := cell_under Tb.out.below x2
      obtain ⟨p1, hp1⟩ : ∃ p1, p1 = p0 ++ ins.flatMap (fun a => a.d.bytes) ++ cnt oN := ⟨_, rfl⟩
      have e1 : ((oN : Int)).toNat = oN := by omega
      rw [e1, ← hp1] at Tb
      have HP1 := hide hp1
      have hl1 : p1.length ≤ 30000000 := by
        have h1 := HT.out.len
        rw [hp1, List.length_append, h1]
        have := (cnt_length oN).2
        omega
      have HL1 := hide hl1
      have holen := hide HO1.out.1
      clear tb fb hp1 e1 hl1
      go_wp2_with fail
      go_loopw [3, 48] (fun b i ws => ∃ (j : Nat) (A' : Option Addr) (m' c' : Nat), j ≤ oN ∧ i = .int .i64 j ∧ b = .slice A' m' c' ∧ Mine 5 w1 ws A' m' c' (p1 ++ (outs.take j).flatMap fun a => a.d.bytes)) (fun _ i _ => oN - (intOf i).toNat)
      case atStart => exact ⟨0, Ab, nb, cb, by omega, rfl, rfl, by simpa using Tb.out⟩
      case round =>
        obtain ⟨j, A6, n6, c6, hj, rfl, rfl, ht⟩ := hrel
        have HT2 := hide ht
        have hlen6 : n6 ≤ 30000000 + 10100 * j := by
          have h1 := ht.len
          have h2 := flatMap_len (fun a : OutV => a.d.bytes) (outs.take j) 10100 (fun a ha => OutV.bytes_len a (by have h3 := (HO1.out.2.1 a (List.mem_of_mem_take ha)).bys.1; have h4 := HLK.out a (List.mem_of_mem_take ha); omega))
          rw [List.length_append] at h1
          rw [List.length_take] at h2
          have h5 := HL1.out
          have h6 : 10100 * min j outs.length ≤ 10100 * j := Nat.mul_le_mul_left _ (Nat.min_le_left _ _)
          omega
        have HLEN6 := hide hlen6
        by_cases hlt : j < oN
        · obtain ⟨a, ha⟩ : ∃ a, outs[j]? = some a := ⟨_, List.getElem?_eq_getElem (by have := holen.out; omega)⟩
          have haf := HO1.out.2.1 a (List.mem_of_getElem? ha)
          obtain ⟨b, off, rfl, hrow⟩ := HO1.out.2.2 (by omega)
          have hr := range_under (hrow j a ha) ht.below
          have k0 := rangeAt_c0 hr
          have k1 := rangeAt_c1 hr
          have HTA := hide (flatMap_take (fun a : OutV => a.d.bytes) outs j a ha)
          have HAF := hide (haf.below ht.below)
          have hln : a.n ≤ 10000 := HLK.out a (List.mem_of_getElem? ha)
          have HLN := hide hln
          have i0 : (0 : Int) ≤ (j : Int) := by omega
          have i1 : (j : Int) < (oN : Int) := by omega
          have hj9 : (j : Int) ≤ 1000 := by have := HM.out; omega
          clear ht haf hrow hr hln hlen6 ha
          go_wp2_with fail
          refine (OutBytes_any _ a (HAF.out.below (below_alloc (Below.refl _ _) _)) (by have := HLN.out; omega)).mono ?_
          rintro e wq ⟨Aq, nq, cq, rfl, tq, fq⟩
          have hbq : Below wr.heap.size wr wq := Below.then_ (below_alloc (Below.refl _ wr) (.cells #[.int .i64 a.v, .slice a.A a.n a.c] 62)) tq.below
          have HBQ := hide hbq
          have HBq := hide tq.bys
          have hlq : nq ≤ 10100 := by rw [← tq.len]; exact OutV.bytes_len a (by rw [HAF.out.bys.1]; exact HLN.out)
          clear tq fq hbq
          go_wp2_with (at_builtin; refine wpList_app3 rfl _ _ rfl w1 wr A6 n6 c6 _ (by rfl) HT2.out HBQ.out Aq nq cq _ (by rfl) HBq.out (by have h1 := HLEN6.out; have h2 := HM.out; omega) ?_; intro A5 n5 c5 w6 t5 o6; simp only [Act.put, List.setIfInBounds_toArray, List.set_cons_zero, List.set_cons_succ])
          refine ⟨⟨j + 1, A5, n5, c5, by omega, by simp, rfl, ?_⟩, by simp [intOf]; omega⟩
          rw [HTA.out, ← List.append_assoc]
          exact t5
        · obtain rfl : oN = j := by omega
          have hall : outs.take oN = outs := List.take_of_length_le (by have := holen.out; omega)
          rw [hall] at HT2
          have z3 := cell_under HT2.out.below x3
          have hl6 : n6 ≤ 50000000 := by have := HLEN6.out; have := HM.out; omega
          clear ht hall hlen6 hlt hj
          go_wp2_with fail
          refine (Fixed_any wr wr A6 n6 c6 _ until_ 4 (Below.refl _ _) HT2.out.bys HU.out.1 (by have := HU.out.2; omega) (by omega)).mono ?_
          rintro e w9 ⟨A9, n9, c9, rfl, t9, f9⟩
          have T9 := hide (t9.older (Below.then_ hb0.out HT2.out.below))
          have F9 := hide ((f9 (Fr.none _)).older (Below.then_ hb0.out HT2.out.below))
          clear t9 f9
          go_wp2_with fail
          go_ret
          have e : ({ version := version, iA := iA, iN := iN, iC := iC, ins := ins, oA := oA, oN := oN, oC := oC, outs := outs, until_ := until_ } : TxV).d.bytes = p1 ++ outs.flatMap (fun a => a.d.bytes) ++ dig until_.toNat (Rd.within 4).toNat := by
            rw [E.out, HP1.out, HP0.out, hilen.out, holen.out]
            rfl
          rw [e]
          exact MinePost.mk T9.out F9.out
end Go.Proofs.Ytbpmcnfmgaolnaa
/-
  A transaction, read: plain functions, no program in sight; and rows of one's own that are appended to at a step of a drawn region.
-/
namespace Go.Proofs.Ytbpmcnfmgaolnaa
open Go.RowKit

def Rd.inn (r : Rd) : InD × Rd :=
  let a := r.ref
  let b := a.2.text 2000
  let c := b.2.fixed 4
  (⟨a.1, b.1, (c.1 : Int)⟩, c.2)
/-- So many, one behind the other. -/
def Rd.rep {α : Type} (f : Rd → α × Rd) : Nat → Rd → List α × Rd
  | 0, r => ([], r)
  | n + 1, r => ((Rd.rep f n r).1 ++ [(f (Rd.rep f n r).2).1], (f (Rd.rep f n r).2).2)
def zeroT : TxD := ⟨0, [], [], 0⟩
def Rd.txRaw (r : Rd) : TxD × Rd :=
  let v := r.fixed 4
  let ni := v.2.count 200
  let ins := Rd.rep Rd.inn ni.1 ni.2
  let no := ins.2.count 200
  let outs := Rd.rep Rd.out no.1 no.2
  let u := outs.2.fixed 4
  (⟨(v.1 : Int), ins.1, outs.1, (u.1 : Int)⟩, u.2)
def Rd.tx (r : Rd) : TxD × Rd := if r.txRaw.2.err ≠ 0 then (zeroT, r.txRaw.2) else r.txRaw
theorem rep_len {α : Type} (f : Rd → α × Rd) : ∀ (n : Nat) (r : Rd), (Rd.rep f n r).1.length = n
  | 0, _ => rfl
  | n + 1, r => by rw [Rd.rep]; simp [rep_len f n r]
theorem txRaw_eq (r : Rd) (V : Nat) (r1 : Rd) (N : Nat) (r2 : Rd) (M : Nat) (r4 : Rd) (U : Nat) (r6 : Rd) (h1 : r.fixed 4 = (V, r1)) (h2 : r1.count 200 = (N, r2)) (h4 : (Rd.rep Rd.inn N r2).2.count 200 = (M, r4)) (h6 : (Rd.rep Rd.out M r4).2.fixed 4 = (U, r6)) :
    r.txRaw = (⟨(V : Int), (Rd.rep Rd.inn N r2).1, (Rd.rep Rd.out M r4).1, (U : Int)⟩, r6) := by
  simp only [Rd.txRaw, h1, h2, h4, h6]
/-! ### What stays fine whatever turns in F -/
def KeepI (w : World) (a : InV) (F : Nat → Prop) : Prop := ∀ w', Only F w w' → a.Fine w'
def KeepO (w : World) (a : OutV) (F : Nat → Prop) : Prop := ∀ w', Only F w w' → a.Fine w'
theorem KeepI.step {w w' : World} {a : InV} {F F' : Nat → Prop} (h : KeepI w a F) (ho : Only F w w') (hF : ∀ i, i < w.heap.size → F' i → F i) : KeepI w' a F' := fun w'' h2 => h w'' (ho.trans h2 hF)
theorem KeepO.step {w w' : World} {a : OutV} {F F' : Nat → Prop} (h : KeepO w a F) (ho : Only F w w') (hF : ∀ i, i < w.heap.size → F' i → F i) : KeepO w' a F' := fun w'' h2 => h w'' (ho.trans h2 hF)
theorem KeepI.fine {w : World} {a : InV} {F : Nat → Prop} (h : KeepI w a F) : a.Fine w := h w (Only.refl _ _)
theorem KeepO.fine {w : World} {a : OutV} {F : Nat → Prop} (h : KeepO w a F) : a.Fine w := h w (Only.refl _ _)
theorem KeepI.mk {w : World} {a : InV} {F : Nat → Prop} (h : a.Fine w) (ha : Apart a.A a.n F) : KeepI w a F := fun _ ho => ⟨h.ref, h.bys.keep ho ha, h.cap, h.order⟩
theorem KeepO.mk {w : World} {a : OutV} {F : Nat → Prop} (h : a.Fine w) (ha : Apart a.A a.n F) : KeepO w a F := fun _ ho => ⟨h.v, h.bys.keep ho ha, h.cap, h.free.keep h.bys ho ha⟩
/-! ### Rows of one's own -/
section
variable {P : Program}
/-- An append to a row of one's own, at a step of a region that draws its order. -/
theorem step_row {w : World} {ops : Array Oper} {o : Oper} {a : Act} {K : Act → World → Prop} {Q : Exit → Act → World → Prop} {E : Prop} (hgd : o.guard = none) (d : Nat) (hd : o.dst = some d) (s x : Operand) (t : TypeId)
    (ho : o.op = .call { callee := .builtin .append, args := #[s, x], argTypes := #[t, t] })
    (e : TypeId) (k by_ : Nat) (ht : P.underlying t = some (.slice e)) (hi : (P.info? e).map (fun i => (i.size, i.bytes, i.zero.map (fun z => z.cells.size))) = some (k, by_, some k)) (hk : 0 < k)
    (base : Nat) (v : Value) (n : Nat) (cs : List Value) (hs : a.eval s = v) (h : w.ownsRow base e k v n cs) (hbase : base ≤ w.heap.size)
    (b off m c : Nat) (news : List Value) (hx : a.eval x = .slice (some ⟨b, off, none⟩) m c) (hl : news.length = m * k) (hnews : w.rangeAt b off news) (h1 : ∀ u ∈ news, u.oneCell' = true)
    (hbytes : (n + m) * by_ ≤ 140737488355328) (hby : 0 < by_)
    (hK : ∀ A' c' w', w'.ownsRow base e k (.slice A' (n + m) c') (n + m) (cs ++ news) → n + m ≤ c' → (∀ g, (Value.slice A' (n + m) c').ownBlock = some g → v.ownBlock = some g ∨ w.heap.size ≤ g) → Only (fun i => v.ownBlock = some i) w w' → K (a.put (some d) (.slice A' (n + m) c')) w') :
    if Region.wanted o (yielded ops a.tmps) = true then Oper.wp P o a w K Q else E := by
  have hw : Region.wanted o (yielded ops a.tmps) = true := by simp [Region.wanted, hgd]
  rw [if_pos hw]
  rw [← hd] at hK
  obtain ⟨i, z, hi1, hz, hsz, hbb, hzs⟩ : ∃ i z, P.info? e = some i ∧ i.zero = some z ∧ i.size = k ∧ i.bytes = by_ ∧ z.cells.size = k := by
    cases hq : P.info? e with
    | none => simp [hq] at hi
    | some i =>
      cases hz : i.zero with
      | none => simp [hq, hz] at hi
      | some z =>
        simp [hq, hz] at hi
        exact ⟨i, z, rfl, hz, hi.1, hi.2.1, hi.2.2⟩
  have hn : n + m ≤ 140737488355328 := Nat.le_trans (Nat.le_mul_of_pos_right _ hby) hbytes
  obtain ⟨v', w', hrun, o1, g1, _, hat⟩ := run_append_own_at (P := P) w base t o.type e i z k by_ ht hi1 hz hsz hbb hzs hk v n cs h ⟨b, off, none⟩ m c news hl (fun j u hu => by rw [Addr.add_mid]; exact hnews j u hu) h1 (by simp only [maxLen]; omega) hbytes hbase
  obtain ⟨A', c', rfl, hc⟩ : ∃ A' c', v' = .slice A' (n + m) c' ∧ n + m ≤ c' := by
    rcases o1.2 with ⟨rfl, h0⟩ | ⟨g, cap, cur, rfl, _, _, hnc, _⟩
    · exact ⟨none, 0, by rw [h0], by omega⟩
    · exact ⟨_, cap, rfl, hnc⟩
  unfold Oper.wp execOp
  simp only [ho, resolve, invoke, builtin, Sem.run_bind, Sem.run_pure, Result.andThen_ok, List.map_toArray, List.map_cons, List.map_nil, hs, hx, hrun]
  refine hK A' c' w' o1 hc (fun g hg => ?_) ((Only.refl _ w).grown g1 (fun g hg => .inr hg))
  rcases hat with h1 | h1
  · left; rw [← h1]; exact hg
  · right; rw [h1] at hg; injection hg with hg; omega
end
theorem in_infoR : (Try.prog.info? 60).map (fun i => (i.size, i.bytes, i.zero.map (fun z => z.cells.size))) = some (35, 72, some 35) := by kernel_rfl
theorem out_infoR : (Try.prog.info? 62).map (fun i => (i.size, i.bytes, i.zero.map (fun z => z.cells.size))) = some (2, 32, some 2) := by kernel_rfl
/-- A row, read as elements. -/
theorem rows_of {α : Type} {cells : α → List Value} {k : Nat} {fine : World → α → Prop} {w : World} {base : Nat} {e : TypeId} {A : Option Addr} {n c : Nat} {xs : List α} (hl : xs.length = n) (hk : ∀ a ∈ xs, (cells a).length = k)
    (h : w.ownsRow base e k (.slice A n c) n (xs.flatMap cells)) (hf : ∀ a ∈ xs, fine w a) : RowsIn cells k fine w A n xs := by
  refine ⟨hl, hf, fun hn => ?_⟩
  rcases h.2 with ⟨_, h0⟩ | ⟨g, cap, cur, e1, _, hh, hnc, hcm, _, htake⟩
  · omega
  · injection e1 with e1 _ _
    refine ⟨g, 0, e1, fun i a ha j u hu => ?_⟩
    have hc : Blk w g e cur.toList := by simpa [Blk] using hh
    rw [hc.cell]
    have key : ∀ (ys : List α) (i : Nat) (a : α), (∀ a ∈ ys, (cells a).length = k) → ys[i]? = some a → ∀ j u, (cells a)[j]? = some u → (ys.flatMap cells)[i * k + j]? = some u := by
      intro ys
      induction ys with
      | nil => intro i a _ h; simp at h
      | cons y ys ih =>
        intro i a hk h j u hu
        have hy := hk y (by simp)
        rcases i with _ | i
        · simp at h
          subst h
          rw [List.flatMap_cons, List.getElem?_append_left (by have := (List.getElem?_eq_some_iff.1 hu).1; omega)]
          simpa using hu
        · simp at h
          rw [List.flatMap_cons, List.getElem?_append_right (by rw [hy, Nat.succ_mul]; omega), hy]
          rw [show (i + 1) * k + j - k = i * k + j by rw [Nat.succ_mul]; omega]
          exact ih i a (fun b hb => hk b (by simp [hb])) h j u hu
    have := key xs i a hk ha j u hu
    rw [← htake, List.getElem?_take] at this
    rw [Nat.zero_add]
    split at this
    · exact this
    · cases this
end Go.Proofs.Ytbpmcnfmgaolnaa
