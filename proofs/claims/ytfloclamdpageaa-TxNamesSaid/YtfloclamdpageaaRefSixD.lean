/-
  The document's reader: CountOf whole, TextOf.
-/
import Derived.Test.YtfloclamdpageaaRefSixC
namespace Go.Proofs.Ytfloclamdpageaa
open Go.RowKit

set_option maxHeartbeats 4000000 in
set_option maxRecDepth 100000 in
theorem refcountof_zero (w : World) (g h : Nat) (x : Int) (l : List Int) (most : Int) (hR : RdAt 55 w g h ⟨x :: l, 0⟩) (h0 : 0 ≤ most) (hs0 : Rd.sizeOf x = 0) :
    Calls Try.prog 75 #[.pointer (some ⟨g, 0, none⟩), .int .u64 most] w (NumPost 55 w g h (Rd.count ⟨x :: l, 0⟩ most.toNat).2 (Rd.count ⟨x :: l, 0⟩ most.toNat).1) := by
  have hR0 := hR
  obtain ⟨A, m, c, hb, hB, hc, hA, hlt, hm⟩ := hR
  have c0 := hb.c0
  have c1 := hb.c1
  have hml : 1 ≤ m := by have := hB.1; simp at this; omega
  obtain ⟨b, off, rfl, hcx⟩ := hB.2.2 (by omega)
  have cx : w.cell? ⟨b, off, none⟩ = some (.int .u8 x) := hcx 0 x rfl
  have m1 : (0 : Int) < (m : Int) := by omega
  have m0 : (m == 0) = false := by simp; omega
  have hx := hB.2.1 x (by simp)
  have x0 : 0 ≤ x := hx.1
  have x2 : x < 253 := by
    rcases sizes2 x hx.2 with ⟨_, h⟩ | ⟨_, h⟩ | ⟨_, h⟩ | ⟨h, _⟩
    all_goals omega
  have t1 : decide (252 < x) = false := by simp; omega
  have t2 : decide (253 < x) = false := by simp; omega
  have t3 : decide (254 < x) = false := by simp; omega
  have hu : IntKind.u64.wrap x = x := by rw [IntKind.wrap_u64]; omega
  have hcn : cnt x.toNat = [x] := cnt1 x x0 x2
  have E : Hid (Rd.count ⟨x :: l, 0⟩ most.toNat = if most.toNat < x.toNat then (0, ⟨x :: l, 62⟩) else (x.toNat, ⟨l, 0⟩)) := hide (by
    by_cases hq : most.toNat < x.toNat
    · simp [Rd.count, Rd.peek, hs0, hcn, hq]
    · simp [Rd.count, Rd.peek, hs0, hcn, hq])
  have HC := hide hcn
  have HA := hide hA
  have HB := hide hB
  have hux : U64 x := ⟨x0, by omega⟩
  clear hcx hx hs0 hcn hA hB
  by_cases hq2 : most < x
  · rw [if_pos (by omega)] at E
    go_enter Try.func75, Try.ntmps75
    go_wp2_with fail
    refine (refcount_any w w x (Below.refl _ _) hux.1 hux.2).mono ?_
    rintro e w2 ⟨A3, n3, c3, rfl, t3, _⟩
    have b2 := hb.under t3.below
    have c02 := b2.c0
    have c12 := b2.c1
    have f12 := b2.frozen 1
    have e3 := t3.len.symm
    rw [HC.out] at e3
    simp only [List.length_cons, List.length_nil, Nat.zero_add] at e3
    subst e3
    go_wp2
    go_ret
    rw [E.out]
    exact numpost_fail w w2 g h _ m c _ hb HB.out hc HA.out hlt hm t3.below
  · rw [if_neg (by omega)] at E
    have q2 : x ≤ most := by omega
    have ex := hide (show ((x.toNat : Nat) : Int) = x by omega)
    clear hq2
    go_enter Try.func75, Try.ntmps75
    go_wp2_with fail
    refine (refcount_any w w x (Below.refl _ _) hux.1 hux.2).mono ?_
    rintro e w2 ⟨A3, n3, c3, rfl, t3, _⟩
    have b2 := hb.under t3.below
    have c02 := b2.c0
    have c12 := b2.c1
    have f12 := b2.frozen 1
    have e3 := t3.len.symm
    rw [HC.out] at e3
    simp only [List.length_cons, List.length_nil, Nat.zero_add] at e3
    subst e3
    have hR2 := hR0.below t3.below
    go_wp2_with fail
    refine (reftake_any w2 g h ⟨x :: l, 0⟩ 1 hR2 (by simp)).mono ?_
    rintro e w3 ⟨A4, n4, c4, rfl, h1, h2, h3, h4, h5⟩
    have H4 := hide h4
    have H5 := hide h5
    clear h1 h2 h3 h4 h5
    go_wp2
    go_ret
    rw [E.out]
    refine ⟨?_, H4.out, (Only.of_below t3.below _).trans H5.out (fun _ _ h => h)⟩
    simp only [ex.out]
    rfl
theorem refcountof_any (w : World) (g h : Nat) (r : Rd) (most : Int) (hR : RdAt 55 w g h r) (h0 : 0 ≤ most) :
    Calls Try.prog 75 #[.pointer (some ⟨g, 0, none⟩), .int .u64 most] w (NumPost 55 w g h (r.count most.toNat).2 (r.count most.toNat).1) := by
  by_cases he : r.err = 0
  · obtain ⟨rest, err⟩ := r
    simp only at he
    subst he
    cases rest with
    | nil => exact refcountof_nil w g h most hR
    | cons x l =>
      by_cases hsh : l.length < Rd.sizeOf x
      · exact refcountof_short w g h x l most hR hsh
      · by_cases hz : Rd.sizeOf x = 0
        · exact refcountof_zero w g h x l most hR h0 hz
        · exact refcountof_pos w g h x l most hR h0 (by omega) hsh
  · exact refcountof_bad w g h r most hR he
set_option maxHeartbeats 4000000 in
set_option maxRecDepth 100000 in
theorem reftextof_any (w : World) (g h : Nat) (r : Rd) (most : Int) (hR : RdAt 55 w g h r) (hmost : most < 9223372036854775808) :
    Calls Try.prog 72 #[.pointer (some ⟨g, 0, none⟩), .int .i64 most] w (RawPost 55 w g h (r.text most).2 (r.text most).1) := by
  obtain ⟨rest, err⟩ := r
  have hR0 := hR
  obtain ⟨A, m, c, hb, hB, hc, hA, hlt, hm⟩ := hR
  have c0 := hb.c0
  have HL := hide hB.1
  have HA := hide hA
  obtain ⟨M, hM, hw⟩ : ∃ M : Int, 0 ≤ M ∧ ((0 ≤ most ∧ M = most) ∨ (most < 0 ∧ M = 0)) := by
    by_cases h : 0 ≤ most
    · exact ⟨most, h, .inl ⟨h, rfl⟩⟩
    · exact ⟨0, by omega, .inr ⟨by omega, rfl⟩⟩
  have hp := refcountof_any w g h ⟨rest, err⟩ M hR0 hM
  have hmx : IntKind.u64.wrap M = M := by rw [IntKind.wrap_u64]; omega
  -- what the count leaves, and what the text is
  obtain ⟨N, U, X, hU, hcnt, h1, h2, h3⟩ : ∃ (N U : Nat) (X : Int), U ≤ m ∧ Rd.count ⟨rest, err⟩ M.toNat = (N, ⟨rest.drop U, X⟩) ∧ (X ≠ 0 → Rd.text ⟨rest, err⟩ most = ([], ⟨rest.drop U, X⟩)) ∧
      (X = 0 → m - U < N → Rd.text ⟨rest, err⟩ most = ([], ⟨rest, 61⟩)) ∧ (X = 0 → ¬ m - U < N → Rd.text ⟨rest, err⟩ most = ((rest.drop U).take N, ⟨(rest.drop U).drop N, 0⟩)) := by
    have hMM : (max most 0).toNat = M.toNat := by congr 1; omega
    by_cases he : err = 0
    · subst he
      refine ⟨(Rd.peek rest M.toNat).1, (Rd.peek rest M.toNat).2.1, (Rd.peek rest M.toNat).2.2, by rw [← HL.out]; exact peek_used _ _, by simp [Rd.count], fun hX => ?_, fun hX hN => ?_, fun hX hN => ?_⟩
      · have := (peek_zero_or rest M.toNat hX).2
        rw [this]
        unfold Rd.text; simp only [hMM, ne_eq, not_true_eq_false, if_false, hX, not_false_eq_true, if_true, List.drop_zero]
      · rw [← HL.out] at hN
        unfold Rd.text; simp only [hMM, ne_eq, not_true_eq_false, if_false, hX, hN, if_true]
      · rw [← HL.out] at hN
        unfold Rd.text; simp only [hMM, ne_eq, not_true_eq_false, if_false, hX, hN]
    · exact ⟨0, 0, err, by omega, by simp [Rd.count, he], fun _ => by simp [Rd.text, he], fun h => absurd h he, fun h => absurd h he⟩
  rw [hcnt] at hp
  simp only at hp
  have H1 := hide h1
  have H2 := hide h2
  have H3 := hide h3
  clear hA h1 h2 h3 hcnt
  rcases hw with ⟨hw1, rfl⟩ | ⟨hw1, rfl⟩
  all_goals
    by_cases hX : X = 0
    · subst hX
      by_cases hN : m - U < N
      · have E := hide (H2.out rfl hN)
        clear H1 H2 H3
        go_enter Try.func72, Try.ntmps72
        go_wp2_with fail
        refine hp.mono ?_
        rintro e w1 ⟨rfl, hR1, ho1⟩
        have HR1 := hide hR1
        have HO1 := hide ho1
        obtain ⟨A1, m1, k1, b1, B1, _, _, hlt1, _⟩ := hR1
        have hm1 : m1 = m - U := by rw [← B1.1]; simp [HL.out]
        have c01 := b1.c0
        have c11 := b1.c1
        have f01 := b1.frozen 0
        have f11 := b1.frozen 1
        have hgt : (m1 : Int) < (N : Int) := by omega
        have hwr : IntKind.u64.wrap (m1 : Int) = (m1 : Int) := by rw [IntKind.wrap_u64]; omega
        have hd : decide ((m1 : Int) < (N : Int)) = true := by simp; omega
        have HM1 := hide hm1
        clear hm1 hN
        go_wp2
        go_ret
        rw [E.out]
        have hne := HA.out
        have bX : Blk (w1.setCell ⟨g, 1, none⟩ (.int .i64 61)) g 55 [.slice A1 m1 k1, .int .i64 61] := by simpa using b1.set_ 1 (.int .i64 61)
        have o2 : Only (fun i => i = g) w (w1.setCell ⟨g, 1, none⟩ (.int .i64 61)) := HO1.out.trans (Only.cell1 _ g _ _) (fun _ _ h => h)
        have hB2 : Bys (w1.setCell ⟨g, 1, none⟩ (.int .i64 61)) A m rest := hB.keep o2 (fun h0 ad e hg => (hne h0).2 (by rw [← (hne h0).1 ad e]; exact hg.symm))
        have hR3 := RdAt.turn bX hB2 hc hne (Nat.lt_of_lt_of_le hlt o2.size) hm
        have o3 := o2.trans (Only.cell1 _ g 0 (.slice A m c)) (fun _ _ h => h)
        have hal := (Below.refl _ ((w1.setCell ⟨g, 1, none⟩ (.int .i64 61)).setCell ⟨g, 0, none⟩ (.slice A m c))).alloc (Nat.le_refl _) (.cells #[] 5)
        refine ⟨_, 0, 0, ?_, Bys.nil _ (some ⟨w1.heap.size, 0, none⟩), Nat.le_refl _, Fr.new _ _ (by have := HO1.out.size; omega) 0, hR3.below hal, o3.alloc _⟩
        rfl
      · have E := hide (H3.out rfl hN)
        clear H1 H2 H3
        go_enter Try.func72, Try.ntmps72
        go_wp2_with fail
        refine hp.mono ?_
        rintro e w1 ⟨rfl, hR1, ho1⟩
        have HR1 := hide hR1
        have HO1 := hide ho1
        obtain ⟨A1, m1, k1, b1, B1, _, _, hlt1, _⟩ := hR1
        have hm1 : m1 = m - U := by rw [← B1.1]; simp [HL.out]
        have c01 := b1.c0
        have c11 := b1.c1
        have f01 := b1.frozen 0
        have f11 := b1.frozen 1
        have hgt : (N : Int) ≤ (m1 : Int) := by omega
        have hwr : IntKind.u64.wrap (m1 : Int) = (m1 : Int) := by rw [IntKind.wrap_u64]; omega
        have hwi : IntKind.i64.wrap (N : Int) = (N : Int) := by rw [IntKind.wrap_i64]; omega
        have hd : decide ((m1 : Int) < (N : Int)) = false := by simp; omega
        have HM1 := hide hm1
        clear hm1 hN
        go_wp2_with fail
        refine (reftake_any w1 g h ⟨rest.drop U, 0⟩ N HR1.out (by have := B1.1; simp only at this ⊢; omega)).mono ?_
        rintro e w3 ⟨A4, n4, c4, rfl, h1, h2, h3, h4, h5⟩
        have H4 := hide h4
        have H5 := hide h5
        clear h4 h5
        go_wp2
        go_ret
        rw [E.out]
        exact ⟨A4, n4, c4, rfl, h1, h2, fun ad e => Nat.le_trans HO1.out.size (h3 ad e), H4.out, HO1.out.trans H5.out (fun _ _ h => h)⟩
    · have E := hide (H1.out hX)
      have hX1 : (X == 0) = false := by simpa using hX
      have hX2 : (X != 0) = true := by simpa using hX
      clear H1 H2 H3 hX
      go_enter Try.func72, Try.ntmps72
      go_wp2_with fail
      refine hp.mono ?_
      rintro e w1 ⟨rfl, hR1, ho1⟩
      have HR1 := hide hR1
      have HO1 := hide ho1
      obtain ⟨A1, m1, k1, b1, B1, _, _, hlt1, _⟩ := hR1
      have hm1 : m1 = m - U := by rw [← B1.1]; simp [HL.out]
      have c01 := b1.c0
      have c11 := b1.c1
      have f01 := b1.frozen 0
      have f11 := b1.frozen 1
      go_wp2
      go_ret
      rw [E.out]
      exact ⟨_, 0, 0, rfl, Bys.nil _ _, Nat.le_refl _, Fr.new _ _ HO1.out.size 0, HR1.out.below ((Below.refl _ w1).alloc (Nat.le_refl _) _), HO1.out.alloc _⟩
end Go.Proofs.Ytfloclamdpageaa
