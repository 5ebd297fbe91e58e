/- Lemmas and walks for TableRuns, packed. -/
import Derived.Test.YtjnpkcabkccaoaaGreatQ9
set_option maxRecDepth 100000
set_option maxHeartbeats 16000000
namespace Go.Proofs.YtjnpkcabkccaoaaGreat
open Go.RowKit
theorem sizes2 (x : Int) (h1 : x ≤ 255) : (x = 253 ∧ Rd.sizeOf x = 2) ∨ (x = 254 ∧ Rd.sizeOf x = 4) ∨ (x = 255 ∧ Rd.sizeOf x = 8) ∨ (x < 253 ∧ Rd.sizeOf x = 0) := by
 rcases sizes x with ⟨a, h⟩ | ⟨a, b, h⟩ | ⟨a, b, c, h⟩ | ⟨a, b, c, h⟩
 ·exact .inl ⟨by simpa using a, h⟩
 ·exact .inr (.inl ⟨by simpa using b, h⟩)
 ·exact .inr (.inr (.inl ⟨by simpa using c, h⟩))
 ·exact .inr (.inr (.inr ⟨by simp at a b c; omega, h⟩))
theorem refcountof_bad (w : World) (g h : Nat) (r : Rd) (most : Int) (hR : RdAt 135 w g h r) (he : r.err ≠ 0) :
  Calls Tryz.prog 70 #[.pointer (some ⟨g, 0, none⟩), .int .u64 most] w (NumPost 135 w g h (r.count most.toNat).2 (r.count most.toNat).1) := by
 have hR0 := hR
 obtain ⟨rest, err⟩ := r
 obtain ⟨A, m, c, hb, hB, hc, hA, hlt, hm⟩ := hR
 have c1 := hb.c1
 simp only at he
 have E : Hid (Rd.count ⟨rest, err⟩ most.toNat = (0, ⟨rest, err⟩)) := hide (by simp [Rd.count, he])
 have he' : (err != 0) = true := by simpa using he
 go_enter Tryz.func70, Tryz.ntmps70
 go_wp2
 go_ret
 rw [E.out]
 exact ⟨rfl, hR0, Only.refl _ _⟩
theorem refcountof_nil (w : World) (g h : Nat) (most : Int) (hR : RdAt 135 w g h ⟨[], 0⟩) :
  Calls Tryz.prog 70 #[.pointer (some ⟨g, 0, none⟩), .int .u64 most] w (NumPost 135 w g h (Rd.count ⟨[], 0⟩ most.toNat).2 (Rd.count ⟨[], 0⟩ most.toNat).1) := by
 obtain ⟨A, m, c, hb, hB, hc, hA, hlt, hm⟩ := hR
 have c0 := hb.c0
 have c1 := hb.c1
 have f1 := hb.frozen 1
 have m0 : m = 0 := hB.1.symm
 subst m0
 have HA := hide hA
 clear hA
 go_enter Tryz.func70, Tryz.ntmps70
 go_wp2
 go_ret
 exact ⟨rfl, RdAt.fail hb hB hc HA.out hlt hm, Only.cell1 _ _ _ _⟩
theorem refcountof_short (w : World) (g h : Nat) (x : Int) (l : List Int) (most : Int) (hR : RdAt 135 w g h ⟨x :: l, 0⟩) (hsh : l.length < Rd.sizeOf x) :
  Calls Tryz.prog 70 #[.pointer (some ⟨g, 0, none⟩), .int .u64 most] w (NumPost 135 w g h (Rd.count ⟨x :: l, 0⟩ most.toNat).2 (Rd.count ⟨x :: l, 0⟩ most.toNat).1) := by
 obtain ⟨A, m, c, hb, hB, hc, hA, hlt, hm⟩ := hR
 have c0 := hb.c0
 have c1 := hb.c1
 have f1 := hb.frozen 1
 obtain ⟨b, off, rfl, hcx⟩ := hB.2.2 (by have := hB.1; simp at this; omega)
 have cx : w.cell? ⟨b, off, none⟩ = some (.int .u8 x) := hcx 0 x rfl
 have hml : m < 1 + Rd.sizeOf x := by have := hB.1; simp at this; omega
 have m1 : (0 : Int) < (m : Int) := by have := hB.1; simp at this; omega
 have m0 : (m == 0) = false := by simp; omega
 have hx1 := (hB.2.1 x (by simp)).2
 have E : Hid (Rd.count ⟨x :: l, 0⟩ most.toNat = (0, ⟨x :: l, 61⟩)) := hide (by simp [Rd.count, Rd.peek, hsh])
 have HA := hide hA
 clear hcx hA
 rcases sizes2 x hx1 with ⟨rfl, hs⟩ | ⟨rfl, hs⟩ | ⟨rfl, hs⟩ | ⟨_, hs⟩
 case inr.inr.inr => omega
 all_goals
  rw [hs] at hml
  have HB := hide hB
  clear hs hsh hx1 hB
  go_enter Tryz.func70, Tryz.ntmps70
  go_wp2
  go_ret
  rw [E.out]
  exact ⟨rfl, RdAt.fail hb HB.out hc HA.out hlt hm, Only.cell1 _ _ _ _⟩
theorem numpost_fail (w w2 : World) (g h : Nat) (A : Option Addr) (m c : Nat) (rest : List Int) (hb : Blk w g 135 [.slice A m c, .int .i64 0]) (hB : Bys w A m rest) (hc : m ≤ c) (hA : 0 < m → (∀ ad, A = some ad → ad.block = h) ∧ g ≠ h) (hlt : h < w.heap.size) (hm : m ≤ 1000000000) (hb2 : Below w.heap.size w w2) :
  NumPost 135 w g h ⟨rest, 62⟩ 0 (.returned (.int .u64 0)) (w2.setCell ⟨g, 1, none⟩ (.int .i64 62)) :=
 ⟨rfl, RdAt.fail (hb.under hb2) (hB.below hb2) hc hA (Nat.lt_of_lt_of_le hlt hb2.size) hm, (Only.of_below hb2 (fun i => i = g)).trans (Only.cell1 _ g _ _) (fun _ _ h => h)⟩
theorem refcountof_pos (w : World) (g h : Nat) (x : Int) (l : List Int) (most : Int) (hR : RdAt 135 w g h ⟨x :: l, 0⟩) (h0 : 0 ≤ most) (hpos : 0 < Rd.sizeOf x) (hsh : ¬ l.length < Rd.sizeOf x) :
  Calls Tryz.prog 70 #[.pointer (some ⟨g, 0, none⟩), .int .u64 most] w (NumPost 135 w g h (Rd.count ⟨x :: l, 0⟩ most.toNat).2 (Rd.count ⟨x :: l, 0⟩ most.toNat).1) := by
 have hR0 := hR
 obtain ⟨A, m, c, hb, hB, hc, hA, hlt, hm⟩ := hR
 have c0 := hb.c0
 have c1 := hb.c1
 have hml : 1 + Rd.sizeOf x ≤ m := by have := hB.1; simp at this; omega
 obtain ⟨b, off, rfl, hcx⟩ := hB.2.2 (by omega)
 have cx : w.cell? ⟨b, off, none⟩ = some (.int .u8 x) := hcx 0 x rfl
 have m1 : (0 : Int) < (m : Int) := by omega
 have m0 : (m == 0) = false := by simp; omega
 have hx1 := (hB.2.1 x (by simp)).2
 obtain ⟨N, hN⟩ : ∃ N : Nat, N = num (l.take (Rd.sizeOf x)) := ⟨_, rfl⟩
 have hz : ¬ Rd.sizeOf x = 0 := by omega
 have E1 : (cnt N).length ≠ 1 + Rd.sizeOf x ∨ most.toNat < N → Rd.count ⟨x :: l, 0⟩ most.toNat = (0, ⟨x :: l, 62⟩) := fun hq => by
  simp [Rd.count, Rd.peek, hsh, hz, ← hN, hq]
 have E2 : ¬ ((cnt N).length ≠ 1 + Rd.sizeOf x ∨ most.toNat < N) → Rd.count ⟨x :: l, 0⟩ most.toNat = (N, ⟨(x :: l).drop (1 + Rd.sizeOf x), 0⟩) := fun hq => by
  simp [Rd.count, Rd.peek, hsh, hz, ← hN, hq]
 have hBl : Bys w (some ⟨b, off + 1, none⟩) (Rd.sizeOf x) (l.take (Rd.sizeOf x)) := by simpa using hB.sub 1 (Rd.sizeOf x) hml
 have HN := hide hN
 have hNlt : U64 N := by
  have h1 := num_lt _ hBl.2.1
  have h2 : (l.take (Rd.sizeOf x)).length ≤ 8 := by rw [hBl.1]; rcases sizes x with h | h | h | h <;> omega
  have h3 := Nat.pow_le_pow_right (show 0 < 256 by decide) h2
  have : (256 : Nat) ^ 8 = 18446744073709551616 := by decide
  exact ⟨by omega, by omega⟩
 have HA := hide hA
 have HB := hide hB
 clear hN hcx hpos hsh hA hB
 by_cases hq : (cnt N).length = 1 + Rd.sizeOf x
 ·by_cases hq2 : most.toNat < N
  ·rcases sizes2 x hx1 with ⟨rfl, hs⟩ | ⟨rfl, hs⟩ | ⟨rfl, hs⟩ | ⟨_, hs⟩
   case inr.inr.inr => exact absurd hs hz
   all_goals
    have E := hide (E1 (.inr hq2))
    rw [hs] at hml hBl HN hq
    have q2 : most < (N : Int) := by omega
    have HQ := hide hq
    clear hs hz hq hq2 E1 E2 hx1
    go_enter Tryz.func70, Tryz.ntmps70
    go_wp2_with fail
    refine (refnumber_any w _ _ _ _ hBl (by decide)).mono ?_
    rintro e w1 ⟨rfl, rfl⟩
    rw [← HN.out]
    go_wp2_with fail
    refine (refcount_any w w N (Below.refl _ _) hNlt.1 hNlt.2).mono ?_
    rintro e w2 ⟨A3, n3, c3, rfl, t3, _⟩
    have b2 := hb.under t3.below
    have c02 := b2.c0
    have c12 := b2.c1
    have f12 := b2.frozen 1
    have e3 := t3.len.symm
    rw [Int.toNat_natCast, HQ.out] at e3
    simp only [Nat.reduceAdd] at e3
    subst e3
    go_wp2
    go_ret
    rw [E.out]
    exact numpost_fail w w2 g h _ m c _ hb HB.out hc HA.out hlt hm t3.below
  ·rcases sizes2 x hx1 with ⟨rfl, hs⟩ | ⟨rfl, hs⟩ | ⟨rfl, hs⟩ | ⟨_, hs⟩
   case inr.inr.inr => exact absurd hs hz
   all_goals
    have E := hide (E2 (by intro h; rcases h with h | h; exact h hq; exact hq2 h))
    rw [hs] at hml hBl E HN hq
    have q2 : (N : Int) ≤ most := by omega
    have HQ := hide hq
    clear hs hz hq hq2 E1 E2 hx1
    go_enter Tryz.func70, Tryz.ntmps70
    go_wp2_with fail
    refine (refnumber_any w _ _ _ _ hBl (by decide)).mono ?_
    rintro e w1 ⟨rfl, rfl⟩
    rw [← HN.out]
    go_wp2_with fail
    refine (refcount_any w w N (Below.refl _ _) hNlt.1 hNlt.2).mono ?_
    rintro e w2 ⟨A3, n3, c3, rfl, t3, _⟩
    have b2 := hb.under t3.below
    have c02 := b2.c0
    have c12 := b2.c1
    have f12 := b2.frozen 1
    have e3 := t3.len.symm
    rw [Int.toNat_natCast, HQ.out] at e3
    simp only [Nat.reduceAdd] at e3
    subst e3
    have hR2 := hR0.below t3.below
    go_wp2_with fail
    refine (reftake_any w2 g h ⟨_ :: l, 0⟩ _ hR2 (by have := HB.out.1; simp only [List.length_cons] at this ⊢; omega)).mono ?_
    rintro e w3 ⟨A4, n4, c4, rfl, h1, h2, h3, h4, h5⟩
    have H4 := hide h4
    have H5 := hide h5
    clear h1 h2 h3 h4 h5
    go_wp2
    go_ret
    rw [E.out]
    exact ⟨rfl, H4.out, (Only.of_below t3.below _).trans H5.out (fun _ _ h => h)⟩
 ·rcases sizes2 x hx1 with ⟨rfl, hs⟩ | ⟨rfl, hs⟩ | ⟨rfl, hs⟩ | ⟨_, hs⟩
  case inr.inr.inr => exact absurd hs hz
  all_goals
   have E := hide (E1 (.inl hq))
   rw [hs] at hml hBl HN hq
   have HQ := hide hq
   clear hs hz hq E1 E2 hx1
   go_enter Tryz.func70, Tryz.ntmps70
   go_wp2_with fail
   refine (refnumber_any w _ _ _ _ hBl (by decide)).mono ?_
   rintro e w1 ⟨rfl, rfl⟩
   rw [← HN.out]
   go_wp2_with fail
   refine (refcount_any w w N (Below.refl _ _) hNlt.1 hNlt.2).mono ?_
   rintro e w2 ⟨A3, n3, c3, rfl, t3, _⟩
   have b2 := hb.under t3.below
   have c02 := b2.c0
   have c12 := b2.c1
   have f12 := b2.frozen 1
   have e3 := t3.len.symm
   have hn3 : ¬ (n3 = _) := fun h => HQ.out (by rw [Int.toNat_natCast] at e3; rw [← e3]; exact h)
   simp only [Nat.reduceAdd] at hn3
   first
    | (have q3 : ((n3 : Int) != 3) = true := by rw [bne_iff_ne]; omega)
    | (have q3 : ((n3 : Int) != 5) = true := by rw [bne_iff_ne]; omega)
    | (have q3 : ((n3 : Int) != 9) = true := by rw [bne_iff_ne]; omega)
   clear e3 hn3
   go_wp2
   go_ret
   rw [E.out]
   exact numpost_fail w w2 g h _ m c _ hb HB.out hc HA.out hlt hm t3.below
theorem refcountof_zero (w : World) (g h : Nat) (x : Int) (l : List Int) (most : Int) (hR : RdAt 135 w g h ⟨x :: l, 0⟩) (h0 : 0 ≤ most) (hs0 : Rd.sizeOf x = 0) :
  Calls Tryz.prog 70 #[.pointer (some ⟨g, 0, none⟩), .int .u64 most] w (NumPost 135 w g h (Rd.count ⟨x :: l, 0⟩ most.toNat).2 (Rd.count ⟨x :: l, 0⟩ most.toNat).1) := by
 have hR0 := hR
 obtain ⟨A, m, c, hb, hB, hc, hA, hlt, hm⟩ := hR
 have c0 := hb.c0
 have c1 := hb.c1
 have hml : 1 ≤ m := by have := hB.1; simp at this; omega
 obtain ⟨b, off, rfl, hcx⟩ := hB.2.2 (by omega)
 have cx : w.cell? ⟨b, off, none⟩ = some (.int .u8 x) := hcx 0 x rfl
 have m1 : (0 : Int) < (m : Int) := by omega
 have m0 : (m == 0) = false := by simp; omega
 have hx := hB.2.1 x (by simp)
 have x0 : 0 ≤ x := hx.1
 have x2 : x < 253 := by
  rcases sizes2 x hx.2 with ⟨_, h⟩ | ⟨_, h⟩ | ⟨_, h⟩ | ⟨h, _⟩
  all_goals omega
 have t1 : decide (252 < x) = false := by simp; omega
 have t2 : decide (253 < x) = false := by simp; omega
 have t3 : decide (254 < x) = false := by simp; omega
 have hu : IntKind.u64.wrap x = x := by rw [IntKind.wrap_u64]; omega
 have hcn : cnt x.toNat = [x] := cnt1 x x0 x2
 have E : Hid (Rd.count ⟨x :: l, 0⟩ most.toNat = if most.toNat < x.toNat then (0, ⟨x :: l, 62⟩) else (x.toNat, ⟨l, 0⟩)) := hide (by
  by_cases hq : most.toNat < x.toNat
  ·simp [Rd.count, Rd.peek, hs0, hcn, hq]
  ·simp [Rd.count, Rd.peek, hs0, hcn, hq])
 have HC := hide hcn
 have HA := hide hA
 have HB := hide hB
 have hux : U64 x := ⟨x0, by omega⟩
 clear hcx hx hs0 hcn hA hB
 by_cases hq2 : most < x
 ·rw [if_pos (by omega)] at E
  go_enter Tryz.func70, Tryz.ntmps70
  go_wp2_with fail
  refine (refcount_any w w x (Below.refl _ _) hux.1 hux.2).mono ?_
  rintro e w2 ⟨A3, n3, c3, rfl, t3, _⟩
  have b2 := hb.under t3.below
  have c02 := b2.c0
  have c12 := b2.c1
  have f12 := b2.frozen 1
  have e3 := t3.len.symm
  rw [HC.out] at e3
  simp only [List.length_cons, List.length_nil, Nat.zero_add] at e3
  subst e3
  go_wp2
  go_ret
  rw [E.out]
  exact numpost_fail w w2 g h _ m c _ hb HB.out hc HA.out hlt hm t3.below
 ·rw [if_neg (by omega)] at E
  have q2 : x ≤ most := by omega
  have ex := hide (show ((x.toNat : Nat) : Int) = x by omega)
  clear hq2
  go_enter Tryz.func70, Tryz.ntmps70
  go_wp2_with fail
  refine (refcount_any w w x (Below.refl _ _) hux.1 hux.2).mono ?_
  rintro e w2 ⟨A3, n3, c3, rfl, t3, _⟩
  have b2 := hb.under t3.below
  have c02 := b2.c0
  have c12 := b2.c1
  have f12 := b2.frozen 1
  have e3 := t3.len.symm
  rw [HC.out] at e3
  simp only [List.length_cons, List.length_nil, Nat.zero_add] at e3
  subst e3
  have hR2 := hR0.below t3.below
  go_wp2_with fail
  refine (reftake_any w2 g h ⟨x :: l, 0⟩ 1 hR2 (by simp)).mono ?_
  rintro e w3 ⟨A4, n4, c4, rfl, h1, h2, h3, h4, h5⟩
  have H4 := hide h4
  have H5 := hide h5
  clear h1 h2 h3 h4 h5
  go_wp2
  go_ret
  rw [E.out]
  refine ⟨?_, H4.out, (Only.of_below t3.below _).trans H5.out (fun _ _ h => h)⟩
  simp only [ex.out]
  rfl
theorem refcountof_any (w : World) (g h : Nat) (r : Rd) (most : Int) (hR : RdAt 135 w g h r) (h0 : 0 ≤ most) :
  Calls Tryz.prog 70 #[.pointer (some ⟨g, 0, none⟩), .int .u64 most] w (NumPost 135 w g h (r.count most.toNat).2 (r.count most.toNat).1) := by
 by_cases he : r.err = 0
 ·obtain ⟨rest, err⟩ := r
  simp only at he
  subst he
  cases rest with
  | nil => exact refcountof_nil w g h most hR
  | cons x l =>
   by_cases hsh : l.length < Rd.sizeOf x
   ·exact refcountof_short w g h x l most hR hsh
   ·by_cases hz : Rd.sizeOf x = 0
    ·exact refcountof_zero w g h x l most hR h0 hz
    ·exact refcountof_pos w g h x l most hR h0 (by omega) hsh
 ·exact refcountof_bad w g h r most hR he
theorem reftextof_any (w : World) (g h : Nat) (r : Rd) (most : Int) (hR : RdAt 135 w g h r) (hmost : most < 9223372036854775808) :
  Calls Tryz.prog 71 #[.pointer (some ⟨g, 0, none⟩), .int .i64 most] w (RawPost 135 w g h (r.text most).2 (r.text most).1) := by
 obtain ⟨rest, err⟩ := r
 have hR0 := hR
 obtain ⟨A, m, c, hb, hB, hc, hA, hlt, hm⟩ := hR
 have c0 := hb.c0
 have HL := hide hB.1
 have HA := hide hA
 obtain ⟨M, hM, hw⟩ : ∃ M : Int, 0 ≤ M ∧ ((0 ≤ most ∧ M = most) ∨ (most < 0 ∧ M = 0)) := by
  by_cases h : 0 ≤ most
  ·exact ⟨most, h, .inl ⟨h, rfl⟩⟩
  ·exact ⟨0, by omega, .inr ⟨by omega, rfl⟩⟩
 have hp := refcountof_any w g h ⟨rest, err⟩ M hR0 hM
 have hmx : IntKind.u64.wrap M = M := by rw [IntKind.wrap_u64]; omega
 -- what the count leaves, and what the text is
 obtain ⟨N, U, X, hU, hcnt, h1, h2, h3⟩ : ∃ (N U : Nat) (X : Int), U ≤ m ∧ Rd.count ⟨rest, err⟩ M.toNat = (N, ⟨rest.drop U, X⟩) ∧ (X ≠ 0 → Rd.text ⟨rest, err⟩ most = ([], ⟨rest.drop U, X⟩)) ∧
   (X = 0 → m - U < N → Rd.text ⟨rest, err⟩ most = ([], ⟨rest, 61⟩)) ∧ (X = 0 → ¬ m - U < N → Rd.text ⟨rest, err⟩ most = ((rest.drop U).take N, ⟨(rest.drop U).drop N, 0⟩)) := by
  have hMM : (max most 0).toNat = M.toNat := by congr 1; omega
  by_cases he : err = 0
  ·subst he
   refine ⟨(Rd.peek rest M.toNat).1, (Rd.peek rest M.toNat).2.1, (Rd.peek rest M.toNat).2.2, by rw [← HL.out]; exact peek_used _ _, by simp [Rd.count], fun hX => ?_, fun hX hN => ?_, fun hX hN => ?_⟩
   ·have := (peek_zero_or rest M.toNat hX).2
    rw [this]
    unfold Rd.text; simp only [hMM, ne_eq, not_true_eq_false, if_false, hX, not_false_eq_true, if_true, List.drop_zero]
   ·rw [← HL.out] at hN
    unfold Rd.text; simp only [hMM, ne_eq, not_true_eq_false, if_false, hX, hN, if_true]
   ·rw [← HL.out] at hN
    unfold Rd.text; simp only [hMM, ne_eq, not_true_eq_false, if_false, hX, hN]
  ·exact ⟨0, 0, err, by omega, by simp [Rd.count, he], fun _ => by simp [Rd.text, he], fun h => absurd h he, fun h => absurd h he⟩
 rw [hcnt] at hp
 simp only at hp
 have H1 := hide h1
 have H2 := hide h2
 have H3 := hide h3
 clear hA h1 h2 h3 hcnt
 rcases hw with ⟨hw1, rfl⟩ | ⟨hw1, rfl⟩
 all_goals
  by_cases hX : X = 0
  ·subst hX
   by_cases hN : m - U < N
   ·have E := hide (H2.out rfl hN)
    clear H1 H2 H3
    go_enter Tryz.func71, Tryz.ntmps71
    go_wp2_with fail
    refine hp.mono ?_
    rintro e w1 ⟨rfl, hR1, ho1⟩
    have HR1 := hide hR1
    have HO1 := hide ho1
    obtain ⟨A1, m1, k1, b1, B1, _, _, hlt1, _⟩ := hR1
    have hm1 : m1 = m - U := by rw [← B1.1]; simp [HL.out]
    have c01 := b1.c0
    have c11 := b1.c1
    have f01 := b1.frozen 0
    have f11 := b1.frozen 1
    have hgt : (m1 : Int) < (N : Int) := by omega
    have hwr : IntKind.u64.wrap (m1 : Int) = (m1 : Int) := by rw [IntKind.wrap_u64]; omega
    have hd : decide ((m1 : Int) < (N : Int)) = true := by simp; omega
    have HM1 := hide hm1
    clear hm1 hN
    go_wp2
    go_ret
    rw [E.out]
    have hne := HA.out
    have bX : Blk (w1.setCell ⟨g, 1, none⟩ (.int .i64 61)) g 135 [.slice A1 m1 k1, .int .i64 61] := by simpa using b1.set_ 1 (.int .i64 61)
    have o2 : Only (fun i => i = g) w (w1.setCell ⟨g, 1, none⟩ (.int .i64 61)) := HO1.out.trans (Only.cell1 _ g _ _) (fun _ _ h => h)
    have hB2 : Bys (w1.setCell ⟨g, 1, none⟩ (.int .i64 61)) A m rest := hB.keep o2 (fun h0 ad e hg => (hne h0).2 (by rw [← (hne h0).1 ad e]; exact hg.symm))
    have hR3 := RdAt.turn bX hB2 hc hne (Nat.lt_of_lt_of_le hlt o2.size) hm
    have o3 := o2.trans (Only.cell1 _ g 0 (.slice A m c)) (fun _ _ h => h)
    have hal := (Below.refl _ ((w1.setCell ⟨g, 1, none⟩ (.int .i64 61)).setCell ⟨g, 0, none⟩ (.slice A m c))).alloc (Nat.le_refl _) (.cells #[] 5)
    refine ⟨_, 0, 0, ?_, Bys.nil _ (some ⟨w1.heap.size, 0, none⟩), Nat.le_refl _, Fr.new _ _ (by have := HO1.out.size; omega) 0, hR3.below hal, o3.alloc _⟩
    rfl
   ·have E := hide (H3.out rfl hN)
    clear H1 H2 H3
    go_enter Tryz.func71, Tryz.ntmps71
    go_wp2_with fail
    refine hp.mono ?_
    rintro e w1 ⟨rfl, hR1, ho1⟩
    have HR1 := hide hR1
    have HO1 := hide ho1
    obtain ⟨A1, m1, k1, b1, B1, _, _, hlt1, _⟩ := hR1
    have hm1 : m1 = m - U := by rw [← B1.1]; simp [HL.out]
    have c01 := b1.c0
    have c11 := b1.c1
    have f01 := b1.frozen 0
    have f11 := b1.frozen 1
    have hgt : (N : Int) ≤ (m1 : Int) := by omega
    have hwr : IntKind.u64.wrap (m1 : Int) = (m1 : Int) := by rw [IntKind.wrap_u64]; omega
    have hwi : IntKind.i64.wrap (N : Int) = (N : Int) := by rw [IntKind.wrap_i64]; omega
    have hd : decide ((m1 : Int) < (N : Int)) = false := by simp; omega
    have HM1 := hide hm1
    clear hm1 hN
    go_wp2_with fail
    refine (reftake_any w1 g h ⟨rest.drop U, 0⟩ N HR1.out (by have := B1.1; simp only at this ⊢; omega)).mono ?_
    rintro e w3 ⟨A4, n4, c4, rfl, h1, h2, h3, h4, h5⟩
    have H4 := hide h4
    have H5 := hide h5
    clear h4 h5
    go_wp2
    go_ret
    rw [E.out]
    exact ⟨A4, n4, c4, rfl, h1, h2, fun ad e => Nat.le_trans HO1.out.size (h3 ad e), H4.out, HO1.out.trans H5.out (fun _ _ h => h)⟩
  ·have E := hide (H1.out hX)
   have hX1 : (X == 0) = false := by simpa using hX
   have hX2 : (X != 0) = true := by simpa using hX
   clear H1 H2 H3 hX
   go_enter Tryz.func71, Tryz.ntmps71
   go_wp2_with fail
   refine hp.mono ?_
   rintro e w1 ⟨rfl, hR1, ho1⟩
   have HR1 := hide hR1
   have HO1 := hide ho1
   obtain ⟨A1, m1, k1, b1, B1, _, _, hlt1, _⟩ := hR1
   have hm1 : m1 = m - U := by rw [← B1.1]; simp [HL.out]
   have c01 := b1.c0
   have c11 := b1.c1
   have f01 := b1.frozen 0
   have f11 := b1.frozen 1
   go_wp2
   go_ret
   rw [E.out]
   exact ⟨_, 0, 0, rfl, Bys.nil _ _, Nat.le_refl _, Fr.new _ _ HO1.out.size 0, HR1.out.below ((Below.refl _ w1).alloc (Nat.le_refl _) _), HO1.out.alloc _⟩
end Go.Proofs.YtjnpkcabkccaoaaGreat
