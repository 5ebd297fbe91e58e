/-
  The document's reader: CountOf.
-/
import Derived.Test.YtfloclamdpageaaRefSixB
namespace Go.Proofs.Ytfloclamdpageaa
open Go.RowKit

theorem sizes2 (x : Int) (h1 : x ≤ 255) : (x = 253 ∧ Rd.sizeOf x = 2) ∨ (x = 254 ∧ Rd.sizeOf x = 4) ∨ (x = 255 ∧ Rd.sizeOf x = 8) ∨ (x < 253 ∧ Rd.sizeOf x = 0) := by
  rcases sizes x with ⟨a, h⟩ | ⟨a, b, h⟩ | ⟨a, b, c, h⟩ | ⟨a, b, c, h⟩
  · exact .inl ⟨by simpa using a, h⟩
  · exact .inr (.inl ⟨by simpa using b, h⟩)
  · exact .inr (.inr (.inl ⟨by simpa using c, h⟩))
  · exact .inr (.inr (.inr ⟨by simp at a b c; omega, h⟩))
set_option maxHeartbeats 2000000 in
set_option maxRecDepth 100000 in
theorem refcountof_bad (w : World) (g h : Nat) (r : Rd) (most : Int) (hR : RdAt 55 w g h r) (he : r.err ≠ 0) :
    Calls Try.prog 75 #[.pointer (some ⟨g, 0, none⟩), .int .u64 most] w (NumPost 55 w g h (r.count most.toNat).2 (r.count most.toNat).1) := by
  have hR0 := hR
  obtain ⟨rest, err⟩ := r
  obtain ⟨A, m, c, hb, hB, hc, hA, hlt, hm⟩ := hR
  have c1 := hb.c1
  simp only at he
  have E : Hid (Rd.count ⟨rest, err⟩ most.toNat = (0, ⟨rest, err⟩)) := hide (by simp [Rd.count, he])
  have he' : (err != 0) = true := by simpa using he
  go_enter Try.func75, Try.ntmps75
  go_wp2
  go_ret
  rw [E.out]
  exact ⟨rfl, hR0, Only.refl _ _⟩
set_option maxHeartbeats 2000000 in
set_option maxRecDepth 100000 in
theorem refcountof_nil (w : World) (g h : Nat) (most : Int) (hR : RdAt 55 w g h ⟨[], 0⟩) :
    Calls Try.prog 75 #[.pointer (some ⟨g, 0, none⟩), .int .u64 most] w (NumPost 55 w g h (Rd.count ⟨[], 0⟩ most.toNat).2 (Rd.count ⟨[], 0⟩ most.toNat).1) := by
  obtain ⟨A, m, c, hb, hB, hc, hA, hlt, hm⟩ := hR
  have c0 := hb.c0
  have c1 := hb.c1
  have f1 := hb.frozen 1
  have m0 : m = 0 := hB.1.symm
  subst m0
  have HA := hide hA
  clear hA
  go_enter Try.func75, Try.ntmps75
  go_wp2
  go_ret
  exact ⟨rfl, RdAt.fail hb hB hc HA.out hlt hm, Only.cell1 _ _ _ _⟩
set_option maxHeartbeats 2000000 in
set_option maxRecDepth 100000 in
theorem refcountof_short (w : World) (g h : Nat) (x : Int) (l : List Int) (most : Int) (hR : RdAt 55 w g h ⟨x :: l, 0⟩) (hsh : l.length < Rd.sizeOf x) :
    Calls Try.prog 75 #[.pointer (some ⟨g, 0, none⟩), .int .u64 most] w (NumPost 55 w g h (Rd.count ⟨x :: l, 0⟩ most.toNat).2 (Rd.count ⟨x :: l, 0⟩ most.toNat).1) := by
  obtain ⟨A, m, c, hb, hB, hc, hA, hlt, hm⟩ := hR
  have c0 := hb.c0
  have c1 := hb.c1
  have f1 := hb.frozen 1
  obtain ⟨b, off, rfl, hcx⟩ := hB.2.2 (by have := hB.1; simp at this; omega)
  have cx : w.cell? ⟨b, off, none⟩ = some (.int .u8 x) := hcx 0 x rfl
  have hml : m < 1 + Rd.sizeOf x := by have := hB.1; simp at this; omega
  have m1 : (0 : Int) < (m : Int) := by have := hB.1; simp at this; omega
  have m0 : (m == 0) = false := by simp; omega
  have hx1 := (hB.2.1 x (by simp)).2
  have E : Hid (Rd.count ⟨x :: l, 0⟩ most.toNat = (0, ⟨x :: l, 61⟩)) := hide (by simp [Rd.count, Rd.peek, hsh])
  have HA := hide hA
  clear hcx hA
  rcases sizes2 x hx1 with ⟨rfl, hs⟩ | ⟨rfl, hs⟩ | ⟨rfl, hs⟩ | ⟨_, hs⟩
  case inr.inr.inr => omega
  all_goals
    rw [hs] at hml
    have HB := hide hB
    clear hs hsh hx1 hB
    go_enter Try.func75, Try.ntmps75
    go_wp2
    go_ret
    rw [E.out]
    exact ⟨rfl, RdAt.fail hb HB.out hc HA.out hlt hm, Only.cell1 _ _ _ _⟩
/-- The number's way is over: the error, or what was read is let go. -/
theorem numpost_fail (w w2 : World) (g h : Nat) (A : Option Addr) (m c : Nat) (rest : List Int) (hb : Blk w g 55 [.slice A m c, .int .i64 0]) (hB : Bys w A m rest) (hc : m ≤ c) (hA : 0 < m → (∀ ad, A = some ad → ad.block = h) ∧ g ≠ h) (hlt : h < w.heap.size) (hm : m ≤ 1000000000) (hb2 : Below w.heap.size w w2) :
    NumPost 55 w g h ⟨rest, 62⟩ 0 (.returned (.int .u64 0)) (w2.setCell ⟨g, 1, none⟩ (.int .i64 62)) :=
  ⟨rfl, RdAt.fail (hb.under hb2) (hB.below hb2) hc hA (Nat.lt_of_lt_of_le hlt hb2.size) hm, (Only.of_below hb2 (fun i => i = g)).trans (Only.cell1 _ g _ _) (fun _ _ h => h)⟩
set_option maxHeartbeats 4000000 in
set_option maxRecDepth 100000 in
theorem refcountof_pos (w : World) (g h : Nat) (x : Int) (l : List Int) (most : Int) (hR : RdAt 55 w g h ⟨x :: l, 0⟩) (h0 : 0 ≤ most) (hpos : 0 < Rd.sizeOf x) (hsh : ¬ l.length < Rd.sizeOf x) :
    Calls Try.prog 75 #[.pointer (some ⟨g, 0, none⟩), .int .u64 most] w (NumPost 55 w g h (Rd.count ⟨x :: l, 0⟩ most.toNat).2 (Rd.count ⟨x :: l, 0⟩ most.toNat).1) := by
  have hR0 := hR
  obtain ⟨A, m, c, hb, hB, hc, hA, hlt, hm⟩ := hR
  have c0 := hb.c0
  have c1 := hb.c1
  have hml : 1 + Rd.sizeOf x ≤ m := by have := hB.1; simp at this; omega
  obtain ⟨b, off, rfl, hcx⟩ := hB.2.2 (by omega)
  have cx : w.cell? ⟨b, off, none⟩ = some (.int .u8 x) := hcx 0 x rfl
  have m1 : (0 : Int) < (m : Int) := by omega
  have m0 : (m == 0) = false := by simp; omega
  have hx1 := (hB.2.1 x (by simp)).2
  obtain ⟨N, hN⟩ : ∃ N : Nat, N = num (l.take (Rd.sizeOf x)) := ⟨_, rfl⟩
  have hz : ¬ Rd.sizeOf x = 0 := by omega
  have E1 : (cnt N).length ≠ 1 + Rd.sizeOf x ∨ most.toNat < N → Rd.count ⟨x :: l, 0⟩ most.toNat = (0, ⟨x :: l, 62⟩) := fun hq => by
    simp [Rd.count, Rd.peek, hsh, hz, ← hN, hq]
  have E2 : ¬ ((cnt N).length ≠ 1 + Rd.sizeOf x ∨ most.toNat < N) → Rd.count ⟨x :: l, 0⟩ most.toNat = (N, ⟨(x :: l).drop (1 + Rd.sizeOf x), 0⟩) := fun hq => by
    simp [Rd.count, Rd.peek, hsh, hz, ← hN, hq]
  have hBl : Bys w (some ⟨b, off + 1, none⟩) (Rd.sizeOf x) (l.take (Rd.sizeOf x)) := by simpa using hB.sub 1 (Rd.sizeOf x) hml
  have HN := hide hN
  have hNlt : U64 N := by
    have h1 := num_lt _ hBl.2.1
    have h2 : (l.take (Rd.sizeOf x)).length ≤ 8 := by rw [hBl.1]; rcases sizes x with h | h | h | h <;> omega
    have h3 := Nat.pow_le_pow_right (show 0 < 256 by decide) h2
    have : (256 : Nat) ^ 8 = 18446744073709551616 := by decide
    exact ⟨by omega, by omega⟩
  have HA := hide hA
  have HB := hide hB
  clear hN hcx hpos hsh hA hB
  by_cases hq : (cnt N).length = 1 + Rd.sizeOf x
  · by_cases hq2 : most.toNat < N
    · rcases sizes2 x hx1 with ⟨rfl, hs⟩ | ⟨rfl, hs⟩ | ⟨rfl, hs⟩ | ⟨_, hs⟩
      case inr.inr.inr => exact absurd hs hz
      all_goals
        have E := hide (E1 (.inr hq2))
        rw [hs] at hml hBl HN hq
        have q2 : most < (N : Int) := by omega
        have HQ := hide hq
        clear hs hz hq hq2 E1 E2 hx1
        go_enter Try.func75, Try.ntmps75
        go_wp2_with fail
        refine (refnumber_any w _ _ _ _ hBl (by decide)).mono ?_
        rintro e w1 ⟨rfl, rfl⟩
        rw [← HN.out]
        go_wp2_with fail
        refine (refcount_any w w N (Below.refl _ _) hNlt.1 hNlt.2).mono ?_
        rintro e w2 ⟨A3, n3, c3, rfl, t3, _⟩
        have b2 := hb.under t3.below
        have c02 := b2.c0
        have c12 := b2.c1
        have f12 := b2.frozen 1
        have e3 := t3.len.symm
        rw [Int.toNat_natCast, HQ.out] at e3
        simp only [Nat.reduceAdd] at e3
        subst e3
        go_wp2
        go_ret
        rw [E.out]
        exact numpost_fail w w2 g h _ m c _ hb HB.out hc HA.out hlt hm t3.below
    · rcases sizes2 x hx1 with ⟨rfl, hs⟩ | ⟨rfl, hs⟩ | ⟨rfl, hs⟩ | ⟨_, hs⟩
      case inr.inr.inr => exact absurd hs hz
      all_goals
        have E := hide (E2 (by intro h; rcases h with h | h; exact h hq; exact hq2 h))
        rw [hs] at hml hBl E HN hq
        have q2 : (N : Int) ≤ most := by omega
        have HQ := hide hq
        clear hs hz hq hq2 E1 E2 hx1
        go_enter Try.func75, Try.ntmps75
        go_wp2_with fail
        refine (refnumber_any w _ _ _ _ hBl (by decide)).mono ?_
        rintro e w1 ⟨rfl, rfl⟩
        rw [← HN.out]
        go_wp2_with fail
        refine (refcount_any w w N (Below.refl _ _) hNlt.1 hNlt.2).mono ?_
        rintro e w2 ⟨A3, n3, c3, rfl, t3, _⟩
        have b2 := hb.under t3.below
        have c02 := b2.c0
        have c12 := b2.c1
        have f12 := b2.frozen 1
        have e3 := t3.len.symm
        rw [Int.toNat_natCast, HQ.out] at e3
        simp only [Nat.reduceAdd] at e3
        subst e3
        have hR2 := hR0.below t3.below
        go_wp2_with fail
        refine (reftake_any w2 g h ⟨_ :: l, 0⟩ _ hR2 (by have := HB.out.1; simp only [List.length_cons] at this ⊢; omega)).mono ?_
        rintro e w3 ⟨A4, n4, c4, rfl, h1, h2, h3, h4, h5⟩
        have H4 := hide h4
        have H5 := hide h5
        clear h1 h2 h3 h4 h5
        go_wp2
        go_ret
        rw [E.out]
        exact ⟨rfl, H4.out, (Only.of_below t3.below _).trans H5.out (fun _ _ h => h)⟩
  · rcases sizes2 x hx1 with ⟨rfl, hs⟩ | ⟨rfl, hs⟩ | ⟨rfl, hs⟩ | ⟨_, hs⟩
    case inr.inr.inr => exact absurd hs hz
    all_goals
      have E := hide (E1 (.inl hq))
      rw [hs] at hml hBl HN hq
      have HQ := hide hq
      clear hs hz hq E1 E2 hx1
      go_enter Try.func75, Try.ntmps75
      go_wp2_with fail
      refine (refnumber_any w _ _ _ _ hBl (by decide)).mono ?_
      rintro e w1 ⟨rfl, rfl⟩
      rw [← HN.out]
      go_wp2_with fail
      refine (refcount_any w w N (Below.refl _ _) hNlt.1 hNlt.2).mono ?_
      rintro e w2 ⟨A3, n3, c3, rfl, t3, _⟩
      have b2 := hb.under t3.below
      have c02 := b2.c0
      have c12 := b2.c1
      have f12 := b2.frozen 1
      have e3 := t3.len.symm
      have hn3 : ¬ (n3 = _) := fun h => HQ.out (by rw [Int.toNat_natCast] at e3; rw [← e3]; exact h)
      simp only [Nat.reduceAdd] at hn3
      first
        | (have q3 : ((n3 : Int) != 3) = true := by rw [bne_iff_ne]; omega)
        | (have q3 : ((n3 : Int) != 5) = true := by rw [bne_iff_ne]; omega)
        | (have q3 : ((n3 : Int) != 9) = true := by rw [bne_iff_ne]; omega)
      clear e3 hn3
      go_wp2
      go_ret
      rw [E.out]
      exact numpost_fail w w2 g h _ m c _ hb HB.out hc HA.out hlt hm t3.below
end Go.Proofs.Ytfloclamdpageaa
