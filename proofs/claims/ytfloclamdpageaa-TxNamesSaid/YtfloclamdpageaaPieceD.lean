/-
  piece: the reader: peek, Fixed, Count, Text.
-/
import Derived.Test.YtfloclamdpageaaPieceN
namespace Go.Proofs.Ytfloclamdpageaa
open Go.RowKit

/-- A number of 64 bits. -/
def U64 (n : Int) : Prop := 0 ≤ n ∧ n < 18446744073709551616
theorem sizes (x : Int) : ((x == 253) = true ∧ Rd.sizeOf x = 2) ∨ ((x == 253) = false ∧ (x == 254) = true ∧ Rd.sizeOf x = 4) ∨
    ((x == 253) = false ∧ (x == 254) = false ∧ (x == 255) = true ∧ Rd.sizeOf x = 8) ∨ ((x == 253) = false ∧ (x == 254) = false ∧ (x == 255) = false ∧ Rd.sizeOf x = 0) := by
  by_cases h1 : x = 253
  · exact .inl ⟨by simpa using h1, by simp [Rd.sizeOf, h1]⟩
  · by_cases h2 : x = 254
    · exact .inr (.inl ⟨by simpa using h1, by simpa using h2, by simp [Rd.sizeOf, h2]⟩)
    · by_cases h3 : x = 255
      · exact .inr (.inr (.inl ⟨by simpa using h1, by simpa using h2, by simpa using h3, by simp [Rd.sizeOf, h3]⟩))
      · exact .inr (.inr (.inr ⟨by simpa using h1, by simpa using h2, by simpa using h3, by simp [Rd.sizeOf, h1, h2, h3]⟩))
def PeekPost (w : World) (p : Nat × Nat × Int) (e : Ending) (w' : World) : Prop :=
  e = .returned (.tuple #[.int .u64 (p.1 : Int), .int .i64 (p.2.1 : Int), .int .i64 p.2.2]) ∧ Below w.heap.size w w'
set_option maxHeartbeats 1000000 in
set_option maxRecDepth 100000 in
theorem peek_nil (w : World) (g : Nat) (A : Option Addr) (m c : Nat) (err : Int) (most : Int) (hb : Blk w g 99 [.slice A m c, .int .i64 err]) (hB : Bys w A m []) :
    Calls Try.prog 83 #[.pointer (some ⟨g, 0, none⟩), .int .u64 most] w (PeekPost w (Rd.peek [] most.toNat)) := by
  have c0 := hb.c0
  have m0 : m = 0 := hB.1.symm
  subst m0
  go_enter Try.func83, Try.ntmps83
  go_wp2
  go_ret3
  exact ⟨rfl, Below.refl _ _⟩
set_option maxHeartbeats 2000000 in
set_option maxRecDepth 100000 in
theorem peek_short (w : World) (g b off m c : Nat) (err x : Int) (l : List Int) (most : Int) (hb : Blk w g 99 [.slice (some ⟨b, off, none⟩) m c, .int .i64 err]) (hB : Bys w (some ⟨b, off, none⟩) m (x :: l)) (_hc : m ≤ c) (hm : m ≤ 1000000000) (_h0 : 0 ≤ most)
    (hsh : l.length < Rd.sizeOf x) :
    Calls Try.prog 83 #[.pointer (some ⟨g, 0, none⟩), .int .u64 most] w (PeekPost w (Rd.peek (x :: l) most.toNat)) := by
  have c0 := hb.c0
  have hcx := hB.2.2 (by have := hB.1; simp at this; omega)
  have cx : w.cell? ⟨b, off, none⟩ = some (.int .u8 x) := by obtain ⟨b2, o2, e, hcs⟩ := hcx; injection e with e; injection e with e1 e2; subst e1; subst e2; exact hcs 0 x rfl
  have hml : m < 1 + Rd.sizeOf x := by have := hB.1; simp at this; omega
  have m1 : (0 : Int) < (m : Int) := by have := hB.1; simp at this; omega
  have m0 : (m == 0) = false := by simp; omega
  have E : Hid (Rd.peek (x :: l) most.toNat = (0, 0, 61)) := hide (by simp [Rd.peek, hsh])
  clear hcx
  rcases sizes x with ⟨t1, hs⟩ | ⟨t1, t2, hs⟩ | ⟨t1, t2, t3, hs⟩ | ⟨t1, t2, t3, hs⟩
  case inr.inr.inr => omega
  all_goals
    rw [hs] at hml
    clear hs hsh
    go_enter Try.func83, Try.ntmps83
    go_wp2
    go_ret3
    rw [E.out]
    exact ⟨rfl, Below.refl _ _⟩
set_option maxHeartbeats 4000000 in
set_option maxRecDepth 100000 in
theorem peek_pos (w : World) (g b off m c : Nat) (err x : Int) (l : List Int) (most : Int) (hb : Blk w g 99 [.slice (some ⟨b, off, none⟩) m c, .int .i64 err]) (hB : Bys w (some ⟨b, off, none⟩) m (x :: l)) (hc : m ≤ c) (hm : m ≤ 1000000000) (h0 : 0 ≤ most)
    (hpos : 0 < Rd.sizeOf x) (hsh : ¬ l.length < Rd.sizeOf x) :
    Calls Try.prog 83 #[.pointer (some ⟨g, 0, none⟩), .int .u64 most] w (PeekPost w (Rd.peek (x :: l) most.toNat)) := by
  have c0 := hb.c0
  have hcx := hB.2.2 (by have := hB.1; simp at this; omega)
  have cx : w.cell? ⟨b, off, none⟩ = some (.int .u8 x) := by obtain ⟨b2, o2, e, hcs⟩ := hcx; injection e with e; injection e with e1 e2; subst e1; subst e2; exact hcs 0 x rfl
  have hx := hB.2.1 x (by simp)
  have x0 : 0 ≤ x := hx.1
  have x1 : x ≤ 255 := hx.2
  have hml : 1 + Rd.sizeOf x ≤ m := by have := hB.1; simp at this; omega
  have m0 : (m == 0) = false := by simp; omega
  have m1 : (0 : Int) < (m : Int) := by omega
  obtain ⟨N, hN⟩ : ∃ N : Nat, N = num (l.take (Rd.sizeOf x)) := ⟨_, rfl⟩
  have hz : ¬ Rd.sizeOf x = 0 := by omega
  have E : Hid (Rd.peek (x :: l) most.toNat = if (cnt N).length ≠ 1 + Rd.sizeOf x ∨ most.toNat < N then (0, 0, 62) else (N, 1 + Rd.sizeOf x, 0)) := hide (by simp [Rd.peek, hsh, hz, ← hN])
  have hBl : Bys w (some ⟨b, off + 1, none⟩) (Rd.sizeOf x) (l.take (Rd.sizeOf x)) := by simpa using hB.sub 1 (Rd.sizeOf x) hml
  have HN := hide hN
  have hNlt : N < 18446744073709551616 := by
    rw [hN]
    have h1 := num_lt _ hBl.2.1
    have h2 : (l.take (Rd.sizeOf x)).length ≤ 8 := by rw [hBl.1]; rcases sizes x with h | h | h | h <;> omega
    have h3 := Nat.pow_le_pow_right (show 0 < 256 by decide) h2
    have : (256 : Nat) ^ 8 = 18446744073709551616 := by decide
    omega
  have HNL : U64 N := ⟨by omega, by omega⟩
  have hcl := (cnt_length N).2
  clear hNlt hN hx hcx hpos hsh
  rcases sizes x with ⟨t1, hs⟩ | ⟨t1, t2, hs⟩ | ⟨t1, t2, t3, hs⟩ | ⟨t1, t2, t3, hs⟩
  case inr.inr.inr => exact absurd hs hz
  all_goals
    by_cases hq : (cnt N).length = 1 + Rd.sizeOf x
    · by_cases hq2 : most.toNat < N
      · rw [hs] at hml hBl E HN hq
        rw [if_pos (.inr hq2)] at E
        have q2 : most < (N : Int) := by omega
        have HQ := hide hq
        clear hs hz hq hq2
        go_enter Try.func83, Try.ntmps83
        go_wp2_with (go_at_call 84; refine (number_any w _ _ _ _ hBl (by decide)).mono ?_; rintro e w1 ⟨rfl, hb1⟩; rw [← HN.out]; have c0' := cell_under hb1 c0)
        refine (count_any w1 w1 none 0 0 [] N (Mine.nil (Below.refl _ _) none) HNL.1 HNL.2 (by decide)).mono ?_
        rintro e w2 ⟨A3, n3, c3, rfl, t3, _⟩
        have e3 := t3.len.symm
        rw [List.nil_append, Int.toNat_natCast, HQ.out] at e3
        simp only [Nat.reduceAdd] at e3
        subst e3
        go_wp2
        go_ret3
        rw [E.out]
        exact ⟨rfl, hb1.trans (t3.below.mono hb1.size)⟩
      · rw [hs] at hml hBl E HN hq
        rw [if_neg (by intro h; rcases h with h | h; exact h hq; exact hq2 h)] at E
        have q2 : (N : Int) ≤ most := by omega
        have HQ := hide hq
        clear hs hz hq hq2
        go_enter Try.func83, Try.ntmps83
        go_wp2_with (go_at_call 84; refine (number_any w _ _ _ _ hBl (by decide)).mono ?_; rintro e w1 ⟨rfl, hb1⟩; rw [← HN.out]; have c0' := cell_under hb1 c0)
        refine (count_any w1 w1 none 0 0 [] N (Mine.nil (Below.refl _ _) none) HNL.1 HNL.2 (by decide)).mono ?_
        rintro e w2 ⟨A3, n3, c3, rfl, t3, _⟩
        have e3 := t3.len.symm
        rw [List.nil_append, Int.toNat_natCast, HQ.out] at e3
        simp only [Nat.reduceAdd] at e3
        subst e3
        go_wp2
        go_ret3
        rw [E.out]
        exact ⟨rfl, hb1.trans (t3.below.mono hb1.size)⟩
    · rw [hs] at hml hBl E HN hq
      rw [if_pos (.inl hq)] at E
      have HQ := hide hq
      clear hs hz hq
      go_enter Try.func83, Try.ntmps83
      go_wp2_with (go_at_call 84; refine (number_any w _ _ _ _ hBl (by decide)).mono ?_; rintro e w1 ⟨rfl, hb1⟩; rw [← HN.out]; have c0' := cell_under hb1 c0)
      refine (count_any w1 w1 none 0 0 [] N (Mine.nil (Below.refl _ _) none) HNL.1 HNL.2 (by decide)).mono ?_
      rintro e w2 ⟨A3, n3, c3, rfl, t3, _⟩
      have e3 := t3.len.symm
      have hn3 : ¬ (n3 = _) := fun h => HQ.out (by rw [List.nil_append, Int.toNat_natCast] at e3; rw [← e3]; exact h)
      simp only [Nat.reduceAdd] at hn3
      first
        | (have q3 : ((n3 : Int) != 3) = true := by rw [bne_iff_ne]; omega)
        | (have q3 : ((n3 : Int) != 5) = true := by rw [bne_iff_ne]; omega)
        | (have q3 : ((n3 : Int) != 9) = true := by rw [bne_iff_ne]; omega)
      clear e3 hn3
      go_wp2
      go_ret3
      rw [E.out]
      exact ⟨rfl, hb1.trans (t3.below.mono hb1.size)⟩
set_option maxHeartbeats 4000000 in
set_option maxRecDepth 100000 in
theorem peek_zero (w : World) (g b off m c : Nat) (err x : Int) (l : List Int) (most : Int) (hb : Blk w g 99 [.slice (some ⟨b, off, none⟩) m c, .int .i64 err]) (hB : Bys w (some ⟨b, off, none⟩) m (x :: l)) (hc : m ≤ c) (hm : m ≤ 1000000000) (h0 : 0 ≤ most)
    (hs0 : Rd.sizeOf x = 0) :
    Calls Try.prog 83 #[.pointer (some ⟨g, 0, none⟩), .int .u64 most] w (PeekPost w (Rd.peek (x :: l) most.toNat)) := by
  have c0 := hb.c0
  have hcx := hB.2.2 (by have := hB.1; simp at this; omega)
  have cx : w.cell? ⟨b, off, none⟩ = some (.int .u8 x) := by obtain ⟨b2, o2, e, hcs⟩ := hcx; injection e with e; injection e with e1 e2; subst e1; subst e2; exact hcs 0 x rfl
  have hx := hB.2.1 x (by simp)
  have x0 : 0 ≤ x := hx.1
  have x1 : x ≤ 255 := hx.2
  have x2 : x < 253 := by
    rcases sizes x with ⟨_, h⟩ | ⟨_, _, h⟩ | ⟨_, _, _, h⟩ | ⟨t1, t2, t3, h⟩
    all_goals try omega
    simp at t1 t2 t3; omega
  have hml : 1 ≤ m := by have := hB.1; simp at this; omega
  have m0 : (m == 0) = false := by simp; omega
  have m1 : (0 : Int) < (m : Int) := by omega
  have t1 : (x == 253) = false := by simp; omega
  have t2 : (x == 254) = false := by simp; omega
  have t3 : (x == 255) = false := by simp; omega
  have hu : IntKind.u64.wrap x = x := by rw [IntKind.wrap_u64]; omega
  have hcn : cnt x.toNat = [x] := cnt1 x x0 x2
  have E : Hid (Rd.peek (x :: l) most.toNat = if most.toNat < x.toNat then (0, 0, 62) else (x.toNat, 1, 0)) := hide (by simp [Rd.peek, hs0, hcn])
  have HC := hide hcn
  clear hcx hx hs0 hcn
  by_cases hq2 : most < x
  · rw [if_pos (by omega)] at E
    go_enter Try.func83, Try.ntmps83
    go_wp2_with (go_at_call 84; refine (number_any w _ _ _ _ (Bys.nil _ _) (by decide)).mono ?_; rintro e w1 ⟨rfl, hb1⟩; have c0' := cell_under hb1 c0; have cx' := cell_under hb1 cx)
    all_goals
      refine (count_any _ _ none 0 0 [] x (Mine.nil (Below.refl _ _) none) x0 (by omega) (by decide)).mono ?_
      rintro e w2 ⟨A3, n3, c3, rfl, t3, _⟩
      have e3 := t3.len.symm
      rw [List.nil_append, HC.out] at e3
      simp only [List.length_cons, List.length_nil, Nat.zero_add] at e3
      subst e3
      go_wp2
      go_ret3
      rw [E.out]
      exact ⟨rfl, hb1.trans (t3.below.mono hb1.size)⟩
  · rw [if_neg (by omega)] at E
    have q2 : x ≤ most := by omega
    have ex : ((x.toNat : Nat) : Int) = x := by omega
    have EX := hide ex
    clear ex hq2
    go_enter Try.func83, Try.ntmps83
    go_wp2_with (go_at_call 84; refine (number_any w _ _ _ _ (Bys.nil _ _) (by decide)).mono ?_; rintro e w1 ⟨rfl, hb1⟩; have c0' := cell_under hb1 c0; have cx' := cell_under hb1 cx)
    all_goals
      refine (count_any _ _ none 0 0 [] x (Mine.nil (Below.refl _ _) none) x0 (by omega) (by decide)).mono ?_
      rintro e w2 ⟨A3, n3, c3, rfl, t3, _⟩
      have e3 := t3.len.symm
      rw [List.nil_append, HC.out] at e3
      simp only [List.length_cons, List.length_nil, Nat.zero_add] at e3
      subst e3
      go_wp2
      go_ret3
      rw [E.out]
      refine ⟨?_, hb1.trans (t3.below.mono hb1.size)⟩
      simp only [EX.out]
      rfl
theorem peek_any (w : World) (g h : Nat) (r : Rd) (most : Int) (hR : RdAt 99 w g h r) (h0 : 0 ≤ most) :
    Calls Try.prog 83 #[.pointer (some ⟨g, 0, none⟩), .int .u64 most] w (PeekPost w (Rd.peek r.rest most.toNat)) := by
  obtain ⟨rest, err⟩ := r
  obtain ⟨A, m, c, hb, hB, hc, hA, hlt, hm⟩ := hR
  cases rest with
  | nil => exact peek_nil w g A m c err most hb hB
  | cons x l =>
    have hl := hB.1
    obtain ⟨b, off, rfl, hcs⟩ := hB.2.2 (by simp at hl; omega)
    by_cases hsh : l.length < Rd.sizeOf x
    · exact peek_short w g b off m c err x l most hb hB hc hm h0 hsh
    · by_cases hz : Rd.sizeOf x = 0
      · exact peek_zero w g b off m c err x l most hb hB hc hm h0 hz
      · exact peek_pos w g b off m c err x l most hb hB hc hm h0 (by omega) hsh
end Go.Proofs.Ytfloclamdpageaa
