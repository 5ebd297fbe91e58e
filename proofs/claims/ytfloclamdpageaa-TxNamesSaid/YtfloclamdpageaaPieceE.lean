/-
  piece: the reader: Fixed, Count, Text.
-/
import Derived.Test.YtfloclamdpageaaPieceD
namespace Go.Proofs.Ytfloclamdpageaa
open Go.RowKit

def NumPost (T : TypeId) (w : World) (g h : Nat) (r' : Rd) (n : Nat) (e : Ending) (w' : World) : Prop :=
  e = .returned (.int .u64 (n : Int)) ∧ RdAt T w' g h r' ∧ Only (fun i => i = g) w w'
/-- A slice's rest, whatever its address is. -/
theorem slice_from (A : Option Addr) (m c U : Nat) (hU : U ≤ m) (hc : m ≤ c) : ∃ A' : Option Addr, (∀ w : World, (Instr.slice 22 (.slice A m c) (some (.int .i64 (U : Int))) none none).run Try.prog w = .ok (.slice A' (m - U) (c - U)) w) ∧
    (∀ w : World, (Instr.sliceAt 22 (.slice A m c) (some (.int .i64 (U : Int))) none none).run Try.prog w = .ok (.slice A' (m - U) (c - U)) w) ∧
    (∀ (w : World) (bs : List Int), Bys w A m bs → Bys w A' (m - U) (bs.drop U)) ∧ ∀ ad', A' = some ad' → ∃ ad, A = some ad ∧ ad'.block = ad.block := by
  have hel : Try.prog.elem 22 = 5 := by kernel_rfl
  have hu : Try.prog.underlying 22 = some (.slice (Try.prog.elem 22)) := by rw [hel]; exact Try.underlying22
  have hsz : (Try.prog.info? 5).map (·.size) = some 1 := by kernel_rfl
  have h1 : ∀ w : World, (Instr.slice 22 (.slice A m c) (some (.int .i64 (U : Int))) none none).run Try.prog w = .ok (.slice (if c = U then A else A.map (·.add U)) (m - U) (c - U)) w := fun w => by
    rw [run_slice_l w _ A m c hu .i64 U (by omega) (by omega), hel, run_size hsz w]
    by_cases h : c = U
    · simp [Result.andThen, sliced, h]
    · simp [Result.andThen, sliced, h]
  refine ⟨if c = U then A else A.map (·.add U), h1, fun w => ?_, fun w bs hB => ?_, fun ad' h => ?_⟩
  · rw [run_sliceAt_slice w _ _ _ _ _ hu]; exact h1 w
  · by_cases h : c = U
    · rw [if_pos h]
      exact Bys.zero _ _ _ (by rw [List.length_drop, hB.1]) (by omega)
    · rw [if_neg h]
      cases A with
      | none =>
        have : m = 0 := by
          rcases Nat.eq_zero_or_pos m with h0 | h0
          · exact h0
          · obtain ⟨_, _, e, _⟩ := hB.2.2 h0; cases e
        exact Bys.zero _ _ _ (by rw [List.length_drop, hB.1]) (by omega)
      | some a =>
        rcases Nat.eq_zero_or_pos m with h0 | h0
        · exact Bys.zero _ _ _ (by rw [List.length_drop, hB.1]) (by omega)
        · obtain ⟨b, off, e, _⟩ := hB.2.2 h0
          injection e with e
          subst e
          have := hB.from_ U hU
          have e2 : (some ⟨b, off, none⟩ : Option Addr).map (fun x => x.add U) = some ⟨b, off + U, none⟩ := by simp only [Option.map_some, Addr.add_mid]
          rw [e2]; exact this
  · by_cases h2 : c = U
    · rw [if_pos h2] at h; exact ⟨ad', h, rfl⟩
    · rw [if_neg h2] at h
      cases A with
      | none => cases h
      | some a =>
        injection h with h
        refine ⟨a, rfl, ?_⟩
        rw [← h]
        show (a.add U).block = a.block
        unfold Addr.add
        repeat' split
        all_goals rfl
theorem raw_length (r : Rd) (k : Int) (m : Nat) (h : k ≤ m) : (r.raw k).1.length ≤ m := by
  unfold Rd.raw
  split
  · simp
  · split
    · simp
    · simp only [List.length_take]; omega
theorem peek_used (b : List Int) (most : Nat) : (Rd.peek b most).2.1 ≤ b.length := by
  unfold Rd.peek
  split
  · simp
  · dsimp only
    repeat' split
    all_goals (try simp)
    all_goals omega
theorem peek_zero_or (b : List Int) (most : Nat) (h : (Rd.peek b most).2.2 ≠ 0) : (Rd.peek b most).1 = 0 ∧ (Rd.peek b most).2.1 = 0 := by
  unfold Rd.peek at h ⊢
  split at h
  · simp
  · dsimp only at h ⊢
    repeat' split at h
    all_goals (try (simp at h; done))
    all_goals (try simp_all)
    all_goals (repeat' split)
    all_goals simp
theorem peek_most (b : List Int) (most : Nat) : (Rd.peek b most).1 ≤ most := by
  unfold Rd.peek
  split
  · simp
  · dsimp only
    repeat' split
    all_goals (try simp)
    all_goals (rename_i h; simp at h; omega)
set_option maxHeartbeats 1000000 in
set_option maxRecDepth 100000 in
theorem RFixed_any (w : World) (g h : Nat) (r : Rd) (n : Int) (hR : RdAt 99 w g h r) :
    Calls Try.prog 59 #[.pointer (some ⟨g, 0, none⟩), .int .i64 n] w (NumPost 99 w g h (r.fixed n).2 (r.fixed n).1) := by
  have hl := raw_length r (Rd.within n) 8 (within_range n).2
  go_enter Try.func59, Try.ntmps59
  go_wp2_with (go_at_call 85; refine (within_any _ _).mono ?_; rintro e w1 ⟨rfl, rfl⟩)
  refine (Raw_any w g h r _ hR).mono ?_
  rintro e w1 ⟨A, m, c, rfl, hB, _, hf, hR1, ho⟩
  have hm := hB.1
  have hm8 : m ≤ 8 := by omega
  clear hm hl
  go_wp2_with fail
  refine (number_any w1 A m c _ hB hm8).mono ?_
  rintro e w2 ⟨rfl, hb⟩
  go_wp2
  go_ret
  exact ⟨rfl, hR1.below hb, ho.trans (Only.of_below hb (fun _ => False)) (fun _ _ h => h.elim)⟩
set_option maxHeartbeats 1000000 in
set_option maxRecDepth 100000 in
theorem RCount_any (w : World) (g h : Nat) (r : Rd) (most : Int) (hR : RdAt 99 w g h r) (h0 : 0 ≤ most) :
    Calls Try.prog 58 #[.pointer (some ⟨g, 0, none⟩), .int .u64 most] w (NumPost 99 w g h (r.count most.toNat).2 (r.count most.toNat).1) := by
  have hR0 := hR
  obtain ⟨rest, err⟩ := r
  obtain ⟨A, m, c, hb, hB, hc, hA, hlt, hm⟩ := hR
  have c1 := hb.c1
  by_cases he : err = 0
  · subst he
    have E : Hid (Rd.count ⟨rest, 0⟩ most.toNat = ((Rd.peek rest most.toNat).1, ⟨rest.drop (Rd.peek rest most.toNat).2.1, (Rd.peek rest most.toNat).2.2⟩)) := hide (by simp [Rd.count])
    have hu := peek_used rest most.toNat
    have hp := peek_any w g h ⟨rest, 0⟩ most hR0 h0
    simp only at hp
    rw [hB.1] at hu
    generalize Rd.peek rest most.toNat = p at *
    obtain ⟨N, U, X⟩ := p
    simp only at hu E
    have HA := hide hA
    obtain ⟨A', hs1, hs2, hBA, hAA⟩ := slice_from A m c U hu hc
    have HAA := hide hAA
    have HBA := hide hBA
    clear hA hAA hBA
    go_enter Try.func58, Try.ntmps58
    go_wp2_with (go_at_call 83; refine hp.mono ?_; rintro e w1 ⟨rfl, hb1⟩; have b1 := hb.under hb1; have c0' := b1.c0; have f0' := b1.frozen 0; have f1' := b1.frozen 1; have c1' := b1.c1)
    go_ret
    rw [E.out]
    have bX : Blk (w1.setCell ⟨g, 1, none⟩ (.int .i64 X)) g 99 [.slice A m c, .int .i64 X] := by simpa using b1.set_ 1 (.int .i64 X)
    have hne : 0 < m - U → (∀ ad, A' = some ad → ad.block = h) ∧ g ≠ h := fun h0 => ⟨fun ad e => by
      obtain ⟨a, ea, eb⟩ := HAA.out ad e
      rw [eb]; exact (HA.out (by omega)).1 a ea, (HA.out (by omega)).2⟩
    have hB2 : Bys (w1.setCell ⟨g, 1, none⟩ (.int .i64 X)) A' (m - U) (rest.drop U) :=
      ((HBA.out w rest hB).below hb1).keep (Only.cell1 _ _ _ _) (fun h0 ad e hg => (hne h0).2 (by rw [← (hne h0).1 ad e]; exact hg.symm))
    refine ⟨rfl, RdAt.turn bX hB2 (by omega) hne (by have := hb1.size; simp [World.setCell]; omega) (by omega), ?_⟩
    exact ((Only.of_below hb1 (fun i => i = g)).trans (Only.cell1 _ g _ _) (fun _ _ h => h)).trans (Only.cell1 _ g _ _) (fun _ _ h => h)
  · have E : Hid (Rd.count ⟨rest, err⟩ most.toNat = (0, ⟨rest, err⟩)) := hide (by simp [Rd.count, he])
    have he' : (err != 0) = true := by simpa using he
    go_enter Try.func58, Try.ntmps58
    go_wp2
    go_ret
    rw [E.out]
    exact ⟨rfl, hR0, Only.refl _ _⟩
/-- A text that is read is what is read raw behind its length. -/
theorem text_raw (r : Rd) (most : Int) (he : r.err = 0) (hp : (Rd.peek r.rest (max most 0).toNat).2.2 = 0) (hl : ¬ r.rest.length - (Rd.peek r.rest (max most 0).toNat).2.1 < (Rd.peek r.rest (max most 0).toNat).1) :
    r.text most = Rd.raw ⟨r.rest.drop (Rd.peek r.rest (max most 0).toNat).2.1, 0⟩ ((Rd.peek r.rest (max most 0).toNat).1 : Int) := by
  unfold Rd.text Rd.raw
  simp only [he, hp, ne_eq, not_true_eq_false, if_false, false_or, hl]
  generalize Rd.peek r.rest (max most 0).toNat = p at *
  by_cases h0 : p.1 = 0
  · simp [h0]
  · have h1 : ¬ ((p.1 : Int) < 1) := by omega
    have h2 : ¬ (((r.rest.drop p.2.1).length : Int) < (p.1 : Int)) := by simp; omega
    rw [if_neg h1, if_neg h2, Int.toNat_natCast]
theorem text_cases (rest : List Int) (most : Int) (M : Nat) (hM : (max most 0).toNat = M) (N U : Nat) (X : Int) (hp : Rd.peek rest M = (N, U, X)) :
    (X ≠ 0 → Rd.text ⟨rest, 0⟩ most = ([], ⟨rest, X⟩)) ∧ (X = 0 → rest.length - U < N → Rd.text ⟨rest, 0⟩ most = ([], ⟨rest, 61⟩)) ∧
    (X = 0 → ¬ rest.length - U < N → Rd.text ⟨rest, 0⟩ most = Rd.raw ⟨rest.drop U, 0⟩ (N : Int)) := by
  refine ⟨fun h => ?_, fun h h2 => ?_, fun h h2 => ?_⟩
  · unfold Rd.text; simp only [hM, hp, ne_eq, not_true_eq_false, if_false, h, not_false_eq_true, if_true]
  · unfold Rd.text; simp only [hM, hp, ne_eq, not_true_eq_false, if_false, h, h2, if_true]
  · have := text_raw ⟨rest, 0⟩ most rfl
    simp only [hM, hp] at this
    exact this h h2
set_option maxHeartbeats 2000000 in
set_option maxRecDepth 100000 in
theorem RText_any (w : World) (g h : Nat) (r : Rd) (most : Int) (hR : RdAt 99 w g h r) (hmost : most < 9223372036854775808) :
    Calls Try.prog 60 #[.pointer (some ⟨g, 0, none⟩), .int .i64 most] w (RawPost 99 w g h (r.text most).2 (r.text most).1) := by
  have hR0 := hR
  obtain ⟨rest, err⟩ := r
  obtain ⟨A, m, c, hb, hB, hc, hA, hlt, hm⟩ := hR
  have c1 := hb.c1
  by_cases he : err = 0
  · subst he
    obtain ⟨M, hM, hw⟩ : ∃ M : Int, 0 ≤ M ∧ ((0 ≤ most ∧ M = most) ∨ (most < 0 ∧ M = 0)) := by
      by_cases h : 0 ≤ most
      · exact ⟨most, h, .inl ⟨h, rfl⟩⟩
      · exact ⟨0, by omega, .inr ⟨by omega, rfl⟩⟩
    have hu := peek_used rest M.toNat
    have hp := peek_any w g h ⟨rest, 0⟩ M hR0 hM
    obtain ⟨N, U, X, hpe⟩ : ∃ N U X, Rd.peek rest M.toNat = (N, U, X) := ⟨_, _, _, rfl⟩
    have htc := text_cases rest most M.toNat (by congr 1; omega) N U X hpe
    have hmx : IntKind.u64.wrap M = M := by rw [IntKind.wrap_u64]; omega
    simp only [hpe] at hp hu
    rw [hB.1] at hu htc
    have HA := hide hA
    obtain ⟨A', hs1, hs2, hBA, hAA⟩ := slice_from A m c U hu hc
    have HAA := hide hAA
    have HBA := hide hBA
    have HTC := hide htc
    clear hA hAA hBA htc hpe
    rcases hw with ⟨hw1, rfl⟩ | ⟨hw1, rfl⟩
    all_goals
      by_cases hX : X = 0
      · subst hX
        by_cases hN : m - U < N
        · have E := hide (HTC.out.2.1 rfl hN)
          have hgt : ((m : Int) - (U : Int)) < (N : Int) := by omega
          have hwr : IntKind.u64.wrap ((m : Int) - (U : Int)) = (m : Int) - (U : Int) := by rw [IntKind.wrap_u64]; omega
          have hd : decide ((m : Int) - (U : Int) < (N : Int)) = true := by simp; omega
          clear hs1 hs2 HTC hN
          go_enter Try.func60, Try.ntmps60
          go_wp2_with (go_at_call 83; refine hp.mono ?_; rintro e w1 ⟨rfl, hb1⟩; have b1 := hb.under hb1; have c0' := b1.c0; have f0' := b1.frozen 0; have f1' := b1.frozen 1; have c1' := b1.c1)
          go_ret
          rw [E.out]
          exact ⟨none, 0, 0, rfl, Bys.nil _ _, Nat.le_refl _, Fr.none _, RdAt.fail b1 (hB.below hb1) hc HA.out (Nat.lt_of_lt_of_le hlt hb1.size) hm, (Only.of_below hb1 (fun i => i = g)).trans (Only.cell1 _ g _ _) (fun _ _ h => h)⟩
        · have E := hide (HTC.out.2.2 rfl hN)
          have hgt : (N : Int) ≤ (m : Int) - (U : Int) := by omega
          have hwr : IntKind.u64.wrap ((m : Int) - (U : Int)) = (m : Int) - (U : Int) := by rw [IntKind.wrap_u64]; omega
          have hwi : IntKind.i64.wrap (N : Int) = (N : Int) := by rw [IntKind.wrap_i64]; omega
          have hd : decide ((m : Int) - (U : Int) < (N : Int)) = false := by simp; omega
          clear HTC hN
          go_enter Try.func60, Try.ntmps60
          go_wp2_with (go_at_call 83; refine hp.mono ?_; rintro e w1 ⟨rfl, hb1⟩; have b1 := hb.under hb1; have c0' := b1.c0; have f0' := b1.frozen 0; have f1' := b1.frozen 1; have c1' := b1.c1)
          have hne : 0 < m - U → (∀ ad, A' = some ad → ad.block = h) ∧ g ≠ h := fun h0 => ⟨fun ad e => by
            obtain ⟨a, ea, eb⟩ := HAA.out ad e
            rw [eb]; exact (HA.out (by omega)).1 a ea, (HA.out (by omega)).2⟩
          have hR2 := RdAt.turn b1 ((HBA.out w rest hB).below hb1) (show m - U ≤ c - U by omega) hne (Nat.lt_of_lt_of_le hlt hb1.size) (by omega)
          refine (Raw_any _ g h ⟨rest.drop U, 0⟩ (N : Int) hR2).mono ?_
          rintro e w3 ⟨A4, n4, c4, rfl, hB4, hc4, hf4, hR4, ho4⟩
          have HR4 := hide hR4
          have HO4 := hide ho4
          clear hR4 ho4 hs1 hs2
          go_wp2
          go_ret
          rw [E.out]
          refine ⟨A4, n4, c4, rfl, hB4, hc4, fun ad e => ?_, HR4.out, ((Only.of_below hb1 (fun i => i = g)).trans (Only.cell1 _ g _ _) (fun _ _ h => h)).trans HO4.out (fun _ _ h => h)⟩
          have h1 := hf4 ad e
          have h2 := hb1.size
          simp [World.setCell] at h1
          omega
      · have E := hide (HTC.out.1 hX)
        have hX1 : (X == 0) = false := by simpa using hX
        have hX2 : (X != 0) = true := by simpa using hX
        clear hs1 hs2 HTC hX
        go_enter Try.func60, Try.ntmps60
        go_wp2_with (go_at_call 83; refine hp.mono ?_; rintro e w1 ⟨rfl, hb1⟩; have b1 := hb.under hb1; have c0' := b1.c0; have f0' := b1.frozen 0; have f1' := b1.frozen 1; have c1' := b1.c1)
        go_ret
        rw [E.out]
        exact ⟨none, 0, 0, rfl, Bys.nil _ _, Nat.le_refl _, Fr.none _, RdAt.fail b1 (hB.below hb1) hc HA.out (Nat.lt_of_lt_of_le hlt hb1.size) hm, (Only.of_below hb1 (fun i => i = g)).trans (Only.cell1 _ g _ _) (fun _ _ h => h)⟩
  · have E : Hid (Rd.text ⟨rest, err⟩ most = ([], ⟨rest, err⟩)) := hide (by simp [Rd.text, he])
    have he' : (err != 0) = true := by simpa using he
    go_enter Try.func60, Try.ntmps60
    go_wp2
    go_ret
    rw [E.out]
    exact ⟨none, 0, 0, rfl, Bys.nil _ _, Nat.le_refl _, Fr.none _, hR0, Only.refl _ _⟩
end Go.Proofs.Ytfloclamdpageaa
