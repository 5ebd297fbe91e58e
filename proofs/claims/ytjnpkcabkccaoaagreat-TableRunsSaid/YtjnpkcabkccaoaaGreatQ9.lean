/- Lemmas and walks for TableRuns, packed. -/
import Derived.Test.YtjnpkcabkccaoaaGreatQ6
set_option maxRecDepth 100000
set_option maxHeartbeats 16000000
namespace Go.Proofs.YtjnpkcabkccaoaaGreat
open Go.RowKit
def NumPost (T : TypeId) (w : World) (g h : Nat) (r' : Rd) (n : Nat) (e : Ending) (w' : World) : Prop :=
 e = .returned (.int .u64 (n : Int)) ∧ RdAt T w' g h r' ∧ Only (fun i => i = g) w w'
theorem slice_from (A : Option Addr) (m c U : Nat) (hU : U ≤ m) (hc : m ≤ c) : ∃ A' : Option Addr, (∀ w : World, (Instr.slice 23 (.slice A m c) (some (.int .i64 (U : Int))) none none).run Tryz.prog w = .ok (.slice A' (m - U) (c - U)) w) ∧
  (∀ w : World, (Instr.sliceAt 23 (.slice A m c) (some (.int .i64 (U : Int))) none none).run Tryz.prog w = .ok (.slice A' (m - U) (c - U)) w) ∧
  (∀ (w : World) (bs : List Int), Bys w A m bs → Bys w A' (m - U) (bs.drop U)) ∧ ∀ ad', A' = some ad' → ∃ ad, A = some ad ∧ ad'.block = ad.block := by
 have hel : Tryz.prog.elem 23 = 5 := by kernel_rfl
 have hu : Tryz.prog.underlying 23 = some (.slice (Tryz.prog.elem 23)) := by rw [hel]; exact Tryz.underlying23
 have hsz : (Tryz.prog.info? 5).map (·.size) = some 1 := by kernel_rfl
 have h1 : ∀ w : World, (Instr.slice 23 (.slice A m c) (some (.int .i64 (U : Int))) none none).run Tryz.prog w = .ok (.slice (if c = U then A else A.map (·.add U)) (m - U) (c - U)) w := fun w => by
  rw [run_slice_l w _ A m c hu .i64 U (by omega) (by omega), hel, run_size hsz w]
  by_cases h : c = U
  ·simp [Result.andThen, sliced, h]
  ·simp [Result.andThen, sliced, h]
 refine ⟨if c = U then A else A.map (·.add U), h1, fun w => ?_, fun w bs hB => ?_, fun ad' h => ?_⟩
 ·rw [run_sliceAt_slice w _ _ _ _ _ hu]; exact h1 w
 ·by_cases h : c = U
  ·rw [if_pos h]
   exact Bys.zero _ _ _ (by rw [List.length_drop, hB.1]) (by omega)
  ·rw [if_neg h]
   cases A with
   | none =>
    have : m = 0 := by
     rcases Nat.eq_zero_or_pos m with h0 | h0
     ·exact h0
     ·obtain ⟨_, _, e, _⟩ := hB.2.2 h0; cases e
    exact Bys.zero _ _ _ (by rw [List.length_drop, hB.1]) (by omega)
   | some a =>
    rcases Nat.eq_zero_or_pos m with h0 | h0
    ·exact Bys.zero _ _ _ (by rw [List.length_drop, hB.1]) (by omega)
    ·obtain ⟨b, off, e, _⟩ := hB.2.2 h0
     injection e with e
     subst e
     have := hB.from_ U hU
     have e2 : (some ⟨b, off, none⟩ : Option Addr).map (fun x => x.add U) = some ⟨b, off + U, none⟩ := by simp only [Option.map_some, Addr.add_mid]
     rw [e2]; exact this
 ·by_cases h2 : c = U
  ·rw [if_pos h2] at h; exact ⟨ad', h, rfl⟩
  ·rw [if_neg h2] at h
   cases A with
   | none => cases h
   | some a =>
    injection h with h
    refine ⟨a, rfl, ?_⟩
    rw [← h]
    show (a.add U).block = a.block
    unfold Addr.add
    repeat' split
    all_goals rfl
theorem raw_length (r : Rd) (k : Int) (m : Nat) (h : k ≤ m) : (r.raw k).1.length ≤ m := by
 unfold Rd.raw
 split
 ·simp
 ·split
  ·simp
  ·simp only [List.length_take]; omega
theorem peek_used (b : List Int) (most : Nat) : (Rd.peek b most).2.1 ≤ b.length := by
 unfold Rd.peek
 split
 ·simp
 ·dsimp only
  repeat' split
  all_goals (try simp)
  all_goals omega
theorem peek_zero_or (b : List Int) (most : Nat) (h : (Rd.peek b most).2.2 ≠ 0) : (Rd.peek b most).1 = 0 ∧ (Rd.peek b most).2.1 = 0 := by
 unfold Rd.peek at h ⊢
 split at h
 ·simp
 ·dsimp only at h ⊢
  repeat' split at h
  all_goals (try (simp at h; done))
  all_goals (try simp_all)
  all_goals (repeat' split)
  all_goals simp
theorem peek_most (b : List Int) (most : Nat) : (Rd.peek b most).1 ≤ most := by
 unfold Rd.peek
 split
 ·simp
 ·dsimp only
  repeat' split
  all_goals (try simp)
  all_goals (rename_i h; simp at h; omega)
theorem RFixed_any (w : World) (g h : Nat) (r : Rd) (n : Int) (hR : RdAt 186 w g h r) :
  Calls Tryz.prog 111 #[.pointer (some ⟨g, 0, none⟩), .int .i64 n] w (NumPost 186 w g h (r.fixed n).2 (r.fixed n).1) := by
 have hl := raw_length r (Rd.within n) 8 (within_range n).2
 go_enter Tryz.func111, Tryz.ntmps111
 go_wp2_with (go_at_call 116; refine (within_any _ _).mono ?_; rintro e w1 ⟨rfl, rfl⟩)
 refine (Raw_any w g h r _ hR).mono ?_
 rintro e w1 ⟨A, m, c, rfl, hB, _, hf, hR1, ho⟩
 have hm := hB.1
 have hm8 : m ≤ 8 := by omega
 clear hm hl
 go_wp2_with fail
 refine (number_any w1 A m c _ hB hm8).mono ?_
 rintro e w2 ⟨rfl, hb⟩
 go_wp2
 go_ret
 exact ⟨rfl, hR1.below hb, ho.trans (Only.of_below hb (fun _ => False)) (fun _ _ h => h.elim)⟩
theorem RCount_any (w : World) (g h : Nat) (r : Rd) (most : Int) (hR : RdAt 186 w g h r) (h0 : 0 ≤ most) :
  Calls Tryz.prog 108 #[.pointer (some ⟨g, 0, none⟩), .int .u64 most] w (NumPost 186 w g h (r.count most.toNat).2 (r.count most.toNat).1) := by
 have hR0 := hR
 obtain ⟨rest, err⟩ := r
 obtain ⟨A, m, c, hb, hB, hc, hA, hlt, hm⟩ := hR
 have c1 := hb.c1
 by_cases he : err = 0
 ·subst he
  have E : Hid (Rd.count ⟨rest, 0⟩ most.toNat = ((Rd.peek rest most.toNat).1, ⟨rest.drop (Rd.peek rest most.toNat).2.1, (Rd.peek rest most.toNat).2.2⟩)) := hide (by simp [Rd.count])
  have hu := peek_used rest most.toNat
  have hp := peek_any w g h ⟨rest, 0⟩ most hR0 h0
  simp only at hp
  rw [hB.1] at hu
  generalize Rd.peek rest most.toNat = p at *
  obtain ⟨N, U, X⟩ := p
  simp only at hu E
  have HA := hide hA
  obtain ⟨A', hs1, hs2, hBA, hAA⟩ := slice_from A m c U hu hc
  have HAA := hide hAA
  have HBA := hide hBA
  clear hA hAA hBA
  go_enter Tryz.func108, Tryz.ntmps108
  go_wp2_with (go_at_call 122; refine hp.mono ?_; rintro e w1 ⟨rfl, hb1⟩; have b1 := hb.under hb1; have c0' := b1.c0; have f0' := b1.frozen 0; have f1' := b1.frozen 1; have c1' := b1.c1)
  go_ret
  rw [E.out]
  have bX : Blk (w1.setCell ⟨g, 1, none⟩ (.int .i64 X)) g 186 [.slice A m c, .int .i64 X] := by simpa using b1.set_ 1 (.int .i64 X)
  have hne : 0 < m - U → (∀ ad, A' = some ad → ad.block = h) ∧ g ≠ h := fun h0 => ⟨fun ad e => by
   obtain ⟨a, ea, eb⟩ := HAA.out ad e
   rw [eb]; exact (HA.out (by omega)).1 a ea, (HA.out (by omega)).2⟩
  have hB2 : Bys (w1.setCell ⟨g, 1, none⟩ (.int .i64 X)) A' (m - U) (rest.drop U) :=
   ((HBA.out w rest hB).below hb1).keep (Only.cell1 _ _ _ _) (fun h0 ad e hg => (hne h0).2 (by rw [← (hne h0).1 ad e]; exact hg.symm))
  refine ⟨rfl, RdAt.turn bX hB2 (by omega) hne (by have := hb1.size; simp [World.setCell]; omega) (by omega), ?_⟩
  exact ((Only.of_below hb1 (fun i => i = g)).trans (Only.cell1 _ g _ _) (fun _ _ h => h)).trans (Only.cell1 _ g _ _) (fun _ _ h => h)
 ·have E : Hid (Rd.count ⟨rest, err⟩ most.toNat = (0, ⟨rest, err⟩)) := hide (by simp [Rd.count, he])
  have he' : (err != 0) = true := by simpa using he
  go_enter Tryz.func108, Tryz.ntmps108
  go_wp2
  go_ret
  rw [E.out]
  exact ⟨rfl, hR0, Only.refl _ _⟩
theorem text_raw (r : Rd) (most : Int) (he : r.err = 0) (hp : (Rd.peek r.rest (max most 0).toNat).2.2 = 0) (hl : ¬ r.rest.length - (Rd.peek r.rest (max most 0).toNat).2.1 < (Rd.peek r.rest (max most 0).toNat).1) :
  r.text most = Rd.raw ⟨r.rest.drop (Rd.peek r.rest (max most 0).toNat).2.1, 0⟩ ((Rd.peek r.rest (max most 0).toNat).1 : Int) := by
 unfold Rd.text Rd.raw
 simp only [he, hp, ne_eq, not_true_eq_false, if_false, false_or, hl]
 generalize Rd.peek r.rest (max most 0).toNat = p at *
 by_cases h0 : p.1 = 0
 ·simp [h0]
 ·have h1 : ¬ ((p.1 : Int) < 1) := by omega
  have h2 : ¬ (((r.rest.drop p.2.1).length : Int) < (p.1 : Int)) := by simp; omega
  rw [if_neg h1, if_neg h2, Int.toNat_natCast]
theorem text_cases (rest : List Int) (most : Int) (M : Nat) (hM : (max most 0).toNat = M) (N U : Nat) (X : Int) (hp : Rd.peek rest M = (N, U, X)) :
  (X ≠ 0 → Rd.text ⟨rest, 0⟩ most = ([], ⟨rest, X⟩)) ∧ (X = 0 → rest.length - U < N → Rd.text ⟨rest, 0⟩ most = ([], ⟨rest, 61⟩)) ∧
  (X = 0 → ¬ rest.length - U < N → Rd.text ⟨rest, 0⟩ most = Rd.raw ⟨rest.drop U, 0⟩ (N : Int)) := by
 refine ⟨fun h => ?_, fun h h2 => ?_, fun h h2 => ?_⟩
 ·unfold Rd.text; simp only [hM, hp, ne_eq, not_true_eq_false, if_false, h, not_false_eq_true, if_true]
 ·unfold Rd.text; simp only [hM, hp, ne_eq, not_true_eq_false, if_false, h, h2, if_true]
 ·have := text_raw ⟨rest, 0⟩ most rfl
  simp only [hM, hp] at this
  exact this h h2
theorem RText_any (w : World) (g h : Nat) (r : Rd) (most : Int) (hR : RdAt 186 w g h r) (hmost : most < 9223372036854775808) :
  Calls Tryz.prog 110 #[.pointer (some ⟨g, 0, none⟩), .int .i64 most] w (RawPost 186 w g h (r.text most).2 (r.text most).1) := by
 have hR0 := hR
 obtain ⟨rest, err⟩ := r
 obtain ⟨A, m, c, hb, hB, hc, hA, hlt, hm⟩ := hR
 have c1 := hb.c1
 by_cases he : err = 0
 ·subst he
  obtain ⟨M, hM, hw⟩ : ∃ M : Int, 0 ≤ M ∧ ((0 ≤ most ∧ M = most) ∨ (most < 0 ∧ M = 0)) := by
   by_cases h : 0 ≤ most
   ·exact ⟨most, h, .inl ⟨h, rfl⟩⟩
   ·exact ⟨0, by omega, .inr ⟨by omega, rfl⟩⟩
  have hu := peek_used rest M.toNat
  have hp := peek_any w g h ⟨rest, 0⟩ M hR0 hM
  obtain ⟨N, U, X, hpe⟩ : ∃ N U X, Rd.peek rest M.toNat = (N, U, X) := ⟨_, _, _, rfl⟩
  have htc := text_cases rest most M.toNat (by congr 1; omega) N U X hpe
  have hmx : IntKind.u64.wrap M = M := by rw [IntKind.wrap_u64]; omega
  simp only [hpe] at hp hu
  rw [hB.1] at hu htc
  have HA := hide hA
  obtain ⟨A', hs1, hs2, hBA, hAA⟩ := slice_from A m c U hu hc
  have HAA := hide hAA
  have HBA := hide hBA
  have HTC := hide htc
  clear hA hAA hBA htc hpe
  rcases hw with ⟨hw1, rfl⟩ | ⟨hw1, rfl⟩
  all_goals
   by_cases hX : X = 0
   ·subst hX
    by_cases hN : m - U < N
    ·have E := hide (HTC.out.2.1 rfl hN)
     have hgt : ((m : Int) - (U : Int)) < (N : Int) := by omega
     have hwr : IntKind.u64.wrap ((m : Int) - (U : Int)) = (m : Int) - (U : Int) := by rw [IntKind.wrap_u64]; omega
     have hd : decide ((m : Int) - (U : Int) < (N : Int)) = true := by simp; omega
     clear hs1 hs2 HTC hN
     go_enter Tryz.func110, Tryz.ntmps110
     go_wp2_with (go_at_call 122; refine hp.mono ?_; rintro e w1 ⟨rfl, hb1⟩; have b1 := hb.under hb1; have c0' := b1.c0; have f0' := b1.frozen 0; have f1' := b1.frozen 1; have c1' := b1.c1)
     go_ret
     rw [E.out]
     exact ⟨none, 0, 0, rfl, Bys.nil _ _, Nat.le_refl _, Fr.none _, RdAt.fail b1 (hB.below hb1) hc HA.out (Nat.lt_of_lt_of_le hlt hb1.size) hm, (Only.of_below hb1 (fun i => i = g)).trans (Only.cell1 _ g _ _) (fun _ _ h => h)⟩
    ·have E := hide (HTC.out.2.2 rfl hN)
     have hgt : (N : Int) ≤ (m : Int) - (U : Int) := by omega
     have hwr : IntKind.u64.wrap ((m : Int) - (U : Int)) = (m : Int) - (U : Int) := by rw [IntKind.wrap_u64]; omega
     have hwi : IntKind.i64.wrap (N : Int) = (N : Int) := by rw [IntKind.wrap_i64]; omega
     have hd : decide ((m : Int) - (U : Int) < (N : Int)) = false := by simp; omega
     clear HTC hN
     go_enter Tryz.func110, Tryz.ntmps110
     go_wp2_with (go_at_call 122; refine hp.mono ?_; rintro e w1 ⟨rfl, hb1⟩; have b1 := hb.under hb1; have c0' := b1.c0; have f0' := b1.frozen 0; have f1' := b1.frozen 1; have c1' := b1.c1)
     have hne : 0 < m - U → (∀ ad, A' = some ad → ad.block = h) ∧ g ≠ h := fun h0 => ⟨fun ad e => by
      obtain ⟨a, ea, eb⟩ := HAA.out ad e
      rw [eb]; exact (HA.out (by omega)).1 a ea, (HA.out (by omega)).2⟩
     have hR2 := RdAt.turn b1 ((HBA.out w rest hB).below hb1) (show m - U ≤ c - U by omega) hne (Nat.lt_of_lt_of_le hlt hb1.size) (by omega)
     refine (Raw_any _ g h ⟨rest.drop U, 0⟩ (N : Int) hR2).mono ?_
     rintro e w3 ⟨A4, n4, c4, rfl, hB4, hc4, hf4, hR4, ho4⟩
     have HR4 := hide hR4
     have HO4 := hide ho4
     clear hR4 ho4 hs1 hs2
     go_wp2
     go_ret
     rw [E.out]
     refine ⟨A4, n4, c4, rfl, hB4, hc4, fun ad e => ?_, HR4.out, ((Only.of_below hb1 (fun i => i = g)).trans (Only.cell1 _ g _ _) (fun _ _ h => h)).trans HO4.out (fun _ _ h => h)⟩
     have h1 := hf4 ad e
     have h2 := hb1.size
     simp [World.setCell] at h1
     omega
   ·have E := hide (HTC.out.1 hX)
    have hX1 : (X == 0) = false := by simpa using hX
    have hX2 : (X != 0) = true := by simpa using hX
    clear hs1 hs2 HTC hX
    go_enter Tryz.func110, Tryz.ntmps110
    go_wp2_with (go_at_call 122; refine hp.mono ?_; rintro e w1 ⟨rfl, hb1⟩; have b1 := hb.under hb1; have c0' := b1.c0; have f0' := b1.frozen 0; have f1' := b1.frozen 1; have c1' := b1.c1)
    go_ret
    rw [E.out]
    exact ⟨none, 0, 0, rfl, Bys.nil _ _, Nat.le_refl _, Fr.none _, RdAt.fail b1 (hB.below hb1) hc HA.out (Nat.lt_of_lt_of_le hlt hb1.size) hm, (Only.of_below hb1 (fun i => i = g)).trans (Only.cell1 _ g _ _) (fun _ _ h => h)⟩
 ·have E : Hid (Rd.text ⟨rest, err⟩ most = ([], ⟨rest, err⟩)) := hide (by simp [Rd.text, he])
  have he' : (err != 0) = true := by simpa using he
  go_enter Tryz.func110, Tryz.ntmps110
  go_wp2
  go_ret
  rw [E.out]
  exact ⟨none, 0, 0, rfl, Bys.nil _ _, Nat.le_refl _, Fr.none _, hR0, Only.refl _ _⟩
theorem reffixed_any (w0 w : World) (n k : Int) (hb : Below w0.heap.size w0 w) (hn : 0 ≤ n) (hn2 : n < 18446744073709551616) :
  Calls Tryz.prog 92 #[.int .u64 n, .int .i64 k] w (MinePost 5 w0 none (dig n.toNat (Rd.within k).toNat)) := by
 obtain ⟨n, rfl⟩ : ∃ kk : Nat, n = kk := ⟨n.toNat, by omega⟩
 obtain ⟨K, hK⟩ : ∃ K : Nat, K = (Rd.within k).toNat := ⟨_, rfl⟩
 rw [← hK]
 have hK1 : (K : Int) ≤ 8 ∧ ((K : Int) ≤ k ∨ K = 0) ∧ ((K : Int) < 8 → k ≤ K) := by rw [hK]; unfold Rd.within; omega
 have HK := hide hK1
 have k8 := hK1.1
 have hnU : U64 n := ⟨hn, hn2⟩
 clear hn2 hK hK1
 go_enter Tryz.func92, Tryz.ntmps92
 go_wp2
 go_loopw [0, 5, 6] (fun m b t wr => ∃ (j mm : Nat) (A' : Option Addr) (l' c' : Nat), j ≤ K ∧ b = .slice A' l' c' ∧ mm = n / 256 ^ j ∧ m = .int .u64 (mm : Int) ∧ t = .int .i64 j ∧ Mine 5 w0 wr A' l' c' (dig n j) ∧ Fr w0 A') (fun _ _ t _ => K - (intOf t).toNat)
 case atStart => exact ⟨0, n, _, 0, 0, by omega, rfl, by simp, rfl, rfl, Mine.nil (hb.trans (((Below.refl _ w).alloc (Nat.le_refl _) _).mono hb.size)) _, Fr.new w w0 hb.size 0⟩
 case round =>
  obtain ⟨j, m, A', l', c', hj, rfl, hm, rfl, rfl, ht, hf⟩ := hrel
  have HM := hide hm
  have m0 : (0 : Int) ≤ (m : Int) := by omega
  have hl' : l' = j := by rw [← ht.len, dig_length]
  have HL := hide hl'
  have HF := hide hf
  have hdv : IntKind.u64.wrap ((m : Int) / 256) = (m : Int) / 256 := by
   have h1 : m ≤ n := by rw [hm]; exact Nat.div_le_self _ _
   have h2 := hnU.2
   rw [IntKind.wrap_u64]; omega
  clear hm hl' hf
  by_cases hlt : j < K
  ·have hw : IntKind.u8.wrap ((m : Int) % 256) = (m : Int) % 256 := by rw [u8_wrap]; omega
   have b1 := Bys.one wr 5 ((m : Int) % 256) (by omega) (by omega)
   have d1 : decide ((j : Int) < k) = true := by have := HK.out; simp; omega
   have d2 : decide ((j : Int) < 8) = true := by have := HK.out; simp; omega
   go_wp2_with (at_builtin; refine wpList_app rfl _ _ rfl w0 A' l' c' (dig n j) (by rfl) (ht.alloc _) (some ⟨wr.heap.size, 0, none⟩) 1 1 [(m : Int) % 256] (by rfl) b1 (by rw [HL.out]; omega) ?_; intro A2 n2 c2 w2 t2 f2)
   go_wp2
   refine ⟨⟨j + 1, m / 256, A2, n2, c2, by omega, rfl, ?_, by simp, by simp, ?_, f2 (.inl HF.out)⟩, by simp [intOf]; omega⟩
   ·rw [HM.out, Nat.div_div_eq_div_mul, Nat.pow_succ]
   ·have e : ((m : Int) % 256) = ((n / 256 ^ j % 256 : Nat) : Int) := by rw [← HM.out]; omega
    rw [dig_snoc, ← e]
    exact t2
  ·obtain rfl : j = K := by omega
   by_cases h8 : (j : Int) < 8
   ·have d1 : decide ((j : Int) < k) = false := by have := HK.out; simp; omega
    go_wp2
    go_ret
    exact MinePost.mk (by simpa using ht) HF.out
   ·have d2 : decide ((j : Int) < 8) = false := by simp; omega
    by_cases hk : (j : Int) < k
    ·have d1 : decide ((j : Int) < k) = true := by simpa using hk
     go_wp2
     go_ret
     exact MinePost.mk (by simpa using ht) HF.out
    ·have d1 : decide ((j : Int) < k) = false := by simpa using hk
     go_wp2
     go_ret
     exact MinePost.mk (by simpa using ht) HF.out
theorem refcount_any (w0 w : World) (n : Int) (hb : Below w0.heap.size w0 w) (hn : 0 ≤ n) (hn2 : n < 18446744073709551616) :
  Calls Tryz.prog 56 #[.int .u64 n] w (MinePost 5 w0 none (cnt n.toNat)) := by
 have HU : U64 n := ⟨hn, hn2⟩
 clear hn2
 have one : ∀ x : Int, 0 ≤ x → x ≤ 255 → Mine 5 w0 (w.alloc (.cells #[.int .u8 x] 5)) (some ⟨w.heap.size, 0, none⟩) 1 1 [x] := fun x h0 h1 =>
  Mine.full (hb.trans (((Below.refl _ w).alloc (Nat.le_refl _) _).mono hb.size)) (Bys.one w _ x h0 h1)
 have frn : Fr w0 (some ⟨w.heap.size, 0, none⟩) := Fr.new w w0 hb.size 0
 by_cases h1 : n < 253
 ·have E := hide (cnt1 n hn h1)
  have hw : IntKind.u8.wrap n = n := by rw [u8_wrap]; omega
  have h1' : n ≤ 252 := by omega
  have M := hide (one n (by omega) (by omega))
  clear one
  go_enter Tryz.func56, Tryz.ntmps56
  go_wp2
  go_ret
  rw [E.out]
  exact MinePost.mk M.out frn
 ·by_cases h2 : n < 65536
  ·have E := hide (cnt2 n (by omega) h2)
   have t1 : decide (n ≤ 252) = false := by simp; omega
   have t2 : decide (n ≤ 65535) = true := by simp; omega
   have M := one 253 (by omega) (by omega)
   clear h1 h2 one
   go_enter Tryz.func56, Tryz.ntmps56
   go_wp2_with fail
   refine (reffixed_any _ _ n 2 (Below.refl _ _) HU.1 HU.2).mono ?_
   rintro e w3 ⟨A3, n3, c3, rfl, t3, _⟩
   have hl3 : 1 + n3 ≤ 140737488355328 := by have := t3.len; rw [dig_length] at this; simp [Rd.within] at this; omega
   have M2 := M.keep t3.below
   go_wp2_with (at_builtin; refine wpList_app rfl _ _ rfl w0 _ 1 1 [253] (by rfl) M2 A3 n3 c3 _ (by rfl) t3.bys hl3 ?_; intro A4 n4 c4 w4 t4 f4)
   go_ret
   rw [E.out]
   exact MinePost.mk t4 (f4 (.inl frn))
  ·by_cases h3 : n < 4294967296
   ·have E := hide (cnt4 n (by omega) h3)
    have t1 : decide (n ≤ 252) = false := by simp; omega
    have t2 : decide (n ≤ 65535) = false := by simp; omega
    have t3 : decide (n ≤ 4294967295) = true := by simp; omega
    have M := one 254 (by omega) (by omega)
    clear h1 h2 h3 one
    go_enter Tryz.func56, Tryz.ntmps56
    go_wp2_with fail
    refine (reffixed_any _ _ n 4 (Below.refl _ _) HU.1 HU.2).mono ?_
    rintro e w3 ⟨A3, n3, c3, rfl, t3, _⟩
    have hl3 : 1 + n3 ≤ 140737488355328 := by have := t3.len; rw [dig_length] at this; simp [Rd.within] at this; omega
    have M2 := M.keep t3.below
    go_wp2_with (at_builtin; refine wpList_app rfl _ _ rfl w0 _ 1 1 [254] (by rfl) M2 A3 n3 c3 _ (by rfl) t3.bys hl3 ?_; intro A4 n4 c4 w4 t4 f4)
    go_ret
    rw [E.out]
    exact MinePost.mk t4 (f4 (.inl frn))
   ·have E := hide (cnt8 n (by omega))
    have t1 : decide (n ≤ 252) = false := by simp; omega
    have t2 : decide (n ≤ 65535) = false := by simp; omega
    have t3 : decide (n ≤ 4294967295) = false := by simp; omega
    have M := one 255 (by omega) (by omega)
    clear h1 h2 h3 one
    go_enter Tryz.func56, Tryz.ntmps56
    go_wp2_with fail
    refine (reffixed_any _ _ n 8 (Below.refl _ _) HU.1 HU.2).mono ?_
    rintro e w3 ⟨A3, n3, c3, rfl, t3, _⟩
    have hl3 : 1 + n3 ≤ 140737488355328 := by have := t3.len; rw [dig_length] at this; simp [Rd.within] at this; omega
    have M2 := M.keep t3.below
    go_wp2_with (at_builtin; refine wpList_app rfl _ _ rfl w0 _ 1 1 [255] (by rfl) M2 A3 n3 c3 _ (by rfl) t3.bys hl3 ?_; intro A4 n4 c4 w4 t4 f4)
    go_ret
    rw [E.out]
    exact MinePost.mk t4 (f4 (.inl frn))
theorem reftext_any (w0 w : World) (A : Option Addr) (n c : Nat) (bs : List Int) (hb : Below w0.heap.size w0 w) (hB : Bys w A n bs) (hn : n ≤ 1000000000) :
  Calls Tryz.prog 57 #[.slice A n c] w (MinePost 5 w0 none (txt bs)) := by
 have hu : IntKind.u64.wrap (n : Int) = (n : Int) := by rw [IntKind.wrap_u64]; omega
 have E : Hid (txt bs = cnt n ++ bs) := hide (by rw [txt, hB.1])
 go_enter Tryz.func57, Tryz.ntmps57
 go_wp2_with fail
 refine (refcount_any w w n (Below.refl _ _) (by omega) (by omega)).mono ?_
 rintro e w3 ⟨A3, n3, c3, rfl, t3, f3⟩
 have hl3 : n3 + n ≤ 140737488355328 := by have := t3.len; have := (cnt_length (n : Int).toNat).2; omega
 go_wp2_with (at_builtin; refine wpList_app rfl _ _ rfl w A3 n3 c3 _ (by rfl) t3 A n c bs (by rfl) (t3.old hB) hl3 ?_; intro A4 n4 c4 w4 t4 f4)
 go_ret
 rw [E.out]
 exact MinePost.mk (t4.older hb) ((f4 (.inl (f3 (Fr.none _)))).older hb)
theorem slice_head (A : Option Addr) (m c U : Nat) (hU : U ≤ m) (hc : m ≤ c) : ∃ A' : Option Addr, (∀ w : World, (Instr.slice 23 (.slice A m c) none (some (.int .i64 (U : Int))) none).run Tryz.prog w = .ok (.slice A' U c) w) ∧
  (∀ w : World, (Instr.sliceAt 23 (.slice A m c) none (some (.int .i64 (U : Int))) none).run Tryz.prog w = .ok (.slice A' U c) w) ∧
  (∀ (w : World) (bs : List Int), Bys w A m bs → Bys w A' U (bs.take U)) ∧ ∀ ad', A' = some ad' → ∃ ad, A = some ad ∧ ad'.block = ad.block := by
 have hel : Tryz.prog.elem 23 = 5 := by kernel_rfl
 have hu : Tryz.prog.underlying 23 = some (.slice (Tryz.prog.elem 23)) := by rw [hel]; exact Tryz.underlying23
 have hsz : (Tryz.prog.info? 5).map (·.size) = some 1 := by kernel_rfl
 have h1 : ∀ w : World, (Instr.slice 23 (.slice A m c) none (some (.int .i64 (U : Int))) none).run Tryz.prog w = .ok (.slice (if c = 0 then A else A.map (·.add 0)) U c) w := fun w => by
  rw [run_slice_h w _ A m c hu .i64 U (by omega) (by omega), hel, run_size hsz w]
  by_cases h : c = 0
  ·simp [Result.andThen, sliced, h]
  ·simp [Result.andThen, sliced, h]
 refine ⟨if c = 0 then A else A.map (·.add 0), h1, fun w => ?_, fun w bs hB => ?_, fun ad' h => ?_⟩
 ·rw [run_sliceAt_slice w _ _ _ _ _ hu]; exact h1 w
 ·rcases Nat.eq_zero_or_pos U with h0 | h0
  ·subst h0
   exact Bys.zero _ _ _ (by simp) rfl
  ·obtain ⟨b, off, e, _⟩ := hB.2.2 (by omega)
   subst e
   have e2 : (some ⟨b, off, none⟩ : Option Addr).map (fun x => x.add 0) = some ⟨b, off, none⟩ := by simp only [Option.map_some, Addr.add_mid, Nat.add_zero]
   rw [if_neg (by omega), e2]
   exact hB.head U hU
 ·by_cases h2 : c = 0
  ·rw [if_pos h2] at h; exact ⟨ad', h, rfl⟩
  ·rw [if_neg h2] at h
   cases A with
   | none => cases h
   | some a =>
    injection h with h
    refine ⟨a, rfl, ?_⟩
    rw [← h]
    show (a.add 0).block = a.block
    unfold Addr.add
    repeat' split
    all_goals rfl
theorem pow_facts (j N x : Nat) (hj : j < 8) (hN : N < 256 ^ j) (hx : x ≤ 255) :
  IntKind.u64.wrap ((x : Int) * ((256 ^ j : Nat) : Int)) = ((x * 256 ^ j : Nat) : Int) ∧ IntKind.u64.wrap ((N : Int) + ((x * 256 ^ j : Nat) : Int)) = ((N + x * 256 ^ j : Nat) : Int) ∧
  IntKind.u64.wrap (((256 ^ j : Nat) : Int) * 256) = ((256 ^ (j + 1) % 18446744073709551616 : Nat) : Int) := by
 have h1 : x * 256 ^ j ≤ 255 * 256 ^ j := Nat.mul_le_mul_right _ hx
 have h2 : 256 ^ (j + 1) ≤ 256 ^ 8 := Nat.pow_le_pow_right (by decide) (by omega)
 have h3 : (256 : Nat) ^ (j + 1) = 256 * 256 ^ j := by rw [Nat.pow_succ, Nat.mul_comm]
 have h4 : (256 : Nat) ^ 8 = 18446744073709551616 := by decide
 generalize hP : 256 ^ j = P at *
 have e1 : (x : Int) * (P : Int) = ((x * P : Nat) : Int) := by simp
 refine ⟨?_, ?_, ?_⟩
 ·rw [e1, IntKind.wrap_u64]
  generalize x * P = y at *
  omega
 ·rw [IntKind.wrap_u64]
  generalize x * P = y at *
  omega
 ·rw [IntKind.wrap_u64, h3]
  omega
theorem num_take_succ (bs : List Int) (j : Nat) (x : Int) (hx : bs[j]? = some x) : num (bs.take (j + 1)) = num (bs.take j) + x.toNat * 256 ^ j := by
 have hj : j < bs.length := (List.getElem?_eq_some_iff.1 hx).1
 rw [List.take_add_one, hx, num_append, List.length_take, Nat.min_eq_left (by omega)]
 simp only [Option.toList, num, Nat.mul_zero, Nat.add_zero]
 rw [Nat.mul_comm]
theorem refnumber_any (w : World) (A : Option Addr) (n cap : Nat) (bs : List Int) (hB : Bys w A n bs) (hl : n ≤ 8) :
  Calls Tryz.prog 101 #[.slice A n cap] w fun e w' => e = .returned (.int .u64 (num bs)) ∧ w = w' := by
 have HL := hide hB.1
 go_enter Tryz.func101, Tryz.ntmps101
 go_wp2
 go_loop [3, 4, 9] (fun s q i => ∃ j N W : Nat, j ≤ n ∧ i = .int .i64 j ∧ s = .int .u64 (N : Int) ∧ q = .int .u64 (W : Int) ∧ N = num (bs.take j) ∧ W = 256 ^ j % 18446744073709551616) (fun _ _ i => n - (intOf i).toNat)
 case atStart => exact ⟨0, 0, 1, by omega, rfl, rfl, rfl, by simp [num], by decide⟩
 case round =>
  obtain ⟨j, N, W, hj, rfl, rfl, rfl, hN, hW⟩ := hrel
  by_cases hlt : j < n
  ·obtain ⟨b, off, rfl, hc⟩ := hB.2.2 (by omega)
   obtain ⟨x, hx⟩ : ∃ x, bs[j]? = some x := ⟨_, List.getElem?_eq_getElem (by rw [HL.out]; exact hlt)⟩
   have cx := hc j x hx
   have hxx := hB.2.1 x (List.mem_of_getElem? hx)
   obtain ⟨x, rfl⟩ : ∃ y : Nat, x = y := ⟨x.toNat, by omega⟩
   have hs := num_take_succ bs j x hx
   have hNl : N < 256 ^ j := by
    have := num_lt (bs.take j) (fun y hy => hB.2.1 y (List.mem_of_mem_take hy))
    rw [List.length_take, Nat.min_eq_left (by have := HL.out; omega)] at this
    omega
   have hP : 256 ^ j < 18446744073709551616 := Nat.lt_of_le_of_lt (Nat.pow_le_pow_right (by decide) (show j ≤ 7 by omega)) (by decide)
   have hW' : W = 256 ^ j := by rw [hW, Nat.mod_eq_of_lt hP]
   obtain ⟨p1, p2, p3⟩ := pow_facts j N x (by omega) hNl (by omega)
   rw [← hW'] at p1 p2 p3
   have hu : IntKind.u64.wrap (x : Int) = (x : Int) := by rw [IntKind.wrap_u64]; omega
   rw [Int.toNat_natCast, ← hN, ← hW'] at hs
   generalize hy : x * W = y at *
   generalize hz : 256 ^ (j + 1) % 18446744073709551616 = z at *
   have HS := hide hs
   have HZ := hide hz
   clear hs hz hy hW' hP hNl hxx hx hc hN hW hB
   go_wp2
   exact ⟨⟨j + 1, N + y, z, by omega, by simp, by simp, rfl, HS.out.symm, HZ.out.symm⟩, by simp [intOf]; omega⟩
  ·obtain rfl : j = n := by omega
   rw [List.take_of_length_le (by rw [HL.out]; exact Nat.le_refl _)] at hN
   have HN := hide hN
   clear hN hW
   go_wp2
   go_ret
   exact ⟨by rw [← HN.out]; rfl, rfl⟩
theorem reftake_any (w : World) (g h : Nat) (r : Rd) (k : Nat) (hR : RdAt 135 w g h r) (hk : k ≤ r.rest.length) :
  Calls Tryz.prog 102 #[.pointer (some ⟨g, 0, none⟩), .int .i64 (k : Int)] w (RawPost 135 w g h ⟨r.rest.drop k, r.err⟩ (r.rest.take k)) := by
 obtain ⟨rest, err⟩ := r
 obtain ⟨A, m, c, hb, hB, hc, hA, hlt, hm⟩ := hR
 have c0 := hb.c0
 simp only [hB.1] at hk
 have HA := hide hA
 obtain ⟨A', hs1, hs2, hBA, hAA⟩ := slice_from A m c k hk hc
 obtain ⟨A2, hs3, hs4, hBA2, _⟩ := slice_head A m c k hk hc
 have HAA := hide hAA
 have HBA := hide hBA
 have B2 := hBA2 w rest hB
 have ca := (hb.alloc (.cells #[] 5)).c0
 clear hA hAA hBA hBA2
 go_enter Tryz.func102, Tryz.ntmps102
 go_wp2_with (at_builtin; refine wpList_app rfl _ _ rfl w _ 0 0 [] (by rfl) (Mine.nil ((Below.refl _ w).alloc (Nat.le_refl _) _) _) A2 k c (rest.take k) (by rfl) (B2.alloc _) (by omega) ?_; intro A1 n1 c1 w1 t1 f1; have b1 := hb.under t1.below; have c0' := b1.c0; have f0' := b1.frozen 0)
 go_ret
 have hf := f1 (.inl (Fr.new w w (Nat.le_refl _) 0))
 have hlg := hb.lt
 have hsz := t1.below.size
 have hne : 0 < m - k → (∀ ad, A' = some ad → ad.block = h) ∧ g ≠ h := fun h0 => ⟨fun ad e => by
  obtain ⟨a, ea, eb⟩ := HAA.out ad e
  rw [eb]; exact (HA.out (by omega)).1 a ea, (HA.out (by omega)).2⟩
 refine ⟨A1, n1, c1, rfl, t1.bys.keep (Only.cell1 _ _ _ _) (fun _ ad e hg => by have := hf ad e; omega), t1.cap, hf, RdAt.turn b1 ((HBA.out w rest hB).below t1.below) (by omega) hne (by omega) (by omega), (Only.of_below t1.below _).trans (Only.cell1 _ _ _ _) (fun _ _ h => h)⟩
theorem refraw_any (w : World) (g h : Nat) (r : Rd) (n : Int) (hR : RdAt 135 w g h r) :
  Calls Tryz.prog 103 #[.pointer (some ⟨g, 0, none⟩), .int .i64 n] w (RawPost 135 w g h (r.raw n).2 (r.raw n).1) := by
 obtain ⟨rest, err⟩ := r
 have hR0 := hR
 obtain ⟨A, m, c, hb, hB, hc, hA, hlt, hm⟩ := hR
 have c0 := hb.c0
 have c1 := hb.c1
 have f1 := hb.frozen 1
 have HL := hide hB.1
 have HA := hide hA
 clear hA
 have fin : ∀ (w' : World) (r' : Rd), RdAt 135 w' g h r' → Only (fun i => i = g) w w' → RawPost 135 w g h r' [] (.returned (.slice (some ⟨w'.heap.size, 0, none⟩) 0 0)) (w'.alloc (.cells #[] 5)) := fun w' r' hr ho =>
  ⟨_, 0, 0, rfl, Bys.nil _ _, Nat.le_refl _, Fr.new _ _ ho.size 0, hr.below ((Below.refl _ _).alloc (Nat.le_refl _) _), ho.alloc _⟩
 have FIN := hide fin
 clear fin
 by_cases he : err = 0
 ·subst he
  by_cases h1 : n < 1
  ·have E : Hid (Rd.raw ⟨rest, 0⟩ n = ([], ⟨rest, 0⟩)) := hide (by simp [Rd.raw, h1])
   go_enter Tryz.func103, Tryz.ntmps103
   go_wp2
   go_ret
   rw [E.out]
   exact FIN.out _ _ hR0 (Only.refl _ _)
  ·by_cases h2 : (m : Int) < n
   ·have E : Hid (Rd.raw ⟨rest, 0⟩ n = ([], ⟨rest, 61⟩)) := hide (by simp [Rd.raw, h1, HL.out, h2])
    have n0 : 0 ≤ n := by omega
    go_enter Tryz.func103, Tryz.ntmps103
    go_wp2
    go_ret
    rw [E.out]
    have hx := FIN.out _ ⟨rest, 61⟩ (RdAt.fail hb hB hc HA.out hlt hm) (Only.cell1 _ _ _ _)
    simpa [World.setCell] using hx
   ·obtain ⟨k, rfl⟩ : ∃ k : Nat, n = k := ⟨n.toNat, by omega⟩
    have E : Hid (Rd.raw ⟨rest, 0⟩ k = (rest.take k, ⟨rest.drop k, 0⟩)) := hide (by simp [Rd.raw, h1, HL.out, h2])
    have hn0 : 1 ≤ (k : Int) := by omega
    have hk : (k : Int) ≤ (m : Int) := by omega
    clear h1 h2
    go_enter Tryz.func103, Tryz.ntmps103
    go_wp2_with fail
    refine (reftake_any w g h ⟨rest, 0⟩ k hR0 (by have := HL.out; simp only; omega)).mono ?_
    rintro e w1 ⟨A1, n1, c1, rfl, h1, h2, h3, h4, h5⟩
    have H4 := hide h4
    have H5 := hide h5
    clear h4 h5
    go_wp2
    go_ret
    rw [E.out]
    exact ⟨A1, n1, c1, rfl, h1, h2, h3, H4.out, H5.out⟩
 ·have E : Hid (Rd.raw ⟨rest, err⟩ n = ([], ⟨rest, err⟩)) := hide (by simp [Rd.raw, he])
  have he' : (err != 0) = true := by simpa using he
  go_enter Tryz.func103, Tryz.ntmps103
  go_wp2
  go_ret
  rw [E.out]
  exact FIN.out _ _ hR0 (Only.refl _ _)
theorem reffixedof_any (w : World) (g h : Nat) (r : Rd) (n : Int) (hR : RdAt 135 w g h r) :
  Calls Tryz.prog 72 #[.pointer (some ⟨g, 0, none⟩), .int .i64 n] w (NumPost 135 w g h (r.fixed n).2 (r.fixed n).1) := by
 have hl := hide (raw_length r (Rd.within n) 8 (within_range n).2)
 obtain ⟨W, hW⟩ : ∃ W, W = Rd.within n := ⟨_, rfl⟩
 have E : Hid (r.fixed n = (num (r.raw W).1, (r.raw W).2)) := hide (by rw [hW]; rfl)
 rw [← hW] at hl
 have hcs : (8 < n ∧ W = 8) ∨ (1 ≤ n ∧ n ≤ 8 ∧ W = n) ∨ (n ≤ 0 ∧ W = 0) := by rw [hW]; unfold Rd.within; omega
 clear hW
 rcases hcs with ⟨h1, rfl⟩ | ⟨h1, h2, rfl⟩ | ⟨h1, rfl⟩
 all_goals
  go_enter Tryz.func72, Tryz.ntmps72
  go_wp2_with fail
  refine (refraw_any w g h r _ hR).mono ?_
  rintro e w1 ⟨A, m, c, rfl, hB, _, hf, hR1, ho⟩
  have hm8 : m ≤ 8 := by have := hl.out; have := hB.1; omega
  have HR1 := hide hR1
  have HO := hide ho
  clear hR1 ho
  go_wp2_with fail
  refine (refnumber_any w1 A m c _ hB hm8).mono ?_
  rintro e w2 ⟨rfl, rfl⟩
  go_wp2
  go_ret
  rw [E.out]
  exact ⟨rfl, HR1.out, HO.out⟩
end Go.Proofs.YtjnpkcabkccaoaaGreat
