/-
  The document's reader: number, take, Raw, FixedOf.
-/
import Derived.Test.YtfloclamdpageaaRefSixA
namespace Go.Proofs.Ytfloclamdpageaa
open Go.RowKit

/-- A slice's head, whatever its address is. -/
theorem slice_head (A : Option Addr) (m c U : Nat) (hU : U ≤ m) (hc : m ≤ c) : ∃ A' : Option Addr, (∀ w : World, (Instr.slice 22 (.slice A m c) none (some (.int .i64 (U : Int))) none).run Try.prog w = .ok (.slice A' U c) w) ∧
    (∀ w : World, (Instr.sliceAt 22 (.slice A m c) none (some (.int .i64 (U : Int))) none).run Try.prog w = .ok (.slice A' U c) w) ∧
    (∀ (w : World) (bs : List Int), Bys w A m bs → Bys w A' U (bs.take U)) ∧ ∀ ad', A' = some ad' → ∃ ad, A = some ad ∧ ad'.block = ad.block := by
  have hel : Try.prog.elem 22 = 5 := by kernel_rfl
  have hu : Try.prog.underlying 22 = some (.slice (Try.prog.elem 22)) := by rw [hel]; exact Try.underlying22
  have hsz : (Try.prog.info? 5).map (·.size) = some 1 := by kernel_rfl
  have h1 : ∀ w : World, (Instr.slice 22 (.slice A m c) none (some (.int .i64 (U : Int))) none).run Try.prog w = .ok (.slice (if c = 0 then A else A.map (·.add 0)) U c) w := fun w => by
    rw [run_slice_h w _ A m c hu .i64 U (by omega) (by omega), hel, run_size hsz w]
    by_cases h : c = 0
    · simp [Result.andThen, sliced, h]
    · simp [Result.andThen, sliced, h]
  refine ⟨if c = 0 then A else A.map (·.add 0), h1, fun w => ?_, fun w bs hB => ?_, fun ad' h => ?_⟩
  · rw [run_sliceAt_slice w _ _ _ _ _ hu]; exact h1 w
  · rcases Nat.eq_zero_or_pos U with h0 | h0
    · subst h0
      exact Bys.zero _ _ _ (by simp) rfl
    · obtain ⟨b, off, e, _⟩ := hB.2.2 (by omega)
      subst e
      have e2 : (some ⟨b, off, none⟩ : Option Addr).map (fun x => x.add 0) = some ⟨b, off, none⟩ := by simp only [Option.map_some, Addr.add_mid, Nat.add_zero]
      rw [if_neg (by omega), e2]
      exact hB.head U hU
  · by_cases h2 : c = 0
    · rw [if_pos h2] at h; exact ⟨ad', h, rfl⟩
    · rw [if_neg h2] at h
      cases A with
      | none => cases h
      | some a =>
        injection h with h
        refine ⟨a, rfl, ?_⟩
        rw [← h]
        show (a.add 0).block = a.block
        unfold Addr.add
        repeat' split
        all_goals rfl
theorem pow_facts (j N x : Nat) (hj : j < 8) (hN : N < 256 ^ j) (hx : x ≤ 255) :
    IntKind.u64.wrap ((x : Int) * ((256 ^ j : Nat) : Int)) = ((x * 256 ^ j : Nat) : Int) ∧ IntKind.u64.wrap ((N : Int) + ((x * 256 ^ j : Nat) : Int)) = ((N + x * 256 ^ j : Nat) : Int) ∧
    IntKind.u64.wrap (((256 ^ j : Nat) : Int) * 256) = ((256 ^ (j + 1) % 18446744073709551616 : Nat) : Int) := by
  have h1 : x * 256 ^ j ≤ 255 * 256 ^ j := Nat.mul_le_mul_right _ hx
  have h2 : 256 ^ (j + 1) ≤ 256 ^ 8 := Nat.pow_le_pow_right (by decide) (by omega)
  have h3 : (256 : Nat) ^ (j + 1) = 256 * 256 ^ j := by rw [Nat.pow_succ, Nat.mul_comm]
  have h4 : (256 : Nat) ^ 8 = 18446744073709551616 := by decide
  generalize hP : 256 ^ j = P at *
  have e1 : (x : Int) * (P : Int) = ((x * P : Nat) : Int) := by simp
  refine ⟨?_, ?_, ?_⟩
  · rw [e1, IntKind.wrap_u64]
    generalize x * P = y at *
    omega
  · rw [IntKind.wrap_u64]
    generalize x * P = y at *
    omega
  · rw [IntKind.wrap_u64, h3]
    omega
theorem num_take_succ (bs : List Int) (j : Nat) (x : Int) (hx : bs[j]? = some x) : num (bs.take (j + 1)) = num (bs.take j) + x.toNat * 256 ^ j := by
  have hj : j < bs.length := (List.getElem?_eq_some_iff.1 hx).1
  rw [List.take_add_one, hx, num_append, List.length_take, Nat.min_eq_left (by omega)]
  simp only [Option.toList, num, Nat.mul_zero, Nat.add_zero]
  rw [Nat.mul_comm]
set_option maxHeartbeats 1000000 in
set_option maxRecDepth 100000 in
theorem refnumber_any (w : World) (A : Option Addr) (n cap : Nat) (bs : List Int) (hB : Bys w A n bs) (hl : n ≤ 8) :
    Calls Try.prog 89 #[.slice A n cap] w fun e w' => e = .returned (.int .u64 (num bs)) ∧ w = w' := by
  have HL := hide hB.1
  go_enter Try.func89, Try.ntmps89
  go_wp2
  go_loop [3, 4, 9] (fun s q i => ∃ j N W : Nat, j ≤ n ∧ i = .int .i64 j ∧ s = .int .u64 (N : Int) ∧ q = .int .u64 (W : Int) ∧ N = num (bs.take j) ∧ W = 256 ^ j % 18446744073709551616) (fun _ _ i => n - (intOf i).toNat)
  case atStart => exact ⟨0, 0, 1, by omega, rfl, rfl, rfl, by simp [num], by decide⟩
  case round =>
    obtain ⟨j, N, W, hj, rfl, rfl, rfl, hN, hW⟩ := hrel
    by_cases hlt : j < n
    · obtain ⟨b, off, rfl, hc⟩ := hB.2.2 (by omega)
      obtain ⟨x, hx⟩ : ∃ x, bs[j]? = some x := ⟨_, List.getElem?_eq_getElem (by rw [HL.out]; exact hlt)⟩
      have cx := hc j x hx
      have hxx := hB.2.1 x (List.mem_of_getElem? hx)
      obtain ⟨x, rfl⟩ : ∃ y : Nat, x = y := ⟨x.toNat, by omega⟩
      have hs := num_take_succ bs j x hx
      have hNl : N < 256 ^ j := by
        have := num_lt (bs.take j) (fun y hy => hB.2.1 y (List.mem_of_mem_take hy))
        rw [List.length_take, Nat.min_eq_left (by have := HL.out; omega)] at this
        omega
      have hP : 256 ^ j < 18446744073709551616 := Nat.lt_of_le_of_lt (Nat.pow_le_pow_right (by decide) (show j ≤ 7 by omega)) (by decide)
      have hW' : W = 256 ^ j := by rw [hW, Nat.mod_eq_of_lt hP]
      obtain ⟨p1, p2, p3⟩ := pow_facts j N x (by omega) hNl (by omega)
      rw [← hW'] at p1 p2 p3
      have hu : IntKind.u64.wrap (x : Int) = (x : Int) := by rw [IntKind.wrap_u64]; omega
      rw [Int.toNat_natCast, ← hN, ← hW'] at hs
      generalize hy : x * W = y at *
      generalize hz : 256 ^ (j + 1) % 18446744073709551616 = z at *
      have HS := hide hs
      have HZ := hide hz
      clear hs hz hy hW' hP hNl hxx hx hc hN hW hB
      go_wp2
      exact ⟨⟨j + 1, N + y, z, by omega, by simp, by simp, rfl, HS.out.symm, HZ.out.symm⟩, by simp [intOf]; omega⟩
    · obtain rfl : j = n := by omega
      rw [List.take_of_length_le (by rw [HL.out]; exact Nat.le_refl _)] at hN
      have HN := hide hN
      clear hN hW
      go_wp2
      go_ret
      exact ⟨by rw [← HN.out]; rfl, rfl⟩
set_option maxHeartbeats 1000000 in
set_option maxRecDepth 100000 in
theorem reftake_any (w : World) (g h : Nat) (r : Rd) (k : Nat) (hR : RdAt 55 w g h r) (hk : k ≤ r.rest.length) :
    Calls Try.prog 88 #[.pointer (some ⟨g, 0, none⟩), .int .i64 (k : Int)] w (RawPost 55 w g h ⟨r.rest.drop k, r.err⟩ (r.rest.take k)) := by
  obtain ⟨rest, err⟩ := r
  obtain ⟨A, m, c, hb, hB, hc, hA, hlt, hm⟩ := hR
  have c0 := hb.c0
  simp only [hB.1] at hk
  have HA := hide hA
  obtain ⟨A', hs1, hs2, hBA, hAA⟩ := slice_from A m c k hk hc
  obtain ⟨A2, hs3, hs4, hBA2, _⟩ := slice_head A m c k hk hc
  have HAA := hide hAA
  have HBA := hide hBA
  have B2 := hBA2 w rest hB
  have ca := (hb.alloc (.cells #[] 5)).c0
  clear hA hAA hBA hBA2
  go_enter Try.func88, Try.ntmps88
  go_wp2_with (at_builtin; refine wpList_app rfl _ _ rfl w _ 0 0 [] (by rfl) (Mine.nil ((Below.refl _ w).alloc (Nat.le_refl _) _) _) A2 k c (rest.take k) (by rfl) (B2.alloc _) (by omega) ?_; intro A1 n1 c1 w1 t1 f1; have b1 := hb.under t1.below; have c0' := b1.c0; have f0' := b1.frozen 0)
  go_ret
  have hf := f1 (.inl (Fr.new w w (Nat.le_refl _) 0))
  have hlg := hb.lt
  have hsz := t1.below.size
  have hne : 0 < m - k → (∀ ad, A' = some ad → ad.block = h) ∧ g ≠ h := fun h0 => ⟨fun ad e => by
    obtain ⟨a, ea, eb⟩ := HAA.out ad e
    rw [eb]; exact (HA.out (by omega)).1 a ea, (HA.out (by omega)).2⟩
  refine ⟨A1, n1, c1, rfl, t1.bys.keep (Only.cell1 _ _ _ _) (fun _ ad e hg => by have := hf ad e; omega), t1.cap, hf, RdAt.turn b1 ((HBA.out w rest hB).below t1.below) (by omega) hne (by omega) (by omega), (Only.of_below t1.below _).trans (Only.cell1 _ _ _ _) (fun _ _ h => h)⟩
set_option maxHeartbeats 1000000 in
set_option maxRecDepth 100000 in
theorem refraw_any (w : World) (g h : Nat) (r : Rd) (n : Int) (hR : RdAt 55 w g h r) :
    Calls Try.prog 70 #[.pointer (some ⟨g, 0, none⟩), .int .i64 n] w (RawPost 55 w g h (r.raw n).2 (r.raw n).1) := by
  obtain ⟨rest, err⟩ := r
  have hR0 := hR
  obtain ⟨A, m, c, hb, hB, hc, hA, hlt, hm⟩ := hR
  have c0 := hb.c0
  have c1 := hb.c1
  have f1 := hb.frozen 1
  have HL := hide hB.1
  have HA := hide hA
  clear hA
  have fin : ∀ (w' : World) (r' : Rd), RdAt 55 w' g h r' → Only (fun i => i = g) w w' → RawPost 55 w g h r' [] (.returned (.slice (some ⟨w'.heap.size, 0, none⟩) 0 0)) (w'.alloc (.cells #[] 5)) := fun w' r' hr ho =>
    ⟨_, 0, 0, rfl, Bys.nil _ _, Nat.le_refl _, Fr.new _ _ ho.size 0, hr.below ((Below.refl _ _).alloc (Nat.le_refl _) _), ho.alloc _⟩
  have FIN := hide fin
  clear fin
  by_cases he : err = 0
  · subst he
    by_cases h1 : n < 1
    · have E : Hid (Rd.raw ⟨rest, 0⟩ n = ([], ⟨rest, 0⟩)) := hide (by simp [Rd.raw, h1])
      go_enter Try.func70, Try.ntmps70
      go_wp2
      go_ret
      rw [E.out]
      exact FIN.out _ _ hR0 (Only.refl _ _)
    · by_cases h2 : (m : Int) < n
      · have E : Hid (Rd.raw ⟨rest, 0⟩ n = ([], ⟨rest, 61⟩)) := hide (by simp [Rd.raw, h1, HL.out, h2])
        have n0 : 0 ≤ n := by omega
        go_enter Try.func70, Try.ntmps70
        go_wp2
        go_ret
        rw [E.out]
        have hx := FIN.out _ ⟨rest, 61⟩ (RdAt.fail hb hB hc HA.out hlt hm) (Only.cell1 _ _ _ _)
        simpa [World.setCell] using hx
      · obtain ⟨k, rfl⟩ : ∃ k : Nat, n = k := ⟨n.toNat, by omega⟩
        have E : Hid (Rd.raw ⟨rest, 0⟩ k = (rest.take k, ⟨rest.drop k, 0⟩)) := hide (by simp [Rd.raw, h1, HL.out, h2])
        have hn0 : 1 ≤ (k : Int) := by omega
        have hk : (k : Int) ≤ (m : Int) := by omega
        clear h1 h2
        go_enter Try.func70, Try.ntmps70
        go_wp2_with fail
        refine (reftake_any w g h ⟨rest, 0⟩ k hR0 (by have := HL.out; simp only; omega)).mono ?_
        rintro e w1 ⟨A1, n1, c1, rfl, h1, h2, h3, h4, h5⟩
        have H4 := hide h4
        have H5 := hide h5
        clear h4 h5
        go_wp2
        go_ret
        rw [E.out]
        exact ⟨A1, n1, c1, rfl, h1, h2, h3, H4.out, H5.out⟩
  · have E : Hid (Rd.raw ⟨rest, err⟩ n = ([], ⟨rest, err⟩)) := hide (by simp [Rd.raw, he])
    have he' : (err != 0) = true := by simpa using he
    go_enter Try.func70, Try.ntmps70
    go_wp2
    go_ret
    rw [E.out]
    exact FIN.out _ _ hR0 (Only.refl _ _)
set_option maxHeartbeats 1000000 in
set_option maxRecDepth 100000 in
theorem reffixedof_any (w : World) (g h : Nat) (r : Rd) (n : Int) (hR : RdAt 55 w g h r) :
    Calls Try.prog 71 #[.pointer (some ⟨g, 0, none⟩), .int .i64 n] w (NumPost 55 w g h (r.fixed n).2 (r.fixed n).1) := by
  have hl := hide (raw_length r (Rd.within n) 8 (within_range n).2)
  obtain ⟨W, hW⟩ : ∃ W, W = Rd.within n := ⟨_, rfl⟩
  have E : Hid (r.fixed n = (num (r.raw W).1, (r.raw W).2)) := hide (by rw [hW]; rfl)
  rw [← hW] at hl
  have hcs : (8 < n ∧ W = 8) ∨ (1 ≤ n ∧ n ≤ 8 ∧ W = n) ∨ (n ≤ 0 ∧ W = 0) := by rw [hW]; unfold Rd.within; omega
  clear hW
  rcases hcs with ⟨h1, rfl⟩ | ⟨h1, h2, rfl⟩ | ⟨h1, rfl⟩
  all_goals
    go_enter Try.func71, Try.ntmps71
    go_wp2_with fail
    refine (refraw_any w g h r _ hR).mono ?_
    rintro e w1 ⟨A, m, c, rfl, hB, _, hf, hR1, ho⟩
    have hm8 : m ≤ 8 := by have := hl.out; have := hB.1; omega
    have HR1 := hide hR1
    have HO := hide ho
    clear hR1 ho
    go_wp2_with fail
    refine (refnumber_any w1 A m c _ hB hm8).mono ?_
    rintro e w2 ⟨rfl, rfl⟩
    go_wp2
    go_ret
    rw [E.out]
    exact ⟨rfl, HR1.out, HO.out⟩
end Go.Proofs.Ytfloclamdpageaa
