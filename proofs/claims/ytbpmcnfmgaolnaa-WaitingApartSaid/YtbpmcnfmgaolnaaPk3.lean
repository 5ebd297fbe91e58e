import Derived.Test.YtbpmcnfmgaolnaaPk2
import Derived.Laws.BytesString
/-
  The document's numbers and texts as bytes: Fixed, Count, Text, number.
-/
namespace Go.Proofs.Ytbpmcnfmgaolnaa
open Go.RowKit

set_option maxHeartbeats 1000000 in
set_option maxRecDepth 100000 in
theorem reffixed_any (w0 w : World) (n k : Int) (hb : Below w0.heap.size w0 w) (hn : 0 ≤ n) (hn2 : n < 18446744073709551616) :
    Calls Try.prog 88 #[.int .u64 n, .int .i64 k] w (MinePost 5 w0 none (dig n.toNat (Rd.within k).toNat)) := by
  obtain ⟨n, rfl⟩ : ∃ kk : Nat, n = kk := ⟨n.toNat, by omega⟩
  obtain ⟨K, hK⟩ : ∃ K : Nat, K = (Rd.within k).toNat := ⟨_, rfl⟩
  rw [← hK]
  have hK1 : (K : Int) ≤ 8 ∧ ((K : Int) ≤ k ∨ K = 0) ∧ ((K : Int) < 8 → k ≤ K) := by rw [hK]; unfold Rd.within; omega
  have HK := hide hK1
  have k8 := hK1.1
  have hnU : U64 n := ⟨hn, hn2⟩
  clear hn2 hK hK1
  go_enter Try.func88, Try.ntmps88
  go_wp2
  go_loopw [0, 5, 6] (fun m b t wr => ∃ (j mm : Nat) (A' : Option Addr) (l' c' : Nat), j ≤ K ∧ b = .slice A' l' c' ∧ mm = n / 256 ^ j ∧ m = .int .u64 (mm : Int) ∧ t = .int .i64 j ∧ Mine 5 w0 wr A' l' c' (dig n j) ∧ Fr w0 A') (fun _ _ t _ => K - (intOf t).toNat)
  case atStart => exact ⟨0, n, _, 0, 0, by omega, rfl, by simp, rfl, rfl, Mine.nil (hb.trans (((Below.refl _ w).alloc (Nat.le_refl _) _).mono hb.size)) _, Fr.new w w0 hb.size 0⟩
  case round =>
    obtain ⟨j, m, A', l', c', hj, rfl, hm, rfl, rfl, ht, hf⟩ := hrel
    have HM := hide hm
    have m0 : (0 : Int) ≤ (m : Int) := by omega
    have hl' : l' = j := by rw [← ht.len, dig_length]
    have HL := hide hl'
    have HF := hide hf
    have hdv : IntKind.u64.wrap ((m : Int) / 256) = (m : Int) / 256 := by
      have h1 : m ≤ n := by rw [hm]; exact Nat.div_le_self _ _
      have h2 := hnU.2
      rw [IntKind.wrap_u64]; omega
    clear hm hl' hf
    by_cases hlt : j < K
    · have hw : IntKind.u8.wrap ((m : Int) % 256) = (m : Int) % 256 := by rw [u8_wrap]; omega
      have b1 := Bys.one wr 5 ((m : Int) % 256) (by omega) (by omega)
      have d1 : decide ((j : Int) < k) = true := by have := HK.out; simp; omega
      have d2 : decide ((j : Int) < 8) = true := by have := HK.out; simp; omega
      go_wp2_with (at_builtin; refine wpList_app rfl _ _ rfl w0 A' l' c' (dig n j) (by rfl) (ht.alloc _) (some ⟨wr.heap.size, 0, none⟩) 1 1 [(m : Int) % 256] (by rfl) b1 (by rw [HL.out]; omega) ?_; intro A2 n2 c2 w2 t2 f2)
      go_wp2
      refine ⟨⟨j + 1, m / 256, A2, n2, c2, by omega, rfl, ?_, by simp, by simp, ?_, f2 (.inl HF.out)⟩, by simp [intOf]; omega⟩
      · rw [HM.out, Nat.div_div_eq_div_mul, Nat.pow_succ]
      · have e : ((m : Int) % 256) = ((n / 256 ^ j % 256 : Nat) : Int) := by rw [← HM.out]; omega
        rw [dig_snoc, ← e]
        exact t2
    · obtain rfl : j = K := by omega
      by_cases h8 : (j : Int) < 8
      · have d1 : decide ((j : Int) < k) = false := by have := HK.out; simp; omega
        go_wp2
        go_ret
        exact MinePost.mk (by simpa using ht) HF.out
      · have d2 : decide ((j : Int) < 8) = false := by simp; omega
        by_cases hk : (j : Int) < k
        · have d1 : decide ((j : Int) < k) = true := by simpa using hk
          go_wp2
          go_ret
          exact MinePost.mk (by simpa using ht) HF.out
        · have d1 : decide ((j : Int) < k) = false := by simpa using hk
          go_wp2
          go_ret
          exact MinePost.mk (by simpa using ht) HF.out
set_option maxHeartbeats 1000000 in
set_option maxRecDepth 100000 in
theorem refcount_any (w0 w : World) (n : Int) (hb : Below w0.heap.size w0 w) (hn : 0 ≤ n) (hn2 : n < 18446744073709551616) :
    Calls Try.prog 71 #[.int .u64 n] w (MinePost 5 w0 none (cnt n.toNat)) := by
  have HU : U64 n := ⟨hn, hn2⟩
  clear hn2
  have one : ∀ x : Int, 0 ≤ x → x ≤ 255 → Mine 5 w0 (w.alloc (.cells #[.int .u8 x] 5)) (some ⟨w.heap.size, 0, none⟩) 1 1 [x] := fun x h0 h1 =>
    Mine.full (hb.trans (((Below.refl _ w).alloc (Nat.le_refl _) _).mono hb.size)) (Bys.one w _ x h0 h1)
  have frn : Fr w0 (some ⟨w.heap.size, 0, none⟩) := Fr.new w w0 hb.size 0
  by_cases h1 : n < 253
  · have E := hide (cnt1 n hn h1)
    have hw : IntKind.u8.wrap n = n := by rw [u8_wrap]; omega
    have h1' : n ≤ 252 := by omega
    have M := hide (one n (by omega) (by omega))
    clear one
    go_enter Try.func71, Try.ntmps71
    go_wp2
    go_ret
    rw [E.out]
    exact MinePost.mk M.out frn
  · by_cases h2 : n < 65536
    · have E := hide (cnt2 n (by omega) h2)
      have t1 : decide (n ≤ 252) = false := by simp; omega
      have t2 : decide (n ≤ 65535) = true := by simp; omega
      have M := one 253 (by omega) (by omega)
      clear h1 h2 one
      go_enter Try.func71, Try.ntmps71
      go_wp2_with fail
      refine (reffixed_any _ _ n 2 (Below.refl _ _) HU.1 HU.2).mono ?_
      rintro e w3 ⟨A3, n3, c3, rfl, t3, _⟩
      have hl3 : 1 + n3 ≤ 140737488355328 := by have := t3.len; rw [dig_length] at this; simp [Rd.within] at this; omega
      have M2 := M.keep t3.below
      go_wp2_with (at_builtin; refine wpList_app rfl _ _ rfl w0 _ 1 1 [253] (by rfl) M2 A3 n3 c3 _ (by rfl) t3.bys hl3 ?_; intro A4 n4 c4 w4 t4 f4)
      go_ret
      rw [E.out]
      exact MinePost.mk t4 (f4 (.inl frn))
    · by_cases h3 : n < 4294967296
      · have E := hide (cnt4 n (by omega) h3)
        have t1 : decide (n ≤ 252) = false := by simp; omega
        have t2 : decide (n ≤ 65535) = false := by simp; omega
        have t3 : decide (n ≤ 4294967295) = true := by simp; omega
        have M := one 254 (by omega) (by omega)
        clear h1 h2 h3 one
        go_enter Try.func71, Try.ntmps71
        go_wp2_with fail
        refine (reffixed_any _ _ n 4 (Below.refl _ _) HU.1 HU.2).mono ?_
        rintro e w3 ⟨A3, n3, c3, rfl, t3, _⟩
        have hl3 : 1 + n3 ≤ 140737488355328 := by have := t3.len; rw [dig_length] at this; simp [Rd.within] at this; omega
        have M2 := M.keep t3.below
        go_wp2_with (at_builtin; refine wpList_app rfl _ _ rfl w0 _ 1 1 [254] (by rfl) M2 A3 n3 c3 _ (by rfl) t3.bys hl3 ?_; intro A4 n4 c4 w4 t4 f4)
        go_ret
        rw [E.out]
        exact MinePost.mk t4 (f4 (.inl frn))
      · have E := hide (cnt8 n (by omega))
        have t1 : decide (n ≤ 252) = false := by simp; omega
        have t2 : decide (n ≤ 65535) = false := by simp; omega
        have t3 : decide (n ≤ 4294967295) = false := by simp; omega
        have M := one 255 (by omega) (by omega)
        clear h1 h2 h3 one
        go_enter Try.func71, Try.ntmps71
        go_wp2_with fail
        refine (reffixed_any _ _ n 8 (Below.refl _ _) HU.1 HU.2).mono ?_
        rintro e w3 ⟨A3, n3, c3, rfl, t3, _⟩
        have hl3 : 1 + n3 ≤ 140737488355328 := by have := t3.len; rw [dig_length] at this; simp [Rd.within] at this; omega
        have M2 := M.keep t3.below
        go_wp2_with (at_builtin; refine wpList_app rfl _ _ rfl w0 _ 1 1 [255] (by rfl) M2 A3 n3 c3 _ (by rfl) t3.bys hl3 ?_; intro A4 n4 c4 w4 t4 f4)
        go_ret
        rw [E.out]
        exact MinePost.mk t4 (f4 (.inl frn))
set_option maxHeartbeats 1000000 in
set_option maxRecDepth 100000 in
theorem reftext_any (w0 w : World) (A : Option Addr) (n c : Nat) (bs : List Int) (hb : Below w0.heap.size w0 w) (hB : Bys w A n bs) (hn : n ≤ 1000000000) :
    Calls Try.prog 101 #[.slice A n c] w (MinePost 5 w0 none (txt bs)) := by
  have hu : IntKind.u64.wrap (n : Int) = (n : Int) := by rw [IntKind.wrap_u64]; omega
  have E : Hid (txt bs = cnt n ++ bs) := hide (by rw [txt, hB.1])
  go_enter Try.func101, Try.ntmps101
  go_wp2_with fail
  refine (refcount_any w w n (Below.refl _ _) (by omega) (by omega)).mono ?_
  rintro e w3 ⟨A3, n3, c3, rfl, t3, f3⟩
  have hl3 : n3 + n ≤ 140737488355328 := by have := t3.len; have := (cnt_length (n : Int).toNat).2; omega
  go_wp2_with (at_builtin; refine wpList_app rfl _ _ rfl w A3 n3 c3 _ (by rfl) t3 A n c bs (by rfl) (t3.old hB) hl3 ?_; intro A4 n4 c4 w4 t4 f4)
  go_ret
  rw [E.out]
  exact MinePost.mk (t4.older hb) ((f4 (.inl (f3 (Fr.none _)))).older hb)
end Go.Proofs.Ytbpmcnfmgaolnaa
/-
  The document's reader: number, take, Raw, FixedOf.
-/
namespace Go.Proofs.Ytbpmcnfmgaolnaa
open Go.RowKit

/-- A slice's head, whatever its address is. -/
theorem slice_head (A : Option Addr) (m c U : Nat) (hU : U ≤ m) (hc : m ≤ c) : ∃ A' : Option Addr, (∀ w : World, (Instr.slice 56 (.slice A m c) none (some (.int .i64 (U : Int))) none).run Try.prog w = .ok (.slice A' U c) w) ∧
    (∀ w : World, (Instr.sliceAt 56 (.slice A m c) none (some (.int .i64 (U : Int))) none).run Try.prog w = .ok (.slice A' U c) w) ∧
    (∀ (w : World) (bs : List Int), Bys w A m bs → Bys w A' U (bs.take U)) ∧ ∀ ad', A' = some ad' → ∃ ad, A = some ad ∧ ad'.block = ad.block := by
  have hel : Try.prog.elem 56 = 5 := by kernel_rfl
  have hu : Try.prog.underlying 56 = some (.slice (Try.prog.elem 56)) := by rw [hel]; exact Try.underlying56
  have hsz : (Try.prog.info? 5).map (·.size) = some 1 := by kernel_rfl
  have h1 : ∀ w : World, (Instr.slice 56 (.slice A m c) none (some (.int .i64 (U : Int))) none).run Try.prog w = .ok (.slice (if c = 0 then A else A.map (·.add 0)) U c) w := fun w => by
    rw [run_slice_h w _ A m c hu .i64 U (by omega) (by omega), hel, run_size hsz w]
    by_cases h : c = 0
    · simp [Result.andThen, sliced, h]
    · simp [Result.andThen, sliced, h]
  refine ⟨if c = 0 then A else A.map (·.add 0), h1, fun w => ?_, fun w bs hB => ?_, fun ad' h => ?_⟩
  · rw [run_sliceAt_slice w _ _ _ _ _ hu]; exact h1 w
  · rcases Nat.eq_zero_or_pos U with h0 | h0
    · subst h0
      exact Bys.zero _ _ _ (by simp) rfl
    · obtain ⟨b, off, e, _⟩ := hB.2.2 (by omega)
      subst e
      have e2 : (some ⟨b, off, none⟩ : Option Addr).map (fun x => x.add 0) = some ⟨b, off, none⟩ := by simp only [Option.map_some, Addr.add_mid, Nat.add_zero]
      rw [if_neg (by omega), e2]
      exact hB.head U hU
  · by_cases h2 : c = 0
    · rw [if_pos h2] at h; exact ⟨ad', h, rfl⟩
    · rw [if_neg h2] at h
      cases A with
      | none => cases h
      | some a =>
        injection h with h
        refine ⟨a, rfl, ?_⟩
        rw [← h]
        show (a.add 0).block = a.block
        unfold Addr.add
        repeat' split
        all_goals rfl
theorem pow_facts (j N x : Nat) (hj : j < 8) (hN : N < 256 ^ j) (hx : x ≤ 255) :
    IntKind.u64.wrap ((x : Int) * ((256 ^ j : Nat) : Int)) = ((x * 256 ^ j : Nat) : Int) ∧ IntKind.u64.wrap ((N : Int) + ((x * 256 ^ j : Nat) : Int)) = ((N + x * 256 ^ j : Nat) : Int) ∧
    IntKind.u64.wrap (((256 ^ j : Nat) : Int) * 256) = ((256 ^ (j + 1) % 18446744073709551616 : Nat) : Int) := by
  have h1 : x * 256 ^ j ≤ 255 * 256 ^ j := Nat.mul_le_mul_right _ hx
  have h2 : 256 ^ (j + 1) ≤ 256 ^ 8 := Nat.pow_le_pow_right (by decide) (by omega)
  have h3 : (256 : Nat) ^ (j + 1) = 256 * 256 ^ j := by rw [Nat.pow_succ, Nat.mul_comm]
  have h4 : (256 : Nat) ^ 8 = 18446744073709551616 := by decide
  generalize hP : 256 ^ j = P at *
  have e1 : (x : Int) * (P : Int) = ((x * P : Nat) : Int) := by simp
  refine ⟨?_, ?_, ?_⟩
  · rw [e1, IntKind.wrap_u64]
    generalize x * P = y at *
    omega
  · rw [IntKind.wrap_u64]
    generalize x * P = y at *
    omega
  · rw [IntKind.wrap_u64, h3]
    omega
theorem num_take_succ (bs : List Int) (j : Nat) (x : Int) (hx : bs[j]? = some x) : num (bs.take (j + 1)) = num (bs.take j) + x.toNat * 256 ^ j := by
  have hj : j < bs.length := (List.getElem?_eq_some_iff.1 hx).1
  rw [List.take_add_one, hx, num_append, List.length_take, Nat.min_eq_left (by omega)]
  simp only [Option.toList, num, Nat.mul_zero, Nat.add_zero]
  rw [Nat.mul_comm]
set_option maxHeartbeats 1000000 in
set_option maxRecDepth 100000 in
theorem refnumber_any (w : World) (A : Option Addr) (n cap : Nat) (bs : List Int) (hB : Bys w A n bs) (hl : n ≤ 8) :
    Calls Try.prog 123 #[.slice A n cap] w fun e w' => e = .returned (.int .u64 (num bs)) ∧ w = w' := by
  have HL := hide hB.1
  go_enter Try.func123, Try.ntmps123
  go_wp2
  go_loop [3, 4, 9] (fun s q i => ∃ j N W : Nat, j ≤ n ∧ i = .int .i64 j ∧ s = .int .u64 (N : Int) ∧ q = .int .u64 (W : Int) ∧ N = num (bs.take j) ∧ W = 256 ^ j % 18446744073709551616) (fun _ _ i => n - (intOf i).toNat)
  case atStart => exact ⟨0, 0, 1, by omega, rfl, rfl, rfl, by simp [num], by decide⟩
  case round =>
    obtain ⟨j, N, W, hj, rfl, rfl, rfl, hN, hW⟩ := hrel
    by_cases hlt : j < n
    · obtain ⟨b, off, rfl, hc⟩ := hB.2.2 (by omega)
      obtain ⟨x, hx⟩ : ∃ x, bs[j]? = some x := ⟨_, List.getElem?_eq_getElem (by rw [HL.out]; exact hlt)⟩
      have cx := hc j x hx
      have hxx := hB.2.1 x (List.mem_of_getElem? hx)
      obtain ⟨x, rfl⟩ : ∃ y : Nat, x = y := ⟨x.toNat, by omega⟩
      have hs := num_take_succ bs j x hx
      have hNl : N < 256 ^ j := by
        have := num_lt (bs.take j) (fun y hy => hB.2.1 y (List.mem_of_mem_take hy))
        rw [List.length_take, Nat.min_eq_left (by have := HL.out; omega)] at this
        omega
      have hP : 256 ^ j < 18446744073709551616 := Nat.lt_of_le_of_lt (Nat.pow_le_pow_right (by decide) (show j ≤ 7 by omega)) (by decide)
      have hW' : W = 256 ^ j := by rw [hW, Nat.mod_eq_of_lt hP]
      obtain ⟨p1, p2, p3⟩ := pow_facts j N x (by omega) hNl (by omega)
      rw [← hW'] at p1 p2 p3
      have hu : IntKind.u64.wrap (x : Int) = (x : Int) := by rw [IntKind.wrap_u64]; omega
      rw [Int.toNat_natCast, ← hN, ← hW'] at hs
      generalize hy : x * W = y at *
      generalize hz : 256 ^ (j + 1) % 18446744073709551616 = z at *
      have HS := hide hs
      have HZ := hide hz
      clear hs hz hy hW' hP hNl hxx hx hc hN hW hB
      go_wp2
      exact ⟨⟨j + 1, N + y, z, by omega, by simp, by simp, rfl, HS.out.symm, HZ.out.symm⟩, by simp [intOf]; omega⟩
    · obtain rfl : j = n := by omega
      rw [List.take_of_length_le (by rw [HL.out]; exact Nat.le_refl _)] at hN
      have HN := hide hN
      clear hN hW
      go_wp2
      go_ret
      exact ⟨by rw [← HN.out]; rfl, rfl⟩
set_option maxHeartbeats 1000000 in
set_option maxRecDepth 100000 in
theorem reftake_f (w : World) (g h : Nat) (r : Rd) (k : Nat) (hR : RdAt 128 w g h r) (hk : k ≤ r.rest.length) :
    Calls Try.prog 122 #[.pointer (some ⟨g, 0, none⟩), .int .i64 (k : Int)] w (RawF 128 w g h ⟨r.rest.drop k, r.err⟩ (r.rest.take k)) := by
  obtain ⟨rest, err⟩ := r
  obtain ⟨A, m, c, hb, hB, hc, hA, hlt, hm⟩ := hR
  have c0 := hb.c0
  simp only [hB.1] at hk
  have HA := hide hA
  obtain ⟨A', hs1, hs2, hBA, hAA⟩ := slice_from A m c k hk hc
  obtain ⟨A2, hs3, hs4, hBA2, _⟩ := slice_head A m c k hk hc
  have HAA := hide hAA
  have HBA := hide hBA
  have B2 := hBA2 w rest hB
  have ca := (hb.alloc (.cells #[] 5)).c0
  clear hA hAA hBA hBA2
  go_enter Try.func122, Try.ntmps122
  go_wp2_with (at_builtin; refine wpList_appF rfl _ _ rfl w _ 0 0 [] (by rfl) (Mine.nil ((Below.refl _ w).alloc (Nat.le_refl _) _) _) A2 k c (rest.take k) (by rfl) (B2.alloc _) (by omega) ?_; intro A1 n1 c1 w1 t1 f1 ff; have b1 := hb.under t1.below; have c0' := b1.c0; have f0' := b1.frozen 0)
  go_ret
  have hf := f1 (.inl (Fr.new w w (Nat.le_refl _) 0))
  have hlg := hb.lt
  have hsz := t1.below.size
  have hne : 0 < m - k → (∀ ad, A' = some ad → ad.block = h) ∧ g ≠ h := fun h0 => ⟨fun ad e => by
    obtain ⟨a, ea, eb⟩ := HAA.out ad e
    rw [eb]; exact (HA.out (by omega)).1 a ea, (HA.out (by omega)).2⟩
  refine ⟨A1, n1, c1, rfl, t1.bys.keep (Only.cell1 _ _ _ _) (fun _ ad e hg => by have := hf ad e; omega), t1.cap, hf, RdAt.turn b1 ((HBA.out w rest hB).below t1.below) (by omega) hne (by omega) (by omega), (Only.of_below t1.below _).trans (Only.cell1 _ _ _ _) (fun _ _ h => h), (ff (by omega)).keep t1.bys (Only.cell1 _ _ _ _) (fun _ ad e hg => by have := hf ad e; omega)⟩
theorem reftake_any (w : World) (g h : Nat) (r : Rd) (k : Nat) (hR : RdAt 128 w g h r) (hk : k ≤ r.rest.length) :
    Calls Try.prog 122 #[.pointer (some ⟨g, 0, none⟩), .int .i64 (k : Int)] w (RawPost 128 w g h ⟨r.rest.drop k, r.err⟩ (r.rest.take k)) :=
  (reftake_f w g h r k hR hk).mono fun _ _ h9 => h9.post
set_option maxHeartbeats 1000000 in
set_option maxRecDepth 100000 in
theorem refraw_f (w : World) (g h : Nat) (r : Rd) (n : Int) (hR : RdAt 128 w g h r) :
    Calls Try.prog 82 #[.pointer (some ⟨g, 0, none⟩), .int .i64 n] w (RawF 128 w g h (r.raw n).2 (r.raw n).1) := by
  obtain ⟨rest, err⟩ := r
  have hR0 := hR
  obtain ⟨A, m, c, hb, hB, hc, hA, hlt, hm⟩ := hR
  have c0 := hb.c0
  have c1 := hb.c1
  have f1 := hb.frozen 1
  have HL := hide hB.1
  have HA := hide hA
  clear hA
  have fin : ∀ (w' : World) (r' : Rd), RdAt 128 w' g h r' → Only (fun i => i = g) w w' → RawF 128 w g h r' [] (.returned (.slice (some ⟨w'.heap.size, 0, none⟩) 0 0)) (w'.alloc (.cells #[] 5)) := fun w' r' hr ho =>
    ⟨_, 0, 0, rfl, Bys.nil _ _, Nat.le_refl _, Fr.new _ _ ho.size 0, hr.below ((Below.refl _ _).alloc (Nat.le_refl _) _), ho.alloc _, Free.zero _ _⟩
  have FIN := hide fin
  clear fin
  by_cases he : err = 0
  · subst he
    by_cases h1 : n < 1
    · have E : Hid (Rd.raw ⟨rest, 0⟩ n = ([], ⟨rest, 0⟩)) := hide (by simp [Rd.raw, h1])
      go_enter Try.func82, Try.ntmps82
      go_wp2
      go_ret
      rw [E.out]
      exact FIN.out _ _ hR0 (Only.refl _ _)
    · by_cases h2 : (m : Int) < n
      · have E : Hid (Rd.raw ⟨rest, 0⟩ n = ([], ⟨rest, 61⟩)) := hide (by simp [Rd.raw, h1, HL.out, h2])
        have n0 : 0 ≤ n := by omega
        go_enter Try.func82, Try.ntmps82
        go_wp2
        go_ret
        rw [E.out]
        have hx := FIN.out _ ⟨rest, 61⟩ (RdAt.fail hb hB hc HA.out hlt hm) (Only.cell1 _ _ _ _)
        simpa [World.setCell] using hx
      · obtain ⟨k, rfl⟩ : ∃ k : Nat, n = k := ⟨n.toNat, by omega⟩
        have E : Hid (Rd.raw ⟨rest, 0⟩ k = (rest.take k, ⟨rest.drop k, 0⟩)) := hide (by simp [Rd.raw, h1, HL.out, h2])
        have hn0 : 1 ≤ (k : Int) := by omega
        have hk : (k : Int) ≤ (m : Int) := by omega
        clear h1 h2
        go_enter Try.func82, Try.ntmps82
        go_wp2_with fail
        refine (reftake_f w g h ⟨rest, 0⟩ k hR0 (by have := HL.out; simp only; omega)).mono ?_
        rintro e w1 ⟨A1, n1, c1, rfl, h1, h2, h3, h4, h5, ff⟩
        have H4 := hide h4
        have H5 := hide h5
        clear h4 h5
        go_wp2
        go_ret
        rw [E.out]
        exact ⟨A1, n1, c1, rfl, h1, h2, h3, H4.out, H5.out, ff⟩
  · have E : Hid (Rd.raw ⟨rest, err⟩ n = ([], ⟨rest, err⟩)) := hide (by simp [Rd.raw, he])
    have he' : (err != 0) = true := by simpa using he
    go_enter Try.func82, Try.ntmps82
    go_wp2
    go_ret
    rw [E.out]
    exact FIN.out _ _ hR0 (Only.refl _ _)
theorem refraw_any (w : World) (g h : Nat) (r : Rd) (n : Int) (hR : RdAt 128 w g h r) :
    Calls Try.prog 82 #[.pointer (some ⟨g, 0, none⟩), .int .i64 n] w (RawPost 128 w g h (r.raw n).2 (r.raw n).1) :=
  (refraw_f w g h r n hR).mono fun _ _ h9 => h9.post
set_option maxHeartbeats 1000000 in
set_option maxRecDepth 100000 in
theorem reffixedof_any (w : World) (g h : Nat) (r : Rd) (n : Int) (hR : RdAt 128 w g h r) :
    Calls Try.prog 124 #[.pointer (some ⟨g, 0, none⟩), .int .i64 n] w (NumPost 128 w g h (r.fixed n).2 (r.fixed n).1) := by
  have hl := hide (raw_length r (Rd.within n) 8 (within_range n).2)
  obtain ⟨W, hW⟩ : ∃ W, W = Rd.within n := ⟨_, rfl⟩
  have E : Hid (r.fixed n = (num (r.raw W).1, (r.raw W).2)) := hide (by rw [hW]; rfl)
  rw [← hW] at hl
  have hcs : (8 < n ∧ W = 8) ∨ (1 ≤ n ∧ n ≤ 8 ∧ W = n) ∨ (n ≤ 0 ∧ W = 0) := by rw [hW]; unfold Rd.within; omega
  clear hW
  rcases hcs with ⟨h1, rfl⟩ | ⟨h1, h2, rfl⟩ | ⟨h1, rfl⟩
  all_goals
    go_enter Try.func124, Try.ntmps124
    go_wp2_with fail
    refine (refraw_any w g h r _ hR).mono ?_
    rintro e w1 ⟨A, m, c, rfl, hB, _, hf, hR1, ho⟩
    have hm8 : m ≤ 8 := by have := hl.out; have := hB.1; omega
    have HR1 := hide hR1
    have HO := hide ho
    clear hR1 ho
    go_wp2_with fail
    refine (refnumber_any w1 A m c _ hB hm8).mono ?_
    rintro e w2 ⟨rfl, rfl⟩
    go_wp2
    go_ret
    rw [E.out]
    exact ⟨rfl, HR1.out, HO.out⟩
end Go.Proofs.Ytbpmcnfmgaolnaa
/-
  The document's reader: CountOf.
-/
namespace Go.Proofs.Ytbpmcnfmgaolnaa
open Go.RowKit

theorem sizes2 (x : Int) (h1 : x ≤ 255) : (x = 253 ∧ Rd.sizeOf x = 2) ∨ (x = 254 ∧ Rd.sizeOf x = 4) ∨ (x = 255 ∧ Rd.sizeOf x = 8) ∨ (x < 253 ∧ Rd.sizeOf x = 0) := by
  rcases sizes x with ⟨a, h⟩ | ⟨a, b, h⟩ | ⟨a, b, c, h⟩ | ⟨a, b, c, h⟩
  · exact .inl ⟨by simpa using a, h⟩
  · exact .inr (.inl ⟨by simpa using b, h⟩)
  · exact .inr (.inr (.inl ⟨by simpa using c, h⟩))
  · exact .inr (.inr (.inr ⟨by simp at a b c; omega, h⟩))
set_option maxHeartbeats 2000000 in
set_option maxRecDepth 100000 in
theorem refcountof_bad (w : World) (g h : Nat) (r : Rd) (most : Int) (hR : RdAt 128 w g h r) (he : r.err ≠ 0) :
    Calls Try.prog 83 #[.pointer (some ⟨g, 0, none⟩), .int .u64 most] w (NumPost 128 w g h (r.count most.toNat).2 (r.count most.toNat).1) := by
  have hR0 := hR
  obtain ⟨rest, err⟩ := r
  obtain ⟨A, m, c, hb, hB, hc, hA, hlt, hm⟩ := hR
  have c1 := hb.c1
  simp only at he
  have E : Hid (Rd.count ⟨rest, err⟩ most.toNat = (0, ⟨rest, err⟩)) := hide (by simp [Rd.count, he])
  have he' : (err != 0) = true := by simpa using he
  go_enter Try.func83, Try.ntmps83
  go_wp2
  go_ret
  rw [E.out]
  exact ⟨rfl, hR0, Only.refl _ _⟩
set_option maxHeartbeats 2000000 in
set_option maxRecDepth 100000 in
theorem refcountof_nil (w : World) (g h : Nat) (most : Int) (hR : RdAt 128 w g h ⟨[], 0⟩) :
    Calls Try.prog 83 #[.pointer (some ⟨g, 0, none⟩), .int .u64 most] w (NumPost 128 w g h (Rd.count ⟨[], 0⟩ most.toNat).2 (Rd.count ⟨[], 0⟩ most.toNat).1) := by
  obtain ⟨A, m, c, hb, hB, hc, hA, hlt, hm⟩ := hR
  have c0 := hb.c0
  have c1 := hb.c1
  have f1 := hb.frozen 1
  have m0 : m = 0 := hB.1.symm
  subst m0
  have HA := hide hA
  clear hA
  go_enter Try.func83, Try.ntmps83
  go_wp2
  go_ret
  exact ⟨rfl, RdAt.fail hb hB hc HA.out hlt hm, Only.cell1 _ _ _ _⟩
set_option maxHeartbeats 2000000 in
set_option maxRecDepth 100000 in
theorem refcountof_short (w : World) (g h : Nat) (x : Int) (l : List Int) (most : Int) (hR : RdAt 128 w g h ⟨x :: l, 0⟩) (hsh : l.length < Rd.sizeOf x) :
    Calls Try.prog 83 #[.pointer (some ⟨g, 0, none⟩), .int .u64 most] w (NumPost 128 w g h (Rd.count ⟨x :: l, 0⟩ most.toNat).2 (Rd.count ⟨x :: l, 0⟩ most.toNat).1) := by
  obtain ⟨A, m, c, hb, hB, hc, hA, hlt, hm⟩ := hR
  have c0 := hb.c0
  have c1 := hb.c1
  have f1 := hb.frozen 1
  obtain ⟨b, off, rfl, hcx⟩ := hB.2.2 (by have := hB.1; simp at this; omega)
  have cx : w.cell? ⟨b, off, none⟩ = some (.int .u8 x) := hcx 0 x rfl
  have hml : m < 1 + Rd.sizeOf x := by have := hB.1; simp at this; omega
  have m1 : (0 : Int) < (m : Int) := by have := hB.1; simp at this; omega
  have m0 : (m == 0) = false := by simp; omega
  have hx1 := (hB.2.1 x (by simp)).2
  have E : Hid (Rd.count ⟨x :: l, 0⟩ most.toNat = (0, ⟨x :: l, 61⟩)) := hide (by simp [Rd.count, Rd.peek, hsh])
  have HA := hide hA
  clear hcx hA
  rcases sizes2 x hx1 with ⟨rfl, hs⟩ | ⟨rfl, hs⟩ | ⟨rfl, hs⟩ | ⟨_, hs⟩
  case inr.inr.inr => omega
  all_goals
    rw [hs] at hml
    have HB := hide hB
    clear hs hsh hx1 hB
    go_enter Try.func83, Try.ntmps83
    go_wp2
    go_ret
    rw [E.out]
    exact ⟨rfl, RdAt.fail hb HB.out hc HA.out hlt hm, Only.cell1 _ _ _ _⟩
/-- The number's way is over: the error, or what was read is let go. -/
theorem numpost_fail (w w2 : World) (g h : Nat) (A : Option Addr) (m c : Nat) (rest : List Int) (hb : Blk w g 128 [.slice A m c, .int .i64 0]) (hB : Bys w A m rest) (hc : m ≤ c) (hA : 0 < m → (∀ ad, A = some ad → ad.block = h) ∧ g ≠ h) (hlt : h < w.heap.size) (hm : m ≤ 1000000000) (hb2 : Below w.heap.size w w2) :
    NumPost 128 w g h ⟨rest, 62⟩ 0 (.returned (.int .u64 0)) (w2.setCell ⟨g, 1, none⟩ (.int .i64 62)) :=
  ⟨rfl, RdAt.fail (hb.under hb2) (hB.below hb2) hc hA (Nat.lt_of_lt_of_le hlt hb2.size) hm, (Only.of_below hb2 (fun i => i = g)).trans (Only.cell1 _ g _ _) (fun _ _ h => h)⟩
set_option maxHeartbeats 4000000 in
set_option maxRecDepth 100000 in
theorem refcountof_pos (w : World) (g h : Nat) (x : Int) (l : List Int) (most : Int) (hR : RdAt 128 w g h ⟨x :: l, 0⟩) (h0 : 0 ≤ most) (hpos : 0 < Rd.sizeOf x) (hsh : ¬ l.length < Rd.sizeOf x) :
    Calls Try.prog 83 #[.pointer (some ⟨g, 0, none⟩), .int .u64 most] w (NumPost 128 w g h (Rd.count ⟨x :: l, 0⟩ most.toNat).2 (Rd.count ⟨x :: l, 0⟩ most.toNat).1) := by
  have hR0 := hR
  obtain ⟨A, m, c, hb, hB, hc, hA, hlt, hm⟩ := hR
  have c0 := hb.c0
  have c1 := hb.c1
  have hml : 1 + Rd.sizeOf x ≤ m := by have := hB.1; simp at this; omega
  obtain ⟨b, off, rfl, hcx⟩ := hB.2.2 (by omega)
  have cx : w.cell? ⟨b, off, none⟩ = some (.int .u8 x) := hcx 0 x rfl
  have m1 : (0 : Int) < (m : Int) := by omega
  have m0 : (m == 0) = false := by simp; omega
  have hx1 := (hB.2.1 x (by simp)).2
  obtain ⟨N, hN⟩ : ∃ N : Nat, N = num (l.take (Rd.sizeOf x)) := ⟨_, rfl⟩
  have hz : ¬ Rd.sizeOf x = 0 := by omega
  have E1 : (cnt N).length ≠ 1 + Rd.sizeOf x ∨ most.toNat < N → Rd.count ⟨x :: l, 0⟩ most.toNat = (0, ⟨x :: l, 62⟩) := fun hq => by
    simp [Rd.count, Rd.peek, hsh, hz, ← hN, hq]
  have E2 : ¬ ((cnt N).length ≠ 1 + Rd.sizeOf x ∨ most.toNat < N) → Rd.count ⟨x :: l, 0⟩ most.toNat = (N, ⟨(x :: l).drop (1 + Rd.sizeOf x), 0⟩) := fun hq => by
    simp [Rd.count, Rd.peek, hsh, hz, ← hN, hq]
  have hBl : Bys w (some ⟨b, off + 1, none⟩) (Rd.sizeOf x) (l.take (Rd.sizeOf x)) := by simpa using hB.sub 1 (Rd.sizeOf x) hml
  have HN := hide hN
  have hNlt : U64 N := by
    have h1 := num_lt _ hBl.2.1
    have h2 : (l.take (Rd.sizeOf x)).length ≤ 8 := by rw [hBl.1]; rcases sizes x with h | h | h | h <;> omega
    have h3 := Nat.pow_le_pow_right (show 0 < 256 by decide) h2
    have : (256 : Nat) ^ 8 = 18446744073709551616 := by decide
    exact ⟨by omega, by omega⟩
  have HA := hide hA
  have HB := hide hB
  clear hN hcx hpos hsh hA hB
  by_cases hq : (cnt N).length = 1 + Rd.sizeOf x
  · by_cases hq2 : most.toNat < N
    · rcases sizes2 x hx1 with ⟨rfl, hs⟩ | ⟨rfl, hs⟩ | ⟨rfl, hs⟩ | ⟨_, hs⟩
      case inr.inr.inr => exact absurd hs hz
      all_goals
        have E := hide (E1 (.inr hq2))
        rw [hs] at hml hBl HN hq
        have q2 : most < (N : Int) := by omega
        have HQ := hide hq
        clear hs hz hq hq2 E1 E2 hx1
        go_enter Try.func83, Try.ntmps83
        go_wp2_with fail
        refine (refnumber_any w _ _ _ _ hBl (by decide)).mono ?_
        rintro e w1 ⟨rfl, rfl⟩
        rw [← HN.out]
        go_wp2_with fail
        refine (refcount_any w w N (Below.refl _ _) hNlt.1 hNlt.2).mono ?_
        rintro e w2 ⟨A3, n3, c3, rfl, t3, _⟩
        have b2 := hb.under t3.below
        have c02 := b2.c0
        have c12 := b2.c1
        have f12 := b2.frozen 1
        have e3 := t3.len.symm
        rw [Int.toNat_natCast, HQ.out] at e3
        simp only [Nat.reduceAdd] at e3
        subst e3
        go_wp2
        go_ret
        rw [E.out]
        exact numpost_fail w w2 g h _ m c _ hb HB.out hc HA.out hlt hm t3.below
    · rcases sizes2 x hx1 with ⟨rfl, hs⟩ | ⟨rfl, hs⟩ | ⟨rfl, hs⟩ | ⟨_, hs⟩
      case inr.inr.inr => exact absurd hs hz
      all_goals
        have E := hide (E2 (by intro h; rcases h with h | h; exact h hq; exact hq2 h))
        rw [hs] at hml hBl E HN hq
        have q2 : (N : Int) ≤ most := by omega
        have HQ := hide hq
        clear hs hz hq hq2 E1 E2 hx1
        go_enter Try.func83, Try.ntmps83
        go_wp2_with fail
        refine (refnumber_any w _ _ _ _ hBl (by decide)).mono ?_
        rintro e w1 ⟨rfl, rfl⟩
        rw [← HN.out]
        go_wp2_with fail
        refine (refcount_any w w N (Below.refl _ _) hNlt.1 hNlt.2).mono ?_
        rintro e w2 ⟨A3, n3, c3, rfl, t3, _⟩
        have b2 := hb.under t3.below
        have c02 := b2.c0
        have c12 := b2.c1
        have f12 := b2.frozen 1
        have e3 := t3.len.symm
        rw [Int.toNat_natCast, HQ.out] at e3
        simp only [Nat.reduceAdd] at e3
        subst e3
        have hR2 := hR0.below t3.below
        go_wp2_with fail
        refine (reftake_any w2 g h ⟨_ :: l, 0⟩ _ hR2 (by have := HB.out.1; simp only [List.length_cons] at this ⊢; omega)).mono ?_
        rintro e w3 ⟨A4, n4, c4, rfl, h1, h2, h3, h4, h5⟩
        have H4 := hide h4
        have H5 := hide h5
        clear h1 h2 h3 h4 h5
        go_wp2
        go_ret
        rw [E.out]
        exact ⟨rfl, H4.out, (Only.of_below t3.below _).trans H5.out (fun _ _ h => h)⟩
  · rcases sizes2 x hx1 with ⟨rfl, hs⟩ | ⟨rfl, hs⟩ | ⟨rfl, hs⟩ | ⟨_, hs⟩
    case inr.inr.inr => exact absurd hs hz
    all_goals
      have E := hide (E1 (.inl hq))
      rw [hs] at hml hBl HN hq
      have HQ := hide hq
      clear hs hz hq E1 E2 hx1
      go_enter Try.func83, Try.ntmps83
      go_wp2_with fail
      refine (refnumber_any w _ _ _ _ hBl (by decide)).mono ?_
      rintro e w1 ⟨rfl, rfl⟩
      rw [← HN.out]
      go_wp2_with fail
      refine (refcount_any w w N (Below.refl _ _) hNlt.1 hNlt.2).mono ?_
      rintro e w2 ⟨A3, n3, c3, rfl, t3, _⟩
      have b2 := hb.under t3.below
      have c02 := b2.c0
      have c12 := b2.c1
      have f12 := b2.frozen 1
      have e3 := t3.len.symm
      have hn3 : ¬ (n3 = _) := fun h => HQ.out (by rw [Int.toNat_natCast] at e3; rw [← e3]; exact h)
      simp only [Nat.reduceAdd] at hn3
      first
        | (have q3 : ((n3 : Int) != 3) = true := by rw [bne_iff_ne]; omega)
        | (have q3 : ((n3 : Int) != 5) = true := by rw [bne_iff_ne]; omega)
        | (have q3 : ((n3 : Int) != 9) = true := by rw [bne_iff_ne]; omega)
      clear e3 hn3
      go_wp2
      go_ret
      rw [E.out]
      exact numpost_fail w w2 g h _ m c _ hb HB.out hc HA.out hlt hm t3.below
end Go.Proofs.Ytbpmcnfmgaolnaa
/-
  The document's reader: CountOf whole, TextOf.
-/
namespace Go.Proofs.Ytbpmcnfmgaolnaa
open Go.RowKit

set_option maxHeartbeats 4000000 in
set_option maxRecDepth 100000 in
theorem refcountof_zero (w : World) (g h : Nat) (x : Int) (l : List Int) (most : Int) (hR : RdAt 128 w g h ⟨x :: l, 0⟩) (h0 : 0 ≤ most) (hs0 : Rd.sizeOf x = 0) :
    Calls Try.prog 83 #[.pointer (some ⟨g, 0, none⟩), .int .u64 most] w (NumPost 128 w g h (Rd.count ⟨x :: l, 0⟩ most.toNat).2 (Rd.count ⟨x :: l, 0⟩ most.toNat).1) := by
  have hR0 := hR
  obtain ⟨A, m, c, hb, hB, hc, hA, hlt, hm⟩ := hR
  have c0 := hb.c0
  have c1 := hb.c1
  have hml : 1 ≤ m := by have := hB.1; simp at this; omega
  obtain ⟨b, off, rfl, hcx⟩ := hB.2.2 (by omega)
  have cx : w.cell? ⟨b, off, none⟩ = some (.int .u8 x) := hcx 0 x rfl
  have m1 : (0 : Int) < (m : Int) := by omega
  have m0 : (m == 0) = false := by simp; omega
  have hx := hB.2.1 x (by simp)
  have x0 : 0 ≤ x := hx.1
  have x2 : x < 253 := by
    rcases sizes2 x hx.2 with ⟨_, h⟩ | ⟨_, h⟩ | ⟨_, h⟩ | ⟨h, _⟩
    all_goals omega
  have t1 : decide (252 < x) = false := by simp; omega
  have t2 : decide (253 < x) = false := by simp; omega
  have t3 : decide (254 < x) = false := by simp; omega
  have hu : IntKind.u64.wrap x = x := by rw [IntKind.wrap_u64]; omega
  have hcn : cnt x.toNat = [x] := cnt1 x x0 x2
  have E : Hid (Rd.count ⟨x :: l, 0⟩ most.toNat = if most.toNat < x.toNat then (0, ⟨x :: l, 62⟩) else (x.toNat, ⟨l, 0⟩)) := hide (by
    by_cases hq : most.toNat < x.toNat
    · simp [Rd.count, Rd.peek, hs0, hcn, hq]
    · simp [Rd.count, Rd.peek, hs0, hcn, hq])
  have HC := hide hcn
  have HA := hide hA
  have HB := hide hB
  have hux : U64 x := ⟨x0, by omega⟩
  clear hcx hx hs0 hcn hA hB
  by_cases hq2 : most < x
  · rw [if_pos (by omega)] at E
    go_enter Try.func83, Try.ntmps83
    go_wp2_with fail
    refine (refcount_any w w x (Below.refl _ _) hux.1 hux.2).mono ?_
    rintro e w2 ⟨A3, n3, c3, rfl, t3, _⟩
    have b2 := hb.under t3.below
    have c02 := b2.c0
    have c12 := b2.c1
    have f12 := b2.frozen 1
    have e3 := t3.len.symm
    rw [HC.out] at e3
    simp only [List.length_cons, List.length_nil, Nat.zero_add] at e3
    subst e3
    go_wp2
    go_ret
    rw [E.out]
    exact numpost_fail w w2 g h _ m c _ hb HB.out hc HA.out hlt hm t3.below
  · rw [if_neg (by omega)] at E
    have q2 : x ≤ most := by omega
    have ex := hide (show ((x.toNat : Nat) : Int) = x by omega)
    clear hq2
    go_enter Try.func83, Try.ntmps83
    go_wp2_with fail
    refine (refcount_any w w x (Below.refl _ _) hux.1 hux.2).mono ?_
    rintro e w2 ⟨A3, n3, c3, rfl, t3, _⟩
    have b2 := hb.under t3.below
    have c02 := b2.c0
    have c12 := b2.c1
    have f12 := b2.frozen 1
    have e3 := t3.len.symm
    rw [HC.out] at e3
    simp only [List.length_cons, List.length_nil, Nat.zero_add] at e3
    subst e3
    have hR2 := hR0.below t3.below
    go_wp2_with fail
    refine (reftake_any w2 g h ⟨x :: l, 0⟩ 1 hR2 (by simp)).mono ?_
    rintro e w3 ⟨A4, n4, c4, rfl, h1, h2, h3, h4, h5⟩
    have H4 := hide h4
    have H5 := hide h5
    clear h1 h2 h3 h4 h5
    go_wp2
    go_ret
    rw [E.out]
    refine ⟨?_, H4.out, (Only.of_below t3.below _).trans H5.out (fun _ _ h => h)⟩
    simp only [ex.out]
    rfl
theorem refcountof_any (w : World) (g h : Nat) (r : Rd) (most : Int) (hR : RdAt 128 w g h r) (h0 : 0 ≤ most) :
    Calls Try.prog 83 #[.pointer (some ⟨g, 0, none⟩), .int .u64 most] w (NumPost 128 w g h (r.count most.toNat).2 (r.count most.toNat).1) := by
  by_cases he : r.err = 0
  · obtain ⟨rest, err⟩ := r
    simp only at he
    subst he
    cases rest with
    | nil => exact refcountof_nil w g h most hR
    | cons x l =>
      by_cases hsh : l.length < Rd.sizeOf x
      · exact refcountof_short w g h x l most hR hsh
      · by_cases hz : Rd.sizeOf x = 0
        · exact refcountof_zero w g h x l most hR h0 hz
        · exact refcountof_pos w g h x l most hR h0 (by omega) hsh
  · exact refcountof_bad w g h r most hR he
set_option maxHeartbeats 4000000 in
set_option maxRecDepth 100000 in
theorem reftextof_f (w : World) (g h : Nat) (r : Rd) (most : Int) (hR : RdAt 128 w g h r) (hmost : most < 9223372036854775808) :
    Calls Try.prog 126 #[.pointer (some ⟨g, 0, none⟩), .int .i64 most] w (RawF 128 w g h (r.text most).2 (r.text most).1) := by
  obtain ⟨rest, err⟩ := r
  have hR0 := hR
  obtain ⟨A, m, c, hb, hB, hc, hA, hlt, hm⟩ := hR
  have c0 := hb.c0
  have HL := hide hB.1
  have HA := hide hA
  obtain ⟨M, hM, hw⟩ : ∃ M : Int, 0 ≤ M ∧ ((0 ≤ most ∧ M = most) ∨ (most < 0 ∧ M = 0)) := by
    by_cases h : 0 ≤ most
    · exact ⟨most, h, .inl ⟨h, rfl⟩⟩
    · exact ⟨0, by omega, .inr ⟨by omega, rfl⟩⟩
  have hp := refcountof_any w g h ⟨rest, err⟩ M hR0 hM
  have hmx : IntKind.u64.wrap M = M := by rw [IntKind.wrap_u64]; omega
  -- what the count leaves, and what the text is
  obtain ⟨N, U, X, hU, hcnt, h1, h2, h3⟩ : ∃ (N U : Nat) (X : Int), U ≤ m ∧ Rd.count ⟨rest, err⟩ M.toNat = (N, ⟨rest.drop U, X⟩) ∧ (X ≠ 0 → Rd.text ⟨rest, err⟩ most = ([], ⟨rest.drop U, X⟩)) ∧
      (X = 0 → m - U < N → Rd.text ⟨rest, err⟩ most = ([], ⟨rest, 61⟩)) ∧ (X = 0 → ¬ m - U < N → Rd.text ⟨rest, err⟩ most = ((rest.drop U).take N, ⟨(rest.drop U).drop N, 0⟩)) := by
    have hMM : (max most 0).toNat = M.toNat := by congr 1; omega
    by_cases he : err = 0
    · subst he
      refine ⟨(Rd.peek rest M.toNat).1, (Rd.peek rest M.toNat).2.1, (Rd.peek rest M.toNat).2.2, by rw [← HL.out]; exact peek_used _ _, by simp [Rd.count], fun hX => ?_, fun hX hN => ?_, fun hX hN => ?_⟩
      · have := (peek_zero_or rest M.toNat hX).2
        rw [this]
        unfold Rd.text; simp only [hMM, ne_eq, not_true_eq_false, if_false, hX, not_false_eq_true, if_true, List.drop_zero]
      · rw [← HL.out] at hN
        unfold Rd.text; simp only [hMM, ne_eq, not_true_eq_false, if_false, hX, hN, if_true]
      · rw [← HL.out] at hN
        unfold Rd.text; simp only [hMM, ne_eq, not_true_eq_false, if_false, hX, hN]
    · exact ⟨0, 0, err, by omega, by simp [Rd.count, he], fun _ => by simp [Rd.text, he], fun h => absurd h he, fun h => absurd h he⟩
  rw [hcnt] at hp
  simp only at hp
  have H1 := hide h1
  have H2 := hide h2
  have H3 := hide h3
  clear hA h1 h2 h3 hcnt
  rcases hw with ⟨hw1, rfl⟩ | ⟨hw1, rfl⟩
  all_goals
    by_cases hX : X = 0
    · subst hX
      by_cases hN : m - U < N
      · have E := hide (H2.out rfl hN)
        clear H1 H2 H3
        go_enter Try.func126, Try.ntmps126
        go_wp2_with fail
        refine hp.mono ?_
        rintro e w1 ⟨rfl, hR1, ho1⟩
        have HR1 := hide hR1
        have HO1 := hide ho1
        obtain ⟨A1, m1, k1, b1, B1, _, _, hlt1, _⟩ := hR1
        have hm1 : m1 = m - U := by rw [← B1.1]; simp [HL.out]
        have c01 := b1.c0
        have c11 := b1.c1
        have f01 := b1.frozen 0
        have f11 := b1.frozen 1
        have hgt : (m1 : Int) < (N : Int) := by omega
        have hwr : IntKind.u64.wrap (m1 : Int) = (m1 : Int) := by rw [IntKind.wrap_u64]; omega
        have hd : decide ((m1 : Int) < (N : Int)) = true := by simp; omega
        have HM1 := hide hm1
        clear hm1 hN
        go_wp2
        go_ret
        rw [E.out]
        have hne := HA.out
        have bX : Blk (w1.setCell ⟨g, 1, none⟩ (.int .i64 61)) g 128 [.slice A1 m1 k1, .int .i64 61] := by simpa using b1.set_ 1 (.int .i64 61)
        have o2 : Only (fun i => i = g) w (w1.setCell ⟨g, 1, none⟩ (.int .i64 61)) := HO1.out.trans (Only.cell1 _ g _ _) (fun _ _ h => h)
        have hB2 : Bys (w1.setCell ⟨g, 1, none⟩ (.int .i64 61)) A m rest := hB.keep o2 (fun h0 ad e hg => (hne h0).2 (by rw [← (hne h0).1 ad e]; exact hg.symm))
        have hR3 := RdAt.turn bX hB2 hc hne (Nat.lt_of_lt_of_le hlt o2.size) hm
        have o3 := o2.trans (Only.cell1 _ g 0 (.slice A m c)) (fun _ _ h => h)
        have hal := (Below.refl _ ((w1.setCell ⟨g, 1, none⟩ (.int .i64 61)).setCell ⟨g, 0, none⟩ (.slice A m c))).alloc (Nat.le_refl _) (.cells #[] 5)
        refine ⟨_, 0, 0, ?_, Bys.nil _ (some ⟨w1.heap.size, 0, none⟩), Nat.le_refl _, Fr.new _ _ (by have := HO1.out.size; omega) 0, hR3.below hal, o3.alloc _, Free.zero _ _⟩
        rfl
      · have E := hide (H3.out rfl hN)
        clear H1 H2 H3
        go_enter Try.func126, Try.ntmps126
        go_wp2_with fail
        refine hp.mono ?_
        rintro e w1 ⟨rfl, hR1, ho1⟩
        have HR1 := hide hR1
        have HO1 := hide ho1
        obtain ⟨A1, m1, k1, b1, B1, _, _, hlt1, _⟩ := hR1
        have hm1 : m1 = m - U := by rw [← B1.1]; simp [HL.out]
        have c01 := b1.c0
        have c11 := b1.c1
        have f01 := b1.frozen 0
        have f11 := b1.frozen 1
        have hgt : (N : Int) ≤ (m1 : Int) := by omega
        have hwr : IntKind.u64.wrap (m1 : Int) = (m1 : Int) := by rw [IntKind.wrap_u64]; omega
        have hwi : IntKind.i64.wrap (N : Int) = (N : Int) := by rw [IntKind.wrap_i64]; omega
        have hd : decide ((m1 : Int) < (N : Int)) = false := by simp; omega
        have HM1 := hide hm1
        clear hm1 hN
        go_wp2_with fail
        refine (reftake_f w1 g h ⟨rest.drop U, 0⟩ N HR1.out (by have := B1.1; simp only at this ⊢; omega)).mono ?_
        rintro e w3 ⟨A4, n4, c4, rfl, h1, h2, h3, h4, h5, ff⟩
        have H4 := hide h4
        have H5 := hide h5
        clear h4 h5
        go_wp2
        go_ret
        rw [E.out]
        exact ⟨A4, n4, c4, rfl, h1, h2, fun ad e => Nat.le_trans HO1.out.size (h3 ad e), H4.out, HO1.out.trans H5.out (fun _ _ h => h), ff⟩
    · have E := hide (H1.out hX)
      have hX1 : (X == 0) = false := by simpa using hX
      have hX2 : (X != 0) = true := by simpa using hX
      clear H1 H2 H3 hX
      go_enter Try.func126, Try.ntmps126
      go_wp2_with fail
      refine hp.mono ?_
      rintro e w1 ⟨rfl, hR1, ho1⟩
      have HR1 := hide hR1
      have HO1 := hide ho1
      obtain ⟨A1, m1, k1, b1, B1, _, _, hlt1, _⟩ := hR1
      have hm1 : m1 = m - U := by rw [← B1.1]; simp [HL.out]
      have c01 := b1.c0
      have c11 := b1.c1
      have f01 := b1.frozen 0
      have f11 := b1.frozen 1
      go_wp2
      go_ret
      rw [E.out]
      exact ⟨_, 0, 0, rfl, Bys.nil _ _, Nat.le_refl _, Fr.new _ _ HO1.out.size 0, HR1.out.below ((Below.refl _ w1).alloc (Nat.le_refl _) _), HO1.out.alloc _, Free.zero _ _⟩
theorem reftextof_any (w : World) (g h : Nat) (r : Rd) (most : Int) (hR : RdAt 128 w g h r) (hmost : most < 9223372036854775808) :
    Calls Try.prog 126 #[.pointer (some ⟨g, 0, none⟩), .int .i64 most] w (RawPost 128 w g h (r.text most).2 (r.text most).1) :=
  (reftextof_f w g h r most hR hmost).mono fun _ _ h9 => h9.post
end Go.Proofs.Ytbpmcnfmgaolnaa
/-
  Bytes as a string.
-/
namespace Go.Proofs.Ytbpmcnfmgaolnaa
open Go.RowKit

theorem Below.undrew {w w' : World} (h : Below w.drew.heap.size w.drew w') : Below w.heap.size w w' := ⟨h.os, h.tape, h.output, h.size, h.block⟩
theorem Below.undrew' {w w' v : World} (h : Below v.heap.size v w') (hv : v = w ∨ v = w.drew ∨ v = w.drew.drew := by first | exact .inl rfl | exact .inr (.inl rfl) | exact .inr (.inr rfl)) : Below w.heap.size w w' := by
  rcases hv with rfl | rfl | rfl
  · exact h
  · exact ⟨h.os, h.tape, h.output, h.size, h.block⟩
  · exact ⟨h.os, h.tape, h.output, h.size, h.block⟩
def ba (bs : List Int) : ByteArray := bs.foldl (fun r n => r.push (UInt8.ofNat n.toNat)) ByteArray.empty
theorem loadBytes (P : Program) (w : World) (b off : Nat) : ∀ (bs : List Int), (∀ (j : Nat) (v : Int), bs[j]? = some v → w.cell? ⟨b, off + j, none⟩ = some (.int .u8 v)) → (loadCells ⟨b, off, none⟩ bs.length).run P w = .ok (bs.map (Value.int .u8)).toArray w := by
  intro bs h
  have := run_loadCells_list (P := P) (w := w) ⟨b, off, none⟩ (bs.map (Value.int .u8)) (fun j v hv => by
    rw [Addr.add_mid]
    simp only [List.getElem?_map] at hv
    cases hg : bs[j]? with
    | none => rw [hg] at hv; cases hv
    | some x => rw [hg] at hv; injection hv with hv; subst hv; exact h j x hg)
  simpa using this
theorem run_str (w : World) (A : Option Addr) (n c : Nat) (bs : List Int) (hB : Bys w A n bs) : (convert 56 9 (.slice A n c)).run Try.prog w = .ok (.string (ba bs)) w := by
  rw [run_convert_bytes_string w _ _ _ A n c Try.underlying56 Try.underlying5 Try.underlying9]
  have hl := hB.1
  rcases Nat.eq_zero_or_pos n with h0 | h0
  · subst h0
    obtain rfl : bs = [] := List.eq_nil_of_length_eq_zero hl
    cases A with
    | none => simp [Conv.bytesToString, ba]
    | some a => exact run_bytesToString w a 0 c [] (by simp [loadCells, loadCellsFrom])
  · obtain ⟨b, off, rfl, hc⟩ := hB.2.2 h0
    subst hl
    exact run_bytesToString w _ _ c bs (loadBytes _ w b off bs hc)
theorem ba_data (bs : List Int) : (ba bs).data.toList = bs.map fun n => UInt8.ofNat n.toNat := by
  have key : ∀ (l : List Int) (s : ByteArray), (l.foldl (fun r n => r.push (UInt8.ofNat n.toNat)) s).data.toList = s.data.toList ++ l.map fun n => UInt8.ofNat n.toNat := by
    intro l
    induction l with
    | nil => intro s; simp
    | cons x l ih => intro s; rw [List.foldl_cons, ih]; simp [ByteArray.push]
  rw [ba, key]; simp [ByteArray.empty, ByteArray.emptyWithCapacity]; rfl
theorem ba_inj (a b : List Int) (ha : Byt a) (hb : Byt b) (h : ba a = ba b) : a = b := by
  have h1 := ba_data a
  rw [h, ba_data] at h1
  clear h
  induction a generalizing b with
  | nil => cases b with
    | nil => rfl
    | cons y b => simp at h1
  | cons x a ih => cases b with
    | nil => simp at h1
    | cons y b =>
      simp only [List.map_cons, List.cons.injEq] at h1
      have hx := ha x (by simp)
      have hy := hb y (by simp)
      have e : (UInt8.ofNat y.toNat).toNat = (UInt8.ofNat x.toNat).toNat := by rw [h1.1]
      simp only [UInt8.toNat_ofNat'] at e
      have : x = y := by omega
      rw [this, ih b (fun z hz => ha z (by simp [hz])) (fun z hz => hb z (by simp [hz])) h1.2]
end Go.Proofs.Ytbpmcnfmgaolnaa
/-
  Plain laws on numbers and texts as bytes.
-/
namespace Go.Proofs.Ytbpmcnfmgaolnaa
open Go.RowKit

theorem dig_cons (n k : Nat) : dig n (k + 1) = ((n % 256 : Nat) : Int) :: dig (n / 256) k := by
  simp only [dig, List.range_succ_eq_map, List.map_cons, List.map_map, Nat.pow_zero, Nat.div_one]
  congr 1
  apply List.map_congr_left
  intro i _
  simp only [Function.comp, Nat.succ_eq_add_one]
  rw [Nat.div_div_eq_div_mul, Nat.pow_succ, Nat.mul_comm]
theorem dig_num (l : List Int) (h : Byt l) : dig (num l) l.length = l := by
  induction l with
  | nil => rfl
  | cons x l ih =>
    have h1 := ih (fun y hy => h y (by simp [hy]))
    have h2 := h x (by simp)
    rw [List.length_cons, dig_cons, num]
    have e1 : (x.toNat + 256 * num l) / 256 = num l := by omega
    have e2 : (((x.toNat + 256 * num l) % 256 : Nat) : Int) = x := by omega
    rw [e1, e2, h1]
theorem cnt_cases (n : Nat) : (n < 253 ∧ (cnt n).length = 1) ∨ (253 ≤ n ∧ n < 65536 ∧ cnt n = 253 :: dig n 2) ∨ (65536 ≤ n ∧ n < 4294967296 ∧ cnt n = 254 :: dig n 4) ∨ (4294967296 ≤ n ∧ cnt n = 255 :: dig n 8) := by
  unfold cnt
  by_cases a : n < 253
  · left; simp [a]
  · by_cases b : n < 65536
    · right; left; simp [a, b]; omega
    · by_cases c : n < 4294967296
      · right; right; left; simp [a, b, c]; omega
      · right; right; right; simp [a, b, c]; omega
theorem cnt_by_length (n s : Nat) (h : (cnt n).length = 1 + s) (hs : 0 < s) : (s = 2 ∧ cnt n = 253 :: dig n 2) ∨ (s = 4 ∧ cnt n = 254 :: dig n 4) ∨ (s = 8 ∧ cnt n = 255 :: dig n 8) := by
  rcases cnt_cases n with ⟨_, e⟩ | ⟨_, _, e⟩ | ⟨_, _, e⟩ | ⟨_, e⟩
  · omega
  · rw [e] at h; simp [dig_length] at h; exact .inl ⟨by omega, e⟩
  · rw [e] at h; simp [dig_length] at h; exact .inr (.inl ⟨by omega, e⟩)
  · rw [e] at h; simp [dig_length] at h; exact .inr (.inr ⟨by omega, e⟩)
/-- A count that is read is written as the bytes that were read. -/
theorem peek_back (b : List Int) (most : Nat) (hb : Byt b) (N U : Nat) (hp : Rd.peek b most = (N, U, 0)) : cnt N = b.take U ∧ U ≤ b.length ∧ N ≤ most := by
  have h1 := peek_used b most
  have h2 := peek_most b most
  rw [hp] at h1 h2
  refine ⟨?_, h1, h2⟩
  cases b with
  | nil => simp [Rd.peek] at hp
  | cons x l =>
    have hx := hb x (by simp)
    have hl : Byt l := fun y hy => hb y (by simp [hy])
    simp only [Rd.peek] at hp
    split at hp
    · simp at hp
    · rename_i hsh
      by_cases hz : Rd.sizeOf x = 0
      · simp only [hz, if_true] at hp
        split at hp
        · simp at hp
        · rename_i hq
          simp only [Prod.mk.injEq] at hp
          obtain ⟨rfl, rfl, _⟩ := hp
          have hx2 : x < 253 := by rcases sizes2 x hx.2 with h | h | h | h <;> omega
          rw [cnt1 x hx.1 hx2]
          rfl
      · simp only [hz, if_false] at hp
        split at hp
        · simp at hp
        · rename_i hq
          simp only [Prod.mk.injEq] at hp
          obtain ⟨rfl, rfl, _⟩ := hp
          have hq1 : (cnt (num (l.take (Rd.sizeOf x)))).length = 1 + Rd.sizeOf x := by
            apply Classical.byContradiction; intro h; exact hq (.inl h)
          have hlen : (l.take (Rd.sizeOf x)).length = Rd.sizeOf x := by rw [List.length_take]; omega
          have hd := dig_num (l.take (Rd.sizeOf x)) (fun y hy => hl y (List.mem_of_mem_take hy))
          rw [hlen] at hd
          rw [Nat.add_comm, List.take_succ_cons]
          rcases cnt_by_length _ _ hq1 (by omega) with ⟨e, h⟩ | ⟨e, h⟩ | ⟨e, h⟩
          all_goals
            rw [h]
            rw [e] at hd ⊢
            rw [hd]
            congr 1
            rcases sizes2 x hx.2 with h | h | h | h <;> omega
theorem raw_append (a b : List Int) : Rd.raw ⟨a ++ b, 0⟩ (a.length : Int) = (a, ⟨b, 0⟩) := by
  unfold Rd.raw
  simp only [ne_eq, not_true_eq_false, false_or]
  by_cases h : a = []
  · subst h; simp
  · have : 0 < a.length := List.length_pos_iff.2 h
    have h1 : ¬ ((a.length : Int) < 1) := by omega
    have h2 : ¬ (((a ++ b).length : Int) < (a.length : Int)) := by rw [List.length_append]; omega
    rw [if_neg h1, if_neg h2]
    simp
theorem fixed_append (a b : List Int) (k : Int) (hk : k = a.length) (h8 : k ≤ 8) : Rd.fixed ⟨a ++ b, 0⟩ k = (num a, ⟨b, 0⟩) := by
  have e : Rd.within k = (a.length : Int) := by unfold Rd.within; omega
  rw [Rd.fixed, e, raw_append]
end Go.Proofs.Ytbpmcnfmgaolnaa
/-
  Plain laws: what is written is read, as it was; cut off anywhere it is too short.
-/
namespace Go.Proofs.Ytbpmcnfmgaolnaa
open Go.RowKit

theorem take_pre {α : Type} (a b : List α) (k : Nat) (h : k = a.length) : (a ++ b).take k = a := by subst h; simp
theorem take_over {α : Type} (a b : List α) (m : Nat) : (a ++ b).take (a.length + m) = a ++ b.take m := by
  rw [List.take_append, List.take_of_length_le (by omega)]
  congr 2; omega
theorem peek_head (x : Int) (d rest : List Int) (n most : Nat) (hs : Rd.sizeOf x = d.length) (hd : 0 < d.length) (hn : num d = n) (hl : (cnt n).length = 1 + d.length) (hm : n ≤ most) : Rd.peek (x :: (d ++ rest)) most = (n, 1 + d.length, 0) := by
  have h1 : ¬ (d ++ rest).length < d.length := by simp
  have h2 : ¬ d.length = 0 := by omega
  have h3 : (d ++ rest).take d.length = d := take_pre _ _ _ rfl
  have h4 : ¬ ((cnt n).length ≠ 1 + d.length ∨ most < n) := by omega
  simp only [Rd.peek, hs, if_neg h1, if_neg h2, h3, hn, if_neg h4]
theorem peek_cnt (n most : Nat) (rest : List Int) (hn : n < 18446744073709551616) (hm : n ≤ most) : Rd.peek (cnt n ++ rest) most = (n, (cnt n).length, 0) := by
  have pw : ∀ k, k = 2 ∨ k = 4 ∨ k = 8 → n < 256 ^ k → num (dig n k) = n := fun k _ h => by rw [num_dig, Nat.mod_eq_of_lt h]
  have hd : ∀ k, (dig n k).length = k := dig_length n
  by_cases a : n < 253
  · have e : cnt n = [(n : Int)] := by simp [cnt, a]
    have hs : Rd.sizeOf (n : Int) = 0 := by
      have h1 : ¬ (n : Int) = 253 := by omega
      have h2 : ¬ (n : Int) = 254 := by omega
      have h3 : ¬ (n : Int) = 255 := by omega
      simp [Rd.sizeOf, h1, h2, h3]
    rw [e, List.cons_append, List.nil_append]
    simp only [Rd.peek, hs, Nat.not_lt_zero, if_false, if_true, Int.toNat_natCast, Nat.add_zero, e, List.length_singleton]
    rw [if_neg (by omega)]
  · by_cases b : n < 65536
    · have e : cnt n = 253 :: dig n 2 := by simp [cnt, a, b]
      rw [e, List.cons_append, peek_head 253 (dig n 2) rest n most (by rw [hd]; rfl) (by rw [hd]; decide) (pw 2 (by simp) b) (by rw [e]; simp; omega) hm]
      simp; omega
    · by_cases c : n < 4294967296
      · have e : cnt n = 254 :: dig n 4 := by simp [cnt, a, b, c]
        rw [e, List.cons_append, peek_head 254 (dig n 4) rest n most (by rw [hd]; rfl) (by rw [hd]; decide) (pw 4 (by simp) c) (by rw [e]; simp; omega) hm]
        simp; omega
      · have e : cnt n = 255 :: dig n 8 := by simp [cnt, a, b, c]
        rw [e, List.cons_append, peek_head 255 (dig n 8) rest n most (by rw [hd]; rfl) (by rw [hd]; decide) (pw 8 (by simp) hn) (by rw [e]; simp; omega) hm]
        simp; omega
theorem peek_cut (n most k : Nat) (rest : List Int) (hk : k < (cnt n).length) : Rd.peek ((cnt n ++ rest).take k) most = (0, 0, 61) := by
  cases k with
  | zero => simp [Rd.peek]
  | succ k =>
    have key : ∀ (x : Int) (d : List Int), cnt n = x :: d → Rd.sizeOf x = d.length → Rd.peek ((cnt n ++ rest).take (k + 1)) most = (0, 0, 61) := fun x d e hs => by
      rw [e] at hk ⊢
      simp only [List.length_cons] at hk
      rw [List.cons_append, List.take_succ_cons]
      have : ((d ++ rest).take k).length < d.length := by rw [List.length_take]; omega
      simp only [Rd.peek, hs, if_pos this]
    rcases cnt_cases n with ⟨_, e⟩ | ⟨_, _, e⟩ | ⟨_, _, e⟩ | ⟨_, e⟩
    · omega
    · exact key _ _ e (by rw [dig_length]; rfl)
    · exact key _ _ e (by rw [dig_length]; rfl)
    · exact key _ _ e (by rw [dig_length]; rfl)
theorem count_append (n most : Nat) (rest : List Int) (hn : n < 18446744073709551616) (hm : n ≤ most) : Rd.count ⟨cnt n ++ rest, 0⟩ most = (n, ⟨rest, 0⟩) := by
  simp [Rd.count, peek_cnt n most rest hn hm]
theorem text_append (x rest : List Int) (hx : x.length ≤ 300) : Rd.text ⟨txt x ++ rest, 0⟩ 300 = (x, ⟨rest, 0⟩) := by
  have hp := peek_cnt x.length 300 (x ++ rest) (by omega) hx
  rw [← List.append_assoc] at hp
  have e : (max (300 : Int) 0).toNat = 300 := by decide
  have h1 : ¬ (txt x ++ rest).length - (cnt x.length).length < x.length := by simp only [txt, List.length_append]; omega
  unfold Rd.text
  rw [show cnt x.length ++ x ++ rest = txt x ++ rest from rfl] at hp
  simp only [e, hp, ne_eq, not_true_eq_false, if_false, h1]
  simp [txt]
theorem raw_short (l : List Int) (k : Int) (h : (l.length : Int) < k) : Rd.raw ⟨l, 0⟩ k = ([], ⟨l, 61⟩) := by
  have h1 : ¬ (k < 1) := by omega
  simp [Rd.raw, h1, h]
theorem text_cut (x rest : List Int) (k : Nat) (hk : k < (txt x).length) (hx : x.length ≤ 300) : ((Rd.text ⟨(txt x ++ rest).take k, 0⟩ 300).2).err = 61 := by
  have e : (max (300 : Int) 0).toNat = 300 := by decide
  unfold Rd.text
  simp only [e, ne_eq, not_true_eq_false, if_false]
  by_cases h : k < (cnt x.length).length
  · have hp := peek_cut x.length 300 k (x ++ rest) h
    rw [← List.append_assoc, show cnt x.length ++ x ++ rest = txt x ++ rest from rfl] at hp
    simp [hp]
  · obtain ⟨m, rfl⟩ : ∃ m, k = (cnt x.length).length + m := ⟨k - (cnt x.length).length, by omega⟩
    have e2 : (txt x ++ rest).take ((cnt x.length).length + m) = cnt x.length ++ (x ++ rest).take m := by
      rw [txt, List.append_assoc, take_over]
    have hp := peek_cnt x.length 300 ((x ++ rest).take m) (by omega) hx
    have hm : m < x.length := by simp [txt] at hk; omega
    have h1 : (cnt x.length ++ (x ++ rest).take m).length - (cnt x.length).length < x.length := by simp; omega
    rw [e2]
    simp only [hp, not_true_eq_false, if_false, if_pos h1]
theorem sticky (r : Rd) (m : Int) (h : r.err ≠ 0) : (r.text m).2 = r := by simp [Rd.text, h]
theorem sticky_count (r : Rd) (m : Nat) (h : r.err ≠ 0) : (r.count m).2 = r := by simp [Rd.count, h]
/-- Texts are read, one behind the other. -/
def txtRun (r : Rd) (xss : List (List Int)) : Rd := xss.foldl (fun r _ => (r.text 300).2) r
theorem txtRun_sticky (r : Rd) (h : r.err = 61) : ∀ xss : List (List Int), txtRun r xss = r
  | [] => rfl
  | x :: xss => by
    show txtRun ((r.text 300).2) xss = r
    rw [sticky r 300 (by rw [h]; decide)]
    exact txtRun_sticky r h xss
theorem txtRun_snoc (r : Rd) (xss : List (List Int)) (x : List Int) : txtRun r (xss ++ [x]) = ((txtRun r xss).text 300).2 := by simp [txtRun]
theorem txtRun_cut : ∀ (xss : List (List Int)) (k : Nat), (∀ x ∈ xss, x.length ≤ 300) → k < (xss.flatMap txt).length → (txtRun ⟨(xss.flatMap txt).take k, 0⟩ xss).err = 61
  | [], k, _, hk => by simp at hk
  | x :: xss, k, h, hk => by
    rw [List.flatMap_cons] at hk ⊢
    show (txtRun ((Rd.text ⟨(txt x ++ xss.flatMap txt).take k, 0⟩ 300).2) xss).err = 61
    by_cases hkx : k < (txt x).length
    · have h1 := text_cut x (xss.flatMap txt) k hkx (h x (by simp))
      rw [txtRun_sticky _ h1]
      exact h1
    · obtain ⟨m, rfl⟩ : ∃ m, k = (txt x).length + m := ⟨k - (txt x).length, by omega⟩
      have e2 : (txt x ++ xss.flatMap txt).take ((txt x).length + m) = txt x ++ (xss.flatMap txt).take m := by
        rw [take_over]
      rw [e2, text_append x _ (h x (by simp))]
      exact txtRun_cut xss m (fun y hy => h y (by simp [hy])) (by rw [List.length_append] at hk; omega)
/-- Cut off anywhere it is too short. -/
theorem back_cut (n : Nat) (xss : List (List Int)) (k : Nat) (hn : n < 18446744073709551616) (h : ∀ x ∈ xss, x.length ≤ 300) (hk : k < (dig n 8 ++ cnt n ++ xss.flatMap txt).length) :
    (txtRun ((((Rd.fixed ⟨(dig n 8 ++ cnt n ++ xss.flatMap txt).take k, 0⟩ 8).2).count n).2) xss).err = 61 := by
  have hd : (dig n 8).length = 8 := dig_length n 8
  have hw : Rd.within 8 = 8 := by decide
  rw [List.append_assoc] at hk ⊢
  by_cases h8 : k < 8
  · have e : Rd.fixed ⟨(dig n 8 ++ (cnt n ++ xss.flatMap txt)).take k, 0⟩ 8 = (0, ⟨(dig n 8 ++ (cnt n ++ xss.flatMap txt)).take k, 61⟩) := by
      rw [Rd.fixed, hw, raw_short _ 8 (by simp; omega)]; rfl
    rw [e]
    have hs := sticky_count ⟨(dig n 8 ++ (cnt n ++ xss.flatMap txt)).take k, 61⟩ n (by show (61 : Int) ≠ 0; decide)
    simp only [hs]
    rw [txtRun_sticky _ rfl]
  · obtain ⟨m, rfl⟩ : ∃ m, k = 8 + m := ⟨k - 8, by omega⟩
    have e2 : (dig n 8 ++ (cnt n ++ xss.flatMap txt)).take (8 + m) = dig n 8 ++ (cnt n ++ xss.flatMap txt).take m := by
      rw [List.take_append, hd]
      congr 1
      · rw [List.take_of_length_le (by omega)]
      · congr 1; omega
    rw [e2, fixed_append (dig n 8) _ 8 (by rw [hd]; rfl) (by decide)]
    simp only
    by_cases hc : m < (cnt n).length
    · have e : Rd.count ⟨(cnt n ++ xss.flatMap txt).take m, 0⟩ n = (0, ⟨(cnt n ++ xss.flatMap txt).take m, 61⟩) := by
        simp [Rd.count, peek_cut n n m _ hc]
      rw [e, txtRun_sticky _ rfl]
    · obtain ⟨j, rfl⟩ : ∃ j, m = (cnt n).length + j := ⟨m - (cnt n).length, by omega⟩
      have e3 : (cnt n ++ xss.flatMap txt).take ((cnt n).length + j) = cnt n ++ (xss.flatMap txt).take j := by
        rw [take_over]
      rw [e3, count_append n n _ hn (Nat.le_refl _)]
      exact txtRun_cut xss j h (by simp only [List.length_append] at hk; omega)
end Go.Proofs.Ytbpmcnfmgaolnaa
