/-
  The document's numbers and texts as bytes: Fixed, Count, Text, number.
-/
import Derived.Test.YtfloclamdpageaaPieceE
namespace Go.Proofs.Ytfloclamdpageaa
open Go.RowKit

set_option maxHeartbeats 1000000 in
set_option maxRecDepth 100000 in
theorem reffixed_any (w0 w : World) (n k : Int) (hb : Below w0.heap.size w0 w) (hn : 0 ≤ n) (hn2 : n < 18446744073709551616) :
    Calls Try.prog 65 #[.int .u64 n, .int .i64 k] w (MinePost 5 w0 none (dig n.toNat (Rd.within k).toNat)) := by
  obtain ⟨n, rfl⟩ : ∃ kk : Nat, n = kk := ⟨n.toNat, by omega⟩
  obtain ⟨K, hK⟩ : ∃ K : Nat, K = (Rd.within k).toNat := ⟨_, rfl⟩
  rw [← hK]
  have hK1 : (K : Int) ≤ 8 ∧ ((K : Int) ≤ k ∨ K = 0) ∧ ((K : Int) < 8 → k ≤ K) := by rw [hK]; unfold Rd.within; omega
  have HK := hide hK1
  have k8 := hK1.1
  have hnU : U64 n := ⟨hn, hn2⟩
  clear hn2 hK hK1
  go_enter Try.func65, Try.ntmps65
  go_wp2
  go_loopw [0, 5, 6] (fun m b t wr => ∃ (j mm : Nat) (A' : Option Addr) (l' c' : Nat), j ≤ K ∧ b = .slice A' l' c' ∧ mm = n / 256 ^ j ∧ m = .int .u64 (mm : Int) ∧ t = .int .i64 j ∧ Mine 5 w0 wr A' l' c' (dig n j) ∧ Fr w0 A') (fun _ _ t _ => K - (intOf t).toNat)
  case atStart => exact ⟨0, n, _, 0, 0, by omega, rfl, by simp, rfl, rfl, Mine.nil (hb.trans (((Below.refl _ w).alloc (Nat.le_refl _) _).mono hb.size)) _, Fr.new w w0 hb.size 0⟩
  case round =>
    obtain ⟨j, m, A', l', c', hj, rfl, hm, rfl, rfl, ht, hf⟩ := hrel
    have HM := hide hm
    have m0 : (0 : Int) ≤ (m : Int) := by omega
    have hl' : l' = j := by rw [← ht.len, dig_length]
    have HL := hide hl'
    have HF := hide hf
    have hdv : IntKind.u64.wrap ((m : Int) / 256) = (m : Int) / 256 := by
      have h1 : m ≤ n := by rw [hm]; exact Nat.div_le_self _ _
      have h2 := hnU.2
      rw [IntKind.wrap_u64]; omega
    clear hm hl' hf
    by_cases hlt : j < K
    · have hw : IntKind.u8.wrap ((m : Int) % 256) = (m : Int) % 256 := by rw [u8_wrap]; omega
      have b1 := Bys.one wr 5 ((m : Int) % 256) (by omega) (by omega)
      have d1 : decide ((j : Int) < k) = true := by have := HK.out; simp; omega
      have d2 : decide ((j : Int) < 8) = true := by have := HK.out; simp; omega
      go_wp2_with (at_builtin; refine wpList_app rfl _ _ rfl w0 A' l' c' (dig n j) (by rfl) (ht.alloc _) (some ⟨wr.heap.size, 0, none⟩) 1 1 [(m : Int) % 256] (by rfl) b1 (by rw [HL.out]; omega) ?_; intro A2 n2 c2 w2 t2 f2)
      go_wp2
      refine ⟨⟨j + 1, m / 256, A2, n2, c2, by omega, rfl, ?_, by simp, by simp, ?_, f2 (.inl HF.out)⟩, by simp [intOf]; omega⟩
      · rw [HM.out, Nat.div_div_eq_div_mul, Nat.pow_succ]
      · have e : ((m : Int) % 256) = ((n / 256 ^ j % 256 : Nat) : Int) := by rw [← HM.out]; omega
        rw [dig_snoc, ← e]
        exact t2
    · obtain rfl : j = K := by omega
      by_cases h8 : (j : Int) < 8
      · have d1 : decide ((j : Int) < k) = false := by have := HK.out; simp; omega
        go_wp2
        go_ret
        exact MinePost.mk (by simpa using ht) HF.out
      · have d2 : decide ((j : Int) < 8) = false := by simp; omega
        by_cases hk : (j : Int) < k
        · have d1 : decide ((j : Int) < k) = true := by simpa using hk
          go_wp2
          go_ret
          exact MinePost.mk (by simpa using ht) HF.out
        · have d1 : decide ((j : Int) < k) = false := by simpa using hk
          go_wp2
          go_ret
          exact MinePost.mk (by simpa using ht) HF.out
set_option maxHeartbeats 1000000 in
set_option maxRecDepth 100000 in
theorem refcount_any (w0 w : World) (n : Int) (hb : Below w0.heap.size w0 w) (hn : 0 ≤ n) (hn2 : n < 18446744073709551616) :
    Calls Try.prog 61 #[.int .u64 n] w (MinePost 5 w0 none (cnt n.toNat)) := by
  have HU : U64 n := ⟨hn, hn2⟩
  clear hn2
  have one : ∀ x : Int, 0 ≤ x → x ≤ 255 → Mine 5 w0 (w.alloc (.cells #[.int .u8 x] 5)) (some ⟨w.heap.size, 0, none⟩) 1 1 [x] := fun x h0 h1 =>
    Mine.full (hb.trans (((Below.refl _ w).alloc (Nat.le_refl _) _).mono hb.size)) (Bys.one w _ x h0 h1)
  have frn : Fr w0 (some ⟨w.heap.size, 0, none⟩) := Fr.new w w0 hb.size 0
  by_cases h1 : n < 253
  · have E := hide (cnt1 n hn h1)
    have hw : IntKind.u8.wrap n = n := by rw [u8_wrap]; omega
    have h1' : n ≤ 252 := by omega
    have M := hide (one n (by omega) (by omega))
    clear one
    go_enter Try.func61, Try.ntmps61
    go_wp2
    go_ret
    rw [E.out]
    exact MinePost.mk M.out frn
  · by_cases h2 : n < 65536
    · have E := hide (cnt2 n (by omega) h2)
      have t1 : decide (n ≤ 252) = false := by simp; omega
      have t2 : decide (n ≤ 65535) = true := by simp; omega
      have M := one 253 (by omega) (by omega)
      clear h1 h2 one
      go_enter Try.func61, Try.ntmps61
      go_wp2_with fail
      refine (reffixed_any _ _ n 2 (Below.refl _ _) HU.1 HU.2).mono ?_
      rintro e w3 ⟨A3, n3, c3, rfl, t3, _⟩
      have hl3 : 1 + n3 ≤ 140737488355328 := by have := t3.len; rw [dig_length] at this; simp [Rd.within] at this; omega
      have M2 := M.keep t3.below
      go_wp2_with (at_builtin; refine wpList_app rfl _ _ rfl w0 _ 1 1 [253] (by rfl) M2 A3 n3 c3 _ (by rfl) t3.bys hl3 ?_; intro A4 n4 c4 w4 t4 f4)
      go_ret
      rw [E.out]
      exact MinePost.mk t4 (f4 (.inl frn))
    · by_cases h3 : n < 4294967296
      · have E := hide (cnt4 n (by omega) h3)
        have t1 : decide (n ≤ 252) = false := by simp; omega
        have t2 : decide (n ≤ 65535) = false := by simp; omega
        have t3 : decide (n ≤ 4294967295) = true := by simp; omega
        have M := one 254 (by omega) (by omega)
        clear h1 h2 h3 one
        go_enter Try.func61, Try.ntmps61
        go_wp2_with fail
        refine (reffixed_any _ _ n 4 (Below.refl _ _) HU.1 HU.2).mono ?_
        rintro e w3 ⟨A3, n3, c3, rfl, t3, _⟩
        have hl3 : 1 + n3 ≤ 140737488355328 := by have := t3.len; rw [dig_length] at this; simp [Rd.within] at this; omega
        have M2 := M.keep t3.below
        go_wp2_with (at_builtin; refine wpList_app rfl _ _ rfl w0 _ 1 1 [254] (by rfl) M2 A3 n3 c3 _ (by rfl) t3.bys hl3 ?_; intro A4 n4 c4 w4 t4 f4)
        go_ret
        rw [E.out]
        exact MinePost.mk t4 (f4 (.inl frn))
      · have E := hide (cnt8 n (by omega))
        have t1 : decide (n ≤ 252) = false := by simp; omega
        have t2 : decide (n ≤ 65535) = false := by simp; omega
        have t3 : decide (n ≤ 4294967295) = false := by simp; omega
        have M := one 255 (by omega) (by omega)
        clear h1 h2 h3 one
        go_enter Try.func61, Try.ntmps61
        go_wp2_with fail
        refine (reffixed_any _ _ n 8 (Below.refl _ _) HU.1 HU.2).mono ?_
        rintro e w3 ⟨A3, n3, c3, rfl, t3, _⟩
        have hl3 : 1 + n3 ≤ 140737488355328 := by have := t3.len; rw [dig_length] at this; simp [Rd.within] at this; omega
        have M2 := M.keep t3.below
        go_wp2_with (at_builtin; refine wpList_app rfl _ _ rfl w0 _ 1 1 [255] (by rfl) M2 A3 n3 c3 _ (by rfl) t3.bys hl3 ?_; intro A4 n4 c4 w4 t4 f4)
        go_ret
        rw [E.out]
        exact MinePost.mk t4 (f4 (.inl frn))
set_option maxHeartbeats 1000000 in
set_option maxRecDepth 100000 in
theorem reftext_any (w0 w : World) (A : Option Addr) (n c : Nat) (bs : List Int) (hb : Below w0.heap.size w0 w) (hB : Bys w A n bs) (hn : n ≤ 1000000000) :
    Calls Try.prog 66 #[.slice A n c] w (MinePost 5 w0 none (txt bs)) := by
  have hu : IntKind.u64.wrap (n : Int) = (n : Int) := by rw [IntKind.wrap_u64]; omega
  have E : Hid (txt bs = cnt n ++ bs) := hide (by rw [txt, hB.1])
  go_enter Try.func66, Try.ntmps66
  go_wp2_with fail
  refine (refcount_any w w n (Below.refl _ _) (by omega) (by omega)).mono ?_
  rintro e w3 ⟨A3, n3, c3, rfl, t3, f3⟩
  have hl3 : n3 + n ≤ 140737488355328 := by have := t3.len; have := (cnt_length (n : Int).toNat).2; omega
  go_wp2_with (at_builtin; refine wpList_app rfl _ _ rfl w A3 n3 c3 _ (by rfl) t3 A n c bs (by rfl) (t3.old hB) hl3 ?_; intro A4 n4 c4 w4 t4 f4)
  go_ret
  rw [E.out]
  exact MinePost.mk (t4.older hb) ((f4 (.inl (f3 (Fr.none _)))).older hb)
end Go.Proofs.Ytfloclamdpageaa
