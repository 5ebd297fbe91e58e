/-
  bynamelaw06.PieceSizes answers true. No condition.
-/
import Derived.Test.YtjipgimnhkliaaaPieceL
import Derived.Test.YtjipgimnhkliaaaPure06B
namespace Go.Proofs.Ytjipgimnhkliaaa
open Go.RowKit

theorem raw_append (a b : List Int) : Rd.raw ⟨a ++ b, 0⟩ (a.length : Int) = (a, ⟨b, 0⟩) := by
  unfold Rd.raw
  simp only [ne_eq, not_true_eq_false, false_or]
  by_cases h : a = []
  · subst h; simp
  · have : 0 < a.length := List.length_pos_iff.2 h
    have h1 : ¬ ((a.length : Int) < 1) := by omega
    have h2 : ¬ (((a ++ b).length : Int) < (a.length : Int)) := by rw [List.length_append]; omega
    rw [if_neg h1, if_neg h2]
    simp
theorem fixed_append (a b : List Int) (k : Int) (hk : k = a.length) (h8 : k ≤ 8) : Rd.fixed ⟨a ++ b, 0⟩ k = (num a, ⟨b, 0⟩) := by
  have e : Rd.within k = (a.length : Int) := by unfold Rd.within; omega
  rw [Rd.fixed, e, raw_append]
theorem and_mask (n : Nat) (K : Nat) (hK : K < 8) (hn : n < 18446744073709551616) : bits .and .u64 (n : Int) ((256 ^ K : Nat) - 1 : Int) = ((n % 256 ^ K : Nat) : Int) := by
  have hp : 1 ≤ 256 ^ K := Nat.pos_of_ne_zero (by simp)
  have h7 : 256 ^ K ≤ 256 ^ 7 := Nat.pow_le_pow_right (by decide) (by omega)
  have e : ((256 ^ K : Nat) - 1 : Int) = ((256 ^ K - 1 : Nat) : Int) := by omega
  rw [e, u64_and_nat _ _ hn (by omega)]
  congr 1
  have : 256 ^ K = 2 ^ (8 * K) := by rw [Nat.pow_mul]
  rw [this, Nat.and_two_pow_sub_one_eq_mod]
theorem shl_one (K : Nat) (hK : K < 8) : IntKind.u64.wrap ((2 : Int) ^ (8 * K)) = ((256 ^ K : Nat) : Int) := by
  have e : (2 : Int) ^ (8 * K) = ((256 ^ K : Nat) : Int) := by
    rw [Int.pow_mul]; simp
  have h7 : 256 ^ K ≤ 256 ^ 7 := Nat.pow_le_pow_right (by decide) (by omega)
  rw [e, IntKind.wrap_u64]
  generalize 256 ^ K = P at *
  omega
set_option maxHeartbeats 4000000 in
set_option maxRecDepth 100000 in
theorem psizes_skip (w : World) (n size : Int) (A : Option Addr) (m c : Nat) (h : size < 0 ∨ 8 < size ∨ 100 < m) :
    Calls Try.prog 11 #[.int .u64 n, .int .i64 size, .slice A m c] w fun e w' => e = .returned (.bool true) ∧ Below w.heap.size w w' := by
  have key : size < 0 ∨ (0 ≤ size ∧ 8 < size) ∨ (0 ≤ size ∧ size ≤ 8 ∧ (100 : Int) < (m : Int)) := by omega
  clear h
  rcases key with h1 | ⟨h1, h2⟩ | ⟨h1, h2, h3⟩
  all_goals
    go_enter Try.func11, Try.ntmps11
    go_wp2_with fail
    refine (palive_any w).mono ?_
    rintro e w1 ⟨rfl, hb1⟩
    go_wp2
    go_ret
    exact ⟨rfl, hb1⟩
set_option maxHeartbeats 4000000 in
set_option maxRecDepth 100000 in
theorem psizes_any (w : World) (n size : Int) (A : Option Addr) (m c : Nat) (bs : List Int) (hB : Bys w A m bs) (hn : U64 n) (h0 : 0 ≤ size) (h8 : size ≤ 8) (hm : (m : Int) ≤ 100) :
    Calls Try.prog 11 #[.int .u64 n, .int .i64 size, .slice A m c] w fun e w' => e = .returned (.bool true) ∧ Below w.heap.size w w' := by
  obtain ⟨K, rfl⟩ : ∃ K : Nat, size = K := ⟨size.toNat, by omega⟩
  have hn0 := hn.1
  have hW : (Rd.within (K : Int)).toNat = K := by unfold Rd.within; omega
  have HW := hide hW
  clear hW
  go_enter Try.func11, Try.ntmps11
  go_wp2_with fail
  refine (palive_any w).mono ?_
  rintro e w1 ⟨rfl, hb1⟩
  go_wp2_with fail
  refine (Fixed_any w1 w1 none 0 0 [] n K (Below.refl _ _) (Bys.nil _ _) hn.1 hn.2 (by decide)).mono ?_
  rintro e w2 ⟨A2, n2, c2, rfl, t2, f2⟩
  rw [HW.out, List.nil_append] at t2
  have hl2 : n2 + m ≤ 140737488355328 := by have := t2.len; rw [dig_length] at this; omega
  have B2 := (hB.below hb1).below t2.below
  go_wp2_with (at_builtin; refine wpList_app rfl _ _ rfl w1 A2 n2 c2 _ (by rfl) t2 A m c bs (by rfl) B2 hl2 ?_; intro A3 n3 c3 w3 t3 f3)
  have hl3 : n3 ≤ 1000 := by rw [← t3.len, List.length_append, dig_length, hB.1]; omega
  refine (New_any w3 A3 n3 c3 _ t3.bys (by omega)).mono ?_
  rintro e w4 ⟨g, h, rfl, hR, hg, hh, hb4⟩
  have b4 : Below w.heap.size w w4 := Below.then_ (Below.then_ hb1 t3.below) hb4
  have B4 : Bys w4 A m bs := hB.below b4
  have e1 := fixed_append (dig n.toNat K) bs (K : Int) (by rw [dig_length]) h8
  have hsz := t3.below.size
  have hsz1 := hb1.size
  clear hl2 hl3
  go_wp2_with fail
  refine (RFixed_any w4 g h _ K hR).mono ?_
  rw [e1]
  rintro e w5 ⟨rfl, hR5, ho5⟩
  have b5 := ho5.under b4 (fun i hi => by omega)
  have B5 : Bys w5 A m bs := hB.below b5
  clear e1
  go_wp2_with fail
  refine (Left_any w5 g h _ hR5).mono ?_
  rintro e w6 ⟨rfl, rfl⟩
  have HL := hide hB.1
  simp only [HL.out]
  have e2 := raw_append bs []
  rw [List.append_nil, HL.out] at e2
  go_wp2_with fail
  refine (Raw_any w5 g h _ m hR5).mono ?_
  rw [e2]
  rintro e w6 ⟨A6, n6, c6, rfl, B6, _, f6, hR6, ho6⟩
  have b6 := ho6.under b5 (fun i hi => by omega)
  have B6' : Bys w6 A m bs := hB.below b6
  obtain ⟨S, hS⟩ : ∃ S, S = ba bs := ⟨_, rfl⟩
  have s1 := run_str w6 A6 n6 c6 _ B6
  have s2 := run_str w6 A m c _ B6'
  rw [← hS] at s1 s2
  have hnum : num (dig n.toNat K) = n.toNat % 256 ^ K := num_dig _ _
  rw [hnum]
  have e3 : Rd.raw ⟨[], 0⟩ 1 = ([], ⟨[], 61⟩) := by rfl
  clear e2 hS hnum
  by_cases hK : K < 8
  · have d8 : decide ((K : Int) < 8) = true := by simp; omega
    have hsh := shl_one K hK
    have ham := and_mask n.toNat K hK (by have := hn.2; omega)
    have hP1 : 1 ≤ 256 ^ K := Nat.pos_of_ne_zero (by simp)
    have hP2 : 256 ^ K ≤ 256 ^ 7 := Nat.pow_le_pow_right (by decide) (by omega)
    have en : ((n.toNat : Nat) : Int) = n := by omega
    rw [en] at ham
    generalize 256 ^ K = P at *
    generalize n.toNat % P = q at *
    have hw1 : IntKind.u64.wrap ((P : Int) - 1) = (P : Int) - 1 := by rw [IntKind.wrap_u64]; omega
    clear hP1 hP2 hK en
    go_wp2_with fail
    refine (Left_any w6 g h _ hR6).mono ?_
    rintro e w7 ⟨rfl, rfl⟩
    go_wp2_with fail
    refine (Err_any w6 g h _ hR6).mono ?_
    rintro e w7 ⟨rfl, rfl⟩
    go_wp2_with fail
    refine (Raw_any w6 g h _ 1 hR6).mono ?_
    rw [e3]
    rintro e w7 ⟨A7, n7, c7, rfl, B7, _, f7, hR7, ho7⟩
    have b7 := ho7.under b6 (fun i hi => by omega)
    obtain rfl : n7 = 0 := B7.1.symm
    go_wp2_with fail
    refine (Err_any w7 g h _ hR7).mono ?_
    rintro e w8 ⟨rfl, rfl⟩
    go_wp2
    go_ret
    exact ⟨rfl, b7⟩
  · obtain rfl : K = 8 := by omega
    have eq8 : n.toNat % 256 ^ 8 = n.toNat := Nat.mod_eq_of_lt (by have := hn.2; omega)
    have en : ((n.toNat : Nat) : Int) = n := by omega
    rw [eq8, en]
    clear eq8 en hK
    go_wp2_with fail
    refine (Left_any w6 g h _ hR6).mono ?_
    rintro e w7 ⟨rfl, rfl⟩
    go_wp2_with fail
    refine (Err_any w6 g h _ hR6).mono ?_
    rintro e w7 ⟨rfl, rfl⟩
    go_wp2_with fail
    refine (Raw_any w6 g h _ 1 hR6).mono ?_
    rw [e3]
    rintro e w7 ⟨A7, n7, c7, rfl, B7, _, f7, hR7, ho7⟩
    have b7 := ho7.under b6 (fun i hi => by omega)
    obtain rfl : n7 = 0 := B7.1.symm
    go_wp2_with fail
    refine (Err_any w7 g h _ hR7).mono ?_
    rintro e w8 ⟨rfl, rfl⟩
    go_wp2
    go_ret
    exact ⟨rfl, b7⟩
theorem psizes_all (w : World) (n size : Int) (A : Option Addr) (m c : Nat) (bs : List Int) (hB : Bys w A m bs) (hn : U64 n) :
    Calls Try.prog 11 #[.int .u64 n, .int .i64 size, .slice A m c] w fun e w' => e = .returned (.bool true) ∧ Below w.heap.size w w' := by
  by_cases h : size < 0 ∨ 8 < size ∨ 100 < m
  · exact psizes_skip w n size A m c h
  · exact psizes_any w n size A m c bs hB hn (by omega) (by omega) (by omega)
end Go.Proofs.Ytjipgimnhkliaaa
