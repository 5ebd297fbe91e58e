/-
  Plain laws on numbers and texts as bytes.
-/
import Derived.Test.YtfloclamdpageaaRefSixC
namespace Go.Proofs.Ytfloclamdpageaa
open Go.RowKit

theorem dig_cons (n k : Nat) : dig n (k + 1) = ((n % 256 : Nat) : Int) :: dig (n / 256) k := by
  simp only [dig, List.range_succ_eq_map, List.map_cons, List.map_map, Nat.pow_zero, Nat.div_one]
  congr 1
  apply List.map_congr_left
  intro i _
  simp only [Function.comp, Nat.succ_eq_add_one]
  rw [Nat.div_div_eq_div_mul, Nat.pow_succ, Nat.mul_comm]
theorem dig_num (l : List Int) (h : Byt l) : dig (num l) l.length = l := by
  induction l with
  | nil => rfl
  | cons x l ih =>
    have h1 := ih (fun y hy => h y (by simp [hy]))
    have h2 := h x (by simp)
    rw [List.length_cons, dig_cons, num]
    have e1 : (x.toNat + 256 * num l) / 256 = num l := by omega
    have e2 : (((x.toNat + 256 * num l) % 256 : Nat) : Int) = x := by omega
    rw [e1, e2, h1]
theorem cnt_cases (n : Nat) : (n < 253 ∧ (cnt n).length = 1) ∨ (253 ≤ n ∧ n < 65536 ∧ cnt n = 253 :: dig n 2) ∨ (65536 ≤ n ∧ n < 4294967296 ∧ cnt n = 254 :: dig n 4) ∨ (4294967296 ≤ n ∧ cnt n = 255 :: dig n 8) := by
  unfold cnt
  by_cases a : n < 253
  · left; simp [a]
  · by_cases b : n < 65536
    · right; left; simp [a, b]; omega
    · by_cases c : n < 4294967296
      · right; right; left; simp [a, b, c]; omega
      · right; right; right; simp [a, b, c]; omega
theorem cnt_by_length (n s : Nat) (h : (cnt n).length = 1 + s) (hs : 0 < s) : (s = 2 ∧ cnt n = 253 :: dig n 2) ∨ (s = 4 ∧ cnt n = 254 :: dig n 4) ∨ (s = 8 ∧ cnt n = 255 :: dig n 8) := by
  rcases cnt_cases n with ⟨_, e⟩ | ⟨_, _, e⟩ | ⟨_, _, e⟩ | ⟨_, e⟩
  · omega
  · rw [e] at h; simp [dig_length] at h; exact .inl ⟨by omega, e⟩
  · rw [e] at h; simp [dig_length] at h; exact .inr (.inl ⟨by omega, e⟩)
  · rw [e] at h; simp [dig_length] at h; exact .inr (.inr ⟨by omega, e⟩)
/-- A count that is read is written as the bytes that were read. -/
theorem peek_back (b : List Int) (most : Nat) (hb : Byt b) (N U : Nat) (hp : Rd.peek b most = (N, U, 0)) : cnt N = b.take U ∧ U ≤ b.length ∧ N ≤ most := by
  have h1 := peek_used b most
  have h2 := peek_most b most
  rw [hp] at h1 h2
  refine ⟨?_, h1, h2⟩
  cases b with
  | nil => simp [Rd.peek] at hp
  | cons x l =>
    have hx := hb x (by simp)
    have hl : Byt l := fun y hy => hb y (by simp [hy])
    simp only [Rd.peek] at hp
    split at hp
    · simp at hp
    · rename_i hsh
      by_cases hz : Rd.sizeOf x = 0
      · simp only [hz, if_true] at hp
        split at hp
        · simp at hp
        · rename_i hq
          simp only [Prod.mk.injEq] at hp
          obtain ⟨rfl, rfl, _⟩ := hp
          have hx2 : x < 253 := by rcases sizes2 x hx.2 with h | h | h | h <;> omega
          rw [cnt1 x hx.1 hx2]
          rfl
      · simp only [hz, if_false] at hp
        split at hp
        · simp at hp
        · rename_i hq
          simp only [Prod.mk.injEq] at hp
          obtain ⟨rfl, rfl, _⟩ := hp
          have hq1 : (cnt (num (l.take (Rd.sizeOf x)))).length = 1 + Rd.sizeOf x := by
            apply Classical.byContradiction; intro h; exact hq (.inl h)
          have hlen : (l.take (Rd.sizeOf x)).length = Rd.sizeOf x := by rw [List.length_take]; omega
          have hd := dig_num (l.take (Rd.sizeOf x)) (fun y hy => hl y (List.mem_of_mem_take hy))
          rw [hlen] at hd
          rw [Nat.add_comm, List.take_succ_cons]
          rcases cnt_by_length _ _ hq1 (by omega) with ⟨e, h⟩ | ⟨e, h⟩ | ⟨e, h⟩
          all_goals
            rw [h]
            rw [e] at hd ⊢
            rw [hd]
            congr 1
            rcases sizes2 x hx.2 with h | h | h | h <;> omega
theorem raw_append (a b : List Int) : Rd.raw ⟨a ++ b, 0⟩ (a.length : Int) = (a, ⟨b, 0⟩) := by
  unfold Rd.raw
  simp only [ne_eq, not_true_eq_false, false_or]
  by_cases h : a = []
  · subst h; simp
  · have : 0 < a.length := List.length_pos_iff.2 h
    have h1 : ¬ ((a.length : Int) < 1) := by omega
    have h2 : ¬ (((a ++ b).length : Int) < (a.length : Int)) := by rw [List.length_append]; omega
    rw [if_neg h1, if_neg h2]
    simp
theorem fixed_append (a b : List Int) (k : Int) (hk : k = a.length) (h8 : k ≤ 8) : Rd.fixed ⟨a ++ b, 0⟩ k = (num a, ⟨b, 0⟩) := by
  have e : Rd.within k = (a.length : Int) := by unfold Rd.within; omega
  rw [Rd.fixed, e, raw_append]
end Go.Proofs.Ytfloclamdpageaa
