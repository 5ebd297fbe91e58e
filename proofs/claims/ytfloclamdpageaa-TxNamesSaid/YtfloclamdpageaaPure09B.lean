/-
  A coin's bytes, read: plain functions, no program in sight.
-/
import Derived.Test.YtfloclamdpageaaPure09
namespace Go.Proofs.Ytfloclamdpageaa
open Go.RowKit

def zeroC : CoinD := ⟨⟨0, []⟩, 0, false⟩
def parse (b : List Int) : CoinD × Int :=
  if ((Rd.count ⟨b, 0⟩ 2000000001).2.fixed 8).2.err = 0 ∧ ¬ money (i64 ((Rd.count ⟨b, 0⟩ 2000000001).2.fixed 8).1) then (zeroC, 62)
  else if (((Rd.count ⟨b, 0⟩ 2000000001).2.fixed 8).2.text 2000).2.err ≠ 0 then (zeroC, (((Rd.count ⟨b, 0⟩ 2000000001).2.fixed 8).2.text 2000).2.err)
  else if 0 < (((Rd.count ⟨b, 0⟩ 2000000001).2.fixed 8).2.text 2000).2.rest.length then (zeroC, 62)
  else (⟨⟨i64 ((Rd.count ⟨b, 0⟩ 2000000001).2.fixed 8).1, (((Rd.count ⟨b, 0⟩ 2000000001).2.fixed 8).2.text 2000).1⟩, ((Rd.count ⟨b, 0⟩ 2000000001).1 : Int) / 2, decide (((Rd.count ⟨b, 0⟩ 2000000001).1 : Int) % 2 = 1)⟩, 0)
theorem count_most (r : Rd) (m : Nat) : (r.count m).1 ≤ m := by
  unfold Rd.count
  split
  · exact Nat.zero_le _
  · exact peek_most _ _
theorem raw_byt (r : Rd) (n : Int) (h : Byt r.rest) : Byt (r.raw n).1 := by
  unfold Rd.raw
  split
  · intro x hx; cases hx
  · split
    · intro x hx; cases hx
    · intro x hx; exact h x (List.mem_of_mem_take hx)
theorem fixed_u64 (r : Rd) (n : Int) (h : Byt r.rest) : (r.fixed n).1 < 18446744073709551616 := by
  have h1 := num_lt _ (raw_byt r (Rd.within n) h)
  have h2 := raw_length r (Rd.within n) 8 (within_range n).2
  have h3 : 256 ^ (r.raw (Rd.within n)).1.length ≤ 256 ^ 8 := Nat.pow_le_pow_right (by decide) h2
  unfold Rd.fixed
  simp only
  have h4 : (256 : Nat) ^ 8 = 18446744073709551616 := by decide
  omega
theorem i64_wrap (n : Int) (h0 : 0 ≤ n) (h1 : n < 18446744073709551616) : IntKind.i64.wrap n = i64 n := by
  rw [IntKind.wrap_i64]
  unfold i64
  split <;> omega
theorem i64_range (n : Int) (h0 : 0 ≤ n) (h1 : n < 18446744073709551616) : -9223372036854775808 ≤ i64 n ∧ i64 n ≤ 9223372036854775807 := by
  unfold i64
  split <;> omega
end Go.Proofs.Ytfloclamdpageaa
