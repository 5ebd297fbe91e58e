/-
  Numbers and texts as bytes, and how they are read: plain functions, no program in sight.
-/
import Derived.Test.YtfloclamdpageaaBytes
namespace Go.Proofs.Ytfloclamdpageaa
open Go.RowKit

/-- A number's lowest k bytes. -/
def dig (n k : Nat) : List Int := (List.range k).map fun i => ((n / 256 ^ i % 256 : Nat) : Int)
theorem dig_length (n k : Nat) : (dig n k).length = k := by simp [dig]
theorem dig_zero (n : Nat) : dig n 0 = [] := rfl
theorem dig_snoc (n k : Nat) : dig n (k + 1) = dig n k ++ [((n / 256 ^ k % 256 : Nat) : Int)] := by simp [dig, List.range_succ]
theorem dig_byt (n k : Nat) : Byt (dig n k) := by
  intro x hx
  simp only [dig, List.mem_map] at hx
  obtain ⟨i, _, rfl⟩ := hx
  omega
/-- A number in as many bytes as it needs. -/
def cnt (n : Nat) : List Int :=
  if n < 253 then [(n : Int)] else if n < 65536 then 253 :: dig n 2 else if n < 4294967296 then 254 :: dig n 4 else 255 :: dig n 8
theorem cnt_byt (n : Nat) : Byt (cnt n) := by
  unfold cnt
  split
  · intro x hx; simp at hx; omega
  all_goals (try split)
  all_goals (try split)
  all_goals
    intro x hx
    rcases List.mem_cons.1 hx with h | h
    · omega
    · exact dig_byt _ _ x h
theorem cnt_length (n : Nat) : 1 ≤ (cnt n).length ∧ (cnt n).length ≤ 9 := by
  unfold cnt
  repeat' split
  all_goals simp [dig_length]
/-- Bytes with their length. -/
def txt (b : List Int) : List Int := cnt b.length ++ b
/-- The number of bytes, the lowest first. -/
def num : List Int → Nat
  | [] => 0
  | x :: l => x.toNat + 256 * num l
theorem num_lt (l : List Int) (h : Byt l) : num l < 256 ^ l.length := by
  induction l with
  | nil => simp [num]
  | cons x l ih =>
    have h1 := ih (fun y hy => h y (by simp [hy]))
    have h2 := h x (by simp)
    simp only [num, List.length_cons, Nat.pow_succ]
    omega
theorem num_append (a b : List Int) : num (a ++ b) = num a + 256 ^ a.length * num b := by
  induction a with
  | nil => simp [num]
  | cons x a ih =>
    simp only [List.cons_append, num, ih, List.length_cons, Nat.pow_succ, Nat.mul_add]
    rw [Nat.mul_comm (256 ^ a.length) 256, Nat.mul_assoc, Nat.add_assoc]
theorem num_dig (n k : Nat) : num (dig n k) = n % 256 ^ k := by
  induction k with
  | zero => simp [dig, num, Nat.mod_one]
  | succ k ih =>
    rw [dig_snoc, num_append, ih, dig_length]
    simp only [num, Int.toNat_natCast, Nat.mul_zero, Nat.add_zero]
    rw [Nat.pow_succ, Nat.mod_mul]
/-- What is read, and why it can't go on. -/
structure Rd where
  rest : List Int
  err : Int
namespace Rd
def raw (r : Rd) (n : Int) : List Int × Rd :=
  if r.err ≠ 0 ∨ n < 1 then ([], r) else if (r.rest.length : Int) < n then ([], { r with err := 61 }) else (r.rest.take n.toNat, { r with rest := r.rest.drop n.toNat })
/-- A size from 0 to 8. -/
def within (n : Int) : Int := max 0 (min n 8)
def fixed (r : Rd) (n : Int) : Nat × Rd := (num (r.raw (within n)).1, (r.raw (within n)).2)
def sizeOf (x : Int) : Nat := if x = 253 then 2 else if x = 254 then 4 else if x = 255 then 8 else 0
/-- The next count, and how many bytes it has; or what is wrong. -/
def peek (b : List Int) (most : Nat) : Nat × Nat × Int :=
  match b with
  | [] => (0, 0, 61)
  | x :: l =>
    if l.length < sizeOf x then (0, 0, 61)
    else
      let n := if sizeOf x = 0 then x.toNat else num (l.take (sizeOf x))
      if (cnt n).length ≠ 1 + sizeOf x ∨ most < n then (0, 0, 62) else (n, 1 + sizeOf x, 0)
def count (r : Rd) (most : Nat) : Nat × Rd :=
  if r.err ≠ 0 then (0, r) else ((peek r.rest most).1, { rest := r.rest.drop (peek r.rest most).2.1, err := (peek r.rest most).2.2 })
def text (r : Rd) (most : Int) : List Int × Rd :=
  if r.err ≠ 0 then ([], r)
  else if (peek r.rest (max most 0).toNat).2.2 ≠ 0 then ([], { r with err := (peek r.rest (max most 0).toNat).2.2 })
  else if r.rest.length - (peek r.rest (max most 0).toNat).2.1 < (peek r.rest (max most 0).toNat).1 then ([], { r with err := 61 })
  else ((r.rest.drop (peek r.rest (max most 0).toNat).2.1).take (peek r.rest (max most 0).toNat).1, { r with rest := (r.rest.drop (peek r.rest (max most 0).toNat).2.1).drop (peek r.rest (max most 0).toNat).1 })
end Rd
end Go.Proofs.Ytfloclamdpageaa
