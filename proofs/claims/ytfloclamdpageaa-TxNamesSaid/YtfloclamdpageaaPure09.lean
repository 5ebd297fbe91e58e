/-
  Amounts, coins and outputs as bytes: plain functions, no program in sight.
-/
import Derived.Test.YtfloclamdpageaaPure06C
namespace Go.Proofs.Ytfloclamdpageaa
open Go.RowKit

def money (n : Int) : Prop := 0 ≤ n ∧ n ≤ 2000000000000
instance (n : Int) : Decidable (money n) := by unfold money; infer_instance
/-- All together, and the error's number; s: what has been summed. -/
def sumFrom : List Int → Int → Int × Int
  | [], s => (s, 0)
  | v :: l, s => if money v ∧ money (s + v) then sumFrom l (s + v) else (0, 91)
/-- How much is made at a height. -/
def subsidy (h : Int) : Int := if h < 0 then 0 else 5000000000 / 2 ^ (h / 150).toNat
theorem subsidy_late (h : Int) (hh : 33 * 150 ≤ h) : subsidy h = 0 := by
  have h0 : ¬ h < 0 := by omega
  rw [subsidy, if_neg h0]
  obtain ⟨k, hk⟩ : ∃ k, (h / 150).toNat = 33 + k := ⟨(h / 150).toNat - 33, by omega⟩
  rw [hk]
  have h1 : (0 : Int) < 2 ^ k := Int.pow_pos (by decide)
  have : (5000000000 : Int) < 2 ^ (33 + k) := by
    rw [Int.pow_add]
    have : (2 : Int) ^ 33 = 8589934592 := by decide
    rw [this]
    omega
  exact Int.ediv_eq_zero_of_lt (by decide) this
def u64 (v : Int) : Int := v % 18446744073709551616
theorem u64_U64 (v : Int) : U64 (u64 v) := ⟨by unfold u64; omega, by unfold u64; omega⟩
/-- A number of 64 bits, read as one with a sign. -/
def i64 (n : Int) : Int := if n < 9223372036854775808 then n else n - 18446744073709551616
theorem i64_u64 (v : Int) (h0 : -9223372036854775808 ≤ v) (h1 : v ≤ 9223372036854775807) : i64 (u64 v) = v := by
  unfold i64 u64
  split <;> omega
structure OutD where
  value : Int
  lock : List Int
def OutD.bytes (o : OutD) : List Int := dig (u64 o.value).toNat 8 ++ txt o.lock
structure CoinD where
  out : OutD
  height : Int
  base : Bool
def CoinD.right (c : CoinD) : Prop := money c.out.value ∧ c.out.lock.length ≤ 2000 ∧ 0 ≤ c.height ∧ c.height ≤ 1000000000
def CoinD.num (c : CoinD) : Nat := 2 * c.height.toNat + (if c.base then 1 else 0)
def CoinD.bytes (c : CoinD) : List Int := cnt c.num ++ c.out.bytes
def refBytes (id : List Int) (at_ : Int) : List Int := id ++ dig at_.toNat 4
end Go.Proofs.Ytfloclamdpageaa
