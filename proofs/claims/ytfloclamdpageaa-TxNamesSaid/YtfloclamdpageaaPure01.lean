/-
  Thirty-two bytes that tell other bytes: plain functions on numbers of 32 bits, no program in sight.
-/
import Derived.Test.YtfloclamdpageaaBytes
namespace Go.Proofs.Ytfloclamdpageaa
open Go.RowKit

abbrev W32 := BitVec 32
structure St where
  a : W32
  b : W32
  c : W32
  d : W32
  e : W32
  f : W32
  g : W32
  h : W32
namespace Sha
def low0 (x : W32) : W32 := x.rotateRight 7 ^^^ x.rotateRight 18 ^^^ (x >>> 3)
def low1 (x : W32) : W32 := x.rotateRight 17 ^^^ x.rotateRight 19 ^^^ (x >>> 10)
def big0 (x : W32) : W32 := x.rotateRight 2 ^^^ x.rotateRight 13 ^^^ x.rotateRight 22
def big1 (x : W32) : W32 := x.rotateRight 6 ^^^ x.rotateRight 11 ^^^ x.rotateRight 25
def pick (x y z : W32) : W32 := (x &&& y) ^^^ (~~~x &&& z)
def most (x y z : W32) : W32 := (x &&& y) ^^^ (x &&& z) ^^^ (y &&& z)
def keys : List W32 := [
  0x428a2f98, 0x71374491, 0xb5c0fbcf, 0xe9b5dba5, 0x3956c25b, 0x59f111f1, 0x923f82a4, 0xab1c5ed5,
  0xd807aa98, 0x12835b01, 0x243185be, 0x550c7dc3, 0x72be5d74, 0x80deb1fe, 0x9bdc06a7, 0xc19bf174,
  0xe49b69c1, 0xefbe4786, 0x0fc19dc6, 0x240ca1cc, 0x2de92c6f, 0x4a7484aa, 0x5cb0a9dc, 0x76f988da,
  0x983e5152, 0xa831c66d, 0xb00327c8, 0xbf597fc7, 0xc6e00bf3, 0xd5a79147, 0x06ca6351, 0x14292967,
  0x27b70a85, 0x2e1b2138, 0x4d2c6dfc, 0x53380d13, 0x650a7354, 0x766a0abb, 0x81c2c92e, 0x92722c85,
  0xa2bfe8a1, 0xa81a664b, 0xc24b8b70, 0xc76c51a3, 0xd192e819, 0xd6990624, 0xf40e3585, 0x106aa070,
  0x19a4c116, 0x1e376c08, 0x2748774c, 0x34b0bcb5, 0x391c0cb3, 0x4ed8aa4a, 0x5b9cca4f, 0x682e6ff3,
  0x748f82ee, 0x78a5636f, 0x84c87814, 0x8cc70208, 0x90befffa, 0xa4506ceb, 0xbef9a3f7, 0xc67178f2]
def first : St := ⟨0x6a09e667, 0xbb67ae85, 0x3c6ef372, 0xa54ff53a, 0x510e527f, 0x9b05688c, 0x1f83d9ab, 0x5be0cd19⟩
/-- The number of four bytes, the highest first. -/
def word (b : List Int) (i : Nat) : W32 := BitVec.ofNat 32 ((((b.getD (4 * i) 0).toNat * 256 + (b.getD (4 * i + 1) 0).toNat) * 256 + (b.getD (4 * i + 2) 0).toNat) * 256 + (b.getD (4 * i + 3) 0).toNat)
def words (b : List Int) (n : Nat) : List W32 := (List.range n).map (word b)
def next (l : List W32) : W32 := l.getD (l.length - 16) 0 + l.getD (l.length - 7) 0 + low0 (l.getD (l.length - 15) 0) + low1 (l.getD (l.length - 2) 0)
def grow : Nat → List W32 → List W32
  | 0, l => l
  | n + 1, l => grow n (l ++ [next l])
def spread (b : List Int) : List W32 := grow 48 (words b 16)
def round (x : St) (k w : W32) : St :=
  let t := x.h + big1 x.e + pick x.e x.f x.g + k + w
  let u := big0 x.a + most x.a x.b x.c
  ⟨t + u, x.a, x.b, x.c, x.d + t, x.e, x.f, x.g⟩
def rounds (ws : List W32) : Nat → St → St
  | 0, x => x
  | n + 1, x => round (rounds ws n x) (keys.getD n 0) (ws.getD n 0)
def add (s x : St) : St := ⟨s.a + x.a, s.b + x.b, s.c + x.c, s.d + x.d, s.e + x.e, s.f + x.f, s.g + x.g, s.h + x.h⟩
def mix (s : St) (b : List Int) : St := add s (rounds (spread b) 64 s)
def pieces : Nat → St → List Int → St
  | 0, s, _ => s
  | n + 1, s, b => pieces n (mix s (b.take 64)) (b.drop 64)
/-- How many zeros come behind so many bytes and one. -/
def zeros (n : Nat) : Nat := (119 - n % 64) % 64
def eight (n : Nat) : List Int := (List.range 8).map fun i => ((n / 256 ^ (7 - i) % 256 : Nat) : Int)
def tail (n : Nat) : List Int := 128 :: (List.replicate (zeros n) 0 ++ eight (8 * n % 18446744073709551616))
def padded (b : List Int) : List Int := b ++ tail b.length
def four (x : W32) : List Int := [((x.toNat / 16777216 % 256 : Nat) : Int), ((x.toNat / 65536 % 256 : Nat) : Int), ((x.toNat / 256 % 256 : Nat) : Int), ((x.toNat % 256 : Nat) : Int)]
end Sha
def St.list (s : St) : List W32 := [s.a, s.b, s.c, s.d, s.e, s.f, s.g, s.h]
def St.bytes (s : St) : List Int := s.list.flatMap Sha.four
def sha (b : List Int) : List Int := (Sha.pieces ((Sha.padded b).length / 64) Sha.first (Sha.padded b)).bytes
def sha2 (b : List Int) : List Int := sha (sha b)
/-! ### Laws -/
namespace Sha
theorem four_byt (x : W32) : Byt (four x) := by
  intro v hv
  simp only [four, List.mem_cons, List.mem_nil_iff, or_false] at hv
  omega
theorem four_len (x : W32) : (four x).length = 4 := rfl
end Sha
theorem St.bytes_len (s : St) : s.bytes.length = 32 := by simp [St.bytes, St.list, Sha.four_len]
theorem St.bytes_byt (s : St) : Byt s.bytes := by
  intro v hv
  simp only [St.bytes, List.mem_flatMap] at hv
  obtain ⟨x, _, h⟩ := hv
  exact Sha.four_byt x v h
theorem sha_len (b : List Int) : (sha b).length = 32 := St.bytes_len _
theorem sha_byt (b : List Int) : Byt (sha b) := St.bytes_byt _
theorem sha2_len (b : List Int) : (sha2 b).length = 32 := sha_len _
theorem sha2_byt (b : List Int) : Byt (sha2 b) := sha_byt _
namespace Sha
theorem words_len (b : List Int) (n : Nat) : (words b n).length = n := by simp [words]
theorem grow_len : ∀ (n : Nat) (l : List W32), (grow n l).length = l.length + n
  | 0, l => rfl
  | n + 1, l => by rw [grow, grow_len n]; simp; omega
theorem spread_len (b : List Int) : (spread b).length = 64 := by rw [spread, grow_len, words_len]
theorem grow_succ : ∀ (n : Nat) (l : List W32), grow (n + 1) l = grow n l ++ [next (grow n l)]
  | 0, l => rfl
  | n + 1, l => by
    have h := grow_succ n (l ++ [next l])
    rw [grow, h]
    rfl
theorem eight_len (n : Nat) : (eight n).length = 8 := by simp [eight]
theorem zeros_lt (n : Nat) : zeros n < 64 := Nat.mod_lt _ (by decide)
theorem padded_len (b : List Int) : (padded b).length = b.length + 9 + zeros b.length := by simp [padded, tail, eight_len]; omega
theorem padded_whole (b : List Int) : (padded b).length % 64 = 0 := by rw [padded_len]; unfold zeros; omega
theorem pieces_add : ∀ (n m : Nat) (s : St) (b : List Int), pieces (n + m) s b = pieces m (pieces n s b) (b.drop (64 * n))
  | 0, m, s, b => by simp [pieces]
  | n + 1, m, s, b => by
    have h := pieces_add n m (mix s (b.take 64)) (b.drop 64)
    have e : n + 1 + m = (n + m) + 1 := by omega
    rw [e, pieces, h, pieces, List.drop_drop]
    congr 2
    omega
theorem pieces_front : ∀ (n : Nat) (s : St) (b c : List Int), 64 * n ≤ b.length → pieces n s (b ++ c) = pieces n s b
  | 0, _, _, _, _ => rfl
  | n + 1, s, b, c, h => by
    rw [pieces, pieces, List.take_append_of_le_length (by omega), List.drop_append_of_le_length (by omega)]
    exact pieces_front n _ _ c (by rw [List.length_drop]; omega)
end Sha
end Go.Proofs.Ytfloclamdpageaa
