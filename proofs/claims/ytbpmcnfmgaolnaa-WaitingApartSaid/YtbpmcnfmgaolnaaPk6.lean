import Derived.Test.YtbpmcnfmgaolnaaPk1
import Derived.Test.YtbpmcnfmgaolnaaPk2
import Derived.StillTailTactics
/-
  Thirty-two bytes that tell other bytes: plain functions on numbers of 32 bits, no program in sight.
-/
namespace Go.Proofs.Ytbpmcnfmgaolnaa
open Go.RowKit

abbrev W32 := BitVec 32
structure St where
  a : W32
  b : W32
  c : W32
  d : W32
  e : W32
  f : W32
  g : W32
  h : W32
namespace Sha
def low0 (x : W32) : W32 := x.rotateRight 7 ^^^ x.rotateRight 18 ^^^ (x >>> 3)
def low1 (x : W32) : W32 := x.rotateRight 17 ^^^ x.rotateRight 19 ^^^ (x >>> 10)
def big0 (x : W32) : W32 := x.rotateRight 2 ^^^ x.rotateRight 13 ^^^ x.rotateRight 22
def big1 (x : W32) : W32 := x.rotateRight 6 ^^^ x.rotateRight 11 ^^^ x.rotateRight 25
def pick (x y z : W32) : W32 := (x &&& y) ^^^ (~~~x &&& z)
def most (x y z : W32) : W32 := (x &&& y) ^^^ (x &&& z) ^^^ (y &&& z)
def keys : List W32 := [
  0x428a2f98, 0x71374491, 0xb5c0fbcf, 0xe9b5dba5, 0x3956c25b, 0x59f111f1, 0x923f82a4, 0xab1c5ed5,
  0xd807aa98, 0x12835b01, 0x243185be, 0x550c7dc3, 0x72be5d74, 0x80deb1fe, 0x9bdc06a7, 0xc19bf174,
  0xe49b69c1, 0xefbe4786, 0x0fc19dc6, 0x240ca1cc, 0x2de92c6f, 0x4a7484aa, 0x5cb0a9dc, 0x76f988da,
  0x983e5152, 0xa831c66d, 0xb00327c8, 0xbf597fc7, 0xc6e00bf3, 0xd5a79147, 0x06ca6351, 0x14292967,
  0x27b70a85, 0x2e1b2138, 0x4d2c6dfc, 0x53380d13, 0x650a7354, 0x766a0abb, 0x81c2c92e, 0x92722c85,
  0xa2bfe8a1, 0xa81a664b, 0xc24b8b70, 0xc76c51a3, 0xd192e819, 0xd6990624, 0xf40e3585, 0x106aa070,
  0x19a4c116, 0x1e376c08, 0x2748774c, 0x34b0bcb5, 0x391c0cb3, 0x4ed8aa4a, 0x5b9cca4f, 0x682e6ff3,
  0x748f82ee, 0x78a5636f, 0x84c87814, 0x8cc70208, 0x90befffa, 0xa4506ceb, 0xbef9a3f7, 0xc67178f2]
def first : St := ⟨0x6a09e667, 0xbb67ae85, 0x3c6ef372, 0xa54ff53a, 0x510e527f, 0x9b05688c, 0x1f83d9ab, 0x5be0cd19⟩
/-- The number of four bytes, the highest first. -/
def word (b : List Int) (i : Nat) : W32 := BitVec.ofNat 32 ((((b.getD (4 * i) 0).toNat * 256 + (b.getD (4 * i + 1) 0).toNat) * 256 + (b.getD (4 * i + 2) 0).toNat) * 256 + (b.getD (4 * i + 3) 0).toNat)
def words (b : List Int) (n : Nat) : List W32 := (List.range n).map (word b)
def next (l : List W32) : W32 := l.getD (l.length - 16) 0 + l.getD (l.length - 7) 0 + low0 (l.getD (l.length - 15) 0) + low1 (l.getD (l.length - 2) 0)
def grow : Nat → List W32 → List W32
  | 0, l => l
  | n + 1, l => grow n (l ++ [next l])
def spread (b : List Int) : List W32 := grow 48 (words b 16)
def round (x : St) (k w : W32) : St :=
  let t := x.h + big1 x.e + pick x.e x.f x.g + k + w
  let u := big0 x.a + most x.a x.b x.c
  ⟨t + u, x.a, x.b, x.c, x.d + t, x.e, x.f, x.g⟩
def rounds (ws : List W32) : Nat → St → St
  | 0, x => x
  | n + 1, x => round (rounds ws n x) (keys.getD n 0) (ws.getD n 0)
def add (s x : St) : St := ⟨s.a + x.a, s.b + x.b, s.c + x.c, s.d + x.d, s.e + x.e, s.f + x.f, s.g + x.g, s.h + x.h⟩
def mix (s : St) (b : List Int) : St := add s (rounds (spread b) 64 s)
def pieces : Nat → St → List Int → St
  | 0, s, _ => s
  | n + 1, s, b => pieces n (mix s (b.take 64)) (b.drop 64)
/-- How many zeros come behind so many bytes and one. -/
def zeros (n : Nat) : Nat := (119 - n % 64) % 64
def eight (n : Nat) : List Int := (List.range 8).map fun i => ((n / 256 ^ (7 - i) % 256 : Nat) : Int)
def tail (n : Nat) : List Int := 128 :: (List.replicate (zeros n) 0 ++ eight (8 * n % 18446744073709551616))
def padded (b : List Int) : List Int := b ++ tail b.length
def four (x : W32) : List Int := [((x.toNat / 16777216 % 256 : Nat) : Int), ((x.toNat / 65536 % 256 : Nat) : Int), ((x.toNat / 256 % 256 : Nat) : Int), ((x.toNat % 256 : Nat) : Int)]
end Sha
def St.list (s : St) : List W32 := [s.a, s.b, s.c, s.d, s.e, s.f, s.g, s.h]
def St.bytes (s : St) : List Int := s.list.flatMap Sha.four
def sha (b : List Int) : List Int := (Sha.pieces ((Sha.padded b).length / 64) Sha.first (Sha.padded b)).bytes
def sha2 (b : List Int) : List Int := sha (sha b)
/-! ### Laws -/
namespace Sha
theorem four_byt (x : W32) : Byt (four x) := by
  intro v hv
  simp only [four, List.mem_cons, List.mem_nil_iff, or_false] at hv
  omega
theorem four_len (x : W32) : (four x).length = 4 := rfl
end Sha
theorem St.bytes_len (s : St) : s.bytes.length = 32 := by simp [St.bytes, St.list, Sha.four_len]
theorem St.bytes_byt (s : St) : Byt s.bytes := by
  intro v hv
  simp only [St.bytes, List.mem_flatMap] at hv
  obtain ⟨x, _, h⟩ := hv
  exact Sha.four_byt x v h
theorem sha_len (b : List Int) : (sha b).length = 32 := St.bytes_len _
theorem sha_byt (b : List Int) : Byt (sha b) := St.bytes_byt _
theorem sha2_len (b : List Int) : (sha2 b).length = 32 := sha_len _
theorem sha2_byt (b : List Int) : Byt (sha2 b) := sha_byt _
namespace Sha
theorem words_len (b : List Int) (n : Nat) : (words b n).length = n := by simp [words]
theorem grow_len : ∀ (n : Nat) (l : List W32), (grow n l).length = l.length + n
  | 0, l => rfl
  | n + 1, l => by rw [grow, grow_len n]; simp; omega
theorem spread_len (b : List Int) : (spread b).length = 64 := by rw [spread, grow_len, words_len]
theorem grow_succ : ∀ (n : Nat) (l : List W32), grow (n + 1) l = grow n l ++ [next (grow n l)]
  | 0, l => rfl
  | n + 1, l => by
    have h := grow_succ n (l ++ [next l])
    rw [grow, h]
    rfl
theorem eight_len (n : Nat) : (eight n).length = 8 := by simp [eight]
theorem zeros_lt (n : Nat) : zeros n < 64 := Nat.mod_lt _ (by decide)
theorem padded_len (b : List Int) : (padded b).length = b.length + 9 + zeros b.length := by simp [padded, tail, eight_len]; omega
theorem padded_whole (b : List Int) : (padded b).length % 64 = 0 := by rw [padded_len]; unfold zeros; omega
theorem pieces_add : ∀ (n m : Nat) (s : St) (b : List Int), pieces (n + m) s b = pieces m (pieces n s b) (b.drop (64 * n))
  | 0, m, s, b => by simp [pieces]
  | n + 1, m, s, b => by
    have h := pieces_add n m (mix s (b.take 64)) (b.drop 64)
    have e : n + 1 + m = (n + m) + 1 := by omega
    rw [e, pieces, h, pieces, List.drop_drop]
    congr 2
    omega
theorem pieces_front : ∀ (n : Nat) (s : St) (b c : List Int), 64 * n ≤ b.length → pieces n s (b ++ c) = pieces n s b
  | 0, _, _, _, _ => rfl
  | n + 1, s, b, c, h => by
    rw [pieces, pieces, List.take_append_of_le_length (by omega), List.drop_append_of_le_length (by omega)]
    exact pieces_front n _ _ c (by rw [List.length_drop]; omega)
end Sha
end Go.Proofs.Ytbpmcnfmgaolnaa
/-
  digest: turn, first, constants, the numbers of a piece.
-/
namespace Go.Proofs.Ytbpmcnfmgaolnaa
open Go.RowKit

/-- A number of 32 bits, as the model has it. -/
def u (x : W32) : Int := (x.toNat : Int)
def uv (x : W32) : Value := .int .u32 (u x)
theorem u_lo (x : W32) : 0 ≤ u x := Int.natCast_nonneg _
theorem u_hi (x : W32) : u x < 4294967296 := by
  have := x.isLt
  unfold u
  omega
theorem ofInt_u (x : W32) : BitVec.ofInt 32 (u x) = x := by simp [u]
theorem wrap_nat (n : Nat) (h : n < 4294967296) : IntKind.u32.wrap (n : Int) = (n : Int) := by rw [IntKind.wrap_u32]; omega
theorem u_xor (a b : W32) : bits .xor .u32 (u a) (u b) = u (a ^^^ b) := by
  show IntKind.u32.wrap ((BitVec.ofInt 32 (u a) ^^^ BitVec.ofInt 32 (u b)).toNat : Int) = _
  rw [ofInt_u, ofInt_u, wrap_nat _ (a ^^^ b).isLt]; rfl
theorem u_and (a b : W32) : bits .and .u32 (u a) (u b) = u (a &&& b) := by
  show IntKind.u32.wrap ((BitVec.ofInt 32 (u a) &&& BitVec.ofInt 32 (u b)).toNat : Int) = _
  rw [ofInt_u, ofInt_u, wrap_nat _ (a &&& b).isLt]; rfl
theorem u_or (a b : W32) : bits .or .u32 (u a) (u b) = u (a ||| b) := by
  show IntKind.u32.wrap ((BitVec.ofInt 32 (u a) ||| BitVec.ofInt 32 (u b)).toNat : Int) = _
  rw [ofInt_u, ofInt_u, wrap_nat _ (a ||| b).isLt]; rfl
theorem u_not (a : W32) : bits .xor .u32 4294967295 (u a) = u (~~~a) := by
  show IntKind.u32.wrap ((BitVec.ofInt 32 4294967295 ^^^ BitVec.ofInt 32 (u a)).toNat : Int) = _
  have e : BitVec.ofInt 32 4294967295 ^^^ a = ~~~a := by rw [show BitVec.ofInt 32 4294967295 = BitVec.allOnes 32 from rfl, BitVec.allOnes_xor]
  rw [ofInt_u, e, wrap_nat _ (~~~a).isLt]; rfl
theorem u_add (a b : W32) : IntKind.u32.wrap (u a + u b) = u (a + b) := by
  rw [IntKind.wrap_u32]
  unfold u
  rw [BitVec.toNat_add]
  omega
theorem u_shl (a : W32) (k : Nat) : IntKind.u32.wrap (u a * 2 ^ k) = u (a <<< k) := by
  rw [IntKind.wrap_u32]
  unfold u
  rw [BitVec.toNat_shiftLeft, Nat.shiftLeft_eq]
  have : ((a.toNat : Int) * 2 ^ k) = ((a.toNat * 2 ^ k : Nat) : Int) := by push_cast; rfl
  rw [this]
  omega
theorem u_shr (a : W32) (k : Nat) : u a / 2 ^ k = u (a >>> k) := by
  unfold u
  rw [BitVec.toNat_ushiftRight, Nat.shiftRight_eq_div_pow]
  push_cast
  rfl
theorem rot_or (a : W32) (k : Nat) (h1 : k < 32) : (a <<< (32 - k)) ||| (a >>> k) = a.rotateRight k := by
  rw [BitVec.rotateRight_def, Nat.mod_eq_of_lt h1, BitVec.or_comm]
def shl32 (x k : Int) : Sem Value := Op.shift .shl .u32 x .u64 k
theorem shl_run (a : W32) (k : Nat) (h : k ≤ 32) (w : World) (P : Program) : (Op.shift .shl .u32 (u a) .u64 (k : Int)).run P w = .ok (.int .u32 (u (a <<< k))) w := by
  unfold Op.shift
  rw [if_neg (by omega)]
  have e : min (k : Int).toNat IntKind.u32.bits = k := by simp only [IntKind.bits]; omega
  simp only [e, Sem.run_pure, u_shl]
theorem shr_run (a : W32) (k : Nat) (h : k ≤ 32) (w : World) (P : Program) : (Op.shift .shr .u32 (u a) .u64 (k : Int)).run P w = .ok (.int .u32 (u (a >>> k))) w := by
  unfold Op.shift
  rw [if_neg (by omega)]
  have e : min (k : Int).toNat IntKind.u32.bits = k := by simp only [IntKind.bits]; omega
  simp only [e, Sem.run_pure]
  rw [Int.fdiv_eq_ediv_of_nonneg _ (Int.le_of_lt (Int.pow_pos (by decide))), u_shr]
theorem and31 (k : Nat) (h0 : 0 < k) (h1 : k < 32) : bits .and .u64 (IntKind.u64.wrap (-(k : Int))) 31 = ((32 - k : Nat) : Int) := by
  have : ∀ k : Fin 32, 0 < k.val → bits .and .u64 (IntKind.u64.wrap (-(k.val : Int))) 31 = ((32 - k.val : Nat) : Int) := by decide +kernel
  exact this ⟨k, h1⟩ h0
set_option maxHeartbeats 1000000 in
set_option maxRecDepth 100000 in
theorem rotate_any (w : World) (a : W32) (k : Nat) (h0 : 0 < k) (h1 : k < 32) :
    Calls Try.prog 148 #[.int .u32 (u a), .int .i64 (-(k : Int))] w fun e w' => e = .returned (.int .u32 (u (a.rotateRight k))) ∧ w' = w := by
  have hk := and31 k h0 h1
  have hl := fun w => shl_run a (32 - k) (by omega) w Try.prog
  have hr := fun w => shr_run a k (by omega) w Try.prog
  have ho := u_or (a <<< (32 - k)) (a >>> k)
  rw [rot_or a k h1, ← u_shr] at ho
  have hs : IntKind.u64.wrap (32 - ((32 - k : Nat) : Int)) = (k : Int) := by rw [IntKind.wrap_u64]; omega
  generalize ((32 - k : Nat) : Int) = m at hk hl hs
  go_enter Try.func148, Try.ntmps148
  go_wp2_with fail
  go_ret
  exact ⟨by rw [← ho]; rfl, rfl⟩
set_option maxHeartbeats 1000000 in
set_option maxRecDepth 100000 in
theorem turn_any (w : World) (a : W32) (k : Nat) (h0 : 0 < k) (h1 : k < 32) :
    Calls Try.prog 147 #[.int .u32 (u a), .int .i64 (k : Int)] w fun e w' => e = .returned (.int .u32 (u (a.rotateRight k))) ∧ w' = w := by
  have hk : IntKind.i64.wrap (-(k : Int)) = -(k : Int) := by rw [IntKind.wrap_i64]; omega
  go_enter Try.func147, Try.ntmps147
  go_wp2_with fail
  refine (rotate_any _ a k h0 h1).mono ?_
  rintro e w1 ⟨rfl, rfl⟩
  go_wp2_with fail
  go_ret
  exact ⟨rfl, rfl⟩
/-- The keys, the first state: as rows of cells. -/
def ucells (l : List W32) : List Value := l.map uv
theorem ucells_len (l : List W32) : (ucells l).length = l.length := by simp [ucells]
theorem ucells_one (l : List W32) : ∀ v ∈ ucells l, v.oneCell' = true := by
  intro v hv
  simp only [ucells, List.mem_map] at hv
  obtain ⟨x, _, rfl⟩ := hv
  rfl
theorem ucells_get (l : List W32) (i : Nat) (h : i < l.length) : (ucells l)[i]? = some (.int .u32 (u (l.getD i 0))) := by
  rw [ucells, List.getElem?_map, List.getElem?_eq_getElem h]
  simp [uv, List.getElem?_eq_getElem h]
theorem ucells_set (l : List W32) (i : Nat) (x : W32) : (ucells l).set i (.int .u32 (u x)) = ucells (l.set i x) := by
  rw [ucells, ucells, List.map_set]; rfl
/-! ### What is sealed -/
def mkK (parts : Array (Nat × Value)) : Sem Value := Instr.build 199 parts
theorem mkK_fold (parts : Array (Nat × Value)) : Instr.build 199 parts = mkK parts := rfl
set_option maxRecDepth 100000 in
theorem mkK_run (w : World) : (mkK #[(0, .int .u32 1116352408), (1, .int .u32 1899447441), (2, .int .u32 3049323471), (3, .int .u32 3921009573), (4, .int .u32 961987163), (5, .int .u32 1508970993), (6, .int .u32 2453635748), (7, .int .u32 2870763221), (8, .int .u32 3624381080), (9, .int .u32 310598401), (10, .int .u32 607225278), (11, .int .u32 1426881987), (12, .int .u32 1925078388), (13, .int .u32 2162078206), (14, .int .u32 2614888103), (15, .int .u32 3248222580), (16, .int .u32 3835390401), (17, .int .u32 4022224774), (18, .int .u32 264347078), (19, .int .u32 604807628), (20, .int .u32 770255983), (21, .int .u32 1249150122), (22, .int .u32 1555081692), (23, .int .u32 1996064986), (24, .int .u32 2554220882), (25, .int .u32 2821834349), (26, .int .u32 2952996808), (27, .int .u32 3210313671), (28, .int .u32 3336571891), (29, .int .u32 3584528711), (30, .int .u32 113926993), (31, .int .u32 338241895), (32, .int .u32 666307205), (33, .int .u32 773529912), (34, .int .u32 1294757372), (35, .int .u32 1396182291), (36, .int .u32 1695183700), (37, .int .u32 1986661051), (38, .int .u32 2177026350), (39, .int .u32 2456956037), (40, .int .u32 2730485921), (41, .int .u32 2820302411), (42, .int .u32 3259730800), (43, .int .u32 3345764771), (44, .int .u32 3516065817), (45, .int .u32 3600352804), (46, .int .u32 4094571909), (47, .int .u32 275423344), (48, .int .u32 430227734), (49, .int .u32 506948616), (50, .int .u32 659060556), (51, .int .u32 883997877), (52, .int .u32 958139571), (53, .int .u32 1322822218), (54, .int .u32 1537002063), (55, .int .u32 1747873779), (56, .int .u32 1955562222), (57, .int .u32 2024104815), (58, .int .u32 2227730452), (59, .int .u32 2361852424), (60, .int .u32 2428436474), (61, .int .u32 2756734187), (62, .int .u32 3204031479), (63, .int .u32 3329325298)]).run Try.prog w = .ok (.agg (ucells Sha.keys).toArray) w := by kernel_rfl
def mkSt (parts : Array (Nat × Value)) : Sem Value := Instr.build 193 parts
theorem mkSt_fold (parts : Array (Nat × Value)) : Instr.build 193 parts = mkSt parts := rfl
theorem mkSt_run (x0 x1 x2 x3 x4 x5 x6 x7 : Int) (w : World) : (mkSt #[(0, .int .u32 x0), (1, .int .u32 x1), (2, .int .u32 x2), (3, .int .u32 x3), (4, .int .u32 x4), (5, .int .u32 x5), (6, .int .u32 x6), (7, .int .u32 x7)]).run Try.prog w = .ok (.agg #[.int .u32 x0, .int .u32 x1, .int .u32 x2, .int .u32 x3, .int .u32 x4, .int .u32 x5, .int .u32 x6, .int .u32 x7]) w := by kernel_rfl
theorem first_cells : #[.int .u32 1779033703, .int .u32 3144134277, .int .u32 1013904242, .int .u32 2773480762, .int .u32 1359893119, .int .u32 2600822924, .int .u32 528734635, .int .u32 1541459225] = (ucells Sha.first.list).toArray := by kernel_rfl
def loadK (a : Addr) : Sem Value := loadVar 199 a
theorem loadK_fold (a : Addr) : loadVar 199 a = loadK a := rfl
def loadSt (a : Addr) : Sem Value := loadVar 193 a
theorem loadSt_fold (a : Addr) : loadVar 193 a = loadSt a := rfl
set_option maxRecDepth 100000 in
theorem isK : (Try.prog.info? 199).map (·.size) = some 64 := by kernel_rfl
set_option maxRecDepth 100000 in
theorem isSt : (Try.prog.info? 193).map (·.size) = some 8 := by kernel_rfl
theorem loadK_run (w : World) (b o : Nat) (l : List W32) (h : w.rangeAt b o (ucells l)) (hl : l.length = 64) : (loadK ⟨b, o, none⟩).run Try.prog w = .ok (.agg (ucells l).toArray) w :=
  run_loadVar_mid w b o _ (ucells l) _ h Try.underlying199 rfl (by rw [isK, ucells_len, hl])
theorem loadSt_run (w : World) (b o : Nat) (l : List W32) (h : w.rangeAt b o (ucells l)) (hl : l.length = 8) : (loadSt ⟨b, o, none⟩).run Try.prog w = .ok (.agg (ucells l).toArray) w :=
  run_loadVar_mid w b o _ (ucells l) _ h Try.underlying193 rfl (by rw [isSt, ucells_len, hl])
def zeroK : List W32 := List.replicate 64 0
def zeroSt : List W32 := List.replicate 8 0
set_option maxRecDepth 100000 in
theorem zeroK_info : (Try.prog.info? 199).map (·.zero) = some (some (.agg (ucells zeroK).toArray)) := by kernel_rfl
set_option maxRecDepth 100000 in
theorem zeroSt_info : (Try.prog.info? 193).map (·.zero) = some (some (.agg (ucells zeroSt).toArray)) := by kernel_rfl
attribute [local go_sem ↓] mkK_fold mkSt_fold loadK_fold loadSt_fold
attribute [local go_sem] mkK_run mkSt_run
set_option maxHeartbeats 4000000 in
set_option maxRecDepth 100000 in
theorem constants_any (w : World) : Calls Try.prog 146 #[] w fun e w' => e = .returned (.agg (ucells Sha.keys).toArray) ∧ Below w.heap.size w w' := by
  have B0 := hide (Blk.new w 199 (ucells zeroK))
  have b0 := hide (show Below w.heap.size w (w.alloc (.cells (ucells zeroK).toArray 199)) from (Below.refl _ w).alloc (Nat.le_refl _) _)
  have HU := hide Try.underlying199
  have l0 : (ucells Sha.keys).length = 64 := rfl
  have l1 : (ucells zeroK).length = 64 := by rw [ucells_len]; rfl
  have hI := isK
  go_enter Try.func146, Try.ntmps146
  go_wp2_with (first
    | (refine wpList_alloc_agg rfl 199 rfl (ucells zeroK) zeroK_info ?_; simp only [Act.put, List.setIfInBounds_toArray, List.set_cons_zero])
    | (refine wpList_store_blk rfl 199 _ _ rfl w.heap.size 0 199 (ucells zeroK) (ucells Sha.keys) (by rfl) (by rfl) B0.out (by omega) (by rw [hI, l0]) (ucells_one _) ?_; intro w9 o9 z9 b9; simp only [Act.put]))
  rw [lay_all _ _ (by omega)] at b9
  refine bodyPost_ret (results_cell_blk rfl _ _ w.heap.size 199 _ _ (by rfl) b9 HU.out rfl (by rw [hI, l0])) rfl ⟨rfl, ?_⟩
  exact b0.out.trans (o9.below (by exact b0.out.size) (fun i hi => by omega))
set_option maxHeartbeats 4000000 in
set_option maxRecDepth 100000 in
theorem first_any (w : World) : Calls Try.prog 142 #[] w fun e w' => e = .returned (.agg (ucells Sha.first.list).toArray) ∧ Below w.heap.size w w' := by
  have B0 := hide (Blk.new w 193 (ucells zeroSt))
  have b0 := hide (show Below w.heap.size w (w.alloc (.cells (ucells zeroSt).toArray 193)) from (Below.refl _ w).alloc (Nat.le_refl _) _)
  have HU := hide Try.underlying193
  have l0 : (ucells Sha.first.list).length = 8 := rfl
  have l1 : (ucells zeroSt).length = 8 := rfl
  have hI := isSt
  go_enter Try.func142, Try.ntmps142
  go_wp2_with (first
    | (refine wpList_alloc_agg rfl 193 rfl (ucells zeroSt) zeroSt_info ?_; simp only [Act.put, List.setIfInBounds_toArray, List.set_cons_zero])
    | (rw [first_cells]; refine wpList_store_blk rfl 193 _ _ rfl w.heap.size 0 193 (ucells zeroSt) (ucells Sha.first.list) (by rfl) (by rfl) B0.out (by omega) (by rw [hI, l0]) (ucells_one _) ?_; intro w9 o9 z9 b9; simp only [Act.put]))
  rw [lay_all _ _ (by omega)] at b9
  refine bodyPost_ret (results_cell_blk rfl _ _ w.heap.size 193 _ _ (by rfl) b9 HU.out rfl (by rw [hI, l0])) rfl ⟨rfl, ?_⟩
  exact b0.out.trans (o9.below (by exact b0.out.size) (fun i hi => by omega))
end Go.Proofs.Ytbpmcnfmgaolnaa
/-
  digest: the numbers of a piece, and those that come of them.
-/
namespace Go.Proofs.Ytbpmcnfmgaolnaa
open Go.RowKit

theorem u_byte (x : Int) (h0 : 0 ≤ x) (h1 : x ≤ 255) : ∃ X : W32, x = u X ∧ X.toNat = x.toNat := by
  refine ⟨BitVec.ofNat 32 x.toNat, ?_, ?_⟩
  · unfold u
    rw [BitVec.toNat_ofNat, Nat.mod_eq_of_lt (by omega)]
    omega
  · rw [BitVec.toNat_ofNat, Nat.mod_eq_of_lt (by omega)]
theorem or_add (a b k : Nat) (h : b < 2 ^ k) : (a * 2 ^ k) ||| b = a * 2 ^ k + b := by
  rw [Nat.mul_comm, ← Nat.two_pow_add_eq_or_of_lt h]
set_option maxRecDepth 10000 in
theorem word_nat (x0 x1 x2 x3 : Nat) (h0 : x0 < 256) (h1 : x1 < 256) (h2 : x2 < 256) (h3 : x3 < 256) :
    (((x0 * 16777216 % 4294967296) ||| (x1 * 65536 % 4294967296)) ||| (x2 * 256 % 4294967296)) ||| x3 = (((x0 * 256 + x1) * 256 + x2) * 256 + x3) % 4294967296 := by
  have k1 : x1 * 65536 < 16777216 := Nat.lt_of_lt_of_le (Nat.mul_lt_mul_of_pos_right h1 (by decide)) (by decide)
  have k2 : x2 * 256 < 65536 := Nat.lt_of_lt_of_le (Nat.mul_lt_mul_of_pos_right h2 (by decide)) (by decide)
  have m0 : x0 * 16777216 < 4294967296 := Nat.lt_of_lt_of_le (Nat.mul_lt_mul_of_pos_right h0 (by decide)) (by decide)
  have m1 : x1 * 65536 < 4294967296 := Nat.lt_of_lt_of_le k1 (by decide)
  have m2 : x2 * 256 < 4294967296 := Nat.lt_of_lt_of_le k2 (by decide)
  have e1 : x0 * 16777216 ||| x1 * 65536 = x0 * 16777216 + x1 * 65536 := or_add x0 (x1 * 65536) 24 k1
  have e2 : (x0 * 256 + x1) * 65536 ||| x2 * 256 = (x0 * 256 + x1) * 65536 + x2 * 256 := or_add (x0 * 256 + x1) (x2 * 256) 16 k2
  have e3 : ((x0 * 256 + x1) * 256 + x2) * 256 ||| x3 = ((x0 * 256 + x1) * 256 + x2) * 256 + x3 := or_add ((x0 * 256 + x1) * 256 + x2) x3 8 h3
  have f1 : x0 * 16777216 + x1 * 65536 = (x0 * 256 + x1) * 65536 := by rw [Nat.add_mul, Nat.mul_assoc]
  have f2 : (x0 * 256 + x1) * 65536 + x2 * 256 = ((x0 * 256 + x1) * 256 + x2) * 256 := by rw [Nat.add_mul ((x0 * 256 + x1) * 256), Nat.mul_assoc (x0 * 256 + x1)]
  have m3 : ((x0 * 256 + x1) * 256 + x2) * 256 + x3 < 4294967296 := by
    have a1 : x0 * 256 + x1 < 65536 := by omega
    have a2 : (x0 * 256 + x1) * 256 + x2 < 16777216 := by generalize x0 * 256 + x1 = y at a1; omega
    generalize (x0 * 256 + x1) * 256 + x2 = y at a2
    omega
  rw [Nat.mod_eq_of_lt m0, Nat.mod_eq_of_lt m1, Nat.mod_eq_of_lt m2, Nat.mod_eq_of_lt m3, e1, f1, e2, f2, e3]
theorem word_or (X0 X1 X2 X3 : W32) (h0 : X0.toNat < 256) (h1 : X1.toNat < 256) (h2 : X2.toNat < 256) (h3 : X3.toNat < 256) :
    (((X0 <<< 24) ||| (X1 <<< 16)) ||| (X2 <<< 8)) ||| X3 = BitVec.ofNat 32 (((X0.toNat * 256 + X1.toNat) * 256 + X2.toNat) * 256 + X3.toNat) := by
  apply BitVec.eq_of_toNat_eq
  rw [BitVec.toNat_or, BitVec.toNat_or, BitVec.toNat_or, BitVec.toNat_shiftLeft, BitVec.toNat_shiftLeft, BitVec.toNat_shiftLeft, BitVec.toNat_ofNat]
  rw [Nat.shiftLeft_eq, Nat.shiftLeft_eq, Nat.shiftLeft_eq]
  exact word_nat _ _ _ _ h0 h1 h2 h3
/-- The numbers that have been laid down, with zeros behind. -/
def filled (l : List W32) : List W32 := l ++ List.replicate (64 - l.length) 0
theorem filled_len (l : List W32) (h : l.length ≤ 64) : (filled l).length = 64 := by simp [filled]; omega
theorem filled_set (l : List W32) (x : W32) (h : l.length < 64) : (filled l).set l.length x = filled (l ++ [x]) := by
  unfold filled
  rw [List.set_append_right _ _ (Nat.le_refl _), Nat.sub_self]
  have e : 64 - l.length = (64 - (l ++ [x]).length) + 1 := by simp; omega
  rw [e, List.replicate_succ, List.set_cons_zero, List.append_assoc]
  rfl
theorem filled_get (l : List W32) (i : Nat) (h : i < l.length) : (filled l).getD i 0 = l.getD i 0 := by
  unfold filled
  rw [List.getD_eq_getElem?_getD, List.getElem?_append_left h, List.getD_eq_getElem?_getD]
theorem filled_nil : filled [] = zeroK := rfl
theorem filled_full (l : List W32) (h : l.length = 64) : filled l = l := by simp [filled, h]
theorem words_succ (b : List Int) (n : Nat) : Sha.words b (n + 1) = Sha.words b n ++ [Sha.word b n] := by simp [Sha.words, List.range_succ]
theorem turn_lit (w : World) (a : W32) (k : Nat) (K : Int) (hK : K = (k : Int)) (h0 : 0 < k) (h1 : k < 32) :
    Calls Try.prog 147 #[.int .u32 (u a), .int .i64 K] w fun e w' => e = .returned (.int .u32 (u (a.rotateRight k))) ∧ w' = w := by
  subst hK
  exact turn_any w a k h0 h1
attribute [local go_sem ↓] mkK_fold mkSt_fold loadK_fold loadSt_fold
attribute [local go_sem] u_xor u_and u_or u_not u_add
set_option maxHeartbeats 8000000 in
set_option maxRecDepth 100000 in
theorem spread_any (w : World) (A : Option Addr) (n c : Nat) (bs : List Int) (hB : Bys w A n bs) (hn : 64 ≤ n) (hn2 : n ≤ 1000000000) :
    Calls Try.prog 145 #[.slice A n c] w fun e w' => e = .returned (.agg (ucells (Sha.spread bs)).toArray) ∧ Below w.heap.size w w' := by
  obtain ⟨b, off, rfl, hcell⟩ := hB.2.2 (by omega)
  have hlen := hB.1
  have hlt : b < w.heap.size := by
    obtain ⟨x, hx⟩ : ∃ x, bs[0]? = some x := ⟨_, List.getElem?_eq_getElem (by omega)⟩
    exact World.block_lt_of_cell? w _ (hcell 0 x hx)
  have hbt := hide hB.2.1
  have HC := hide hcell
  clear hcell hB
  have B0 := hide (show Blk ((w.alloc (.cells (ucells zeroK).toArray 199)).alloc (.cells (ucells zeroK).toArray 199)) w.heap.size 199 (ucells zeroK) from (Blk.new w _ _).alloc _)
  have B1 := hide (show Blk ((w.alloc (.cells (ucells zeroK).toArray 199)).alloc (.cells (ucells zeroK).toArray 199)) (w.heap.size + 1) 199 (ucells zeroK) from Blk.new1 w _ _ _)
  have O0 := hide (show Below w.heap.size w ((w.alloc (.cells (ucells zeroK).toArray 199)).alloc (.cells (ucells zeroK).toArray 199)) from Below.then_ ((Below.refl _ w).alloc (Nat.le_refl _) _) ((Below.refl _ _).alloc (Nat.le_refl _) _))
  have HU := hide Try.underlying199
  have lz : (ucells zeroK).length = 64 := by rw [ucells_len]; rfl
  have hI := isK
  go_enter Try.func145, Try.ntmps145
  go_wp2_with (refine wpList_alloc_agg rfl 199 rfl (ucells zeroK) zeroK_info ?_; simp only [Act.put, List.setIfInBounds_toArray, List.set_cons_zero, List.set_cons_succ, World.size_alloc])
  obtain ⟨w2, hw2⟩ : ∃ w2, w2 = (w.alloc (.cells (ucells zeroK).toArray 199)).alloc (.cells (ucells zeroK).toArray 199) := ⟨_, rfl⟩
  obtain ⟨g, hg⟩ : ∃ g, g = w.heap.size + 1 := ⟨_, rfl⟩
  rw [← hw2] at B0 B1 O0
  rw [← hg] at B1
  rw [← hw2, ← hg]
  clear hw2
  have hgb := hide (show b ≠ g by omega)
  have HG := hide hg
  clear hg
  go_loopw [4, 8, 46] (fun _ i _ wr => ∃ j : Nat, j ≤ 16 ∧ i = .int .i64 j ∧ Blk wr g 199 (ucells (filled (Sha.words bs j))) ∧ Only (fun i => i = g) w2 wr) (fun _ i _ _ => 16 - (intOf i).toNat)
  case atStart => exact ⟨0, by omega, rfl, B1.out, Only.refl _ _⟩
  case round =>
    obtain ⟨j, hj, rfl, hY, ho⟩ := hrel
    have hll : (Sha.words bs j).length = j := Sha.words_len bs j
    by_cases hlt2 : j < 16
    · have get : ∀ i, i < 64 → ∃ X : W32, X.toNat = (bs.getD i 0).toNat ∧ X.toNat < 256 ∧ wr.cell? ⟨b, off + i, none⟩ = some (.int .u8 (u X)) := fun i hi => by
        obtain ⟨x, hx⟩ : ∃ x, bs[i]? = some x := ⟨_, List.getElem?_eq_getElem (by omega)⟩
        have hr := hbt.out x (List.mem_of_getElem? hx)
        obtain ⟨X, e1, e2⟩ := u_byte x hr.1 hr.2
        refine ⟨X, by rw [e2, List.getD_eq_getElem?_getD, hx]; rfl, by omega, ?_⟩
        have h1 := cell_under O0.out (HC.out i x hx)
        have h2 : wr.cell? ⟨b, off + i, none⟩ = some (.int .u8 x) := (World.cell?_of_block (w := w2) (ho.block b (World.block_lt_of_cell? w2 _ h1) (fun e => hgb.out e))).trans h1
        rw [h2, e1]
      obtain ⟨X0, e0, l0, c0⟩ := get (4 * j) (by omega)
      obtain ⟨X1, e1, l1, c1⟩ := get (4 * j + 1) (by omega)
      obtain ⟨X2, e2, l2, c2⟩ := get (4 * j + 2) (by omega)
      obtain ⟨X3, e3, l3, c3⟩ := get (4 * j + 3) (by omega)
      have hword : (((X0 <<< 24) ||| (X1 <<< 16)) ||| (X2 <<< 8)) ||| X3 = Sha.word bs j := by rw [word_or X0 X1 X2 X3 l0 l1 l2 l3, Sha.word, e0, e1, e2, e3]
      have v0 : IntKind.u32.wrap (u X0) = u X0 := wrap_nat _ X0.isLt
      have v1 : IntKind.u32.wrap (u X1) = u X1 := wrap_nat _ X1.isLt
      have v2 : IntKind.u32.wrap (u X2) = u X2 := wrap_nat _ X2.isLt
      have v3 : IntKind.u32.wrap (u X3) = u X3 := wrap_nat _ X3.isLt
      have s0 : IntKind.u32.wrap (u X0 * 16777216) = u (X0 <<< 24) := u_shl X0 24
      have s1 : IntKind.u32.wrap (u X1 * 65536) = u (X1 <<< 16) := u_shl X1 16
      have s2 : IntKind.u32.wrap (u X2 * 256) = u (X2 <<< 8) := u_shl X2 8
      have i0 : (0 : Int) ≤ (j : Int) := by omega
      have i1 : (j : Int) < 16 := by omega
      have i2 : (64 : Int) ≤ (n : Int) := by omega
      have a0 : IntKind.i64.wrap (4 * (j : Int)) = 4 * (j : Int) := by rw [IntKind.wrap_i64]; omega
      have a1 : IntKind.i64.wrap (4 * (j : Int) + 1) = 4 * (j : Int) + 1 := by rw [IntKind.wrap_i64]; omega
      have a2 : IntKind.i64.wrap (4 * (j : Int) + 2) = 4 * (j : Int) + 2 := by rw [IntKind.wrap_i64]; omega
      have a3 : IntKind.i64.wrap (4 * (j : Int) + 3) = 4 * (j : Int) + 3 := by rw [IntKind.wrap_i64]; omega
      have n0 : (4 * (j : Int)).toNat = 4 * j := by omega
      have n1 : (4 * (j : Int) + 1).toNat = 4 * j + 1 := by omega
      have n2 : (4 * (j : Int) + 2).toNat = 4 * j + 2 := by omega
      have n3 : (4 * (j : Int) + 3).toNat = 4 * j + 3 := by omega
      have p0 : (0 : Int) ≤ 4 * (j : Int) := by omega
      have p1 : (0 : Int) ≤ 4 * (j : Int) + 1 := by omega
      have p2 : (0 : Int) ≤ 4 * (j : Int) + 2 := by omega
      have p3 : (0 : Int) ≤ 4 * (j : Int) + 3 := by omega
      have q0 : 4 * (j : Int) < (n : Int) := by omega
      have q1 : 4 * (j : Int) + 1 < (n : Int) := by omega
      have q2 : 4 * (j : Int) + 2 < (n : Int) := by omega
      have q3 : 4 * (j : Int) + 3 < (n : Int) := by omega
      have HY := hide hY
      have HO := hide ho
      clear get hY ho hbt HC e0 e1 e2 e3 l0 l1 l2 l3
      go_wp2_with fail
      go_still_tail 34, (by kernel_rfl)
      change wpList _ _ _ _ _ wr.drew
      obtain ⟨w3, hw3⟩ : ∃ w3, w3 = wr.drew := ⟨_, rfl⟩
      have hY : Blk w3 g 199 (ucells (filled (Sha.words bs j))) := by rw [hw3]; exact HY.out
      have ho : Only (fun i => i = g) w2 w3 := by rw [hw3]; exact HO.out.drew
      rw [← hw3]
      clear hw3 HY HO c0 c1 c2 c3
      have cg : w3.cell? ⟨g, j, none⟩ = some (.int .u32 (u ((filled (Sha.words bs j)).getD j 0))) := by rw [hY.cell]; exact ucells_get _ _ (by rw [filled_len _ (by omega)]; omega)
      have fg := hY.frozen j
      have hY2 := hide (hY.set_ j (.int .u32 (u (Sha.word bs j))))
      have hS : (filled (Sha.words bs j)).set j (Sha.word bs j) = filled (Sha.words bs (j + 1)) := by
        rw [words_succ]
        have := filled_set (Sha.words bs j) (Sha.word bs j) (by omega)
        rwa [hll] at this
      rw [ucells_set, hS] at hY2
      have HO3 := hide (ho.trans (Only.cell1 w3 g j (.int .u32 (u (Sha.word bs j)))) (fun _ _ h => h))
      clear hY ho hS
      go_wp2_with fail
      exact ⟨⟨j + 1, by omega, by simp, hY2.out, HO3.out⟩, by simp [intOf]; omega⟩
    · obtain rfl : j = 16 := by omega
      have Bz := hide (ho.blk B0.out (by have := HG.out; omega))
      obtain ⟨w4, hw4⟩ : ∃ w4, w4 = wr := ⟨_, rfl⟩
      rw [← hw4] at hY ho Bz ⊢
      have HY := hide hY
      have HO0 := hide ho
      clear hY ho hbt HC hw4 wr
      go_wp2_with fail
      go_loopw [5] (fun i ws => ∃ m : Nat, m ≤ 48 ∧ i = .int .i64 (16 + (m : Int)) ∧ Blk ws g 199 (ucells (filled (Sha.grow m (Sha.words bs 16)))) ∧ Only (fun i => i = g) w4 ws) (fun i _ => (64 - intOf i).toNat)
      case atStart => exact ⟨0, by omega, rfl, HY.out, Only.refl _ _⟩
      case round =>
        obtain ⟨m, hm, rfl, hY, ho⟩ := hrel
        obtain ⟨l, hl⟩ : ∃ l, l = Sha.grow m (Sha.words bs 16) := ⟨_, rfl⟩
        have hll : l.length = 16 + m := by rw [hl, Sha.grow_len, Sha.words_len]
        have hgs : Sha.grow (m + 1) (Sha.words bs 16) = l ++ [Sha.next l] := by rw [Sha.grow_succ, ← hl]
        rw [← hl] at hY
        have HY := hide hY
        have HO := hide ho
        by_cases hlt : m < 48
        · have get : ∀ i, i < l.length → wr.cell? ⟨g, i, none⟩ = some (.int .u32 (u (l.getD i 0))) := fun i hi => by
            rw [hY.cell, ucells_get _ _ (by rw [filled_len _ (by omega)]; omega), filled_get _ _ hi]
          have c0 := get m (by omega)
          have c1 := get (m + 1) (by omega)
          have c9 := get (m + 9) (by omega)
          have c14 := get (m + 14) (by omega)
          obtain ⟨J, hJ⟩ : ∃ J : Int, J = 16 + (m : Int) := ⟨_, rfl⟩
          obtain ⟨X, hX⟩ : ∃ X, X = l.getD (m + 1) 0 := ⟨_, rfl⟩
          obtain ⟨Y, hY2⟩ : ∃ Y, Y = l.getD (m + 14) 0 := ⟨_, rfl⟩
          obtain ⟨P, hP⟩ : ∃ P, P = l.getD m 0 := ⟨_, rfl⟩
          obtain ⟨R, hR⟩ : ∃ R, R = l.getD (m + 9) 0 := ⟨_, rfl⟩
          rw [← hX] at c1
          rw [← hY2] at c14
          rw [← hP] at c0
          rw [← hR] at c9
          have hnx : Sha.next l = P + R + (X.rotateRight 7 ^^^ X.rotateRight 18 ^^^ (X >>> 3)) + (Y.rotateRight 17 ^^^ Y.rotateRight 19 ^^^ (Y >>> 10)) := by
            rw [hX, hY2, hP, hR, Sha.next, hll, show 16 + m - 16 = m by omega, show 16 + m - 7 = m + 9 by omega, show 16 + m - 15 = m + 1 by omega, show 16 + m - 2 = m + 14 by omega]
            rfl
          have HN := hide hnx
          have k1 : IntKind.i64.wrap (J - 15) = J - 15 := by rw [IntKind.wrap_i64]; omega
          have k2 : IntKind.i64.wrap (J - 2) = J - 2 := by rw [IntKind.wrap_i64]; omega
          have k3 : IntKind.i64.wrap (J - 16) = J - 16 := by rw [IntKind.wrap_i64]; omega
          have k4 : IntKind.i64.wrap (J - 7) = J - 7 := by rw [IntKind.wrap_i64]; omega
          have k5 : IntKind.i64.wrap (J + 1) = J + 1 := by rw [IntKind.wrap_i64]; omega
          have n1 : (J - 15).toNat = m + 1 := by omega
          have n2 : (J - 2).toNat = m + 14 := by omega
          have n3 : (J - 16).toNat = m := by omega
          have n4 : (J - 7).toNat = m + 9 := by omega
          have n5 : J.toNat = 16 + m := by omega
          have p1 : (15 : Int) ≤ J := by omega
          have p2 : (2 : Int) ≤ J := by omega
          have p3 : (16 : Int) ≤ J := by omega
          have p4 : (7 : Int) ≤ J := by omega
          have p5 : (0 : Int) ≤ J := by omega
          have q1 : J - 15 < 64 := by omega
          have q2 : J - 2 < 64 := by omega
          have q3 : J - 16 < 64 := by omega
          have q4 : J - 7 < 64 := by omega
          have q5 : J < 64 := by omega
          have h8 : u X / (8 : Int) = u (X >>> 3) := u_shr X 3
          have h10 : u Y / (1024 : Int) = u (Y >>> 10) := u_shr Y 10
          have HJ := hide hJ
          rw [← hJ]
          clear hJ hX hY2 hP hR hnx get hY ho hl hm
          go_wp2_with fail
          go_still (by kernel_rfl)
          obtain ⟨w5, hw5⟩ : ∃ w5, w5 = wr.drew := ⟨_, rfl⟩
          change Exit.then _ _ _ _ wr.drew
          have HY5 := hide (show Blk w5 g 199 (ucells (filled l)) by rw [hw5]; exact HY.out)
          have HO5 := hide (show Only (fun i => i = g) w4 w5 by rw [hw5]; exact HO.out.drew)
          rw [← hw5]
          have d0 : w5.cell? ⟨g, m, none⟩ = some (.int .u32 (u P)) := by rw [hw5]; exact c0
          have d9 : w5.cell? ⟨g, m + 9, none⟩ = some (.int .u32 (u R)) := by rw [hw5]; exact c9
          clear hw5 HY HO c0 c1 c9 c14
          go_wp2_with fail
          refine wp_region_still_tail 28 (by kernel_rfl) (by kernel_rfl) ?_
          simp only [List.take_succ_cons, List.take_zero, List.drop_succ_cons, List.drop_zero]
          repeat still_step
          still_call (turn_lit _ X 7 7 rfl (by decide) (by decide))
          repeat still_step
          still_call (turn_lit _ X 18 18 rfl (by decide) (by decide))
          repeat still_step
          still_call (turn_lit _ Y 17 17 rfl (by decide) (by decide))
          repeat still_step
          still_call (turn_lit _ Y 19 19 rfl (by decide) (by decide))
          repeat still_step
          try refine wpStill_nil ?_
          change wpList _ _ _ _ _ w5.drew
          obtain ⟨w6, hw6⟩ : ∃ w6, w6 = w5.drew := ⟨_, rfl⟩
          have hY : Blk w6 g 199 (ucells (filled l)) := by rw [hw6]; exact HY5.out
          have ho : Only (fun i => i = g) w4 w6 := by rw [hw6]; exact HO5.out.drew
          rw [← hw6]
          clear hw6 HY5 HO5 d0 d9
          have cg : w6.cell? ⟨g, 16 + m, none⟩ = some (.int .u32 (u ((filled l).getD (16 + m) 0))) := by rw [hY.cell]; exact ucells_get _ _ (by rw [filled_len _ (by omega)]; omega)
          have fg := hY.frozen (16 + m)
          have hY2 := hide (hY.set_ (16 + m) (.int .u32 (u (Sha.next l))))
          have hS : (filled l).set (16 + m) (Sha.next l) = filled (l ++ [Sha.next l]) := by
            have := filled_set l (Sha.next l) (by omega)
            rwa [hll] at this
          rw [ucells_set, hS, ← hgs] at hY2
          have HO3 := hide (ho.trans (Only.cell1 w6 g (16 + m) (.int .u32 (u (Sha.next l)))) (fun _ _ h => h))
          rw [← HN.out]
          clear hY ho hS
          go_wp2_with fail
          refine ⟨?_, by have := HJ.out; simp [intOf]; omega⟩
          repeat apply Exists.intro
          exact ⟨⟨m + 1, by omega, congrArg (Value.int .i64) (by have := HJ.out; omega), hY2.out, HO3.out⟩, rfl⟩
        · obtain rfl : m = 48 := by omega
          have hf : filled l = Sha.spread bs := by rw [filled_full l (by omega), hl]; rfl
          rw [hf] at HY
          have ls : (ucells (Sha.spread bs)).length = 64 := by rw [ucells_len, Sha.spread_len]
          have B5 := hide (ho.blk Bz.out (by have := HG.out; omega))
          have BO := hide (show Below w.heap.size w wr from Below.trans O0.out (((HO0.out.trans ho (fun _ _ h => h))).below O0.out.size (fun i hi e => by have := HG.out; have h2 : i = g := e; omega)))
          clear hY ho
          go_wp2_with (first
            | (refine wpList_load_blk rfl 199 _ rfl g 0 199 (ucells (Sha.spread bs)) (ucells (Sha.spread bs)) _ (by rfl) HY.out (fun i v hv => by rw [Nat.zero_add]; exact hv) HU.out rfl (by rw [hI, ls]) ?_; simp only [Act.put, List.setIfInBounds_toArray, List.set_cons_zero, List.set_cons_succ])
            | (refine wpList_store_blk rfl 199 _ _ rfl w.heap.size 0 199 (ucells zeroK) (ucells (Sha.spread bs)) (by rfl) (by rfl) B5.out (by omega) (by rw [hI, ls]) (ucells_one _) ?_; intro w9 o9 z9 b9; simp only [Act.put]))
          rw [lay_all _ _ (by omega)] at b9
          refine bodyPost_ret (results_cell_blk rfl _ _ w.heap.size 199 _ _ (by rfl) b9 HU.out rfl (by rw [hI, ls])) rfl ⟨rfl, ?_⟩
          exact BO.out.trans (o9.below (by exact BO.out.size) (fun i hi => by omega))
end Go.Proofs.Ytbpmcnfmgaolnaa
/-
  A region that draws its order: two calls, one behind the other, and three allocations in whatever order.
-/
namespace Go.Proofs.Ytbpmcnfmgaolnaa
open Go.RowKit

theorem wpAnyH_2c3 {P : Program} {ops : Array Oper} {Q : Exit → Act → World → Prop} {S : World → Prop} {m : Nat} (L : Bool → Bool → Bool → Bool → Bool → Array Bool) (Φ : Bool → Bool → Bool → Bool → Bool → Act → World → Prop) (i1 i2 i4 i5 i6 : Nat)
    (hr : ∀ b1 b2 b4 b5 b6 : Bool, (b2 = true → b1 = true) → (b2 && b4 && b5 && b6) = false → Region.ready .any ops (L b1 b2 b4 b5 b6) = (if b1 then (if b2 then [] else [i2]) else [i1]) ++ ((if b4 then [] else [i4]) ++ ((if b5 then [] else [i5]) ++ (if b6 then [] else [i6]))))
    (h1 : ∀ b1 b2 b4 b5 b6 : Bool, (L b1 b2 b4 b5 b6).setIfInBounds i1 true = L true b2 b4 b5 b6) (h2 : ∀ b1 b2 b4 b5 b6 : Bool, (L b1 b2 b4 b5 b6).setIfInBounds i2 true = L b1 true b4 b5 b6)
    (h4 : ∀ b1 b2 b4 b5 b6 : Bool, (L b1 b2 b4 b5 b6).setIfInBounds i4 true = L b1 b2 true b5 b6) (h5 : ∀ b1 b2 b4 b5 b6 : Bool, (L b1 b2 b4 b5 b6).setIfInBounds i5 true = L b1 b2 b4 true b6) (h6 : ∀ b1 b2 b4 b5 b6 : Bool, (L b1 b2 b4 b5 b6).setIfInBounds i6 true = L b1 b2 b4 b5 true)
    (s1 : ∀ b4 b5 b6 a w, Φ false false b4 b5 b6 a w → wpOp P ops Q i1 (fun a' w' => S w' ∧ Φ true false b4 b5 b6 a' w') a w)
    (s2 : ∀ b4 b5 b6 a w, Φ true false b4 b5 b6 a w → wpOp P ops Q i2 (fun a' w' => S w' ∧ Φ true true b4 b5 b6 a' w') a w)
    (s4 : ∀ b1 b2 b5 b6 a w, Φ b1 b2 false b5 b6 a w → wpOp P ops Q i4 (fun a' w' => S w' ∧ Φ b1 b2 true b5 b6 a' w') a w)
    (s5 : ∀ b1 b2 b4 b6 a w, Φ b1 b2 b4 false b6 a w → wpOp P ops Q i5 (fun a' w' => S w' ∧ Φ b1 b2 b4 true b6 a' w') a w)
    (s6 : ∀ b1 b2 b4 b5 a w, Φ b1 b2 b4 b5 false a w → wpOp P ops Q i6 (fun a' w' => S w' ∧ Φ b1 b2 b4 b5 true a' w') a w)
    (hend : ∀ a w, Φ true true true true true a w → S w → wpAnyH P .any ops Q S m (L true true true true true) a w) :
    ∀ (k : Nat) (b1 b2 b4 b5 b6 : Bool), (b2 = true → b1 = true) → k = (if b1 then 0 else 1) + (if b2 then 0 else 1) + (if b4 then 0 else 1) + (if b5 then 0 else 1) + (if b6 then 0 else 1) → ∀ a w, Φ b1 b2 b4 b5 b6 a w → S w → wpAnyH P .any ops Q S (m + k) (L b1 b2 b4 b5 b6) a w := by
  intro k
  induction k with
  | zero =>
    intro b1 b2 b4 b5 b6 _ hk a w hΦ hS
    cases b1 <;> cases b2 <;> cases b4 <;> cases b5 <;> cases b6 <;> first | (exfalso; revert hk; decide) | exact hend a w hΦ hS
  | succ k ih =>
    intro b1 b2 b4 b5 b6 hb hk a w hΦ hS
    have hall : (b2 && b4 && b5 && b6) = false := by
      cases b1 <;> cases b2 <;> cases b4 <;> cases b5 <;> cases b6 <;> first | rfl | (exfalso; simp at hk hb)
    refine wpAnyH_all (hr b1 b2 b4 b5 b6 hb hall) ?_ ?_
    · cases b1 <;> cases b2 <;> cases b4 <;> cases b5 <;> cases b6 <;> simp at hb hall ⊢
    · intro i hi
      rcases List.mem_append.1 hi with hi | hi
      · cases b1 with
        | false =>
          simp only [Bool.false_eq_true, if_false, List.mem_singleton] at hi
          subst hi
          have hb2 : b2 = false := by cases b2 <;> simp at hb ⊢
          subst hb2
          refine wpOp_mono (fun a' w' h => ⟨h.1, ?_⟩) (s1 b4 b5 b6 a w hΦ)
          rw [h1]
          exact ih _ _ _ _ _ (by simp) (by simp at hk ⊢; omega) a' w' h.2 h.1
        | true =>
          cases b2 with
          | true => simp at hi
          | false =>
            simp only [Bool.false_eq_true, if_false, if_true, List.mem_singleton] at hi
            subst hi
            refine wpOp_mono (fun a' w' h => ⟨h.1, ?_⟩) (s2 b4 b5 b6 a w hΦ)
            rw [h2]
            exact ih _ _ _ _ _ (by simp) (by simp at hk ⊢; omega) a' w' h.2 h.1
      · rcases List.mem_append.1 hi with hi | hi
        · cases b4 with
          | true => simp at hi
          | false =>
            simp only [Bool.false_eq_true, if_false, List.mem_singleton] at hi
            subst hi
            refine wpOp_mono (fun a' w' h => ⟨h.1, ?_⟩) (s4 b1 b2 b5 b6 a w hΦ)
            rw [h4]
            exact ih _ _ _ _ _ hb (by simp at hk ⊢; omega) a' w' h.2 h.1
        · rcases List.mem_append.1 hi with hi | hi
          · cases b5 with
            | true => simp at hi
            | false =>
              simp only [Bool.false_eq_true, if_false, List.mem_singleton] at hi
              subst hi
              refine wpOp_mono (fun a' w' h => ⟨h.1, ?_⟩) (s5 b1 b2 b4 b6 a w hΦ)
              rw [h5]
              exact ih _ _ _ _ _ hb (by simp at hk ⊢; omega) a' w' h.2 h.1
          · cases b6 with
            | true => simp at hi
            | false =>
              simp only [Bool.false_eq_true, if_false, List.mem_singleton] at hi
              subst hi
              refine wpOp_mono (fun a' w' h => ⟨h.1, ?_⟩) (s6 b1 b2 b4 b5 a w hΦ)
              rw [h6]
              exact ih _ _ _ _ _ hb (by simp at hk ⊢; omega) a' w' h.2 h.1
section
variable {P : Program}
theorem wp_store_blk {op : Oper} {a : Act} {w : World} {K : Act → World → Prop} {Q : Exit → Act → World → Prop} (ty : TypeId) (x y : Operand) (ho : op.op = .store ty x y)
    (g o : Nat) (t : TypeId) (cs vs : List Value) (hx : a.eval x = .pointer (some ⟨g, o, none⟩)) (hy : a.eval y = .agg vs.toArray) (hb : Blk w g t cs) (hl : o + vs.length ≤ cs.length)
    (hi : (P.info? ty).map (·.size) = some vs.length) (h1 : ∀ v ∈ vs, v.oneCell' = true)
    (h : ∀ w', Only (fun i => i = g) w w' → w'.heap.size = w.heap.size → Blk w' g t (lay cs o vs) → K (a.put op.dst undef) w') : op.wp P a w K Q := by
  refine wp_store_mid ty x y ho g o vs.toArray hx hy (by simpa using hb.there o vs.length hl) (by simpa using hi) (all_oneCell_toArray h1) ?_
  exact h _ (Only.setCells (F := fun i => i = g) (.inr rfl) _ _ _ (Only.refl _ w)) (by rw [setCells_size]) (by simpa using hb.cells vs o w cs)
end
end Go.Proofs.Ytbpmcnfmgaolnaa
