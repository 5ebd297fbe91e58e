/- Lemmas and walks for TableRuns, packed. -/
import Derived.Test.YtjnpkcabkccaoaaGreatQ2
import Derived.Test.YtjnpkcabkccaoaaGreatQ3
set_option maxRecDepth 100000
set_option maxHeartbeats 16000000
namespace Go.Proofs.YtjnpkcabkccaoaaGreat
open Go.RowKit
section
def u (x : W32) : Int := (x.toNat : Int)
def uv (x : W32) : Value := .int .u32 (u x)
theorem u_lo (x : W32) : 0 ≤ u x := Int.natCast_nonneg _
theorem u_hi (x : W32) : u x < 4294967296 := by
 have := x.isLt
 unfold u
 omega
theorem ofInt_u (x : W32) : BitVec.ofInt 32 (u x) = x := by simp [u]
theorem wrap_nat (n : Nat) (h : n < 4294967296) : IntKind.u32.wrap (n : Int) = (n : Int) := by rw [IntKind.wrap_u32]; omega
theorem u_xor (a b : W32) : bits .xor .u32 (u a) (u b) = u (a ^^^ b) := by
 show IntKind.u32.wrap ((BitVec.ofInt 32 (u a) ^^^ BitVec.ofInt 32 (u b)).toNat : Int) = _
 rw [ofInt_u, ofInt_u, wrap_nat _ (a ^^^ b).isLt]; rfl
theorem u_and (a b : W32) : bits .and .u32 (u a) (u b) = u (a &&& b) := by
 show IntKind.u32.wrap ((BitVec.ofInt 32 (u a) &&& BitVec.ofInt 32 (u b)).toNat : Int) = _
 rw [ofInt_u, ofInt_u, wrap_nat _ (a &&& b).isLt]; rfl
theorem u_or (a b : W32) : bits .or .u32 (u a) (u b) = u (a ||| b) := by
 show IntKind.u32.wrap ((BitVec.ofInt 32 (u a) ||| BitVec.ofInt 32 (u b)).toNat : Int) = _
 rw [ofInt_u, ofInt_u, wrap_nat _ (a ||| b).isLt]; rfl
theorem u_not (a : W32) : bits .xor .u32 4294967295 (u a) = u (~~~a) := by
 show IntKind.u32.wrap ((BitVec.ofInt 32 4294967295 ^^^ BitVec.ofInt 32 (u a)).toNat : Int) = _
 have e : BitVec.ofInt 32 4294967295 ^^^ a = ~~~a := by rw [show BitVec.ofInt 32 4294967295 = BitVec.allOnes 32 from rfl, BitVec.allOnes_xor]
 rw [ofInt_u, e, wrap_nat _ (~~~a).isLt]; rfl
theorem u_add (a b : W32) : IntKind.u32.wrap (u a + u b) = u (a + b) := by
 rw [IntKind.wrap_u32]
 unfold u
 rw [BitVec.toNat_add]
 omega
theorem u_shl (a : W32) (k : Nat) : IntKind.u32.wrap (u a * 2 ^ k) = u (a <<< k) := by
 rw [IntKind.wrap_u32]
 unfold u
 rw [BitVec.toNat_shiftLeft, Nat.shiftLeft_eq]
 have : ((a.toNat : Int) * 2 ^ k) = ((a.toNat * 2 ^ k : Nat) : Int) := by push_cast; rfl
 rw [this]
 omega
theorem u_shr (a : W32) (k : Nat) : u a / 2 ^ k = u (a >>> k) := by
 unfold u
 rw [BitVec.toNat_ushiftRight, Nat.shiftRight_eq_div_pow]
 push_cast
 rfl
theorem rot_or (a : W32) (k : Nat) (h1 : k < 32) : (a <<< (32 - k)) ||| (a >>> k) = a.rotateRight k := by
 rw [BitVec.rotateRight_def, Nat.mod_eq_of_lt h1, BitVec.or_comm]
theorem shl_run (a : W32) (k : Nat) (h : k ≤ 32) (w : World) (P : Program) : (Op.shift .shl .u32 (u a) .u64 (k : Int)).run P w = .ok (.int .u32 (u (a <<< k))) w := by
 unfold Op.shift
 rw [if_neg (by omega)]
 have e : min (k : Int).toNat IntKind.u32.bits = k := by simp only [IntKind.bits]; omega
 simp only [e, Sem.run_pure, u_shl]
theorem shr_run (a : W32) (k : Nat) (h : k ≤ 32) (w : World) (P : Program) : (Op.shift .shr .u32 (u a) .u64 (k : Int)).run P w = .ok (.int .u32 (u (a >>> k))) w := by
 unfold Op.shift
 rw [if_neg (by omega)]
 have e : min (k : Int).toNat IntKind.u32.bits = k := by simp only [IntKind.bits]; omega
 simp only [e, Sem.run_pure]
 rw [Int.fdiv_eq_ediv_of_nonneg _ (Int.le_of_lt (Int.pow_pos (by decide))), u_shr]
theorem and31 (k : Nat) (h0 : 0 < k) (h1 : k < 32) : bits .and .u64 (IntKind.u64.wrap (-(k : Int))) 31 = ((32 - k : Nat) : Int) := by
 have : ∀ k : Fin 32, 0 < k.val → bits .and .u64 (IntKind.u64.wrap (-(k.val : Int))) 31 = ((32 - k.val : Nat) : Int) := by decide +kernel
 exact this ⟨k, h1⟩ h0
theorem rotate_any (w : World) (a : W32) (k : Nat) (h0 : 0 < k) (h1 : k < 32) :
  Calls Tryz.prog 136 #[.int .u32 (u a), .int .i64 (-(k : Int))] w fun e w' => e = .returned (.int .u32 (u (a.rotateRight k))) ∧ w' = w := by
 have hk := and31 k h0 h1
 have hl := fun w => shl_run a (32 - k) (by omega) w Tryz.prog
 have hr := fun w => shr_run a k (by omega) w Tryz.prog
 have ho := u_or (a <<< (32 - k)) (a >>> k)
 rw [rot_or a k h1, ← u_shr] at ho
 have hs : IntKind.u64.wrap (32 - ((32 - k : Nat) : Int)) = (k : Int) := by rw [IntKind.wrap_u64]; omega
 generalize ((32 - k : Nat) : Int) = m at hk hl hs
 go_enter Tryz.func136, Tryz.ntmps136
 go_wp2_with fail
 go_ret
 exact ⟨by rw [← ho]; rfl, rfl⟩
theorem turn_any (w : World) (a : W32) (k : Nat) (h0 : 0 < k) (h1 : k < 32) :
  Calls Tryz.prog 134 #[.int .u32 (u a), .int .i64 (k : Int)] w fun e w' => e = .returned (.int .u32 (u (a.rotateRight k))) ∧ w' = w := by
 have hk : IntKind.i64.wrap (-(k : Int)) = -(k : Int) := by rw [IntKind.wrap_i64]; omega
 go_enter Tryz.func134, Tryz.ntmps134
 go_wp2_with fail
 refine (rotate_any _ a k h0 h1).mono ?_
 rintro e w1 ⟨rfl, rfl⟩
 go_wp2_with fail
 go_ret
 exact ⟨rfl, rfl⟩
def ucells (l : List W32) : List Value := l.map uv
theorem ucells_len (l : List W32) : (ucells l).length = l.length := by simp [ucells]
theorem ucells_one (l : List W32) : ∀ v ∈ ucells l, v.oneCell' = true := by
 intro v hv
 simp only [ucells, List.mem_map] at hv
 obtain ⟨x, _, rfl⟩ := hv
 rfl
theorem ucells_get (l : List W32) (i : Nat) (h : i < l.length) : (ucells l)[i]? = some (.int .u32 (u (l.getD i 0))) := by
 rw [ucells, List.getElem?_map, List.getElem?_eq_getElem h]
 simp [uv, List.getElem?_eq_getElem h]
theorem ucells_set (l : List W32) (i : Nat) (x : W32) : (ucells l).set i (.int .u32 (u x)) = ucells (l.set i x) := by
 rw [ucells, ucells, List.map_set]; rfl
def mkK (parts : Array (Nat × Value)) : Sem Value := Instr.build 204 parts
theorem mkK_fold (parts : Array (Nat × Value)) : Instr.build 204 parts = mkK parts := rfl
theorem mkK_run (w : World) : (mkK #[(0, .int .u32 1116352408), (1, .int .u32 1899447441), (2, .int .u32 3049323471), (3, .int .u32 3921009573), (4, .int .u32 961987163), (5, .int .u32 1508970993), (6, .int .u32 2453635748), (7, .int .u32 2870763221), (8, .int .u32 3624381080), (9, .int .u32 310598401), (10, .int .u32 607225278), (11, .int .u32 1426881987), (12, .int .u32 1925078388), (13, .int .u32 2162078206), (14, .int .u32 2614888103), (15, .int .u32 3248222580), (16, .int .u32 3835390401), (17, .int .u32 4022224774), (18, .int .u32 264347078), (19, .int .u32 604807628), (20, .int .u32 770255983), (21, .int .u32 1249150122), (22, .int .u32 1555081692), (23, .int .u32 1996064986), (24, .int .u32 2554220882), (25, .int .u32 2821834349), (26, .int .u32 2952996808), (27, .int .u32 3210313671), (28, .int .u32 3336571891), (29, .int .u32 3584528711), (30, .int .u32 113926993), (31, .int .u32 338241895), (32, .int .u32 666307205), (33, .int .u32 773529912), (34, .int .u32 1294757372), (35, .int .u32 1396182291), (36, .int .u32 1695183700), (37, .int .u32 1986661051), (38, .int .u32 2177026350), (39, .int .u32 2456956037), (40, .int .u32 2730485921), (41, .int .u32 2820302411), (42, .int .u32 3259730800), (43, .int .u32 3345764771), (44, .int .u32 3516065817), (45, .int .u32 3600352804), (46, .int .u32 4094571909), (47, .int .u32 275423344), (48, .int .u32 430227734), (49, .int .u32 506948616), (50, .int .u32 659060556), (51, .int .u32 883997877), (52, .int .u32 958139571), (53, .int .u32 1322822218), (54, .int .u32 1537002063), (55, .int .u32 1747873779), (56, .int .u32 1955562222), (57, .int .u32 2024104815), (58, .int .u32 2227730452), (59, .int .u32 2361852424), (60, .int .u32 2428436474), (61, .int .u32 2756734187), (62, .int .u32 3204031479), (63, .int .u32 3329325298)]).run Tryz.prog w = .ok (.agg (ucells Sha.keys).toArray) w := by kernel_rfl
def mkSt (parts : Array (Nat × Value)) : Sem Value := Instr.build 191 parts
theorem mkSt_fold (parts : Array (Nat × Value)) : Instr.build 191 parts = mkSt parts := rfl
theorem mkSt_run (x0 x1 x2 x3 x4 x5 x6 x7 : Int) (w : World) : (mkSt #[(0, .int .u32 x0), (1, .int .u32 x1), (2, .int .u32 x2), (3, .int .u32 x3), (4, .int .u32 x4), (5, .int .u32 x5), (6, .int .u32 x6), (7, .int .u32 x7)]).run Tryz.prog w = .ok (.agg #[.int .u32 x0, .int .u32 x1, .int .u32 x2, .int .u32 x3, .int .u32 x4, .int .u32 x5, .int .u32 x6, .int .u32 x7]) w := by kernel_rfl
theorem first_cells : #[.int .u32 1779033703, .int .u32 3144134277, .int .u32 1013904242, .int .u32 2773480762, .int .u32 1359893119, .int .u32 2600822924, .int .u32 528734635, .int .u32 1541459225] = (ucells Sha.first.list).toArray := by kernel_rfl
def loadK (a : Addr) : Sem Value := loadVar 204 a
theorem loadK_fold (a : Addr) : loadVar 204 a = loadK a := rfl
def loadSt (a : Addr) : Sem Value := loadVar 191 a
theorem loadSt_fold (a : Addr) : loadVar 191 a = loadSt a := rfl
theorem isK : (Tryz.prog.info? 204).map (·.size) = some 64 := by kernel_rfl
theorem isSt : (Tryz.prog.info? 191).map (·.size) = some 8 := by kernel_rfl
theorem loadSt_run (w : World) (b o : Nat) (l : List W32) (h : w.rangeAt b o (ucells l)) (hl : l.length = 8) : (loadSt ⟨b, o, none⟩).run Tryz.prog w = .ok (.agg (ucells l).toArray) w :=
 run_loadVar_mid w b o _ (ucells l) _ h Tryz.underlying191 rfl (by rw [isSt, ucells_len, hl])
def zeroK : List W32 := List.replicate 64 0
def zeroSt : List W32 := List.replicate 8 0
theorem zeroK_info : (Tryz.prog.info? 204).map (·.zero) = some (some (.agg (ucells zeroK).toArray)) := by kernel_rfl
theorem zeroSt_info : (Tryz.prog.info? 191).map (·.zero) = some (some (.agg (ucells zeroSt).toArray)) := by kernel_rfl
attribute [local go_sem ↓] mkK_fold mkSt_fold loadK_fold loadSt_fold
attribute [local go_sem] mkK_run mkSt_run
theorem constants_any (w : World) : Calls Tryz.prog 133 #[] w fun e w' => e = .returned (.agg (ucells Sha.keys).toArray) ∧ Below w.heap.size w w' := by
 have B0 := hide (Blk.new w 204 (ucells zeroK))
 have b0 := hide (show Below w.heap.size w (w.alloc (.cells (ucells zeroK).toArray 204)) from (Below.refl _ w).alloc (Nat.le_refl _) _)
 have HU := hide Tryz.underlying204
 have l0 : (ucells Sha.keys).length = 64 := rfl
 have l1 : (ucells zeroK).length = 64 := by rw [ucells_len]; rfl
 have hI := isK
 go_enter Tryz.func133, Tryz.ntmps133
 go_wp2_with (first
  | (refine wpList_alloc_agg rfl 204 rfl (ucells zeroK) zeroK_info ?_; simp only [Act.put, List.setIfInBounds_toArray, List.set_cons_zero])
  | (refine wpList_store_blk rfl 204 _ _ rfl w.heap.size 0 204 (ucells zeroK) (ucells Sha.keys) (by rfl) (by rfl) B0.out (by omega) (by rw [hI, l0]) (ucells_one _) ?_; intro w9 o9 z9 b9; simp only [Act.put]))
 rw [lay_all _ _ (by omega)] at b9
 refine bodyPost_ret (results_cell_blk rfl _ _ w.heap.size 204 _ _ (by rfl) b9 HU.out rfl (by rw [hI, l0])) rfl ⟨rfl, ?_⟩
 exact b0.out.trans (o9.below (by exact b0.out.size) (fun i hi => by omega))
theorem first_any (w : World) : Calls Tryz.prog 125 #[] w fun e w' => e = .returned (.agg (ucells Sha.first.list).toArray) ∧ Below w.heap.size w w' := by
 have B0 := hide (Blk.new w 191 (ucells zeroSt))
 have b0 := hide (show Below w.heap.size w (w.alloc (.cells (ucells zeroSt).toArray 191)) from (Below.refl _ w).alloc (Nat.le_refl _) _)
 have HU := hide Tryz.underlying191
 have l0 : (ucells Sha.first.list).length = 8 := rfl
 have l1 : (ucells zeroSt).length = 8 := rfl
 have hI := isSt
 go_enter Tryz.func125, Tryz.ntmps125
 go_wp2_with (first
  | (refine wpList_alloc_agg rfl 191 rfl (ucells zeroSt) zeroSt_info ?_; simp only [Act.put, List.setIfInBounds_toArray, List.set_cons_zero])
  | (rw [first_cells]; refine wpList_store_blk rfl 191 _ _ rfl w.heap.size 0 191 (ucells zeroSt) (ucells Sha.first.list) (by rfl) (by rfl) B0.out (by omega) (by rw [hI, l0]) (ucells_one _) ?_; intro w9 o9 z9 b9; simp only [Act.put]))
 rw [lay_all _ _ (by omega)] at b9
 refine bodyPost_ret (results_cell_blk rfl _ _ w.heap.size 191 _ _ (by rfl) b9 HU.out rfl (by rw [hI, l0])) rfl ⟨rfl, ?_⟩
 exact b0.out.trans (o9.below (by exact b0.out.size) (fun i hi => by omega))
end
end Go.Proofs.YtjnpkcabkccaoaaGreat
