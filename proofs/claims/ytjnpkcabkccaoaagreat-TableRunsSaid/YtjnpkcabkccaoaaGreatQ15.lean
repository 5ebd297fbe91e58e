/- Lemmas and walks for TableRuns, packed. -/
import Derived.Test.YtjnpkcabkccaoaaGreatQ14
import Derived.Test.YtjnpkcabkccaoaaGreatQ13
set_option maxRecDepth 100000
set_option maxHeartbeats 16000000
namespace Go.Proofs.YtjnpkcabkccaoaaGreat
open Go.RowKit
theorem Bys.of_blk {w : World} {g : Nat} {t : TypeId} {bs : List Int} (h : Blk w g t (bcs bs)) (hb : Byt bs) : Bys w (some ⟨g, 0, none⟩) bs.length bs := by
 refine ⟨rfl, hb, fun _ => ⟨g, 0, rfl, fun j v hv => ?_⟩⟩
 rw [Nat.zero_add, h.cell]
 simp [bcs, hv]
theorem DSum_any (w : World) (A : Option Addr) (n c : Nat) (xss : List (List Int)) (hX : Byss w A n xss) (hshort : xss.dropLast.flatten.length < 64) (hlong : xss.flatten.length ≤ 100000000) (hn : n ≤ 1000000) :
  Calls Tryz.prog 85 #[.slice A n c] w fun e w' => e = .returned (.agg (bcs (sha xss.flatten)).toArray) ∧ Below w.heap.size w w' := by
 have hHH := hide Tryz.underlying104
 have hIH : (Tryz.prog.info? 104).map (·.size) = some 32 := by kernel_rfl
 have lsh : (bcs (sha xss.flatten)).length = 32 := by rw [bcs_length, sha_len]
 have lz32 : (bcs zero32).length = 32 := rfl
 have KR := hide (Blk.new w 104 (bcs zero32))
 have B0 := hide (show Below w.heap.size w (w.alloc (.cells (bcs zero32).toArray 104)) from (Below.refl _ w).alloc (Nat.le_refl _) _)
 have HX := hide hX
 have HS := hide hshort
 have HL := hide hlong
 have HN := hide hn
 clear hX hshort hlong hn
 go_enter Tryz.func85, Tryz.ntmps85
 go_wp2_with (refine wpList_alloc_agg rfl 104 rfl (bcs zero32) zero32_info ?_; simp only [pU])
 obtain ⟨w1, hw1⟩ : ∃ w1, w1 = w.alloc (.cells (bcs zero32).toArray 104) := ⟨_, rfl⟩
 rw [← hw1] at KR B0 ⊢
 clear hw1
 refine (HNew_any w1).mono ?_
 rintro e w2 ⟨g, rfl, hg, hb2, hG⟩
 go_wp2_with fail
 refine (HAdd_any w1 w2 g A n c xss hb2 hg hG (HX.out.below B0.out) HS.out HL.out HN.out).mono ?_
 rintro e w3 ⟨rfl, A3, m3, c3, h3⟩
 go_wp2_with fail
 refine (HSum_any w1 w3 g A3 m3 c3 xss.flatten h3 HL.out).mono ?_
 rintro e w4 ⟨rfl, hb4⟩
 have hb14 : Below w1.heap.size w1 w4 := Below.then_ h3.below hb4
 have K4 := hide (KR.out.under hb14)
 go_wp2_with (refine wpList_store_blk rfl 104 _ _ rfl w.heap.size 0 104 (bcs zero32) (bcs (sha xss.flatten)) (by rfl) (by rfl) K4.out (by rw [lz32, lsh]; decide) (by rw [hIH, lsh]) (bcs_one _) ?_; intro w9 o9 z9 b9; simp only [Act.put])
 rw [lay_all (bcs zero32) _ (by rw [lz32, lsh])] at b9
 refine bodyPost_ret (results_cell_blk rfl _ _ w.heap.size 104 _ _ (by rfl) b9 hHH.out rfl (by rw [hIH, lsh])) rfl ⟨rfl, ?_⟩
 have hbw := Below.then_ B0.out hb14
 exact hbw.trans (o9.below hbw.size (fun i hi e => by have h9 : i = w.heap.size := e; omega))
section
def u8v (x : W32) : Value := .int .u64 (u x)
theorem wrapu64 (n : Nat) (h : n < 18446744073709551616) : IntKind.u64.wrap (n : Int) = (n : Int) := by rw [IntKind.wrap_u64]; omega
theorem ofInt64 (n : Nat) : BitVec.ofInt 64 (n : Int) = BitVec.ofNat 64 n := by simp
theorem bits_or64 (a b : Nat) (ha : a < 18446744073709551616) (hb : b < 18446744073709551616) : bits .or .u64 (a : Int) (b : Int) = ((a ||| b : Nat) : Int) := by
 show IntKind.u64.wrap ((BitVec.ofInt 64 (a : Int) ||| BitVec.ofInt 64 (b : Int)).toNat : Int) = _
 rw [wrapu64 _ (BitVec.isLt _), ofInt64, ofInt64, BitVec.toNat_or, BitVec.toNat_ofNat, BitVec.toNat_ofNat, Nat.mod_eq_of_lt ha, Nat.mod_eq_of_lt hb]
theorem bits_and64 (a b : Nat) (ha : a < 18446744073709551616) (hb : b < 18446744073709551616) : bits .and .u64 (a : Int) (b : Int) = ((a &&& b : Nat) : Int) := by
 show IntKind.u64.wrap ((BitVec.ofInt 64 (a : Int) &&& BitVec.ofInt 64 (b : Int)).toNat : Int) = _
 rw [wrapu64 _ (BitVec.isLt _), ofInt64, ofInt64, BitVec.toNat_and, BitVec.toNat_ofNat, BitVec.toNat_ofNat, Nat.mod_eq_of_lt ha, Nat.mod_eq_of_lt hb]
theorem bits_xor64 (a b : Nat) (ha : a < 18446744073709551616) (hb : b < 18446744073709551616) : bits .xor .u64 (a : Int) (b : Int) = ((a ^^^ b : Nat) : Int) := by
 show IntKind.u64.wrap ((BitVec.ofInt 64 (a : Int) ^^^ BitVec.ofInt 64 (b : Int)).toNat : Int) = _
 rw [wrapu64 _ (BitVec.isLt _), ofInt64, ofInt64, BitVec.toNat_xor, BitVec.toNat_ofNat, BitVec.toNat_ofNat, Nat.mod_eq_of_lt ha, Nat.mod_eq_of_lt hb]
theorem lt64 (x : W32) : x.toNat < 18446744073709551616 := by have := x.isLt; omega
theorem v_xor (a b : W32) : bits .xor .u64 (u a) (u b) = u (a ^^^ b) := by
 rw [u, u, bits_xor64 _ _ (lt64 a) (lt64 b), u, BitVec.toNat_xor]
theorem v_and (a b : W32) : bits .and .u64 (u a) (u b) = u (a &&& b) := by
 rw [u, u, bits_and64 _ _ (lt64 a) (lt64 b), u, BitVec.toNat_and]
theorem v_not (a : W32) : IntKind.u64.wrap (4294967295 - u a) = u (~~~a) := by
 have h := a.isLt
 rw [IntKind.wrap_u64]
 unfold u
 rw [BitVec.toNat_not]
 omega
theorem v_rem2 (a b : W32) : (u a + u b) % 4294967296 = u (a + b) := by
 unfold u
 rw [BitVec.toNat_add]
 omega
theorem shl64_run (a : W32) (k : Nat) (h : k < 32) (w : World) : (Op.shift .shl .u64 (u a) .u64 (k : Int)).run Tryz.prog w = .ok (.int .u64 ((a.toNat * 2 ^ k : Nat) : Int)) w := by
 unfold Op.shift
 rw [if_neg (by omega)]
 have e : min (k : Int).toNat IntKind.u64.bits = k := by simp only [IntKind.bits]; omega
 simp only [e, Sem.run_pure]
 have h2 : a.toNat * 2 ^ k < 18446744073709551616 := by
  have h3 : a.toNat * 2 ^ k ≤ 4294967295 * 2 ^ 31 := Nat.mul_le_mul (by have := a.isLt; omega) (Nat.pow_le_pow_right (by decide) (by omega))
  have h4 : 4294967295 * 2 ^ 31 < 18446744073709551616 := by decide
  omega
 have e2 : (u a * 2 ^ k : Int) = ((a.toNat * 2 ^ k : Nat) : Int) := by unfold u; push_cast; rfl
 rw [e2, wrapu64 _ h2]
theorem shr64u_run (a : W32) (k : Nat) (h : k ≤ 32) (w : World) : (Op.shift .shr .u64 (u a) .u64 (k : Int)).run Tryz.prog w = .ok (.int .u64 (u (a >>> k))) w := by
 unfold Op.shift
 rw [if_neg (by omega)]
 have e : min (k : Int).toNat IntKind.u64.bits = k := by simp only [IntKind.bits]; omega
 simp only [e, Sem.run_pure]
 rw [Int.fdiv_eq_ediv_of_nonneg _ (Int.le_of_lt (Int.pow_pos (by decide))), u_shr]
theorem rot64 (a : W32) (k : Nat) (h : k < 32) : ((a >>> k).toNat ||| a.toNat * 2 ^ (32 - k)) % 4294967296 = (a.rotateRight k).toNat := by
 rw [show (4294967296 : Nat) = 2 ^ 32 from by decide, Nat.or_mod_two_pow]
 rw [BitVec.rotateRight_def, Nat.mod_eq_of_lt h, BitVec.toNat_or, BitVec.toNat_shiftLeft, Nat.shiftLeft_eq]
 congr 1
 exact Nat.mod_eq_of_lt (a >>> k).isLt
theorem right_any (w : World) (a : W32) (k : Nat) (h0 : 0 < k) (h1 : k < 32) :
  Calls Tryz.prog 129 #[.int .u64 (u a), .int .u64 (k : Int)] w fun e w' => e = .returned (.int .u64 (u (a.rotateRight k))) ∧ w' = w := by
 have hl := fun w => shl64_run a (32 - k) (by omega) w
 have hr := fun w => shr64u_run a k (by omega) w
 have h2 : a.toNat * 2 ^ (32 - k) < 18446744073709551616 := by
  have h3 : a.toNat * 2 ^ (32 - k) ≤ 4294967295 * 2 ^ 31 := Nat.mul_le_mul (by have := a.isLt; omega) (Nat.pow_le_pow_right (by decide) (by omega))
  have h4 : 4294967295 * 2 ^ 31 < 18446744073709551616 := by decide
  omega
 have ho := bits_or64 (a >>> k).toNat (a.toNat * 2 ^ (32 - k)) (lt64 _) h2
 have hrot := rot64 a k h1
 have hs : IntKind.u64.wrap (32 - (k : Int)) = ((32 - k : Nat) : Int) := by rw [IntKind.wrap_u64]; omega
 obtain ⟨L, hL⟩ : ∃ L, L = a.toNat * 2 ^ (32 - k) := ⟨_, rfl⟩
 rw [← hL] at hl ho hrot
 have ho : bits .or .u64 (u (a >>> k)) (L : Int) = (((a >>> k).toNat ||| L : Nat) : Int) := ho
 obtain ⟨X, hX⟩ : ∃ X : Nat, X = (a >>> k).toNat ||| L := ⟨_, rfl⟩
 rw [← hX] at ho hrot
 rw [← u_shr] at ho
 have hm : (X : Int) % 4294967296 = u (a.rotateRight k) := by unfold u; rw [← hrot]; omega
 have hm2 : (X : Int).tmod 4294967296 = u (a.rotateRight k) := by rw [Int.tmod_eq_emod_of_nonneg (by omega)]; exact hm
 clear hL hX h2 hrot
 generalize ((32 - k : Nat) : Int) = m at hl hs
 go_enter Tryz.func129, Tryz.ntmps129
 go_wp2_with fail
 go_ret
 exact ⟨by simp [], rfl⟩
theorem down_any (w : World) (a : W32) (k : Nat) (h1 : k < 32) :
  Calls Tryz.prog 130 #[.int .u64 (u a), .int .u64 (k : Int)] w fun e w' => e = .returned (.int .u64 (u (a >>> k))) ∧ w' = w := by
 have hr := fun w => shr64u_run a k (by omega) w
 go_enter Tryz.func130, Tryz.ntmps130
 go_wp2_with fail
 go_ret
 exact ⟨by rw [← u_shr]; rfl, rfl⟩
theorem right_lit (w : World) (a : W32) (k : Nat) (K : Int) (hK : K = (k : Int)) (h0 : 0 < k) (h1 : k < 32) :
  Calls Tryz.prog 129 #[.int .u64 (u a), .int .u64 K] w fun e w' => e = .returned (.int .u64 (u (a.rotateRight k))) ∧ w' = w := by
 subst hK
 exact right_any w a k h0 h1
theorem down_lit (w : World) (a : W32) (k : Nat) (K : Int) (hK : K = (k : Int)) (h1 : k < 32) :
  Calls Tryz.prog 130 #[.int .u64 (u a), .int .u64 K] w fun e w' => e = .returned (.int .u64 (u (a >>> k))) ∧ w' = w := by
 subst hK
 exact down_any w a k h1
def vcells (l : List W32) : List Value := l.map u8v
theorem vcells_len (l : List W32) : (vcells l).length = l.length := by simp [vcells]
theorem vcells_one (l : List W32) : ∀ v ∈ vcells l, v.oneCell' = true := by
 intro v hv
 simp only [vcells, List.mem_map] at hv
 obtain ⟨x, _, rfl⟩ := hv
 rfl
theorem vcells_get (l : List W32) (i : Nat) (h : i < l.length) : (vcells l)[i]? = some (.int .u64 (u (l.getD i 0))) := by
 rw [vcells, List.getElem?_map, List.getElem?_eq_getElem h]
 simp [u8v, List.getElem?_eq_getElem h]
theorem vcells_set (l : List W32) (i : Nat) (x : W32) : (vcells l).set i (.int .u64 (u x)) = vcells (l.set i x) := by
 rw [vcells, vcells, List.map_set]; rfl
theorem vcells_append (l m : List W32) : vcells (l ++ m) = vcells l ++ vcells m := by simp [vcells]
def mkK8 (parts : Array (Nat × Value)) : Sem Value := Instr.build 197 parts
theorem mkK8_fold (parts : Array (Nat × Value)) : Instr.build 197 parts = mkK8 parts := rfl
theorem mkK8_run (w : World) : (mkK8 #[(0, .int .u64 1116352408), (1, .int .u64 1899447441), (2, .int .u64 3049323471), (3, .int .u64 3921009573), (4, .int .u64 961987163), (5, .int .u64 1508970993), (6, .int .u64 2453635748), (7, .int .u64 2870763221), (8, .int .u64 3624381080), (9, .int .u64 310598401), (10, .int .u64 607225278), (11, .int .u64 1426881987), (12, .int .u64 1925078388), (13, .int .u64 2162078206), (14, .int .u64 2614888103), (15, .int .u64 3248222580), (16, .int .u64 3835390401), (17, .int .u64 4022224774), (18, .int .u64 264347078), (19, .int .u64 604807628), (20, .int .u64 770255983), (21, .int .u64 1249150122), (22, .int .u64 1555081692), (23, .int .u64 1996064986), (24, .int .u64 2554220882), (25, .int .u64 2821834349), (26, .int .u64 2952996808), (27, .int .u64 3210313671), (28, .int .u64 3336571891), (29, .int .u64 3584528711), (30, .int .u64 113926993), (31, .int .u64 338241895), (32, .int .u64 666307205), (33, .int .u64 773529912), (34, .int .u64 1294757372), (35, .int .u64 1396182291), (36, .int .u64 1695183700), (37, .int .u64 1986661051), (38, .int .u64 2177026350), (39, .int .u64 2456956037), (40, .int .u64 2730485921), (41, .int .u64 2820302411), (42, .int .u64 3259730800), (43, .int .u64 3345764771), (44, .int .u64 3516065817), (45, .int .u64 3600352804), (46, .int .u64 4094571909), (47, .int .u64 275423344), (48, .int .u64 430227734), (49, .int .u64 506948616), (50, .int .u64 659060556), (51, .int .u64 883997877), (52, .int .u64 958139571), (53, .int .u64 1322822218), (54, .int .u64 1537002063), (55, .int .u64 1747873779), (56, .int .u64 1955562222), (57, .int .u64 2024104815), (58, .int .u64 2227730452), (59, .int .u64 2361852424), (60, .int .u64 2428436474), (61, .int .u64 2756734187), (62, .int .u64 3204031479), (63, .int .u64 3329325298)]).run Tryz.prog w = .ok (.agg (vcells Sha.keys).toArray) w := by kernel_rfl
def mkSt8 (parts : Array (Nat × Value)) : Sem Value := Instr.build 196 parts
theorem mkSt8_fold (parts : Array (Nat × Value)) : Instr.build 196 parts = mkSt8 parts := rfl
theorem mkSt8_run (w : World) : (mkSt8 #[(0, .int .u64 1779033703), (1, .int .u64 3144134277), (2, .int .u64 1013904242), (3, .int .u64 2773480762), (4, .int .u64 1359893119), (5, .int .u64 2600822924), (6, .int .u64 528734635), (7, .int .u64 1541459225)]).run Tryz.prog w = .ok (.agg (vcells Sha.first.list).toArray) w := by kernel_rfl
def loadSt8 (a : Addr) : Sem Value := loadVar 196 a
theorem loadSt8_fold (a : Addr) : loadVar 196 a = loadSt8 a := rfl
theorem isK8 : (Tryz.prog.info? 197).map (·.size) = some 64 := by kernel_rfl
theorem isSt8 : (Tryz.prog.info? 196).map (·.size) = some 8 := by kernel_rfl
theorem loadSt8_run (w : World) (b o : Nat) (l : List W32) (h : w.rangeAt b o (vcells l)) (hl : l.length = 8) : (loadSt8 ⟨b, o, none⟩).run Tryz.prog w = .ok (.agg (vcells l).toArray) w :=
 run_loadVar_mid w b o _ (vcells l) _ h Tryz.underlying196 rfl (by rw [isSt8, vcells_len, hl])
theorem zeroK8_info : (Tryz.prog.info? 197).map (·.zero) = some (some (.agg (vcells zeroK).toArray)) := by kernel_rfl
theorem zeroSt8_info : (Tryz.prog.info? 196).map (·.zero) = some (some (.agg (vcells zeroSt).toArray)) := by kernel_rfl
attribute [local go_sem ↓] mkK8_fold mkSt8_fold loadSt8_fold
attribute [local go_sem] mkK8_run mkSt8_run
theorem rkeys_any (w : World) : Calls Tryz.prog 128 #[] w fun e w' => e = .returned (.agg (vcells Sha.keys).toArray) ∧ Below w.heap.size w w' := by
 have B0 := hide (Blk.new w 197 (vcells zeroK))
 have b0 := hide (show Below w.heap.size w (w.alloc (.cells (vcells zeroK).toArray 197)) from (Below.refl _ w).alloc (Nat.le_refl _) _)
 have HU := hide Tryz.underlying197
 have l0 : (vcells Sha.keys).length = 64 := rfl
 have l1 : (vcells zeroK).length = 64 := by rw [vcells_len]; rfl
 have hI := isK8
 go_enter Tryz.func128, Tryz.ntmps128
 go_wp2_with (first
  | (refine wpList_alloc_agg rfl 197 rfl (vcells zeroK) zeroK8_info ?_; simp only [Act.put, List.setIfInBounds_toArray, List.set_cons_zero])
  | (refine wpList_store_blk rfl 197 _ _ rfl w.heap.size 0 197 (vcells zeroK) (vcells Sha.keys) (by rfl) (by rfl) B0.out (by omega) (by rw [hI, l0]) (vcells_one _) ?_; intro w9 o9 z9 b9; simp only [Act.put]))
 rw [lay_all _ _ (by omega)] at b9
 refine bodyPost_ret (results_cell_blk rfl _ _ w.heap.size 197 _ _ (by rfl) b9 HU.out rfl (by rw [hI, l0])) rfl ⟨rfl, ?_⟩
 exact b0.out.trans (o9.below b0.out.size (fun i hi e => by have h9 : i = w.heap.size := e; omega))
end
theorem shr64n_run (n k : Nat) (hk : k ≤ 56) (K : IntKind) (w : World) : (Op.shift .shr .u64 (n : Int) K (k : Int)).run Tryz.prog w = .ok (.int .u64 ((n / 2 ^ k : Nat) : Int)) w := by
 unfold Op.shift
 rw [if_neg (by omega)]
 have e : min (k : Int).toNat IntKind.u64.bits = k := by simp only [IntKind.bits]; omega
 simp only [e, Sem.run_pure]
 rw [Int.fdiv_eq_ediv_of_nonneg _ (Int.le_of_lt (Int.pow_pos (by decide)))]
 push_cast
 rfl
theorem rpadded_any (w : World) (A : Option Addr) (n c : Nat) (bs : List Int) (hB0 : Bys w A n bs) (hn : n ≤ 100000000) :
  Calls Tryz.prog 127 #[.slice A n c] w fun e w' => ∃ A' n' c', e = .returned (.slice A' n' c') ∧ Mine 5 w w' A' n' c' (Sha.padded bs) ∧ Fr w A' := by
 have HB := hide hB0
 have HN := hide hn
 have HLB := hide (show bs.length = n from hB0.1)
 clear hB0 hn
 go_enter Tryz.func127, Tryz.ntmps127
 go_wp2_with (first
  | (at_builtin; refine wpList_app rfl _ _ rfl w _ 0 0 [] (by rfl) (Mine.nil (below_alloc (Below.refl _ _) _) _) A n c bs (by rfl) (HB.out.alloc _) (by have := HN.out; omega) ?_; intro A1 m1 c1 w1 t1 f1; simp only [pU])
  | (at_builtin; refine wpList_app rfl _ _ rfl w A1 m1 c1 ([] ++ bs) (by rfl) (t1.alloc _) (some ⟨w1.heap.size, 0, none⟩) 1 1 [128] (by rfl) (Bys.one w1 _ 128 (by decide) (by decide)) (by have := HN.out; have := t1.len; have := HLB.out; simp at *; omega) ?_; intro A2 m2 c2 w2 t2 f2; simp only [pU]))
 have T2 := hide (show Mine 5 w w2 A2 m2 c2 (bs ++ [128]) from t2)
 have F2 := hide (f2 (.inr (by decide)))
 clear t1 f1 t2 f2
 go_loopw [3] (fun b wr => ∃ (i : Nat) (A' : Option Addr) (m' c' : Nat), i ≤ Sha.zeros bs.length ∧ b = .slice A' m' c' ∧ Mine 5 w wr A' m' c' (bs ++ 128 :: List.replicate i 0) ∧ Fr w A') (fun b _ => 200000000 - lenV b)
 case atStart => exact ⟨0, A2, m2, c2, Nat.zero_le _, rfl, by simpa using T2.out, F2.out⟩
 case round =>
  obtain ⟨i, A3, m3, c3, hi, rfl, ht, hf⟩ := hrel
  have HF := hide hf
  clear hf
  have hm3 : m3 = n + 1 + i := by
   have := ht.len
   rw [List.length_append, List.length_cons, List.length_replicate, HLB.out] at this
   omega
  have HT3 := hide ht
  have hz : Sha.zeros bs.length < 64 := Sha.zeros_lt _
  have hrm : (m3 : Int).tmod 64 = ((m3 % 64 : Nat) : Int) := by rw [Int.tmod_eq_emod_of_nonneg (by omega)]; omega
  obtain ⟨R, hR⟩ : ∃ R : Int, R = ((m3 % 64 : Nat) : Int) := ⟨_, rfl⟩
  rw [← hR] at hrm
  have hre : (m3 : Int) % 64 = R := by omega
  have HM3 := hide hm3
  rw [HLB.out] at hi hz
  by_cases hlt : i < Sha.zeros n
  ·have hne : ¬ R = 56 := by unfold Sha.zeros at hlt; omega
   have HB0 := Bys.one wr 5 0 (by decide) (by decide)
   have HR3 := hide hR
   clear hR ht hz
   go_wp2_with (at_builtin; refine wpList_app rfl _ _ rfl w A3 m3 c3 (bs ++ 128 :: List.replicate i 0) (by rfl) (HT3.out.alloc _) (some ⟨wr.heap.size, 0, none⟩) 1 1 [0] (by rfl) HB0 (by have := Sha.zeros_lt n; have := HM3.out; have := HN.out; omega) ?_; intro A4 m4 c4 w4 t4 f4; simp only [pU])
   have hm4 : m4 = m3 + 1 := by have := t4.len; rw [List.length_append, HT3.out.len] at this; simp at this; omega
   refine ⟨⟨i + 1, A4, m4, c4, by rw [HLB.out]; omega, rfl, ?_⟩, by have := Sha.zeros_lt n; have := HM3.out; have := HN.out; simp only [lenV]; omega⟩
   have e : bs ++ 128 :: List.replicate (i + 1) (0 : Int) = bs ++ 128 :: List.replicate i 0 ++ [0] := by rw [List.replicate_succ']; simp
   rw [e]; exact ⟨t4, f4 (.inr (by decide))⟩
  ·have hne : R = 56 := by unfold Sha.zeros at hlt hi; omega
   obtain rfl : i = Sha.zeros n := by omega
   have hc1 : IntKind.u64.wrap (n : Int) = (n : Int) := wrapu64 _ (by have := HN.out; omega)
   have v8 : IntKind.u64.wrap ((n : Int) * 8) = ((8 * n : Nat) : Int) := by rw [IntKind.wrap_u64]; have := HN.out; omega
   clear hm3 hR ht hz
   go_wp2_with fail
   obtain ⟨N, hN⟩ : ∃ N : Nat, N = 8 * n := ⟨_, rfl⟩
   have hNI : 8 * (n : Int) = (N : Int) := by omega
   rw [hNI]
   have HNN := hide hN
   clear v8 hNI hN
   obtain ⟨b3, hb3⟩ : ∃ b3, b3 = bs ++ 128 :: List.replicate (Sha.zeros n) (0 : Int) := ⟨_, rfl⟩
   rw [← hb3] at HT3
   have HB3 := hide hb3
   have hl3 : b3.length ≤ 100000100 := by have := HT3.out.len; have := HM3.out; have := Sha.zeros_lt n; have := HN.out; omega
   have HL3 := hide hl3
   clear hb3 hl3 hi hlt hre hne hrm
   go_loopw [3, 5] (fun b i wr => ∃ (j : Nat) (A' : Option Addr) (m' c' : Nat), j ≤ 8 ∧ i = .int .i64 (7 - (j : Int)) ∧ b = .slice A' m' c' ∧ Mine 5 w wr A' m' c' (b3 ++ (Sha.eight N).take j) ∧ Fr w A') (fun _ i _ => (intOf i + 1).toNat)
   case atStart => exact ⟨0, A3, m3, c3, by omega, rfl, rfl, by simpa using HT3.out, HF.out⟩
   case round =>
    obtain ⟨j, A4, m4, c4, hj, rfl, rfl, ht, hf⟩ := hrel
    have HF4 := hide hf
    clear hf
    have HT4 := hide ht
    by_cases hlt : j < 8
    ·obtain ⟨J, hJ⟩ : ∃ J : Int, J = 7 - (j : Int) := ⟨_, rfl⟩
     obtain ⟨SH, hSH⟩ : ∃ SH : Int, SH = ((56 - 8 * j : Nat) : Int) := ⟨_, rfl⟩
     obtain ⟨V, hV⟩ : ∃ V : Int, V = ((N / 2 ^ (56 - 8 * j) : Nat) : Int) := ⟨_, rfl⟩
     have a1 : IntKind.i64.wrap (8 * J) = SH := by rw [IntKind.wrap_i64]; omega
     have a2 : IntKind.u64.wrap SH = SH := by rw [IntKind.wrap_u64]; omega
     have a3 : IntKind.i64.wrap (J - 1) = J - 1 := by rw [IntKind.wrap_i64]; omega
     have hsh := fun K => shr64n_run N (56 - 8 * j) (by omega) K
     rw [← hSH, ← hV] at hsh
     have hV0 : 0 ≤ V := by rw [hV]; exact Int.natCast_nonneg _
     obtain ⟨B, hB⟩ : ∃ B : Int, B = V % 256 := ⟨_, rfl⟩
     have hB2 : V % 256 = B := hB.symm
     have hB3 : V.tmod 256 = B := by rw [Int.tmod_eq_emod_of_nonneg (by omega)]; exact hB2
     have hw8 : IntKind.u8.wrap B = B := by rw [u8_wrap]; omega
     have HBY := Bys.one wr 5 B (by omega) (by omega)
     have p0 : 0 ≤ J := by omega
     have hbv : B = ((N / 256 ^ (7 - j) % 256 : Nat) : Int) := by
      rw [hB, hV]
      have e : (256 : Nat) ^ (7 - j) = 2 ^ (56 - 8 * j) := by rw [show (256 : Nat) = 2 ^ 8 from rfl, ← Nat.pow_mul]; congr 1; omega
      rw [e]; omega
     have HBV := hide hbv
     have HJ := hide hJ
     rw [← hJ]
     clear hJ hSH hV hB hbv ht
     go_wp2_with (at_builtin; refine wpList_app rfl _ _ rfl w A4 m4 c4 (b3 ++ (Sha.eight N).take j) (by rfl) (HT4.out.alloc _) (some ⟨wr.heap.size, 0, none⟩) 1 1 [B] (by rfl) HBY (by have := HT4.out.len; have := HL3.out; rw [List.length_append, List.length_take, Sha.eight_len] at *; omega) ?_; intro A5 m5 c5 w5 t5 f5; simp only [pU])
     refine ⟨⟨j + 1, A5, m5, c5, by omega, congrArg (Value.int .i64) (by have := HJ.out; omega), rfl, ?_⟩, by have := HJ.out; simp [intOf]; omega⟩
     rw [eight_take N j hlt, ← HBV.out, ← List.append_assoc]
     exact ⟨t5, f5 (.inr (by decide))⟩
    ·obtain rfl : j = 8 := by omega
     have hfull : b3 ++ (Sha.eight N).take 8 = Sha.padded bs := by
      rw [HB3.out, List.take_of_length_le (by rw [Sha.eight_len]; exact Nat.le_refl _), Sha.padded, Sha.tail, HNN.out, HLB.out, Nat.mod_eq_of_lt (by have := HN.out; omega)]
      simp
     rw [hfull] at HT4
     clear ht hfull hlt hj
     go_wp2_with fail
     go_ret
     exact ⟨_, _, _, rfl, HT4.out, HF4.out⟩
end Go.Proofs.YtjnpkcabkccaoaaGreat
