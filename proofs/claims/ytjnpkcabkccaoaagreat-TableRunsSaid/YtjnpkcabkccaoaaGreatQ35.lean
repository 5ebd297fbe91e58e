/- Lemmas and walks for TableRuns, packed. -/
import Derived.Test.YtjnpkcabkccaoaaGreatQ15
import Derived.Test.YtjnpkcabkccaoaaGreatQ16
import Derived.StillTailTactics
set_option maxRecDepth 100000
set_option maxHeartbeats 16000000
namespace Go.Proofs.YtjnpkcabkccaoaaGreat
open Go.RowKit
namespace Sha
theorem grow_take (l : List W32) : ∀ (n i : Nat), i ≤ n → (grow n l).take (l.length + i) = grow i l
  | 0, i, h => by obtain rfl : i = 0 := by omega
                  exact List.take_of_length_le (by rw [grow]; omega)
  | n + 1, i, h => by
    by_cases hi : i = n + 1
    · subst hi
      exact List.take_of_length_le (by rw [grow_len]; omega)
    · rw [grow_succ, List.take_append_of_le_length (by rw [grow_len]; omega)]
      exact grow_take l n i (by omega)
theorem spread_take (b : List Int) (i : Nat) (h : i ≤ 48) : (spread b).take (16 + i) = grow i (words b 16) := by
  have e : (words b 16).length = 16 := words_len b 16
  obtain ⟨l, hl⟩ : ∃ l, l = words b 16 := ⟨_, rfl⟩
  unfold spread
  rw [← hl] at e ⊢
  have := grow_take l 48 i h
  rw [e] at this
  exact this
theorem words_take (b : List Int) (n j : Nat) (h : j ≤ n) : (words b n).take j = words b j := by
  have e : min j n = j := by omega
  rw [words, words, ← List.map_take, List.take_range, e]
theorem spread_low (b : List Int) (j : Nat) (h : j ≤ 16) : (spread b).take j = words b j := by
  have h0 : (spread b).take 16 = words b 16 := spread_take b 0 (Nat.zero_le _)
  obtain ⟨s, hs⟩ : ∃ s, s = spread b := ⟨_, rfl⟩
  rw [← hs] at h0 ⊢
  have e : min j 16 = j := by omega
  have h1 : s.take j = (s.take 16).take j := by rw [List.take_take, e]
  rw [h1, h0, words_take b 16 j h]
theorem spread_low_succ (b : List Int) (j : Nat) (h : j < 16) : (spread b).take (j + 1) = (spread b).take j ++ [word b j] := by
  rw [spread_low b j (by omega), spread_low b (j + 1) (by omega), words_succ]
theorem spread_high_succ (b : List Int) (j : Nat) (h : 16 ≤ j) (h2 : j < 64) : (spread b).take (j + 1) = (spread b).take j ++ [next ((spread b).take j)] := by
  obtain ⟨i, rfl⟩ : ∃ i, j = 16 + i := ⟨j - 16, by omega⟩
  rw [Nat.add_assoc, spread_take b (i + 1) (by omega), spread_take b i (by omega), grow_succ]
def wn (f : Nat → Nat) : Nat → Nat
  | 0 => 0
  | k + 1 => 256 * wn f k + f k
theorem wn_lt (f : Nat → Nat) (hf : ∀ i, f i < 256) : ∀ k, wn f k < 256 ^ k
  | 0 => by simp [wn]
  | k + 1 => by have := wn_lt f hf k; have := hf k; simp only [wn, Nat.pow_succ]; omega
theorem word_wn (b : List Int) (i : Nat) (f : Nat → Nat) (hf : ∀ k, k < 4 → f k = (b.getD (4 * i + k) 0).toNat) (hlt : ∀ k, f k < 256) : u (word b i) = (wn f 4 : Int) := by
  have h0 := hf 0 (by decide)
  have h1 := hf 1 (by decide)
  have h2 := hf 2 (by decide)
  have h3 := hf 3 (by decide)
  have h4 : wn f 4 < 4294967296 := wn_lt f hlt 4
  have e : wn f 4 = (((b.getD (4 * i) 0).toNat * 256 + (b.getD (4 * i + 1) 0).toNat) * 256 + (b.getD (4 * i + 2) 0).toNat) * 256 + (b.getD (4 * i + 3) 0).toNat := by
    rw [← h1, ← h2, ← h3, show (b.getD (4 * i) 0).toNat = f 0 from h0.symm]
    simp only [wn]; omega
  rw [u, word, BitVec.toNat_ofNat, ← e, Nat.mod_eq_of_lt h4]
def up (l : List W32) (d : Nat) : List W32 := l.take (d + 1) ++ (l.drop d).take (7 - d)
theorem up_get (s : St) (d : Nat) (h : d < 7) : (up s.list (d + 1)).getD d 0 = s.list.getD d 0 := by
  rcases d with _ | _ | _ | _ | _ | _ | _ | d
  all_goals first | rfl | omega
theorem up_set (s : St) (d : Nat) (h : d < 7) : (up s.list (d + 1)).set (d + 1) (s.list.getD d 0) = up s.list d := by
  rcases d with _ | _ | _ | _ | _ | _ | _ | d
  all_goals first | rfl | omega
theorem up_len (s : St) (d : Nat) (h : d ≤ 7) : (up s.list d).length = 8 := by
  rcases d with _ | _ | _ | _ | _ | _ | _ | _ | d
  all_goals first | rfl | omega
theorem up_zero (s : St) : up s.list 0 = [s.a, s.a, s.b, s.c, s.d, s.e, s.f, s.g] := rfl
theorem piece_get (pp : List Int) (m i : Nat) (h : i < 64) : ((pp.drop (64 * m)).take 64).getD i 0 = pp.getD (64 * m + i) 0 := by
  simp [List.getD_eq_getElem?_getD, List.getElem?_drop, h]
theorem pieces_succ (m : Nat) (s : St) (b : List Int) : pieces (m + 1) s b = mix (pieces m s b) ((b.drop (64 * m)).take 64) := by
  rw [pieces_add m 1, pieces, pieces]
end Sha
theorem index8_run (F : St) (j : Nat) (hj : j < 8) (w : World) : (Instr.index 196 (.agg (vcells F.list).toArray) (.int .i64 (j : Int))).run Tryz.prog w = .ok (.int .u64 (u (F.list.getD j 0))) w := by
  rcases j with _ | _ | _ | _ | _ | _ | _ | _ | j
  all_goals first | (exfalso; omega) | kernel_rfl
theorem bcs_set (l : List Int) (i : Nat) (x : Int) : (bcs l).set i (.int .u8 x) = bcs (l.set i x) := by
  rw [bcs, bcs, List.map_set]
def OutP (H l : List Int) (i k : Nat) : Prop := l.length = 32 ∧ ∀ p, (p < 4 * i ∨ (4 * i + k ≤ p ∧ p < 4 * i + 4)) → l[p]? = H[p]?
theorem OutP.start (H : List Int) : OutP H zero32 0 4 := ⟨rfl, fun p hp => by omega⟩
theorem OutP.next {H l : List Int} {i : Nat} (h : OutP H l i 0) : OutP H l (i + 1) 4 := ⟨h.1, fun p hp => h.2 p (by omega)⟩
theorem OutP.step {H l : List Int} {i k : Nat} {x : Int} (h : OutP H l i (k + 1)) (hk : k < 4) (hi : i < 8) (hx : H[4 * i + k]? = some x) : OutP H (l.set (4 * i + k) x) i k := by
  refine ⟨by rw [List.length_set]; exact h.1, fun p hp => ?_⟩
  by_cases e : 4 * i + k = p
  · subst e
    rw [List.getElem?_set_self (by rw [h.1]; omega), hx]
  · rw [List.getElem?_set_ne e]
    exact h.2 p (by omega)
theorem OutP.whole {H l : List Int} (h : OutP H l 8 4) (hl : H.length = 32) : l = H := by
  apply List.ext_getElem?
  intro p
  by_cases hp : p < 32
  · exact h.2 p (by omega)
  · rw [List.getElem?_eq_none (by rw [h.1]; omega), List.getElem?_eq_none (by omega)]
theorem bytes_get (F : St) (i d : Nat) (hi : i < 8) (hd : d < 4) : F.bytes[4 * i + (3 - d)]? = some (((F.list.getD i 0).toNat / 256 ^ d % 256 : Nat) : Int) := by
  rcases i with _ | _ | _ | _ | _ | _ | _ | _ | i
  all_goals first | omega | skip
  all_goals
    rcases d with _ | _ | _ | _ | d
    all_goals first | omega | simp [St.bytes, St.list, Sha.four]
def mkHs (parts : Array (Nat × Value)) : Sem Value := Instr.build 104 parts
theorem mkHs_fold (parts : Array (Nat × Value)) : Instr.build 104 parts = mkHs parts := rfl
theorem mkHs_zero (w : World) : (mkHs #[]).run Tryz.prog w = .ok (.agg (bcs zero32).toArray) w := by kernel_rfl
theorem u64_infoR : (Tryz.prog.info? 63).map (fun i => (i.size, i.bytes, i.zero.map (fun z => z.cells.size))) = some (1, 8, some 1) := by kernel_rfl
theorem vcells_st (s : St) : (vcells s.list).length = 8 := rfl
section
variable {P : Program}
theorem step_mineR {w : World} {ops : Array Oper} {o : Oper} {a : Act} {K : Act → World → Prop} {Q : Exit → Act → World → Prop} {E : Prop} (hgd : o.guard = none) (d : Nat) (hd : o.dst = some d) (s x : Operand) (t : TypeId)
    (ho : o.op = .call { callee := .builtin .append, args := #[s, x], argTypes := #[t, t] })
    (e : TypeId) (k by_ : Nat) (ht : P.underlying t = some (.slice e)) (hi : (P.info? e).map (fun i => (i.size, i.bytes, i.zero.map (fun z => z.cells.size))) = some (k, by_, some k)) (hk : 0 < k)
    (w0 : World) (v : Value) (n : Nat) (cs : List Value) (hs : a.eval s = v) (h : MineR e k w0 w v n cs)
    (b off m c : Nat) (news : List Value) (hx : a.eval x = .slice (some ⟨b, off, none⟩) m c) (hl : news.length = m * k) (hnews : w.rangeAt b off news) (h1 : ∀ u ∈ news, u.oneCell' = true)
    (hbytes : (n + m) * by_ ≤ 140737488355328) (hby : 0 < by_)
    (hK : ∀ A' c' w', MineR e k w0 w' (.slice A' (n + m) c') (n + m) (cs ++ news) → K (a.put (some d) (.slice A' (n + m) c')) w') :
    if Region.wanted o (yielded ops a.tmps) = true then Oper.wp P o a w K Q else E :=
  step_row hgd d hd s x t ho e k by_ ht hi hk w0.heap.size v n cs hs h.2 h.1.size b off m c news hx hl hnews h1 hbytes hby fun A' c' w' q1 _ _ q4 =>
    hK A' c' w' ⟨q4.under h.1 (fun i hi => (h.block i hi).1), q1⟩
end
theorem MineR.get {w0 w : World} {A : Option Addr} {n c : Nat} {l : List W32} (h : MineR 63 1 w0 w (.slice A n c) n (vcells l)) (hn : 0 < n) : ∃ g : Nat, A = some ⟨g, 0, none⟩ ∧ g < w.heap.size ∧ w0.heap.size ≤ g ∧ ∀ i, i < n → w.cell? ⟨g, i, none⟩ = some (.int .u64 (u (l.getD i 0))) := by
  have hl : l.length = n := by have := h.len; rw [vcells_len] at this; omega
  obtain ⟨A', c', e, _, hge, hr⟩ := h.rows (by decide)
  injection e with e1 e2 e3
  subst e1
  obtain ⟨g, rfl, hg, hra⟩ := hr hn
  refine ⟨g, rfl, hg, hge _ rfl, fun i hi => ?_⟩
  have := hra i _ (vcells_get l i (by omega))
  rwa [Nat.zero_add] at this
section
attribute [local go_sem ↓] mkK8_fold mkSt8_fold loadSt8_fold mkHs_fold
attribute [local go_sem] mkK8_run mkSt8_run mkHs_zero v_xor v_and v_not
theorem rsum_any (w : World) (A : Option Addr) (n c : Nat) (bs : List Int) (hB0 : Bys w A n bs) (hn : n ≤ 100000000) :
  Calls Tryz.prog 121 #[.slice A n c] w fun e w' => e = .returned (.agg (bcs (sha bs)).toArray) ∧ Below w.heap.size w w' := by
 have HB := hide hB0
 have HN := hide hn
 have HLB := hide (show bs.length = n from hB0.1)
 have hHH := hide Tryz.underlying104
 have hIH : (Tryz.prog.info? 104).map (·.size) = some 32 := by kernel_rfl
 have lsh : (bcs (sha bs)).length = 32 := by rw [bcs_length, sha_len]
 have lz32 : (bcs zero32).length = 32 := rfl
 have lzK : (vcells zeroK).length = 64 := by rw [vcells_len]; rfl
 have lkK : (vcells Sha.keys).length = 64 := rfl
 have lz8 : (vcells zeroSt).length = 8 := rfl
 have hK8 := isK8
 have hS8 := isSt8
 have hU8 := hide Tryz.underlying196
 clear hB0 hn
 obtain ⟨r, hr⟩ : ∃ r, r = w.heap.size := ⟨_, rfl⟩
 obtain ⟨vb, hvb⟩ : ∃ vb, vb = w.heap.size + 1 := ⟨_, rfl⟩
 obtain ⟨w1, hw1⟩ : ∃ x, x = (w.alloc (.cells (bcs zero32).toArray 104)).alloc (.cells (vcells zeroSt).toArray 196) := ⟨_, rfl⟩
 have R1 := hide (show Blk w1 r 104 (bcs zero32) by rw [hw1, hr]; exact (Blk.new w _ _).alloc _)
 have V1 := hide (show Blk w1 vb 196 (vcells zeroSt) by rw [hw1, hvb]; exact Blk.new1 w _ _ _)
 have B1 := hide (show Below w.heap.size w w1 by rw [hw1]; exact below_alloc (below_alloc (Below.refl _ _) _) _)
 have HRV := hide (show r = w.heap.size ∧ vb = w.heap.size + 1 from ⟨hr, hvb⟩)
 go_enter Tryz.func121, Tryz.ntmps121
 go_wp2_with (first
  | (refine wpList_alloc_agg rfl 104 rfl (bcs zero32) zero32_info ?_; simp only [pU])
  | (refine wpList_alloc_agg rfl 196 rfl (vcells zeroSt) zeroSt8_info ?_; simp only [Act.put, List.setIfInBounds_toArray, List.set_cons_zero, List.set_cons_succ, World.size_alloc])
  | (rw [← hw1, ← hvb, ← hr]; refine wpList_store_blk rfl 196 _ _ rfl vb 0 196 (vcells zeroSt) (vcells Sha.first.list) (by rfl) (by rfl) V1.out (by rw [lz8, vcells_st]; decide) (by rw [hS8, vcells_st]) (vcells_one _) ?_; intro w2 o2 z2 b2; rw [lay_all (vcells zeroSt) _ (by rw [lz8, vcells_st])] at b2; have R2 := hide (o2.blk R1.out (by have := HRV.out; omega)); have V2 := hide b2; have B2 := hide (B1.out.trans (o2.below B1.out.size (fun i hi e => by have h9 : i = vb := e; have := HRV.out; omega))); clear o2 z2 b2 hw1 hr hvb R1 V1; simp only [Act.put]))
 refine (rpadded_any w2 A n c bs (HB.out.below B2.out) HN.out).mono ?_
 rintro e w3 ⟨A3, n3, c3, rfl, t3, f3⟩
 obtain ⟨PP, hPP⟩ : ∃ PP, PP = Sha.padded bs := ⟨_, rfl⟩
 rw [← hPP] at t3
 have HPP := hide hPP
 have T3 := hide t3
 have B3 := hide (Below.then_ B2.out t3.below)
 have R3 := hide (R2.out.under t3.below)
 have V3 := hide (V2.out.under t3.below)
 have hvl := hide V2.out.lt
 have F3 := hide f3
 clear t3 hPP f3
 go_wp2_with fail
 refine (rkeys_any w3).mono ?_
 rintro e w4 ⟨rfl, b4⟩
 have B4 := hide b4
 clear b4
 obtain ⟨kb, hkb⟩ : ∃ kb, kb = w4.heap.size := ⟨_, rfl⟩
 obtain ⟨wa, hwa⟩ : ∃ x, x = w4.alloc (.cells (vcells zeroK).toArray 197) := ⟨_, rfl⟩
 have KZ := hide (show Blk wa kb 197 (vcells zeroK) by rw [hwa, hkb]; exact Blk.new w4 _ _)
 have Ba := hide (show Below w4.heap.size w4 wa by rw [hwa]; exact below_alloc (Below.refl _ _) _)
 have HKB := hide hkb
 go_wp2_with (first
  | (refine wpList_alloc_agg rfl 197 rfl (vcells zeroK) zeroK8_info ?_; simp only [pU])
  | (rw [← hwa, ← hkb]; refine wpList_store_blk rfl 197 _ _ rfl kb 0 197 (vcells zeroK) (vcells Sha.keys) (by rfl) (by rfl) KZ.out (by rw [lzK, lkK]; decide) (by rw [hK8, lkK]) (vcells_one _) ?_; intro w5 o5 z5 b5; rw [lay_all (vcells zeroK) _ (by rw [lzK, lkK])] at b5; have K5 := hide b5; have B45 := hide (Ba.out.trans (o5.below Ba.out.size (fun i hi e => by have h9 : i = kb := e; have := HKB.out; omega))); clear o5 z5 b5 hwa hkb KZ Ba; simp only [Act.put]))
 have B35 := hide (Below.then_ B4.out B45.out)
 have B5 := hide (Below.then_ B3.out B35.out)
 have R5 := hide (R3.out.under B35.out)
 have V5 := hide (V3.out.under B35.out)
 have P5 := hide (T3.out.bys.below B35.out)
 have hplen : n3 = PP.length := P5.out.1.symm
 have hplen2 : PP.length = n + 9 + Sha.zeros n := by rw [HPP.out, Sha.padded_len, HLB.out]
 have hwhole : PP.length % 64 = 0 := by rw [HPP.out]; exact Sha.padded_whole bs
 have hz64 := Sha.zeros_lt n
 have hkv := hide (show vb < kb ∧ r < vb ∧ kb < w5.heap.size by have := hvl.out; have := HKB.out; have := HRV.out; have h1 := T3.out.below.size; have h2 := B4.out.size; have h3 := K5.out.lt; omega)
 obtain ⟨b, off, rfl, hcell⟩ := P5.out.2.2 (by omega)
 have hbv := hide (show b ≠ vb by have h1 : w2.heap.size ≤ b := F3.out ⟨b, off, none⟩ rfl; have h2 := hvl.out; omega)
 have hb5 : b < w5.heap.size := by
  obtain ⟨x, hx⟩ : ∃ x, PP[0]? = some x := ⟨_, List.getElem?_eq_getElem (by omega)⟩
  exact World.block_lt_of_cell? w5 _ (hcell 0 x hx)
 obtain ⟨M, hM⟩ : ∃ M, PP.length = 64 * M := ⟨PP.length / 64, by omega⟩
 have HM := hide (show PP.length = 64 * M ∧ n3 = 64 * M ∧ M ≤ 2000000 by have := HN.out; omega)
 have HC := hide hcell
 have HBT := hide P5.out.2.1
 have HB5 := hide hb5
 have hB5s := hide B5.out.size
 clear hM hcell hplen hplen2 hwhole hz64 hb5
 go_wp2_with fail
 go_loopw [6] (fun i wr => ∃ m : Nat, m ≤ M ∧ i = .int .i64 (64 * (m : Int)) ∧ Blk wr vb 196 (vcells (Sha.pieces m Sha.first PP).list) ∧ Only (fun i => i = vb) w5 wr) (fun i _ => 64 * M - (intOf i).toNat)
 case atStart => exact ⟨0, by omega, rfl, V5.out, Only.refl _ _⟩
 case round =>
  rename World => wm
  obtain ⟨m, hm, rfl, hV, ho⟩ := hrel
  by_cases hlt : m < M
  ·obtain ⟨s, hs⟩ : ∃ s, s = Sha.pieces m Sha.first PP := ⟨_, rfl⟩
   obtain ⟨P, hP⟩ : ∃ P, P = (PP.drop (64 * m)).take 64 := ⟨_, rfl⟩
   have HNX := hide (show Sha.pieces (m + 1) Sha.first PP = Sha.mix s P by rw [Sha.pieces_succ, ← hs, ← hP])
   rw [← hs] at hV
   have HPB := hide (show ∀ i, 0 ≤ P.getD i 0 ∧ P.getD i 0 ≤ 255 by
    intro i
    rw [List.getD_eq_getElem?_getD]
    cases hq : P[i]? with
    | none => simp
    | some x =>
     have hx : x ∈ P := List.mem_of_getElem? hq
     rw [hP] at hx
     exact HBT.out x (List.mem_of_mem_drop (List.mem_of_mem_take hx)))
   have HGET := hide (show ∀ i, i < 64 → wm.cell? ⟨b, off + (64 * m + i), none⟩ = some (.int .u8 (P.getD i 0)) by
    intro i hi
    obtain ⟨x, hx⟩ : ∃ x, PP[64 * m + i]? = some x := ⟨_, List.getElem?_eq_getElem (by have := HM.out; omega)⟩
    have h1 := HC.out (64 * m + i) x hx
    have h2 : wm.cell? ⟨b, off + (64 * m + i), none⟩ = some (.int .u8 x) := (World.cell?_of_block (w := w5) (ho.block b HB5.out (fun e => hbv.out e))).trans h1
    rw [h2, hP, Sha.piece_get _ _ _ hi, List.getD_eq_getElem?_getD, hx]; rfl)
   obtain ⟨AT, hAT⟩ : ∃ AT : Int, AT = 64 * (m : Int) := ⟨_, rfl⟩
   have at0 : 0 ≤ AT := by omega
   have at1 : AT < (n3 : Int) := by have := HM.out; omega
   have at2 : IntKind.i64.wrap (AT + 64) = AT + 64 := by rw [IntKind.wrap_i64]; have := HM.out; omega
   have HAT := hide hAT
   have HV := hide hV
   have HO := hide ho
   have HLT := hide hlt
   rw [← hAT]
   clear hs hP hAT hV ho hlt hm
   go_wp2_with fail
   obtain ⟨w6, hw6⟩ : ∃ x, x = wm.alloc (.cells #[] 63) := ⟨_, rfl⟩
   have S6 := hide (show MineR 63 1 wm w6 (.slice (some ⟨wm.heap.size, 0, none⟩) 0 0) 0 (vcells ((Sha.spread P).take 0)) by rw [hw6]; exact ⟨below_alloc (Below.refl _ _) _, World.ownsRow_made wm #[] 0 (Nat.le_refl _) (Nat.zero_le _) rfl⟩)
   rw [← hw6]
   clear hw6
   go_loopw [7, 8] (fun v i ws => ∃ (j : Nat) (A' : Option Addr) (c' : Nat), j ≤ 64 ∧ i = .int .i64 (j : Int) ∧ v = .slice A' j c' ∧ MineR 63 1 wm ws (.slice A' j c') j (vcells ((Sha.spread P).take j))) (fun _ i _ => 64 - (intOf i).toNat)
   case atStart => exact ⟨0, _, _, by omega, rfl, rfl, S6.out⟩
   case round =>
    rename World => wj
    obtain ⟨j, A7, c7, hj, rfl, rfl, hS⟩ := hrel
    have HS := hide hS
    have HBJ := hide hS.below
    by_cases h64 : j < 64
    ·by_cases h16 : j < 16
     ·as_aux_lemma =>
       have HF := hide (show ∀ q, q < 4 → wj.cell? ⟨b, off + (64 * m + (4 * j + q)), none⟩ = some (.int .u8 (P.getD (4 * j + q) 0)) from fun q hq => cell_under hS.below (HGET.out (4 * j + q) (by omega)))
       obtain ⟨f, hf⟩ : ∃ f : Nat → Nat, ∀ q, f q = (P.getD (4 * j + q) 0).toNat := ⟨_, fun _ => rfl⟩
       have HFF := hide hf
       have hfl : ∀ q, f q < 256 := fun q => by rw [hf]; have := HPB.out (4 * j + q); omega
       have HFL := hide hfl
       have HWD := hide (Sha.word_wn P j f (fun k _ => hf k) hfl)
       obtain ⟨J, hJ⟩ : ∃ J : Int, J = (j : Int) := ⟨_, rfl⟩
       have p64 : J < 64 := by omega
       have p16 : J < 16 := by omega
       have pw1 : IntKind.i64.wrap (J + 1) = J + 1 := by rw [IntKind.wrap_i64]; omega
       have HJ := hide hJ
       have H16 := hide h16
       rw [← hJ]
       clear hf hfl hJ h16 h64 hS hj
       go_wp2_with fail
       go_loopw [9, 10] (fun nv k wt => ∃ q : Nat, q ≤ 4 ∧ k = .int .i64 (q : Int) ∧ nv = .int .u64 ((Sha.wn f q : Nat) : Int) ∧ wt = wj) (fun _ k _ => 4 - (intOf k).toNat)
       case atStart => exact ⟨0, by omega, rfl, rfl, rfl⟩
       case round =>
        obtain ⟨q, hq, rfl, rfl, hwj⟩ := hrel
        subst hwj
        rename World => wj
        by_cases h4 : q < 4
        ·obtain ⟨Q, hQ⟩ : ∃ Q : Int, Q = (q : Int) := ⟨_, rfl⟩
         obtain ⟨J4, hJ4⟩ : ∃ J4 : Int, J4 = 4 * J := ⟨_, rfl⟩
         obtain ⟨I, hI⟩ : ∃ I : Int, I = AT + J4 := ⟨_, rfl⟩
         obtain ⟨X, hX⟩ : ∃ X : Int, X = I + Q := ⟨_, rfl⟩
         obtain ⟨N9, hN9⟩ : ∃ N9 : Nat, N9 = 64 * m + (4 * j + q) := ⟨_, rfl⟩
         obtain ⟨x, hx⟩ : ∃ x : Int, x = P.getD (4 * j + q) 0 := ⟨_, rfl⟩
         obtain ⟨NQ, hNQ⟩ : ∃ NQ : Int, NQ = ((Sha.wn f q : Nat) : Int) := ⟨_, rfl⟩
         obtain ⟨N1, hN1⟩ : ∃ N1 : Int, N1 = 256 * NQ := ⟨_, rfl⟩
         obtain ⟨N2, hN2⟩ : ∃ N2 : Int, N2 = N1 + x := ⟨_, rfl⟩
         have e1 := HJ.out
         have e2 := HAT.out
         have e3 := HM.out
         have e4 := HLT.out
         have e5 := H16.out
         have e6 := HPB.out (4 * j + q)
         have e7 : Sha.wn f q < 4294967296 := Nat.lt_of_lt_of_le (Sha.wn_lt f HFL.out q) (Nat.le_trans (Nat.pow_le_pow_right (by decide) hq) (by decide))
         have e8 := HFF.out q
         have i1 : IntKind.i64.wrap (4 * J) = J4 := by rw [IntKind.wrap_i64]; omega
         have i2 : IntKind.i64.wrap (AT + J4) = I := by rw [IntKind.wrap_i64]; omega
         have i3 : IntKind.i64.wrap (I + Q) = X := by rw [IntKind.wrap_i64]; omega
         have i4 : 0 ≤ X := by omega
         have i5 : X < (n3 : Int) := by omega
         have i6 : X.toNat = N9 := by omega
         have i7 : IntKind.u64.wrap (256 * NQ) = N1 := by rw [IntKind.wrap_u64]; omega
         have i8 : IntKind.u64.wrap (N1 + x) = N2 := by rw [IntKind.wrap_u64]; omega
         have i9 : IntKind.u64.wrap x = x := by rw [IntKind.wrap_u64]; omega
         have i10 : Q < 4 := by omega
         have i11 : IntKind.i64.wrap (Q + 1) = Q + 1 := by rw [IntKind.wrap_i64]; omega
         have hc := HF.out q h4
         rw [← hN9, ← hx] at hc
         have HN2 := hide (show N2 = ((Sha.wn f (q + 1) : Nat) : Int) by rw [hN2, hN1, hNQ, Sha.wn]; omega)
         have HQ := hide hQ
         have HQ4 := hide h4
         rw [← hQ, ← hNQ]
         clear e1 e2 e3 e4 e5 e6 e7 e8 hQ hJ4 hI hX hN9 hx hNQ hN1 hN2 h4 hq p16 p64 pw1 at0 at1 at2
         go_wp2_with fail
         exact ⟨⟨q + 1, by have := HQ4.out; omega, congrArg (Value.int .i64) (by have := HQ.out; omega), congrArg (Value.int .u64) HN2.out, by trivial⟩, by have := HQ.out; have := HQ4.out; simp [intOf]; omega⟩
        ·obtain rfl : q = 4 := by omega
         rw [← HWD.out]
         obtain ⟨WD, hWD⟩ : ∃ WD, WD = Sha.word P j := ⟨_, rfl⟩
         rw [← hWD]
         have HW := hide hWD
         have NB := hide (show (wj.alloc (.cells #[.int .u64 (u WD)] 63)).rangeAt wj.heap.size 0 [.int .u64 (u WD)] from (Blk.new wj 63 [.int .u64 (u WD)]).whole)
         clear hWD h4 hq
         go_wp2_with (at_builtin; refine wpList_mineR rfl _ _ 199 rfl 63 1 8 Tryz.underlying199 u64_infoR (by decide) wm (.slice A7 j c7) j _ (by rfl) (HS.out.alloc _) wj.heap.size 0 1 1 [.int .u64 (u WD)] (by rfl) rfl NB.out (by intro v hv; simp only [List.mem_singleton] at hv; subst hv; rfl) (by have := H16.out; omega) (by decide) ?_; intro A8 c8 w8 h8 g8 o8; simp only [pU])
         refine ⟨⟨j + 1, A8, c8, by have := H16.out; omega, congrArg (Value.int .i64) (by have := HJ.out; omega), rfl, ?_⟩, by have := HJ.out; have := H16.out; simp [intOf]; omega⟩
         rw [Sha.spread_low_succ P j H16.out, vcells_append, ← HW.out]
         exact h8
     ·as_aux_lemma =>
       obtain ⟨g, rfl, hg, hge, hc⟩ := hS.get (by omega)
       have hll : ((Sha.spread P).take j).length = j := by rw [List.length_take, Sha.spread_len]; omega
       have hss := Sha.spread_high_succ P j (by omega) h64
       obtain ⟨l, hl⟩ : ∃ l, l = (Sha.spread P).take j := ⟨_, rfl⟩
       rw [← hl] at hc hll hss HS
       have HSS := hide hss
       obtain ⟨n15, hn15⟩ : ∃ n, n = j - 15 := ⟨_, rfl⟩
       obtain ⟨n2, hn2⟩ : ∃ n, n = j - 2 := ⟨_, rfl⟩
       obtain ⟨n16, hn16⟩ : ∃ n, n = j - 16 := ⟨_, rfl⟩
       obtain ⟨n7, hn7⟩ : ∃ n, n = j - 7 := ⟨_, rfl⟩
       have c15 := hc n15 (by omega)
       have c2 := hc n2 (by omega)
       have c16 := hc n16 (by omega)
       have c7' := hc n7 (by omega)
       obtain ⟨X, hX⟩ : ∃ X, X = l.getD n15 0 := ⟨_, rfl⟩
       obtain ⟨Y, hY⟩ : ∃ Y, Y = l.getD n2 0 := ⟨_, rfl⟩
       obtain ⟨PW, hPW⟩ : ∃ PW, PW = l.getD n16 0 := ⟨_, rfl⟩
       obtain ⟨R, hR⟩ : ∃ R, R = l.getD n7 0 := ⟨_, rfl⟩
       rw [← hX] at c15
       rw [← hY] at c2
       rw [← hPW] at c16
       rw [← hR] at c7'
       have HNE := hide (show Sha.next l = ((PW + (X.rotateRight 7 ^^^ X.rotateRight 18 ^^^ (X >>> 3))) + R) + (Y.rotateRight 17 ^^^ Y.rotateRight 19 ^^^ (Y >>> 10)) by
        rw [hX, hY, hPW, hR, hn15, hn2, hn16, hn7, Sha.next, hll, Sha.low0, Sha.low1]
        ac_rfl)
       obtain ⟨J, hJ⟩ : ∃ J : Int, J = (j : Int) := ⟨_, rfl⟩
       obtain ⟨J15, hJ15⟩ : ∃ J15 : Int, J15 = J - 15 := ⟨_, rfl⟩
       obtain ⟨J2, hJ2⟩ : ∃ J2 : Int, J2 = J - 2 := ⟨_, rfl⟩
       obtain ⟨J16, hJ16⟩ : ∃ J16 : Int, J16 = J - 16 := ⟨_, rfl⟩
       obtain ⟨J7, hJ7⟩ : ∃ J7 : Int, J7 = J - 7 := ⟨_, rfl⟩
       have k15 : IntKind.i64.wrap (J - 15) = J15 := by rw [IntKind.wrap_i64]; omega
       have k2 : IntKind.i64.wrap (J - 2) = J2 := by rw [IntKind.wrap_i64]; omega
       have k16 : IntKind.i64.wrap (J - 16) = J16 := by rw [IntKind.wrap_i64]; omega
       have k7 : IntKind.i64.wrap (J - 7) = J7 := by rw [IntKind.wrap_i64]; omega
       have t15 : J15.toNat = n15 := by omega
       have t2 : J2.toNat = n2 := by omega
       have t16 : J16.toNat = n16 := by omega
       have t7 : J7.toNat = n7 := by omega
       have z15 : 0 ≤ J15 := by omega
       have z2 : 0 ≤ J2 := by omega
       have z16 : 0 ≤ J16 := by omega
       have z7 : 0 ≤ J7 := by omega
       have y15 : J15 < (j : Int) := by omega
       have y2 : J2 < (j : Int) := by omega
       have y16 : J16 < (j : Int) := by omega
       have y7 : J7 < (j : Int) := by omega
       have p64 : J < 64 := by omega
       have p16 : ¬ J < 16 := by omega
       have pw1 : IntKind.i64.wrap (J + 1) = J + 1 := by rw [IntKind.wrap_i64]; omega
       have HJ := hide (show J = (j : Int) ∧ j < 64 from ⟨hJ, h64⟩)
       rw [← hJ]
       clear hS hc hll hss hl hX hY hPW hR hn15 hn2 hn16 hn7 hJ hJ15 hJ2 hJ16 hJ7 h64 h16 hj hg hge
       go_wp2_with fail
       refine wp_region_still_lit (by kernel_rfl) (by kernel_rfl) ?_
       repeat still_step
       still_call (right_lit _ X 7 7 rfl (by decide) (by decide))
       repeat still_step
       still_call (right_lit _ X 18 18 rfl (by decide) (by decide))
       repeat still_step
       still_call (down_lit _ X 3 3 rfl (by decide))
       repeat still_step
       refine wpStill_nil ?_
       change Exit.then _ _ _ _ wj.drew
       obtain ⟨w7, hw7⟩ : ∃ w7, w7 = wj.drew := ⟨_, rfl⟩
       rw [← hw7]
       change wj.drew.cell? _ = _ at c2 c16 c7'
       rw [← hw7] at c2 c16 c7'
       have HS7 := hide (show MineR 63 1 wm w7 (.slice (some ⟨g, 0, none⟩) j c7) j (vcells l) by rw [hw7]; exact HS.out.drew)
       clear hw7 c15 HS
       obtain ⟨LX, hLX⟩ : ∃ LX : W32, LX = X.rotateRight 7 ^^^ X.rotateRight 18 ^^^ (X >>> 3) := ⟨_, rfl⟩
       rw [← hLX] at HNE ⊢
       clear hLX
       go_wp2_with fail
       refine wp_region_still_lit (by kernel_rfl) (by kernel_rfl) ?_
       repeat still_step
       still_call (right_lit _ Y 17 17 rfl (by decide) (by decide))
       repeat still_step
       still_call (right_lit _ Y 19 19 rfl (by decide) (by decide))
       repeat still_step
       still_call (down_lit _ Y 10 10 rfl (by decide))
       repeat still_step
       refine wpStill_nil ?_
       change Exit.then _ _ _ _ w7.drew
       obtain ⟨w8, hw8⟩ : ∃ w8, w8 = w7.drew := ⟨_, rfl⟩
       rw [← hw8]
       change w7.drew.cell? _ = _ at c16 c7'
       rw [← hw8] at c16 c7'
       have HS8 := hide (show MineR 63 1 wm w8 (.slice (some ⟨g, 0, none⟩) j c7) j (vcells l) by rw [hw8]; exact HS7.out.drew)
       clear hw8 c2 HS7
       obtain ⟨LY, hLY⟩ : ∃ LY : W32, LY = Y.rotateRight 17 ^^^ Y.rotateRight 19 ^^^ (Y >>> 10) := ⟨_, rfl⟩
       rw [← hLY] at HNE ⊢
       clear hLY
       obtain ⟨V, hV⟩ : ∃ V : W32, V = ((PW + LX) + R) + LY := ⟨_, rfl⟩
       rw [← hV] at HNE
       obtain ⟨S1, hS1⟩ : ∃ S1 : Int, S1 = u PW + u LX := ⟨_, rfl⟩
       obtain ⟨S2, hS2⟩ : ∃ S2 : Int, S2 = S1 + u R := ⟨_, rfl⟩
       obtain ⟨S3, hS3⟩ : ∃ S3 : Int, S3 = S2 + u LY := ⟨_, rfl⟩
       have b1 := u_lo PW; have b2 := u_lo LX; have b3 := u_lo R; have b4 := u_lo LY
       have d1 := u_hi PW; have d2 := u_hi LX; have d3 := u_hi R; have d4 := u_hi LY
       have s1 : IntKind.u64.wrap (u PW + u LX) = S1 := by rw [IntKind.wrap_u64]; omega
       have s2 : IntKind.u64.wrap (S1 + u R) = S2 := by rw [IntKind.wrap_u64]; omega
       have s3 : IntKind.u64.wrap (S2 + u LY) = S3 := by rw [IntKind.wrap_u64]; omega
       have s4 : S3 % 4294967296 = u V := by
        rw [hV, ← v_rem2 (PW + LX + R) LY, ← v_rem2 (PW + LX) R, ← v_rem2 PW LX]; omega
       have s5 : S3.tmod 4294967296 = u V := by rw [Int.tmod_eq_emod_of_nonneg (by omega)]; exact s4
       clear b1 b2 b3 b4 d1 d2 d3 d4 hS1 hS2 hS3 hV
       go_wp2_with fail
       refine wp_region_held_drew (S := fun _ => True) (by kernel_rfl) trivial (fun _ => ?_)
       obtain ⟨w9, hw9⟩ : ∃ w9, w9 = w8.drew := ⟨_, rfl⟩
       rw [← hw9]
       change w8.drew.cell? _ = _ at c16 c7'
       rw [← hw9] at c16 c7'
       have HS9 := hide (show MineR 63 1 wm w9 (.slice (some ⟨g, 0, none⟩) j c7) j (vcells l) by rw [hw9]; exact HS8.out.drew)
       clear hw9 HS8
       have NB := hide (show (w9.alloc (.cells #[.int .u64 (u V)] 63)).rangeAt w9.heap.size 0 [.int .u64 (u V)] from (Blk.new w9 63 [.int .u64 (u V)]).whole)
       refine tq 0 rfl trivial ?_
       refine tq 1 rfl trivial ?_
       refine tq 2 rfl trivial ?_
       refine tq 3 rfl trivial ?_
       refine tq 4 rfl trivial ?_
       refine tq 6 rfl trivial ?_
       refine tq 8 rfl trivial ?_
       refine tq 9 rfl trivial ?_
       refine tq 10 rfl trivial ?_
       refine tq 11 rfl trivial ?_
       refine tq 14 rfl trivial ?_
       refine wpAnyH_ready (rs := [5, 12]) (by kernel_rfl) (by simp) ?_
       refine AllReadyH.cons rfl (fun K hK => ?_) (AllReadyH.cons rfl (fun K hK => ?_) AllReadyH.nil)
       ·go_simp
        refine hK.out _ _ trivial (fun _ => ?_)
        clear hK K
        refine tq 7 rfl trivial ?_
        refine ry 12 rfl fun K hK => ?_
        go_simp
        refine hK.out _ _ trivial (fun _ => ?_)
        clear hK K
        refine tq 13 rfl trivial ?_
        refine tq 15 rfl trivial ?_
        refine tq 16 rfl trivial ?_
        refine ry 17 rfl fun K hK => ?_
        go_simp
        refine hK.out _ _ trivial (fun _ => ?_)
        clear hK K
        refine ry 18 rfl fun K hK => ?_
        refine step_mineR rfl 122 rfl _ _ 199 rfl 63 1 8 Tryz.underlying199 u64_infoR (by decide) wm (.slice (some ⟨g, 0, none⟩) j c7) j _ (by rfl) (HS9.out.alloc _) w9.heap.size 0 1 1 [.int .u64 (u V)] (by rfl) rfl NB.out (by intro v hv; simp only [List.mem_singleton] at hv; subst hv; rfl) (by have := HJ.out; omega) (by decide) ?_
        intro A8 c8 w10 h8
        refine hK.out _ _ trivial (fun _ => ?_)
        clear hK K
        refine tq 19 rfl trivial ?_
        refine wpAnyH_done (by kernel_rfl) ?_ _
        go_wp2_with fail
        refine ⟨⟨j + 1, A8, c8, by have := HJ.out; omega, congrArg (Value.int .i64) (by have := HJ.out; omega), rfl, ?_⟩, by have := HJ.out; simp [intOf]; omega⟩
        rw [HSS.out, vcells_append, HNE.out]
        exact h8
       ·go_simp
        refine hK.out _ _ trivial (fun _ => ?_)
        clear hK K
        refine ry 5 rfl fun K hK => ?_
        go_simp
        refine hK.out _ _ trivial (fun _ => ?_)
        clear hK K
        refine tq 7 rfl trivial ?_
        refine tq 13 rfl trivial ?_
        refine tq 15 rfl trivial ?_
        refine tq 16 rfl trivial ?_
        refine ry 17 rfl fun K hK => ?_
        go_simp
        refine hK.out _ _ trivial (fun _ => ?_)
        clear hK K
        refine ry 18 rfl fun K hK => ?_
        refine step_mineR rfl 122 rfl _ _ 199 rfl 63 1 8 Tryz.underlying199 u64_infoR (by decide) wm (.slice (some ⟨g, 0, none⟩) j c7) j _ (by rfl) (HS9.out.alloc _) w9.heap.size 0 1 1 [.int .u64 (u V)] (by rfl) rfl NB.out (by intro v hv; simp only [List.mem_singleton] at hv; subst hv; rfl) (by have := HJ.out; omega) (by decide) ?_
        intro A8 c8 w10 h8
        refine hK.out _ _ trivial (fun _ => ?_)
        clear hK K
        refine tq 19 rfl trivial ?_
        refine wpAnyH_done (by kernel_rfl) ?_ _
        go_wp2_with fail
        refine ⟨⟨j + 1, A8, c8, by have := HJ.out; omega, congrArg (Value.int .i64) (by have := HJ.out; omega), rfl, ?_⟩, by have := HJ.out; simp [intOf]; omega⟩
        rw [HSS.out, vcells_append, HNE.out]
        exact h8
    ·as_aux_lemma =>
      obtain rfl : j = 64 := by omega
      obtain ⟨gw, rfl, hgw, hgwe, hc⟩ := hS.get (by decide)
      rw [List.take_of_length_le (by rw [Sha.spread_len]; exact Nat.le_refl _)] at hc
      obtain ⟨WS, hWS⟩ : ∃ WS, WS = Sha.spread P := ⟨_, rfl⟩
      rw [← hWS] at hc
      have HCW := hide hc
      have HVJ := hide (HV.out.under HBJ.out)
      have hld := loadSt8_run wj vb 0 s.list HVJ.out.whole rfl
      obtain ⟨xb, hxb⟩ : ∃ xb, xb = wj.heap.size := ⟨_, rfl⟩
      obtain ⟨wa, hwa⟩ : ∃ x, x = wj.alloc (.cells (vcells zeroSt).toArray 196) := ⟨_, rfl⟩
      have XZ := hide (show Blk wa xb 196 (vcells zeroSt) by rw [hwa, hxb]; exact Blk.new wj _ _)
      have Ba := hide (show Below wj.heap.size wj wa by rw [hwa]; exact below_alloc (Below.refl _ _) _)
      have HXB := hide hxb
      have HMX := hide (show Sha.mix s P = Sha.add s (Sha.rounds WS 64 s) by rw [Sha.mix, hWS])
      have hne := hide (show gw < xb ∧ kb < xb ∧ vb < xb ∧ w5.heap.size ≤ xb ∧ wm.heap.size ≤ xb by have h1 := hkv.out; have h2 := HO.out.size; have h3 := HBJ.out.size; omega)
      clear hWS hS hj h64 hc hgw hgwe HS
      go_wp2_with (first
       | (refine wpList_alloc_agg rfl 196 rfl (vcells zeroSt) zeroSt8_info ?_; simp only [pU])
       | (rw [← hwa, ← hxb]; refine wpList_store_blk rfl 196 _ _ rfl xb 0 196 (vcells zeroSt) (vcells s.list) (by rfl) (by rfl) XZ.out (by rw [lz8, vcells_st]; decide) (by rw [hS8, vcells_st]) (vcells_one _) ?_; intro w7 o7 z7 b7; rw [lay_all (vcells zeroSt) _ (by rw [lz8, vcells_st])] at b7; have X7 := hide b7; have BJ7 := hide (Ba.out.trans (o7.below Ba.out.size (fun i hi e => by have h9 : i = xb := e; have := HXB.out; omega))); clear o7 z7 b7 hwa hxb XZ Ba hld; simp only [Act.put]))
      have HBM7 := hide (Below.then_ HBJ.out BJ7.out)
      have K7 := hide (show Blk w7 kb 197 (vcells Sha.keys) from (HO.out.blk K5.out (by have := hkv.out; omega)).under HBM7.out)
      have V7 := hide (HVJ.out.under BJ7.out)
      have HC7 := hide (show ∀ i, i < 64 → w7.cell? ⟨gw, i, none⟩ = some (.int .u64 (u (WS.getD i 0))) from fun i hi => cell_under BJ7.out (HCW.out i hi))
      have HG7 := hide (show gw < w7.heap.size from World.block_lt_of_cell? w7 _ (HC7.out 0 (by decide)))
      go_loopw [14] (fun i wx => ∃ j : Nat, j ≤ 64 ∧ i = .int .i64 (j : Int) ∧ Blk wx xb 196 (vcells (Sha.rounds WS j s).list) ∧ Only (fun i => i = xb) w7 wx) (fun i _ => 64 - (intOf i).toNat)
      case atStart => exact ⟨0, by omega, rfl, X7.out, Only.refl _ _⟩
      case round =>
       rename World => wx
       obtain ⟨j, hj, rfl, hY, ho⟩ := hrel
       by_cases hlt : j < 64
       ·as_aux_lemma =>
         have ck : wx.cell? ⟨kb, j, none⟩ = some (.int .u64 (u (Sha.keys.getD j 0))) := by rw [(ho.blk K7.out (by have := hne.out; omega)).cell]; exact vcells_get _ _ hlt
         have cw : wx.cell? ⟨gw, j, none⟩ = some (.int .u64 (u (WS.getD j 0))) := (World.cell?_of_block (w := w7) (ho.block gw HG7.out (by have := hne.out; omega))).trans (HC7.out j hlt)
         obtain ⟨X, hX⟩ : ∃ X, X = Sha.rounds WS j s := ⟨_, rfl⟩
         obtain ⟨KJ, hKJ⟩ : ∃ KJ, KJ = Sha.keys.getD j 0 := ⟨_, rfl⟩
         obtain ⟨WJ, hWJ⟩ : ∃ WJ, WJ = WS.getD j 0 := ⟨_, rfl⟩
         have HN := hide (show Sha.rounds WS (j + 1) s = Sha.round X KJ WJ by rw [Sha.rounds, hX, hKJ, hWJ])
         rw [← hX] at hY
         rw [← hKJ] at ck
         rw [← hWJ] at cw
         have x0 : wx.cell? ⟨xb, 0, none⟩ = some (.int .u64 (u X.a)) := (hY.cell 0).trans rfl
         have x1 : wx.cell? ⟨xb, 1, none⟩ = some (.int .u64 (u X.b)) := (hY.cell 1).trans rfl
         have x2 : wx.cell? ⟨xb, 2, none⟩ = some (.int .u64 (u X.c)) := (hY.cell 2).trans rfl
         have x4 : wx.cell? ⟨xb, 4, none⟩ = some (.int .u64 (u X.e)) := (hY.cell 4).trans rfl
         have x5 : wx.cell? ⟨xb, 5, none⟩ = some (.int .u64 (u X.f)) := (hY.cell 5).trans rfl
         have x6 : wx.cell? ⟨xb, 6, none⟩ = some (.int .u64 (u X.g)) := (hY.cell 6).trans rfl
         have x7 : wx.cell? ⟨xb, 7, none⟩ = some (.int .u64 (u X.h)) := (hY.cell 7).trans rfl
         obtain ⟨J, hJJ⟩ : ∃ J : Int, J = (j : Int) := ⟨_, rfl⟩
         have p0 : (0 : Int) ≤ J := by omega
         have p1 : J < 64 := by omega
         have p2 : J.toNat = j := by omega
         have p3 : IntKind.i64.wrap (J + 1) = J + 1 := by rw [IntKind.wrap_i64]; omega
         have HJ := hide (show J = (j : Int) ∧ j < 64 from ⟨hJJ, hlt⟩)
         rw [← hJJ]
         have HY := hide hY
         have HO1 := hide ho
         clear hJJ hY ho hX hKJ hWJ hlt hj
         go_wp2_with fail
         refine wp_region_still_lit (by kernel_rfl) (by kernel_rfl) ?_
         repeat still_step
         still_call (right_lit _ X.e 6 6 rfl (by decide) (by decide))
         repeat still_step
         still_call (right_lit _ X.e 11 11 rfl (by decide) (by decide))
         repeat still_step
         still_call (right_lit _ X.e 25 25 rfl (by decide) (by decide))
         repeat still_step
         refine wpStill_nil ?_
         change Exit.then _ _ _ _ wx.drew
         obtain ⟨w8, hw8⟩ : ∃ w8, w8 = wx.drew := ⟨_, rfl⟩
         rw [← hw8]
         change wx.drew.cell? _ = _ at x0 x1 x2 x4 x5 x6 x7 ck cw
         rw [← hw8] at x0 x1 x2 x4 x5 x6 x7 ck cw
         have HY8 := hide (show Blk w8 xb 196 (vcells X.list) by rw [hw8]; exact HY.out)
         have HO8 := hide (show Only (fun i => i = xb) w7 w8 by rw [hw8]; exact HO1.out.drew)
         clear hw8 HY HO1
         obtain ⟨BG, hBG⟩ : ∃ BG : W32, BG = BitVec.rotateRight X.e 6 ^^^ BitVec.rotateRight X.e 11 ^^^ BitVec.rotateRight X.e 25 := ⟨_, rfl⟩
         obtain ⟨PK, hPK⟩ : ∃ PK : W32, PK = X.e &&& X.f ^^^ ~~~X.e &&& X.g := ⟨_, rfl⟩
         rw [← hBG]
         obtain ⟨T, hT⟩ : ∃ T : W32, T = X.h + BG + PK + KJ + WJ := ⟨_, rfl⟩
         have HT := hide (show T = X.h + (BitVec.rotateRight X.e 6 ^^^ BitVec.rotateRight X.e 11 ^^^ BitVec.rotateRight X.e 25) + (X.e &&& X.f ^^^ ~~~X.e &&& X.g) + KJ + WJ by rw [hT, hBG, hPK])
         obtain ⟨S1, hS1⟩ : ∃ S1 : Int, S1 = u X.h + u BG := ⟨_, rfl⟩
         obtain ⟨S2, hS2⟩ : ∃ S2 : Int, S2 = S1 + u PK := ⟨_, rfl⟩
         obtain ⟨S3, hS3⟩ : ∃ S3 : Int, S3 = S2 + u KJ := ⟨_, rfl⟩
         obtain ⟨S4, hS4⟩ : ∃ S4 : Int, S4 = S3 + u WJ := ⟨_, rfl⟩
         have b1 := u_lo X.h; have b2 := u_lo BG; have b3 := u_lo PK; have b4 := u_lo KJ; have b5 := u_lo WJ
         have d1 := u_hi X.h; have d2 := u_hi BG; have d3 := u_hi PK; have d4 := u_hi KJ; have d5 := u_hi WJ
         have s1 : IntKind.u64.wrap (u X.h + u BG) = S1 := by rw [IntKind.wrap_u64]; omega
         have s2 : IntKind.u64.wrap (S1 + u PK) = S2 := by rw [IntKind.wrap_u64]; omega
         have s3 : IntKind.u64.wrap (S2 + u KJ) = S3 := by rw [IntKind.wrap_u64]; omega
         have s4 : IntKind.u64.wrap (S3 + u WJ) = S4 := by rw [IntKind.wrap_u64]; omega
         have s5 : S4 % 4294967296 = u T := by
          rw [hT, ← v_rem2 (X.h + BG + PK + KJ) WJ, ← v_rem2 (X.h + BG + PK) KJ, ← v_rem2 (X.h + BG) PK, ← v_rem2 X.h BG]; omega
         have s6 : S4.tmod 4294967296 = u T := by rw [Int.tmod_eq_emod_of_nonneg (by omega)]; exact s5
         have HPK := hide hPK
         clear b1 b2 b3 b4 b5 d1 d2 d3 d4 d5 hS1 hS2 hS3 hS4 hT hBG hPK
         as_aux_lemma =>
          go_wp2_with fail
          rw [← HPK.out]
          go_still (by kernel_rfl)
          change Exit.then _ _ _ _ w8.drew
          obtain ⟨w9, hw9⟩ : ∃ w9, w9 = w8.drew := ⟨_, rfl⟩
          rw [← hw9]
          change w8.drew.cell? _ = _ at x0 x1 x2
          rw [← hw9] at x0 x1 x2
          have HY9 := hide (show Blk w9 xb 196 (vcells X.list) by rw [hw9]; exact HY8.out)
          have HO9 := hide (show Only (fun i => i = xb) w7 w9 by rw [hw9]; exact HO8.out.drew)
          clear hw9 HY8 HO8 x4 x5 x6 x7 ck cw s1 s2 s3 s4 s5 s6 p0 p1 p2
          go_wp2_with fail
          refine wp_region_still_lit (by kernel_rfl) (by kernel_rfl) ?_
          repeat still_step
          still_call (right_lit _ X.a 2 2 rfl (by decide) (by decide))
          repeat still_step
          still_call (right_lit _ X.a 13 13 rfl (by decide) (by decide))
          repeat still_step
          still_call (right_lit _ X.a 22 22 rfl (by decide) (by decide))
          repeat still_step
          refine wpStill_nil ?_
          change Exit.then _ _ _ _ w9.drew
          obtain ⟨w10, hw10⟩ : ∃ w10, w10 = w9.drew := ⟨_, rfl⟩
          rw [← hw10]
          change w9.drew.cell? _ = _ at x0 x1 x2
          rw [← hw10] at x0 x1 x2
          have HY10 := hide (show Blk w10 xb 196 (vcells X.list) by rw [hw10]; exact HY9.out)
          have HO10 := hide (show Only (fun i => i = xb) w7 w10 by rw [hw10]; exact HO9.out.drew)
          clear hw10 HY9 HO9
          obtain ⟨SM, hSM⟩ : ∃ SM : W32, SM = BitVec.rotateRight X.a 2 ^^^ BitVec.rotateRight X.a 13 ^^^ BitVec.rotateRight X.a 22 := ⟨_, rfl⟩
          obtain ⟨MO, hMO⟩ : ∃ MO : W32, MO = X.a &&& X.b ^^^ X.a &&& X.c ^^^ X.b &&& X.c := ⟨_, rfl⟩
          rw [← hSM]
          have HRD := hide (show (Sha.rounds WS (j + 1) s).list = [T + SM + MO, X.a, X.b, X.c, X.d + T, X.e, X.f, X.g] by
           rw [HN.out]
           have e : Sha.round X KJ WJ = ⟨T + (SM + MO), X.a, X.b, X.c, X.d + T, X.e, X.f, X.g⟩ := by rw [HT.out, hSM, hMO]; rfl
           rw [e, BitVec.add_assoc]; rfl)
          have HMO := hide hMO
          clear hSM hMO
          go_wp2_with fail
          rw [← HMO.out]
          clear x0 x1 x2
          as_aux_lemma =>
           go_loopw [20] (fun i wz => ∃ d : Nat, d ≤ 7 ∧ i = .int .i64 (d : Int) ∧ Blk wz xb 196 (vcells (Sha.up X.list d)) ∧ Only (fun i => i = xb) w10 wz) (fun i _ => (intOf i).toNat)
           case atStart => exact ⟨7, by omega, rfl, HY10.out, Only.refl _ _⟩
           case round =>
            rename World => wz
            obtain ⟨d, hd, rfl, hZ, hzo⟩ := hrel
            by_cases hd0 : 0 < d
            ·as_aux_lemma =>
              obtain ⟨e, rfl⟩ : ∃ e, d = e + 1 := ⟨d - 1, by omega⟩
              have cz : wz.cell? ⟨xb, e, none⟩ = some (.int .u64 (u (X.list.getD e 0))) := by rw [hZ.cell, vcells_get _ _ (by rw [Sha.up_len X (e + 1) hd]; omega), Sha.up_get X e (by omega)]
              have fz := hZ.frozen (e + 1)
              have ce : wz.cell? ⟨xb, e + 1, none⟩ = some (.int .u64 (u ((Sha.up X.list (e + 1)).getD (e + 1) 0))) := by rw [hZ.cell, vcells_get _ _ (by rw [Sha.up_len X (e + 1) hd]; omega)]
              obtain ⟨XO, hXO⟩ : ∃ XO, XO = (Sha.up X.list (e + 1)).getD (e + 1) 0 := ⟨_, rfl⟩
              rw [← hXO] at ce
              clear hXO
              have hset := Sha.up_set X e (by omega)
              obtain ⟨XE, hXE⟩ : ∃ XE, XE = X.list.getD e 0 := ⟨_, rfl⟩
              rw [← hXE] at cz hset
              have HZ2 := hide (hZ.set_ (e + 1) (.int .u64 (u XE)))
              rw [vcells_set, hset] at HZ2
              have HZO := hide (hzo.trans (Only.cell1 wz xb (e + 1) (.int .u64 (u XE))) (fun _ _ h => h))
              obtain ⟨D, hD⟩ : ∃ D : Int, D = ((e + 1 : Nat) : Int) := ⟨_, rfl⟩
              obtain ⟨D1, hD1⟩ : ∃ D1 : Int, D1 = D - 1 := ⟨_, rfl⟩
              obtain ⟨E1, hE1⟩ : ∃ E1, E1 = e + 1 := ⟨_, rfl⟩
              have q1 : 0 < D := by omega
              have q2 : IntKind.i64.wrap (D - 1) = D1 := by rw [IntKind.wrap_i64]; omega
              have q3 : 0 ≤ D1 := by omega
              have q4 : D1 < 8 := by omega
              have q5 : D1.toNat = e := by omega
              have q6 : 0 ≤ D := by omega
              have q7 : D < 8 := by omega
              have q8 : D.toNat = E1 := by omega
              have HD := hide (show D = ((e + 1 : Nat) : Int) ∧ D1 = D - 1 ∧ e + 1 ≤ 7 from ⟨hD, hD1, hd⟩)
              rw [← hD]
              rw [← hE1] at fz ce HZ2 HZO
              clear hXE hset hD hD1 hE1 hZ hzo hd hd0
              go_wp2_with fail
              exact ⟨⟨e, by have := HD.out; omega, congrArg (Value.int .i64) (by have := HD.out; omega), HZ2.out, HZO.out⟩, by have := HD.out; simp [intOf]; omega⟩
            ·as_aux_lemma =>
              obtain rfl : d = 0 := by omega
              rw [Sha.up_zero] at hZ
              have y4 : wz.cell? ⟨xb, 4, none⟩ = some (.int .u64 (u X.d)) := (hZ.cell 4).trans rfl
              have f4 := hZ.frozen 4
              have h2 := hZ.set_ 4 (.int .u64 (u (X.d + T)))
              have f0 := h2.frozen 0
              have y0 : World.cell? _ ⟨xb, 0, none⟩ = some (.int .u64 (u X.a)) := (h2.cell 0).trans rfl
              have HZ3 := hide (show Blk _ xb 196 (vcells (Sha.rounds WS (j + 1) s).list) from by rw [HRD.out]; exact h2.set_ 0 (.int .u64 (u (T + SM + MO))))
              have HZO := hide ((hzo.trans (Only.cell1 wz xb 4 (.int .u64 (u (X.d + T)))) (fun _ _ h => h)).trans (Only.cell1 _ xb 0 (.int .u64 (u (T + SM + MO)))) (fun _ _ h => h))
              obtain ⟨D1, hD1⟩ : ∃ D1 : Int, D1 = u X.d + u T := ⟨_, rfl⟩
              obtain ⟨T1, hT1⟩ : ∃ T1 : Int, T1 = u T + u SM := ⟨_, rfl⟩
              obtain ⟨T2, hT2⟩ : ∃ T2 : Int, T2 = T1 + u MO := ⟨_, rfl⟩
              have b1 := u_lo X.d; have b2 := u_lo T; have b3 := u_lo SM; have b4 := u_lo MO
              have d1 := u_hi X.d; have d2 := u_hi T; have d3 := u_hi SM; have d4 := u_hi MO
              have s1 : IntKind.u64.wrap (u X.d + u T) = D1 := by rw [IntKind.wrap_u64]; omega
              have s2 : D1 % 4294967296 = u (X.d + T) := by rw [← v_rem2 X.d T]; omega
              have s3 : D1.tmod 4294967296 = u (X.d + T) := by rw [Int.tmod_eq_emod_of_nonneg (by omega)]; exact s2
              have s4 : IntKind.u64.wrap (u T + u SM) = T1 := by rw [IntKind.wrap_u64]; omega
              have s5 : IntKind.u64.wrap (T1 + u MO) = T2 := by rw [IntKind.wrap_u64]; omega
              have s6 : T2 % 4294967296 = u (T + SM + MO) := by rw [← v_rem2 (T + SM) MO, ← v_rem2 T SM]; omega
              have s7 : T2.tmod 4294967296 = u (T + SM + MO) := by rw [Int.tmod_eq_emod_of_nonneg (by omega)]; exact s6
              clear b1 b2 b3 b4 d1 d2 d3 d4 hD1 hT1 hT2 hZ hzo hd hd0 h2
              go_wp2_with fail
              refine ⟨?_, by have := HJ.out; simp [intOf]; omega⟩
              repeat apply Exists.intro
              exact ⟨⟨j + 1, by have := HJ.out; omega, congrArg (Value.int .i64) (by have := HJ.out; omega), HZ3.out, HO10.out.trans HZO.out (fun _ _ h => h)⟩, rfl⟩
       ·as_aux_lemma =>
         obtain rfl : j = 64 := by omega
         obtain ⟨Y, hYY⟩ : ∃ Y, Y = Sha.rounds WS 64 s := ⟨_, rfl⟩
         rw [← hYY] at hY
         have HM2 := hide (show Sha.mix s P = Sha.add s Y by rw [HMX.out, hYY])
         have VX := hide (ho.blk V7.out (by have := hne.out; omega))
         have HYX := hide hY
         have HO7 := hide ho
         clear hY ho hYY hj hlt
         go_wp2_with fail
         go_loopw [218] (fun i wv => ∃ j : Nat, j ≤ 8 ∧ i = .int .i64 (j : Int) ∧ Blk wv vb 196 (vcells (addTo s.list Y.list j)) ∧ Only (fun i => i = vb) wx wv) (fun i _ => 8 - (intOf i).toNat)
         case atStart => exact ⟨0, by omega, rfl, VX.out, Only.refl _ _⟩
         case round =>
          rename World => wv
          obtain ⟨j, hj, rfl, hZ, hzo⟩ := hrel
          by_cases hlt : j < 8
          ·have cx : wv.cell? ⟨xb, j, none⟩ = some (.int .u64 (u (Y.list.getD j 0))) := by rw [(hzo.blk HYX.out (by have := hne.out; omega)).cell]; exact vcells_get _ _ hlt
           have cs : wv.cell? ⟨vb, j, none⟩ = some (.int .u64 (u (s.list.getD j 0))) := by rw [hZ.cell, vcells_get _ _ (by rw [addTo_len s Y j hj]; exact hlt), addTo_get s Y j hlt]
           have fs := hZ.frozen j
           obtain ⟨XJ, hXJ⟩ : ∃ XJ, XJ = Y.list.getD j 0 := ⟨_, rfl⟩
           obtain ⟨SJ, hSJ⟩ : ∃ SJ, SJ = s.list.getD j 0 := ⟨_, rfl⟩
           have hset := addTo_set s Y j hlt
           rw [← hXJ, ← hSJ] at hset
           rw [← hXJ] at cx
           rw [← hSJ] at cs
           have HZ := hide hZ
           have HZO := hide hzo
           have HS := hide hset
           obtain ⟨J, hJ⟩ : ∃ J : Int, J = (j : Int) := ⟨_, rfl⟩
           have i0 : (0 : Int) ≤ J := by omega
           have i1 : J < 8 := by omega
           have i2 : J.toNat = j := by omega
           have i3 : IntKind.i64.wrap (J + 1) = J + 1 := by rw [IntKind.wrap_i64]; omega
           obtain ⟨S1, hS1⟩ : ∃ S1 : Int, S1 = u SJ + u XJ := ⟨_, rfl⟩
           have b1 := u_lo SJ; have b2 := u_lo XJ; have d1 := u_hi SJ; have d2 := u_hi XJ
           have s1 : IntKind.u64.wrap (u SJ + u XJ) = S1 := by rw [IntKind.wrap_u64]; omega
           have s2 : S1 % 4294967296 = u (SJ + XJ) := by rw [← v_rem2 SJ XJ]; omega
           have s3 : S1.tmod 4294967296 = u (SJ + XJ) := by rw [Int.tmod_eq_emod_of_nonneg (by omega)]; exact s2
           have HJ := hide (show J = (j : Int) ∧ j < 8 from ⟨hJ, hlt⟩)
           rw [← hJ]
           clear hXJ hSJ hZ hzo hset hJ hS1 b1 b2 d1 d2 hlt hj
           go_wp2_with fail
           go_still_tail 10, (by kernel_rfl)
           change wpList _ _ _ _ _ wv.drew
           obtain ⟨w8, hw8⟩ : ∃ w8, w8 = wv.drew := ⟨_, rfl⟩
           rw [← hw8]
           change wv.drew.frozen? _ = _ at fs
           rw [← hw8] at fs
           have cs8 : w8.cell? ⟨vb, j, none⟩ = some (.int .u64 (u SJ)) := by rw [hw8]; exact cs
           have hZ := (show Blk w8 vb 196 (vcells (addTo s.list Y.list j)) by rw [hw8]; exact HZ.out)
           have hzo := (show Only (fun i => i = vb) wx w8 by rw [hw8]; exact HZO.out.drew)
           clear hw8 HZ HZO cs cx
           have HZ2 := hide (hZ.set_ j (.int .u64 (u (SJ + XJ))))
           rw [vcells_set, HS.out] at HZ2
           have HO2 := hide (hzo.trans (Only.cell1 w8 vb j (.int .u64 (u (SJ + XJ)))) (fun _ _ h => h))
           clear hZ hzo
           go_wp2_with fail
           refine ⟨?_, by have := HJ.out; simp [intOf]; omega⟩
           repeat apply Exists.intro
           exact ⟨⟨j + 1, by have := HJ.out; omega, congrArg (Value.int .i64) (by have := HJ.out; omega), HZ2.out, HO2.out⟩, rfl⟩
          ·obtain rfl : j = 8 := by omega
           rw [addTo_full, ← HM2.out, ← HNX.out] at hZ
           have HZ := hide hZ
           have HOF := hide (((HO.out.trans (Only.of_below HBM7.out (fun i => i = vb)) (fun _ _ h => h)).trans HO7.out (fun i hi e => by have h9 : i = xb := e; have := hne.out; omega)).trans hzo (fun _ _ h => h))
           clear hZ hzo
           go_wp2_with fail
           exact ⟨⟨m + 1, by have := HLT.out; omega, congrArg (Value.int .i64) (by have := HAT.out; omega), HZ.out, HOF.out⟩, by have := HAT.out; have := HLT.out; simp [intOf]; omega⟩
  ·as_aux_lemma =>
    obtain rfl : m = M := by omega
    obtain ⟨F, hF⟩ : ∃ F, F = Sha.pieces m Sha.first PP := ⟨_, rfl⟩
    rw [← hF] at hV
    have HH := hide (show sha bs = F.bytes by
     have h1 : PP.length / 64 = m := by have := HM.out; omega
     rw [sha, ← HPP.out, h1, ← hF])
    have RM := hide (ho.blk R5.out (by have := hkv.out; omega))
    have HBM := hide (show Below w.heap.size w wm from B5.out.trans (ho.below B5.out.size (fun i hi e => by have h9 : i = vb := e; have := HRV.out; omega)))
    have HV := hide hV
    obtain ⟨AT, hAT⟩ : ∃ AT : Int, AT = 64 * (m : Int) := ⟨_, rfl⟩
    have at1 : ¬ AT < (n3 : Int) := by have := HM.out; omega
    rw [← hAT]
    obtain ⟨ob, hob⟩ : ∃ ob, ob = wm.heap.size := ⟨_, rfl⟩
    obtain ⟨wa, hwa⟩ : ∃ x, x = wm.alloc (.cells (bcs zero32).toArray 104) := ⟨_, rfl⟩
    have OZ := hide (show Blk wa ob 104 (bcs zero32) by rw [hwa, hob]; exact Blk.new wm _ _)
    have Ba := hide (show Below wm.heap.size wm wa by rw [hwa]; exact below_alloc (Below.refl _ _) _)
    have HOB := hide hob
    have HRO := hide (show r < ob by have h1 := RM.out.lt; omega)
    clear hF hV ho hlt hm hAT
    go_wp2_with (first
     | (refine wpList_alloc_agg rfl 104 rfl (bcs zero32) zero32_info ?_; simp only [pU])
     | (rw [← hwa, ← hob]; refine wpList_store_blk rfl 104 _ _ rfl ob 0 104 (bcs zero32) (bcs zero32) (by rfl) (by rfl) OZ.out (Nat.le_refl _) (by rw [hIH, lz32]) (bcs_one _) ?_; intro w7 o7 z7 b7; rw [lay_all (bcs zero32) _ (by rfl)] at b7; have O7 := hide b7; have BM7 := hide (Ba.out.trans (o7.below Ba.out.size (fun i hi e => by have h9 : i = ob := e; have := HOB.out; omega))); have hld := loadSt8_run w7 vb 0 F.list ((HV.out.under BM7.out).whole) rfl; clear o7 z7 b7 hwa hob OZ Ba; simp only [Act.put]))
    clear hld
    go_loopw [234] (fun i wo => ∃ j : Nat, j ≤ 8 ∧ i = .int .i64 (j : Int) ∧ (∃ l, Blk wo ob 104 (bcs l) ∧ OutP F.bytes l j 4) ∧ Only (fun i => i = ob) w7 wo) (fun i _ => 8 - (intOf i).toNat)
    case atStart => exact ⟨0, by omega, rfl, ⟨_, O7.out, OutP.start _⟩, Only.refl _ _⟩
    case round =>
     rename World => wo
     obtain ⟨j, hj, rfl, ⟨l, hl, hp⟩, ho⟩ := hrel
     by_cases hlt : j < 8
     ·have hix := index8_run F j hlt wo
      have HX := hide (fun d hd => bytes_get F j d hlt hd)
      obtain ⟨X, hX⟩ : ∃ X, X = F.list.getD j 0 := ⟨_, rfl⟩
      rw [← hX] at hix HX
      have HL := hide hl
      have HP := hide hp
      have HO := hide ho
      obtain ⟨J, hJ⟩ : ∃ J : Int, J = (j : Int) := ⟨_, rfl⟩
      have i0 : (0 : Int) ≤ J := by omega
      have i1 : J < 8 := by omega
      have i3 : IntKind.i64.wrap (J + 1) = J + 1 := by rw [IntKind.wrap_i64]; omega
      have HJ := hide (show J = (j : Int) ∧ j < 8 from ⟨hJ, hlt⟩)
      rw [← hJ] at hix ⊢
      clear hX hl hp ho hJ hlt hj
      go_wp2_with fail
      go_loopw [24, 25] (fun nv kv wi => ∃ d : Nat, d ≤ 4 ∧ kv = .int .i64 (3 - (d : Int)) ∧ nv = .int .u64 ((X.toNat / 256 ^ d : Nat) : Int) ∧ (∃ l, Blk wi ob 104 (bcs l) ∧ OutP F.bytes l j (4 - d)) ∧ Only (fun i => i = ob) w7 wi) (fun _ k _ => (intOf k + 1).toNat)
      case atStart => exact ⟨0, by omega, rfl, by rw [Nat.pow_zero, Nat.div_one]; rfl, ⟨l, HL.out, HP.out⟩, HO.out⟩
      case round =>
       rename World => wi
       obtain ⟨d, hd, rfl, rfl, ⟨l, hl, hp⟩, ho⟩ := hrel
       by_cases hd4 : d < 4
       ·obtain ⟨NV, hNV⟩ : ∃ NV : Int, NV = ((X.toNat / 256 ^ d : Nat) : Int) := ⟨_, rfl⟩
        obtain ⟨B, hB⟩ : ∃ B : Int, B = NV % 256 := ⟨_, rfl⟩
        obtain ⟨NW, hNW⟩ : ∃ NW : Int, NW = NV / 256 := ⟨_, rfl⟩
        obtain ⟨K, hK⟩ : ∃ K : Int, K = 3 - (d : Int) := ⟨_, rfl⟩
        obtain ⟨J4, hJ4⟩ : ∃ J4 : Int, J4 = 4 * J := ⟨_, rfl⟩
        obtain ⟨I, hI⟩ : ∃ I : Int, I = J4 + K := ⟨_, rfl⟩
        obtain ⟨N9, hN9⟩ : ∃ N9 : Nat, N9 = 4 * j + (3 - d) := ⟨_, rfl⟩
        have e1 := HJ.out
        have nv0 : 0 ≤ NV := by rw [hNV]; exact Int.natCast_nonneg _
        have k0 : 0 ≤ K := by omega
        have k1 : IntKind.i64.wrap (4 * J) = J4 := by rw [IntKind.wrap_i64]; omega
        have k2 : IntKind.i64.wrap (J4 + K) = I := by rw [IntKind.wrap_i64]; omega
        have k3 : 0 ≤ I := by omega
        have k4 : I < 32 := by omega
        have k5 : I.toNat = N9 := by omega
        have k6 : IntKind.i64.wrap (K - 1) = K - 1 := by rw [IntKind.wrap_i64]; omega
        have r1 : NV % 256 = B := hB.symm
        have r2 : NV.tmod 256 = B := by rw [Int.tmod_eq_emod_of_nonneg nv0]; exact r1
        have r3 : NV / 256 = NW := hNW.symm
        have r4 : NV.tdiv 256 = NW := by rw [Int.tdiv_eq_ediv_of_nonneg nv0]; exact r3
        have r5 : IntKind.u8.wrap B = B := by rw [u8_wrap]; omega
        have r6 : IntKind.u64.wrap NW = NW := by
         have h1 : NV < 18446744073709551616 := by rw [hNV]; have := Nat.div_le_self X.toNat (256 ^ d); have := X.isLt; omega
         rw [IntKind.wrap_u64]; omega
        have fz := hl.frozen N9
        obtain ⟨cv, hcv⟩ : ∃ v, (bcs l)[N9]? = some v := ⟨_, List.getElem?_eq_getElem (by rw [bcs_length, hp.1]; omega)⟩
        have cz : wi.cell? ⟨ob, N9, none⟩ = some cv := by rw [hl.cell]; exact hcv
        clear hcv
        have hst := OutP.step (x := B) (k := 3 - d) (by rw [show 3 - d + 1 = 4 - d by omega]; exact hp) (by omega) e1.2 (by rw [HX.out d hd4, hB, hNV]; rfl)
        have HL2 := hide (hl.set_ N9 (.int .u8 B))
        rw [bcs_set] at HL2
        rw [← hN9] at hst
        have HP2 := hide (show OutP F.bytes (l.set N9 B) j (4 - (d + 1)) by rw [show 4 - (d + 1) = 3 - d by omega]; exact hst)
        have HO2 := hide (ho.trans (Only.cell1 wi ob N9 (.int .u8 B)) (fun _ _ h => h))
        have HNW := hide (show NW = ((X.toNat / 256 ^ (d + 1) : Nat) : Int) by rw [hNW, hNV, Nat.pow_succ, ← Nat.div_div_eq_div_mul]; rfl)
        have HK := hide (show K = 3 - (d : Int) ∧ d < 4 from ⟨hK, hd4⟩)
        rw [← hNV, ← hK]
        clear hNV hB hNW hK hJ4 hI hN9 e1 nv0 hst hl hp ho hd hd4
        go_wp2_with fail
        exact ⟨⟨d + 1, by have := HK.out; omega, congrArg (Value.int .i64) (by have := HK.out; omega), congrArg (Value.int .u64) HNW.out, ⟨_, HL2.out, HP2.out⟩, HO2.out⟩, by have := HK.out; simp [intOf]; omega⟩
       ·obtain rfl : d = 4 := by omega
        have HL2 := hide hl
        have HP2 := hide (OutP.next hp)
        have HO2 := hide ho
        clear hl hp ho hd hd4
        go_wp2_with fail
        exact ⟨⟨j + 1, by have := HJ.out; omega, congrArg (Value.int .i64) (by have := HJ.out; omega), ⟨_, HL2.out, HP2.out⟩, HO2.out⟩, by have := HJ.out; simp [intOf]; omega⟩
     ·obtain rfl : j = 8 := by omega
      have hlF := hp.whole F.bytes_len
      rw [hlF, ← HH.out] at hl
      have HL := hide hl
      have RO := hide (ho.blk (RM.out.under BM7.out) (by have := HRO.out; omega))
      have HBO := hide (show Below w.heap.size w wo from (Below.then_ HBM.out BM7.out).trans (ho.below (Below.then_ HBM.out BM7.out).size (fun i hi e => by have h9 : i = ob := e; have := HOB.out; have := HBM.out.size; omega)))
      clear hl hp ho hlF
      go_wp2_with (first
       | (refine wpList_load_blk rfl 104 _ rfl ob 0 104 (bcs (sha bs)) (bcs (sha bs)) _ (by rfl) HL.out (fun i v hv => by rw [Nat.zero_add]; exact hv) hHH.out rfl (by rw [hIH, lsh]) ?_; simp only [pU])
       | (refine wpList_store_blk rfl 104 _ _ rfl r 0 104 (bcs zero32) (bcs (sha bs)) (by rfl) (by rfl) RO.out (by rw [lz32, lsh]; decide) (by rw [hIH, lsh]) (bcs_one _) ?_; intro w9 o9 z9 b9; simp only [Act.put]))
      rw [lay_all (bcs zero32) _ (by rw [lz32, lsh])] at b9
      refine bodyPost_ret (results_cell_blk rfl _ _ r 104 _ _ (by rfl) b9 hHH.out rfl (by rw [hIH, lsh])) rfl ⟨rfl, ?_⟩
      exact HBO.out.trans (o9.below HBO.out.size (fun i hi e => by have h9 : i = r := e; have := HRV.out; omega))
end
end Go.Proofs.YtjnpkcabkccaoaaGreat
