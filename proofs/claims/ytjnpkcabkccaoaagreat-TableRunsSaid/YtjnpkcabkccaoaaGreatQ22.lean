/- Lemmas and walks for TableRuns, packed. -/
import Derived.Test.YtjnpkcabkccaoaaGreatQ21
import Derived.Test.YtjnpkcabkccaoaaGreatQ2
import Derived.Test.YtjnpkcabkccaoaaGreatQ13
import Derived.Test.YtjnpkcabkccaoaaGreatQ16
import Derived.Test.YtjnpkcabkccaoaaGreatQ8
set_option maxRecDepth 100000
set_option maxHeartbeats 16000000
namespace Go.Proofs.YtjnpkcabkccaoaaGreat
open Go.RowKit
section
theorem nextR_fits {b : List Int} {k : Int} {a body s : List Int} (h : nextR b k a = some (body, s)) : body.length + 37 ≤ b.length ∧ body.length ≤ 100000 ∧ s.length = 32 ∧ Byt s := by
 unfold nextR at h
 split at h
 ·cases h
 ·split at h
  ·cases h
  ·rename_i h1 h2
   split at h
   ·cases h
   ·injection h with h
    injection h with h3 h4
    rw [← h3, ← h4]
    rw [List.length_take, List.length_drop]
    have h5 : ¬ b.length < 37 + num (b.take 4) := fun h => h2 (.inr (.inr h))
    have h6 : ¬ 100000 < num (b.take 4) := fun h => h2 (.inl h)
    exact ⟨by omega, by omega, sha_len _, sha_byt _⟩
theorem slabs_fit {n l m : Nat} (h : l + 37 ≤ n) (hl : l ≤ 100000) (hm : n = 120 * m) : slabsN (l : Int) * 120 ≤ n ∧ 1 ≤ slabsN (l : Int) ∧ slabsN (l : Int) ≤ 1000 := by
 rw [slabsN_nat _ hl]; omega
theorem bodies_more : ∀ (k m : Nat) (b : List Int) (kd : Int) (s : List Int), b.length < k → b.length < m → bodies k b kd s = bodies m b kd s
 | 0, _, _, _, _, h, _ => absurd h (by omega)
 | _ + 1, 0, _, _, _, _, h => absurd h (by omega)
 | k + 1, m + 1, b, kd, s, h1, h2 => by
  rw [bodies, bodies]
  by_cases hb : b = []
  ·rw [if_pos hb, if_pos hb]
  ·rw [if_neg hb, if_neg hb]
   have hl := List.length_pos_iff.2 hb
   cases hn : nextR b kd s with
   | none => rfl
   | some x =>
    obtain ⟨body, t⟩ := x
    have h3 := nextR_fits hn
    have h4 : 1 ≤ slabsN (body.length : Int) := by rw [slabsN_nat _ h3.2.1]; omega
    simp only
    rw [bodies_more k m _ 2 t (by rw [List.length_drop]; omega) (by rw [List.length_drop]; omega)]
def tell (b : List Int) (kd : Int) (s : List Int) : List (List Int) := bodies (b.length + 1) b kd s
theorem tell_nil (kd : Int) (s : List Int) : tell [] kd s = [] := rfl
theorem tell_none {b : List Int} {kd : Int} {s : List Int} (h : nextR b kd s = none) : tell b kd s = [] := by
 rw [tell, bodies, h]; simp
theorem tell_some {b : List Int} {kd : Int} {s body t : List Int} (h : nextR b kd s = some (body, t)) : tell b kd s = body :: tell (b.drop (slabsN (body.length : Int) * 120)) 2 t := by
 have h3 := nextR_fits h
 have h4 : 1 ≤ slabsN (body.length : Int) := by rw [slabsN_nat _ h3.2.1]; omega
 have hb : b ≠ [] := by rintro rfl; simp at h3
 rw [tell, bodies, if_neg hb, h]
 simp only
 rw [bodies_more b.length _ _ 2 t (by rw [List.length_drop]; omega) (Nat.lt_succ_self _)]
 rfl
structure BV where
 A : Option Addr
 n : Nat
 c : Nat
 bs : List Int
def BV.val (v : BV) : Value := .slice v.A v.n v.c
def BV.cells (v : BV) : List Value := [v.val]
structure BV.Fine (w : World) (v : BV) : Prop where
 bys : Bys w v.A v.n v.bs
 cap : v.n ≤ v.c
def KeepV (w : World) (v : BV) (F : Nat → Prop) : Prop := ∀ w', Only F w w' → v.Fine w'
theorem KeepV.fine {w : World} {v : BV} {F : Nat → Prop} (h : KeepV w v F) : v.Fine w := h w (Only.refl _ _)
theorem KeepV.step {w w' : World} {v : BV} {F F' : Nat → Prop} (h : KeepV w v F) (ho : Only F w w') (hF : ∀ i, i < w.heap.size → F' i → F i) : KeepV w' v F' := fun w'' h2 => h w'' (ho.trans h2 hF)
theorem KeepV.of_new {w0 w : World} {v : BV} (h : v.Fine w) (hf : Fr w0 v.A) {F : Nat → Prop} (hF : ∀ i, F i → i < w0.heap.size) : KeepV w v F := fun w' ho => ⟨h.bys.keep ho fun _ ad e hf9 => by have h1 := hf ad e; have h2 := hF _ hf9; omega, h.cap⟩
structure SRow (base : Nat) (w : World) (A : Option Addr) (n c : Nat) (xs : List BV) : Prop where
 len : xs.length = n
 cap : n ≤ c
 low : base ≤ w.heap.size
 row : w.ownsRow base 23 1 (.slice A n c) n (xs.flatMap BV.cells)
 keep : ∀ x ∈ xs, KeepV w x (fun i => i < base ∨ (Value.slice A n c).ownBlock = some i)
namespace SRow
variable {base : Nat} {w w' : World} {A : Option Addr} {n c : Nat} {xs : List BV}
theorem nil (h : base ≤ w.heap.size) : SRow base w none 0 0 [] := ⟨rfl, Nat.le_refl _, h, World.ownsRow_nil _ _ _ _, by simp⟩
theorem step (h : SRow base w A n c xs) {F : Nat → Prop} (ho : Only F w w') (hF : ∀ i, i < w.heap.size → F i → i < base) : SRow base w' A n c xs :=
 ⟨h.len, h.cap, Nat.le_trans h.low ho.size, ho.own h.row (fun g hg hf => by have := hF g (h.row.lt g hg).2 hf; have := (h.row.lt g hg).1; omega), fun x hx => (h.keep x hx).step (ho.mono fun i hi hf => .inl (hF i hi hf)) fun _ _ h => h⟩
theorem under (h : SRow base w A n c xs) (hb : Below w.heap.size w w') : SRow base w' A n c xs := h.step (Only.of_below hb fun _ => False) fun _ _ h => h.elim
theorem fine (h : SRow base w A n c xs) : ∀ x ∈ xs, x.Fine w := fun x hx => (h.keep x hx).fine
theorem in_ (h : SRow base w A n c xs) : RowsIn BV.cells 1 BV.Fine w A n xs := rowsOf h.len (fun _ _ => rfl) h.row h.fine
theorem lower (h : SRow base w A n c xs) {lo : Nat} (hl : lo ≤ base) : SRow lo w A n c xs := by
 refine ⟨h.len, h.cap, Nat.le_trans hl h.low, ⟨h.row.1, ?_⟩, fun x hx => (h.keep x hx).step (Only.refl _ _) fun i _ hf => hf.imp (fun h => by omega) id⟩
 rcases h.row.2 with h1 | ⟨g, cap, cur, h1, h2, h3⟩
 ·exact .inl h1
 ·exact .inr ⟨g, cap, cur, h1, Nat.le_trans hl h2, h3⟩
theorem byss (h : SRow base w A n c xs) : Byss w A n (xs.map BV.bs) := by
 refine ⟨by rw [List.length_map]; exact h.len, fun hn => ?_⟩
 obtain ⟨b, off, hA, hr⟩ := h.in_.2.2 hn
 refine ⟨b, off, hA, fun j bs hj => ?_⟩
 rw [List.getElem?_map] at hj
 obtain ⟨v, hv, rfl⟩ := Option.map_eq_some_iff.1 hj
 have h1 := hr j v hv 0 v.val rfl
 have hf := h.fine v (List.mem_of_getElem? hv)
 exact ⟨v.A, v.n, v.c, by simpa [BV.val] using h1, hf.bys, hf.cap⟩
theorem app (h : SRow base w A n c xs) {V : BV} (hV : KeepV w V (fun i => i < base ∨ (Value.slice A n c).ownBlock = some i)) {A' : Option Addr} {c' : Nat}
  (q1 : w'.ownsRow base 23 1 (.slice A' (n + 1) c') (n + 1) (xs.flatMap BV.cells ++ V.cells)) (q2 : n + 1 ≤ c')
  (q3 : ∀ g, (Value.slice A' (n + 1) c').ownBlock = some g → (Value.slice A n c).ownBlock = some g ∨ w.heap.size ≤ g) (q4 : Only (fun i => (Value.slice A n c).ownBlock = some i) w w') : SRow base w' A' (n + 1) c' (xs ++ [V]) := by
 have hk : ∀ x, KeepV w x (fun i => i < base ∨ (Value.slice A n c).ownBlock = some i) → KeepV w' x (fun i => i < base ∨ (Value.slice A' (n + 1) c').ownBlock = some i) := fun x hx =>
  hx.step (q4.mono fun _ _ h => .inr h) fun i hi hf => by
   rcases hf with hf | hf
   ·exact .inl hf
   ·rcases q3 i hf with h1 | h1
    ·exact .inr h1
    ·omega
 refine ⟨by rw [List.length_append, h.len]; rfl, q2, Nat.le_trans h.low q4.size, by rw [List.flatMap_append]; simpa using q1, fun x hx => ?_⟩
 rcases List.mem_append.1 hx with hx | hx
 ·exact hk x (h.keep x hx)
 ·rw [List.mem_singleton.1 hx]; exact hk V hV
end SRow
theorem byts_infoR : (Tryz.prog.info? 23).map (fun i => (i.size, i.bytes, i.zero.map (fun z => z.cells.size))) = some (1, 24, some 1) := by kernel_rfl
end
section
def StandsPost (w : World) (g : Nat × List (List Int)) (e : Ending) (w' : World) : Prop :=
 ∃ (A : Option Addr) (n c : Nat) (vs : List BV), e = .returned (.tuple #[.int .u64 (g.1 : Int), .slice A n c]) ∧ SRow w.heap.size w' A n c vs ∧ vs.map BV.bs = g.2 ∧ Below w.heap.size w w' ∧ n ≤ 300000
theorem stands_eq (d : Dev) (half : Nat) : stands d half = if (header d half).1 = 0 then (0, []) else ((header d half).1, tell (area d half (header d half).1) 1 (header d half).2) := rfl
theorem header_len (d : Dev) (half : Nat) : (header d half).2.length = 32 ∧ Byt (header d half).2 := by
 have hz : nil32.length = 32 ∧ Byt nil32 := ⟨rfl, fun x hx => by have := List.eq_of_mem_replicate hx; omega⟩
 unfold header
 split
 ·exact hz
 ·split
  ·exact hz
  ·exact ⟨sha_len _, sha_byt _⟩
theorem header_lt {d : Dev} (half : Nat) : (header d half).1 < 18446744073709551616 := by
 unfold header
 split
 ·show 0 < _; decide
 ·split
  ·show 0 < _; decide
  ·rename_i h
   have h9 : ¬ mostGen < marked (d.slab (half * d.room)) := fun e => h (.inr (.inl e))
   unfold mostGen at h9
   show marked _ < _
   omega
def lenOfV : Value → Nat
 | .slice _ n _ => n
 | _ => 0
attribute [local go_sem ↓] loadH_fold
theorem stands_any (w : World) (b : Nat) (F : Nat → Prop) (d : Dev) (half : Nat) (hh : half ≤ 1) (h : DevRep w b F d) (hb : d.Bytes) :
  Calls Tryz.prog 76 #[.pointer (some ⟨b, 0, none⟩), .int .i64 (half : Int)] w (StandsPost w (stands d half)) := by
 have HG := hide h.good
 have HB := hide hb
 have D0 := hide h
 have HH := hide hh
 have h0 : (0 : Int) ≤ (half : Int) := by omega
 have h1 : (half : Int) ≤ 1 := by omega
 clear h hb hh
 go_enter Tryz.func76, Tryz.ntmps76
 go_wp2_with fail
 refine (header_any w b F d half HH.out D0.out HB.out).mono ?_
 rintro e w1 ⟨rfl, b1⟩
 obtain ⟨G, hG⟩ : ∃ G, G = (header d half).1 := ⟨_, rfl⟩
 obtain ⟨S0, hS0⟩ : ∃ S, S = (header d half).2 := ⟨_, rfl⟩
 have HE := stands_eq d half
 rw [← hG, ← hS0] at HE
 rw [← hG, ← hS0]
 have HS0 := hide (show S0.length = 32 ∧ Byt S0 by rw [hS0]; exact header_len d half)
 have HG9 := hide (show G < 18446744073709551616 by rw [hG]; exact header_lt half)
 obtain ⟨AR, hAR⟩ : ∃ L, L = area d half G := ⟨_, rfl⟩
 rw [← hAR] at HE
 have HEE := hide HE
 have HAR := hide hAR
 have HAL := hide (show ∃ m, m ≤ 2048 ∧ AR.length = 120 * m by
  obtain ⟨m, h1, h2⟩ := area_len HG.out half G
  have := HG.out.few
  exact ⟨m, by unfold Dev.room at h1; omega, by rw [hAR]; exact h2⟩)
 have B1 := hide b1
 have D1 := hide (D0.out.under b1)
 have K1 := hide (Blk.new w1 104 (bcs zero32))
 clear HE hG hS0 hAR b1
 by_cases hG0 : G = 0
 ·have HZ := hide (show stands d half = (0, []) by rw [HEE.out, if_pos hG0])
  subst hG0
  go_wp2_with (first
   | (refine wpList_alloc_agg rfl 104 rfl (bcs zero32) zero32_info ?_; simp only [pU])
   | (refine wpList_store_blk rfl 104 _ _ rfl w1.heap.size 0 104 (bcs zero32) (bcs S0) (by rfl) (by rfl) K1.out (by rw [bcs_length, bcs_length, HS0.out.1]; decide) (by rw [bcs_length, HS0.out.1]; exact isH32) (bcs_one _) ?_; intro w2 o9 z9 b9; rw [lay_all _ _ (by rw [bcs_length, bcs_length, HS0.out.1]; rfl)] at b9; simp only [Act.put]; have K2 := hide b9; have B12 := hide (show Below w1.heap.size w1 w2 from Below.trans ((Below.refl _ w1).alloc (Nat.le_refl _) _) (o9.below (by simp) (fun i hi e => by have h9 : i = w1.heap.size := e; omega))); clear b9 o9 z9))
  go_ret2
  exact ⟨none, 0, 0, [], by rw [HZ.out]; rfl, SRow.nil (Below.then_ B1.out B12.out).size, by rw [HZ.out]; rfl, Below.then_ B1.out B12.out, by omega⟩
 ·have HZ := hide (show stands d half = (G, tell AR 1 S0) by rw [HEE.out, if_neg hG0])
  have g1 : ((G : Int) == 0) = false := by simp; omega
  clear HEE
  go_wp2_with (first
   | (refine wpList_alloc_agg rfl 104 rfl (bcs zero32) zero32_info ?_; simp only [pU])
   | (refine wpList_store_blk rfl 104 _ _ rfl w1.heap.size 0 104 (bcs zero32) (bcs S0) (by rfl) (by rfl) K1.out (by rw [bcs_length, bcs_length, HS0.out.1]; decide) (by rw [bcs_length, HS0.out.1]; exact isH32) (bcs_one _) ?_; intro w2 o9 z9 b9; rw [lay_all _ _ (by rw [bcs_length, bcs_length, HS0.out.1]; rfl)] at b9; simp only [Act.put]; have K2 := hide b9; have B12 := hide (show Below w1.heap.size w1 w2 from Below.trans ((Below.refl _ w1).alloc (Nat.le_refl _) _) (o9.below (by simp) (fun i hi e => by have h9 : i = w1.heap.size := e; omega))); clear b9 o9 z9))
  refine (area_any w2 b F d half G HH.out HG9.out (D1.out.under B12.out) HB.out).mono ?_
  rintro e w3 ⟨A3, n3, c3, rfl, m3, f3⟩
  rw [← HAR.out] at m3
  have K3 := hide (K2.out.under m3.below)
  have Y3 := hide m3.bys
  have C3 := hide m3.cap
  have N3 := hide m3.len
  have B23 := hide m3.below
  have F3 := hide f3
  have W12 := hide (show w1.heap.size < w2.heap.size from K2.out.lt)
  have B03 := hide (Below.then_ B1.out (Below.then_ B12.out B23.out))
  clear m3 f3
  go_wp2_with fail
  go_loopw [8, 9, 10] (fun ov kv bv ws => ∃ (A : Option Addr) (n c : Nat) (bb : List Int) (Ao : Option Addr) (no co : Nat) (vs : List BV) (kd : Int) (S : List Int), kv = .int .u8 kd ∧ bv = .slice A n c ∧ ov = .slice Ao no co ∧ 0 ≤ kd ∧ kd ≤ 255 ∧ Bys ws A n bb ∧ n ≤ c ∧ (∃ m, m ≤ 2048 ∧ n = 120 * m) ∧ (0 < n → ∀ ad, A = some ad → w1.heap.size < ad.block ∧ ad.block < w3.heap.size) ∧ Blk ws w1.heap.size 104 (bcs S) ∧ S.length = 32 ∧ Byt S ∧ SRow w3.heap.size ws Ao no co vs ∧ no + n ≤ 300000 ∧ tell AR 1 S0 = vs.map BV.bs ++ tell bb kd S ∧ Below w.heap.size w ws) (fun _ _ bv _ => lenOfV bv)
  case atStart =>
   refine ⟨A3, n3, c3, AR, none, 0, 0, [], 1, S0, rfl, rfl, rfl, by decide, by decide, Y3.out, C3.out, ?_, fun h0 ad e => ?_, K3.out, HS0.out.1, HS0.out.2, SRow.nil (Nat.le_refl _), by obtain ⟨m, h1, h2⟩ := HAL.out; have := N3.out; omega, rfl, B03.out⟩
   ·obtain ⟨m, h1, h2⟩ := HAL.out
    exact ⟨m, h1, by rw [← N3.out, h2]⟩
   ·have h1 := F3.out ad e
    have h2 := Y3.out.lt h0 ad e
    have := W12.out
    exact ⟨by omega, h2⟩
  case round =>
   obtain ⟨A, n, c, bb, Ao, no, co, vs, kd, S, rfl, rfl, rfl, hk0, hk9, hbb, hcap, hmul, had, hKS, hSl, hSb, hrow, hno, htell, hbw⟩ := hrel
   have HK9 := hide (And.intro hk0 hk9)
   have HBB := hide hbb
   have HCP := hide hcap
   have HMUL := hide hmul
   have HAD := hide had
   have HKS := hide hKS
   have HSL := hide hSl
   have HSB := hide hSb
   have HROW := hide hrow
   have HNO := hide hno
   have HTL := hide htell
   have HBW := hide hbw
   clear hbb hcap hmul had hKS hSl hSb hrow hno htell hbw
   by_cases hn0 : n = 0
   ·subst hn0
    have hb0 := hide (show bb = [] from List.eq_nil_of_length_eq_zero HBB.out.1)
    go_wp2_with fail
    go_ret2
    refine ⟨Ao, no, co, vs, by rw [HZ.out]; rfl, HROW.out.lower B03.out.size, ?_, HBW.out, by have := HNO.out; omega⟩
    rw [HZ.out, HTL.out, hb0.out, tell_nil, List.append_nil]
   ·have i1 : (0 : Int) < (n : Int) := by omega
    have hld := loadH_run wr w1.heap.size 0 S HKS.out.whole HSL.out
    have HN0 := hide hn0
    clear hn0
    go_wp2_with fail
    refine (next_any wr A n c bb kd S HBB.out HCP.out (by obtain ⟨m, h1, h2⟩ := HMUL.out; omega) HK9.out HSL.out HSB.out).mono ?_
    rintro e w4 (⟨hnx, rfl, b4⟩ | ⟨body, s', A1, n1, c1, hnx, rfl, m4, f4⟩)
    ·have HNX := hide (tell_none hnx)
     have KZ4 := hide (Blk.new w4 104 (bcs zero32))
     have B4 := hide b4
     clear hnx hld b4
     go_wp2_with (first
      | (refine wpList_alloc_agg rfl 104 rfl (bcs zero32) zero32_info ?_; simp only [pU])
      | (refine wpList_store_blk rfl 104 _ _ rfl w4.heap.size 0 104 (bcs zero32) (bcs zero32) (by rfl) (by rfl) KZ4.out (Nat.le_refl _) isH32 (bcs_one _) ?_; intro w5 o9 z9 b9; simp only [Act.put]; have B45 := hide (show Below w4.heap.size w4 w5 from Below.trans ((Below.refl _ w4).alloc (Nat.le_refl _) _) (o9.below (by simp) (fun i hi e => by have h9 : i = w4.heap.size := e; omega))); clear b9 o9 z9))
     go_ret2
     have B05 := Below.then_ B4.out B45.out
     refine ⟨Ao, no, co, vs, by rw [HZ.out]; rfl, (HROW.out.under B05).lower B03.out.size, ?_, Below.then_ HBW.out B05, by have := HNO.out; omega⟩
     rw [HZ.out, HTL.out, HNX.out, List.append_nil]
    ·have HFIT := hide (nextR_fits hnx)
     have HNX := hide (tell_some hnx)
     have HHS := hide (show s'.length = 32 ∧ Byt s' from ⟨HFIT.out.2.2.1, HFIT.out.2.2.2⟩)
     have KZ4 := hide (Blk.new w4 104 (bcs zero32))
     have M4 := hide m4
     have F4 := hide f4
     have N1 := hide (show body.length = n1 from m4.len)
     clear hnx hld m4 f4
     go_wp2_with (first
      | (refine wpList_alloc_agg rfl 104 rfl (bcs zero32) zero32_info ?_; simp only [pU])
      | (refine wpList_store_blk rfl 104 _ _ rfl w4.heap.size 0 104 (bcs zero32) (bcs s') (by rfl) (by rfl) KZ4.out (by rw [bcs_length, bcs_length, HHS.out.1]; decide) (by rw [bcs_length, HHS.out.1]; exact isH32) (bcs_one _) ?_; intro w5 o9 z9 b9; rw [lay_all _ _ (by rw [bcs_length, bcs_length, HHS.out.1]; rfl)] at b9; simp only [Act.put]; have K5 := hide b9; have B45 := hide (show Below w4.heap.size w4 w5 from Below.trans ((Below.refl _ w4).alloc (Nat.le_refl _) _) (o9.below (by simp) (fun i hi e => by have h9 : i = w4.heap.size := e; omega))); have NB := hide (Blk.new w5 23 (BV.cells ⟨A1, n1, c1, body⟩)).whole; have B56 := hide (show Below w5.heap.size w5 (w5.alloc (.cells #[.slice A1 n1 c1] 23)) from below_alloc (Below.refl _ _) _); have B46 := hide (Below.then_ B45.out B56.out); have B06 := hide (Below.then_ M4.out.below B46.out); have R6 := hide (HROW.out.under B06.out); have KV := hide (KeepV.of_new (v := ⟨A1, n1, c1, body⟩) ⟨M4.out.bys.below B46.out, M4.out.cap⟩ F4.out (fun i h => by rcases h with h | h; exact Nat.lt_of_lt_of_le h HROW.out.low; exact (HROW.out.row.lt i h).2) (F := fun i => i < w3.heap.size ∨ (Value.slice Ao no co).ownBlock = some i)); clear b9 o9 z9)
      | (at_builtin; refine wpListRow rfl 42 rfl _ _ 110 rfl 23 1 24 Tryz.underlying110 byts_infoR (by decide) w3.heap.size (.slice Ao no co) no _ (by rfl) R6.out.row R6.out.low w5.heap.size 0 1 1 (BV.cells ⟨A1, n1, c1, body⟩) (by rfl) rfl NB.out (fun u hu => by rw [List.mem_singleton.1 hu]; rfl) (by have := HNO.out; omega) (by decide) ?_; intro A7 c7 w7 q1 q2 q3 q4; have R7 := hide (R6.out.app KV.out q1 q2 q3 q4); have O7 := hide q4; clear q1 q2 q3 q4; simp only [pU]))
     have LOW := hide HROW.out.low
     have K7 := hide (O7.out.blk ((HKS.out.under B06.out)) (fun e => by have := (HROW.out.row.lt _ e).1; have := W12.out; have := B23.out.size; omega))
     have K57 := hide (O7.out.blk (K5.out.under B56.out) (fun e => by have h1 := (HROW.out.row.lt _ e).2; have h2 := M4.out.below.size; omega))
     have Y7 := hide ((HBB.out.below B06.out).keep O7.out (fun h0 ad e hf => by have h1 := (HAD.out h0 ad e).2; have h2 := (HROW.out.row.lt _ hf).1; omega))
     have B07 := hide ((HBW.out.trans (B06.out.mono HBW.out.size)).trans (O7.out.below (by have := HBW.out.size; have := B06.out.size; omega) fun i hi e => by have := (HROW.out.row.lt i e).1; have := B03.out.size; omega))
     obtain ⟨U, hU⟩ : ∃ U, U = slabsN (body.length : Int) := ⟨_, rfl⟩
     have hfit := slabs_fit (m := n / 120) (show body.length + 37 ≤ n by have := HFIT.out.1; have := HBB.out.1; omega) HFIT.out.2.1 (by obtain ⟨m, h1, h2⟩ := HMUL.out; omega)
     rw [← hU] at hfit
     have HU := hide hfit
     have hwU : IntKind.i64.wrap ((U : Int) * 120) = (U : Int) * 120 := by rw [IntKind.wrap_i64]; omega
     have HUC := hide (show (U : Int) * 120 = ((U * 120 : Nat) : Int) by simp)
     obtain ⟨A8, hs8x, hs8y, hBA8, hAA8⟩ := slice_from A n c (U * 120) HU.out.1 HCP.out
     have hs8 : ∀ w : World, (Instr.slice 23 (.slice A n c) (some (.int .i64 ((U : Int) * 120))) none none).run Tryz.prog w = .ok (.slice A8 (n - U * 120) (c - U * 120)) w := fun w => by rw [HUC.out]; exact hs8x w
     have hs8a : ∀ w : World, (Instr.sliceAt 23 (.slice A n c) (some (.int .i64 ((U : Int) * 120))) none none).run Tryz.prog w = .ok (.slice A8 (n - U * 120) (c - U * 120)) w := fun w => by rw [HUC.out]; exact hs8y w
     have Y8 := hide (hBA8 w7 bb Y7.out)
     have HAA := hide hAA8
     have HTN := HNX.out
     rw [← hU] at HTN
     have HNX2 := hide HTN
     have HUE := hide hU.symm
     clear hU hfit hBA8 hAA8 HTN hs8x hs8y
     refine wp_region_held_drew (S := fun w' => w'.rangeAt w4.heap.size 0 (bcs s')) (by kernel_rfl) (range_under K57.out.whole (Below.refl _ w7).drew) (fun hSA0 => ?_)
     obtain ⟨w7d, hwA⟩ : ∃ x, x = w7.drew := ⟨_, rfl⟩
     have Bd := hide (show Below w7.heap.size w7 w7d by rw [hwA]; exact (Below.refl _ w7).drew)
     rw [← hwA] at hSA0 ⊢
     clear hwA
     (refine tq 0 rfl hSA0 ?_ (fun w' hSw => by have z1 := loadH_run w' w4.heap.size 0 s' hSw HHS.out.1; go_simp; try with_reducible rfl))
     refine tq 1 rfl hSA0 ?_
     refine tq 2 rfl hSA0 ?_
     refine tq 3 rfl hSA0 ?_
     refine ry 4 rfl fun K hK => ?_
     go_simp
     go_simp
     go_wp2_with (go_at_call 53; refine (Slabs_any w7d (n1 : Int) (by have := N1.out; have := HFIT.out.2.1; omega)).mono ?_; rintro e wx ⟨rfl, rfl⟩; rw [show (slabsN (n1 : Int) : Int) = (U : Int) by rw [← N1.out, HUE.out]])
     refine hK.out _ _ (hSA0) (fun hSA1 => ?_)
     clear hK K
     refine tq 5 rfl hSA1 ?_
     refine tq 6 rfl hSA1 ?_
     refine ry 7 rfl fun K hK => ?_
     refine step_storeB rfl 104 _ _ rfl w1.heap.size 0 104 (bcs S) (bcs s') (by rfl) (by rfl) (K7.out.under Bd.out) (by rw [bcs_length, bcs_length, HHS.out.1, HSL.out]; decide) (by rw [bcs_length, HHS.out.1]; exact isH32) (bcs_one _) ?_
     intro wz oz zz bz
     rw [lay_all _ _ (by rw [bcs_length, bcs_length, HHS.out.1, HSL.out])] at bz
     have hrz := range_only hSA1 oz (fun h => by have h9 : w4.heap.size = w1.heap.size := h; have := W12.out; have := B23.out.size; have := LOW.out; have := M4.out.below.size; omega)
     have OZ := hide oz
     have BZ := hide bz
     clear oz zz bz
     simp only [Act.put]
     refine hK.out _ _ (hrz) (fun hSA2 => ?_)
     clear hK K
     refine tq 8 rfl hSA2 ?_
     refine wpAnyH_done (by kernel_rfl) ?_ _
     clear hrz hSA0 hSA1 hSA2
     go_wp2_with fail
     have Y9 := ((Y8.out.below Bd.out).keep OZ.out (fun h0 ad e hf => by obtain ⟨ad0, h1, h2⟩ := HAA.out ad e; have h3 := (HAD.out (by omega) ad0 h1).1; have h9 : ad.block = w1.heap.size := hf; omega))
     have HBZ := (B07.out.trans (Bd.out.mono B07.out.size)).trans (OZ.out.below (by have := B07.out.size; have := Bd.out.size; omega) fun i hi e => by have h9 : i = w1.heap.size := e; have := B1.out.size; omega)
     refine ⟨⟨A8, n - U * 120, c - U * 120, bb.drop (U * 120), A7, no + 1, c7, vs ++ [⟨A1, n1, c1, body⟩], 2, s', rfl, rfl, rfl, by decide, by decide, Y9, by have := HCP.out; omega, ?_, fun h0 ad e => ?_, BZ.out, HHS.out.1, HHS.out.2, (R7.out.under Bd.out).step OZ.out (fun i _ h => by have h9 : i = w1.heap.size := h; have := W12.out; have := B23.out.size; omega), by have := HNO.out; have := HU.out; omega, ?_, HBZ⟩, ?_⟩
     ·obtain ⟨m, h1, h2⟩ := HMUL.out
      exact ⟨m - U, by omega, by omega⟩
     ·obtain ⟨ad0, h1, h2⟩ := HAA.out ad e
      have h3 := HAD.out (by omega) ad0 h1
      rw [h2]
      exact h3
     ·rw [HTL.out, HNX2.out, List.map_append, List.append_assoc]
      rfl
     ·have := HU.out
      have := HN0.out
      show n - U * 120 < n
      omega
end
end Go.Proofs.YtjnpkcabkccaoaaGreat
namespace Go.Proofs.YtjnpkcabkccaoaaGreat

theorem topTo_ge (d : Dev) : ∀ k i, i < k → marked (d.slab i) ≤ topTo d k
 | k + 1, i, h => by
  rw [topTo]
  by_cases hk : i = k
  ·subst hk; omega
  ·have := topTo_ge d k i (by omega); omega
theorem topTo_le (d : Dev) (m : Nat) : ∀ k, (∀ i, i < k → marked (d.slab i) ≤ m) → topTo d k ≤ m
 | 0, _ => Nat.zero_le _
 | k + 1, h => by
  rw [topTo]
  have h1 := topTo_le d m k (fun i hi => h i (by omega))
  have h2 := h k (by omega)
  omega
structure Stand (d : Dev) (l : LogD) (rs : List (List Int)) : Prop where
 ready : l.ready = true
 half : l.half ≤ 1
 calm : d.Calm
 lies : Lies d l.half l.mark rs
 place : l.at_ = 1 + ((chunksR rs 1 (sealB l.mark)).length : Int)
 ward : l.ward = sealR rs 1 (sealB l.mark)
 some_ : rs ≠ []
 oth : ∀ i, i < d.room → marked (d.slab ((1 - l.half) * d.room + i)) < l.mark
 le : ∀ i, i < 2 * d.room → marked (d.slab i) ≤ l.mark
theorem halves (h r : Nat) (hh : h ≤ 1) : (h * r = 0 ∧ (1 - h) * r = r) ∨ (h * r = r ∧ (1 - h) * r = 0) := by
 obtain rfl | rfl : h = 0 ∨ h = 1 := by omega
 ·left; simp
 ·right; simp
theorem sealB_head {d : Dev} {h : Nat} (G : Nat) (hm : marked (d.slab (h * d.room)) < G) : (stands d h).1 < G := by
 have hh : (header d h).1 < G := by
  unfold header
  split
  ·show 0 < G; omega
  ·split
   ·show 0 < G; omega
   ·exact hm
 unfold stands
 split
 ·show 0 < G; omega
 ·exact hh
theorem Stand.opens {d : Dev} {l : LogD} {rs : List (List Int)} (h : Stand d l rs) : openL d = (l.half, rs) := by
 have hr : d.room ≠ 0 := by have := h.lies.fit; omega
 have h1 := h.lies.stands
 have hne : rs.length ≠ 0 := fun e => h.some_ (List.eq_nil_of_length_eq_zero e)
 have ho := sealB_head (h := 1 - l.half) l.mark (by have := h.oth 0 (by omega); simpa using this)
 have hh := h.half
 obtain e | e : l.half = 0 ∨ l.half = 1 := by omega
 ·rw [e] at h1 ho ⊢
  rw [openL, h1, if_pos ⟨by show 0 < rs.length; omega, .inr ho⟩]
 ·rw [e] at h1 ho ⊢
  have ho' : (stands d 0).1 < l.mark := ho
  rw [openL, h1, if_neg]
  rintro ⟨_, h9 | h9⟩
  ·exact hne h9
  ·have h8 : l.mark < (stands d 0).1 := h9
   omega
theorem Stand.top {d : Dev} {l : LogD} {rs : List (List Int)} (h : Stand d l rs) : topL d ≤ l.mark := topTo_le d _ _ h.le
theorem Dev.Calm.synced {d : Dev} (h : d.Calm) : d.sync.2 = 0 ∧ d.sync.1.Calm ∧ d.sync.1.kept.length = d.kept.length ∧ ∀ i, d.sync.1.slab i = d.slab i := by
 refine h.sync ?_
 obtain ⟨ha, hst⟩ := h.after
 have e : d.sync = ({ d with kept := over d.kept d.written, written := [] }, 0) := by
  unfold Dev.sync
  rw [hst, ha]; simp
 rw [e]
 exact h.good.synced
theorem room_of {d d' : Dev} (h : d'.kept.length = d.kept.length) : d'.room = d.room := by rw [Dev.room, Dev.room, h]
theorem Lies.same {d d' : Dev} {h G : Nat} {rs : List (List Int)} (hl : Lies d h G rs) (hr : d'.room = d.room) (hs : ∀ i, d'.slab i = d.slab i) : Lies d' h G rs :=
 ⟨by rw [hr, hs]; exact hl.head, fun j c hj => by rw [hr, hs]; exact hl.rows j c hj, fun j h1 h2 => by rw [hr, hs]; exact hl.end_ j h1 (by rwa [hr] at h2), by rw [hr]; exact hl.fit, hl.small, hl.gen⟩
theorem Stand.sync {d : Dev} {l : LogD} {rs : List (List Int)} (h : Stand d l rs) : ∃ d', syncL d l = (d', l, 0) ∧ d' = d.sync.1 ∧ Stand d' l rs ∧ d'.kept.length = d.kept.length := by
 obtain ⟨h0, h1, h2, h3⟩ := h.calm.synced
 have hr := room_of h2
 refine ⟨d.sync.1, ?_, rfl, ⟨h.ready, h.half, h1, h.lies.same hr h3, h.place, h.ward, h.some_, fun i hi => by rw [hr, h3]; exact h.oth i (by rwa [hr] at hi), fun i hi => by rw [h3]; exact h.le i (by rwa [hr] at hi)⟩, h2⟩
 rw [syncL, if_neg (by rw [h.ready]; decide), h0]
 have e : ({ l with ready := decide ((0 : Int) = 0) } : LogD) = l := by
  have h9 := h.ready
  cases l
  simp only at h9
  subst h9
  rfl
 rw [e]
theorem chunks_bound (k : Int) (b a : List Int) (h : b.length ≤ 100000) : (chunks (boundB k b a)).length = slabsN (b.length : Int) := by
 rw [chunks_count, boundB_len, slabsN_nat _ h]
theorem Stand.add {d : Dev} {l : LogD} {rs : List (List Int)} (h : Stand d l rs) (b : List Int) (hb : b.length ≤ 100000) (hfit : l.at_ + (slabsN (b.length : Int) : Int) ≤ (d.room : Int)) :
  ∃ d' l', addL d l b = (d', l', 0) ∧ d' = (writeL d l.half l.at_ (boundB 2 b l.ward) l.mark).1 ∧ Stand d' l' (rs ++ [b]) ∧ d'.kept.length = d.kept.length ∧ l'.half = l.half ∧ l'.mark = l.mark ∧ l'.at_ = l.at_ + (slabsN (b.length : Int) : Int) := by
 obtain ⟨H, hH⟩ : ∃ H, H = l.half * d.room := ⟨_, rfl⟩
 obtain ⟨O, hO⟩ : ∃ O, O = (1 - l.half) * d.room := ⟨_, rfl⟩
 have hhv := halves l.half d.room h.half
 rw [← hH, ← hO] at hhv
 obtain ⟨N, hN⟩ : ∃ N, N = (chunksR rs 1 (sealB l.mark)).length := ⟨_, rfl⟩
 obtain ⟨cs, hcs⟩ : ∃ cs, cs = chunks (boundB 2 b l.ward) := ⟨_, rfl⟩
 have hcl : cs.length = slabsN (b.length : Int) := by rw [hcs]; exact chunks_bound 2 b _ hb
 have hm : l.mark < 18446744073709551616 := by have := h.lies.gen.2; unfold mostGen at this; omega
 have hp : (l.half : Int) * (d.room : Int) + l.at_ = ((H + 1 + N : Nat) : Int) := by
  rw [h.place, hH, ← hN]; push_cast; omega
 have hpl := h.place
 rw [← hN] at hpl
 have hroom : 2 * d.room ≤ d.kept.length := by unfold Dev.room; omega
 obtain ⟨g0, g1, g2, g3, g4⟩ := Dev.Calm.writeC l.mark cs d (H + 1 + N) h.calm (by rw [hcs]; exact chunks_len _) (by omega)
 have hw : writeL d l.half l.at_ (boundB 2 b l.ward) l.mark = writeC d ((H + 1 + N : Nat) : Int) l.mark cs := by rw [writeL, hp, hcs]
 obtain ⟨d', hd'⟩ : ∃ d', d' = (writeC d ((H + 1 + N : Nat) : Int) l.mark cs).1 := ⟨_, rfl⟩
 rw [← hd'] at g1 g2 g3 g4
 have hk : d'.kept.length = d.kept.length := by rw [g2]
 have hr := room_of hk
 have hsn := chunksR_snoc rs 1 (sealB l.mark) b h.some_
 rw [← h.ward, ← hcs] at hsn
 have hmk : ∀ i, i < d.room * 2 → d'.slab i = d.slab i ∨ (H + 1 + N ≤ i ∧ i < H + 1 + N + cs.length ∧ marked (d'.slab i) = l.mark) := fun i _ => by
  by_cases hi : i < H + 1 + N ∨ H + 1 + N + cs.length ≤ i
  ·exact .inl (g3 i hi)
  ·obtain ⟨c, hc⟩ : ∃ c, cs[i - (H + 1 + N)]? = some c := ⟨_, List.getElem?_eq_getElem (by omega)⟩
   have h9 := g4 _ c hc
   rw [show H + 1 + N + (i - (H + 1 + N)) = i by omega] at h9
   refine .inr ⟨by omega, by omega, ?_⟩
   rw [h9, slabOf_mark (chunks_len (boundB 2 b l.ward) c (by rw [← hcs]; exact List.mem_of_getElem? hc)) _ hm]
 refine ⟨d', { l with at_ := l.at_ + (slabsN (b.length : Int) : Int), ward := sha (l.ward ++ recB 2 b) }, ?_, by rw [hw, hd'], ⟨h.ready, h.half, g1, ⟨?_, ?_, ?_, ?_, ?_, h.lies.gen⟩, ?_, ?_, by simp, ?_, ?_⟩, hk, rfl, rfl, rfl⟩
 ·rw [addL, if_neg (by rw [h.ready]; decide), if_neg, hw, if_neg (by rw [g0]; simp), hd']
  rintro (h9 | h9)
  ·omega
  ·rw [leftL, h.ready] at h9
   simp only [if_true] at h9
   omega
 ·show d'.slab (l.half * d'.room) = _
  rw [hr, ← hH, g3 H (by omega)]
  have := h.lies.head
  rwa [← hH] at this
 ·intro j c hj
  have hj' : (chunksR (rs ++ [b]) 1 (sealB l.mark))[j]? = some c := hj
  rw [hsn.1] at hj'
  show d'.slab (l.half * d'.room + 1 + j) = _
  rw [hr, ← hH]
  by_cases hjN : j < N
  ·rw [List.getElem?_append_left (by omega)] at hj'
   rw [g3 _ (by omega)]
   have := h.lies.rows j c hj'
   rwa [← hH] at this
  ·rw [List.getElem?_append_right (by omega), ← hN] at hj'
   have := g4 _ c hj'
   rwa [show H + 1 + N + (j - N) = H + 1 + j by omega] at this
 ·intro j h1 h2
  have h1' : (chunksR (rs ++ [b]) 1 (sealB l.mark)).length ≤ j := h1
  rw [hsn.1, List.length_append, ← hN] at h1'
  show marked (d'.slab (l.half * d'.room + 1 + j)) ≠ _
  rw [hr] at h2 ⊢
  rw [← hH, g3 _ (by omega)]
  have := h.lies.end_ j (by omega) h2
  rwa [← hH] at this
 ·show 1 + (chunksR (rs ++ [b]) 1 (sealB l.mark)).length ≤ d'.room
  rw [hsn.1, List.length_append, ← hN, hr]
  omega
 ·intro x hx
  rcases List.mem_append.1 hx with hx | hx
  ·exact h.lies.small x hx
  ·obtain rfl : x = b := by simpa using hx
   exact hb
 ·show l.at_ + _ = 1 + ((chunksR (rs ++ [b]) 1 (sealB l.mark)).length : Int)
  rw [hsn.1, List.length_append, ← hN]
  push_cast
  omega
 ·exact hsn.2.symm
 ·intro i hi
  show marked (d'.slab ((1 - l.half) * d'.room + i)) < l.mark
  rw [hr] at hi ⊢
  rw [← hO, g3 _ (by omega)]
  have := h.oth i hi
  rwa [← hO] at this
 ·intro i hi
  rw [hr] at hi
  rcases hmk i (by omega) with h9 | ⟨_, _, h9⟩
  ·rw [h9]; exact h.le i hi
  ·show marked (d'.slab i) ≤ l.mark
   omega
end Go.Proofs.YtjnpkcabkccaoaaGreat
