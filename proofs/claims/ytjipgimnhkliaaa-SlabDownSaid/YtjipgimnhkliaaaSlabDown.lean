/-
  bynamelaw13.SlabDown answers true: with so many writes left just so many are done; then nothing changes. No condition.
-/
import Derived.Test.YtjipgimnhkliaaaSlabG
import Derived.Test.YtjipgimnhkliaaaSlabP
namespace Go.Proofs.Ytjipgimnhkliaaa
open Go.RowKit
attribute [local go_sem ↓] mkSlab_fold eqlSlab_fold neqSlab_fold loadSlab_fold
attribute [local go_sem] mkSlab_run mkSlab_run1 guardSlab

set_option maxHeartbeats 1000000 in
set_option maxRecDepth 100000 in
theorem downlaw_skip (w : World) (n a : Int) (h : n < 0 ∨ 150 < n) : Calls Try.prog 7 #[.int .i64 n, .int .i64 a] w fun e w' => e = .returned (.bool true) ∧ Below w.heap.size w w' := by
  rcases h with h | h
  all_goals
    go_enter Try.func7, Try.ntmps7
    go_wp2_with (go_at_call 14; refine (alive_any _).mono ?_; rintro e w1 ⟨rfl, hb1⟩)
    go_ret
    exact ⟨rfl, hb1⟩
set_option maxHeartbeats 2000000 in
set_option maxRecDepth 100000 in
theorem downlaw_main (w : World) (n a : Int) (h0 : 0 ≤ n) (h1 : n ≤ 150) : Calls Try.prog 7 #[.int .i64 n, .int .i64 a] w fun e w' => e = .returned (.bool true) ∧ Below w.heap.size w w' := by
  obtain ⟨nn, rfl⟩ : ∃ nn : Nat, n = nn := ⟨n.toNat, by omega⟩
  go_enter Try.func7, Try.ntmps7
  go_wp2_with (go_at_call 14; refine (alive_any _).mono ?_; rintro e w1 ⟨rfl, hb1⟩)
  refine (new_any _ _).mono ?_
  rintro e w2 hn
  obtain ⟨b, F, rfl, s2⟩ := St.fresh hn
  clear hn
  go_wp2_with fail
  refine (budget_any _ b F _ _ s2.rep (by omega)).mono ?_
  rintro e w3 ⟨rfl, r3, o3⟩
  have s3 : St w1 w3 b F (downAt nn 0) := s2.keepRep r3 o3
  clear r3
  go_wp2
  go_loopw [6, 7] (fun dn i wr => ∃ k : Nat, (k : Int) ≤ nn + 1 ∧ i = .int .i64 k ∧ dn = .int .i64 ((min k nn : Nat) : Int) ∧ ∃ F, St w1 wr b F (downAt nn k)) (fun _ i _ => nn + 1 - (intOf i).toNat)
  case atStart => exact ⟨0, by omega, rfl, by simp, F, s3⟩
  case round =>
    obtain ⟨k, hk, rfl, rfl, G, hs⟩ := hrel
    by_cases hlt : (k : Int) ≤ nn
    · have hw := down_write nn h0 k hlt
      have hi := downAt_inv nn h0 k (by omega)
      have hfew := hi.few
      have HI := hide hi
      have HW := hide hw
      clear hi hw
      by_cases hz : (k : Int) = nn
      · have HZ := hide hz
        clear hz
        go_wp2_with (go_at_call 17; refine (full_any _ _).mono ?_; rintro e w4 ⟨rfl, hb4⟩)
        refine (write_any _ b G _ _ (fullS k) (hs.under hb4).rep (fullS_length _) (by omega)).mono ?_
        rintro e w5 hp
        obtain ⟨rfl, F5, s5, o5, g5⟩ := (hs.under hb4).next hp
        clear hp
        have s6 : St w1 w5 b F5 (downAt nn (k + 1)) := s5
        clear s5
        rw [HW.out, if_pos HZ.out]
        go_wp2
        go_roundw
        case rel =>
          have hz := HZ.out
          have hmm : min (k + 1) nn = min k nn := by omega
          refine ⟨k + 1, by omega, by go_num, ?_, F5, s6⟩
          rw [hmm]
        case measure => simp [intOf]; omega
      · go_wp2_with (go_at_call 17; refine (full_any _ _).mono ?_; rintro e w4 ⟨rfl, hb4⟩)
        refine (write_any _ b G _ _ (fullS k) (hs.under hb4).rep (fullS_length _) (by omega)).mono ?_
        rintro e w5 hp
        obtain ⟨rfl, F5, s5, o5, g5⟩ := (hs.under hb4).next hp
        clear hp
        have s6 : St w1 w5 b F5 (downAt nn (k + 1)) := s5
        clear s5
        rw [HW.out, if_neg hz]
        go_wp2
        go_roundw
        case rel =>
          have hmm : min (k + 1) nn = min k nn + 1 := by omega
          refine ⟨k + 1, by omega, by go_num, ?_, F5, s6⟩
          rw [hmm]
          go_num
        case measure => simp [intOf]; omega
    · have hk' : k = nn + 1 := by omega
      subst hk'
      have hi := downAt_inv nn h0 (nn + 1) (by omega)
      have hdn := hi.dead (by omega)
      have hfew := hi.few
      generalize hD : downAt nn (nn + 1) = D at *
      clear hD
      have HI := hide hi
      have HDN := hide hdn
      clear hi hdn
      have hmin : min (nn + 1) nn = nn := by omega
      rw [hmin]
      go_wp2_with fail
      obtain ⟨x, xe, hx⟩ : ∃ x xe, D.read a = (x, xe) := ⟨_, _, rfl⟩
      have hxl : x.length = 128 := by have := read_128 hs.rep.good a; rw [hx] at this; exact this
      have HX := hide hx
      have Lx := hide hxl
      have Ix := hide (isz33' x hxl)
      have hgone : ((D.restart []).read a).1 = zeroS := read_restart_nil HI.out.ok a (fun t ht => by rw [HI.out.kept] at ht; exact (List.mem_replicate.1 ht).2)
      obtain ⟨ge, hge⟩ : ∃ ge, (D.restart []).read a = (zeroS, ge) := ⟨((D.restart []).read a).2, by rw [← hgone]⟩
      have HGE := hide hge
      have LzeroS := hide zeroS_length
      have IzeroS := hide (isz33' zeroS zeroS_length)
      clear hx hxl hgone hge hmin
      refine (read_any _ b G D a hs.rep).mono ?_
      rintro e w4 ⟨rfl, hw4⟩
      rw [HX.out]
      go_wp2_with (first
        | (refine wpList_alloc_agg rfl 33 rfl (enc zeroS) zero33 ?_; simp only [Act.put, List.setIfInBounds_toArray, List.set_cons_zero, List.set_cons_succ])
        | (refine wpList_store_blk rfl 33 _ _ rfl w4.heap.size 0 33 (enc zeroS) (enc x) (by rfl) (by rfl) (Blk.new w4 _ _) (Nat.le_of_eq (by rw [enc_length, enc_length, Lx.out, zeroS_length])) Ix.out (enc_one _) ?_; intro w5 ow5 zw5 bw5; simp only [Act.put]))
      rw [lay_all _ _ (by rw [enc_length, enc_length, Lx.out, zeroS_length])] at bw5
      have sw5 := ((hs.under hw4).alloc (.cells (enc zeroS).toArray 33)).other ow5 (fun i hi e => by have := (hs.under hw4).lt i hi; omega) (fun i e => by have := (hs.under hw4).below.size; omega)
      have Bw5 := hide bw5
      clear bw5
      refine (down_any _ b G D sw5.rep).mono ?_
      rintro e w' ⟨rfl, rfl⟩
      rw [HDN.out]
      go_wp2_with fail
      refine (sync_any _ b G D sw5.rep (by omega)).mono ?_
      rintro e w6 hp
      rw [sync_down HDN.out] at hp
      obtain ⟨rfl, F6, s6, o6, g6⟩ := sw5.next hp
      clear hp
      have hF5 : ∀ i, G i → i < w4.heap.size := fun i hi => (hs.under hw4).lt i hi
      have B6 : Hid (Blk w6 w4.heap.size 33 (enc x)) := o6.blk Bw5.out (fun hf => by have := hF5 _ hf; omega)
      have hz5 : w5.heap.size = w4.heap.size + 1 := by rw [zw5]; simp
      have hF6 : ∀ i, F6 i → i ≠ w4.heap.size := fun i hi e => by
        rcases g6 i hi with h | h
        · have := hF5 i h; omega
        · omega
      go_wp2_with fail
      refine (full_any _ _).mono ?_
      rintro e w7 ⟨rfl, hb7⟩
      go_wp2_with fail
      refine (write_any _ b F6 D _ (fullS 99) (s6.under hb7).rep (fullS_length _) (by omega)).mono ?_
      rintro e w8 hp
      rw [write_down HDN.out _ _ (by rw [has7 HI.out.kept]; rfl)] at hp
      obtain ⟨rfl, F8, s8, o8, g8⟩ := (s6.under hb7).next hp
      clear hp
      have hz6 : w4.heap.size < w6.heap.size := B6.out.lt
      have B8 : Hid (Blk w8 w4.heap.size 33 (enc x)) := o8.blk ((hb7.block _ hz6).trans B6.out) (fun hf => hF6 _ hf rfl)
      have hF8 : ∀ i, F8 i → i ≠ w4.heap.size := fun i hi e => by
        rcases g8 i hi with h | h
        · exact hF6 i h e
        · have := hb7.size; omega
      go_wp2_with fail
      refine (read_any _ b F8 D a s8.rep).mono ?_
      rintro e w9 ⟨rfl, hw9⟩
      rw [HX.out]
      go_wp2_with (first
        | (refine wpList_alloc_agg rfl 33 rfl (enc zeroS) zero33 ?_; simp only [Act.put, List.setIfInBounds_toArray, List.set_cons_zero, List.set_cons_succ])
        | (refine wpList_store_blk rfl 33 _ _ rfl w9.heap.size 0 33 (enc zeroS) (enc x) (by rfl) (by rfl) (Blk.new w9 _ _) (Nat.le_of_eq (by rw [enc_length, enc_length, Lx.out, zeroS_length])) Ix.out (enc_one _) ?_; intro w10 ow10 zw10 bw10; simp only [Act.put]))
      rw [lay_all _ _ (by rw [enc_length, enc_length, Lx.out, zeroS_length])] at bw10
      have sw10 := ((s8.under hw9).alloc (.cells (enc zeroS).toArray 33)).other ow10 (fun i hi e => by have := (s8.under hw9).lt i hi; omega) (fun i e => by have := (s8.under hw9).below.size; omega)
      have Bw10 := hide bw10
      clear bw10
      have hF9 : ∀ i, F8 i → i < w9.heap.size := fun i hi => (s8.under hw9).lt i hi
      have hz8 : w4.heap.size < w8.heap.size := B8.out.lt
      have hz9 : w4.heap.size < w9.heap.size := Nat.lt_of_lt_of_le hz8 hw9.size
      have B10 : Hid (Blk w10 w4.heap.size 33 (enc x)) := ow10.blk (((show Blk w9 w4.heap.size 33 (enc x) from (hw9.block _ hz8).trans B8.out)).alloc _) (by omega)
      refine (restart_any _ b F8 D none 0 0 [] sw10.rep (by omega) (Bys.nil _ _) (fun h => absurd h (by omega)) (by decide)).mono ?_
      rintro e w12 hp
      obtain ⟨rfl, F12, s12, o12, g12⟩ := sw10.next hp
      clear hp
      have hz10 : w10.heap.size = w9.heap.size + 1 := by rw [zw10]; simp
      have B12 : Hid (Blk w12 w4.heap.size 33 (enc x)) := o12.blk B10.out (fun hf => hF8 _ hf rfl)
      have C12 : Hid (Blk w12 w9.heap.size 33 (enc x)) := o12.blk Bw10.out (fun hf => by have := hF9 _ hf; omega)
      have hfr : (D.restart []).written.length ≤ 1000000 := by simp [Dev.restart]
      have R0 : (D.restart []).sync.2 = 0 := rfl
      have R1 : (D.restart []).down = false := rfl
      have w8fact : ∀ wA wB : World, Below w12.heap.size w12 wA → Only (fun i => i = wA.heap.size) (wA.alloc (.cells (enc zeroS).toArray 33)) wB → wB.rangeAt w4.heap.size 0 (enc x) := by
        intro wA wB hA hB
        have h1 : Blk wA w4.heap.size 33 (enc x) := (hA.block _ B12.out.lt).trans B12.out
        exact (hB.blk (h1.alloc _) (by have := h1.lt; omega)).whole
      have w10fact : ∀ wA wB : World, Below w12.heap.size w12 wA → Only (fun i => i = wA.heap.size) (wA.alloc (.cells (enc zeroS).toArray 33)) wB → wB.rangeAt w9.heap.size 0 (enc x) := by
        intro wA wB hA hB
        have h1 : Blk wA w9.heap.size 33 (enc x) := (hA.block _ C12.out.lt).trans C12.out
        exact (hB.blk (h1.alloc _) (by have := h1.lt; omega)).whole
      have s13 : ∀ wA wB : World, Below w12.heap.size w12 wA → Only (fun i => i = wA.heap.size) (wA.alloc (.cells (enc zeroS).toArray 33)) wB → St w1 wB b F12 (D.restart []) := by
        intro wA wB hA hB
        exact ((s12.under hA).alloc _).other hB (fun i hi e => by have := (s12.under hA).lt i hi; omega) (fun i e => by have := (s12.under hA).below.size; omega)
      have H8 := hide w8fact
      have H10 := hide w10fact
      have H13 := hide s13
      clear w8fact w10fact s13
      go_wp2_with fail
      refine (read_any _ b F12 (D.restart []) a s12.rep).mono ?_
      rintro e w13 ⟨rfl, hw13⟩
      rw [HGE.out]
      go_wp2_with (first
        | (refine wpList_alloc_agg rfl 33 rfl (enc zeroS) zero33 ?_; simp only [Act.put, List.setIfInBounds_toArray, List.set_cons_zero, List.set_cons_succ])
        | (refine wpList_store_blk rfl 33 _ _ rfl w13.heap.size 0 33 (enc zeroS) (enc zeroS) (by rfl) (by rfl) (Blk.new w13 _ _) (Nat.le_of_eq (Nat.zero_add _)) IzeroS.out (enc_one _) ?_; intro w14 ow14 zw14 bw14; simp only [Act.put]; have l8 := loadSlab_run _ _ 0 x (H8.out _ _ hw13 ow14) Lx.out; have l10 := loadSlab_run _ _ 0 x (H10.out _ _ hw13 ow14) Lx.out; have l14 := loadSlab_run _ _ 0 zeroS (lay_whole bw14 rfl) zeroS_length; have q1 := eqlSlab_run x x Lx.out Lx.out; have q2 := eqlSlab_run zeroS zeroS zeroS_length zeroS_length)
        | (go_at_call 22; refine (down_any _ b F12 _ (H13.out _ _ hw13 ow14).rep).mono ?_; rintro e w' ⟨rfl, rfl⟩)
        | (go_at_call 18; refine (sync_any _ b F12 _ (H13.out _ _ hw13 ow14).rep hfr).mono ?_; rintro e w15 hp; obtain ⟨rfl, F15, s15, o15, g15⟩ := (H13.out _ _ hw13 ow14).next hp; clear hp))
      go_ret
      exact ⟨by simp, (hb1.trans (s15.below.mono hb1.size))⟩
theorem downlaw_any (w : World) (n a : Int) : Calls Try.prog 7 #[.int .i64 n, .int .i64 a] w fun e w' => e = .returned (.bool true) ∧ Below w.heap.size w w' := by
  by_cases h : n < 0 ∨ 150 < n
  · exact downlaw_skip w n a h
  · exact downlaw_main w n a (by omega) (by omega)
end Go.Proofs.Ytjipgimnhkliaaa
