/-
  bynamelaw13.SlabWhole answers true: the walk. No condition.
-/
import Derived.Test.YtjipgimnhkliaaaSlabWhole
namespace Go.Proofs.Ytjipgimnhkliaaa
open Go.RowKit
attribute [local go_sem ↓] mkSlab_fold eqlSlab_fold neqSlab_fold loadSlab_fold
attribute [local go_sem] mkSlab_run mkSlab_run1 guardSlab

set_option maxHeartbeats 1000000 in
set_option maxRecDepth 100000 in
theorem whole_skip (w : World) (A : Option Addr) (n c : Nat) (b : Bool) (hn : 60 < n) : Calls Try.prog 4 #[.slice A n c, .bool b] w fun e w' => e = .returned (.bool true) ∧ Below w.heap.size w w' := by
  have hn' : (60 : Int) < (n : Int) := by omega
  go_enter Try.func4, Try.ntmps4
  go_wp2_with (go_at_call 14; refine (alive_any _).mono ?_; rintro e w1 ⟨rfl, hb1⟩)
  go_ret
  exact ⟨rfl, hb1⟩
theorem byte_info : (Try.prog.info? 5).map (fun i => (i.zero, i.size, i.bytes)) = some (some (.int .u8 0), 1, 1) := by kernel_rfl
set_option maxHeartbeats 4000000 in
set_option maxRecDepth 100000 in
theorem whole_true (w : World) (A : Option Addr) (n c : Nat) (xs : List ActV) (hA : ActsIn w A n xs) (hn : n ≤ 60) : Calls Try.prog 4 #[.slice A n c, .bool true] w fun e w' => e = .returned (.bool true) ∧ Below w.heap.size w w' := by
  have hn' : (n : Int) ≤ 60 := by omega
  have HA := hide hA
  clear hA
  go_enter Try.func4, Try.ntmps4
  go_wp2_with (go_at_call 14; refine (alive_any _).mono ?_; rintro e w1 ⟨rfl, hb1⟩)
  refine (new_any _ _).mono ?_
  rintro e w2 hnn
  obtain ⟨a, Fa, rfl, sa⟩ := St.fresh hnn
  clear hnn
  go_wp2_with fail
  refine (new_any _ _).mono ?_
  rintro e w3 hnn
  obtain ⟨b, Fb, rfl, sb0⟩ := St.fresh hnn
  clear hnn
  have sa3 : St w1 w3 a Fa (putAll 9 []) := sa.under sb0.below
  have sb3 : St w1 w3 b Fb (putAll 9 []) := ⟨sb0.rep, sa.below.trans (sb0.below.mono sa.below.size), fun i hi => by have := sb0.ge i hi; have := sa.below.size; omega⟩
  have dj3 : ∀ i, Fb i → ¬ Fa i := fun i hi hf => by have := sb0.ge i hi; have := sa.lt i hf; omega
  clear sa sb0
  go_wp2
  have hB0 : Below w.heap.size w w3 := hb1.trans (sa3.below.mono hb1.size)
  go_loopw [7, 27] (fun kv i wr => ∃ (j : Nat) (Fa Fb : Nat → Prop), j ≤ n ∧ i = .int .i64 j ∧ St w1 wr a Fa (putAll 9 (xs.take j)) ∧ St w1 wr b Fb (putAll 9 (xs.take j)) ∧ (∀ i, Fb i → ¬ Fa i) ∧
    wr.ownsRow w1.heap.size 5 1 kv j (List.replicate j (.int .u8 200)) ∧ (∀ g, kv.ownBlock = some g → ¬ Fa g ∧ ¬ Fb g) ∧ Below w.heap.size w wr) (fun _ i _ => n - (intOf i).toNat)
  case atStart =>
    refine ⟨0, Fa, Fb, by omega, rfl, sa3.alloc _, sb3.alloc _, dj3, World.ownsRow_made w3 #[] 0 sa3.below.size (by decide) rfl, fun g hg => ?_, hB0.alloc hB0.size _⟩
    have : w3.heap.size = g := by simpa [Value.ownBlock] using hg
    subst this
    exact ⟨fun h => by have := sa3.lt _ h; omega, fun h => by have := sb3.lt _ h; omega⟩
  case round =>
    obtain ⟨j, Ga, Gb, hj, rfl, sa, sb, dj, hown, hfar, hB⟩ := hrel
    by_cases hlt : j < n
    · obtain ⟨pb, po, hpA, hrange⟩ := HA.out.2.2 (by omega)
      obtain ⟨ac, hac⟩ : ∃ ac, xs[j]? = some ac := ⟨_, List.getElem?_eq_getElem (by rw [HA.out.1]; exact hlt)⟩
      have hfine := HA.out.2.1 ac (List.mem_of_getElem? hac)
      have hr := range_below (hrange j ac hac) hB
      subst hpA
      have j0 : (0 : Int) ≤ (j : Int) := by omega
      have j1 : (j : Int) < (n : Int) := by omega
      have v0 := hfine.v.1
      have v1 := hfine.v.2
      have hfew : (putAll 9 (xs.take j)).written.length ≤ 60 := by have := (putAll_inv 9 (xs.take j)).few; simp at this; omega
      have hnext := putAll_take 9 xs j ac hac
      generalize hD : putAll 9 (xs.take j) = D at *
      have HR := hide hr
      have HN := hide hnext
      have HO := hide hown
      have I29 := hide act_size
      have u29 := hide Try.underlying29
      have I29' : Hid ((Try.prog.info? 29).map (·.size) = some ac.cells.length) := act_size
      clear hr hnext hD hrange hac hown hfine
      go_wp2_with (first
        | (refine wpList_load_mid rfl 29 _ rfl pb (po + j * 4) (by rfl) ac.cells _ HR.out u29.out rfl I29'.out ?_; simp only [Act.put, List.setIfInBounds_toArray, List.set_cons_zero, List.set_cons_succ])
        | (refine wpList_alloc_agg rfl 29 rfl [.int .i64 0, .int .i64 0, .int .u8 0, .slice none 0 0] act_zero ?_; simp only [Act.put, List.setIfInBounds_toArray, List.set_cons_zero, List.set_cons_succ])
        | (refine wpList_store_blk rfl 29 _ _ rfl wr.heap.size 0 29 [.int .i64 0, .int .i64 0, .int .u8 0, .slice none 0 0] ac.cells (by rfl) (by rfl) (Blk.new wr _ _) (Nat.le_refl _) I29'.out (act_one ac) ?_; intro w4 o4 z4 b4; simp only [Act.put]))
      rw [lay_all [.int .i64 0, .int .i64 0, .int .u8 0, .slice none 0 0] ac.cells rfl] at b4
      have oX : Only (fun i => i = wr.heap.size) wr w4 := ((Only.refl _ wr).alloc _).trans o4 (fun _ _ h => h)
      have sa4' : St w1 w4 a Ga D := sa.other oX (fun i hi e => by have := sa.lt i hi; omega) (fun i e => by have := sa.below.size; omega)
      have sa4 := sa4'.drew
      have sb4 : St w1 w4 b Gb D := sb.other oX (fun i hi e => by have := sb.lt i hi; omega) (fun i e => by have := sb.below.size; omega)
      have hown4 : Hid (w4.ownsRow w1.heap.size 5 1 u7 j (List.replicate j (.int .u8 200))) := oX.own HO.out (fun g hg e => by have := (HO.out.lt g hg).2; omega)
      have hB4 : Below w.heap.size w w4 := hB.trans (oX.below hB.size (fun i hi e => by have := hB.size; omega))
      have k1 : w4.cell? ⟨wr.heap.size, 1, none⟩ = some (.int .i64 ac.at_) := by rw [b4.cell]; rfl
      have k2 : w4.cell? ⟨wr.heap.size, 2, none⟩ = some (.int .u8 ac.v) := by rw [b4.cell]; rfl
      have nGa : ¬ Ga wr.heap.size := fun h => by have := sa.lt _ h; omega
      have nGb : ¬ Gb wr.heap.size := fun h => by have := sb.lt _ h; omega
      have B4 := hide b4
      clear b4
      go_region_held3 (fun w' => w'.cell? ⟨wr.heap.size, 1, none⟩ = some (.int .i64 ac.at_) ∧ w'.cell? ⟨wr.heap.size, 2, none⟩ = some (.int .u8 ac.v)) (exact ⟨k1, k2⟩)
        (first
          | (go_at_call 17; refine (full_any _ _).mono ?_; rintro e w5 ⟨rfl, hb5⟩; go_loud (have sa5 := sa4.under hb5; have B5 : Hid (Blk w5 wr.heap.size 29 ac.cells) := (hb5.block _ B4.out.lt).trans B4.out; have k1 : w5.cell? ⟨wr.heap.size, 1, none⟩ = some (.int .i64 ac.at_) := (B5.out.cell 1).trans rfl; have k2 : w5.cell? ⟨wr.heap.size, 2, none⟩ = some (.int .u8 ac.v) := (B5.out.cell 2).trans rfl))
          | (go_at_call 16; refine (write_any _ a Ga D _ (fullS ac.v) sa5.rep (fullS_length _) (by omega)).mono ?_; rintro e w6 hp; obtain ⟨rfl, Ha, sa6, oa6, ga6⟩ := sa5.next hp; clear hp; have B6 : Hid (Blk w6 wr.heap.size 29 ac.cells) := oa6.blk B5.out nGa; have k1 : w6.cell? ⟨wr.heap.size, 1, none⟩ = some (.int .i64 ac.at_) := (B6.out.cell 1).trans rfl; have k2 : w6.cell? ⟨wr.heap.size, 2, none⟩ = some (.int .u8 ac.v) := (B6.out.cell 2).trans rfl))
      obtain ⟨sb6', dj6⟩ := sb4.drew.under hb5 |>.beside dj (fun i hi => sa.ge i hi) oa6 ga6
      have hown6 : Hid (w6.ownsRow w1.heap.size 5 1 u7 j (List.replicate j (.int .u8 200))) := oa6.own (own_below hown4.out hb5) (fun g hg => (hfar g hg).1)
      have hB6 : Below w.heap.size w w6 := (hB4.drew.trans (hb5.mono hB4.size)).trans (oa6.below (Nat.le_trans hB4.size hb5.size) (fun i hi hf => by have := sa.ge i hf; have := hb1.size; omega))
      have hfar6 : ∀ g, u7.ownBlock = some g → ¬ Ha g := fun g hg hf => by
        rcases ga6 g hf with h | h
        · exact (hfar g hg).1 h
        · have := (hown4.out.lt g hg).2; have := hb5.size; simp at this; omega
      have sb6 := sb6'.drew
      go_wp2
      go_region_held3 (fun w' => w'.cell? ⟨wr.heap.size, 1, none⟩ = some (.int .i64 ac.at_) ∧ w'.cell? ⟨wr.heap.size, 2, none⟩ = some (.int .u8 ac.v)) (exact ⟨k1, k2⟩)
        (first
          | (go_at_call 17; refine (full_any _ _).mono ?_; rintro e w7 ⟨rfl, hb7⟩; go_loud (have sb7 := sb6.under hb7; have B7 : Hid (Blk w7 wr.heap.size 29 ac.cells) := (hb7.block _ B6.out.lt).trans B6.out; have k1 : w7.cell? ⟨wr.heap.size, 1, none⟩ = some (.int .i64 ac.at_) := (B7.out.cell 1).trans rfl; have k2 : w7.cell? ⟨wr.heap.size, 2, none⟩ = some (.int .u8 ac.v) := (B7.out.cell 2).trans rfl))
          | (go_at_call 16; refine (write_any _ b Gb D _ (fullS ac.v) sb7.rep (fullS_length _) (by omega)).mono ?_; rintro e w8 hp; obtain ⟨rfl, Hb, sb8, ob8, gb8⟩ := sb7.next hp; clear hp; have B8 : Hid (Blk w8 wr.heap.size 29 ac.cells) := ob8.blk B7.out nGb; have k1 : w8.cell? ⟨wr.heap.size, 1, none⟩ = some (.int .i64 ac.at_) := (B8.out.cell 1).trans rfl; have k2 : w8.cell? ⟨wr.heap.size, 2, none⟩ = some (.int .u8 ac.v) := (B8.out.cell 2).trans rfl))
      obtain ⟨sa8', dj8'⟩ := sa6.drew.under hb7 |>.beside (fun i hi hf => dj6 i hf hi) (fun i hi => sb.ge i hi) ob8 gb8
      have hown8 : w8.ownsRow w1.heap.size 5 1 u7 j (List.replicate j (.int .u8 200)) := ob8.own (own_below hown6.out hb7) (fun g hg => (hfar g hg).2)
      have hB8 : Below w.heap.size w w8 := (hB6.drew.trans (hb7.mono hB6.size)).trans (ob8.below (Nat.le_trans hB6.size hb7.size) (fun i hi hf => by have := sb.ge i hf; have := hb1.size; omega))
      have hfar8 : ∀ g, u7.ownBlock = some g → ¬ Hb g := fun g hg hf => by
        rcases gb8 g hf with h | h
        · exact (hfar g hg).2 h
        · have := (hown6.out.lt g hg).2; have := hb7.size; simp at this; omega
      have HO8 := hide hown8
      clear hown8 k1 k2
      obtain ⟨i5, hi5, hz5, hs5, hb5'⟩ := info_parts byte_info
      go_wp2_with (at_builtin; refine wpList_append_lies _ rfl _ _ _ rfl w1.heap.size 5 i5 _ 1 1 Try.underlying24 hi5 hz5 hs5 hb5' rfl (by omega) u7 j (List.replicate j (.int .u8 200)) rfl (HO8.out.alloc _) ⟨w8.heap.size, 0, none⟩ 1 1 [.int .u8 200] rfl rfl (World.news_of_block (heap_alloc_new w8 _)) (by simp [Value.oneCell']) (by omega) (by simp only [maxLen]; omega) (by omega) (by have := sb8.below.size; simp; omega) (w8.heap.size + 1) (by simp) ?_; intro g cap w9 own9 hgrow9 hat9 hlt9)
      have o9 : Only (fun i => u7.ownBlock = some i) w8 w9 := ((Only.refl _ w8).alloc _).grown hgrow9 (fun _ e => .inr e)
      have ge7 : ∀ i, u7.ownBlock = some i → w1.heap.size ≤ i := fun i hi => (HO8.out.lt i hi).1
      have sa9 : St w1 w9 a Ha (putAll 9 (xs.take (j + 1))) := by rw [HN.out]; exact sa8'.other o9 (fun i hi e => hfar6 i e hi) ge7
      have sb9 : St w1 w9 b Hb (putAll 9 (xs.take (j + 1))) := by rw [HN.out]; exact sb8.other o9 (fun i hi e => hfar8 i e hi) ge7
      have hB9 : Below w.heap.size w w9 := hB8.trans (o9.below hB8.size (fun i hi e => by have := ge7 i e; have := hb1.size; omega))
      have far9 : ∀ g', (Value.slice (some ⟨g, 0, none⟩) (j + 1) cap).ownBlock = some g' → ¬ Ha g' ∧ ¬ Hb g' := fun g' hg' => by
        have : g = g' := by simpa [Value.ownBlock] using hg'
        subst this
        rcases hat9 with h | h
        · exact ⟨hfar6 g h, hfar8 g h⟩
        · exact ⟨fun hf => by have := sa8'.lt g hf; omega, fun hf => by have := sb8.lt g hf; omega⟩
      have own9' : w9.ownsRow w1.heap.size 5 1 (.slice (some ⟨g, 0, none⟩) (j + 1) cap) (j + 1) (List.replicate (j + 1) (.int .u8 200)) := by
        rw [List.replicate_succ']; exact own9
      go_roundw
      case rel => exact ⟨j + 1, Ha, Hb, by omega, by go_num, sa9, sb9, fun i hi hf => dj8' i hf hi, own9', far9, hB9⟩
      case measure => simp [intOf]; omega
    · have hj' : j = n := by omega
      subst hj'
      have hlen : xs.length = j := HA.out.1
      have hx : xs.take j = xs := by rw [← hlen]; exact List.take_length
      rw [hx] at sa sb
      have hInv := putAll_inv 9 xs
      have hst : (putAll 9 xs).stops = false := by simp [Dev.stops, hInv.live]
      have hfew : (putAll 9 xs).written.length ≤ 60 := by have := hInv.few; omega
      generalize hD : putAll 9 xs = D at *
      clear hD
      have HI := hide hInv
      have HST := hide hst
      obtain ⟨A7, c7, hv7, hB7⟩ := bys_of_own (bs := List.replicate j 200) (by simpa using hown) (fun v hv => by rw [(List.mem_replicate.1 hv).2]; decide)
      subst hv7
      have HO := hide hown
      have hs2 : D.sync.2 = 0 := by simp [Dev.sync, hst]
      have HS2 := hide hs2
      have hxl : xs.length ≤ j := by omega
      clear hInv hst hown hs2 hx hlen
      go_wp2_with fail
      refine (sync_any _ b Gb D sb.rep (by omega)).mono ?_
      rintro e w4 hp
      obtain ⟨rfl, Hb, sb4, ob4, gb4⟩ := sb.next hp
      clear hp
      rw [HS2.out]
      obtain ⟨sa4, dj4⟩ := sa.beside (fun i hi hf => dj i hf hi) (fun i hi => sb.ge i hi) ob4 gb4
      have hown4 := ob4.own HO.out (fun g hg => (hfar g hg).2)
      have far7 : ∀ ad, A7 = some ad → ¬ Ga ad.block ∧ ¬ Gb ad.block := fun ad e => hfar ad.block (by rw [e]; rfl)
      have HB7 := hide (hB7.keep ob4 (fun _ ad e => (far7 ad e).2))
      have hGa := sa4.ge
      have hs4 : Hid (St w1 w4 b Hb D.sync.1) := sb4
      clear hown4 hB7 sb4
      go_wp2_with fail
      refine (restart_any _ a Ga D A7 j c7 (List.replicate j 200) sa4.rep (by omega) HB7.out (fun _ ad e => (far7 ad e).1) (by omega)).mono ?_
      rintro e w5 hp
      obtain ⟨rfl, Ha, sa5, oa5, ga5⟩ := sa4.next hp
      clear hp
      obtain ⟨sb5, dj5⟩ := hs4.out.beside (fun i hi hf => dj4 i hf hi) hGa oa5 ga5
      have hread : ∀ i : Int, ((D.restart (List.replicate j 200)).read i).1 = (D.sync.1.read i).1 := fun i => whole_read HI.out sa4.rep.good _ (by simp; have := HI.out.few; omega) (fun v hv => (List.mem_replicate.1 hv).2) i
      generalize hDA : D.restart (List.replicate j 200) = DA at *
      generalize hDB : D.sync.1 = DB at *
      clear hDA hDB
      have hbw : Below w.heap.size w w1 := hb1
      clear hb1 sa sb hB HO HB7 hs4 sa4 HI HST HS2 hB0 sa3 sb3 HA
      obtain ⟨w6, hw6⟩ : ∃ w6, w6 = wr := ⟨_, rfl⟩
      subst hw6
      have HREAD := hide hread
      clear hread
      go_wp2
      go_loopw [12] (fun iv wr => ∃ i : Nat, i ≤ 9 ∧ iv = .int .i64 i ∧ St w1 wr a Ha DA ∧ St w1 wr b Hb DB) (fun iv _ => 9 - (intOf iv).toNat)
      case atStart => exact ⟨0, by omega, rfl, sa5, sb5⟩
      case round =>
        obtain ⟨i, hi, rfl, sa, sb⟩ := hrel
        by_cases hlt : i < 9
        · obtain ⟨x, ex, hx⟩ : ∃ x ex, DA.read i = (x, ex) := ⟨_, _, rfl⟩
          obtain ⟨y, ey, hy⟩ : ∃ y ey, DB.read i = (y, ey) := ⟨_, _, rfl⟩
          have hxy : x = y := by have := HREAD.out i; rw [hx, hy] at this; exact this
          subst hxy
          have hxl2 : x.length = 128 := by have := read_128 sa.rep.good i; rw [hx] at this; exact this
          have HX := hide hx
          have HY := hide hy
          have Lx := hide hxl2
          have Ix := hide (isz33' x hxl2)
          clear hx hy hxl2
          go_wp2_with fail
          refine (read_any _ a Ha DA i sa.rep).mono ?_
          rintro e wA ⟨rfl, hbA⟩
          rw [HX.out]
          go_wp2_with (first
            | (refine wpList_alloc_agg rfl 33 rfl (enc zeroS) zero33 ?_; simp only [Act.put, List.setIfInBounds_toArray, List.set_cons_zero, List.set_cons_succ])
            | (refine wpList_store_blk rfl 33 _ _ rfl wA.heap.size 0 33 (enc zeroS) (enc x) (by rfl) (by rfl) (Blk.new wA _ _) (Nat.le_of_eq (by rw [enc_length, enc_length, Lx.out, zeroS_length])) Ix.out (enc_one _) ?_; intro wB oB zB bB; simp only [Act.put]))
          rw [lay_all _ _ (by rw [enc_length, enc_length, Lx.out, zeroS_length])] at bB
          have oAB : Below wA.heap.size wA wB := ((Below.refl _ _).alloc (Nat.le_refl _) _).trans (oB.below (by simp) (fun i hi => by omega))
          have saB := (sa.under hbA).under oAB
          have sbB := (sb.under hbA).under oAB
          have BB := hide bB
          clear bB
          refine (read_any _ b Hb DB i sbB.rep).mono ?_
          rintro e wC ⟨rfl, hbC⟩
          rw [HY.out]
          go_wp2_with (first
            | (refine wpList_alloc_agg rfl 33 rfl (enc zeroS) zero33 ?_; simp only [Act.put, List.setIfInBounds_toArray, List.set_cons_zero, List.set_cons_succ])
            | (refine wpList_store_blk rfl 33 _ _ rfl wC.heap.size 0 33 (enc zeroS) (enc x) (by rfl) (by rfl) (Blk.new wC _ _) (Nat.le_of_eq (by rw [enc_length, enc_length, Lx.out, zeroS_length])) Ix.out (enc_one _) ?_; intro wD oD zD bD; simp only [Act.put]; rw [lay_all _ _ (by rw [enc_length, enc_length, Lx.out, zeroS_length])] at bD; have oCD : Below wC.heap.size wC wD := ((Below.refl _ _).alloc (Nat.le_refl _) _).trans (oD.below (by simp) (fun i hi => by omega)); have l1 := loadSlab_run wD wC.heap.size 0 x bD.whole Lx.out; have l2 := loadSlab_run wD wA.heap.size 0 x (show Blk wD wA.heap.size 33 (enc x) from (oCD.block _ (Nat.lt_of_lt_of_le BB.out.lt hbC.size)).trans ((hbC.block _ BB.out.lt).trans BB.out)).whole Lx.out; have q1 := neqSlab_run x x Lx.out Lx.out wD))
          go_roundw
          case rel => exact ⟨i + 1, by omega, by go_num, (saB.under hbC).under oCD, (sbB.under hbC).under oCD⟩
          case measure => simp [intOf]; omega
        · go_wp2
          go_ret
          exact ⟨rfl, hbw.trans (sa.below.mono hbw.size)⟩
set_option maxHeartbeats 4000000 in
set_option maxRecDepth 100000 in
theorem whole_false (w : World) (A : Option Addr) (n c : Nat) (xs : List ActV) (hA : ActsIn w A n xs) (hn : n ≤ 60) : Calls Try.prog 4 #[.slice A n c, .bool false] w fun e w' => e = .returned (.bool true) ∧ Below w.heap.size w w' := by
  have hn' : (n : Int) ≤ 60 := by omega
  have HA := hide hA
  clear hA
  go_enter Try.func4, Try.ntmps4
  go_wp2_with (go_at_call 14; refine (alive_any _).mono ?_; rintro e w1 ⟨rfl, hb1⟩)
  refine (new_any _ _).mono ?_
  rintro e w2 hnn
  obtain ⟨a, Fa, rfl, sa⟩ := St.fresh hnn
  clear hnn
  go_wp2_with fail
  refine (new_any _ _).mono ?_
  rintro e w3 hnn
  obtain ⟨b, Fb, rfl, sb0⟩ := St.fresh hnn
  clear hnn
  have sa3 : St w1 w3 a Fa (putAll 9 []) := sa.under sb0.below
  have sb3 : St w1 w3 b Fb (newDev 9) := ⟨sb0.rep, sa.below.trans (sb0.below.mono sa.below.size), fun i hi => by have := sb0.ge i hi; have := sa.below.size; omega⟩
  have dj3 : ∀ i, Fb i → ¬ Fa i := fun i hi hf => by have := sb0.ge i hi; have := sa.lt i hf; omega
  clear sa sb0
  go_wp2
  have hB0 : Below w.heap.size w w3 := hb1.trans (sa3.below.mono hb1.size)
  go_loopw [7, 27] (fun kv i wr => ∃ (j : Nat) (Fa Fb : Nat → Prop), j ≤ n ∧ kv = .slice (some ⟨w3.heap.size, 0, none⟩) 0 0 ∧ i = .int .i64 j ∧ St w1 wr a Fa (putAll 9 (xs.take j)) ∧ St w1 wr b Fb (newDev 9) ∧ (∀ i, Fb i → ¬ Fa i) ∧ Below w.heap.size w wr) (fun _ i _ => n - (intOf i).toNat)
  case atStart => exact ⟨0, Fa, Fb, by omega, rfl, rfl, sa3.alloc _, sb3.alloc _, dj3, hB0.alloc hB0.size _⟩
  case round =>
    obtain ⟨j, Ga, Gb, hj, rfl, rfl, sa, sb, dj, hB⟩ := hrel
    by_cases hlt : j < n
    · obtain ⟨pb, po, hpA, hrange⟩ := HA.out.2.2 (by omega)
      obtain ⟨ac, hac⟩ : ∃ ac, xs[j]? = some ac := ⟨_, List.getElem?_eq_getElem (by rw [HA.out.1]; exact hlt)⟩
      have hfine := HA.out.2.1 ac (List.mem_of_getElem? hac)
      have hr := range_below (hrange j ac hac) hB
      subst hpA
      have j0 : (0 : Int) ≤ (j : Int) := by omega
      have j1 : (j : Int) < (n : Int) := by omega
      have v0 := hfine.v.1
      have v1 := hfine.v.2
      have hfew : (putAll 9 (xs.take j)).written.length ≤ 60 := by have := (putAll_inv 9 (xs.take j)).few; simp at this; omega
      have hnext := putAll_take 9 xs j ac hac
      generalize hD : putAll 9 (xs.take j) = D at *
      have HR := hide hr
      have HN := hide hnext
      have I29 := hide act_size
      have u29 := hide Try.underlying29
      have I29' : Hid ((Try.prog.info? 29).map (·.size) = some ac.cells.length) := act_size
      clear hr hnext hD hrange hac hfine
      go_wp2_with (first
        | (refine wpList_load_mid rfl 29 _ rfl pb (po + j * 4) (by rfl) ac.cells _ HR.out u29.out rfl I29'.out ?_; simp only [Act.put, List.setIfInBounds_toArray, List.set_cons_zero, List.set_cons_succ])
        | (refine wpList_alloc_agg rfl 29 rfl [.int .i64 0, .int .i64 0, .int .u8 0, .slice none 0 0] act_zero ?_; simp only [Act.put, List.setIfInBounds_toArray, List.set_cons_zero, List.set_cons_succ])
        | (refine wpList_store_blk rfl 29 _ _ rfl wr.heap.size 0 29 [.int .i64 0, .int .i64 0, .int .u8 0, .slice none 0 0] ac.cells (by rfl) (by rfl) (Blk.new wr _ _) (Nat.le_refl _) I29'.out (act_one ac) ?_; intro w4 o4 z4 b4; simp only [Act.put]))
      rw [lay_all [.int .i64 0, .int .i64 0, .int .u8 0, .slice none 0 0] ac.cells rfl] at b4
      have oX : Only (fun i => i = wr.heap.size) wr w4 := ((Only.refl _ wr).alloc _).trans o4 (fun _ _ h => h)
      have sa4' : St w1 w4 a Ga D := sa.other oX (fun i hi e => by have := sa.lt i hi; omega) (fun i e => by have := sa.below.size; omega)
      have sa4 := sa4'.drew
      have sb4 : St w1 w4 b Gb (newDev 9) := sb.other oX (fun i hi e => by have := sb.lt i hi; omega) (fun i e => by have := sb.below.size; omega)
      have hB4 : Below w.heap.size w w4 := hB.trans (oX.below hB.size (fun i hi e => by have := hB.size; omega))
      have k1 : w4.cell? ⟨wr.heap.size, 1, none⟩ = some (.int .i64 ac.at_) := by rw [b4.cell]; rfl
      have k2 : w4.cell? ⟨wr.heap.size, 2, none⟩ = some (.int .u8 ac.v) := by rw [b4.cell]; rfl
      have nGa : ¬ Ga wr.heap.size := fun h => by have := sa.lt _ h; omega
      have nGb : ¬ Gb wr.heap.size := fun h => by have := sb.lt _ h; omega
      have B4 := hide b4
      clear b4
      go_region_held3 (fun w' => w'.cell? ⟨wr.heap.size, 1, none⟩ = some (.int .i64 ac.at_) ∧ w'.cell? ⟨wr.heap.size, 2, none⟩ = some (.int .u8 ac.v)) (exact ⟨k1, k2⟩)
        (first
          | (go_at_call 17; refine (full_any _ _).mono ?_; rintro e w5 ⟨rfl, hb5⟩; go_loud (have sa5 := sa4.under hb5; have B5 : Hid (Blk w5 wr.heap.size 29 ac.cells) := (hb5.block _ B4.out.lt).trans B4.out; have k1 : w5.cell? ⟨wr.heap.size, 1, none⟩ = some (.int .i64 ac.at_) := (B5.out.cell 1).trans rfl; have k2 : w5.cell? ⟨wr.heap.size, 2, none⟩ = some (.int .u8 ac.v) := (B5.out.cell 2).trans rfl))
          | (go_at_call 16; refine (write_any _ a Ga D _ (fullS ac.v) sa5.rep (fullS_length _) (by omega)).mono ?_; rintro e w6 hp; obtain ⟨rfl, Ha, sa6, oa6, ga6⟩ := sa5.next hp; clear hp; have B6 : Hid (Blk w6 wr.heap.size 29 ac.cells) := oa6.blk B5.out nGa; have k1 : w6.cell? ⟨wr.heap.size, 1, none⟩ = some (.int .i64 ac.at_) := (B6.out.cell 1).trans rfl; have k2 : w6.cell? ⟨wr.heap.size, 2, none⟩ = some (.int .u8 ac.v) := (B6.out.cell 2).trans rfl))
      obtain ⟨sb6', dj6⟩ := sb4.drew.under hb5 |>.beside dj (fun i hi => sa.ge i hi) oa6 ga6
      have hB6 : Below w.heap.size w w6 := (hB4.drew.trans (hb5.mono hB4.size)).trans (oa6.below (Nat.le_trans hB4.size hb5.size) (fun i hi hf => by have := sa.ge i hf; have := hb1.size; omega))
      go_wp2
      go_roundw
      case rel => exact ⟨j + 1, Ha, Gb, by omega, rfl, by go_num, by rw [HN.out]; exact sa6, sb6', dj6, hB6⟩
      case measure => simp [intOf]; omega
    · have hj' : j = n := by omega
      subst hj'
      have hlen : xs.length = j := HA.out.1
      have hx : xs.take j = xs := by rw [← hlen]; exact List.take_length
      rw [hx] at sa
      have hInv := putAll_inv 9 xs
      have hfew : (putAll 9 xs).written.length ≤ 60 := by have := hInv.few; omega
      generalize hD : putAll 9 xs = D at *
      clear hD
      have hread : ∀ i : Int, ((D.restart []).read i).1 = ((newDev 9).read i).1 := fun i => none_read hInv i
      clear hInv hx hlen
      go_wp2_with fail
      refine (restart_any _ a Ga D _ 0 _ [] sa.rep (by omega) (Bys.nil _ _) (fun h => absurd h (by omega)) (by omega)).mono ?_
      rintro e w5 hp
      obtain ⟨rfl, Ha, sa5, oa5, ga5⟩ := sa.next hp
      clear hp
      obtain ⟨sb5, dj5⟩ := sb.beside dj sa.ge oa5 ga5
      generalize hDA : D.restart [] = DA at *
      generalize hDB : newDev 9 = DB at *
      clear hDA hDB
      have hbw : Below w.heap.size w w1 := hb1
      clear hb1 sa sb hB hB0 sa3 sb3 HA
      obtain ⟨w6, hw6⟩ : ∃ w6, w6 = wr := ⟨_, rfl⟩
      subst hw6
      have HREAD := hide hread
      clear hread
      go_wp2
      go_loopw [12] (fun iv wr => ∃ i : Nat, i ≤ 9 ∧ iv = .int .i64 i ∧ St w1 wr a Ha DA ∧ St w1 wr b Gb DB) (fun iv _ => 9 - (intOf iv).toNat)
      case atStart => exact ⟨0, by omega, rfl, sa5, sb5⟩
      case round =>
        obtain ⟨i, hi, rfl, sa, sb⟩ := hrel
        by_cases hlt : i < 9
        · obtain ⟨x, ex, hx⟩ : ∃ x ex, DA.read i = (x, ex) := ⟨_, _, rfl⟩
          obtain ⟨y, ey, hy⟩ : ∃ y ey, DB.read i = (y, ey) := ⟨_, _, rfl⟩
          have hxy : x = y := by have := HREAD.out i; rw [hx, hy] at this; exact this
          subst hxy
          have hxl2 : x.length = 128 := by have := read_128 sa.rep.good i; rw [hx] at this; exact this
          have HX := hide hx
          have HY := hide hy
          have Lx := hide hxl2
          have Ix := hide (isz33' x hxl2)
          clear hx hy hxl2
          go_wp2_with fail
          refine (read_any _ a Ha DA i sa.rep).mono ?_
          rintro e wA ⟨rfl, hbA⟩
          rw [HX.out]
          go_wp2_with (first
            | (refine wpList_alloc_agg rfl 33 rfl (enc zeroS) zero33 ?_; simp only [Act.put, List.setIfInBounds_toArray, List.set_cons_zero, List.set_cons_succ])
            | (refine wpList_store_blk rfl 33 _ _ rfl wA.heap.size 0 33 (enc zeroS) (enc x) (by rfl) (by rfl) (Blk.new wA _ _) (Nat.le_of_eq (by rw [enc_length, enc_length, Lx.out, zeroS_length])) Ix.out (enc_one _) ?_; intro wB oB zB bB; simp only [Act.put]))
          rw [lay_all _ _ (by rw [enc_length, enc_length, Lx.out, zeroS_length])] at bB
          have oAB : Below wA.heap.size wA wB := ((Below.refl _ _).alloc (Nat.le_refl _) _).trans (oB.below (by simp) (fun i hi => by omega))
          have saB := (sa.under hbA).under oAB
          have sbB := (sb.under hbA).under oAB
          have BB := hide bB
          clear bB
          refine (read_any _ b Gb DB i sbB.rep).mono ?_
          rintro e wC ⟨rfl, hbC⟩
          rw [HY.out]
          go_wp2_with (first
            | (refine wpList_alloc_agg rfl 33 rfl (enc zeroS) zero33 ?_; simp only [Act.put, List.setIfInBounds_toArray, List.set_cons_zero, List.set_cons_succ])
            | (refine wpList_store_blk rfl 33 _ _ rfl wC.heap.size 0 33 (enc zeroS) (enc x) (by rfl) (by rfl) (Blk.new wC _ _) (Nat.le_of_eq (by rw [enc_length, enc_length, Lx.out, zeroS_length])) Ix.out (enc_one _) ?_; intro wD oD zD bD; simp only [Act.put]; rw [lay_all _ _ (by rw [enc_length, enc_length, Lx.out, zeroS_length])] at bD; have oCD : Below wC.heap.size wC wD := ((Below.refl _ _).alloc (Nat.le_refl _) _).trans (oD.below (by simp) (fun i hi => by omega)); have l1 := loadSlab_run wD wC.heap.size 0 x bD.whole Lx.out; have l2 := loadSlab_run wD wA.heap.size 0 x (show Blk wD wA.heap.size 33 (enc x) from (oCD.block _ (Nat.lt_of_lt_of_le BB.out.lt hbC.size)).trans ((hbC.block _ BB.out.lt).trans BB.out)).whole Lx.out; have q1 := neqSlab_run x x Lx.out Lx.out wD))
          go_roundw
          case rel => exact ⟨i + 1, by omega, by go_num, (saB.under hbC).under oCD, (sbB.under hbC).under oCD⟩
          case measure => simp [intOf]; omega
        · go_wp2
          go_ret
          exact ⟨rfl, hbw.trans (sa.below.mono hbw.size)⟩
theorem whole_any (w : World) (A : Option Addr) (n c : Nat) (b : Bool) (xs : List ActV) (hA : ActsIn w A n xs) : Calls Try.prog 4 #[.slice A n c, .bool b] w fun e w' => e = .returned (.bool true) ∧ Below w.heap.size w w' := by
  by_cases h : 60 < n
  · exact whole_skip w A n c b h
  · cases b with
    | true => exact whole_true w A n c xs hA (by omega)
    | false => exact whole_false w A n c xs hA (by omega)
end Go.Proofs.Ytjipgimnhkliaaa
