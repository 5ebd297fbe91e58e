/-
  bynamelaw13.SlabSure answers true: the walk. No condition.
-/
import Derived.Test.YtjipgimnhkliaaaSlabSure
namespace Go.Proofs.Ytjipgimnhkliaaa
open Go.RowKit
attribute [local go_sem ↓] mkSlab_fold eqlSlab_fold neqSlab_fold loadSlab_fold mk36_fold mk39_fold
attribute [local go_sem] mkSlab_run mkSlab_run1 guardSlab mk36_run mk39_run

theorem cells23 : Try.prog.cellsOf 23 = 2 := by kernel_rfl
theorem cells22 : Try.prog.cellsOf 22 = 1 := by kernel_rfl
theorem list_two (l : List Value) (h : l.length = 2) : ∃ x y, l = [x, y] := by
  match l, h with
  | [x, y], _ => exact ⟨x, y, rfl⟩
set_option maxRecDepth 100000 in
theorem two_acts {H : Type} {enc : TypeId × Value → H} {W : World} {r : Reach} {b0 : Nat} {v : Value} {d : DataW H} {p : List MemPlace} (hv : Value.okWide Try.prog W r b0 23 v)
    (h : DataW.Trod enc Try.prog W 0 (fun _ => true) true 23 v d p) :
    ∃ (A0 : Option Addr) (n0 c0 : Nat) (A1 : Option Addr) (n1 c1 : Nat) (xs0 xs1 : List ActV), v = .agg #[.slice A0 n0 c0, .slice A1 n1 c1] ∧ ActsIn W A0 n0 xs0 ∧ ActsIn W A1 n1 xs1 := by
  obtain ⟨cs, rfl, hsz⟩ := okWide_array Try.underlying23 hv
  rw [cells23] at hsz
  obtain ⟨x0, x1, hl⟩ := list_two cs.toList (by simpa using hsz)
  obtain ⟨fuel, hf⟩ := h
  have hf' : DataW.trod enc Try.prog W 0 (fun _ => true) true fuel 23 [x0, x1] = some (d, p) := by rw [← hl]; exact hf
  obtain ⟨m, y0, y1, h0, h1⟩ := two_of_array (e := 22) Try.underlying23 cells22 hf'
  obtain ⟨A0, n0, c0, xs0, rfl, a1, _, _⟩ := acts_of_reading h0
  obtain ⟨A1, n1, c1, xs1, rfl, b1, _, _⟩ := acts_of_reading h1
  refine ⟨A0, n0, c0, A1, n1, c1, xs0, xs1, ?_, a1, b1⟩
  cases cs
  simp_all
set_option maxHeartbeats 1000000 in
set_option maxRecDepth 100000 in
theorem sure_skip (w : World) (A0 A1 B : Option Addr) (n0 c0 n1 c1 m c : Nat) (hn : 60 < n0 ∨ 60 < n1 ∨ 100 < m) :
    Calls Try.prog 3 #[.agg #[.slice A0 n0 c0, .slice A1 n1 c1], .slice B m c] w fun e w' => e = .returned (.bool true) ∧ Below w.heap.size w w' := by
  have key : ∀ w1, Below (w.heap.size + 1) (w.alloc (.cells [Value.slice A0 n0 c0, .slice A1 n1 c1].toArray 23)) w1 → w1.cell? ⟨w.heap.size, 0, none⟩ = some (.slice A0 n0 c0) ∧ w1.cell? ⟨w.heap.size, 1, none⟩ = some (.slice A1 n1 c1) ∧ Below w.heap.size w w1 := fun w1 hb => by
    have hP : Blk w1 w.heap.size 23 [Value.slice A0 n0 c0, .slice A1 n1 c1] := (hb.block _ (by omega)).trans (Blk.new w _ _)
    exact ⟨(hP.cell 0).trans rfl, (hP.cell 1).trans rfl, ((Below.refl _ _).alloc (Nat.le_refl _) _).trans (hb.mono (by omega))⟩
  have HK := hide key
  clear key
  by_cases h0 : 60 < n0
  · have h0' : (60 : Int) < (n0 : Int) := by omega
    go_enter Try.func3, Try.ntmps3
    go_wp2_with (go_at_call 14; refine (alive_any _).mono ?_; rintro e w1 ⟨rfl, hb1⟩; obtain ⟨k0, k1, hbw⟩ := HK.out w1 (by simpa using hb1))
    go_ret
    exact ⟨rfl, hbw⟩
  · have h0' : (n0 : Int) ≤ 60 := by omega
    by_cases h1 : 60 < n1
    · have h1' : (60 : Int) < (n1 : Int) := by omega
      go_enter Try.func3, Try.ntmps3
      go_wp2_with (go_at_call 14; refine (alive_any _).mono ?_; rintro e w1 ⟨rfl, hb1⟩; obtain ⟨k0, k1, hbw⟩ := HK.out w1 (by simpa using hb1))
      go_ret
      exact ⟨rfl, hbw⟩
    · have h1' : (n1 : Int) ≤ 60 := by omega
      have h2' : (100 : Int) < (m : Int) := by omega
      go_enter Try.func3, Try.ntmps3
      go_wp2_with (go_at_call 14; refine (alive_any _).mono ?_; rintro e w1 ⟨rfl, hb1⟩; obtain ⟨k0, k1, hbw⟩ := HK.out w1 (by simpa using hb1))
      go_ret
      exact ⟨rfl, hbw⟩

set_option maxHeartbeats 8000000 in
set_option maxRecDepth 100000 in
theorem sure_main (w : World) (A0 A1 B : Option Addr) (n0 c0 n1 c1 m c : Nat) (xs0 xs1 : List ActV) (bs : List Int) (hA0 : ActsIn w A0 n0 xs0) (hA1 : ActsIn w A1 n1 xs1) (hB : Bys w B m bs) (h0 : n0 ≤ 60) (h1 : n1 ≤ 60) (h2 : m ≤ 100) :
    Calls Try.prog 3 #[.agg #[.slice A0 n0 c0, .slice A1 n1 c1], .slice B m c] w fun e w' => e = .returned (.bool true) ∧ Below w.heap.size w w' := by
  have h0' : (n0 : Int) ≤ 60 := by omega
  have h1' : (n1 : Int) ≤ 60 := by omega
  have h2' : (m : Int) ≤ 100 := by omega
  have HA0 := hide hA0
  have HA1 := hide hA1
  have HB := hide hB
  clear hA0 hA1 hB
  have key : ∀ w1, Below (w.heap.size + 1) (w.alloc (.cells [Value.slice A0 n0 c0, .slice A1 n1 c1].toArray 23)) w1 → w1.cell? ⟨w.heap.size, 0, none⟩ = some (.slice A0 n0 c0) ∧ w1.cell? ⟨w.heap.size, 1, none⟩ = some (.slice A1 n1 c1) ∧ Below w.heap.size w w1 ∧ w.heap.size < w1.heap.size := fun w1 hb => by
    have hP : Blk w1 w.heap.size 23 [Value.slice A0 n0 c0, .slice A1 n1 c1] := (hb.block _ (by omega)).trans (Blk.new w _ _)
    exact ⟨(hP.cell 0).trans rfl, (hP.cell 1).trans rfl, ((Below.refl _ _).alloc (Nat.le_refl _) _).trans (hb.mono (by omega)), hP.lt⟩
  have HK := hide key
  clear key
  go_enter Try.func3, Try.ntmps3
  go_wp2_with (go_at_call 14; refine (alive_any _).mono ?_; rintro e w1 ⟨rfl, hb1⟩; obtain ⟨k0, k1, hbw, hPlt⟩ := HK.out w1 (by simpa using hb1))
  have HK0 := hide k0
  have HK1 := hide k1
  clear k0 k1 hb1
  refine (new_any _ _).mono ?_
  rintro e w2 hn
  obtain ⟨b, F, rfl, s2⟩ := St.fresh hn
  clear hn
  have key2 : ∀ {F : Nat → Prop} {d : Dev} (w2 : World), St w1 w2 b F d → w2.cell? ⟨w.heap.size, 0, none⟩ = some (.slice A0 n0 c0) ∧ w2.cell? ⟨w.heap.size, 1, none⟩ = some (.slice A1 n1 c1) ∧ Below w.heap.size w w2 := fun w2 s =>
    ⟨(World.cell?_of_block (w := w1) (s.below.block _ hPlt)).trans HK0.out, (World.cell?_of_block (w := w1) (s.below.block _ hPlt)).trans HK1.out, hbw.trans (s.below.mono hbw.size)⟩
  obtain ⟨k0, k1, hB2⟩ := key2 w2 s2
  have HK2 : Hid (∀ (F : Nat → Prop) (d : Dev) (w2 : World), St w1 w2 b F d → w2.cell? ⟨w.heap.size, 0, none⟩ = some (.slice A0 n0 c0) ∧ w2.cell? ⟨w.heap.size, 1, none⟩ = some (.slice A1 n1 c1) ∧ Below w.heap.size w w2) := fun F d w2 s => key2 w2 s
  clear key2
  have s2' : St w1 w2 b F (putOn (newDev 16) (xs0.take 0)) := s2
  clear s2
  go_wp2
  clear k0 k1 hB2
  go_loopw [37] (fun i wr => ∃ (j : Nat) (F : Nat → Prop), j ≤ n0 ∧ i = .int .i64 j ∧ St w1 wr b F (putOn (newDev 16) (xs0.take j))) (fun i _ => n0 - (intOf i).toNat)
  case atStart => exact ⟨0, F, by omega, rfl, s2'⟩
  case round =>
    obtain ⟨j, G, hj, rfl, st⟩ := hrel
    by_cases hlt : j < n0
    · obtain ⟨pb, po, hpA, hrange⟩ := HA0.out.2.2 (by omega)
      obtain ⟨ac, hac⟩ : ∃ ac, xs0[j]? = some ac := ⟨_, List.getElem?_eq_getElem (by rw [HA0.out.1]; exact hlt)⟩
      have hr := range_below (hrange j ac hac) (HK2.out _ _ _ st).2.2
      subst hpA
      have j0 : (0 : Int) ≤ (j : Int) := by omega
      have j1 : (j : Int) < (n0 : Int) := by omega
      have hfew : (putOn (newDev 16) (xs0.take j)).written.length ≤ 60 := by
        have h := (PutI.on (K := (newDev 16).kept) (d := newDev 16) ⟨newDev_ok 16, rfl, by simp [newDev], rfl, rfl⟩ (xs0.take j)).few
        simp at h; omega
      have hnext := putOn_take (newDev 16) xs0 j ac hac
      generalize hD : putOn (newDev 16) (xs0.take j) = D at *
      have HR := hide hr
      have HN := hide hnext
      have u29 := hide Try.underlying29
      have I29 : Hid ((Try.prog.info? 29).map (·.size) = some ac.cells.length) := act_size
      clear hr hnext hD hrange hac
      go_wp2_with (first
        | (refine wpList_load_mid rfl 29 _ rfl pb (po + j * 4) (by rfl) ac.cells _ HR.out u29.out rfl I29.out ?_; simp only [Act.put, List.setIfInBounds_toArray, List.set_cons_zero, List.set_cons_succ])
        | (refine wpList_alloc_agg rfl 29 rfl [.int .i64 0, .int .i64 0, .int .u8 0, .slice none 0 0] act_zero ?_; simp only [Act.put, List.setIfInBounds_toArray, List.set_cons_zero, List.set_cons_succ])
        | (refine wpList_store_blk rfl 29 _ _ rfl wr.heap.size 0 29 [.int .i64 0, .int .i64 0, .int .u8 0, .slice none 0 0] ac.cells (by rfl) (by rfl) (Blk.new wr _ _) (Nat.le_refl _) I29.out (act_one ac) ?_; intro w4 o4 z4 b4; simp only [Act.put]))
      rw [lay_all [.int .i64 0, .int .i64 0, .int .u8 0, .slice none 0 0] ac.cells rfl] at b4
      have oX : Only (fun i => i = wr.heap.size) wr w4 := ((Only.refl _ wr).alloc _).trans o4 (fun _ _ h => h)
      have sa4' : St w1 w4 b G D := st.other oX (fun i hi e => by have := st.lt i hi; omega) (fun i e => by have := st.below.size; omega)
      have sa4 := sa4'.drew
      have k1 : w4.cell? ⟨wr.heap.size, 1, none⟩ = some (.int .i64 ac.at_) := by rw [b4.cell]; rfl
      have k2 : w4.cell? ⟨wr.heap.size, 2, none⟩ = some (.int .u8 ac.v) := by rw [b4.cell]; rfl
      have nG : ¬ G wr.heap.size := fun h => by have := st.lt _ h; omega
      have B4 := hide b4
      clear b4
      go_region_held3 (fun w' => w'.cell? ⟨wr.heap.size, 1, none⟩ = some (.int .i64 ac.at_) ∧ w'.cell? ⟨wr.heap.size, 2, none⟩ = some (.int .u8 ac.v)) (exact ⟨k1, k2⟩)
        (first
          | (go_at_call 17; refine (full_any _ _).mono ?_; rintro e w5 ⟨rfl, hb5⟩; have sa5 := sa4.under hb5; have B5 : Hid (Blk w5 wr.heap.size 29 ac.cells) := (hb5.block _ B4.out.lt).trans B4.out; have k1 : w5.cell? ⟨wr.heap.size, 1, none⟩ = some (.int .i64 ac.at_) := (B5.out.cell 1).trans rfl; have k2 : w5.cell? ⟨wr.heap.size, 2, none⟩ = some (.int .u8 ac.v) := (B5.out.cell 2).trans rfl)
          | (go_at_call 16; refine (write_any _ b G D _ (fullS ac.v) sa5.rep (fullS_length _) (by omega)).mono ?_; rintro e w6 hp; obtain ⟨rfl, Ha, sa6, oa6, ga6⟩ := sa5.next hp; clear hp; have B6 : Hid (Blk w6 wr.heap.size 29 ac.cells) := oa6.blk B5.out nG; have k1 : w6.cell? ⟨wr.heap.size, 1, none⟩ = some (.int .i64 ac.at_) := (B6.out.cell 1).trans rfl; have k2 : w6.cell? ⟨wr.heap.size, 2, none⟩ = some (.int .u8 ac.v) := (B6.out.cell 2).trans rfl))
      go_wp2
      go_roundw
      case rel => exact ⟨j + 1, Ha, by omega, by go_num, by rw [HN.out]; exact sa6⟩
      case measure => simp [intOf]; omega
    · have hj' : j = n0 := by omega
      subst hj'
      have hx : xs0.take j = xs0 := by rw [← HA0.out.1]; exact List.take_length
      rw [hx] at st
      have hI := PutI.on (K := (newDev 16).kept) (d := newDev 16) ⟨newDev_ok 16, rfl, by simp [newDev], rfl, rfl⟩ xs0
      have hfew : (putOn (newDev 16) xs0).written.length ≤ 60 := by have h := hI.few; rw [HA0.out.1] at h; omega
      obtain ⟨hs2, hIS, hkl, hse⟩ := hI.synced
      have hkl2 : (newDev 16).kept.length = 16 := by simp [newDev, newN]; rfl
      rw [hkl2] at hkl
      generalize hD : putOn (newDev 16) xs0 = D at *
      have HS2 := hide hs2
      clear hD hx hI hs2 hkl2
      go_wp2_with fail
      refine (sync_any _ b G D st.rep (by omega)).mono ?_
      rintro e w3 hp
      obtain ⟨rfl, F3, s3, o3, g3⟩ := st.next hp
      clear hp
      rw [HS2.out]
      generalize hS : D.sync.1 = S at *
      have HKL := hide hkl
      have HSE := hide hse
      have HIS := hide hIS
      clear hS o3 g3 st hkl hse hIS hfew
      have Q36 := hide (show (Try.prog.info? 36).map (·.size) = some (rows (List.replicate 16 zeroS)).length by rw [size36, rows_length _ (fun s hs => by rw [(List.mem_replicate.1 hs).2]; exact zeroS_length)]; rfl)
      go_wp2_with (first
        | (refine wpList_alloc_agg rfl 36 rfl (rows (List.replicate 16 zeroS)) zero36 ?_; simp only [Act.put, List.setIfInBounds_toArray, List.set_cons_zero, List.set_cons_succ])
        | (refine wpList_store_blk rfl 36 _ _ rfl w3.heap.size 0 36 (rows (List.replicate 16 zeroS)) (rows (List.replicate 16 zeroS)) (by rfl) (by rfl) (Blk.new w3 _ _) (Nat.le_of_eq (Nat.zero_add _)) Q36.out (rows_one _) ?_; intro w4 o4 z4 b4; simp only [Act.put]))
      rw [lay_all _ _ rfl] at b4
      have oX : Only (fun i => i = w3.heap.size) w3 w4 := ((Only.refl _ w3).alloc _).trans o4 (fun _ _ h => h)
      have s4 : St w1 w4 b F3 S := s3.other oX (fun i hi e => by have := s3.lt i hi; omega) (fun i e => by have := s3.below.size; omega)
      have hsl : S.seen.length = 16 := by rw [s3.rep.good.seen]; exact HKL.out
      have hs128 := s3.rep.good.s128
      have nQ : ¬ F3 w3.heap.size := fun h => by have := s3.lt _ h; omega
      have HSL := hide hsl
      have HS128 := hide hs128
      have Q1 : w1.heap.size ≤ w3.heap.size := s3.below.size
      have b4' : Blk w4 w3.heap.size 36 (rows (partW S.seen 0)) := b4
      clear hsl hs128 b4 oX o4 z4
      generalize w3.heap.size = Q at *
      go_loopw [53] (fun i wr => ∃ k : Nat, k ≤ 16 ∧ i = .int .i64 k ∧ St w1 wr b F3 S ∧ Blk wr Q 36 (rows (partW S.seen k))) (fun i _ => 16 - (intOf i).toNat)
      case atStart => exact ⟨0, by omega, rfl, s4, b4'⟩
      case round =>
        obtain ⟨k, hk, rfl, st, hb⟩ := hrel
        by_cases hlt : k < 16
        · obtain ⟨x, hx⟩ : ∃ x, S.seen[k]? = some x := ⟨_, List.getElem?_eq_getElem (by rw [HSL.out]; exact hlt)⟩
          have hxl : x.length = 128 := HS128.out x (List.mem_of_getElem? hx)
          have hrd : S.read k = (x, 0) := by rw [read_at k (by rw [HKL.out]; exact hlt), hx]; rfl
          have HX := hide hrd
          have Lx := hide hxl
          have Ix := hide (isz33' x hxl)
          have hset : lay (rows (partW S.seen k)) (k * 128) (enc x) = rows (partW S.seen (k + 1)) := by
            rw [rows_set _ k x (partW_128 _ _ HS128.out) hxl (by rw [partW_length _ _ HSL.out (by omega)]; exact hlt), partW_set _ _ _ HSL.out hlt hx]
          have hfit : k * 128 + (enc x).length ≤ (rows (partW S.seen k)).length := by rw [rows_length _ (partW_128 _ _ HS128.out), partW_length _ _ HSL.out (by omega), enc_length, hxl]; omega
          have HSET := hide hset
          have HFIT := hide hfit
          have i0 : (0 : Int) ≤ (k : Int) := by omega
          have i1 : (k : Int) < 16 := by omega
          have HBK := hide hb
          clear hx hxl hrd hset hfit hb
          go_wp2_with (first
            | (go_at_call 19; refine (read_any _ b F3 S k st.rep).mono ?_; rintro e wA ⟨rfl, hbA⟩; rw [HX.out]; have BA : Hid (Blk wA Q 36 (rows (partW S.seen k))) := (hbA.block _ HBK.out.lt).trans HBK.out)
            | (refine wpList_store_blk rfl 33 _ _ rfl Q (k * 128) 36 (rows (partW S.seen k)) (enc x) (by rfl) (by rfl) BA.out HFIT.out Ix.out (enc_one _) ?_; intro wB oB zB bB; simp only [Act.put]))
          rw [HSET.out] at bB
          go_roundw
          case rel => exact ⟨k + 1, by omega, by go_num, (st.under hbA).other oB (fun i hi e => nQ (e ▸ hi)) (fun i e => by omega), bB⟩
          case measure => simp [intOf]; omega
        · have hk' : k = 16 := by omega
          subst hk'
          rw [partW_all _ HSL.out] at hb
          clear b4' s4
          have htz : Hid ((Try.prog.info? 39).map (·.size) = some (bcells (List.replicate 16 false)).length) := size39
          have key2 := (HK2.out _ _ _ st).2.1
          have keyT : ∀ w5, Only (fun i => i = wr.heap.size) (wr.alloc (.cells (bcells (List.replicate 16 false)).toArray 39)) w5 → w5.cell? ⟨w.heap.size, 1, none⟩ = some (.slice A1 n1 c1) := fun w5 o => by
            have h1 : w.heap.size < wr.heap.size := World.block_lt_of_cell? _ _ key2
            have h2 : w5.cell? ⟨w.heap.size, 1, none⟩ = (wr.alloc (.cells (bcells (List.replicate 16 false)).toArray 39)).cell? ⟨w.heap.size, 1, none⟩ := World.cell?_of_block (o.block _ (by rw [World.size_alloc]; show w.heap.size < _; omega) (by show ¬ w.heap.size = wr.heap.size; omega))
            rw [h2, World.cell?_alloc_lt _ _ _ h1]; exact key2
          have HKT := hide keyT
          have HBQ := hide hb
          have HK22 := hide key2
          clear keyT key2 hb
          go_wp2_with (first
            | (refine wpList_alloc_agg rfl 39 rfl (bcells (List.replicate 16 false)) zero39 ?_; simp only [Act.put, List.setIfInBounds_toArray, List.set_cons_zero, List.set_cons_succ])
            | (refine wpList_store_blk rfl 39 _ _ rfl wr.heap.size 0 39 (bcells (List.replicate 16 false)) (bcells (List.replicate 16 false)) (by rfl) (by rfl) (Blk.new wr _ _) (Nat.le_of_eq (Nat.zero_add _)) htz.out (bcells_one _) ?_; intro w5 o5 z5 b5; simp only [Act.put]; have kT := HKT.out _ o5))
          rw [lay_all _ _ rfl] at b5
          have oX : Only (fun i => i = wr.heap.size) wr w5 := ((Only.refl _ wr).alloc _).trans o5 (fun _ _ h => h)
          have s5 : St w1 w5 b F3 S := st.other oX (fun i hi e => by have := st.lt i hi; omega) (fun i e => by have := st.below.size; omega)
          have b5Q : Blk w5 Q 36 (rows S.seen) := oX.blk HBQ.out (by have := HBQ.out.lt; omega)
          have nT3 : ¬ F3 wr.heap.size := fun h => by have := st.lt _ h; omega
          have T1 : w1.heap.size ≤ wr.heap.size := st.below.size
          have hQT : Q < wr.heap.size := HBQ.out.lt
          clear oX o5 z5 HBQ kT HKT HK22
          clear st
          generalize wr.heap.size = T at *
          go_loopw [69] (fun i wr => ∃ (j : Nat) (G : Nat → Prop) (t : List Bool), j ≤ n1 ∧ i = .int .i64 j ∧ St w1 wr b G (putOn S (xs1.take j)) ∧ Blk wr Q 36 (rows S.seen) ∧ Blk wr T 39 (bcells t) ∧ t.length = 16 ∧
            (∀ p, p < 16 → t[p]? = some (touches (putOn S (xs1.take j)).written p)) ∧ ¬ G Q ∧ ¬ G T) (fun i _ => n1 - (intOf i).toNat)
          case atStart => exact ⟨0, F3, List.replicate 16 false, by omega, rfl, s5, b5Q, b5, by simp, fun p hp => by
            have hw : (putOn S (xs1.take 0)).written = [] := List.eq_nil_of_length_eq_zero (by have := HIS.out.few; show S.written.length = 0; omega)
            rw [hw, List.getElem?_replicate, if_pos hp]; rfl, nQ, nT3⟩
          case round =>
            obtain ⟨j, G, t, hj, rfl, st, hbQ, hbT, htl, htt, nQ', nT⟩ := hrel
            by_cases hlt : j < n1
            · obtain ⟨pb, po, hpA, hrange⟩ := HA1.out.2.2 (by omega)
              obtain ⟨ac, hac⟩ : ∃ ac, xs1[j]? = some ac := ⟨_, List.getElem?_eq_getElem (by rw [HA1.out.1]; exact hlt)⟩
              have hr := range_below (hrange j ac hac) (HK2.out _ _ _ st).2.2
              subst hpA
              have j0 : (0 : Int) ≤ (j : Int) := by omega
              have j1 : (j : Int) < (n1 : Int) := by omega
              have hI := PutI.on HIS.out (xs1.take j)
              have hfew : (putOn S (xs1.take j)).written.length ≤ 60 := by have h := hI.few; simp at h; omega
              have hnext := putOn_take S xs1 j ac hac
              generalize hD : putOn S (xs1.take j) = D at *
              have HI := hide hI
              have HTT := hide htt
              have HTL := hide htl
              have HBT := hide hbT
              have HBQ := hide hbQ
              clear hI htt htl hbT hbQ
              have HR := hide hr
              have HN := hide hnext
              have u29 := hide Try.underlying29
              have I29 : Hid ((Try.prog.info? 29).map (·.size) = some ac.cells.length) := act_size
              clear hr hnext hD hrange hac
              by_cases hh : D.has ac.at_ = true
              · have hh2 := hh
                simp only [Dev.has, Bool.and_eq_true, decide_eq_true_eq, HI.out.kept, HKL.out] at hh2
                obtain ⟨i, hi⟩ : ∃ i : Nat, ac.at_ = i := ⟨ac.at_.toNat, by omega⟩
                have hi16 : i < 16 := by omega
                have i0 : (0 : Int) ≤ (i : Int) := by omega
                have i1 : (i : Int) < 16 := by omega
                have hw2 : (D.write ac.at_ (fullS ac.v)).2 = 0 := by rw [HI.out.write2, if_pos hh]
                have HW2 := hide hw2
                have HH := hide hh
                have HII := hide hi
                clear hh hh2 hw2 hi
                go_wp2_with (first
                  | (refine wpList_load_mid rfl 29 _ rfl pb (po + j * 4) (by rfl) ac.cells _ HR.out u29.out rfl I29.out ?_; simp only [Act.put, List.setIfInBounds_toArray, List.set_cons_zero, List.set_cons_succ])
                  | (refine wpList_alloc_agg rfl 29 rfl [.int .i64 0, .int .i64 0, .int .u8 0, .slice none 0 0] act_zero ?_; simp only [Act.put, List.setIfInBounds_toArray, List.set_cons_zero, List.set_cons_succ])
                  | (refine wpList_store_blk rfl 29 _ _ rfl wr.heap.size 0 29 [.int .i64 0, .int .i64 0, .int .u8 0, .slice none 0 0] ac.cells (by rfl) (by rfl) (Blk.new wr _ _) (Nat.le_refl _) I29.out (act_one ac) ?_; intro w4 o4 z4 b4; simp only [Act.put]))
                rw [lay_all [.int .i64 0, .int .i64 0, .int .u8 0, .slice none 0 0] ac.cells rfl] at b4
                have oX : Only (fun i => i = wr.heap.size) wr w4 := ((Only.refl _ wr).alloc _).trans o4 (fun _ _ h => h)
                have sa4' : St w1 w4 b G D := st.other oX (fun i hi e => by have := st.lt i hi; omega) (fun i e => by have := st.below.size; omega)
                have sa4 := sa4'.drew
                have k1 : w4.cell? ⟨wr.heap.size, 1, none⟩ = some (.int .i64 ac.at_) := by rw [b4.cell]; rfl
                have k2 : w4.cell? ⟨wr.heap.size, 2, none⟩ = some (.int .u8 ac.v) := by rw [b4.cell]; rfl
                have nG : ¬ G wr.heap.size := fun h => by have := st.lt _ h; omega
                have B4 := hide b4
                clear b4
                go_region_held3 (fun w' => w'.cell? ⟨wr.heap.size, 1, none⟩ = some (.int .i64 ac.at_) ∧ w'.cell? ⟨wr.heap.size, 2, none⟩ = some (.int .u8 ac.v)) (exact ⟨k1, k2⟩)
                  (first
                    | (go_at_call 17; refine (full_any _ _).mono ?_; rintro e w5 ⟨rfl, hb5⟩; have sa5 := sa4.under hb5; have B5 : Hid (Blk w5 wr.heap.size 29 ac.cells) := (hb5.block _ B4.out.lt).trans B4.out; have k1 : w5.cell? ⟨wr.heap.size, 1, none⟩ = some (.int .i64 ac.at_) := (B5.out.cell 1).trans rfl; have k2 : w5.cell? ⟨wr.heap.size, 2, none⟩ = some (.int .u8 ac.v) := (B5.out.cell 2).trans rfl)
                    | (go_at_call 16; refine (write_any _ b G D _ (fullS ac.v) sa5.rep (fullS_length _) (by omega)).mono ?_; rintro e w6 hp; obtain ⟨rfl, Ha, sa6, oa6, ga6⟩ := sa5.next hp; clear hp; have B6 : Hid (Blk w6 wr.heap.size 29 ac.cells) := oa6.blk B5.out nG; have k1 : w6.cell? ⟨wr.heap.size, 1, none⟩ = some (.int .i64 ac.at_) := (B6.out.cell 1).trans rfl; have k2 : w6.cell? ⟨wr.heap.size, 2, none⟩ = some (.int .u8 ac.v) := (B6.out.cell 2).trans rfl))
                rw [HW2.out]
                have hT6 : Hid (Blk w6 T 39 (bcells t)) := oa6.blk ((hb5.block _ (Nat.lt_of_lt_of_le HBT.out.lt oX.size)).trans (oX.blk HBT.out (by have := HBT.out.lt; omega))) nT
                have hQ6 : Hid (Blk w6 Q 36 (rows S.seen)) := oa6.blk ((hb5.block _ (Nat.lt_of_lt_of_le HBQ.out.lt oX.size)).trans (oX.blk HBQ.out (by have := HBQ.out.lt; omega))) nQ'
                have cT : w6.cell? ⟨T, i, none⟩ = some (.bool (touches D.written i)) := by
                  rw [hT6.out.cell]; simp [bcells, HTT.out i hi16]
                have fT := hT6.out.frozen i
                rw [HII.out] at k1
                go_wp2
                have h6 := hT6.out.set_ i (.bool true)
                have htl7 : (t.set i true).length = 16 := by rw [List.length_set]; exact HTL.out
                have e6 : (bcells t).set i (.bool true) = bcells (t.set i true) := by simp [bcells, List.map_set]
                rw [e6] at h6
                have o7 : Only (fun j => j = T) w6 (w6.setCell ⟨T, i, none⟩ (.bool true)) := (Only.refl (fun j => j = T) w6).setCell (p := ⟨T, i, none⟩) (.inr rfl) _
                have nT6 : ¬ Ha T := fun hf => by
                  rcases ga6 T hf with h | h
                  · exact nT h
                  · have := HBT.out.lt; have := oX.size; have := hb5.size; simp at this; omega
                have nQ6 : ¬ Ha Q := fun hf => by
                  rcases ga6 Q hf with h | h
                  · exact nQ' h
                  · have := HBQ.out.lt; have := oX.size; have := hb5.size; simp at this; omega
                have s7 : St w1 (w6.setCell ⟨T, i, none⟩ (.bool true)) b Ha (putOn S (xs1.take (j + 1))) := by
                  rw [HN.out]; exact sa6.other o7 (fun x hx e => nT6 (e ▸ hx)) (fun x e => by omega)
                have hQ7 : Blk (w6.setCell ⟨T, i, none⟩ (.bool true)) Q 36 (rows S.seen) := o7.blk hQ6.out (by omega)
                have tt7 : ∀ p, p < 16 → (t.set i true)[p]? = some (touches (putOn S (xs1.take (j + 1))).written p) := by
                  have hD := HH.out
                  rw [HII.out] at hD
                  have := touch_yes HI.out i (fullS ac.v) hD t HTL.out HTT.out hi16
                  rw [HN.out, HII.out]; exact this
                go_roundw
                case rel =>
                  repeat apply Exists.intro
                  exact ⟨⟨j + 1, Ha, t.set i true, by omega, by go_num, s7, hQ7, h6, htl7, tt7, nQ6, nT6⟩, rfl⟩
                case measure => simp [intOf]; omega
              · have hh' : D.has ac.at_ = false := by simpa using hh
                have hw2 : (D.write ac.at_ (fullS ac.v)).2 = 131 := by rw [HI.out.write2, hh']; rfl
                have HW2 := hide hw2
                have HH := hide hh'
                clear hh hh' hw2
                go_wp2_with (first
                  | (refine wpList_load_mid rfl 29 _ rfl pb (po + j * 4) (by rfl) ac.cells _ HR.out u29.out rfl I29.out ?_; simp only [Act.put, List.setIfInBounds_toArray, List.set_cons_zero, List.set_cons_succ])
                  | (refine wpList_alloc_agg rfl 29 rfl [.int .i64 0, .int .i64 0, .int .u8 0, .slice none 0 0] act_zero ?_; simp only [Act.put, List.setIfInBounds_toArray, List.set_cons_zero, List.set_cons_succ])
                  | (refine wpList_store_blk rfl 29 _ _ rfl wr.heap.size 0 29 [.int .i64 0, .int .i64 0, .int .u8 0, .slice none 0 0] ac.cells (by rfl) (by rfl) (Blk.new wr _ _) (Nat.le_refl _) I29.out (act_one ac) ?_; intro w4 o4 z4 b4; simp only [Act.put]))
                rw [lay_all [.int .i64 0, .int .i64 0, .int .u8 0, .slice none 0 0] ac.cells rfl] at b4
                have oX : Only (fun i => i = wr.heap.size) wr w4 := ((Only.refl _ wr).alloc _).trans o4 (fun _ _ h => h)
                have sa4' : St w1 w4 b G D := st.other oX (fun i hi e => by have := st.lt i hi; omega) (fun i e => by have := st.below.size; omega)
                have sa4 := sa4'.drew
                have k1 : w4.cell? ⟨wr.heap.size, 1, none⟩ = some (.int .i64 ac.at_) := by rw [b4.cell]; rfl
                have k2 : w4.cell? ⟨wr.heap.size, 2, none⟩ = some (.int .u8 ac.v) := by rw [b4.cell]; rfl
                have nG : ¬ G wr.heap.size := fun h => by have := st.lt _ h; omega
                have B4 := hide b4
                clear b4
                go_region_held3 (fun w' => w'.cell? ⟨wr.heap.size, 1, none⟩ = some (.int .i64 ac.at_) ∧ w'.cell? ⟨wr.heap.size, 2, none⟩ = some (.int .u8 ac.v)) (exact ⟨k1, k2⟩)
                  (first
                    | (go_at_call 17; refine (full_any _ _).mono ?_; rintro e w5 ⟨rfl, hb5⟩; have sa5 := sa4.under hb5; have B5 : Hid (Blk w5 wr.heap.size 29 ac.cells) := (hb5.block _ B4.out.lt).trans B4.out; have k1 : w5.cell? ⟨wr.heap.size, 1, none⟩ = some (.int .i64 ac.at_) := (B5.out.cell 1).trans rfl; have k2 : w5.cell? ⟨wr.heap.size, 2, none⟩ = some (.int .u8 ac.v) := (B5.out.cell 2).trans rfl)
                    | (go_at_call 16; refine (write_any _ b G D _ (fullS ac.v) sa5.rep (fullS_length _) (by omega)).mono ?_; rintro e w6 hp; obtain ⟨rfl, Ha, sa6, oa6, ga6⟩ := sa5.next hp; clear hp; have B6 : Hid (Blk w6 wr.heap.size 29 ac.cells) := oa6.blk B5.out nG; have k1 : w6.cell? ⟨wr.heap.size, 1, none⟩ = some (.int .i64 ac.at_) := (B6.out.cell 1).trans rfl; have k2 : w6.cell? ⟨wr.heap.size, 2, none⟩ = some (.int .u8 ac.v) := (B6.out.cell 2).trans rfl))
                rw [HW2.out]
                have hT6 : Hid (Blk w6 T 39 (bcells t)) := oa6.blk ((hb5.block _ (Nat.lt_of_lt_of_le HBT.out.lt oX.size)).trans (oX.blk HBT.out (by have := HBT.out.lt; omega))) nT
                have hQ6 : Hid (Blk w6 Q 36 (rows S.seen)) := oa6.blk ((hb5.block _ (Nat.lt_of_lt_of_le HBQ.out.lt oX.size)).trans (oX.blk HBQ.out (by have := HBQ.out.lt; omega))) nQ'
                have nT6 : ¬ Ha T := fun hf => by
                  rcases ga6 T hf with h | h
                  · exact nT h
                  · have := HBT.out.lt; have := oX.size; have := hb5.size; simp at this; omega
                have nQ6 : ¬ Ha Q := fun hf => by
                  rcases ga6 Q hf with h | h
                  · exact nQ' h
                  · have := HBQ.out.lt; have := oX.size; have := hb5.size; simp at this; omega
                have tt7 : ∀ p, p < 16 → t[p]? = some (touches (putOn S (xs1.take (j + 1))).written p) := by
                  rw [HN.out, touch_no HI.out _ _ HH.out]; exact HTT.out
                have s7 : St w1 w6 b Ha (putOn S (xs1.take (j + 1))) := by rw [HN.out]; exact sa6
                go_wp2
                go_roundw
                case rel =>
                  repeat apply Exists.intro
                  exact ⟨⟨j + 1, Ha, t, by omega, by go_num, s7, hQ6.out, hT6.out, HTL.out, tt7, nQ6, nT6⟩, rfl⟩
                case measure => simp [intOf]; omega
            · have hj' : j = n1 := by omega
              subst hj'
              have hx1 : xs1.take j = xs1 := by rw [← HA1.out.1]; exact List.take_length
              rw [hx1] at st htt
              have hI2 := PutI.on HIS.out xs1
              have hfew : (putOn S xs1).written.length ≤ 60 := by have h := hI2.few; rw [HA1.out.1] at h; omega
              generalize hD2 : putOn S xs1 = D2 at *
              have HI2 := hide hI2
              have HTT := hide htt
              have HTL := hide htl
              clear hD2 hx1 hI2 htt htl s5 b5Q b5
              go_wp2_with fail
              refine (restart_any _ b G D2 B m c bs st.rep (by omega) (bys_below HB.out (HK2.out _ _ _ st).2.2) (fun hm0 ad e hf => by have h1 := HB.out.lt hm0 ad e; have h2 := st.ge _ hf; have h3 := hbw.size; omega) (by omega)).mono ?_
              rintro e w9 hp
              obtain ⟨rfl, F9, s9, o9, g9⟩ := st.next hp
              clear hp
              have hQ9 : Blk w9 Q 36 (rows S.seen) := o9.blk hbQ nQ'
              have hT9 : Blk w9 T 39 (bcells t) := o9.blk hbT nT
              have hrk : (D2.restart bs).kept.length = 16 := by rw [HI2.out.lost_length]; exact HKL.out
              have hlost : ∀ p, (touches D2.written p = false ∨ bs = []) → ((D2.restart bs).seen)[p]? = (S.seen)[p]? := fun p hp => by rw [HI2.out.lost bs p hp, HSE.out]
              generalize hR : D2.restart bs = R at *
              have HRK := hide hrk
              have HLOST := hide hlost
              have hbl : bs.length = m := HB.out.1
              have HBL := hide hbl
              obtain ⟨w8, hw8⟩ : ∃ w8, w8 = wr := ⟨_, rfl⟩
              subst hw8
              clear hR hrk hlost hbl o9 g9 st hbQ hbT HB HA0 HA1 HK HK0 HK1 HK2
              go_wp2
              go_loopw [88] (fun iv wr => ∃ i : Nat, i ≤ 16 ∧ iv = .int .i64 i ∧ St w1 wr b F9 R ∧ Blk wr Q 36 (rows S.seen) ∧ Blk wr T 39 (bcells t)) (fun iv _ => 16 - (intOf iv).toNat)
              case atStart => exact ⟨0, by omega, rfl, s9, hQ9, hT9⟩
              case round =>
                obtain ⟨i, hi, rfl, st, hbQ, hbT⟩ := hrel
                by_cases hlt : i < 16
                · obtain ⟨y, hy⟩ : ∃ y, S.seen[i]? = some y := ⟨_, List.getElem?_eq_getElem (by rw [HSL.out]; exact hlt)⟩
                  obtain ⟨x, hx⟩ : ∃ x, R.seen[i]? = some x := ⟨_, List.getElem?_eq_getElem (by rw [st.rep.good.seen, HRK.out]; exact hlt)⟩
                  have hrd : R.read i = (x, 0) := by rw [read_at i (by rw [HRK.out]; exact hlt), hx]; rfl
                  have Lx := hide (st.rep.good.s128 x (List.mem_of_getElem? hx))
                  have Ly := hide (HS128.out y (List.mem_of_getElem? hy))
                  have Ix := hide (isz33' x Lx.out)
                  have hfin : x = y ∨ (touches D2.written i = true ∧ m ≠ 0 ∧ ¬ x = y) := by
                    by_cases hxy : x = y
                    · exact .inl hxy
                    · refine .inr ⟨?_, ?_, hxy⟩
                      · cases ht : touches D2.written i with
                        | true => rfl
                        | false =>
                          have := HLOST.out i (.inl ht)
                          rw [hx, hy] at this
                          exact absurd (Option.some.inj this) hxy
                      · intro hm0
                        have := HLOST.out i (.inr (List.eq_nil_of_length_eq_zero (by rw [HBL.out]; exact hm0)))
                        rw [hx, hy] at this
                        exact absurd (Option.some.inj this) hxy
                  have HX := hide hrd
                  have HY := hide hy
                  have HBQ := hide hbQ
                  have HBT := hide hbT
                  have i0 : (0 : Int) ≤ (i : Int) := by omega
                  have i1 : (i : Int) < 16 := by omega
                  clear hx hy hrd hbQ hbT
                  rcases hfin with hxy | ⟨htc, hm0, hxne⟩
                  · subst hxy
                    go_wp2_with (first
                      | (go_at_call 19; refine (read_any _ b F9 R i st.rep).mono ?_; rintro e wA ⟨rfl, hbA⟩; rw [HX.out])
                      | (refine wpList_alloc_agg rfl 33 rfl (enc zeroS) zero33 ?_; simp only [Act.put, List.setIfInBounds_toArray, List.set_cons_zero, List.set_cons_succ])
                      | (refine wpList_store_blk rfl 33 _ _ rfl wA.heap.size 0 33 (enc zeroS) (enc x) (by rfl) (by rfl) (Blk.new wA _ _) (Nat.le_of_eq (by rw [enc_length, enc_length, Lx.out, zeroS_length])) Ix.out (enc_one _) ?_; intro wB oB zB bB; simp only [Act.put]))
                    rw [lay_all _ _ (by rw [enc_length, enc_length, Lx.out, zeroS_length])] at bB
                    have oAB : Below wr.heap.size wr wB := hbA.trans ((((Below.refl _ _).alloc (Nat.le_refl _) _).trans (oB.below (by simp) (fun i hi => by omega))).mono hbA.size)
                    have l1 : ∀ n, (loadSlab ⟨wA.heap.size, 0, none⟩).run Try.prog (wB.drewN n) = .ok (.agg (enc x).toArray) (wB.drewN n) := fun n => loadSlab_run _ _ 0 x (show (wB.drewN n).rangeAt _ _ _ from bB.whole) Lx.out
                    have bQ : Blk wB Q 36 (rows S.seen) := (oAB.block _ HBQ.out.lt).trans HBQ.out
                    have bT : Blk wB T 39 (bcells t) := (oAB.block _ HBT.out.lt).trans HBT.out
                    have l2 : ∀ n, (loadSlab ⟨Q, i * 128, none⟩).run Try.prog (wB.drewN n) = .ok (.agg (enc x).toArray) (wB.drewN n) := fun n => loadSlab_run _ _ _ x (show (wB.drewN n).rangeAt _ _ _ from bQ.range _ _ (rows_get S.seen i x HS128.out HY.out)) Ly.out
                    have cT : wB.cell? ⟨T, i, none⟩ = some (.bool (touches D2.written i)) := by rw [bT.cell]; simp [bcells, HTT.out i hlt]
                    have q1 := neqSlab_run x x Lx.out Ly.out
                    have sBN : ∀ n, St w1 (wB.drewN n) b F9 R := fun n => st_drewN (st.under oAB) n
                    have BQ2 := hide bQ
                    have BT2 := hide bT
                    clear bB bQ bT zB oB

                    have q2 : (x == x) = true := by simp
                    go_quiet (fail)
                    go_wp2
                    go_roundw
                    case rel =>
                      exact ⟨i + 1, by omega, by go_num, sBN nq, BQ2.out, BT2.out⟩
                    case measure => simp [intOf]; omega
                  · have hxy := hxne
                    · have q2 : (x == y) = false := by simpa using hxy
                      have q3 : ((m : Int) == 0) = false := by simp; omega
                      go_wp2_with (first
                        | (go_at_call 19; refine (read_any _ b F9 R i st.rep).mono ?_; rintro e wA ⟨rfl, hbA⟩; rw [HX.out])
                        | (refine wpList_alloc_agg rfl 33 rfl (enc zeroS) zero33 ?_; simp only [Act.put, List.setIfInBounds_toArray, List.set_cons_zero, List.set_cons_succ])
                        | (refine wpList_store_blk rfl 33 _ _ rfl wA.heap.size 0 33 (enc zeroS) (enc x) (by rfl) (by rfl) (Blk.new wA _ _) (Nat.le_of_eq (by rw [enc_length, enc_length, Lx.out, zeroS_length])) Ix.out (enc_one _) ?_; intro wB oB zB bB; simp only [Act.put]))
                      rw [lay_all _ _ (by rw [enc_length, enc_length, Lx.out, zeroS_length])] at bB
                      have oAB : Below wr.heap.size wr wB := hbA.trans ((((Below.refl _ _).alloc (Nat.le_refl _) _).trans (oB.below (by simp) (fun i hi => by omega))).mono hbA.size)
                      have l1 : ∀ n, (loadSlab ⟨wA.heap.size, 0, none⟩).run Try.prog (wB.drewN n) = .ok (.agg (enc x).toArray) (wB.drewN n) := fun n => loadSlab_run _ _ 0 x (show (wB.drewN n).rangeAt _ _ _ from bB.whole) Lx.out
                      have bQ : Blk wB Q 36 (rows S.seen) := (oAB.block _ HBQ.out.lt).trans HBQ.out
                      have bT : Blk wB T 39 (bcells t) := (oAB.block _ HBT.out.lt).trans HBT.out
                      have l2 : ∀ n, (loadSlab ⟨Q, i * 128, none⟩).run Try.prog (wB.drewN n) = .ok (.agg (enc y).toArray) (wB.drewN n) := fun n => loadSlab_run _ _ _ y (show (wB.drewN n).rangeAt _ _ _ from bQ.range _ _ (rows_get S.seen i y HS128.out HY.out)) Ly.out
                      have cT : wB.cell? ⟨T, i, none⟩ = some (.bool true) := by rw [bT.cell]; simp [bcells, HTT.out i hlt, htc]
                      have q1 := neqSlab_run x y Lx.out Ly.out
                      have sBN : ∀ n, St w1 (wB.drewN n) b F9 R := fun n => st_drewN (st.under oAB) n
                      have BQ2 := hide bQ
                      have BT2 := hide bT
                      clear bB bQ bT zB oB

                      go_quiet (fail)
                      go_wp2
                      go_roundw
                      case rel =>
                        exact ⟨i + 1, by omega, by go_num, sBN nq, BQ2.out, BT2.out⟩
                      case measure => simp [intOf]; omega
                · have hi16 : i = 16 := by omega
                  subst hi16
                  go_wp2
                  go_ret
                  exact ⟨rfl, hbw.trans (st.below.mono hbw.size)⟩
theorem sure_any (w : World) (A0 A1 B : Option Addr) (n0 c0 n1 c1 m c : Nat) (xs0 xs1 : List ActV) (bs : List Int) (hA0 : ActsIn w A0 n0 xs0) (hA1 : ActsIn w A1 n1 xs1) (hB : Bys w B m bs) :
    Calls Try.prog 3 #[.agg #[.slice A0 n0 c0, .slice A1 n1 c1], .slice B m c] w fun e w' => e = .returned (.bool true) ∧ Below w.heap.size w w' := by
  by_cases h : 60 < n0 ∨ 60 < n1 ∨ 100 < m
  · exact sure_skip w A0 A1 B n0 c0 n1 c1 m c h
  · exact sure_main w A0 A1 B n0 c0 n1 c1 m c xs0 xs1 bs hA0 hA1 hB (by omega) (by omega) (by omega)
end Go.Proofs.Ytjipgimnhkliaaa
