/-
  bynamelaw13.SlabRuns: the walk.
-/
import Derived.Test.YtjipgimnhkliaaaSlabRuns
namespace Go.Proofs.Ytjipgimnhkliaaa
open Go.RowKit
attribute [local go_sem ↓] mkSlab_fold eqlSlab_fold neqSlab_fold loadSlab_fold
attribute [local go_sem] mkSlab_run mkSlab_run1 guardSlab

set_option maxHeartbeats 4000000 in
set_option maxRecDepth 100000 in
theorem runs_main (w : World) (n : Int) (A : Option Addr) (na ca : Nat) (xs : List ActV) (hA : ActsIn w A na xs) (hn : n ≤ 40) (hna : na ≤ 150) :
    Calls Try.prog 6 #[.int .i64 n, .slice A na ca] w fun e w' => e = .returned (.bool true) ∧ Below w.heap.size w w' := by
  have hna' : (na : Int) ≤ 150 := by omega
  have HA := hide hA
  clear hA
  go_enter Try.func6, Try.ntmps6
  go_wp2_with (go_at_call 14; refine (alive_any _).mono ?_; rintro e w1 ⟨rfl, hb1⟩)
  refine (new_any _ _).mono ?_
  rintro e w2 hp
  obtain ⟨b, F, rfl, s2⟩ := St.fresh hp
  clear hp
  go_wp2_with fail
  refine (docnew_any _ _).mono ?_
  rintro e w3 ⟨q, G, rfl, r3, b3, g3⟩
  have t3 : Two w1 w3 b F q G (newDev n) (newDev n) := ⟨s2.under b3, r3, fun i hi hg => by have := s2.lt i hi; have := g3 i hg; omega, fun i hi => by have := g3 i hi; have := s2.below.size; omega⟩
  clear r3 b3 g3 s2
  go_wp2
  go_loopw [35] (fun i wr => ∃ (j : Nat) (F G : Nat → Prop) (D : Dev), j ≤ na ∧ i = .int .i64 j ∧ Two w1 wr b F q G D D ∧ D.Ok ∧ D.written.length ≤ j) (fun i _ => na - (intOf i).toNat)
  case atStart => exact ⟨0, F, G, newDev n, by omega, rfl, t3, newDev_ok n, by simp [newDev]⟩
  case round =>
    clear t3
    obtain ⟨j, F, G, D, hj, rfl, tt, hok, hfew⟩ := hrel
    have hbw : Below w.heap.size w wr := hb1.trans (tt.st.below.mono hb1.size)
    by_cases hlt : j < na
    · obtain ⟨pb, po, hpA, hrange⟩ := HA.out.2.2 (by omega)
      obtain ⟨ac, hac⟩ : ∃ ac, xs[j]? = some ac := ⟨_, List.getElem?_eq_getElem (by rw [HA.out.1]; exact hlt)⟩
      have hr := range_below (hrange j ac hac) hbw
      have hfine := HA.out.2.1 ac (List.mem_of_getElem? hac)
      subst hpA
      have j0 : (0 : Int) ≤ (j : Int) := by omega
      have j1 : (j : Int) < (na : Int) := by omega
      have HR := hide hr
      have HF := hide hfine
      have u29 := hide Try.underlying29
      have I29 : Hid ((Try.prog.info? 29).map (·.size) = some ac.cells.length) := act_size
      clear hr hrange hac hfine
      rcases act_kinds ac.kind with hkd | hkd | hkd | hkd | hkd
      · have HKD := hide hkd
        clear hkd
        go_wp2_with (first
          | (refine wpList_load_mid rfl 29 _ rfl pb (po + j * 4) (by rfl) ac.cells _ HR.out u29.out rfl I29.out ?_; simp only [Act.put, List.setIfInBounds_toArray, List.set_cons_zero, List.set_cons_succ])
          | (refine wpList_alloc_agg rfl 29 rfl [.int .i64 0, .int .i64 0, .int .u8 0, .slice none 0 0] act_zero ?_; simp only [Act.put, List.setIfInBounds_toArray, List.set_cons_zero, List.set_cons_succ])
          | (refine wpList_store_blk rfl 29 _ _ rfl wr.heap.size 0 29 [.int .i64 0, .int .i64 0, .int .u8 0, .slice none 0 0] ac.cells (by rfl) (by rfl) (Blk.new wr _ _) (Nat.le_refl _) I29.out (act_one ac) ?_; intro w4 o4 z4 b4; rw [lay_all [.int .i64 0, .int .i64 0, .int .u8 0, .slice none 0 0] ac.cells rfl] at b4; simp only [Act.put]; have k0 : w4.cell? ⟨wr.heap.size, 0, none⟩ = some (.int .i64 ac.kind) := (b4.cell 0).trans rfl; have k1 : w4.cell? ⟨wr.heap.size, 1, none⟩ = some (.int .i64 ac.at_) := (b4.cell 1).trans rfl; have k2 : w4.cell? ⟨wr.heap.size, 2, none⟩ = some (.int .u8 ac.v) := (b4.cell 2).trans rfl; have k3 : w4.cell? ⟨wr.heap.size, 3, none⟩ = some (.slice ac.A ac.n ac.c) := (b4.cell 3).trans rfl; rw [HKD.out] at k0; have B4 := hide b4; clear b4))
        have oX : Only (fun i => i = wr.heap.size) wr w4 := ((Only.refl _ wr).alloc _).trans o4 (fun _ _ h => h)
        have t4 := tt.new oX (Nat.le_refl _)
        have nH : ¬ F wr.heap.size := fun h => by have := tt.st.lt _ h; omega
        have nG : ¬ G wr.heap.size := fun h => by have := tt.doc.lt _ h; omega
        have hz4 : wr.heap.size < w4.heap.size := B4.out.lt
        have sa4 := t4.drew
        go_region_held3 (fun w' => w'.cell? ⟨wr.heap.size, 1, none⟩ = some (.int .i64 ac.at_) ∧ w'.cell? ⟨wr.heap.size, 2, none⟩ = some (.int .u8 ac.v)) (exact ⟨k1, k2⟩)
          (first
            | (go_at_call 17; refine (full_any _ _).mono ?_; rintro e w5 ⟨rfl, hb5⟩; have sa5 := sa4.under hb5; have B5 : Hid (Blk w5 wr.heap.size 29 ac.cells) := (hb5.block _ B4.out.lt).trans B4.out; have k1 : w5.cell? ⟨wr.heap.size, 1, none⟩ = some (.int .i64 ac.at_) := (B5.out.cell 1).trans rfl; have k2 : w5.cell? ⟨wr.heap.size, 2, none⟩ = some (.int .u8 ac.v) := (B5.out.cell 2).trans rfl)
            | (go_at_call 16; refine (write_any _ b F D _ (fullS ac.v) sa5.st.rep (fullS_length _) (by omega)).mono ?_; rintro e w6 hp; obtain ⟨rfl, F6, t6, ga6, oa6⟩ := sa5.dev hp; clear hp; have B6 : Hid (Blk w6 wr.heap.size 29 ac.cells) := oa6.blk B5.out nH; have k1 : w6.cell? ⟨wr.heap.size, 1, none⟩ = some (.int .i64 ac.at_) := (B6.out.cell 1).trans rfl; have k2 : w6.cell? ⟨wr.heap.size, 2, none⟩ = some (.int .u8 ac.v) := (B6.out.cell 2).trans rfl))
        have t6d := t6.drew
        go_wp2
        go_region_held3 (fun w' => w'.cell? ⟨wr.heap.size, 1, none⟩ = some (.int .i64 ac.at_) ∧ w'.cell? ⟨wr.heap.size, 2, none⟩ = some (.int .u8 ac.v)) (exact ⟨k1, k2⟩)
          (first
            | (go_at_call 17; refine (full_any _ _).mono ?_; rintro e w7 ⟨rfl, hb7⟩; have sa7 := t6d.under hb7; have B7 : Hid (Blk w7 wr.heap.size 29 ac.cells) := (hb7.block _ B6.out.lt).trans B6.out; have k1 : w7.cell? ⟨wr.heap.size, 1, none⟩ = some (.int .i64 ac.at_) := (B7.out.cell 1).trans rfl; have k2 : w7.cell? ⟨wr.heap.size, 2, none⟩ = some (.int .u8 ac.v) := (B7.out.cell 2).trans rfl)
            | (go_at_call 25; refine (docwrite_any _ q G D _ (fullS ac.v) sa7.doc (fullS_length _) (by omega)).mono ?_; rintro e w8 hp; obtain ⟨rfl, G8, t8, ga8, oa8⟩ := sa7.ref hp; clear hp; have B8 : Hid (Blk w8 wr.heap.size 29 ac.cells) := oa8.blk B7.out nG; have k1 : w8.cell? ⟨wr.heap.size, 1, none⟩ = some (.int .i64 ac.at_) := (B8.out.cell 1).trans rfl; have k2 : w8.cell? ⟨wr.heap.size, 2, none⟩ = some (.int .u8 ac.v) := (B8.out.cell 2).trans rfl))
        have hok8 := hok.write ac.at_ (fullS ac.v)
        have few8 := write_few D ac.at_ (fullS ac.v)
        obtain ⟨q4, qk, q0⟩ := t8.doc.cells
        generalize hDD : (D.write ac.at_ (fullS ac.v)).1 = DD at *
        clear hDD
        go_wp2
        go_quiet (first
          | (go_at_call 22; exact Calls.quiet_of_same ((down_any _ b _ DD (t8.drewN _).st.rep).mono fun _ _ h => ⟨h.1, h.2.symm⟩))
          | (go_at_call 23; exact Calls.quiet_of_same ((size_any _ b _ DD (t8.drewN _).st.rep).mono fun _ _ h => ⟨h.1, h.2.symm⟩)))
        go_wp2
        go_roundw
        case rel => exact ⟨j + 1, _, _, DD, by omega, by go_num, t8.drewN nq, hok8, by omega⟩
        case measure => simp [intOf]; omega
      · have HKD := hide hkd
        clear hkd
        go_wp2_with (first
          | (refine wpList_load_mid rfl 29 _ rfl pb (po + j * 4) (by rfl) ac.cells _ HR.out u29.out rfl I29.out ?_; simp only [Act.put, List.setIfInBounds_toArray, List.set_cons_zero, List.set_cons_succ])
          | (refine wpList_alloc_agg rfl 29 rfl [.int .i64 0, .int .i64 0, .int .u8 0, .slice none 0 0] act_zero ?_; simp only [Act.put, List.setIfInBounds_toArray, List.set_cons_zero, List.set_cons_succ])
          | (refine wpList_store_blk rfl 29 _ _ rfl wr.heap.size 0 29 [.int .i64 0, .int .i64 0, .int .u8 0, .slice none 0 0] ac.cells (by rfl) (by rfl) (Blk.new wr _ _) (Nat.le_refl _) I29.out (act_one ac) ?_; intro w4 o4 z4 b4; rw [lay_all [.int .i64 0, .int .i64 0, .int .u8 0, .slice none 0 0] ac.cells rfl] at b4; simp only [Act.put]; have k0 : w4.cell? ⟨wr.heap.size, 0, none⟩ = some (.int .i64 ac.kind) := (b4.cell 0).trans rfl; have k1 : w4.cell? ⟨wr.heap.size, 1, none⟩ = some (.int .i64 ac.at_) := (b4.cell 1).trans rfl; have k2 : w4.cell? ⟨wr.heap.size, 2, none⟩ = some (.int .u8 ac.v) := (b4.cell 2).trans rfl; have k3 : w4.cell? ⟨wr.heap.size, 3, none⟩ = some (.slice ac.A ac.n ac.c) := (b4.cell 3).trans rfl; rw [HKD.out] at k0; have B4 := hide b4; clear b4))
        have oX : Only (fun i => i = wr.heap.size) wr w4 := ((Only.refl _ wr).alloc _).trans o4 (fun _ _ h => h)
        have t4 := tt.new oX (Nat.le_refl _)
        have nH : ¬ F wr.heap.size := fun h => by have := tt.st.lt _ h; omega
        have nG : ¬ G wr.heap.size := fun h => by have := tt.doc.lt _ h; omega
        have hz4 : wr.heap.size < w4.heap.size := B4.out.lt
        refine (sync_any _ b F D t4.st.rep (by omega)).mono ?_
        rintro e w5 hp
        obtain ⟨rfl, F5, t5, g5, o5⟩ := t4.dev hp
        clear hp
        go_wp2_with fail
        refine (docsync_any _ q G D t5.doc (by omega)).mono ?_
        rintro e w8 hp
        obtain ⟨rfl, G8, t8, g8, o8⟩ := t5.ref hp
        clear hp
        have hok8 := hok.sync
        have few8 := sync_few D
        obtain ⟨q4, qk, q0⟩ := t8.doc.cells
        generalize hDD : D.sync.1 = DD at *
        clear hDD
        go_wp2
        go_quiet (first
          | (go_at_call 22; exact Calls.quiet_of_same ((down_any _ b _ DD (t8.drewN _).st.rep).mono fun _ _ h => ⟨h.1, h.2.symm⟩))
          | (go_at_call 23; exact Calls.quiet_of_same ((size_any _ b _ DD (t8.drewN _).st.rep).mono fun _ _ h => ⟨h.1, h.2.symm⟩)))
        go_wp2
        go_roundw
        case rel => exact ⟨j + 1, _, _, DD, by omega, by go_num, t8.drewN nq, hok8, by omega⟩
        case measure => simp [intOf]; omega
      · have HKD := hide hkd
        clear hkd
        go_wp2_with (first
          | (refine wpList_load_mid rfl 29 _ rfl pb (po + j * 4) (by rfl) ac.cells _ HR.out u29.out rfl I29.out ?_; simp only [Act.put, List.setIfInBounds_toArray, List.set_cons_zero, List.set_cons_succ])
          | (refine wpList_alloc_agg rfl 29 rfl [.int .i64 0, .int .i64 0, .int .u8 0, .slice none 0 0] act_zero ?_; simp only [Act.put, List.setIfInBounds_toArray, List.set_cons_zero, List.set_cons_succ])
          | (refine wpList_store_blk rfl 29 _ _ rfl wr.heap.size 0 29 [.int .i64 0, .int .i64 0, .int .u8 0, .slice none 0 0] ac.cells (by rfl) (by rfl) (Blk.new wr _ _) (Nat.le_refl _) I29.out (act_one ac) ?_; intro w4 o4 z4 b4; rw [lay_all [.int .i64 0, .int .i64 0, .int .u8 0, .slice none 0 0] ac.cells rfl] at b4; simp only [Act.put]; have k0 : w4.cell? ⟨wr.heap.size, 0, none⟩ = some (.int .i64 ac.kind) := (b4.cell 0).trans rfl; have k1 : w4.cell? ⟨wr.heap.size, 1, none⟩ = some (.int .i64 ac.at_) := (b4.cell 1).trans rfl; have k2 : w4.cell? ⟨wr.heap.size, 2, none⟩ = some (.int .u8 ac.v) := (b4.cell 2).trans rfl; have k3 : w4.cell? ⟨wr.heap.size, 3, none⟩ = some (.slice ac.A ac.n ac.c) := (b4.cell 3).trans rfl; rw [HKD.out] at k0; have B4 := hide b4; clear b4))
        have oX : Only (fun i => i = wr.heap.size) wr w4 := ((Only.refl _ wr).alloc _).trans o4 (fun _ _ h => h)
        have t4 := tt.new oX (Nat.le_refl _)
        have nH : ¬ F wr.heap.size := fun h => by have := tt.st.lt _ h; omega
        have nG : ¬ G wr.heap.size := fun h => by have := tt.doc.lt _ h; omega
        have hz4 : wr.heap.size < w4.heap.size := B4.out.lt
        refine (budget_any _ b F D _ t4.st.rep HF.out.at_.2).mono ?_
        rintro e w5 ⟨rfl, r5, o5⟩
        have t5 := t4.devSame r5 o5
        have k1 : w5.cell? ⟨wr.heap.size, 1, none⟩ = some (.int .i64 ac.at_) := ((o5.blk B4.out nH).cell 1).trans rfl
        clear r5
        go_wp2_with fail
        refine (limit_any _ q G D _ t5.doc HF.out.at_.2).mono ?_
        rintro e w8 ⟨rfl, r8, o8⟩
        have t8 := t5.refSame r8 o8
        clear r8
        have hok8 := hok.limit ac.at_
        have few8 : (D.limit ac.at_).written.length ≤ D.written.length := Nat.le_refl _
        obtain ⟨q4, qk, q0⟩ := t8.doc.cells
        generalize hDD : D.limit ac.at_ = DD at *
        clear hDD
        go_wp2
        go_quiet (first
          | (go_at_call 22; exact Calls.quiet_of_same ((down_any _ b _ DD (t8.drewN _).st.rep).mono fun _ _ h => ⟨h.1, h.2.symm⟩))
          | (go_at_call 23; exact Calls.quiet_of_same ((size_any _ b _ DD (t8.drewN _).st.rep).mono fun _ _ h => ⟨h.1, h.2.symm⟩)))
        go_wp2
        go_roundw
        case rel => exact ⟨j + 1, _, _, DD, by omega, by go_num, t8.drewN nq, hok8, by omega⟩
        case measure => simp [intOf]; omega
      · have HKD := hide hkd
        clear hkd
        by_cases hk : ac.n ≤ 200
        · have hk' : (ac.n : Int) ≤ 200 := by omega
          go_wp2_with (first
            | (refine wpList_load_mid rfl 29 _ rfl pb (po + j * 4) (by rfl) ac.cells _ HR.out u29.out rfl I29.out ?_; simp only [Act.put, List.setIfInBounds_toArray, List.set_cons_zero, List.set_cons_succ])
            | (refine wpList_alloc_agg rfl 29 rfl [.int .i64 0, .int .i64 0, .int .u8 0, .slice none 0 0] act_zero ?_; simp only [Act.put, List.setIfInBounds_toArray, List.set_cons_zero, List.set_cons_succ])
            | (refine wpList_store_blk rfl 29 _ _ rfl wr.heap.size 0 29 [.int .i64 0, .int .i64 0, .int .u8 0, .slice none 0 0] ac.cells (by rfl) (by rfl) (Blk.new wr _ _) (Nat.le_refl _) I29.out (act_one ac) ?_; intro w4 o4 z4 b4; rw [lay_all [.int .i64 0, .int .i64 0, .int .u8 0, .slice none 0 0] ac.cells rfl] at b4; simp only [Act.put]; have k0 : w4.cell? ⟨wr.heap.size, 0, none⟩ = some (.int .i64 ac.kind) := (b4.cell 0).trans rfl; have k1 : w4.cell? ⟨wr.heap.size, 1, none⟩ = some (.int .i64 ac.at_) := (b4.cell 1).trans rfl; have k2 : w4.cell? ⟨wr.heap.size, 2, none⟩ = some (.int .u8 ac.v) := (b4.cell 2).trans rfl; have k3 : w4.cell? ⟨wr.heap.size, 3, none⟩ = some (.slice ac.A ac.n ac.c) := (b4.cell 3).trans rfl; rw [HKD.out] at k0; have B4 := hide b4; clear b4))
          have oX : Only (fun i => i = wr.heap.size) wr w4 := ((Only.refl _ wr).alloc _).trans o4 (fun _ _ h => h)
          have t4 := tt.new oX (Nat.le_refl _)
          have nH : ¬ F wr.heap.size := fun h => by have := tt.st.lt _ h; omega
          have nG : ¬ G wr.heap.size := fun h => by have := tt.doc.lt _ h; omega
          have hz4 : wr.heap.size < w4.heap.size := B4.out.lt
          have hB4 : Bys w4 ac.A ac.n ac.bs := bys_below (bys_below HF.out.bys hbw) (oX.below (Nat.le_refl _) (fun i hi => by omega))
          have hlow : ∀ hn : 0 < ac.n, ∀ ad : Addr, ac.A = some ad → ad.block < w1.heap.size := fun hn ad e => Nat.lt_of_lt_of_le (HF.out.bys.lt hn ad e) hb1.size
          have hapF : Apart ac.A ac.n F := fun hn ad e hf => by have := hlow hn ad e; have := tt.st.ge _ hf; omega
          have hapG : Apart ac.A ac.n G := fun hn ad e hf => by have := hlow hn ad e; have := tt.ge _ hf; omega
          refine (restart_any _ b F D _ _ _ ac.bs t4.st.rep (by omega) hB4 hapF (by omega)).mono ?_
          rintro e w5 hp
          obtain ⟨rfl, F5, t5, g5, o5⟩ := t4.dev hp
          clear hp
          have hB5 := hB4.keep o5 hapF
          have k3 : w5.cell? ⟨wr.heap.size, 3, none⟩ = some (.slice ac.A ac.n ac.c) := ((o5.blk B4.out nH).cell 3).trans rfl
          go_wp2_with fail
          refine (docrestart_any _ q G D _ _ _ ac.bs t5.doc (by omega) hB5 hapG (by omega)).mono ?_
          rintro e w8 hp
          obtain ⟨rfl, G8, t8, g8, o8⟩ := t5.ref hp
          clear hp
          have hok8 := hok.restart ac.bs
          have few8 : (D.restart ac.bs).written.length ≤ D.written.length := Nat.zero_le _
          obtain ⟨q4, qk, q0⟩ := t8.doc.cells
          generalize hDD : D.restart ac.bs = DD at *
          clear hDD
          go_wp2
          go_quiet (first
            | (go_at_call 22; exact Calls.quiet_of_same ((down_any _ b _ DD (t8.drewN _).st.rep).mono fun _ _ h => ⟨h.1, h.2.symm⟩))
            | (go_at_call 23; exact Calls.quiet_of_same ((size_any _ b _ DD (t8.drewN _).st.rep).mono fun _ _ h => ⟨h.1, h.2.symm⟩)))
          go_wp2
          go_roundw
          case rel => exact ⟨j + 1, _, _, DD, by omega, by go_num, t8.drewN nq, hok8, by omega⟩
          case measure => simp [intOf]; omega
        · have hk' : (200 : Int) < (ac.n : Int) := by omega
          go_wp2_with (first
            | (refine wpList_load_mid rfl 29 _ rfl pb (po + j * 4) (by rfl) ac.cells _ HR.out u29.out rfl I29.out ?_; simp only [Act.put, List.setIfInBounds_toArray, List.set_cons_zero, List.set_cons_succ])
            | (refine wpList_alloc_agg rfl 29 rfl [.int .i64 0, .int .i64 0, .int .u8 0, .slice none 0 0] act_zero ?_; simp only [Act.put, List.setIfInBounds_toArray, List.set_cons_zero, List.set_cons_succ])
            | (refine wpList_store_blk rfl 29 _ _ rfl wr.heap.size 0 29 [.int .i64 0, .int .i64 0, .int .u8 0, .slice none 0 0] ac.cells (by rfl) (by rfl) (Blk.new wr _ _) (Nat.le_refl _) I29.out (act_one ac) ?_; intro w4 o4 z4 b4; rw [lay_all [.int .i64 0, .int .i64 0, .int .u8 0, .slice none 0 0] ac.cells rfl] at b4; simp only [Act.put]; have k0 : w4.cell? ⟨wr.heap.size, 0, none⟩ = some (.int .i64 ac.kind) := (b4.cell 0).trans rfl; have k1 : w4.cell? ⟨wr.heap.size, 1, none⟩ = some (.int .i64 ac.at_) := (b4.cell 1).trans rfl; have k2 : w4.cell? ⟨wr.heap.size, 2, none⟩ = some (.int .u8 ac.v) := (b4.cell 2).trans rfl; have k3 : w4.cell? ⟨wr.heap.size, 3, none⟩ = some (.slice ac.A ac.n ac.c) := (b4.cell 3).trans rfl; rw [HKD.out] at k0; have B4 := hide b4; clear b4))
          have oX : Only (fun i => i = wr.heap.size) wr w4 := ((Only.refl _ wr).alloc _).trans o4 (fun _ _ h => h)
          have t4 := tt.new oX (Nat.le_refl _)
          have nH : ¬ F wr.heap.size := fun h => by have := tt.st.lt _ h; omega
          have nG : ¬ G wr.heap.size := fun h => by have := tt.doc.lt _ h; omega
          have hz4 : wr.heap.size < w4.heap.size := B4.out.lt
          go_ret
          exact ⟨rfl, hbw.trans (oX.below hbw.size (fun i hi e => by have := hbw.size; omega))⟩
      · obtain ⟨n0, n1, n3, n4⟩ := hkd
        have HKD : Hid (ac.kind = ac.kind) := rfl
        obtain ⟨x, xe, hx⟩ : ∃ x xe, D.read ac.at_ = (x, xe) := ⟨_, _, rfl⟩
        have hxl : x.length = 128 := by have := read_128 tt.st.rep.good ac.at_; rw [hx] at this; exact this
        have HX := hide hx
        have Lx := hide hxl
        have Ix := hide (isz33' x hxl)
        clear hx hxl
        go_wp2_with (first
          | (refine wpList_load_mid rfl 29 _ rfl pb (po + j * 4) (by rfl) ac.cells _ HR.out u29.out rfl I29.out ?_; simp only [Act.put, List.setIfInBounds_toArray, List.set_cons_zero, List.set_cons_succ])
          | (refine wpList_alloc_agg rfl 29 rfl [.int .i64 0, .int .i64 0, .int .u8 0, .slice none 0 0] act_zero ?_; simp only [Act.put, List.setIfInBounds_toArray, List.set_cons_zero, List.set_cons_succ])
          | (refine wpList_store_blk rfl 29 _ _ rfl wr.heap.size 0 29 [.int .i64 0, .int .i64 0, .int .u8 0, .slice none 0 0] ac.cells (by rfl) (by rfl) (Blk.new wr _ _) (Nat.le_refl _) I29.out (act_one ac) ?_; intro w4 o4 z4 b4; rw [lay_all [.int .i64 0, .int .i64 0, .int .u8 0, .slice none 0 0] ac.cells rfl] at b4; simp only [Act.put]; have k0 : w4.cell? ⟨wr.heap.size, 0, none⟩ = some (.int .i64 ac.kind) := (b4.cell 0).trans rfl; have k1 : w4.cell? ⟨wr.heap.size, 1, none⟩ = some (.int .i64 ac.at_) := (b4.cell 1).trans rfl; have k2 : w4.cell? ⟨wr.heap.size, 2, none⟩ = some (.int .u8 ac.v) := (b4.cell 2).trans rfl; have k3 : w4.cell? ⟨wr.heap.size, 3, none⟩ = some (.slice ac.A ac.n ac.c) := (b4.cell 3).trans rfl; rw [HKD.out] at k0; have B4 := hide b4; clear b4))
        have oX : Only (fun i => i = wr.heap.size) wr w4 := ((Only.refl _ wr).alloc _).trans o4 (fun _ _ h => h)
        have t4 := tt.new oX (Nat.le_refl _)
        have nH : ¬ F wr.heap.size := fun h => by have := tt.st.lt _ h; omega
        have nG : ¬ G wr.heap.size := fun h => by have := tt.doc.lt _ h; omega
        have hz4 : wr.heap.size < w4.heap.size := B4.out.lt
        refine (read_any _ b F D _ t4.st.rep).mono ?_
        rintro e wA ⟨rfl, hbA⟩
        rw [HX.out]
        have tA := t4.under hbA
        have BA : Hid (Blk wA wr.heap.size 29 ac.cells) := (hbA.block _ B4.out.lt).trans B4.out
        go_wp2_with (first
          | (refine wpList_alloc_agg rfl 33 rfl (enc zeroS) zero33 ?_; simp only [Act.put, List.setIfInBounds_toArray, List.set_cons_zero, List.set_cons_succ])
          | (refine wpList_store_blk rfl 33 _ _ rfl wA.heap.size 0 33 (enc zeroS) (enc x) (by rfl) (by rfl) (Blk.new wA _ _) (Nat.le_of_eq (by rw [enc_length, enc_length, Lx.out, zeroS_length])) Ix.out (enc_one _) ?_; intro wB oB zB bB; rw [lay_all _ _ (by rw [enc_length, enc_length, Lx.out, zeroS_length])] at bB; have oB' : Only (fun i => i = wA.heap.size) wA wB := ((Only.refl _ wA).alloc _).trans oB (fun _ _ h => h); have tB := tA.new oB' (Nat.le_refl _); have k1 : wB.cell? ⟨wr.heap.size, 1, none⟩ = some (.int .i64 ac.at_) := ((oB'.blk BA.out (by have := BA.out.lt; omega)).cell 1).trans rfl; have BB := hide bB; clear bB zB oB; simp only [Act.put]))
        refine (docread_any _ q G D _ tB.doc hok (by omega)).mono ?_
        rintro e wC ⟨rfl, hbC⟩
        rw [HX.out]
        have tC := tB.under hbC
        have BC : Hid (Blk wC wA.heap.size 33 (enc x)) := (hbC.block _ BB.out.lt).trans BB.out
        go_wp2_with (first
          | (refine wpList_alloc_agg rfl 33 rfl (enc zeroS) zero33 ?_; simp only [Act.put, List.setIfInBounds_toArray, List.set_cons_zero, List.set_cons_succ])
          | (refine wpList_store_blk rfl 33 _ _ rfl wC.heap.size 0 33 (enc zeroS) (enc x) (by rfl) (by rfl) (Blk.new wC _ _) (Nat.le_of_eq (by rw [enc_length, enc_length, Lx.out, zeroS_length])) Ix.out (enc_one _) ?_; intro w8 o8 z8 b8; rw [lay_all _ _ (by rw [enc_length, enc_length, Lx.out, zeroS_length])] at b8; have o8' : Only (fun i => i = wC.heap.size) wC w8 := ((Only.refl _ wC).alloc _).trans o8 (fun _ _ h => h); have t8 := tC.new o8' (Nat.le_refl _); have B8 := hide b8; have C8 : Hid (Blk w8 wA.heap.size 33 (enc x)) := o8'.blk BC.out (by have := BC.out.lt; omega); clear b8 z8 o8; simp only [Act.put]; have l1 := loadSlab_run w8 wA.heap.size 0 x C8.out.whole Lx.out; have l2 := loadSlab_run w8 wC.heap.size 0 x B8.out.whole Lx.out; have q1 := neqSlab_run x x Lx.out Lx.out; have qq : (x == x) = true := by simp))
        have hok8 := hok
        have few8 : D.written.length ≤ D.written.length := Nat.le_refl _
        obtain ⟨q4, qk, q0⟩ := t8.doc.cells
        generalize hDD : D = DD at *
        clear hDD
        go_wp2
        go_quiet (first
          | (go_at_call 22; exact Calls.quiet_of_same ((down_any _ b _ DD (t8.drewN _).st.rep).mono fun _ _ h => ⟨h.1, h.2.symm⟩))
          | (go_at_call 23; exact Calls.quiet_of_same ((size_any _ b _ DD (t8.drewN _).st.rep).mono fun _ _ h => ⟨h.1, h.2.symm⟩)))
        go_wp2
        go_roundw
        case rel => exact ⟨j + 1, _, _, DD, by omega, by go_num, t8.drewN nq, hok8, by omega⟩
        case measure => simp [intOf]; omega
    · obtain ⟨q4, qk, q0⟩ := tt.doc.cells
      go_wp2
      clear hlt q4 q0
      go_loopw [137] (fun u wr => ∃ i : Nat, i ≤ D.kept.length ∧ u = .int .i64 i ∧ Two w1 wr b F q G D D) (fun u _ => D.kept.length - (intOf u).toNat)
      case atStart => exact ⟨0, by omega, rfl, tt⟩
      case round =>
        clear tt hbw
        obtain ⟨i, hi, rfl, tt⟩ := hrel
        have hbw : Below w.heap.size w wr := hb1.trans (tt.st.below.mono hb1.size)
        by_cases hlt : i < D.kept.length
        · have i0 : (0 : Int) ≤ (i : Int) := by omega
          have i1 : (i : Int) < (D.kept.length : Int) := by omega
          obtain ⟨x, hx⟩ : ∃ x, D.read i = (x, 0) := by
            have hh : D.has i = true := by simp [Dev.has, hlt]
            exact ⟨_, by unfold Dev.read; rw [if_pos hh]⟩
          have hkf := tt.st.rep.good.few
          have hxl : x.length = 128 := by have := read_128 tt.st.rep.good i; rw [hx] at this; exact this
          have HX := hide hx
          have Lx := hide hxl
          have Ix := hide (isz33' x hxl)
          clear hx hxl
          go_wp2_with fail
          refine (read_any _ b F D _ tt.st.rep).mono ?_
          rintro e wA ⟨rfl, hbA⟩
          rw [HX.out]
          have tA := tt.under hbA
          go_wp2_with (first
            | (refine wpList_alloc_agg rfl 33 rfl (enc zeroS) zero33 ?_; simp only [Act.put, List.setIfInBounds_toArray, List.set_cons_zero, List.set_cons_succ])
            | (refine wpList_store_blk rfl 33 _ _ rfl wA.heap.size 0 33 (enc zeroS) (enc x) (by rfl) (by rfl) (Blk.new wA _ _) (Nat.le_of_eq (by rw [enc_length, enc_length, Lx.out, zeroS_length])) Ix.out (enc_one _) ?_; intro wB oB zB bB; rw [lay_all _ _ (by rw [enc_length, enc_length, Lx.out, zeroS_length])] at bB; have oB' : Only (fun i => i = wA.heap.size) wA wB := ((Only.refl _ wA).alloc _).trans oB (fun _ _ h => h); have tB := tA.new oB' (Nat.le_refl _); have BB := hide bB; clear bB zB oB; simp only [Act.put]))
          refine (docread_any _ q G D _ tB.doc hok (by omega)).mono ?_
          rintro e wC ⟨rfl, hbC⟩
          rw [HX.out]
          have tC := tB.under hbC
          have BC : Hid (Blk wC wA.heap.size 33 (enc x)) := (hbC.block _ BB.out.lt).trans BB.out
          go_wp2_with (first
            | (refine wpList_alloc_agg rfl 33 rfl (enc zeroS) zero33 ?_; simp only [Act.put, List.setIfInBounds_toArray, List.set_cons_zero, List.set_cons_succ])
            | (refine wpList_store_blk rfl 33 _ _ rfl wC.heap.size 0 33 (enc zeroS) (enc x) (by rfl) (by rfl) (Blk.new wC _ _) (Nat.le_of_eq (by rw [enc_length, enc_length, Lx.out, zeroS_length])) Ix.out (enc_one _) ?_; intro w8 o8 z8 b8; rw [lay_all _ _ (by rw [enc_length, enc_length, Lx.out, zeroS_length])] at b8; have o8' : Only (fun i => i = wC.heap.size) wC w8 := ((Only.refl _ wC).alloc _).trans o8 (fun _ _ h => h); have t8 := tC.new o8' (Nat.le_refl _); have B8 := hide b8; have C8 : Hid (Blk w8 wA.heap.size 33 (enc x)) := o8'.blk BC.out (by have := BC.out.lt; omega); clear b8 z8 o8; simp only [Act.put]; have l1 := loadSlab_run w8 wA.heap.size 0 x C8.out.whole Lx.out; have l2 := loadSlab_run w8 wC.heap.size 0 x B8.out.whole Lx.out; have q1 := neqSlab_run x x Lx.out Lx.out; have qq : (x == x) = true := by simp))
          go_roundw
          case rel => exact ⟨i + 1, by omega, by go_num, t8⟩
          case measure => simp [intOf]; omega
        · have hi' : i = D.kept.length := by omega
          subst hi'
          go_wp2
          go_ret
          exact ⟨rfl, hbw⟩
theorem runs_any (w : World) (n : Int) (A : Option Addr) (na ca : Nat) (xs : List ActV) (hA : ActsIn w A na xs) :
    Calls Try.prog 6 #[.int .i64 n, .slice A na ca] w fun e w' => e = .returned (.bool true) ∧ Below w.heap.size w w' := by
  by_cases h : n ≤ 40 ∧ na ≤ 150
  · exact runs_main w n A na ca xs hA h.1 h.2
  · exact runs_skip w n A na ca (by omega)
end Go.Proofs.Ytjipgimnhkliaaa
