/-
  bynamelaw06.PieceReads answers true: the two readers side by side. No condition.
-/
import Derived.Test.YtjipgimnhkliaaaPieceSteps
namespace Go.Proofs.Ytjipgimnhkliaaa
open Go.RowKit

/-- The two readers, in one memory. -/
structure Both (w0 w : World) (g h q k : Nat) (r r2 : Rd) : Prop where
  rp : RdAt 96 w g h r
  rs : RdAt 78 w q k r2
  ne : g ≠ q ∧ k ≠ g ∧ h ≠ q
  ge : w0.heap.size ≤ g ∧ w0.heap.size ≤ q
  bel : Below w0.heap.size w0 w
section
variable {w0 w w' v : World} {g h q k X : Nat} {r r2 r' : Rd} {T : TypeId} {cs : List Value} {F : Nat → Prop}
theorem Both.left (b : Both w0 w g h q k r r2) (hR : RdAt 96 w' g h r') (ho : Only (fun i => i = g) w w') : Both w0 w' g h q k r' r2 :=
  ⟨hR, b.rs.keep ho (fun e => b.ne.1 e.symm) (fun e => b.ne.2.1 e), b.ne, b.ge, ho.under b.bel (fun i hi => by have := b.ge.1; omega)⟩
theorem Both.right (b : Both w0 w g h q k r r2) (hR : RdAt 78 w' q k r') (ho : Only (fun i => i = q) w w') : Both w0 w' g h q k r r' :=
  ⟨b.rp.keep ho (fun e => b.ne.1 e) (fun e => b.ne.2.2 e), hR, b.ne, b.ge, ho.under b.bel (fun i hi => by have := b.ge.2; omega)⟩
theorem Both.under (b : Both w0 w g h q k r r2) (hb : Below w.heap.size w w') : Both w0 w' g h q k r r2 :=
  ⟨b.rp.below hb, b.rs.below hb, b.ne, b.ge, Below.then_ b.bel hb⟩
theorem Both.drew (b : Both w0 w g h q k r r2) : Both w0 w.drew g h q k r r2 := ⟨b.rp, b.rs, b.ne, b.ge, b.bel.drew⟩
theorem Both.drewN (b : Both w0 w g h q k r r2) (n : Nat) : Both w0 (w.drewN n) g h q k r r2 :=
  b.under ⟨rfl, rfl, rfl, Nat.le_refl _, fun _ _ => rfl⟩
theorem only_undrew (ho : Only F v w') (hv : v = w ∨ v = w.drew ∨ v = w.drew.drew) : Only F w w' := by
  rcases hv with rfl | rfl | rfl
  · exact ho
  · exact ⟨ho.os, ho.tape, ho.output, ho.size, ho.block⟩
  · exact ⟨ho.os, ho.tape, ho.output, ho.size, ho.block⟩
end
theorem three {w v : World} (h : v = w ∨ v = w.drew ∨ v = w.drew.drew := by first | exact .inl rfl | exact .inr (.inl rfl) | exact .inr (.inr rfl)) : v = w ∨ v = w.drew ∨ v = w.drew.drew := h
set_option maxHeartbeats 4000000 in
set_option maxRecDepth 100000 in
theorem preads_skip (w : World) (A : Option Addr) (m c : Nat) (B : Option Addr) (l cB : Nat) (h : 500 < m ∨ 50 < l) :
    Calls Try.prog 12 #[.slice A m c, .slice B l cB] w fun e w' => e = .returned (.bool true) ∧ Below w.heap.size w w' := by
  have key : (500 : Int) < (m : Int) ∨ ((m : Int) ≤ 500 ∧ (50 : Int) < (l : Int)) := by omega
  clear h
  rcases key with h1 | ⟨h1, h2⟩
  all_goals
    go_enter Try.func12, Try.ntmps12
    go_wp2_with fail
    refine (palive_any w).mono ?_
    rintro e w1 ⟨rfl, hb1⟩
    go_wp2
    go_ret
    exact ⟨rfl, hb1⟩
set_option maxHeartbeats 16000000 in
set_option maxRecDepth 100000 in
theorem preads_any (w : World) (A : Option Addr) (m c : Nat) (bs : List Int) (B : Option Addr) (l cB : Nat) (xs : List StepV) (hB : Bys w A m bs) (hc : m ≤ c) (hX : StepsIn w B l xs) (hm : (m : Int) ≤ 500) (hl : (l : Int) ≤ 50) :
    Calls Try.prog 12 #[.slice A m c, .slice B l cB] w fun e w' => e = .returned (.bool true) ∧ Below w.heap.size w w' := by
  have HX := hide hX
  clear hX
  go_enter Try.func12, Try.ntmps12
  go_wp2_with fail
  refine (palive_any w).mono ?_
  rintro e w1 ⟨rfl, hb1⟩
  go_wp2_with fail
  refine (New_any w1 A m c bs (hB.below hb1) (by omega)).mono ?_
  rintro e w2 ⟨g, h, rfl, hR, hg, hh, hb2⟩
  have b2 := Below.then_ hb1 hb2
  obtain ⟨k, hS, hk⟩ : ∃ k, RdAt 78 (w2.alloc (.cells #[.slice A m c, .int .i64 0] 78)) w2.heap.size k ⟨bs, 0⟩ ∧ k ≠ g := by
    have bq := Blk.new w2 78 [.slice A m c, .int .i64 0]
    have hB2 := (hB.below b2).alloc (.cells #[.slice A m c, .int .i64 0] 78)
    by_cases h0 : 0 < m
    · obtain ⟨b, off, rfl, _⟩ := hB.2.2 h0
      have hlt := hB.lt h0 _ rfl
      have h1 := hb1.size
      have h2 := b2.size
      simp only at hlt
      exact ⟨b, ⟨_, m, c, bq, hB2, hc, fun _ => ⟨fun ad e => by injection e with e; rw [← e], by omega⟩, by simp; omega, by omega⟩, by omega⟩
    · exact ⟨w2.heap.size, ⟨_, m, c, bq, hB2, hc, fun h => absurd h h0, by simp, by omega⟩, by have := hR.lt.1; omega⟩
  have hlt2 := hR.lt
  have hs1 := hb1.size
  have hs2 := b2.size
  have bb : Both w (w2.alloc (.cells #[.slice A m c, .int .i64 0] 78)) g h w2.heap.size k ⟨bs, 0⟩ ⟨bs, 0⟩ :=
    ⟨hR.below ((Below.refl _ w2).alloc (Nat.le_refl _) _), hS, ⟨by omega, hk, by omega⟩, ⟨by omega, hs2⟩, Below.then_ b2 ((Below.refl _ w2).alloc (Nat.le_refl _) _)⟩
  obtain ⟨q, hq⟩ : ∃ q, q = w2.heap.size := ⟨_, rfl⟩
  rw [← hq] at bb
  clear hS hR hlt2 hs1 hs2 hg hh hb2 b2 hb1 hk
  go_wp2
  rw [← hq]
  clear hq
  go_loopw [8, 26] (fun _ i wr => ∃ (j : Nat) (r : Rd), j ≤ l ∧ i = .int .i64 j ∧ Both w wr g h q k r r) (fun _ i _ => l - (intOf i).toNat)
  case atStart => exact ⟨0, _, by omega, rfl, bb⟩
  case round =>
    obtain ⟨j, r, hj, rfl, bb⟩ := hrel
    by_cases hlt : j < l
    · obtain ⟨pb, po, hpA, hrange⟩ := HX.out.2.2 (by omega)
      obtain ⟨ac, hac⟩ : ∃ ac, xs[j]? = some ac := ⟨_, List.getElem?_eq_getElem (by rw [HX.out.1]; exact hlt)⟩
      have hr := range_under (hrange j ac hac) bb.bel
      have hfine := HX.out.2.1 ac (List.mem_of_getElem? hac)
      subst hpA
      have j0 : (0 : Int) ≤ (j : Int) := by omega
      have j1 : (j : Int) < (l : Int) := by omega
      have HR := hide hr
      have HF := hide hfine
      have u80 := hide Try.underlying80
      have I80 : Hid ((Try.prog.info? 80).map (·.size) = some ac.cells.length) := step_size
      clear hr hrange hac hfine
      have hkinds : ac.kind = 0 ∨ ac.kind = 1 ∨ ac.kind = 2 ∨ (ac.kind ≠ 0 ∧ ac.kind ≠ 1 ∧ ac.kind ≠ 2) := by omega
      rcases hkinds with hk | hk | hk | hk
      · have t0 : (ac.kind == 0) = true := by simpa using hk
        clear hk
        go_wp2_with (first
          | (refine wpList_load_mid rfl 80 _ rfl pb (po + j * 3) (by rfl) ac.cells _ HR.out u80.out rfl I80.out ?_; simp only [Act.put, List.setIfInBounds_toArray, List.set_cons_zero, List.set_cons_succ])
          | (refine wpList_alloc_agg rfl 80 rfl [.int .i64 0, .int .i64 0, .int .u64 0] step_zero ?_; simp only [Act.put, List.setIfInBounds_toArray, List.set_cons_zero, List.set_cons_succ])
          | (refine wpList_store_blk rfl 80 _ _ rfl wr.heap.size 0 80 [.int .i64 0, .int .i64 0, .int .u64 0] ac.cells (by rfl) (by rfl) (Blk.new wr _ _) (Nat.le_refl _) I80.out (step_one ac) ?_; intro w4 o4 z4 b4; rw [lay_all [.int .i64 0, .int .i64 0, .int .u64 0] ac.cells rfl] at b4; simp only [Act.put]; have k0 : w4.cell? ⟨wr.heap.size, 0, none⟩ = some (.int .i64 ac.kind) := b4.c0; have k1 : w4.cell? ⟨wr.heap.size, 1, none⟩ = some (.int .i64 ac.size) := b4.c1; have k2 : w4.cell? ⟨wr.heap.size, 2, none⟩ = some (.int .u64 ac.most) := b4.c2; have B4 := hide b4; clear b4))
        have oX : Only (fun i => i = wr.heap.size) wr w4 := ((Only.refl _ wr).alloc _).trans o4 (fun _ _ h => h)
        have bb4 := bb.under (oX.below (Nat.le_refl _) (fun i hi e => by omega))
        go_region_held (fun w' => w'.cell? ⟨wr.heap.size, 1, none⟩ = some (.int .i64 ac.size)) (exact k1)
          (first
            | (go_at_call 41; (first | (with_reducible refine (RFixed_any w4 g h r ac.size bb4.rp).mono ?_) | (with_reducible refine (RFixed_any w4.drew g h r ac.size bb4.drew.rp).mono ?_) | (with_reducible refine (RFixed_any w4.drew.drew g h r ac.size bb4.drew.drew.rp).mono ?_)); rintro e w5 ⟨rfl, hR5, ho5⟩; have ho5' : Only (fun i => i = g) w4 w5 := only_undrew ho5 three; have bb5 := bb4.left hR5 ho5'; have B5 : Hid (Blk w5 wr.heap.size 80 ac.cells) := ho5'.blk B4.out (fun e => by have := bb.rp.lt; have := bb.rs.lt; omega); have k1 : w5.cell? ⟨wr.heap.size, 1, none⟩ = some (.int .i64 ac.size) := B5.out.c1; have k2 : w5.cell? ⟨wr.heap.size, 2, none⟩ = some (.int .u64 ac.most) := B5.out.c2)
            | (go_at_call 43; (first | (with_reducible refine (reffixedof_any w5 q k r ac.size bb5.rs).mono ?_) | (with_reducible refine (reffixedof_any w5.drew q k r ac.size bb5.drew.rs).mono ?_) | (with_reducible refine (reffixedof_any w5.drew.drew q k r ac.size bb5.drew.drew.rs).mono ?_)); rintro e w6 ⟨rfl, hR6, ho6⟩; have ho6' : Only (fun i => i = q) w5 w6 := only_undrew ho6 three; have bb6 := bb5.right hR6 ho6'; have B6 : Hid (Blk w6 wr.heap.size 80 ac.cells) := ho6'.blk B5.out (fun e => by have := bb.rp.lt; have := bb.rs.lt; omega); have k1 : w6.cell? ⟨wr.heap.size, 1, none⟩ = some (.int .i64 ac.size) := B6.out.c1; have k2 : w6.cell? ⟨wr.heap.size, 2, none⟩ = some (.int .u64 ac.most) := B6.out.c2))
        all_goals
          generalize (r.fixed ac.size).2 = r' at *
          obtain ⟨Aq, nq, cq, bq, Bq, _⟩ := bb6.rs
          have hnq := Bq.1
          subst hnq
          have q0 := bq.c0
          have q1 := bq.c1
          clear B4 B5 B6 k0 k1 k2 HR HF
          go_wp2
          go_quiet (first | (go_at_call 34; exact Calls.quiet_of_same ((Left_any _ g h r' (show RdAt 96 (World.drewN _ _) g h r' from bb6.rp)).mono fun _ _ h => ⟨h.1, h.2.symm⟩)) | (go_at_call 33; exact Calls.quiet_of_same ((Err_any _ g h r' (show RdAt 96 (World.drewN _ _) g h r' from bb6.rp)).mono fun _ _ h => ⟨h.1, h.2.symm⟩)))
          go_wp2
          go_roundw
          case rel => exact ⟨j + 1, r', by omega, by simp, by first | exact bb6.drewN nq | exact (bb6.drew).drewN nq | exact bb6.drew.drew.drewN nq⟩
          case measure => simp [intOf]; omega
      · have t0 : (ac.kind == 0) = false := by simp [hk]
        have t1 : (ac.kind == 1) = true := by simpa using hk
        clear hk
        go_wp2_with (first
          | (refine wpList_load_mid rfl 80 _ rfl pb (po + j * 3) (by rfl) ac.cells _ HR.out u80.out rfl I80.out ?_; simp only [Act.put, List.setIfInBounds_toArray, List.set_cons_zero, List.set_cons_succ])
          | (refine wpList_alloc_agg rfl 80 rfl [.int .i64 0, .int .i64 0, .int .u64 0] step_zero ?_; simp only [Act.put, List.setIfInBounds_toArray, List.set_cons_zero, List.set_cons_succ])
          | (refine wpList_store_blk rfl 80 _ _ rfl wr.heap.size 0 80 [.int .i64 0, .int .i64 0, .int .u64 0] ac.cells (by rfl) (by rfl) (Blk.new wr _ _) (Nat.le_refl _) I80.out (step_one ac) ?_; intro w4 o4 z4 b4; rw [lay_all [.int .i64 0, .int .i64 0, .int .u64 0] ac.cells rfl] at b4; simp only [Act.put]; have k0 : w4.cell? ⟨wr.heap.size, 0, none⟩ = some (.int .i64 ac.kind) := b4.c0; have k1 : w4.cell? ⟨wr.heap.size, 1, none⟩ = some (.int .i64 ac.size) := b4.c1; have k2 : w4.cell? ⟨wr.heap.size, 2, none⟩ = some (.int .u64 ac.most) := b4.c2; have B4 := hide b4; clear b4))
        have oX : Only (fun i => i = wr.heap.size) wr w4 := ((Only.refl _ wr).alloc _).trans o4 (fun _ _ h => h)
        have bb4 := bb.under (oX.below (Nat.le_refl _) (fun i hi e => by omega))
        go_region_held (fun w' => w'.cell? ⟨wr.heap.size, 2, none⟩ = some (.int .u64 ac.most)) (exact k2)
          (first
            | (go_at_call 32; (first | (with_reducible refine (RCount_any w4 g h r ac.most bb4.rp HF.out.most).mono ?_) | (with_reducible refine (RCount_any w4.drew g h r ac.most bb4.drew.rp HF.out.most).mono ?_) | (with_reducible refine (RCount_any w4.drew.drew g h r ac.most bb4.drew.drew.rp HF.out.most).mono ?_)); rintro e w5 ⟨rfl, hR5, ho5⟩; have ho5' : Only (fun i => i = g) w4 w5 := only_undrew ho5 three; have bb5 := bb4.left hR5 ho5'; have B5 : Hid (Blk w5 wr.heap.size 80 ac.cells) := ho5'.blk B4.out (fun e => by have := bb.rp.lt; have := bb.rs.lt; omega); have k1 : w5.cell? ⟨wr.heap.size, 1, none⟩ = some (.int .i64 ac.size) := B5.out.c1; have k2 : w5.cell? ⟨wr.heap.size, 2, none⟩ = some (.int .u64 ac.most) := B5.out.c2)
            | (go_at_call 44; (first | (with_reducible refine (refcountof_any w5 q k r ac.most bb5.rs HF.out.most).mono ?_) | (with_reducible refine (refcountof_any w5.drew q k r ac.most bb5.drew.rs HF.out.most).mono ?_) | (with_reducible refine (refcountof_any w5.drew.drew q k r ac.most bb5.drew.drew.rs HF.out.most).mono ?_)); rintro e w6 ⟨rfl, hR6, ho6⟩; have ho6' : Only (fun i => i = q) w5 w6 := only_undrew ho6 three; have bb6 := bb5.right hR6 ho6'; have B6 : Hid (Blk w6 wr.heap.size 80 ac.cells) := ho6'.blk B5.out (fun e => by have := bb.rp.lt; have := bb.rs.lt; omega); have k1 : w6.cell? ⟨wr.heap.size, 1, none⟩ = some (.int .i64 ac.size) := B6.out.c1; have k2 : w6.cell? ⟨wr.heap.size, 2, none⟩ = some (.int .u64 ac.most) := B6.out.c2))
        all_goals
          generalize (r.count ac.most.toNat).2 = r' at *
          obtain ⟨Aq, nq, cq, bq, Bq, _⟩ := bb6.rs
          have hnq := Bq.1
          subst hnq
          have q0 := bq.c0
          have q1 := bq.c1
          clear B4 B5 B6 k0 k1 k2 HR HF
          go_wp2
          go_quiet (first | (go_at_call 34; exact Calls.quiet_of_same ((Left_any _ g h r' (show RdAt 96 (World.drewN _ _) g h r' from bb6.rp)).mono fun _ _ h => ⟨h.1, h.2.symm⟩)) | (go_at_call 33; exact Calls.quiet_of_same ((Err_any _ g h r' (show RdAt 96 (World.drewN _ _) g h r' from bb6.rp)).mono fun _ _ h => ⟨h.1, h.2.symm⟩)))
          go_wp2
          go_roundw
          case rel => exact ⟨j + 1, r', by omega, by simp, by first | exact bb6.drewN nq | exact (bb6.drew).drewN nq | exact bb6.drew.drew.drewN nq⟩
          case measure => simp [intOf]; omega
      · have t0 : (ac.kind == 0) = false := by simp [hk]
        have t1 : (ac.kind == 1) = false := by simp [hk]
        have t2 : (ac.kind == 2) = true := by simpa using hk
        clear hk
        go_wp2_with (first
          | (refine wpList_load_mid rfl 80 _ rfl pb (po + j * 3) (by rfl) ac.cells _ HR.out u80.out rfl I80.out ?_; simp only [Act.put, List.setIfInBounds_toArray, List.set_cons_zero, List.set_cons_succ])
          | (refine wpList_alloc_agg rfl 80 rfl [.int .i64 0, .int .i64 0, .int .u64 0] step_zero ?_; simp only [Act.put, List.setIfInBounds_toArray, List.set_cons_zero, List.set_cons_succ])
          | (refine wpList_store_blk rfl 80 _ _ rfl wr.heap.size 0 80 [.int .i64 0, .int .i64 0, .int .u64 0] ac.cells (by rfl) (by rfl) (Blk.new wr _ _) (Nat.le_refl _) I80.out (step_one ac) ?_; intro w4 o4 z4 b4; rw [lay_all [.int .i64 0, .int .i64 0, .int .u64 0] ac.cells rfl] at b4; simp only [Act.put]; have k0 : w4.cell? ⟨wr.heap.size, 0, none⟩ = some (.int .i64 ac.kind) := b4.c0; have k1 : w4.cell? ⟨wr.heap.size, 1, none⟩ = some (.int .i64 ac.size) := b4.c1; have k2 : w4.cell? ⟨wr.heap.size, 2, none⟩ = some (.int .u64 ac.most) := b4.c2; have B4 := hide b4; clear b4))
        have oX : Only (fun i => i = wr.heap.size) wr w4 := ((Only.refl _ wr).alloc _).trans o4 (fun _ _ h => h)
        have bb4 := bb.under (oX.below (Nat.le_refl _) (fun i hi e => by omega))
        obtain ⟨S, hS⟩ : ∃ S, S = ba (r.raw ac.size).1 := ⟨_, rfl⟩
        have hstr := hide (show ∀ (w' : World) (A' : Option Addr) (n' c' : Nat) (xs : List Int), Bys w' A' n' xs → xs = (r.raw ac.size).1 → (convert 24 9 (.slice A' n' c')).run Try.prog w' = .ok (.string S) w' from fun w' A' n' c' xs h e => by rw [hS, ← e]; exact run_str w' A' n' c' xs h)
        clear hS
        go_region_held (fun w' => w'.cell? ⟨wr.heap.size, 1, none⟩ = some (.int .i64 ac.size)) (exact k1)
          (first
            | (go_at_call 42; (first | (with_reducible refine (Raw_any w4 g h r ac.size bb4.rp).mono ?_) | (with_reducible refine (Raw_any w4.drew g h r ac.size bb4.drew.rp).mono ?_) | (with_reducible refine (Raw_any w4.drew.drew g h r ac.size bb4.drew.drew.rp).mono ?_)); rintro e w5 ⟨A5, n5, c5, rfl, hB5, _, hf5, hR5, ho5⟩; have ho5' : Only (fun i => i = g) w4 w5 := only_undrew ho5 three; have bb5 := bb4.left hR5 ho5'; have B5 : Hid (Blk w5 wr.heap.size 80 ac.cells) := ho5'.blk B4.out (fun e => by have := bb.rp.lt; have := bb.rs.lt; omega); have k1 : w5.cell? ⟨wr.heap.size, 1, none⟩ = some (.int .i64 ac.size) := B5.out.c1; have k2 : w5.cell? ⟨wr.heap.size, 2, none⟩ = some (.int .u64 ac.most) := B5.out.c2; have s50 := hstr.out w5 A5 n5 c5 _ hB5 rfl; have s51 := hstr.out w5.drew A5 n5 c5 _ hB5 rfl; have s52 := hstr.out w5.drew.drew A5 n5 c5 _ hB5 rfl)
            | (go_at_call 45; (first | (with_reducible refine (refraw_any w5 q k r ac.size bb5.rs).mono ?_) | (with_reducible refine (refraw_any w5.drew q k r ac.size bb5.drew.rs).mono ?_) | (with_reducible refine (refraw_any w5.drew.drew q k r ac.size bb5.drew.drew.rs).mono ?_)); rintro e w6 ⟨A6, n6, c6, rfl, hB6, _, hf6, hR6, ho6⟩; have ho6' : Only (fun i => i = q) w5 w6 := only_undrew ho6 three; have bb6 := bb5.right hR6 ho6'; have B6 : Hid (Blk w6 wr.heap.size 80 ac.cells) := ho6'.blk B5.out (fun e => by have := bb.rp.lt; have := bb.rs.lt; omega); have k1 : w6.cell? ⟨wr.heap.size, 1, none⟩ = some (.int .i64 ac.size) := B6.out.c1; have k2 : w6.cell? ⟨wr.heap.size, 2, none⟩ = some (.int .u64 ac.most) := B6.out.c2; have hBk := hB5.keep ho6' (fun h0 ad e hi => by have h1 := hB5.lt h0 ad e; have h2 := hf5 ad e; have h3 := bb.rs.lt.1; have h4 := B4.out.lt; simp only [World.drew] at h2; omega); have s60 := hstr.out w6 A6 n6 c6 _ hB6 rfl; have s61 := hstr.out w6.drew A6 n6 c6 _ hB6 rfl; have s62 := hstr.out w6.drew.drew A6 n6 c6 _ hB6 rfl; have s63 := hstr.out w6 A5 n5 c5 _ hBk rfl; have s64 := hstr.out w6.drew A5 n5 c5 _ hBk rfl; have s65 := hstr.out w6.drew.drew A5 n5 c5 _ hBk rfl; have s66 := hstr.out w6.drew.drew.drew A5 n5 c5 _ hBk rfl))
        all_goals
          generalize (r.raw ac.size).2 = r' at *
          obtain ⟨Aq, nq, cq, bq, Bq, _⟩ := bb6.rs
          have hnq := Bq.1
          subst hnq
          have q0 := bq.c0
          have q1 := bq.c1
          clear B4 B5 B6 k0 k1 k2 HR HF
          go_wp2
          go_quiet (first | (go_at_call 34; exact Calls.quiet_of_same ((Left_any _ g h r' (show RdAt 96 (World.drewN _ _) g h r' from bb6.rp)).mono fun _ _ h => ⟨h.1, h.2.symm⟩)) | (go_at_call 33; exact Calls.quiet_of_same ((Err_any _ g h r' (show RdAt 96 (World.drewN _ _) g h r' from bb6.rp)).mono fun _ _ h => ⟨h.1, h.2.symm⟩)))
          go_wp2
          go_roundw
          case rel => exact ⟨j + 1, r', by omega, by simp, by first | exact bb6.drewN nq | exact (bb6.drew).drewN nq | exact bb6.drew.drew.drewN nq⟩
          case measure => simp [intOf]; omega
      · have t0 : (ac.kind == 0) = false := by simp; omega
        have t1 : (ac.kind == 1) = false := by simp; omega
        have t2 : (ac.kind == 2) = false := by simp; omega
        clear hk
        go_wp2_with (first
          | (refine wpList_load_mid rfl 80 _ rfl pb (po + j * 3) (by rfl) ac.cells _ HR.out u80.out rfl I80.out ?_; simp only [Act.put, List.setIfInBounds_toArray, List.set_cons_zero, List.set_cons_succ])
          | (refine wpList_alloc_agg rfl 80 rfl [.int .i64 0, .int .i64 0, .int .u64 0] step_zero ?_; simp only [Act.put, List.setIfInBounds_toArray, List.set_cons_zero, List.set_cons_succ])
          | (refine wpList_store_blk rfl 80 _ _ rfl wr.heap.size 0 80 [.int .i64 0, .int .i64 0, .int .u64 0] ac.cells (by rfl) (by rfl) (Blk.new wr _ _) (Nat.le_refl _) I80.out (step_one ac) ?_; intro w4 o4 z4 b4; rw [lay_all [.int .i64 0, .int .i64 0, .int .u64 0] ac.cells rfl] at b4; simp only [Act.put]; have k0 : w4.cell? ⟨wr.heap.size, 0, none⟩ = some (.int .i64 ac.kind) := b4.c0; have k1 : w4.cell? ⟨wr.heap.size, 1, none⟩ = some (.int .i64 ac.size) := b4.c1; have k2 : w4.cell? ⟨wr.heap.size, 2, none⟩ = some (.int .u64 ac.most) := b4.c2; have B4 := hide b4; clear b4))
        have oX : Only (fun i => i = wr.heap.size) wr w4 := ((Only.refl _ wr).alloc _).trans o4 (fun _ _ h => h)
        have bb4 := bb.under (oX.below (Nat.le_refl _) (fun i hi e => by omega))
        obtain ⟨S, hS⟩ : ∃ S, S = ba (r.text ac.size).1 := ⟨_, rfl⟩
        have hstr := hide (show ∀ (w' : World) (A' : Option Addr) (n' c' : Nat) (xs : List Int), Bys w' A' n' xs → xs = (r.text ac.size).1 → (convert 24 9 (.slice A' n' c')).run Try.prog w' = .ok (.string S) w' from fun w' A' n' c' xs h e => by rw [hS, ← e]; exact run_str w' A' n' c' xs h)
        clear hS
        go_region_held (fun w' => w'.cell? ⟨wr.heap.size, 1, none⟩ = some (.int .i64 ac.size)) (exact k1)
          (first
            | (go_at_call 46; (first | (with_reducible refine (RText_any w4 g h r ac.size bb4.rp HF.out.size).mono ?_) | (with_reducible refine (RText_any w4.drew g h r ac.size bb4.drew.rp HF.out.size).mono ?_) | (with_reducible refine (RText_any w4.drew.drew g h r ac.size bb4.drew.drew.rp HF.out.size).mono ?_)); rintro e w5 ⟨A5, n5, c5, rfl, hB5, _, hf5, hR5, ho5⟩; have ho5' : Only (fun i => i = g) w4 w5 := only_undrew ho5 three; have bb5 := bb4.left hR5 ho5'; have B5 : Hid (Blk w5 wr.heap.size 80 ac.cells) := ho5'.blk B4.out (fun e => by have := bb.rp.lt; have := bb.rs.lt; omega); have k1 : w5.cell? ⟨wr.heap.size, 1, none⟩ = some (.int .i64 ac.size) := B5.out.c1; have k2 : w5.cell? ⟨wr.heap.size, 2, none⟩ = some (.int .u64 ac.most) := B5.out.c2; have s50 := hstr.out w5 A5 n5 c5 _ hB5 rfl; have s51 := hstr.out w5.drew A5 n5 c5 _ hB5 rfl; have s52 := hstr.out w5.drew.drew A5 n5 c5 _ hB5 rfl)
            | (go_at_call 47; (first | (with_reducible refine (reftextof_any w5 q k r ac.size bb5.rs HF.out.size).mono ?_) | (with_reducible refine (reftextof_any w5.drew q k r ac.size bb5.drew.rs HF.out.size).mono ?_) | (with_reducible refine (reftextof_any w5.drew.drew q k r ac.size bb5.drew.drew.rs HF.out.size).mono ?_)); rintro e w6 ⟨A6, n6, c6, rfl, hB6, _, hf6, hR6, ho6⟩; have ho6' : Only (fun i => i = q) w5 w6 := only_undrew ho6 three; have bb6 := bb5.right hR6 ho6'; have B6 : Hid (Blk w6 wr.heap.size 80 ac.cells) := ho6'.blk B5.out (fun e => by have := bb.rp.lt; have := bb.rs.lt; omega); have k1 : w6.cell? ⟨wr.heap.size, 1, none⟩ = some (.int .i64 ac.size) := B6.out.c1; have k2 : w6.cell? ⟨wr.heap.size, 2, none⟩ = some (.int .u64 ac.most) := B6.out.c2; have hBk := hB5.keep ho6' (fun h0 ad e hi => by have h1 := hB5.lt h0 ad e; have h2 := hf5 ad e; have h3 := bb.rs.lt.1; have h4 := B4.out.lt; simp only [World.drew] at h2; omega); have s60 := hstr.out w6 A6 n6 c6 _ hB6 rfl; have s61 := hstr.out w6.drew A6 n6 c6 _ hB6 rfl; have s62 := hstr.out w6.drew.drew A6 n6 c6 _ hB6 rfl; have s63 := hstr.out w6 A5 n5 c5 _ hBk rfl; have s64 := hstr.out w6.drew A5 n5 c5 _ hBk rfl; have s65 := hstr.out w6.drew.drew A5 n5 c5 _ hBk rfl; have s66 := hstr.out w6.drew.drew.drew A5 n5 c5 _ hBk rfl))
        all_goals
          generalize (r.text ac.size).2 = r' at *
          obtain ⟨Aq, nq, cq, bq, Bq, _⟩ := bb6.rs
          have hnq := Bq.1
          subst hnq
          have q0 := bq.c0
          have q1 := bq.c1
          clear B4 B5 B6 k0 k1 k2 HR HF
          go_wp2
          go_quiet (first | (go_at_call 34; exact Calls.quiet_of_same ((Left_any _ g h r' (show RdAt 96 (World.drewN _ _) g h r' from bb6.rp)).mono fun _ _ h => ⟨h.1, h.2.symm⟩)) | (go_at_call 33; exact Calls.quiet_of_same ((Err_any _ g h r' (show RdAt 96 (World.drewN _ _) g h r' from bb6.rp)).mono fun _ _ h => ⟨h.1, h.2.symm⟩)))
          go_wp2
          go_roundw
          case rel => exact ⟨j + 1, r', by omega, by simp, by first | exact bb6.drewN nq | exact (bb6.drew).drewN nq | exact bb6.drew.drew.drewN nq⟩
          case measure => simp [intOf]; omega
    · obtain rfl : j = l := by omega
      go_wp2
      go_ret
      exact ⟨rfl, bb.bel⟩
theorem preads_all (w : World) (A : Option Addr) (m c : Nat) (bs : List Int) (B : Option Addr) (l cB : Nat) (xs : List StepV) (hB : Bys w A m bs) (hc : m ≤ c) (hX : StepsIn w B l xs) :
    Calls Try.prog 12 #[.slice A m c, .slice B l cB] w fun e w' => e = .returned (.bool true) ∧ Below w.heap.size w w' := by
  by_cases h : 500 < m ∨ 50 < l
  · exact preads_skip w A m c B l cB h
  · exact preads_any w A m c bs B l cB xs hB hc hX (by omega) (by omega)
end Go.Proofs.Ytjipgimnhkliaaa
