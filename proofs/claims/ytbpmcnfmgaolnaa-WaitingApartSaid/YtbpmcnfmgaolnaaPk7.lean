import Derived.Test.YtbpmcnfmgaolnaaPk6
import Derived.Test.YtbpmcnfmgaolnaaPk2
import Derived.Test.YtbpmcnfmgaolnaaPk3
import Derived.Test.YtbpmcnfmgaolnaaPk4
/-
  digest: the eight numbers behind a piece.
-/
namespace Go.Proofs.Ytbpmcnfmgaolnaa
open Go.RowKit

attribute [local go_sem ↓] mkK_fold mkSt_fold loadK_fold loadSt_fold
theorem u_not2 (a : W32) : bits .xor .u32 (if IntKind.u32.signed = true then -1 else IntKind.u32.max) (u a) = u (~~~a) := u_not a
attribute [local go_sem] u_xor u_and u_or u_not u_add u_not2 mkSt_run
theorem St.list_len (s : St) : s.list.length = 8 := rfl
theorem ucells_st (s : St) : (ucells s.list).length = 8 := rfl
/-- The three variables, as they are made: in whatever order. -/
structure MixPre (w2 : World) (ws : List W32) (b1 b2 b4 b5 b6 : Bool) (v5 v6 v7 v15 v16 : Value) (w' : World) : Prop where
  below : Below w2.heap.size w2 w'
  c1 : b1 = true → v15 = .agg (ucells ws).toArray
  c2 : b2 = true → v16 = .agg (ucells Sha.keys).toArray
  a4 : b4 = true → ∃ g, v5 = .pointer (some ⟨g, 0, none⟩) ∧ Blk w' g 199 (ucells zeroK) ∧ w2.heap.size ≤ g
  a5 : b5 = true → ∃ g, v6 = .pointer (some ⟨g, 0, none⟩) ∧ Blk w' g 199 (ucells zeroK) ∧ w2.heap.size ≤ g
  a6 : b6 = true → ∃ g, v7 = .pointer (some ⟨g, 0, none⟩) ∧ Blk w' g 193 (ucells zeroSt) ∧ w2.heap.size ≤ g
  n45 : b4 = true → b5 = true → v5 ≠ v6
  n46 : b4 = true → b6 = true → v5 ≠ v7
  n56 : b5 = true → b6 = true → v6 ≠ v7
theorem MixPre.call {w2 : World} {ws : List W32} {b1 b2 b4 b5 b6 : Bool} {v5 v6 v7 v15 v16 : Value} {w' w'' : World} (h : MixPre w2 ws b1 b2 b4 b5 b6 v5 v6 v7 v15 v16 w') (hb : Below w'.heap.size w' w'') : MixPre w2 ws b1 b2 b4 b5 b6 v5 v6 v7 v15 v16 w'' := by
  refine ⟨Below.then_ h.below hb, h.c1, h.c2, fun e => ?_, fun e => ?_, fun e => ?_, h.n45, h.n46, h.n56⟩
  · obtain ⟨g, e1, e2, e3⟩ := h.a4 e; exact ⟨g, e1, e2.under hb, e3⟩
  · obtain ⟨g, e1, e2, e3⟩ := h.a5 e; exact ⟨g, e1, e2.under hb, e3⟩
  · obtain ⟨g, e1, e2, e3⟩ := h.a6 e; exact ⟨g, e1, e2.under hb, e3⟩
theorem MixPre.alloc {w2 : World} {ws : List W32} {b1 b2 b4 b5 b6 : Bool} {v5 v6 v7 v15 v16 : Value} {w' : World} (h : MixPre w2 ws b1 b2 b4 b5 b6 v5 v6 v7 v15 v16 w') (o : Obj) : MixPre w2 ws b1 b2 b4 b5 b6 v5 v6 v7 v15 v16 (w'.alloc o) :=
  h.call ((Below.refl _ w').alloc (Nat.le_refl _) o)
theorem MixPre.one {w2 : World} {ws : List W32} {b4 b5 b6 : Bool} {v5 v6 v7 v15 v16 : Value} {w' w'' : World} (h : MixPre w2 ws false false b4 b5 b6 v5 v6 v7 v15 v16 w') (hb : Below w'.heap.size w' w'') : MixPre w2 ws true false b4 b5 b6 v5 v6 v7 (.agg (ucells ws).toArray) v16 w'' := by
  have h2 := h.call hb
  exact ⟨h2.below, fun _ => rfl, fun e => (by cases e), h2.a4, h2.a5, h2.a6, h2.n45, h2.n46, h2.n56⟩
theorem MixPre.two {w2 : World} {ws : List W32} {b4 b5 b6 : Bool} {v5 v6 v7 v15 v16 : Value} {w' w'' : World} (h : MixPre w2 ws true false b4 b5 b6 v5 v6 v7 v15 v16 w') (hb : Below w'.heap.size w' w'') : MixPre w2 ws true true b4 b5 b6 v5 v6 v7 v15 (.agg (ucells Sha.keys).toArray) w'' := by
  have h2 := h.call hb
  exact ⟨h2.below, h2.c1, fun _ => rfl, h2.a4, h2.a5, h2.a6, h2.n45, h2.n46, h2.n56⟩
theorem ptr_ne {w' : World} {g : Nat} {t : TypeId} {cs : List Value} (h : Blk w' g t cs) : Value.pointer (some ⟨w'.heap.size, 0, none⟩) ≠ .pointer (some ⟨g, 0, none⟩) := by
  have := h.lt
  intro e
  injection e with e
  injection e with e
  injection e with e
  omega
theorem MixPre.four {w2 : World} {ws : List W32} {b1 b2 b5 b6 : Bool} {v5 v6 v7 v15 v16 : Value} {w' : World} (h : MixPre w2 ws b1 b2 false b5 b6 v5 v6 v7 v15 v16 w') :
    MixPre w2 ws b1 b2 true b5 b6 (.pointer (some ⟨w'.heap.size, 0, none⟩)) v6 v7 v15 v16 (w'.alloc (.cells (ucells zeroK).toArray 199)) := by
  have h2 := h.alloc (.cells (ucells zeroK).toArray 199)
  refine ⟨h2.below, h2.c1, h2.c2, fun _ => ⟨_, rfl, Blk.new _ _ _, h.below.size⟩, h2.a5, h2.a6, fun _ e => ?_, fun _ e => ?_, h2.n56⟩
  · obtain ⟨g, rfl, e2, _⟩ := h.a5 e; exact ptr_ne e2
  · obtain ⟨g, rfl, e2, _⟩ := h.a6 e; exact ptr_ne e2
theorem MixPre.five {w2 : World} {ws : List W32} {b1 b2 b4 b6 : Bool} {v5 v6 v7 v15 v16 : Value} {w' : World} (h : MixPre w2 ws b1 b2 b4 false b6 v5 v6 v7 v15 v16 w') :
    MixPre w2 ws b1 b2 b4 true b6 v5 (.pointer (some ⟨w'.heap.size, 0, none⟩)) v7 v15 v16 (w'.alloc (.cells (ucells zeroK).toArray 199)) := by
  have h2 := h.alloc (.cells (ucells zeroK).toArray 199)
  refine ⟨h2.below, h2.c1, h2.c2, h2.a4, fun _ => ⟨_, rfl, Blk.new _ _ _, h.below.size⟩, h2.a6, fun e _ => ?_, h2.n46, fun _ e => ?_⟩
  · obtain ⟨g, rfl, e2, _⟩ := h.a4 e; exact (ptr_ne e2).symm
  · obtain ⟨g, rfl, e2, _⟩ := h.a6 e; exact ptr_ne e2
theorem MixPre.six {w2 : World} {ws : List W32} {b1 b2 b4 b5 : Bool} {v5 v6 v7 v15 v16 : Value} {w' : World} (h : MixPre w2 ws b1 b2 b4 b5 false v5 v6 v7 v15 v16 w') :
    MixPre w2 ws b1 b2 b4 b5 true v5 v6 (.pointer (some ⟨w'.heap.size, 0, none⟩)) v15 v16 (w'.alloc (.cells (ucells zeroSt).toArray 193)) := by
  have h2 := h.alloc (.cells (ucells zeroSt).toArray 193)
  refine ⟨h2.below, h2.c1, h2.c2, h2.a4, h2.a5, fun _ => ⟨_, rfl, Blk.new _ _ _, h.below.size⟩, h2.n45, fun e _ => ?_, fun e _ => ?_⟩
  · obtain ⟨g, rfl, e2, _⟩ := h.a4 e; exact (ptr_ne e2).symm
  · obtain ⟨g, rfl, e2, _⟩ := h.a5 e; exact (ptr_ne e2).symm
def addTo (a b : List W32) (i : Nat) : List W32 := List.zipWith (· + ·) (a.take i) b ++ a.drop i
theorem addTo_get (s x : St) (i : Nat) (h : i < 8) : (addTo s.list x.list i).getD i 0 = s.list.getD i 0 := by
  rcases i with _ | _ | _ | _ | _ | _ | _ | _ | i
  all_goals first | rfl | omega
theorem addTo_set (s x : St) (i : Nat) (h : i < 8) : (addTo s.list x.list i).set i (s.list.getD i 0 + x.list.getD i 0) = addTo s.list x.list (i + 1) := by
  rcases i with _ | _ | _ | _ | _ | _ | _ | _ | i
  all_goals first | rfl | omega
theorem addTo_len (s x : St) (i : Nat) (h : i ≤ 8) : (addTo s.list x.list i).length = 8 := by
  rcases i with _ | _ | _ | _ | _ | _ | _ | _ | _ | i
  all_goals first | rfl | omega
theorem addTo_full (s x : St) : addTo s.list x.list 8 = (Sha.add s x).list := rfl
set_option maxHeartbeats 8000000 in
set_option maxRecDepth 100000 in
theorem mix_any (w : World) (s : St) (A : Option Addr) (n c : Nat) (bs : List Int) (hB : Bys w A n bs) (hn : 64 ≤ n) (hn2 : n ≤ 1000000000) :
    Calls Try.prog 143 #[.agg (ucells s.list).toArray, .slice A n c] w fun e w' => e = .returned (.agg (ucells (Sha.mix s bs).list).toArray) ∧ Below w.heap.size w w' := by
  have HU := hide Try.underlying199
  have HV := hide Try.underlying193
  have lz : (ucells zeroK).length = 64 := by rw [ucells_len]; rfl
  have ls : (ucells zeroSt).length = 8 := by rw [ucells_len]; rfl
  have hI := isK
  have hJ := isSt
  go_enter Try.func143, Try.ntmps143
  go_wp2_with (first
    | (refine wpList_alloc_agg rfl 193 rfl (ucells zeroSt) zeroSt_info ?_; simp only [Act.put, List.setIfInBounds_toArray, List.set_cons_zero, List.set_cons_succ, World.size_alloc])
    | (refine wpList_alloc_agg rfl 199 rfl (ucells zeroK) zeroK_info ?_; simp only [Act.put, List.setIfInBounds_toArray, List.set_cons_zero, List.set_cons_succ, World.size_alloc]))
  have B0 := hide (show Blk ((w.alloc (.cells (ucells s.list).toArray 193)).alloc (.cells (ucells zeroSt).toArray 193)) w.heap.size 193 (ucells s.list) from (Blk.new w _ _).alloc _)
  have B1 := hide (show Blk ((w.alloc (.cells (ucells s.list).toArray 193)).alloc (.cells (ucells zeroSt).toArray 193)) (w.heap.size + 1) 193 (ucells zeroSt) from Blk.new1 w _ _ _)
  have O0 := hide (show Below w.heap.size w ((w.alloc (.cells (ucells s.list).toArray 193)).alloc (.cells (ucells zeroSt).toArray 193)) from Below.then_ ((Below.refl _ w).alloc (Nat.le_refl _) _) ((Below.refl _ _).alloc (Nat.le_refl _) _))
  obtain ⟨w2, hw2⟩ : ∃ w2, w2 = ((w.alloc (.cells (ucells s.list).toArray 193)).alloc (.cells (ucells zeroSt).toArray 193)) := ⟨_, rfl⟩
  rw [← hw2] at B0 B1 O0 ⊢
  clear hw2
  have hB2 := hide (hB.below O0.out)
  have hSof : ∀ w', Below w2.heap.size w2 w' → w'.rangeAt w.heap.size 0 (ucells s.list) := fun w' hb => (B0.out.under hb).whole
  refine wp_region_held_drew (S := fun w' => w'.rangeAt w.heap.size 0 (ucells s.list)) (by kernel_rfl) (B0.out.whole) (fun hS => ?_)
  refine wpAnyH_take (i := 0) (v := ?_) rfl (by kernel_rfl) (by kernel_rfl) (by kernel_rfl) (fun _ _ _ h => h) (Or.inl ⟨by rfl, fun w' hSw => ?_⟩) hS ?_; rotate_left; focus (go_simp; with_reducible rfl)
  simp only [Act.put, List.setIfInBounds_toArray]
  refine wpAnyH_take (i := 3) (v := ?_) rfl (by kernel_rfl) (by kernel_rfl) (by kernel_rfl) (fun _ _ _ h => h) (Or.inl ⟨by rfl, fun w' hSw => ?_⟩) hS ?_; rotate_left; focus (have hld := loadSt_run w' w.heap.size 0 s.list hSw rfl; go_simp; with_reducible rfl)
  simp only [Act.put]
  refine wpAnyH_2c3 (m := 3) (fun b1 b2 b4 b5 b6 => #[true, b1, b2, true, b4, b5, b6, false, false, false]) (fun b1 b2 b4 b5 b6 a w' => ∃ v5 v6 v7 v15 v16, a = { tmps := List.toArray ((.agg (ucells s.list).toArray) :: (.slice A n c) :: (.pointer (some ⟨w.heap.size, 0, none⟩)) :: undef :: (.pointer (some ⟨w.heap.size + 1, 0, none⟩)) :: v5 :: v6 :: v7 :: undef :: undef :: undef :: undef :: undef :: undef :: (.slice A n c) :: v15 :: v16 :: (.agg (ucells s.list).toArray) :: undef :: undef :: undef :: undef :: undef :: undef :: undef :: undef :: undef :: undef :: undef :: undef :: undef :: undef :: undef :: undef :: undef :: undef :: undef :: undef :: undef :: undef :: undef :: undef :: undef :: undef :: undef :: undef :: undef :: undef :: undef :: undef :: undef :: undef :: undef :: undef :: undef :: undef :: undef :: undef :: undef :: undef :: undef :: undef :: undef :: undef :: undef :: undef :: undef :: undef :: undef :: undef :: undef :: undef :: undef :: undef :: undef :: undef :: undef :: undef :: undef :: undef :: undef :: undef :: undef :: undef :: undef :: undef :: undef :: undef :: undef :: undef :: undef :: undef :: undef :: undef :: undef :: undef :: undef :: undef :: undef :: undef :: undef :: undef :: undef :: undef :: undef :: undef :: undef :: undef :: undef :: undef :: undef :: []), defers := [] } ∧ MixPre w2 (Sha.spread bs) b1 b2 b4 b5 b6 v5 v6 v7 v15 v16 w') 1 2 4 5 6 ?_ ?_ ?_ ?_ ?_ ?_ ?_ ?_ ?_ ?_ ?_ ?_ 5 false false false false false (by simp) rfl _ _ ⟨undef, undef, undef, undef, undef, rfl, (Below.refl _ w2).drew, by simp, by simp, by simp, by simp, by simp, by simp, by simp, by simp⟩ hS
  · intro b1 b2 b4 b5 b6 h1 h2
    cases b1 <;> cases b2 <;> cases b4 <;> cases b5 <;> cases b6 <;> first | (exfalso; revert h1 h2; decide) | kernel_rfl
  · intros; rfl
  · intros; rfl
  · intros; rfl
  · intros; rfl
  · intros; rfl
  · rintro b4 b5 b6 a w' ⟨v5, v6, v7, v15, v16, rfl, h⟩
    refine wpOp_step rfl (fun K hK => ?_)
    go_simp
    refine (spread_any w' A n c bs (hB2.out.below h.below) hn hn2).mono ?_
    rintro e w'' ⟨rfl, hb⟩
    go_simp
    have h9 := h.one hb
    exact hK _ _ ⟨hSof _ h9.below, _, _, _, _, _, rfl, h9⟩
  · rintro b4 b5 b6 a w' ⟨v5, v6, v7, v15, v16, rfl, h⟩
    refine wpOp_step rfl (fun K hK => ?_)
    go_simp
    refine (constants_any w').mono ?_
    rintro e w'' ⟨rfl, hb⟩
    go_simp
    have h9 := h.two hb
    exact hK _ _ ⟨hSof _ h9.below, _, _, _, _, _, rfl, h9⟩
  · rintro b1 b2 b5 b6 a w' ⟨v5, v6, v7, v15, v16, rfl, h⟩
    refine wpOp_step rfl (fun K hK => ?_)
    rw [if_pos (by rfl)]
    refine wp_alloc_agg 199 rfl (ucells zeroK) zeroK_info ?_
    exact hK _ _ ⟨hSof _ h.four.below, _, _, _, _, _, rfl, h.four⟩
  · rintro b1 b2 b4 b6 a w' ⟨v5, v6, v7, v15, v16, rfl, h⟩
    refine wpOp_step rfl (fun K hK => ?_)
    rw [if_pos (by rfl)]
    refine wp_alloc_agg 199 rfl (ucells zeroK) zeroK_info ?_
    exact hK _ _ ⟨hSof _ h.five.below, _, _, _, _, _, rfl, h.five⟩
  · rintro b1 b2 b4 b5 a w' ⟨v5, v6, v7, v15, v16, rfl, h⟩
    refine wpOp_step rfl (fun K hK => ?_)
    rw [if_pos (by rfl)]
    refine wp_alloc_agg 193 rfl (ucells zeroSt) zeroSt_info ?_
    exact hK _ _ ⟨hSof _ h.six.below, _, _, _, _, _, rfl, h.six⟩
  rintro a w' ⟨v5, v6, v7, v15, v16, rfl, h⟩ hS'
  obtain ⟨g5, rfl, K5, z5⟩ := h.a4 rfl
  obtain ⟨g6, rfl, K6, z6⟩ := h.a5 rfl
  obtain ⟨g7, rfl, K7, z7⟩ := h.a6 rfl
  obtain rfl := h.c1 rfl
  obtain rfl := h.c2 rfl
  have n56 : g5 ≠ g6 := fun e => h.n45 rfl rfl (by rw [e])
  have n57 : g5 ≠ g7 := fun e => h.n46 rfl rfl (by rw [e])
  have n67 : g6 ≠ g7 := fun e => h.n56 rfl rfl (by rw [e])
  have hb2 := h.below
  clear h
  have lW : (ucells (Sha.spread bs)).length = 64 := by rw [ucells_len, Sha.spread_len]
  have lK : (ucells Sha.keys).length = 64 := rfl
  have lS : (ucells s.list).length = 8 := rfl
  have o1 := ucells_one (Sha.spread bs)
  have o2 := ucells_one Sha.keys
  have o6 := ucells_one s.list
  generalize hgW : ucells (Sha.spread bs) = W at lW o1 ⊢
  generalize hgK : ucells Sha.keys = KK at lK o2 ⊢
  generalize hgS : ucells s.list = SL at lS o6 hS' hSof B0 ⊢
  generalize hgZ : ucells zeroK = Z at lz K5 K6 ⊢
  generalize hgY : ucells zeroSt = Y at ls K7 B1 ⊢
  refine wpAnyH_ready (rs := [7]) (by kernel_rfl) (by simp) ?_
  refine AllReadyH.cons rfl (fun K hK => ?_) AllReadyH.nil
  rw [if_pos (by rfl)]
  refine wp_store_blk 199 _ _ rfl g5 0 199 Z W (by rfl) (by rfl) K5 (by rw [lz, lW]; decide) (by rw [lW]; exact hI) o1 ?_
  intro w3 o3 y3 b3
  rw [lay_all _ _ (by rw [lz, lW])] at b3
  have hb3 := hb2.trans (o3.below hb2.size (fun i hi e => by have h9 : i = g5 := e; omega))
  have K6b := o3.blk K6 (fun e => n56 e.symm)
  have K7b := o3.blk K7 (fun e => n57 e.symm)
  refine hK.out _ _ (hSof _ hb3) (fun hS3 => ?_)
  clear hK K
  refine wpAnyH_ready (rs := [8]) (by kernel_rfl) (by simp) ?_
  refine AllReadyH.cons rfl (fun K hK => ?_) AllReadyH.nil
  rw [if_pos (by rfl)]
  refine wp_store_blk 199 _ _ rfl g6 0 199 Z KK (by rfl) (by rfl) K6b (by rw [lz, lK]; decide) (by rw [lK]; exact hI) o2 ?_
  intro w4 o4 y4 b4
  rw [lay_all _ _ (by rw [lz, lK])] at b4
  have hb4 := hb3.trans (o4.below hb3.size (fun i hi e => by have h9 : i = g6 := e; omega))
  have b3b := o4.blk b3 (fun e => n56 e)
  have K7c := o4.blk K7b (fun e => n67 e.symm)
  refine hK.out _ _ (hSof _ hb4) (fun hS4 => ?_)
  clear hK K
  refine wpAnyH_ready (rs := [9]) (by kernel_rfl) (by simp) ?_
  refine AllReadyH.cons rfl (fun K hK => ?_) AllReadyH.nil
  rw [if_pos (by rfl)]
  refine wp_store_blk 193 _ _ rfl g7 0 193 Y SL (by rfl) (by rfl) K7c (by rw [ls, lS]; decide) (by rw [lS]; exact hJ) o6 ?_
  intro w5 o5 y5 b5
  rw [lay_all _ _ (by rw [ls, lS])] at b5
  have hb5 := hb4.trans (o5.below hb4.size (fun i hi e => by have h9 : i = g7 := e; omega))
  have bW := hide (o5.blk b3b (fun e => n57 e))
  have bK := hide (o5.blk b4 (fun e => n67 e))
  have bX := hide b5
  refine hK.out _ _ (hSof _ hb5) (fun hS5 => ?_)
  clear hK K
  refine wpAnyH_done (by kernel_rfl) ?_ _
  have bS := hide (B0.out.under hb5)
  have bR := hide (B1.out.under hb5)
  have H57 := hide n57
  have H67 := hide n67
  have H5 := hide hb5
  have Z7 := hide z7
  subst hgW hgK hgS hgZ hgY
  clear o1 o2 o6 hSof hS' K5 K6 K7 K6b K7b K7c b3 b3b b4 b5 o3 o4 o5 y3 y4 y5 hb2 hb3 hb4 hb5 hS3 hS4 hS5 n56 n57 n67 z5 z6 z7 hS w'
  change Exit.then _ _ Exit.normal { tmps := List.toArray ((.agg (ucells s.list).toArray) :: (.slice A n c) :: (.pointer (some ⟨w.heap.size, 0, none⟩)) :: undef :: (.pointer (some ⟨w.heap.size + 1, 0, none⟩)) :: (.pointer (some ⟨g5, 0, none⟩)) :: (.pointer (some ⟨g6, 0, none⟩)) :: (.pointer (some ⟨g7, 0, none⟩)) :: undef :: undef :: undef :: undef :: undef :: undef :: (.slice A n c) :: (.agg (ucells (Sha.spread bs)).toArray) :: (.agg (ucells Sha.keys).toArray) :: (.agg (ucells s.list).toArray) :: undef :: undef :: undef :: undef :: undef :: undef :: undef :: undef :: undef :: undef :: undef :: undef :: undef :: undef :: undef :: undef :: undef :: undef :: undef :: undef :: undef :: undef :: undef :: undef :: undef :: undef :: undef :: undef :: undef :: undef :: undef :: undef :: undef :: undef :: undef :: undef :: undef :: undef :: undef :: undef :: undef :: undef :: undef :: undef :: undef :: undef :: undef :: undef :: undef :: undef :: undef :: undef :: undef :: undef :: undef :: undef :: undef :: undef :: undef :: undef :: undef :: undef :: undef :: undef :: undef :: undef :: undef :: undef :: undef :: undef :: undef :: undef :: undef :: undef :: undef :: undef :: undef :: undef :: undef :: undef :: undef :: undef :: undef :: undef :: undef :: undef :: undef :: undef :: undef :: undef :: undef :: undef :: undef :: []), defers := [] } w5
  have HSZ := hide B1.out.lt
  clear B0 B1
  go_wp2_with fail
  go_loopw [18] (fun i wr => ∃ j : Nat, j ≤ 64 ∧ i = .int .i64 j ∧ Blk wr g7 193 (ucells (Sha.rounds (Sha.spread bs) j s).list) ∧ Only (fun i => i = g7) w5 wr) (fun i _ => 64 - (intOf i).toNat)
  case atStart => exact ⟨0, by omega, rfl, bX.out, Only.refl _ _⟩
  case round =>
    obtain ⟨j, hj, rfl, hY, ho⟩ := hrel
    by_cases hlt : j < 64
    · have hK0 := ho.blk bK.out (fun e => H67.out e)
      have hW0 := ho.blk bW.out (fun e => H57.out e)
      have ck : wr.cell? ⟨g6, j, none⟩ = some (.int .u32 (u (Sha.keys.getD j 0))) := by rw [hK0.cell]; exact ucells_get _ _ (by rw [ucells_len] at lK; omega)
      have cw : wr.cell? ⟨g5, j, none⟩ = some (.int .u32 (u ((Sha.spread bs).getD j 0))) := by rw [hW0.cell]; exact ucells_get _ _ (by rw [Sha.spread_len]; omega)
      obtain ⟨X, hX⟩ : ∃ X, X = Sha.rounds (Sha.spread bs) j s := ⟨_, rfl⟩
      obtain ⟨KJ, hKJ⟩ : ∃ KJ, KJ = Sha.keys.getD j 0 := ⟨_, rfl⟩
      obtain ⟨WJ, hWJ⟩ : ∃ WJ, WJ = (Sha.spread bs).getD j 0 := ⟨_, rfl⟩
      have hnx : Sha.rounds (Sha.spread bs) (j + 1) s = Sha.round X KJ WJ := by rw [Sha.rounds, hX, hKJ, hWJ]
      rw [← hX] at hY
      rw [← hKJ] at ck
      rw [← hWJ] at cw
      clear hX hKJ hWJ hK0 hW0
      have HN := hide hnx
      clear hnx
      have HY := hide hY
      have HO := hide ho
      have x0 : wr.cell? ⟨g7, 0, none⟩ = some (.int .u32 (u X.a)) := (hY.cell 0).trans rfl
      have x1 : wr.cell? ⟨g7, 1, none⟩ = some (.int .u32 (u X.b)) := (hY.cell 1).trans rfl
      have x2 : wr.cell? ⟨g7, 2, none⟩ = some (.int .u32 (u X.c)) := (hY.cell 2).trans rfl
      have x3 : wr.cell? ⟨g7, 3, none⟩ = some (.int .u32 (u X.d)) := (hY.cell 3).trans rfl
      have x4 : wr.cell? ⟨g7, 4, none⟩ = some (.int .u32 (u X.e)) := (hY.cell 4).trans rfl
      have x5 : wr.cell? ⟨g7, 5, none⟩ = some (.int .u32 (u X.f)) := (hY.cell 5).trans rfl
      have x6 : wr.cell? ⟨g7, 6, none⟩ = some (.int .u32 (u X.g)) := (hY.cell 6).trans rfl
      have x7 : wr.cell? ⟨g7, 7, none⟩ = some (.int .u32 (u X.h)) := (hY.cell 7).trans rfl
      obtain ⟨J, hJJ⟩ : ∃ J : Int, J = (j : Int) := ⟨_, rfl⟩
      have p0 : (0 : Int) ≤ J := by omega
      have p1 : J < 64 := by omega
      have p2 : J.toNat = j := by omega
      have p3 : IntKind.i64.wrap (J + 1) = J + 1 := by rw [IntKind.wrap_i64]; omega
      have HJ := hide hJJ
      rw [← hJJ]
      clear hJJ hY ho
      go_wp2_with fail
      go_still (by kernel_rfl)
      change Exit.then _ _ _ _ wr.drew
      obtain ⟨w6, hw6⟩ : ∃ w6, w6 = wr.drew := ⟨_, rfl⟩
      rw [← hw6]
      change wr.drew.cell? _ = _ at x0 x1 x2 x3 x4 x5 x6 x7 ck cw
      rw [← hw6] at x0 x1 x2 x3 x4 x5 x6 x7 ck cw
      have HY6 := hide (show Blk w6 g7 193 (ucells X.list) by rw [hw6]; exact HY.out)
      have HO6 := hide (show Only (fun i => i = g7) w5 w6 by rw [hw6]; exact HO.out.drew)
      clear hw6 HY HO
      go_wp2_with fail
      refine wp_region_still_lit (by kernel_rfl) (by kernel_rfl) ?_
      repeat still_step
      still_call (turn_lit _ X.e 6 6 rfl (by decide) (by decide))
      repeat still_step
      still_call (turn_lit _ X.e 11 11 rfl (by decide) (by decide))
      repeat still_step
      still_call (turn_lit _ X.e 25 25 rfl (by decide) (by decide))
      repeat still_step
      refine wpStill_nil ?_
      change Exit.then _ _ _ _ w6.drew
      obtain ⟨w7, hw7⟩ : ∃ w7, w7 = w6.drew := ⟨_, rfl⟩
      rw [← hw7]
      change w6.drew.cell? _ = _ at x0 x1 x2 x3 x4 x5 x6 x7 ck cw
      rw [← hw7] at x0 x1 x2 x3 x4 x5 x6 x7 ck cw
      have HY7 := hide (show Blk w7 g7 193 (ucells X.list) by rw [hw7]; exact HY6.out)
      have HO7 := hide (show Only (fun i => i = g7) w5 w7 by rw [hw7]; exact HO6.out.drew)
      clear hw7 HY6 HO6
      obtain ⟨T, hT⟩ : ∃ T : W32, T = X.h + (BitVec.rotateRight X.e 6 ^^^ BitVec.rotateRight X.e 11 ^^^ BitVec.rotateRight X.e 25) + (X.e &&& X.f ^^^ ~~~X.e &&& X.g) + KJ + WJ := ⟨_, rfl⟩
      rw [← hT]
      have HT := hide hT
      clear hT
      go_wp2_with fail
      refine wp_region_still_lit (by kernel_rfl) (by kernel_rfl) ?_
      repeat still_step
      still_call (turn_lit _ X.a 2 2 rfl (by decide) (by decide))
      repeat still_step
      still_call (turn_lit _ X.a 13 13 rfl (by decide) (by decide))
      repeat still_step
      still_call (turn_lit _ X.a 22 22 rfl (by decide) (by decide))
      repeat still_step
      refine wpStill_nil ?_
      change Exit.then _ _ _ _ w7.drew
      obtain ⟨w8, hw8⟩ : ∃ w8, w8 = w7.drew := ⟨_, rfl⟩
      rw [← hw8]
      change w7.drew.cell? _ = _ at x0 x1 x2 x3 x4 x5 x6 x7 ck cw
      rw [← hw8] at x0 x1 x2 x3 x4 x5 x6 x7 ck cw
      have HY8 := hide (show Blk w8 g7 193 (ucells X.list) by rw [hw8]; exact HY7.out)
      have HO8 := hide (show Only (fun i => i = g7) w5 w8 by rw [hw8]; exact HO7.out.drew)
      clear hw8 HY7 HO7
      obtain ⟨V, hV⟩ : ∃ V : W32, V = (BitVec.rotateRight X.a 2 ^^^ BitVec.rotateRight X.a 13 ^^^ BitVec.rotateRight X.a 22) + (X.a &&& X.b ^^^ X.a &&& X.c ^^^ X.b &&& X.c) := ⟨_, rfl⟩
      rw [← hV]
      have hrd : Sha.round X KJ WJ = ⟨T + V, X.a, X.b, X.c, X.d + T, X.e, X.f, X.g⟩ := by rw [HT.out, hV]; rfl
      have HRD := hide (HN.out.trans hrd)
      clear hV hrd
      go_wp2_with (refine wpList_store_blk rfl 193 _ _ rfl g7 0 193 (ucells X.list) (ucells (⟨T + V, X.a, X.b, X.c, X.d + T, X.e, X.f, X.g⟩ : St).list) (by rfl) (by rfl) HY8.out (Nat.le_refl _) (by rw [ucells_st]; exact hJ) (ucells_one _) ?_; intro w10 o10 z10 b10; simp only [Act.put])
      rw [lay_all (ucells X.list) _ (by rfl), ← HRD.out] at b10
      exact ⟨⟨j + 1, by omega, congrArg (Value.int .i64) (by have := HJ.out; omega), b10, HO8.out.trans o10 (fun _ _ h => h)⟩, by have := HJ.out; simp [intOf]; omega⟩
    · obtain rfl : j = 64 := by omega
      obtain ⟨X, hX⟩ : ∃ X, X = Sha.rounds (Sha.spread bs) 64 s := ⟨_, rfl⟩
      rw [← hX] at hY
      have hmix : Sha.mix s bs = Sha.add s X := by rw [Sha.mix, hX]
      have HM := hide hmix
      obtain ⟨w6, hw6⟩ : ∃ w6, w6 = wr := ⟨_, rfl⟩
      rw [← hw6] at hY ho ⊢
      clear hw6 wr hX hmix
      have hsz : w.heap.size + 1 < w2.heap.size := HSZ.out
      have hg7 : w.heap.size < g7 ∧ w.heap.size + 1 < g7 := by have := Z7.out; omega
      have BS := hide (ho.blk bS.out (by have := Z7.out; omega))
      have BR := hide (ho.blk bR.out (by have := Z7.out; omega))
      have HB6 := hide (show Below w.heap.size w w6 from (Below.then_ O0.out H5.out).trans (ho.below (Nat.le_trans O0.out.size H5.out.size) (fun i hi e => by have h9 : i = g7 := e; omega)))
      have HG := hide hg7
      have HX := hide hY
      clear hY ho hsz hg7
      go_wp2_with fail
      go_loopw [98] (fun i wr => ∃ j : Nat, j ≤ 8 ∧ i = .int .i64 j ∧ Blk wr w.heap.size 193 (ucells (addTo s.list X.list j)) ∧ Only (fun i => i = w.heap.size) w6 wr) (fun i _ => 8 - (intOf i).toNat)
      case atStart => exact ⟨0, by omega, rfl, BS.out, Only.refl _ _⟩
      case round =>
        obtain ⟨j, hj, rfl, hY, ho⟩ := hrel
        by_cases hlt : j < 8
        · have hX0 := ho.blk HX.out (by have := HG.out; omega)
          have cx : wr.cell? ⟨g7, j, none⟩ = some (.int .u32 (u (X.list.getD j 0))) := by rw [hX0.cell]; exact ucells_get _ _ hlt
          have cs : wr.cell? ⟨w.heap.size, j, none⟩ = some (.int .u32 (u (s.list.getD j 0))) := by rw [hY.cell, ucells_get _ _ (by rw [addTo_len s X j hj]; exact hlt), addTo_get s X j hlt]
          have fs := hY.frozen j
          obtain ⟨XJ, hXJ⟩ : ∃ XJ, XJ = X.list.getD j 0 := ⟨_, rfl⟩
          obtain ⟨SJ, hSJ⟩ : ∃ SJ, SJ = s.list.getD j 0 := ⟨_, rfl⟩
          have hset := addTo_set s X j hlt
          rw [← hXJ, ← hSJ] at hset
          rw [← hXJ] at cx
          rw [← hSJ] at cs
          have HY := hide hY
          have HO := hide ho
          clear hXJ hSJ hX0 hY ho
          have i0 : (0 : Int) ≤ (j : Int) := by omega
          have i1 : (j : Int) < 8 := by omega
          have HS := hide hset
          clear hset
          go_wp2_with fail
          go_still_tail 8, (by kernel_rfl)
          change wpList _ _ _ _ _ wr.drew
          obtain ⟨w7, hw7⟩ : ∃ w7, w7 = wr.drew := ⟨_, rfl⟩
          rw [← hw7]
          change wr.drew.frozen? _ = _ at fs
          rw [← hw7] at fs
          have cs7 : w7.cell? ⟨w.heap.size, j, none⟩ = some (.int .u32 (u SJ)) := by rw [hw7]; exact cs
          have hY := (show Blk w7 w.heap.size 193 (ucells (addTo s.list X.list j)) by rw [hw7]; exact HY.out)
          have ho := (show Only (fun i => i = w.heap.size) w6 w7 by rw [hw7]; exact HO.out.drew)
          clear hw7 HY HO cs cx
          have hY2 := hide (hY.set_ j (.int .u32 (u (SJ + XJ))))
          rw [ucells_set, HS.out] at hY2
          have HO2 := hide (ho.trans (Only.cell1 w7 w.heap.size j (.int .u32 (u (SJ + XJ)))) (fun _ _ h => h))
          clear hY ho
          go_wp2_with fail
          refine ⟨?_, by simp [intOf]; omega⟩
          repeat apply Exists.intro
          exact ⟨⟨j + 1, by omega, by simp, hY2.out, HO2.out⟩, rfl⟩
        · obtain rfl : j = 8 := by omega
          rw [addTo_full, ← HM.out] at hY
          have HB7 := hide (show Below w.heap.size w wr from HB6.out.trans (ho.below HB6.out.size (fun i hi e => by have h9 : i = w.heap.size := e; omega)))
          have BR7 := hide (ho.blk BR.out (by omega))
          have HY := hide hY
          have lm : (ucells (Sha.mix s bs).list).length = 8 := rfl
          clear hY ho
          go_wp2_with (first
            | (refine wpList_load_blk rfl 193 _ rfl w.heap.size 0 193 (ucells (Sha.mix s bs).list) (ucells (Sha.mix s bs).list) _ (by rfl) HY.out (fun i v hv => by rw [Nat.zero_add]; exact hv) HV.out rfl (by rw [hJ, lm]) ?_; simp only [Act.put, List.setIfInBounds_toArray, List.set_cons_zero, List.set_cons_succ])
            | (refine wpList_store_blk rfl 193 _ _ rfl (w.heap.size + 1) 0 193 (ucells zeroSt) (ucells (Sha.mix s bs).list) (by rfl) (by rfl) BR7.out (by rw [ls, lm]; decide) (by rw [hJ, lm]) (ucells_one _) ?_; intro w9 o9 z9 b9; simp only [Act.put]))
          rw [lay_all (ucells zeroSt) _ (by rw [ls, lm])] at b9
          refine bodyPost_ret (results_cell_blk rfl _ _ (w.heap.size + 1) 193 _ _ (by rfl) b9 HV.out rfl (by rw [hJ, lm])) rfl ⟨rfl, ?_⟩
          exact HB7.out.trans (o9.below HB7.out.size (fun i hi e => by have h9 : i = w.heap.size + 1 := e; omega))
end Go.Proofs.Ytbpmcnfmgaolnaa
/-
  digest: the hasher: New, Add.
-/
namespace Go.Proofs.Ytbpmcnfmgaolnaa
open Go.RowKit

def hcells (s : St) (A : Option Addr) (n c : Nat) (many : Int) : List Value := ucells s.list ++ [.slice A n c, .int .u64 many]
theorem hcells_len (s : St) (A : Option Addr) (n c : Nat) (many : Int) : (hcells s A n c many).length = 10 := rfl
theorem hcells_one (s : St) (A : Option Addr) (n c : Nat) (many : Int) : ∀ v ∈ hcells s A n c many, v.oneCell' = true := by
  intro v hv
  rcases List.mem_append.1 hv with h | h
  · exact ucells_one _ v h
  · simp only [List.mem_cons, List.mem_nil_iff, or_false] at h
    rcases h with rfl | rfl <;> rfl
def mkH (parts : Array (Nat × Value)) : Sem Value := Instr.build 196 parts
theorem mkH_fold (parts : Array (Nat × Value)) : Instr.build 196 parts = mkH parts := rfl
theorem mkH_run (w : World) : (mkH #[(0, .agg (ucells Sha.first.list).toArray)]).run Try.prog w = .ok (.agg (hcells Sha.first none 0 0 0).toArray) w := by kernel_rfl
attribute [local go_sem ↓] mkK_fold mkSt_fold loadK_fold loadSt_fold mkH_fold
attribute [local go_sem] mkH_run
set_option maxHeartbeats 1000000 in
set_option maxRecDepth 100000 in
theorem HNew_any (w : World) :
    Calls Try.prog 138 #[] w fun e w' => ∃ g : Nat, e = .returned (.pointer (some ⟨g, 0, none⟩)) ∧ w.heap.size ≤ g ∧ Below w.heap.size w w' ∧ Blk w' g 196 (hcells Sha.first none 0 0 0) := by
  go_enter Try.func138, Try.ntmps138
  go_wp2_with fail
  refine (first_any _).mono ?_
  rintro e w1 ⟨rfl, hb⟩
  go_wp2_with fail
  go_ret
  exact ⟨_, rfl, hb.size, Below.then_ hb ((Below.refl _ w1).alloc (Nat.le_refl _) _), Blk.new _ _ _⟩
/-- The hasher's variable, and what its rest reads. -/
structure HS (w0 w : World) (g : Nat) (s : St) (A : Option Addr) (n c : Nat) (rest : List Int) (many : Int) : Prop where
  below : Below w0.heap.size w0 w
  base : w0.heap.size ≤ g
  blk : Blk w g 196 (hcells s A n c many)
  bys : Bys w A n rest
  cap : n ≤ c
  apart : Apart A n (fun i => i = g)
/-- The rest may be appended to. -/
def HOwn (w0 w : World) (g : Nat) (A : Option Addr) (n c : Nat) (rest : List Int) : Prop :=
  ∃ G, Tail w 5 (.slice A n c) rest G ∧ ¬ G g ∧ ∀ i, G i → w0.heap.size ≤ i
section
variable {w0 w w' : World} {g : Nat} {s : St} {A : Option Addr} {n c : Nat} {rest : List Int} {many : Int}
theorem HS.range (h : HS w0 w g s A n c rest many) : w.rangeAt g 0 (ucells s.list) := h.blk.range 0 _ fun j v hv => by
  rw [Nat.zero_add, hcells, List.getElem?_append_left (List.getElem?_eq_some_iff.1 hv).1]; exact hv
theorem HS.c8 (h : HS w0 w g s A n c rest many) : w.cell? ⟨g, 8, none⟩ = some (.slice A n c) := (h.blk.cell 8).trans rfl
theorem HS.c9 (h : HS w0 w g s A n c rest many) : w.cell? ⟨g, 9, none⟩ = some (.int .u64 many) := (h.blk.cell 9).trans rfl
theorem HS.set9 (h : HS w0 w g s A n c rest many) (m : Int) : HS w0 (w.setCell ⟨g, 9, none⟩ (.int .u64 m)) g s A n c rest m := by
  have hb := h.blk.set_ 9 (.int .u64 m)
  exact ⟨h.below.trans ((Only.cell1 w g 9 (.int .u64 m)).below h.below.size (fun i hi e => by have h9 : i = g := e; have := h.base; omega)), h.base, hb, h.bys.keep (Only.cell1 w g 9 _) h.apart, h.cap, h.apart⟩
theorem HS.set8 (h : HS w0 w g s A n c rest many) {A' : Option Addr} {n' c' : Nat} {rest' : List Int} (hB : Bys w A' n' rest') (hc : n' ≤ c') (ha : Apart A' n' (fun i => i = g)) : HS w0 (w.setCell ⟨g, 8, none⟩ (.slice A' n' c')) g s A' n' c' rest' many := by
  have hb := h.blk.set_ 8 (.slice A' n' c')
  exact ⟨h.below.trans ((Only.cell1 w g 8 _).below h.below.size (fun i hi e => by have h9 : i = g := e; have := h.base; omega)), h.base, hb, hB.keep (Only.cell1 w g 8 _) ha, hc, ha⟩
theorem HS.mk8 (hb : Below w0.heap.size w0 w) (hg : w0.heap.size ≤ g) (h : Blk w g 196 (hcells s A n c many)) {A' : Option Addr} {n' c' : Nat} {rest' : List Int} (hB : Bys w A' n' rest') (hc : n' ≤ c') (ha : Apart A' n' (fun i => i = g)) : HS w0 (w.setCell ⟨g, 8, none⟩ (.slice A' n' c')) g s A' n' c' rest' many := by
  have hb2 := h.set_ 8 (.slice A' n' c')
  exact ⟨hb.trans ((Only.cell1 w g 8 _).below hb.size (fun i hi e => by have h9 : i = g := e; omega)), hg, hb2, hB.keep (Only.cell1 w g 8 _) ha, hc, ha⟩
theorem HOwn.cell (h : HOwn w0 w g A n c rest) (i : Nat) (v : Value) (ha : Apart A n (fun i => i = g)) (hn : n = rest.length) : HOwn w0 (w.setCell ⟨g, i, none⟩ v) g A n c rest := by
  obtain ⟨G, h1, h2, h3⟩ := h
  refine ⟨G, h1.keep (Only.cell1 w g i v) (fun A' c' e => ?_) (fun i hi e => h2 (by have h9 : i = g := e; rwa [h9] at hi)), h2, h3⟩
  injection e with e1 e2 e3
  rw [← e1, ← hn]; exact ha
/-- What an append to the rest leaves. -/
theorem HS.appended (h : HS w0 w g s A n c rest many) {G G' : Nat → Prop} {A' : Option Addr} {c' m : Nat} {cs : List Int} (hGg : ¬ G g) (hG0 : ∀ i, G i → w0.heap.size ≤ i) (hm : cs.length = m)
    (ht : Tail w' 5 (.slice A' (rest.length + m) c') (rest ++ cs) G') (ho : Only G w w') (hs : ∀ i, G' i → G i ∨ w.heap.size ≤ i) (hk : (m = 0 ∧ Value.slice A' (rest.length + m) c' = .slice A n c) ∨ ∀ i, (Value.slice A' (rest.length + m) c').ownBlock = some i → G' i) :
    Below w0.heap.size w0 w' ∧ Blk w' g 196 (hcells s A n c many) ∧ HS w0 (w'.setCell ⟨g, 8, none⟩ (.slice A' (rest.length + m) c')) g s A' (rest.length + m) c' (rest ++ cs) many ∧ HOwn w0 (w'.setCell ⟨g, 8, none⟩ (.slice A' (rest.length + m) c')) g A' (rest.length + m) c' (rest ++ cs) := by
  have hlt := h.blk.lt
  have hG'g : ¬ G' g := fun e => by
    rcases hs g e with h1 | h1
    · exact hGg h1
    · omega
  have hb : Below w0.heap.size w0 w' := h.below.trans (ho.below h.below.size (fun i hi hg => by have := hG0 i hg; omega))
  have hblk := ho.blk h.blk hGg
  have ha : Apart A' (rest.length + m) (fun i => i = g) := by
    rcases hk with ⟨rfl, e⟩ | hk
    · injection e with e1 e2 e3
      subst e1 e2
      exact h.apart
    · intro hn ad e1 e2
      subst e1
      have h9 : ad.block = g := e2
      exact hG'g (by rw [← h9]; exact hk _ rfl)
  obtain ⟨A2, c2, e, hB, hc⟩ := ht.read
  have hl : (rest ++ cs).length = rest.length + m := by rw [List.length_append, hm]
  rw [hl] at e hB hc
  injection e with e1 e2 e3
  subst e1 e3
  refine ⟨hb, hblk, HS.mk8 hb h.base hblk hB hc ha, ?_⟩
  refine HOwn.cell ⟨G', ht, hG'g, fun i hi => ?_⟩ 8 _ ha hl.symm
  rcases hs i hi with h1 | h1
  · exact hG0 i h1
  · exact Nat.le_trans h.below.size h1
theorem HS.under (h : HS w0 w g s A n c rest many) (hb : Below w.heap.size w w') : HS w0 w' g s A n c rest many :=
  ⟨Below.then_ h.below hb, h.base, h.blk.under hb, h.bys.below hb, h.cap, h.apart⟩
theorem HS.drew (h : HS w0 w g s A n c rest many) : HS w0 w.drew g s A n c rest many := ⟨h.below.drew, h.base, h.blk, h.bys, h.cap, h.apart⟩
theorem lay_state (s s' : St) (A : Option Addr) (n c : Nat) (many : Int) : lay (hcells s A n c many) 0 (ucells s'.list) = hcells s' A n c many := rfl
end
theorem flat_take {α : Type} (l : List (List α)) (j : Nat) (x : List α) (h : l[j]? = some x) : (l.take (j + 1)).flatten = (l.take j).flatten ++ x := by
  rw [List.take_add_one, h]; simp
theorem flat_short {α : Type} (l : List (List α)) (j : Nat) (h : j < l.length) : (l.take j).flatten.length ≤ l.dropLast.flatten.length := by
  have e : l.dropLast = l.take j ++ (l.dropLast).drop j := by
    rw [List.dropLast_eq_take]
    have : (l.take (l.length - 1)).take j = l.take j := by rw [List.take_take, Nat.min_eq_left (by omega)]
    rw [← this, List.take_append_drop]
  rw [e]; simp
theorem flat_le {α : Type} (l : List (List α)) (j : Nat) : (l.take j).flatten.length ≤ l.flatten.length := by
  have e : l.flatten = (l.take j).flatten ++ (l.drop j).flatten := by rw [← List.flatten_append, List.take_append_drop]
  rw [e]; simp
/-- How many bytes the rest has, read off the variable. -/
def restAt (w : World) (g : Nat) : Nat := match w.cell? ⟨g, 8, none⟩ with | some (.slice _ n _) => n | _ => 0
theorem HS.restAt {w0 w : World} {g : Nat} {s : St} {A : Option Addr} {n c : Nat} {rest : List Int} {many : Int} (h : HS w0 w g s A n c rest many) : restAt w g = n := by
  unfold Go.Proofs.Ytbpmcnfmgaolnaa.restAt; rw [h.c8]
set_option maxHeartbeats 4000000 in
set_option maxRecDepth 100000 in
theorem HAdd_any (w0 w : World) (g : Nat) (A : Option Addr) (n c : Nat) (xss : List (List Int)) (hb : Below w0.heap.size w0 w) (hg : w0.heap.size ≤ g) (hH : Blk w g 196 (hcells Sha.first none 0 0 0)) (hX : Byss w0 A n xss) (hshort : xss.dropLast.flatten.length < 64) (hlong : xss.flatten.length ≤ 100000000) (hn : n ≤ 1000000) :
    Calls Try.prog 139 #[.pointer (some ⟨g, 0, none⟩), .slice A n c] w fun e w' => e = .returned (.tuple #[]) ∧ ∃ A' m c', HS w0 w' g (Sha.pieces (xss.flatten.length / 64) Sha.first xss.flatten) A' m c' (xss.flatten.drop (64 * (xss.flatten.length / 64))) (xss.flatten.length : Int) := by
  have H0 := hide (show HS w0 w g Sha.first none 0 0 [] 0 from ⟨hb, hg, hH, Bys.nil _ _, Nat.le_refl _, fun h => absurd h (by omega)⟩)
  have W0 := hide (show HOwn w0 w g none 0 0 [] from ⟨_, Tail.full (Bys.nil _ _), fun h => h, fun _ h => h.elim⟩)
  have HX := hide hX
  have HLIM := hide hn
  clear hb hg hH hn
  go_enter Try.func139, Try.ntmps139
  have hI := isSt
  go_wp2_with fail
  go_loopw [8] (fun i wr => ∃ j : Nat, j ≤ n ∧ i = .int .i64 j ∧ ∃ A' m c', HS w0 wr g (Sha.pieces ((xss.take j).flatten.length / 64) Sha.first (xss.take j).flatten) A' m c' ((xss.take j).flatten.drop (64 * ((xss.take j).flatten.length / 64))) ((xss.take j).flatten.length : Int) ∧ (j < n → HOwn w0 wr g A' m c' (xss.take j).flatten)) (fun i _ => n - (intOf i).toNat)
  case atStart => exact ⟨0, by omega, rfl, none, 0, 0, by simpa [Sha.pieces] using H0.out, fun _ => by simpa using W0.out⟩
  case round =>
    obtain ⟨j, hj, rfl, A1, m1, c1, hS, hO⟩ := hrel
    by_cases hlt : j < n
    · have hO := hO hlt
      have hlen : xss.length = n := hX.1
      have hsh : (xss.take j).flatten.length < 64 := Nat.lt_of_le_of_lt (flat_short xss j (by omega)) hshort
      obtain ⟨x, hx⟩ : ∃ x, xss[j]? = some x := ⟨_, List.getElem?_eq_getElem (by omega)⟩
      have htk := flat_take xss j x hx
      have hle := flat_le xss (j + 1)
      obtain ⟨b0, off0, rfl, hcells⟩ := hX.2 (by omega)
      obtain ⟨A2, n2, c2, hcell, hB2, hc2⟩ := hcells j x hx
      have hD0 : (xss.take j).flatten.length / 64 = 0 := by omega
      rw [hD0] at hS
      simp only [Nat.mul_zero, List.drop_zero, Sha.pieces] at hS
      rw [htk] at hle
      obtain ⟨D, hD⟩ : ∃ D, D = (xss.take j).flatten := ⟨_, rfl⟩
      rw [← hD] at hS hO hsh hle htk
      have hm1 : m1 = D.length := by have := hS.bys.1; omega
      have hn2 : n2 = x.length := by have := hB2.1; omega
      have HTK := hide htk
      have HX3 := hide hX
      obtain ⟨G, hT, hGg, hG0⟩ := hO
      subst hm1
      have hcj : wr.cell? ⟨b0, off0 + j, none⟩ = some (.slice A2 n2 c2) := (hS.below.cell (World.block_lt_of_cell? w0 _ hcell)).trans hcell
      have f9 := hS.blk.frozen 9
      have c9 := hS.c9
      have hle9 : D.length + x.length ≤ 100000000 := by rw [List.length_append] at hle; omega
      have v1 : IntKind.u64.wrap (n2 : Int) = n2 := by rw [IntKind.wrap_u64]; omega
      have v2 : IntKind.u64.wrap ((D.length : Int) + (n2 : Int)) = ((D ++ x).length : Int) := by rw [IntKind.wrap_u64, List.length_append]; omega
      have hS1 := hide (hS.set9 ((D ++ x).length : Int))
      have hT1 := hide (show Tail (wr.setCell ⟨g, 9, none⟩ (.int .u64 ((D ++ x).length : Int))) 5 (.slice A1 D.length c1) D G from hT.keep (Only.cell1 wr g 9 _) (fun A' c' e => by injection e with e1 e2 e3; subst e1; exact hS.apart) (fun i hi e => hGg (by have h9 : i = g := e; rwa [h9] at hi)))
      have hB3 := hide (show Bys (wr.setCell ⟨g, 9, none⟩ (.int .u64 ((D ++ x).length : Int))) A2 n2 x from (hB2.keep (Only.of_below hS1.out.below (fun _ => False)) (fun _ _ _ h => h)))
      have k8 := hS1.out.c8
      have hle2 := hide hle
      have HL : D.length + n2 ≤ 140737488355328 := by omega
      have HGG := hide hGg
      have HG0 := hide hG0
      have hj0 : (0 : Int) ≤ (j : Int) := by omega
      have hj1 : (j : Int) < (n : Int) := by omega
      obtain ⟨M, hM⟩ : ∃ M : Int, M = ((D ++ x).length : Int) := ⟨_, rfl⟩
      rw [← hM] at v2 hS1 hT1 hB3 k8
      have HM := hide hM
      have HL2 := hide HL
      have HN2 := hide hn2
      have HSHORT := hide hshort
      have HLONG := hide hlong
      clear htk hD hD0 hcells hX HX hM hS hT hle hcell hB2 hGg hG0 HL hsh hn2 hshort hlong hle9
      obtain ⟨i0, z0, hi0, hz0, hs0, hby0, hzs0⟩ := u8_info
      go_wp2_with (refine wpList_append_tail rfl _ _ 56 rfl 5 i0 z0 Try.underlying56 hi0 hz0 hs0 hby0 hzs0 (.slice A1 D.length c1) D G (by rfl) hT1.out A2 n2 c2 x (by rfl) hB3.out HL2.out ?_; intro A3 c3 G3 w3 t3 o3 s3 k3; obtain ⟨q1, q2, q3, q4⟩ := hS1.out.appended HGG.out HG0.out HN2.out.symm t3 o3 s3 k3; have f8 := q2.frozen 8; have c8 : w3.cell? ⟨g, 8, none⟩ = some (.slice A1 D.length c1) := (q2.cell 8).trans rfl; have q1' := hide q1; have q2' := hide q2; have q3' := hide q3; have q4' := hide q4; clear q1 q2 q3 q4 t3 o3 s3 k3; simp only [Act.put, List.setIfInBounds_toArray, List.set_cons_zero, List.set_cons_succ])
      obtain ⟨E, hE⟩ : ∃ E, E = D ++ x := ⟨_, rfl⟩
      have hLE : D.length + n2 = E.length := by rw [hE, List.length_append, HN2.out]
      have hME : M = (E.length : Int) := by rw [HM.out, hE]
      rw [← hE] at q3' q4' HTK hle2
      rw [hLE] at q3' q4' ⊢
      have HSH := hide (show j + 1 < n → E.length < 64 from fun h => by rw [← HTK.out]; exact Nat.lt_of_le_of_lt (flat_short xss (j + 1) (by rw [HX3.out.1]; exact h)) HSHORT.out)
      have HLL := hide (show E.length ≤ 100000000 by exact Nat.le_trans hle2.out HLONG.out)
      obtain ⟨w4, hw4⟩ : ∃ w4, w4 = w3.setCell ⟨g, 8, none⟩ (.slice A3 E.length c3) := ⟨_, rfl⟩
      rw [← hw4] at q3' q4' ⊢
      rw [hME] at q3'
      clear hw4 hE hLE hME f8 c8 q1' q2' hS1 hT1 hB3 k8 v1 v2 HM HL2 HGG HG0 HN2 c9 f9 hcj hx hle2 hO
      obtain ⟨J, hJ⟩ : ∃ J : Int, J = (j : Int) := ⟨_, rfl⟩
      have HJ := hide hJ
      rw [← hJ] at hj0 hj1 ⊢
      clear hJ
      go_loopw [36] (fun _ ws => ∃ k A' m c', HS w0 ws g (Sha.pieces k Sha.first E) A' m c' (E.drop (64 * k)) (E.length : Int) ∧ 64 * k + m = E.length ∧ (k = 0 → HOwn w0 ws g A' m c' E)) (fun _ ws => restAt ws g)
      case atStart => exact ⟨0, A3, E.length, c3, by simpa [Sha.pieces] using q3'.out, by omega, fun _ => q4'.out⟩
      case round =>
        obtain ⟨k, A5, m5, c5, hS, hkm, hO⟩ := hrel
        by_cases h64 : 64 ≤ m5
        · obtain ⟨AH, hr1, hr2, hr3, hr4⟩ := slice_head A5 m5 c5 64 h64 hS.cap
          obtain ⟨AT, ht1, ht2, ht3, ht4⟩ := slice_from A5 m5 c5 64 h64 hS.cap
          have hm0 : ((64 : Nat) : Int) = 64 := rfl
          rw [hm0] at hr1 hr2 ht1 ht2
          have hBH := hide (hr3 _ _ hS.bys)
          have hBT := hide (ht3 _ _ hS.bys)
          have haT : Apart AT (m5 - 64) (fun i => i = g) := fun hn ad e h9 => by
            obtain ⟨ad', e1, e2⟩ := ht4 ad e
            exact hS.apart (by omega) ad' e1 (by rw [← e2]; exact h9)
          have HAT := hide haT
          have c8 := hS.c8
          have HS5 := hide hS
          have h640 : (64 : Int) ≤ (m5 : Int) := by omega
          have hrest := hS.restAt
          clear hr3 hr4 ht3 ht4 hm0 haT hS hO
          go_wp2_with fail
          refine wp_region_held_drew (S := fun _ => True) (by kernel_rfl) trivial (fun _ => ?_)
          obtain ⟨w5, hw5⟩ : ∃ w5, w5 = wr.drew := ⟨_, rfl⟩
          rw [← hw5]
          have HS6 := hide (show HS w0 w5 g (Sha.pieces k Sha.first E) A5 m5 c5 (E.drop (64 * k)) (E.length : Int) by rw [hw5]; exact HS5.out.drew)
          have hBH6 := hide (show Bys w5 AH 64 ((E.drop (64 * k)).take 64) by rw [hw5]; exact hBH.out)
          have hBT6 := hide (show Bys w5 AT (m5 - 64) ((E.drop (64 * k)).drop 64) by rw [hw5]; exact hBT.out)
          have c86 : w5.cell? ⟨g, 8, none⟩ = some (.slice A5 m5 c5) := by rw [hw5]; exact c8
          have hld := loadSt_run w5 g 0 (Sha.pieces k Sha.first E).list HS6.out.range rfl
          clear hw5 HS5 hBH hBT c8
          refine wpAnyH_take (i := 0) (v := ?_) rfl (by kernel_rfl) (by kernel_rfl) (by kernel_rfl) (fun _ _ _ h => h) (Or.inl ⟨by rfl, fun w' _ => ?_⟩) trivial ?_; rotate_left; focus (go_simp; try with_reducible rfl)
          simp only [Act.put, List.setIfInBounds_toArray]
          refine wpAnyH_take (i := 1) (v := ?_) rfl (by kernel_rfl) (by kernel_rfl) (by kernel_rfl) (fun _ _ _ h => h) (Or.inl ⟨by rfl, fun w' _ => ?_⟩) trivial ?_; rotate_left; focus (go_simp; try with_reducible rfl)
          simp only [Act.put]
          refine wpAnyH_take (i := 2) (v := ?_) rfl (by kernel_rfl) (by kernel_rfl) (by kernel_rfl) (fun _ _ _ h => h) (Or.inl ⟨by rfl, fun w' _ => ?_⟩) trivial ?_; rotate_left; focus (go_simp; try with_reducible rfl)
          simp only [Act.put]
          refine wpAnyH_take (i := 3) (v := ?_) rfl (by kernel_rfl) (by kernel_rfl) (by kernel_rfl) (fun _ _ _ h => h) (Or.inl ⟨by rfl, fun w' _ => ?_⟩) trivial ?_; rotate_left; focus (go_simp; try with_reducible rfl)
          simp only [Act.put]
          refine wpAnyH_take (i := 5) (v := ?_) rfl (by kernel_rfl) (by kernel_rfl) (by kernel_rfl) (fun _ _ _ h => h) (Or.inl ⟨by rfl, fun w' _ => ?_⟩) trivial ?_; rotate_left; focus (go_simp; try with_reducible rfl)
          simp only [Act.put]
          refine wpAnyH_take (i := 6) (v := ?_) rfl (by kernel_rfl) (by kernel_rfl) (by kernel_rfl) (fun _ _ _ h => h) (Or.inl ⟨by rfl, fun w' _ => ?_⟩) trivial ?_; rotate_left; focus (go_simp; try with_reducible rfl)
          simp only [Act.put]
          refine wpAnyH_take (i := 7) (v := ?_) rfl (by kernel_rfl) (by kernel_rfl) (by kernel_rfl) (fun _ _ _ h => h) (Or.inl ⟨by rfl, fun w' _ => ?_⟩) trivial ?_; rotate_left; focus (go_simp; try with_reducible rfl)
          simp only [Act.put]
          refine wpAnyH_ready (rs := [4, 8]) (by kernel_rfl) (by simp) ?_
          refine AllReadyH.cons rfl (fun K hK => ?_) (AllReadyH.cons rfl (fun K hK => ?_) AllReadyH.nil)
          · go_simp
            refine hK.out _ _ trivial (fun _ => ?_)
            clear hK K
            refine wpAnyH_ready (rs := [8]) (by kernel_rfl) (by simp) ?_
            refine AllReadyH.cons rfl (fun K hK => ?_) AllReadyH.nil
            go_simp
            refine hK.out _ _ trivial (fun _ => ?_)
            clear hK K
            (refine wpAnyH_take (i := 9) (v := ?_) rfl (by kernel_rfl) (by kernel_rfl) (by kernel_rfl) (fun _ _ _ h => h) (Or.inl ⟨by rfl, fun w' _ => ?_⟩) trivial ?_; rotate_left; focus (go_simp; try with_reducible rfl))
            simp only [Act.put, List.setIfInBounds_toArray]
            refine wpAnyH_ready (rs := [10]) (by kernel_rfl) (by simp) ?_
            refine AllReadyH.cons rfl (fun K hK => ?_) AllReadyH.nil
            go_simp
            refine (mix_any w5 (Sha.pieces k Sha.first E) AH 64 c5 ((E.drop (64 * k)).take 64) hBH6.out (by omega) (by omega)).mono ?_
            rintro e w6 ⟨rfl, hb6⟩
            go_simp
            refine hK.out _ _ trivial (fun _ => ?_)
            clear hK K
            have HS7 := hide (HS6.out.under hb6)
            have hBT7 := hide (hBT6.out.below hb6)
            clear HS6 hBH6 hBT6 c86 hld hb6
            refine wpAnyH_take (i := 11) (v := ?_) rfl (by kernel_rfl) (by kernel_rfl) (by kernel_rfl) (fun _ _ _ h => h) (Or.inl ⟨by rfl, fun w' _ => ?_⟩) trivial ?_; rotate_left; focus (go_simp; try with_reducible rfl)
            simp only [Act.put, List.setIfInBounds_toArray]
            refine wpAnyH_take (i := 12) (v := ?_) rfl (by kernel_rfl) (by kernel_rfl) (by kernel_rfl) (fun _ _ _ h => h) (Or.inl ⟨by rfl, fun w' _ => ?_⟩) trivial ?_; rotate_left; focus (go_simp; try with_reducible rfl)
            simp only [Act.put]
            refine wpAnyH_ready (rs := [13]) (by kernel_rfl) (by simp) ?_
            refine AllReadyH.cons rfl (fun K hK => ?_) AllReadyH.nil
            rw [if_pos (by rfl)]
            refine wp_store_blk 193 _ _ rfl g 0 196 (hcells (Sha.pieces k Sha.first E) A5 m5 c5 (E.length : Int)) (ucells (Sha.mix (Sha.pieces k Sha.first E) ((E.drop (64 * k)).take 64)).list) (by rfl) (by rfl) HS7.out.blk (by rw [hcells_len, ucells_st]; decide) (by rw [ucells_st]; exact hI) (ucells_one _) ?_
            intro w7 o7 z7 b7
            rw [lay_state] at b7
            have f8 := b7.frozen 8
            have c8 : w7.cell? ⟨g, 8, none⟩ = some (.slice A5 m5 c5) := (b7.cell 8).trans rfl
            have o7' := hide o7
            have b7' := hide b7
            clear o7 b7 z7
            refine hK.out _ _ trivial (fun _ => ?_)
            clear hK K
            refine wpAnyH_done (by kernel_rfl) ?_ _
            simp only [Act.put]
            go_wp2_with fail
            have hb7 : Below w0.heap.size w0 w7 := HS7.out.below.trans (o7'.out.below HS7.out.below.size (fun i hi e => by have h9 : i = g := e; have := HS7.out.base; omega))
            have q := HS.mk8 hb7 HS7.out.base b7'.out (hBT7.out.keep o7'.out HAT.out) (show m5 - 64 ≤ c5 - 64 by have := HS7.out.cap; omega) HAT.out
            have e1 : Sha.mix (Sha.pieces k Sha.first E) ((E.drop (64 * k)).take 64) = Sha.pieces (k + 1) Sha.first E := by rw [Sha.pieces_add k 1]; rfl
            have e2 : (E.drop (64 * k)).drop 64 = E.drop (64 * (k + 1)) := by rw [List.drop_drop]; rfl
            rw [e1, e2] at q
            refine ⟨⟨k + 1, AT, m5 - 64, c5 - 64, q, by omega, fun h => absurd h (by omega)⟩, ?_⟩
            rw [q.restAt, hrest]
            omega
          · go_simp
            refine hK.out _ _ trivial (fun _ => ?_)
            clear hK K
            (refine wpAnyH_take (i := 9) (v := ?_) rfl (by kernel_rfl) (by kernel_rfl) (by kernel_rfl) (fun _ _ _ h => h) (Or.inl ⟨by rfl, fun w' _ => ?_⟩) trivial ?_; rotate_left; focus (go_simp; try with_reducible rfl))
            simp only [Act.put, List.setIfInBounds_toArray]
            refine wpAnyH_ready (rs := [4]) (by kernel_rfl) (by simp) ?_
            refine AllReadyH.cons rfl (fun K hK => ?_) AllReadyH.nil
            go_simp
            refine hK.out _ _ trivial (fun _ => ?_)
            clear hK K
            refine wpAnyH_ready (rs := [10]) (by kernel_rfl) (by simp) ?_
            refine AllReadyH.cons rfl (fun K hK => ?_) AllReadyH.nil
            go_simp
            refine (mix_any w5 (Sha.pieces k Sha.first E) AH 64 c5 ((E.drop (64 * k)).take 64) hBH6.out (by omega) (by omega)).mono ?_
            rintro e w6 ⟨rfl, hb6⟩
            go_simp
            refine hK.out _ _ trivial (fun _ => ?_)
            clear hK K
            have HS7 := hide (HS6.out.under hb6)
            have hBT7 := hide (hBT6.out.below hb6)
            clear HS6 hBH6 hBT6 c86 hld hb6
            refine wpAnyH_take (i := 11) (v := ?_) rfl (by kernel_rfl) (by kernel_rfl) (by kernel_rfl) (fun _ _ _ h => h) (Or.inl ⟨by rfl, fun w' _ => ?_⟩) trivial ?_; rotate_left; focus (go_simp; try with_reducible rfl)
            simp only [Act.put, List.setIfInBounds_toArray]
            refine wpAnyH_take (i := 12) (v := ?_) rfl (by kernel_rfl) (by kernel_rfl) (by kernel_rfl) (fun _ _ _ h => h) (Or.inl ⟨by rfl, fun w' _ => ?_⟩) trivial ?_; rotate_left; focus (go_simp; try with_reducible rfl)
            simp only [Act.put]
            refine wpAnyH_ready (rs := [13]) (by kernel_rfl) (by simp) ?_
            refine AllReadyH.cons rfl (fun K hK => ?_) AllReadyH.nil
            rw [if_pos (by rfl)]
            refine wp_store_blk 193 _ _ rfl g 0 196 (hcells (Sha.pieces k Sha.first E) A5 m5 c5 (E.length : Int)) (ucells (Sha.mix (Sha.pieces k Sha.first E) ((E.drop (64 * k)).take 64)).list) (by rfl) (by rfl) HS7.out.blk (by rw [hcells_len, ucells_st]; decide) (by rw [ucells_st]; exact hI) (ucells_one _) ?_
            intro w7 o7 z7 b7
            rw [lay_state] at b7
            have f8 := b7.frozen 8
            have c8 : w7.cell? ⟨g, 8, none⟩ = some (.slice A5 m5 c5) := (b7.cell 8).trans rfl
            have o7' := hide o7
            have b7' := hide b7
            clear o7 b7 z7
            refine hK.out _ _ trivial (fun _ => ?_)
            clear hK K
            refine wpAnyH_done (by kernel_rfl) ?_ _
            simp only [Act.put]
            go_wp2_with fail
            have hb7 : Below w0.heap.size w0 w7 := HS7.out.below.trans (o7'.out.below HS7.out.below.size (fun i hi e => by have h9 : i = g := e; have := HS7.out.base; omega))
            have q := HS.mk8 hb7 HS7.out.base b7'.out (hBT7.out.keep o7'.out HAT.out) (show m5 - 64 ≤ c5 - 64 by have := HS7.out.cap; omega) HAT.out
            have e1 : Sha.mix (Sha.pieces k Sha.first E) ((E.drop (64 * k)).take 64) = Sha.pieces (k + 1) Sha.first E := by rw [Sha.pieces_add k 1]; rfl
            have e2 : (E.drop (64 * k)).drop 64 = E.drop (64 * (k + 1)) := by rw [List.drop_drop]; rfl
            rw [e1, e2] at q
            refine ⟨⟨k + 1, AT, m5 - 64, c5 - 64, q, by omega, fun h => absurd h (by omega)⟩, ?_⟩
            rw [q.restAt, hrest]
            omega
        · have h640 : ¬ (64 : Int) ≤ (m5 : Int) := by omega
          have hk : k = E.length / 64 := by omega
          have c8 := hS.c8
          have HS5 := hide hS
          have HO5 := hide hO
          have HKM := hide hkm
          have HK := hide hk
          clear hS hO hkm hk
          have HJ2 : IntKind.i64.wrap (J + 1) = J + 1 := by rw [IntKind.wrap_i64]; have := HX3.out.1; have := HLIM.out; omega
          go_wp2_with fail
          refine ⟨⟨j + 1, by omega, congrArg (Value.int .i64) (by have := HJ.out; omega), A5, m5, c5, ?_, fun h => ?_⟩, by have := HJ.out; simp [intOf]; omega⟩
          · rw [HTK.out, ← HK.out]; exact HS5.out
          · rw [HTK.out]; exact HO5.out (by have := HSH.out h; have := HK.out; omega)
    · obtain rfl : j = n := by omega
      have hall : xss.take j = xss := List.take_of_length_le (by rw [hX.1]; exact Nat.le_refl _)
      rw [hall] at hS
      have HS5 := hide hS
      clear hS hO hall
      go_wp2_with fail
      go_end0
      exact ⟨rfl, _, _, _, HS5.out⟩
end Go.Proofs.Ytbpmcnfmgaolnaa
/-
  digest: the hasher's Sum.
-/
namespace Go.Proofs.Ytbpmcnfmgaolnaa
open Go.RowKit

attribute [local go_sem ↓] mkK_fold mkSt_fold loadK_fold loadSt_fold mkH_fold
attribute [local go_sem] mkH_run
theorem HS.read {w0 w : World} {g : Nat} {s : St} {A : Option Addr} {n c : Nat} {rest : List Int} {many : Int} (h : HS w0 w g s A n c rest many) {w' : World} (hb : Below w.heap.size w w') :
    w'.cell? ⟨g, 8, none⟩ = some (.slice A n c) ∧ w'.cell? ⟨g, 9, none⟩ = some (.int .u64 many) ∧ w'.rangeAt g 0 (ucells s.list) ∧ Bys w' A n rest := by
  have h2 := h.under hb
  exact ⟨h2.c8, h2.c9, h2.range, h2.bys⟩
def lenV (v : Value) : Nat := match v with | .slice _ n _ => n | _ => 0
def zero32 : List Int := List.replicate 32 0
theorem zero32_info : (Try.prog.info? 31).map (·.zero) = some (some (.agg (bcs zero32).toArray)) := by kernel_rfl
theorem shr64_run (n k : Nat) (hk : k ≤ 56) (w : World) : (Op.shift .shr .u64 (n : Int) .i64 (k : Int)).run Try.prog w = .ok (.int .u64 ((n / 2 ^ k : Nat) : Int)) w := by
  unfold Op.shift
  rw [if_neg (by omega)]
  have e : min (k : Int).toNat IntKind.u64.bits = k := by simp only [IntKind.bits]; omega
  simp only [e, Sem.run_pure]
  rw [Int.fdiv_eq_ediv_of_nonneg _ (Int.le_of_lt (Int.pow_pos (by decide)))]
  push_cast
  rfl
theorem eight_take (n j : Nat) (hj : j < 8) : (Sha.eight n).take (j + 1) = (Sha.eight n).take j ++ [((n / 256 ^ (7 - j) % 256 : Nat) : Int)] := by
  rw [List.take_add_one]
  congr 1
  simp only [Sha.eight, List.getElem?_map, List.getElem?_range hj, Option.map_some, Option.toList_some]
def outAt (F : St) (j : Nat) : List Int := (F.list.take j).flatMap Sha.four ++ List.replicate (32 - 4 * j) 0
def fb (X : W32) (d : Nat) : Int := ((X.toNat / d % 256 : Nat) : Int)
theorem out_step (F : St) (j : Nat) (hj : j < 8) : (((((bcs (outAt F j)).set (4 * j) (.int .u8 (fb (F.list.getD j 0) 16777216))).set (4 * j + 1) (.int .u8 (fb (F.list.getD j 0) 65536))).set (4 * j + 2) (.int .u8 (fb (F.list.getD j 0) 256))).set (4 * j + 3) (.int .u8 (((F.list.getD j 0).toNat % 256 : Nat) : Int))) = bcs (outAt F (j + 1)) := by
  rcases j with _ | _ | _ | _ | _ | _ | _ | _ | j
  all_goals first | rfl | omega
theorem index_run (F : St) (j : Nat) (hj : j < 8) (w : World) : (Instr.index 193 (.agg (ucells F.list).toArray) (.int .i64 (j : Int))).run Try.prog w = .ok (.int .u32 (u (F.list.getD j 0))) w := by
  rcases j with _ | _ | _ | _ | _ | _ | _ | _ | j
  all_goals first | (exfalso; omega) | kernel_rfl
theorem out_zero (F : St) : outAt F 0 = zero32 := rfl
theorem out_full (F : St) : outAt F 8 = F.bytes := by rw [outAt, List.take_of_length_le (by rw [F.list_len]; exact Nat.le_refl _)]; simp [St.bytes]
theorem out_len (F : St) (j : Nat) (hj : j ≤ 8) : (outAt F j).length = 32 := by
  rcases j with _ | _ | _ | _ | _ | _ | _ | _ | _ | j
  all_goals first | rfl | omega
set_option maxHeartbeats 4000000 in
set_option maxRecDepth 100000 in
theorem HSum_any (w0 w : World) (g : Nat) (A : Option Addr) (m c : Nat) (D : List Int) (hH : HS w0 w g (Sha.pieces (D.length / 64) Sha.first D) A m c (D.drop (64 * (D.length / 64))) (D.length : Int)) (hlong : D.length ≤ 100000000) :
    Calls Try.prog 140 #[.pointer (some ⟨g, 0, none⟩)] w fun e w' => e = .returned (.agg (bcs (sha D)).toArray) ∧ Below w.heap.size w w' := by
  have HH := hide hH
  have hI := isSt
  obtain ⟨rest, hrest⟩ : ∃ rest, rest = D.drop (64 * (D.length / 64)) := ⟨_, rfl⟩
  obtain ⟨st, hst⟩ : ∃ st, st = Sha.pieces (D.length / 64) Sha.first D := ⟨_, rfl⟩
  rw [← hrest, ← hst] at HH
  have hm : m = D.length % 64 := by have := HH.out.bys.1; rw [hrest, List.length_drop] at this; omega
  have HR := hide hrest
  have HT := hide hst
  have HL := hide hlong
  have HM := hide hm
  clear hH hrest hst hlong hm
  have c8 := HH.out.c8
  have c9 := HH.out.c9
  have b0 : Below w.heap.size w ((w.alloc (.cells (bcs zero32).toArray 31)).alloc (.cells #[] 5)) := Below.then_ ((Below.refl _ w).alloc (Nat.le_refl _) _) ((Below.refl _ _).alloc (Nat.le_refl _) _)
  obtain ⟨k8, k9, kr, kB⟩ := HH.out.read b0
  have KB := hide kB
  have KR := hide (show Blk ((w.alloc (.cells (bcs zero32).toArray 31)).alloc (.cells #[] 5)) w.heap.size 31 (bcs zero32) from (Blk.new w _ _).alloc _)
  have B0 := hide b0
  have SZ := hide (show ((w.alloc (.cells (bcs zero32).toArray 31)).alloc (.cells #[] 5)).heap.size = w.heap.size + 2 by simp)
  clear kr kB b0
  go_enter Try.func140, Try.ntmps140
  go_wp2_with (first
    | (refine wpList_alloc_agg rfl 31 rfl (bcs zero32) zero32_info ?_; simp only [Act.put, List.setIfInBounds_toArray, List.set_cons_zero, List.set_cons_succ])
    | (at_builtin; refine wpList_app rfl _ _ rfl ((w.alloc (.cells (bcs zero32).toArray 31)).alloc (.cells #[] 5)) _ 0 0 [] (by rfl) (Mine.nil (Below.refl _ _) _) A m c rest (by rfl) KB.out (by have := HM.out; have := HL.out; omega) ?_; intro A1 m1 c1 w1 t1 f1; simp only [Act.put, List.setIfInBounds_toArray, List.set_cons_zero, List.set_cons_succ])
    | (at_builtin; refine wpList_app rfl _ _ rfl ((w.alloc (.cells (bcs zero32).toArray 31)).alloc (.cells #[] 5)) A1 m1 c1 ([] ++ rest) (by rfl) (t1.alloc _) (some ⟨w1.heap.size, 0, none⟩) 1 1 [128] (by rfl) (Bys.one w1 _ 128 (by decide) (by decide)) (by have := HM.out; have := HL.out; have := t1.len; have := KB.out.1; simp at *; omega) ?_; intro A2 m2 c2 w2 t2 f2; simp only [Act.put, List.setIfInBounds_toArray, List.set_cons_zero, List.set_cons_succ]))
  have T2 := hide (show Mine 5 ((w.alloc (.cells (bcs zero32).toArray 31)).alloc (.cells #[] 5)) w2 A2 m2 c2 (rest ++ [128]) from t2)
  clear t1 f1 t2 f2 c8 c9 KB
  obtain ⟨W1, hW1⟩ : ∃ W1, W1 = ((w.alloc (.cells (bcs zero32).toArray 31)).alloc (.cells #[] 5)) := ⟨_, rfl⟩
  rw [← hW1] at T2 k8 k9 KR B0 SZ
  clear hW1
  have K8 := hide k8
  have K9 := hide k9
  clear k8 k9
  have hlr : rest.length = D.length % 64 := by rw [HR.out, List.length_drop]; omega
  have HLR := hide hlr
  clear hlr
  go_loopw [3] (fun b wr => ∃ (i : Nat) (A' : Option Addr) (m' c' : Nat), i ≤ Sha.zeros D.length ∧ b = .slice A' m' c' ∧ Mine 5 W1 wr A' m' c' (rest ++ 128 :: List.replicate i 0)) (fun b _ => 200 - lenV b)
  case atStart => exact ⟨0, A2, m2, c2, Nat.zero_le _, rfl, by simpa using T2.out⟩
  case round =>
    obtain ⟨i, A3, m3, c3, hi, rfl, ht⟩ := hrel
    have hm3 : m3 = D.length % 64 + 1 + i := by
      have := ht.len
      rw [List.length_append, List.length_cons, List.length_replicate, HLR.out] at this
      omega
    have HT3 := hide ht
    have hz : Sha.zeros D.length < 64 := Sha.zeros_lt _
    have hrm : (m3 : Int).tmod 64 = ((m3 % 64 : Nat) : Int) := by rw [Int.tmod_eq_emod_of_nonneg (by omega)]; omega
    obtain ⟨R, hR⟩ : ∃ R : Int, R = ((m3 % 64 : Nat) : Int) := ⟨_, rfl⟩
    rw [← hR] at hrm
    have hre : (m3 : Int) % 64 = R := by omega
    have HM3 := hide hm3
    by_cases hlt : i < Sha.zeros D.length
    · have hne : ¬ R = 56 := by unfold Sha.zeros at hlt; omega
      have HB := Bys.one wr 5 0 (by decide) (by decide)
      have HR3 := hide hR
      clear hR ht hz
      go_wp2_with (at_builtin; refine wpList_app rfl _ _ rfl W1 A3 m3 c3 (rest ++ 128 :: List.replicate i 0) (by rfl) (HT3.out.alloc _) (some ⟨wr.heap.size, 0, none⟩) 1 1 [0] (by rfl) HB (by have := Sha.zeros_lt D.length; have := HM3.out; omega) ?_; intro A4 m4 c4 w4 t4 f4; simp only [Act.put, List.setIfInBounds_toArray, List.set_cons_zero, List.set_cons_succ])
      have hm4 : m4 = m3 + 1 := by have := t4.len; rw [List.length_append, HT3.out.len] at this; simp at this; omega
      refine ⟨⟨i + 1, A4, m4, c4, by omega, rfl, ?_⟩, by have := Sha.zeros_lt D.length; have := HM3.out; simp only [lenV]; omega⟩
      have e : rest ++ 128 :: List.replicate (i + 1) (0 : Int) = rest ++ 128 :: List.replicate i 0 ++ [0] := by rw [List.replicate_succ']; simp
      rw [e]; exact t4
    · have hne : R = 56 := by unfold Sha.zeros at hlt hi; omega
      obtain rfl : i = Sha.zeros D.length := by omega
      have hb1 : Below w.heap.size w wr := Below.trans B0.out (HT3.out.below.mono (by rw [SZ.out]; omega))
      obtain ⟨k8, k9, kr, kB⟩ := HH.out.read hb1
      have KRR := hide kr
      have KR2 := hide (KR.out.under HT3.out.below)
      have HB1 := hide hb1
      have v8 : IntKind.u64.wrap (8 * (D.length : Int)) = ((8 * D.length : Nat) : Int) := by rw [IntKind.wrap_u64]; have := HL.out; omega
      clear hm3 hR ht hz kr kB hb1
      go_wp2_with fail
      obtain ⟨N, hN⟩ : ∃ N : Nat, N = 8 * D.length := ⟨_, rfl⟩
      have hNI : 8 * (D.length : Int) = (N : Int) := by omega
      rw [hNI]
      obtain ⟨w3, hw3⟩ : ∃ w3, w3 = wr := ⟨_, rfl⟩
      rw [← hw3] at HT3 k8 k9 KRR KR2 HB1 ⊢
      have K81 := hide k8
      have HNN := hide hN
      clear hw3 k8 k9 v8 hNI hN
      obtain ⟨b3, hb3⟩ : ∃ b3, b3 = rest ++ 128 :: List.replicate (Sha.zeros D.length) (0 : Int) := ⟨_, rfl⟩
      rw [← hb3] at HT3
      have HB3 := hide hb3
      have hl3 : b3.length ≤ 200 := by have := HT3.out.len; have := HM3.out; have := Sha.zeros_lt D.length; omega
      have HL3 := hide hl3
      clear hb3 hl3 hi hlt hre hne hrm wr
      go_loopw [3, 31] (fun b i wr => ∃ (j : Nat) (A' : Option Addr) (m' c' : Nat), j ≤ 8 ∧ i = .int .i64 j ∧ b = .slice A' m' c' ∧ Mine 5 W1 wr A' m' c' (b3 ++ (Sha.eight N).take j)) (fun _ i _ => 8 - (intOf i).toNat)
      case atStart => exact ⟨0, A3, m3, c3, by omega, rfl, rfl, by simpa using HT3.out⟩
      case round =>
        obtain ⟨j, A4, m4, c4, hj, rfl, rfl, ht⟩ := hrel
        have HT4 := hide ht
        by_cases hlt : j < 8
        · obtain ⟨J, hJ⟩ : ∃ J : Int, J = (j : Int) := ⟨_, rfl⟩
          obtain ⟨J8, hJ8⟩ : ∃ J8 : Int, J8 = 8 * (j : Int) := ⟨_, rfl⟩
          obtain ⟨SH, hSH⟩ : ∃ SH : Int, SH = ((56 - 8 * j : Nat) : Int) := ⟨_, rfl⟩
          obtain ⟨V, hV⟩ : ∃ V : Int, V = ((N / 2 ^ (56 - 8 * j) : Nat) : Int) := ⟨_, rfl⟩
          have a1 : IntKind.i64.wrap (8 * J) = J8 := by rw [IntKind.wrap_i64]; omega
          have a2 : IntKind.i64.wrap (56 - J8) = SH := by rw [IntKind.wrap_i64]; omega
          have a3 : IntKind.i64.wrap (J + 1) = J + 1 := by rw [IntKind.wrap_i64]; omega
          have hsh := shr64_run N (56 - 8 * j) (by omega)
          rw [← hSH, ← hV] at hsh
          obtain ⟨B, hB⟩ : ∃ B : Int, B = V % 256 := ⟨_, rfl⟩
          have hw8 : IntKind.u8.wrap V = B := by rw [u8_wrap, hB]
          have HBY := Bys.one wr 5 B (by omega) (by omega)
          have p0 : J < 8 := by omega
          have hbv : B = ((N / 256 ^ (7 - j) % 256 : Nat) : Int) := by
            rw [hB, hV]
            have e : (256 : Nat) ^ (7 - j) = 2 ^ (56 - 8 * j) := by rw [show (256 : Nat) = 2 ^ 8 from rfl, ← Nat.pow_mul]; congr 1; omega
            rw [e]; omega
          have HBV := hide hbv
          have HJ := hide hJ
          rw [← hJ]
          clear hJ hJ8 hSH hV hB hbv ht
          go_wp2_with (at_builtin; refine wpList_app rfl _ _ rfl W1 A4 m4 c4 (b3 ++ (Sha.eight N).take j) (by rfl) (HT4.out.alloc _) (some ⟨wr.heap.size, 0, none⟩) 1 1 [B] (by rfl) HBY (by have := HT4.out.len; have := HL3.out; rw [List.length_append, List.length_take, Sha.eight_len] at *; omega) ?_; intro A5 m5 c5 w5 t5 f5; simp only [Act.put, List.setIfInBounds_toArray, List.set_cons_zero, List.set_cons_succ])
          refine ⟨⟨j + 1, A5, m5, c5, by omega, congrArg (Value.int .i64) (by have := HJ.out; omega), rfl, ?_⟩, by have := HJ.out; simp [intOf]; omega⟩
          rw [eight_take N j hlt, ← HBV.out, ← List.append_assoc]
          exact t5
        · obtain rfl : j = 8 := by omega
          have hfull : b3 ++ (Sha.eight N).take 8 = rest ++ Sha.tail D.length := by
            rw [HB3.out, List.take_of_length_le (by rw [Sha.eight_len]; exact Nat.le_refl _), Sha.tail, HNN.out, Nat.mod_eq_of_lt (by have := HL.out; omega)]
            simp
          rw [hfull] at HT4
          have hb1 : Below w.heap.size w wr := Below.trans B0.out (HT4.out.below.mono (by rw [SZ.out]; omega))
          obtain ⟨k8, k9, kr, kB⟩ := HH.out.read hb1
          have KR4 := hide (KR.out.under HT4.out.below)
          have HB4 := hide hb1
          have hld := loadSt_run wr g 0 st.list kr rfl
          obtain ⟨w4, hw4⟩ : ∃ w4, w4 = wr := ⟨_, rfl⟩
          rw [← hw4] at HT4 KR4 HB4 hld ⊢
          clear hw4 ht hfull k8 k9 kr kB K81 KRR KR2 HB1 hb1 hlt hj wr
          have B6 := hide (Blk.new w4 193 (ucells zeroSt))
          have ls : (ucells zeroSt).length = 8 := rfl
          have HV := hide Try.underlying193
          go_wp2_with (first
            | (refine wpList_alloc_agg rfl 193 rfl (ucells zeroSt) zeroSt_info ?_; simp only [Act.put, List.setIfInBounds_toArray, List.set_cons_zero, List.set_cons_succ])
            | (refine wpList_store_blk rfl 193 _ _ rfl w4.heap.size 0 193 (ucells zeroSt) (ucells st.list) (by rfl) (by rfl) B6.out (by rw [ls, ucells_st]; decide) (by rw [hI, ucells_st]) (ucells_one _) ?_; intro w5 o5 z5 b5; simp only [Act.put]))
          rw [lay_all (ucells zeroSt) _ (by rw [ls, ucells_st])] at b5
          have hb5 : Below w4.heap.size w4 w5 := Below.trans ((Below.refl _ w4).alloc (Nat.le_refl _) _) (o5.below (by simp) (fun i hi e => by have h9 : i = w4.heap.size := e; omega))
          obtain ⟨PP, hPP⟩ : ∃ PP, PP = Sha.padded D := ⟨_, rfl⟩
          have hdrop : rest ++ Sha.tail D.length = PP.drop (64 * (D.length / 64)) := by
            rw [hPP, Sha.padded, List.drop_append_of_le_length (by omega), ← HR.out]
          have hst2 : st = Sha.pieces (D.length / 64) Sha.first PP := by
            rw [HT.out, hPP, Sha.padded, Sha.pieces_front _ _ _ _ (by omega)]
          have hwhole : PP.length % 64 = 0 := by rw [hPP]; exact Sha.padded_whole D
          have hplen : PP.length ≤ 1000000000 := by rw [hPP, Sha.padded_len]; have := Sha.zeros_lt D.length; have := HL.out; omega
          rw [hdrop] at HT4
          rw [hst2] at b5
          have hB4 := HT4.out.bys
          have hC4 := HT4.out.cap
          have hl4 : 64 * (D.length / 64) + m4 = PP.length := by have := HT4.out.len; rw [List.length_drop, hPP, Sha.padded_len] at this; rw [hPP, Sha.padded_len]; omega
          have HPP := hide hPP
          have HWH := hide hwhole
          have HPL := hide hplen
          have HO5 := hide hb5
          have HB5 := hide b5
          have HB4R := hide hB4
          clear hdrop hst2 hwhole hplen hPP hb5 b5 o5 z5 hB4 hld B6
          go_loopw [3] (fun b ws => ∃ (r : Nat) (A' : Option Addr) (m' c' : Nat), b = .slice A' m' c' ∧ Bys w4 A' m' (PP.drop (64 * r)) ∧ m' ≤ c' ∧ 64 * r + m' = PP.length ∧ Blk ws w4.heap.size 193 (ucells (Sha.pieces r Sha.first PP).list) ∧ Below w4.heap.size w4 ws) (fun b _ => lenV b)
          case atStart => exact ⟨D.length / 64, A4, m4, c4, rfl, HB4R.out, hC4, hl4, HB5.out, HO5.out⟩
          case round =>
            obtain ⟨r, A6, m6, c6, rfl, hB, hc, hl, hY, ho⟩ := hrel
            have hbw := hB.below ho
            by_cases hpos : 0 < m6
            · have h64 : 64 ≤ m6 := by have := HWH.out; omega
              obtain ⟨AH, hr1, hr2, hr3, _⟩ := slice_head A6 m6 c6 64 h64 hc
              obtain ⟨AT, ht1, ht2, ht3, _⟩ := slice_from A6 m6 c6 64 h64 hc
              have hm0 : ((64 : Nat) : Int) = 64 := rfl
              rw [hm0] at hr1 hr2 ht1 ht2
              have hBT := hide (ht3 _ _ hB)
              have hp0 : (0 : Int) < (m6 : Int) := by omega
              have h640 : (64 : Int) ≤ (m6 : Int) := by omega
              obtain ⟨w7, hw7⟩ : ∃ w7, w7 = wr.drew := ⟨_, rfl⟩
              have hBH := hide (show Bys w7 AH 64 ((PP.drop (64 * r)).take 64) by rw [hw7]; exact hr3 _ _ hbw)
              have hld := loadSt_run w7 w4.heap.size 0 (Sha.pieces r Sha.first PP).list (by rw [hw7]; exact hY.whole) rfl
              have hY7 := hide (show Blk w7 w4.heap.size 193 (ucells (Sha.pieces r Sha.first PP).list) by rw [hw7]; exact hY)
              have ho7 := hide (show Below w4.heap.size w4 w7 by rw [hw7]; exact ho.drew)
              have HLL := hide hl
              have HC6 := hide hc
              clear hr3 ht3 hB hbw hY ho hl hc
              go_wp2_with fail
              refine wp_region_still_tail 3 (by kernel_rfl) (by kernel_rfl) ?_
              simp only [List.take_succ_cons, List.take_zero, List.drop_succ_cons, List.drop_zero]
              change wpStill _ _ wr.drew (fun a' => wpList _ _ _ _ a' wr.drew) _ _
              rw [← hw7]
              clear hw7
              repeat still_step
              try refine wpStill_nil ?_
              go_wp2_with fail
              refine (mix_any w7 (Sha.pieces r Sha.first PP) AH 64 c6 ((PP.drop (64 * r)).take 64) hBH.out (by omega) (by omega)).mono ?_
              rintro e w8 ⟨rfl, hb8⟩
              have hY8 := hide (hY7.out.under hb8)
              have ho8 := hide (Below.then_ ho7.out hb8)
              clear hY7 ho7 hBH hld hb8
              go_wp2_with (refine wpList_store_blk rfl 193 _ _ rfl w4.heap.size 0 193 (ucells (Sha.pieces r Sha.first PP).list) (ucells (Sha.mix (Sha.pieces r Sha.first PP) ((PP.drop (64 * r)).take 64)).list) (by rfl) (by rfl) hY8.out (by rw [ucells_st, ucells_st]; decide) (by rw [hI, ucells_st]) (ucells_one _) ?_; intro w9 o9 z9 b9; simp only [Act.put])
              rw [lay_all (ucells (Sha.pieces r Sha.first PP).list) _ (by rw [ucells_st, ucells_st])] at b9
              have e1 : Sha.mix (Sha.pieces r Sha.first PP) ((PP.drop (64 * r)).take 64) = Sha.pieces (r + 1) Sha.first PP := by rw [Sha.pieces_add r 1]; rfl
              have e2 : (PP.drop (64 * r)).drop 64 = PP.drop (64 * (r + 1)) := by rw [List.drop_drop]; rfl
              rw [e1] at b9
              rw [e2] at hBT
              have hb9 : Below w4.heap.size w4 w9 := ho8.out.trans (o9.below ho8.out.size (fun i hi e => by have h9 : i = w4.heap.size := e; omega))
              refine ⟨?_, by show m6 - 64 < m6; omega⟩
              repeat apply Exists.intro
              exact ⟨⟨r + 1, AT, m6 - 64, c6 - 64, rfl, hBT.out, by have := HC6.out; omega, by have := HLL.out; omega, b9, hb9⟩, rfl⟩
            · obtain rfl : m6 = 0 := by omega
              obtain ⟨F, hF⟩ : ∃ F, F = Sha.pieces r Sha.first PP := ⟨_, rfl⟩
              have hsha : sha D = F.bytes := by
                rw [sha, hF, ← HPP.out]
                congr 2
                omega
              rw [← hF] at hY
              have HSHA := hide hsha
              have hb1 : Below w.heap.size w wr := HB4.out.trans (ho.mono HB4.out.size)
              have HB9 := hide hb1
              have KR9 := hide (KR4.out.under ho)
              have hp0 : ¬ (0 : Int) < ((0 : Nat) : Int) := by omega
              obtain ⟨w5, hw5⟩ : ∃ w5, w5 = wr := ⟨_, rfl⟩
              rw [← hw5] at hY HB9 KR9 ⊢
              have HSZ9 := hide (show w.heap.size < w5.heap.size from KR9.out.lt)
              have hld := loadSt_run (w5.alloc (.cells (bcs zero32).toArray 31)) w4.heap.size 0 F.list (hY.alloc _).whole rfl
              have B7 := hide (Blk.new w5 31 (bcs zero32))
              have K7 := hide (KR9.out.alloc (.cells (bcs zero32).toArray 31))
              have B8 := hide (Below.trans HB9.out (((Below.refl _ w5).alloc (Nat.le_refl _) (.cells (bcs zero32).toArray 31)).mono HB9.out.size))
              clear hw5 hF hsha hb1 hB hbw hY ho hl hc hpos wr
              go_wp2_with (refine wpList_alloc_agg rfl 31 rfl (bcs zero32) zero32_info ?_; simp only [Act.put, List.setIfInBounds_toArray, List.set_cons_zero, List.set_cons_succ])
              obtain ⟨w6, hw6⟩ : ∃ w6, w6 = w5.alloc (.cells (bcs zero32).toArray 31) := ⟨_, rfl⟩
              rw [← hw6] at B7 K7 B8 ⊢
              clear hw6 hld KR9 HB9
              go_loopw [58] (fun i ws => ∃ j : Nat, j ≤ 8 ∧ i = .int .i64 j ∧ Blk ws w5.heap.size 31 (bcs (outAt F j)) ∧ Only (fun i => i = w5.heap.size) w6 ws) (fun i _ => 8 - (intOf i).toNat)
              case atStart => exact ⟨0, by omega, rfl, by rw [out_zero]; exact B7.out, Only.refl _ _⟩
              case round =>
                obtain ⟨j, hj, rfl, hY, ho⟩ := hrel
                by_cases hlt : j < 8
                · have hst4 := out_step F j hlt
                  obtain ⟨X, hX⟩ : ∃ X, X = F.list.getD j 0 := ⟨_, rfl⟩
                  have hix := index_run F j hlt
                  rw [← hX] at hix
                  rw [← hX] at hst4
                  have hcell : ∀ i, i < 32 → ∃ v, wr.cell? ⟨w5.heap.size, i, none⟩ = some v := fun i hi => by
                    rw [hY.cell]
                    exact ⟨_, List.getElem?_eq_getElem (by rw [bcs_length, out_len F j hj]; exact hi)⟩
                  obtain ⟨y0, c0⟩ := hcell (4 * j) (by omega)
                  obtain ⟨y1, c1⟩ := hcell (4 * j + 1) (by omega)
                  obtain ⟨y2, c2⟩ := hcell (4 * j + 2) (by omega)
                  obtain ⟨y3, c3⟩ := hcell (4 * j + 3) (by omega)
                  have f0 := hY.frozen (4 * j)
                  have f1 := hY.frozen (4 * j + 1)
                  have f2 := hY.frozen (4 * j + 2)
                  have f3 := hY.frozen (4 * j + 3)
                  obtain ⟨z0, hz0⟩ : ∃ z : Int, z = fb X 16777216 := ⟨_, rfl⟩
                  obtain ⟨z1, hz1⟩ : ∃ z : Int, z = fb X 65536 := ⟨_, rfl⟩
                  obtain ⟨z2, hz2⟩ : ∃ z : Int, z = fb X 256 := ⟨_, rfl⟩
                  obtain ⟨z3, hz3⟩ : ∃ z : Int, z = ((X.toNat % 256 : Nat) : Int) := ⟨_, rfl⟩
                  have q0 : IntKind.u8.wrap (u X / 16777216) = z0 := by rw [hz0, u8_wrap]; unfold u fb; omega
                  have q1 : IntKind.u8.wrap (u X / 65536) = z1 := by rw [hz1, u8_wrap]; unfold u fb; omega
                  have q2 : IntKind.u8.wrap (u X / 256) = z2 := by rw [hz2, u8_wrap]; unfold u fb; omega
                  have q3 : IntKind.u8.wrap (u X) = z3 := by rw [hz3, u8_wrap]; unfold u; omega
                  rw [← hz0, ← hz1, ← hz2, ← hz3] at hst4
                  have hY2 := hide ((((hY.set_ (4 * j) (.int .u8 z0)).set_ (4 * j + 1) (.int .u8 z1)).set_ (4 * j + 2) (.int .u8 z2)).set_ (4 * j + 3) (.int .u8 z3))
                  rw [hst4] at hY2
                  have hO2 := hide ((((ho.trans (Only.cell1 wr w5.heap.size (4 * j) (.int .u8 z0)) (fun _ _ h => h)).trans (Only.cell1 _ w5.heap.size (4 * j + 1) (.int .u8 z1)) (fun _ _ h => h)).trans (Only.cell1 _ w5.heap.size (4 * j + 2) (.int .u8 z2)) (fun _ _ h => h)).trans (Only.cell1 _ w5.heap.size (4 * j + 3) (.int .u8 z3)) (fun _ _ h => h))
                  have i0 : (0 : Int) ≤ (j : Int) := by omega
                  have i1 : (j : Int) < 8 := by omega
                  have a0 : IntKind.i64.wrap (4 * (j : Int)) = 4 * (j : Int) := by rw [IntKind.wrap_i64]; omega
                  have a1 : IntKind.i64.wrap (4 * (j : Int) + 1) = 4 * (j : Int) + 1 := by rw [IntKind.wrap_i64]; omega
                  have a2 : IntKind.i64.wrap (4 * (j : Int) + 2) = 4 * (j : Int) + 2 := by rw [IntKind.wrap_i64]; omega
                  have a3 : IntKind.i64.wrap (4 * (j : Int) + 3) = 4 * (j : Int) + 3 := by rw [IntKind.wrap_i64]; omega
                  have n0 : (4 * (j : Int)).toNat = 4 * j := by omega
                  have n1 : (4 * (j : Int) + 1).toNat = 4 * j + 1 := by omega
                  have n2 : (4 * (j : Int) + 2).toNat = 4 * j + 2 := by omega
                  have n3 : (4 * (j : Int) + 3).toNat = 4 * j + 3 := by omega
                  have p0 : (0 : Int) ≤ 4 * (j : Int) := by omega
                  have p1 : (0 : Int) ≤ 4 * (j : Int) + 1 := by omega
                  have p2 : (0 : Int) ≤ 4 * (j : Int) + 2 := by omega
                  have p3 : (0 : Int) ≤ 4 * (j : Int) + 3 := by omega
                  have r0 : 4 * (j : Int) < 32 := by omega
                  have r1 : 4 * (j : Int) + 1 < 32 := by omega
                  have r2 : 4 * (j : Int) + 2 < 32 := by omega
                  have r3 : 4 * (j : Int) + 3 < 32 := by omega
                  clear hst4 hX hcell hY ho hz0 hz1 hz2 hz3
                  go_wp2_with fail
                  exact ⟨⟨j + 1, by omega, by simp, hY2.out, hO2.out⟩, by simp [intOf]; omega⟩
                · obtain rfl : j = 8 := by omega
                  rw [out_full, ← HSHA.out] at hY
                  have lsh : (bcs (sha D)).length = 32 := by rw [bcs_length, sha_len]
                  have lz32 : (bcs zero32).length = 32 := rfl
                  have hHH := hide Try.underlying31
                  have hIH : (Try.prog.info? 31).map (·.size) = some 32 := by kernel_rfl
                  have HBW := hide (B8.out.trans (ho.below B8.out.size (fun i hi e => by have h9 : i = w5.heap.size := e; have := HSZ9.out; omega)))
                  have K9 := hide (ho.blk K7.out (by have := HSZ9.out; omega))
                  have HY := hide hY
                  clear hY ho
                  go_wp2_with (first
                    | (refine wpList_load_blk rfl 31 _ rfl w5.heap.size 0 31 (bcs (sha D)) (bcs (sha D)) _ (by rfl) HY.out (fun i v hv => by rw [Nat.zero_add]; exact hv) hHH.out rfl (by rw [hIH, lsh]) ?_; simp only [Act.put, List.setIfInBounds_toArray, List.set_cons_zero, List.set_cons_succ])
                    | (refine wpList_store_blk rfl 31 _ _ rfl w.heap.size 0 31 (bcs zero32) (bcs (sha D)) (by rfl) (by rfl) K9.out (by rw [lz32, lsh]; decide) (by rw [hIH, lsh]) (bcs_one _) ?_; intro w9 o9 z9 b9; simp only [Act.put]))
                  rw [lay_all (bcs zero32) _ (by rw [lz32, lsh])] at b9
                  refine bodyPost_ret (results_cell_blk rfl _ _ w.heap.size 31 _ _ (by rfl) b9 hHH.out rfl (by rw [hIH, lsh])) rfl ⟨rfl, ?_⟩
                  exact HBW.out.trans (o9.below HBW.out.size (fun i hi e => by have h9 : i = w.heap.size := e; omega))
end Go.Proofs.Ytbpmcnfmgaolnaa
/-
  digest: Sum, Twice.
-/
namespace Go.Proofs.Ytbpmcnfmgaolnaa
open Go.RowKit

theorem bcs_range {w : World} {g : Nat} {t : TypeId} {bs : List Int} (h : Blk w g t (bcs bs)) : w.rangeAt g 0 (bcs bs) := h.whole
theorem Bys.of_blk {w : World} {g : Nat} {t : TypeId} {bs : List Int} (h : Blk w g t (bcs bs)) (hb : Byt bs) : Bys w (some ⟨g, 0, none⟩) bs.length bs := by
  refine ⟨rfl, hb, fun _ => ⟨g, 0, rfl, fun j v hv => ?_⟩⟩
  rw [Nat.zero_add, h.cell]
  simp [bcs, hv]
set_option maxHeartbeats 4000000 in
set_option maxRecDepth 100000 in
theorem DSum_any (w : World) (A : Option Addr) (n c : Nat) (xss : List (List Int)) (hX : Byss w A n xss) (hshort : xss.dropLast.flatten.length < 64) (hlong : xss.flatten.length ≤ 100000000) (hn : n ≤ 1000000) :
    Calls Try.prog 114 #[.slice A n c] w fun e w' => e = .returned (.agg (bcs (sha xss.flatten)).toArray) ∧ Below w.heap.size w w' := by
  have hHH := hide Try.underlying31
  have hIH : (Try.prog.info? 31).map (·.size) = some 32 := by kernel_rfl
  have lsh : (bcs (sha xss.flatten)).length = 32 := by rw [bcs_length, sha_len]
  have lz32 : (bcs zero32).length = 32 := rfl
  have KR := hide (Blk.new w 31 (bcs zero32))
  have B0 := hide (show Below w.heap.size w (w.alloc (.cells (bcs zero32).toArray 31)) from (Below.refl _ w).alloc (Nat.le_refl _) _)
  have HX := hide hX
  have HS := hide hshort
  have HL := hide hlong
  have HN := hide hn
  clear hX hshort hlong hn
  go_enter Try.func114, Try.ntmps114
  go_wp2_with (refine wpList_alloc_agg rfl 31 rfl (bcs zero32) zero32_info ?_; simp only [Act.put, List.setIfInBounds_toArray, List.set_cons_zero, List.set_cons_succ])
  obtain ⟨w1, hw1⟩ : ∃ w1, w1 = w.alloc (.cells (bcs zero32).toArray 31) := ⟨_, rfl⟩
  rw [← hw1] at KR B0 ⊢
  clear hw1
  refine (HNew_any w1).mono ?_
  rintro e w2 ⟨g, rfl, hg, hb2, hG⟩
  go_wp2_with fail
  refine (HAdd_any w1 w2 g A n c xss hb2 hg hG (HX.out.below B0.out) HS.out HL.out HN.out).mono ?_
  rintro e w3 ⟨rfl, A3, m3, c3, h3⟩
  go_wp2_with fail
  refine (HSum_any w1 w3 g A3 m3 c3 xss.flatten h3 HL.out).mono ?_
  rintro e w4 ⟨rfl, hb4⟩
  have hb14 : Below w1.heap.size w1 w4 := Below.then_ h3.below hb4
  have K4 := hide (KR.out.under hb14)
  go_wp2_with (refine wpList_store_blk rfl 31 _ _ rfl w.heap.size 0 31 (bcs zero32) (bcs (sha xss.flatten)) (by rfl) (by rfl) K4.out (by rw [lz32, lsh]; decide) (by rw [hIH, lsh]) (bcs_one _) ?_; intro w9 o9 z9 b9; simp only [Act.put])
  rw [lay_all (bcs zero32) _ (by rw [lz32, lsh])] at b9
  refine bodyPost_ret (results_cell_blk rfl _ _ w.heap.size 31 _ _ (by rfl) b9 hHH.out rfl (by rw [hIH, lsh])) rfl ⟨rfl, ?_⟩
  have hbw := Below.then_ B0.out hb14
  exact hbw.trans (o9.below hbw.size (fun i hi e => by have h9 : i = w.heap.size := e; omega))
set_option maxHeartbeats 4000000 in
set_option maxRecDepth 100000 in
theorem Twice_any (w : World) (A : Option Addr) (n c : Nat) (xss : List (List Int)) (hX : Byss w A n xss) (hshort : xss.dropLast.flatten.length < 64) (hlong : xss.flatten.length ≤ 100000000) (hn : n ≤ 1000000) :
    Calls Try.prog 73 #[.slice A n c] w fun e w' => e = .returned (.agg (bcs (sha2 xss.flatten)).toArray) ∧ Below w.heap.size w w' := by
  have hHH := hide Try.underlying31
  have hIH : (Try.prog.info? 31).map (·.size) = some 32 := by kernel_rfl
  have lsh : (bcs (sha xss.flatten)).length = 32 := by rw [bcs_length, sha_len]
  have lsh2 : (bcs (sha2 xss.flatten)).length = 32 := by rw [bcs_length, sha2_len]
  have lz32 : (bcs zero32).length = 32 := rfl
  have KR := hide (Blk.new w 31 (bcs zero32))
  have B0 := hide (show Below w.heap.size w (w.alloc (.cells (bcs zero32).toArray 31)) from (Below.refl _ w).alloc (Nat.le_refl _) _)
  have HX := hide hX
  have HS := hide hshort
  have HL := hide hlong
  have HN := hide hn
  clear hX hshort hlong hn
  go_enter Try.func73, Try.ntmps73
  go_wp2_with (refine wpList_alloc_agg rfl 31 rfl (bcs zero32) zero32_info ?_; simp only [Act.put, List.setIfInBounds_toArray, List.set_cons_zero, List.set_cons_succ])
  obtain ⟨w1, hw1⟩ : ∃ w1, w1 = w.alloc (.cells (bcs zero32).toArray 31) := ⟨_, rfl⟩
  rw [← hw1] at KR B0 ⊢
  clear hw1
  refine (DSum_any w1 A n c xss (HX.out.below B0.out) HS.out HL.out HN.out).mono ?_
  rintro e w2 ⟨rfl, hb2⟩
  have K2 := hide (Blk.new w2 31 (bcs zero32))
  have hb22 : Below w2.heap.size w2 (w2.alloc (.cells (bcs zero32).toArray 31)) := (Below.refl _ w2).alloc (Nat.le_refl _) _
  go_wp2_with (first
    | (refine wpList_alloc_agg rfl 31 rfl (bcs zero32) zero32_info ?_; simp only [Act.put, List.setIfInBounds_toArray, List.set_cons_zero, List.set_cons_succ])
    | (refine wpList_store_blk rfl 31 _ _ rfl w2.heap.size 0 31 (bcs zero32) (bcs (sha xss.flatten)) (by rfl) (by rfl) K2.out (by rw [lz32, lsh]; decide) (by rw [hIH, lsh]) (bcs_one _) ?_; intro w3 o3 z3 b3; simp only [Act.put]))
  rw [lay_all (bcs zero32) _ (by rw [lz32, lsh])] at b3
  have hz : w3.heap.size = w2.heap.size + 1 := by rw [z3]; simp
  have hb3 : Below w2.heap.size w2 w3 := hb22.trans (o3.below (by simp) (fun i hi e => by have h9 : i = w2.heap.size := e; omega))
  have hb13 := Below.then_ hb2 hb3
  have HBY := hide (Byss.one w3 w3 56 (some ⟨w2.heap.size, 0, none⟩) 32 32 (sha xss.flatten) (by have := Bys.of_blk b3 (sha_byt _); rwa [sha_len] at this) (Nat.le_refl _) (Below.refl _ _))
  have hb35 : Below w3.heap.size w3 (w3.alloc (.cells #[.slice (some ⟨w2.heap.size, 0, none⟩) 32 32] 56)) := (Below.refl _ w3).alloc (Nat.le_refl _) _
  rw [hz] at HBY
  refine (DSum_any _ _ 1 1 [sha xss.flatten] HBY.out (by simp) (by simp [sha_len]) (by decide)).mono ?_
  rintro e w5 ⟨rfl, hb5⟩
  have hf1 : [sha xss.flatten].flatten = sha xss.flatten := by simp
  rw [hf1]
  have hb15 := hide (Below.then_ hb13 (Below.then_ hb35 hb5))
  have K5 := hide (KR.out.under hb15.out)
  go_wp2_with (refine wpList_store_blk rfl 31 _ _ rfl w.heap.size 0 31 (bcs zero32) (bcs (sha2 xss.flatten)) (by rfl) (by rfl) K5.out (by rw [lz32, lsh2]; decide) (by rw [hIH, lsh2]) (bcs_one _) ?_; intro w9 o9 z9 b9; simp only [Act.put])
  rw [lay_all (bcs zero32) _ (by rw [lz32, lsh2])] at b9
  refine bodyPost_ret (results_cell_blk rfl _ _ w.heap.size 31 _ _ (by rfl) b9 hHH.out rfl (by rw [hIH, lsh2])) rfl ⟨rfl, ?_⟩
  have hbw := Below.then_ B0.out hb15.out
  exact hbw.trans (o9.below hbw.size (fun i hi e => by have h9 : i = w.heap.size := e; omega))
end Go.Proofs.Ytbpmcnfmgaolnaa
