/- Lemmas and walks for TableRuns, packed. -/
import Derived.Test.YtjnpkcabkccaoaaGreatQ7
import Derived.Test.YtjnpkcabkccaoaaGreatQ6
set_option maxRecDepth 100000
set_option maxHeartbeats 16000000
namespace Go.Proofs.YtjnpkcabkccaoaaGreat
open Go.RowKit
section
attribute [local go_sem ↓] mkK_fold mkSt_fold loadK_fold loadSt_fold
theorem u_not2 (a : W32) : bits .xor .u32 (if IntKind.u32.signed = true then -1 else IntKind.u32.max) (u a) = u (~~~a) := u_not a
attribute [local go_sem] u_xor u_and u_or u_not u_add u_not2 mkSt_run
theorem St.list_len (s : St) : s.list.length = 8 := rfl
theorem ucells_st (s : St) : (ucells s.list).length = 8 := rfl
structure MixPre (w2 : World) (ws : List W32) (b1 b2 b4 b5 b6 : Bool) (v5 v6 v7 v15 v16 : Value) (w' : World) : Prop where
 below : Below w2.heap.size w2 w'
 c1 : b1 = true → v15 = .agg (ucells ws).toArray
 c2 : b2 = true → v16 = .agg (ucells Sha.keys).toArray
 a4 : b4 = true → ∃ g, v5 = .pointer (some ⟨g, 0, none⟩) ∧ Blk w' g 204 (ucells zeroK) ∧ w2.heap.size ≤ g
 a5 : b5 = true → ∃ g, v6 = .pointer (some ⟨g, 0, none⟩) ∧ Blk w' g 204 (ucells zeroK) ∧ w2.heap.size ≤ g
 a6 : b6 = true → ∃ g, v7 = .pointer (some ⟨g, 0, none⟩) ∧ Blk w' g 191 (ucells zeroSt) ∧ w2.heap.size ≤ g
 n45 : b4 = true → b5 = true → v5 ≠ v6
 n46 : b4 = true → b6 = true → v5 ≠ v7
 n56 : b5 = true → b6 = true → v6 ≠ v7
theorem MixPre.call {w2 : World} {ws : List W32} {b1 b2 b4 b5 b6 : Bool} {v5 v6 v7 v15 v16 : Value} {w' w'' : World} (h : MixPre w2 ws b1 b2 b4 b5 b6 v5 v6 v7 v15 v16 w') (hb : Below w'.heap.size w' w'') : MixPre w2 ws b1 b2 b4 b5 b6 v5 v6 v7 v15 v16 w'' := by
 refine ⟨Below.then_ h.below hb, h.c1, h.c2, fun e => ?_, fun e => ?_, fun e => ?_, h.n45, h.n46, h.n56⟩
 ·obtain ⟨g, e1, e2, e3⟩ := h.a4 e; exact ⟨g, e1, e2.under hb, e3⟩
 ·obtain ⟨g, e1, e2, e3⟩ := h.a5 e; exact ⟨g, e1, e2.under hb, e3⟩
 ·obtain ⟨g, e1, e2, e3⟩ := h.a6 e; exact ⟨g, e1, e2.under hb, e3⟩
theorem MixPre.alloc {w2 : World} {ws : List W32} {b1 b2 b4 b5 b6 : Bool} {v5 v6 v7 v15 v16 : Value} {w' : World} (h : MixPre w2 ws b1 b2 b4 b5 b6 v5 v6 v7 v15 v16 w') (o : Obj) : MixPre w2 ws b1 b2 b4 b5 b6 v5 v6 v7 v15 v16 (w'.alloc o) :=
 h.call ((Below.refl _ w').alloc (Nat.le_refl _) o)
theorem MixPre.one {w2 : World} {ws : List W32} {b4 b5 b6 : Bool} {v5 v6 v7 v15 v16 : Value} {w' w'' : World} (h : MixPre w2 ws false false b4 b5 b6 v5 v6 v7 v15 v16 w') (hb : Below w'.heap.size w' w'') : MixPre w2 ws true false b4 b5 b6 v5 v6 v7 (.agg (ucells ws).toArray) v16 w'' := by
 have h2 := h.call hb
 exact ⟨h2.below, fun _ => rfl, fun e => (by cases e), h2.a4, h2.a5, h2.a6, h2.n45, h2.n46, h2.n56⟩
theorem MixPre.two {w2 : World} {ws : List W32} {b4 b5 b6 : Bool} {v5 v6 v7 v15 v16 : Value} {w' w'' : World} (h : MixPre w2 ws true false b4 b5 b6 v5 v6 v7 v15 v16 w') (hb : Below w'.heap.size w' w'') : MixPre w2 ws true true b4 b5 b6 v5 v6 v7 v15 (.agg (ucells Sha.keys).toArray) w'' := by
 have h2 := h.call hb
 exact ⟨h2.below, h2.c1, fun _ => rfl, h2.a4, h2.a5, h2.a6, h2.n45, h2.n46, h2.n56⟩
theorem ptr_ne {w' : World} {g : Nat} {t : TypeId} {cs : List Value} (h : Blk w' g t cs) : Value.pointer (some ⟨w'.heap.size, 0, none⟩) ≠ .pointer (some ⟨g, 0, none⟩) := by
 have := h.lt
 intro e
 injection e with e
 injection e with e
 injection e with e
 omega
theorem MixPre.four {w2 : World} {ws : List W32} {b1 b2 b5 b6 : Bool} {v5 v6 v7 v15 v16 : Value} {w' : World} (h : MixPre w2 ws b1 b2 false b5 b6 v5 v6 v7 v15 v16 w') :
  MixPre w2 ws b1 b2 true b5 b6 (.pointer (some ⟨w'.heap.size, 0, none⟩)) v6 v7 v15 v16 (w'.alloc (.cells (ucells zeroK).toArray 204)) := by
 have h2 := h.alloc (.cells (ucells zeroK).toArray 204)
 refine ⟨h2.below, h2.c1, h2.c2, fun _ => ⟨_, rfl, Blk.new _ _ _, h.below.size⟩, h2.a5, h2.a6, fun _ e => ?_, fun _ e => ?_, h2.n56⟩
 ·obtain ⟨g, rfl, e2, _⟩ := h.a5 e; exact ptr_ne e2
 ·obtain ⟨g, rfl, e2, _⟩ := h.a6 e; exact ptr_ne e2
theorem MixPre.five {w2 : World} {ws : List W32} {b1 b2 b4 b6 : Bool} {v5 v6 v7 v15 v16 : Value} {w' : World} (h : MixPre w2 ws b1 b2 b4 false b6 v5 v6 v7 v15 v16 w') :
  MixPre w2 ws b1 b2 b4 true b6 v5 (.pointer (some ⟨w'.heap.size, 0, none⟩)) v7 v15 v16 (w'.alloc (.cells (ucells zeroK).toArray 204)) := by
 have h2 := h.alloc (.cells (ucells zeroK).toArray 204)
 refine ⟨h2.below, h2.c1, h2.c2, h2.a4, fun _ => ⟨_, rfl, Blk.new _ _ _, h.below.size⟩, h2.a6, fun e _ => ?_, h2.n46, fun _ e => ?_⟩
 ·obtain ⟨g, rfl, e2, _⟩ := h.a4 e; exact (ptr_ne e2).symm
 ·obtain ⟨g, rfl, e2, _⟩ := h.a6 e; exact ptr_ne e2
theorem MixPre.six {w2 : World} {ws : List W32} {b1 b2 b4 b5 : Bool} {v5 v6 v7 v15 v16 : Value} {w' : World} (h : MixPre w2 ws b1 b2 b4 b5 false v5 v6 v7 v15 v16 w') :
  MixPre w2 ws b1 b2 b4 b5 true v5 v6 (.pointer (some ⟨w'.heap.size, 0, none⟩)) v15 v16 (w'.alloc (.cells (ucells zeroSt).toArray 191)) := by
 have h2 := h.alloc (.cells (ucells zeroSt).toArray 191)
 refine ⟨h2.below, h2.c1, h2.c2, h2.a4, h2.a5, fun _ => ⟨_, rfl, Blk.new _ _ _, h.below.size⟩, h2.n45, fun e _ => ?_, fun e _ => ?_⟩
 ·obtain ⟨g, rfl, e2, _⟩ := h.a4 e; exact (ptr_ne e2).symm
 ·obtain ⟨g, rfl, e2, _⟩ := h.a5 e; exact (ptr_ne e2).symm
def addTo (a b : List W32) (i : Nat) : List W32 := List.zipWith (· + ·) (a.take i) b ++ a.drop i
theorem addTo_get (s x : St) (i : Nat) (h : i < 8) : (addTo s.list x.list i).getD i 0 = s.list.getD i 0 := by
 rcases i with _ | _ | _ | _ | _ | _ | _ | _ | i
 all_goals first | rfl | omega
theorem addTo_set (s x : St) (i : Nat) (h : i < 8) : (addTo s.list x.list i).set i (s.list.getD i 0 + x.list.getD i 0) = addTo s.list x.list (i + 1) := by
 rcases i with _ | _ | _ | _ | _ | _ | _ | _ | i
 all_goals first | rfl | omega
theorem addTo_len (s x : St) (i : Nat) (h : i ≤ 8) : (addTo s.list x.list i).length = 8 := by
 rcases i with _ | _ | _ | _ | _ | _ | _ | _ | _ | i
 all_goals first | rfl | omega
theorem addTo_full (s x : St) : addTo s.list x.list 8 = (Sha.add s x).list := rfl
theorem mix_any (w : World) (s : St) (A : Option Addr) (n c : Nat) (bs : List Int) (hB : Bys w A n bs) (hn : 64 ≤ n) (hn2 : n ≤ 1000000000) :
  Calls Tryz.prog 126 #[.agg (ucells s.list).toArray, .slice A n c] w fun e w' => e = .returned (.agg (ucells (Sha.mix s bs).list).toArray) ∧ Below w.heap.size w w' := by
 have HU := hide Tryz.underlying204
 have HV := hide Tryz.underlying191
 have lz : (ucells zeroK).length = 64 := by rw [ucells_len]; rfl
 have ls : (ucells zeroSt).length = 8 := by rw [ucells_len]; rfl
 have hI := isK
 have hJ := isSt
 go_enter Tryz.func126, Tryz.ntmps126
 go_wp2_with (first
  | (refine wpList_alloc_agg rfl 191 rfl (ucells zeroSt) zeroSt_info ?_; simp only [Act.put, List.setIfInBounds_toArray, List.set_cons_zero, List.set_cons_succ, World.size_alloc])
  | (refine wpList_alloc_agg rfl 204 rfl (ucells zeroK) zeroK_info ?_; simp only [Act.put, List.setIfInBounds_toArray, List.set_cons_zero, List.set_cons_succ, World.size_alloc]))
 have B0 := hide (show Blk ((w.alloc (.cells (ucells s.list).toArray 191)).alloc (.cells (ucells zeroSt).toArray 191)) w.heap.size 191 (ucells s.list) from (Blk.new w _ _).alloc _)
 have B1 := hide (show Blk ((w.alloc (.cells (ucells s.list).toArray 191)).alloc (.cells (ucells zeroSt).toArray 191)) (w.heap.size + 1) 191 (ucells zeroSt) from Blk.new1 w _ _ _)
 have O0 := hide (show Below w.heap.size w ((w.alloc (.cells (ucells s.list).toArray 191)).alloc (.cells (ucells zeroSt).toArray 191)) from Below.then_ ((Below.refl _ w).alloc (Nat.le_refl _) _) ((Below.refl _ _).alloc (Nat.le_refl _) _))
 obtain ⟨w2, hw2⟩ : ∃ w2, w2 = ((w.alloc (.cells (ucells s.list).toArray 191)).alloc (.cells (ucells zeroSt).toArray 191)) := ⟨_, rfl⟩
 rw [← hw2] at B0 B1 O0 ⊢
 clear hw2
 have hB2 := hide (hB.below O0.out)
 have hSof : ∀ w', Below w2.heap.size w2 w' → w'.rangeAt w.heap.size 0 (ucells s.list) := fun w' hb => (B0.out.under hb).whole
 refine wp_region_held_drew (S := fun w' => w'.rangeAt w.heap.size 0 (ucells s.list)) (by kernel_rfl) (B0.out.whole) (fun hS => ?_)
 refine tq 0 rfl hS ?_
 refine tq 3 rfl hS ?_ (fun w' hSw => by have hld := loadSt_run w' w.heap.size 0 s.list hSw rfl; go_simp; try with_reducible rfl)
 refine wpAnyH_2c3 (m := 3) (fun b1 b2 b4 b5 b6 => #[true, b1, b2, true, b4, b5, b6, false, false, false]) (fun b1 b2 b4 b5 b6 a w' => ∃ v5 v6 v7 v15 v16, a = { tmps := List.toArray ((.agg (ucells s.list).toArray) :: (.slice A n c) :: (.pointer (some ⟨w.heap.size, 0, none⟩)) :: undef :: (.pointer (some ⟨w.heap.size + 1, 0, none⟩)) :: v5 :: v6 :: v7 :: undef :: undef :: undef :: undef :: undef :: undef :: (.slice A n c) :: v15 :: v16 :: (.agg (ucells s.list).toArray) :: undef :: undef :: undef :: undef :: undef :: undef :: undef :: undef :: undef :: undef :: undef :: undef :: undef :: undef :: undef :: undef :: undef :: undef :: undef :: undef :: undef :: undef :: undef :: undef :: undef :: undef :: undef :: undef :: undef :: undef :: undef :: undef :: undef :: undef :: undef :: undef :: undef :: undef :: undef :: undef :: undef :: undef :: undef :: undef :: undef :: undef :: undef :: undef :: undef :: undef :: undef :: undef :: undef :: undef :: undef :: undef :: undef :: undef :: undef :: undef :: undef :: undef :: undef :: undef :: undef :: undef :: undef :: undef :: undef :: undef :: undef :: undef :: undef :: undef :: undef :: undef :: undef :: undef :: undef :: undef :: undef :: undef :: undef :: undef :: undef :: undef :: undef :: undef :: undef :: undef :: undef :: undef :: undef :: []), defers := [] } ∧ MixPre w2 (Sha.spread bs) b1 b2 b4 b5 b6 v5 v6 v7 v15 v16 w') 1 2 4 5 6 ?_ ?_ ?_ ?_ ?_ ?_ ?_ ?_ ?_ ?_ ?_ ?_ 5 false false false false false (by simp) rfl _ _ ⟨undef, undef, undef, undef, undef, rfl, (Below.refl _ w2).drew, by simp, by simp, by simp, by simp, by simp, by simp, by simp, by simp⟩ hS
 ·intro b1 b2 b4 b5 b6 h1 h2
  cases b1 <;> cases b2 <;> cases b4 <;> cases b5 <;> cases b6 <;> first | (exfalso; revert h1 h2; decide) | kernel_rfl
 ·intros; rfl
 ·intros; rfl
 ·intros; rfl
 ·intros; rfl
 ·intros; rfl
 ·rintro b4 b5 b6 a w' ⟨v5, v6, v7, v15, v16, rfl, h⟩
  refine wpOp_step rfl (fun K hK => ?_)
  go_simp
  refine (spread_any w' A n c bs (hB2.out.below h.below) hn hn2).mono ?_
  rintro e w'' ⟨rfl, hb⟩
  go_simp
  have h9 := h.one hb
  exact hK _ _ ⟨hSof _ h9.below, _, _, _, _, _, rfl, h9⟩
 ·rintro b4 b5 b6 a w' ⟨v5, v6, v7, v15, v16, rfl, h⟩
  refine wpOp_step rfl (fun K hK => ?_)
  go_simp
  refine (constants_any w').mono ?_
  rintro e w'' ⟨rfl, hb⟩
  go_simp
  have h9 := h.two hb
  exact hK _ _ ⟨hSof _ h9.below, _, _, _, _, _, rfl, h9⟩
 ·rintro b1 b2 b5 b6 a w' ⟨v5, v6, v7, v15, v16, rfl, h⟩
  refine wpOp_step rfl (fun K hK => ?_)
  rw [if_pos (by rfl)]
  refine wp_alloc_agg 204 rfl (ucells zeroK) zeroK_info ?_
  exact hK _ _ ⟨hSof _ h.four.below, _, _, _, _, _, rfl, h.four⟩
 ·rintro b1 b2 b4 b6 a w' ⟨v5, v6, v7, v15, v16, rfl, h⟩
  refine wpOp_step rfl (fun K hK => ?_)
  rw [if_pos (by rfl)]
  refine wp_alloc_agg 204 rfl (ucells zeroK) zeroK_info ?_
  exact hK _ _ ⟨hSof _ h.five.below, _, _, _, _, _, rfl, h.five⟩
 ·rintro b1 b2 b4 b5 a w' ⟨v5, v6, v7, v15, v16, rfl, h⟩
  refine wpOp_step rfl (fun K hK => ?_)
  rw [if_pos (by rfl)]
  refine wp_alloc_agg 191 rfl (ucells zeroSt) zeroSt_info ?_
  exact hK _ _ ⟨hSof _ h.six.below, _, _, _, _, _, rfl, h.six⟩
 rintro a w' ⟨v5, v6, v7, v15, v16, rfl, h⟩ hS'
 obtain ⟨g5, rfl, K5, z5⟩ := h.a4 rfl
 obtain ⟨g6, rfl, K6, z6⟩ := h.a5 rfl
 obtain ⟨g7, rfl, K7, z7⟩ := h.a6 rfl
 obtain rfl := h.c1 rfl
 obtain rfl := h.c2 rfl
 have n56 : g5 ≠ g6 := fun e => h.n45 rfl rfl (by rw [e])
 have n57 : g5 ≠ g7 := fun e => h.n46 rfl rfl (by rw [e])
 have n67 : g6 ≠ g7 := fun e => h.n56 rfl rfl (by rw [e])
 have hb2 := h.below
 clear h
 have lW : (ucells (Sha.spread bs)).length = 64 := by rw [ucells_len, Sha.spread_len]
 have lK : (ucells Sha.keys).length = 64 := rfl
 have lS : (ucells s.list).length = 8 := rfl
 have o1 := ucells_one (Sha.spread bs)
 have o2 := ucells_one Sha.keys
 have o6 := ucells_one s.list
 generalize hgW : ucells (Sha.spread bs) = W at lW o1 ⊢
 generalize hgK : ucells Sha.keys = KK at lK o2 ⊢
 generalize hgS : ucells s.list = SL at lS o6 hS' hSof B0 ⊢
 generalize hgZ : ucells zeroK = Z at lz K5 K6 ⊢
 generalize hgY : ucells zeroSt = Y at ls K7 B1 ⊢
 refine ry 7 rfl fun K hK => ?_
 rw [if_pos (by rfl)]
 refine wp_store_blk 204 _ _ rfl g5 0 204 Z W (by rfl) (by rfl) K5 (by rw [lz, lW]; decide) (by rw [lW]; exact hI) o1 ?_
 intro w3 o3 y3 b3
 rw [lay_all _ _ (by rw [lz, lW])] at b3
 have hb3 := hb2.trans (o3.below hb2.size (fun i hi e => by have h9 : i = g5 := e; omega))
 have K6b := o3.blk K6 (fun e => n56 e.symm)
 have K7b := o3.blk K7 (fun e => n57 e.symm)
 refine hK.out _ _ (hSof _ hb3) (fun hS3 => ?_)
 clear hK K
 refine ry 8 rfl fun K hK => ?_
 rw [if_pos (by rfl)]
 refine wp_store_blk 204 _ _ rfl g6 0 204 Z KK (by rfl) (by rfl) K6b (by rw [lz, lK]; decide) (by rw [lK]; exact hI) o2 ?_
 intro w4 o4 y4 b4
 rw [lay_all _ _ (by rw [lz, lK])] at b4
 have hb4 := hb3.trans (o4.below hb3.size (fun i hi e => by have h9 : i = g6 := e; omega))
 have b3b := o4.blk b3 (fun e => n56 e)
 have K7c := o4.blk K7b (fun e => n67 e.symm)
 refine hK.out _ _ (hSof _ hb4) (fun hS4 => ?_)
 clear hK K
 refine ry 9 rfl fun K hK => ?_
 rw [if_pos (by rfl)]
 refine wp_store_blk 191 _ _ rfl g7 0 191 Y SL (by rfl) (by rfl) K7c (by rw [ls, lS]; decide) (by rw [lS]; exact hJ) o6 ?_
 intro w5 o5 y5 b5
 rw [lay_all _ _ (by rw [ls, lS])] at b5
 have hb5 := hb4.trans (o5.below hb4.size (fun i hi e => by have h9 : i = g7 := e; omega))
 have bW := hide (o5.blk b3b (fun e => n57 e))
 have bK := hide (o5.blk b4 (fun e => n67 e))
 have bX := hide b5
 refine hK.out _ _ (hSof _ hb5) (fun hS5 => ?_)
 clear hK K
 refine wpAnyH_done (by kernel_rfl) ?_ _
 have bS := hide (B0.out.under hb5)
 have bR := hide (B1.out.under hb5)
 have H57 := hide n57
 have H67 := hide n67
 have H5 := hide hb5
 have Z7 := hide z7
 subst hgW hgK hgS hgZ hgY
 clear o1 o2 o6 hSof hS' K5 K6 K7 K6b K7b K7c b3 b3b b4 b5 o3 o4 o5 y3 y4 y5 hb2 hb3 hb4 hb5 hS3 hS4 hS5 n56 n57 n67 z5 z6 z7 hS w'
 change Exit.then _ _ Exit.normal { tmps := List.toArray ((.agg (ucells s.list).toArray) :: (.slice A n c) :: (.pointer (some ⟨w.heap.size, 0, none⟩)) :: undef :: (.pointer (some ⟨w.heap.size + 1, 0, none⟩)) :: (.pointer (some ⟨g5, 0, none⟩)) :: (.pointer (some ⟨g6, 0, none⟩)) :: (.pointer (some ⟨g7, 0, none⟩)) :: undef :: undef :: undef :: undef :: undef :: undef :: (.slice A n c) :: (.agg (ucells (Sha.spread bs)).toArray) :: (.agg (ucells Sha.keys).toArray) :: (.agg (ucells s.list).toArray) :: undef :: undef :: undef :: undef :: undef :: undef :: undef :: undef :: undef :: undef :: undef :: undef :: undef :: undef :: undef :: undef :: undef :: undef :: undef :: undef :: undef :: undef :: undef :: undef :: undef :: undef :: undef :: undef :: undef :: undef :: undef :: undef :: undef :: undef :: undef :: undef :: undef :: undef :: undef :: undef :: undef :: undef :: undef :: undef :: undef :: undef :: undef :: undef :: undef :: undef :: undef :: undef :: undef :: undef :: undef :: undef :: undef :: undef :: undef :: undef :: undef :: undef :: undef :: undef :: undef :: undef :: undef :: undef :: undef :: undef :: undef :: undef :: undef :: undef :: undef :: undef :: undef :: undef :: undef :: undef :: undef :: undef :: undef :: undef :: undef :: undef :: undef :: undef :: undef :: undef :: undef :: undef :: undef :: []), defers := [] } w5
 have HSZ := hide B1.out.lt
 clear B0 B1
 go_wp2_with fail
 go_loopw [18] (fun i wr => ∃ j : Nat, j ≤ 64 ∧ i = .int .i64 j ∧ Blk wr g7 191 (ucells (Sha.rounds (Sha.spread bs) j s).list) ∧ Only (fun i => i = g7) w5 wr) (fun i _ => 64 - (intOf i).toNat)
 case atStart => exact ⟨0, by omega, rfl, bX.out, Only.refl _ _⟩
 case round =>
  obtain ⟨j, hj, rfl, hY, ho⟩ := hrel
  by_cases hlt : j < 64
  ·have hK0 := ho.blk bK.out (fun e => H67.out e)
   have hW0 := ho.blk bW.out (fun e => H57.out e)
   have ck : wr.cell? ⟨g6, j, none⟩ = some (.int .u32 (u (Sha.keys.getD j 0))) := by rw [hK0.cell]; exact ucells_get _ _ (by rw [ucells_len] at lK; omega)
   have cw : wr.cell? ⟨g5, j, none⟩ = some (.int .u32 (u ((Sha.spread bs).getD j 0))) := by rw [hW0.cell]; exact ucells_get _ _ (by rw [Sha.spread_len]; omega)
   obtain ⟨X, hX⟩ : ∃ X, X = Sha.rounds (Sha.spread bs) j s := ⟨_, rfl⟩
   obtain ⟨KJ, hKJ⟩ : ∃ KJ, KJ = Sha.keys.getD j 0 := ⟨_, rfl⟩
   obtain ⟨WJ, hWJ⟩ : ∃ WJ, WJ = (Sha.spread bs).getD j 0 := ⟨_, rfl⟩
   have hnx : Sha.rounds (Sha.spread bs) (j + 1) s = Sha.round X KJ WJ := by rw [Sha.rounds, hX, hKJ, hWJ]
   rw [← hX] at hY
   rw [← hKJ] at ck
   rw [← hWJ] at cw
   clear hX hKJ hWJ hK0 hW0
   have HN := hide hnx
   clear hnx
   have HY := hide hY
   have HO := hide ho
   have x0 : wr.cell? ⟨g7, 0, none⟩ = some (.int .u32 (u X.a)) := (hY.cell 0).trans rfl
   have x1 : wr.cell? ⟨g7, 1, none⟩ = some (.int .u32 (u X.b)) := (hY.cell 1).trans rfl
   have x2 : wr.cell? ⟨g7, 2, none⟩ = some (.int .u32 (u X.c)) := (hY.cell 2).trans rfl
   have x3 : wr.cell? ⟨g7, 3, none⟩ = some (.int .u32 (u X.d)) := (hY.cell 3).trans rfl
   have x4 : wr.cell? ⟨g7, 4, none⟩ = some (.int .u32 (u X.e)) := (hY.cell 4).trans rfl
   have x5 : wr.cell? ⟨g7, 5, none⟩ = some (.int .u32 (u X.f)) := (hY.cell 5).trans rfl
   have x6 : wr.cell? ⟨g7, 6, none⟩ = some (.int .u32 (u X.g)) := (hY.cell 6).trans rfl
   have x7 : wr.cell? ⟨g7, 7, none⟩ = some (.int .u32 (u X.h)) := (hY.cell 7).trans rfl
   obtain ⟨J, hJJ⟩ : ∃ J : Int, J = (j : Int) := ⟨_, rfl⟩
   have p0 : (0 : Int) ≤ J := by omega
   have p1 : J < 64 := by omega
   have p2 : J.toNat = j := by omega
   have p3 : IntKind.i64.wrap (J + 1) = J + 1 := by rw [IntKind.wrap_i64]; omega
   have HJ := hide hJJ
   rw [← hJJ]
   clear hJJ hY ho
   go_wp2_with fail
   go_still (by kernel_rfl)
   change Exit.then _ _ _ _ wr.drew
   obtain ⟨w6, hw6⟩ : ∃ w6, w6 = wr.drew := ⟨_, rfl⟩
   rw [← hw6]
   change wr.drew.cell? _ = _ at x0 x1 x2 x3 x4 x5 x6 x7 ck cw
   rw [← hw6] at x0 x1 x2 x3 x4 x5 x6 x7 ck cw
   have HY6 := hide (show Blk w6 g7 191 (ucells X.list) by rw [hw6]; exact HY.out)
   have HO6 := hide (show Only (fun i => i = g7) w5 w6 by rw [hw6]; exact HO.out.drew)
   clear hw6 HY HO
   go_wp2_with fail
   refine wp_region_still_lit (by kernel_rfl) (by kernel_rfl) ?_
   repeat still_step
   still_call (turn_lit _ X.e 6 6 rfl (by decide) (by decide))
   repeat still_step
   still_call (turn_lit _ X.e 11 11 rfl (by decide) (by decide))
   repeat still_step
   still_call (turn_lit _ X.e 25 25 rfl (by decide) (by decide))
   repeat still_step
   refine wpStill_nil ?_
   change Exit.then _ _ _ _ w6.drew
   obtain ⟨w7, hw7⟩ : ∃ w7, w7 = w6.drew := ⟨_, rfl⟩
   rw [← hw7]
   change w6.drew.cell? _ = _ at x0 x1 x2 x3 x4 x5 x6 x7 ck cw
   rw [← hw7] at x0 x1 x2 x3 x4 x5 x6 x7 ck cw
   have HY7 := hide (show Blk w7 g7 191 (ucells X.list) by rw [hw7]; exact HY6.out)
   have HO7 := hide (show Only (fun i => i = g7) w5 w7 by rw [hw7]; exact HO6.out.drew)
   clear hw7 HY6 HO6
   obtain ⟨T, hT⟩ : ∃ T : W32, T = X.h + (BitVec.rotateRight X.e 6 ^^^ BitVec.rotateRight X.e 11 ^^^ BitVec.rotateRight X.e 25) + (X.e &&& X.f ^^^ ~~~X.e &&& X.g) + KJ + WJ := ⟨_, rfl⟩
   rw [← hT]
   have HT := hide hT
   clear hT
   go_wp2_with fail
   refine wp_region_still_lit (by kernel_rfl) (by kernel_rfl) ?_
   repeat still_step
   still_call (turn_lit _ X.a 2 2 rfl (by decide) (by decide))
   repeat still_step
   still_call (turn_lit _ X.a 13 13 rfl (by decide) (by decide))
   repeat still_step
   still_call (turn_lit _ X.a 22 22 rfl (by decide) (by decide))
   repeat still_step
   refine wpStill_nil ?_
   change Exit.then _ _ _ _ w7.drew
   obtain ⟨w8, hw8⟩ : ∃ w8, w8 = w7.drew := ⟨_, rfl⟩
   rw [← hw8]
   change w7.drew.cell? _ = _ at x0 x1 x2 x3 x4 x5 x6 x7 ck cw
   rw [← hw8] at x0 x1 x2 x3 x4 x5 x6 x7 ck cw
   have HY8 := hide (show Blk w8 g7 191 (ucells X.list) by rw [hw8]; exact HY7.out)
   have HO8 := hide (show Only (fun i => i = g7) w5 w8 by rw [hw8]; exact HO7.out.drew)
   clear hw8 HY7 HO7
   obtain ⟨V, hV⟩ : ∃ V : W32, V = (BitVec.rotateRight X.a 2 ^^^ BitVec.rotateRight X.a 13 ^^^ BitVec.rotateRight X.a 22) + (X.a &&& X.b ^^^ X.a &&& X.c ^^^ X.b &&& X.c) := ⟨_, rfl⟩
   rw [← hV]
   have hrd : Sha.round X KJ WJ = ⟨T + V, X.a, X.b, X.c, X.d + T, X.e, X.f, X.g⟩ := by rw [HT.out, hV]; rfl
   have HRD := hide (HN.out.trans hrd)
   clear hV hrd
   go_wp2_with (refine wpList_store_blk rfl 191 _ _ rfl g7 0 191 (ucells X.list) (ucells (⟨T + V, X.a, X.b, X.c, X.d + T, X.e, X.f, X.g⟩ : St).list) (by rfl) (by rfl) HY8.out (Nat.le_refl _) (by rw [ucells_st]; exact hJ) (ucells_one _) ?_; intro w10 o10 z10 b10; simp only [Act.put])
   rw [lay_all (ucells X.list) _ (by rfl), ← HRD.out] at b10
   exact ⟨⟨j + 1, by omega, congrArg (Value.int .i64) (by have := HJ.out; omega), b10, HO8.out.trans o10 (fun _ _ h => h)⟩, by have := HJ.out; simp [intOf]; omega⟩
  ·obtain rfl : j = 64 := by omega
   obtain ⟨X, hX⟩ : ∃ X, X = Sha.rounds (Sha.spread bs) 64 s := ⟨_, rfl⟩
   rw [← hX] at hY
   have hmix : Sha.mix s bs = Sha.add s X := by rw [Sha.mix, hX]
   have HM := hide hmix
   obtain ⟨w6, hw6⟩ : ∃ w6, w6 = wr := ⟨_, rfl⟩
   rw [← hw6] at hY ho ⊢
   clear hw6 wr hX hmix
   have hsz : w.heap.size + 1 < w2.heap.size := HSZ.out
   have hg7 : w.heap.size < g7 ∧ w.heap.size + 1 < g7 := by have := Z7.out; omega
   have BS := hide (ho.blk bS.out (by have := Z7.out; omega))
   have BR := hide (ho.blk bR.out (by have := Z7.out; omega))
   have HB6 := hide (show Below w.heap.size w w6 from (Below.then_ O0.out H5.out).trans (ho.below (Nat.le_trans O0.out.size H5.out.size) (fun i hi e => by have h9 : i = g7 := e; omega)))
   have HG := hide hg7
   have HX := hide hY
   clear hY ho hsz hg7
   go_wp2_with fail
   go_loopw [98] (fun i wr => ∃ j : Nat, j ≤ 8 ∧ i = .int .i64 j ∧ Blk wr w.heap.size 191 (ucells (addTo s.list X.list j)) ∧ Only (fun i => i = w.heap.size) w6 wr) (fun i _ => 8 - (intOf i).toNat)
   case atStart => exact ⟨0, by omega, rfl, BS.out, Only.refl _ _⟩
   case round =>
    obtain ⟨j, hj, rfl, hY, ho⟩ := hrel
    by_cases hlt : j < 8
    ·have hX0 := ho.blk HX.out (by have := HG.out; omega)
     have cx : wr.cell? ⟨g7, j, none⟩ = some (.int .u32 (u (X.list.getD j 0))) := by rw [hX0.cell]; exact ucells_get _ _ hlt
     have cs : wr.cell? ⟨w.heap.size, j, none⟩ = some (.int .u32 (u (s.list.getD j 0))) := by rw [hY.cell, ucells_get _ _ (by rw [addTo_len s X j hj]; exact hlt), addTo_get s X j hlt]
     have fs := hY.frozen j
     obtain ⟨XJ, hXJ⟩ : ∃ XJ, XJ = X.list.getD j 0 := ⟨_, rfl⟩
     obtain ⟨SJ, hSJ⟩ : ∃ SJ, SJ = s.list.getD j 0 := ⟨_, rfl⟩
     have hset := addTo_set s X j hlt
     rw [← hXJ, ← hSJ] at hset
     rw [← hXJ] at cx
     rw [← hSJ] at cs
     have HY := hide hY
     have HO := hide ho
     clear hXJ hSJ hX0 hY ho
     have i0 : (0 : Int) ≤ (j : Int) := by omega
     have i1 : (j : Int) < 8 := by omega
     have HS := hide hset
     clear hset
     go_wp2_with fail
     go_still_tail 8, (by kernel_rfl)
     change wpList _ _ _ _ _ wr.drew
     obtain ⟨w7, hw7⟩ : ∃ w7, w7 = wr.drew := ⟨_, rfl⟩
     rw [← hw7]
     change wr.drew.frozen? _ = _ at fs
     rw [← hw7] at fs
     have cs7 : w7.cell? ⟨w.heap.size, j, none⟩ = some (.int .u32 (u SJ)) := by rw [hw7]; exact cs
     have hY := (show Blk w7 w.heap.size 191 (ucells (addTo s.list X.list j)) by rw [hw7]; exact HY.out)
     have ho := (show Only (fun i => i = w.heap.size) w6 w7 by rw [hw7]; exact HO.out.drew)
     clear hw7 HY HO cs cx
     have hY2 := hide (hY.set_ j (.int .u32 (u (SJ + XJ))))
     rw [ucells_set, HS.out] at hY2
     have HO2 := hide (ho.trans (Only.cell1 w7 w.heap.size j (.int .u32 (u (SJ + XJ)))) (fun _ _ h => h))
     clear hY ho
     go_wp2_with fail
     refine ⟨?_, by simp [intOf]; omega⟩
     repeat apply Exists.intro
     exact ⟨⟨j + 1, by omega, by simp, hY2.out, HO2.out⟩, rfl⟩
    ·obtain rfl : j = 8 := by omega
     rw [addTo_full, ← HM.out] at hY
     have HB7 := hide (show Below w.heap.size w wr from HB6.out.trans (ho.below HB6.out.size (fun i hi e => by have h9 : i = w.heap.size := e; omega)))
     have BR7 := hide (ho.blk BR.out (by omega))
     have HY := hide hY
     have lm : (ucells (Sha.mix s bs).list).length = 8 := rfl
     clear hY ho
     go_wp2_with (first
      | (refine wpList_load_blk rfl 191 _ rfl w.heap.size 0 191 (ucells (Sha.mix s bs).list) (ucells (Sha.mix s bs).list) _ (by rfl) HY.out (fun i v hv => by rw [Nat.zero_add]; exact hv) HV.out rfl (by rw [hJ, lm]) ?_; simp only [pU])
      | (refine wpList_store_blk rfl 191 _ _ rfl (w.heap.size + 1) 0 191 (ucells zeroSt) (ucells (Sha.mix s bs).list) (by rfl) (by rfl) BR7.out (by rw [ls, lm]; decide) (by rw [hJ, lm]) (ucells_one _) ?_; intro w9 o9 z9 b9; simp only [Act.put]))
     rw [lay_all (ucells zeroSt) _ (by rw [ls, lm])] at b9
     refine bodyPost_ret (results_cell_blk rfl _ _ (w.heap.size + 1) 191 _ _ (by rfl) b9 HV.out rfl (by rw [hJ, lm])) rfl ⟨rfl, ?_⟩
     exact HB7.out.trans (o9.below HB7.out.size (fun i hi e => by have h9 : i = w.heap.size + 1 := e; omega))
end
end Go.Proofs.YtjnpkcabkccaoaaGreat
