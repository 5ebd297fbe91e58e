/-
  CoinBytes: the law's walk.
-/
import Derived.Test.YtfloclamdpageaaCoinG
import Derived.Test.YtfloclamdpageaaRefSixB
namespace Go.Proofs.Ytfloclamdpageaa
open Go.RowKit

theorem CoinV.Fine.below {w w' : World} {a : CoinV} (h : a.Fine w) (hb : Below w.heap.size w w') : a.Fine w' := ⟨h.out.below hb, h.h⟩
theorem CoinV.len {w : World} {a : CoinV} (h : a.Fine w) : a.out.bs.length = a.out.n := h.out.bys.1
theorem same_refl (c : CoinD) : c.same c = true := by simp [CoinD.same, OutD.same]
theorem zero_build : CoinV.val ⟨⟨0, none, 0, 0, []⟩, 0, false⟩ = .agg #[.int .i64 0, .slice none 0 0, .int .i64 0, .bool false] := rfl
theorem CoinV.zero_fine (w : World) : CoinV.Fine w ⟨⟨0, none, 0, 0, []⟩, 0, false⟩ := ⟨⟨by decide, Bys.nil _ _, Nat.le_refl _⟩, by decide⟩
theorem Right_at (w : World) (v : Int) (A : Option Addr) (n c : Nat) (xs : List Int) (h : Int) (p : Bool) (hl : xs.length = n) :
    Calls Try.prog 16 #[.agg #[.int .i64 v, .slice A n c, .int .i64 h, .bool p]] w fun e w' => e = .returned (.bool (rightB ⟨⟨v, xs⟩, h, p⟩)) ∧ Below w.heap.size w w' := Right_any w ⟨⟨v, A, n, c, xs⟩, h, p⟩ hl
theorem refCoinBytes_at (w : World) (v : Int) (A : Option Addr) (n c : Nat) (xs : List Int) (h : Int) (p : Bool) (ha : CoinV.Fine w ⟨⟨v, A, n, c, xs⟩, h, p⟩) (hl : n ≤ 1000000) :
    Calls Try.prog 17 #[.agg #[.int .i64 v, .slice A n c, .int .i64 h, .bool p]] w (MinePost 5 w none (CoinD.bytes64 ⟨⟨v, xs⟩, h, p⟩)) := refCoinBytes_any w ⟨⟨v, A, n, c, xs⟩, h, p⟩ ha hl
theorem CoinBytes_at (w : World) (v : Int) (A : Option Addr) (n c : Nat) (xs : List Int) (h : Int) (p : Bool) (ha : CoinV.Fine w ⟨⟨v, A, n, c, xs⟩, h, p⟩) (hl : n ≤ 1000000) :
    Calls Try.prog 19 #[.agg #[.int .i64 v, .slice A n c, .int .i64 h, .bool p]] w (MinePost 5 w none (CoinD.bytes64 ⟨⟨v, xs⟩, h, p⟩)) := CoinBytes_any w ⟨⟨v, A, n, c, xs⟩, h, p⟩ ha hl
theorem SameCoin_at (w : World) (v : Int) (A : Option Addr) (n c : Nat) (xs : List Int) (h : Int) (p : Bool) (v' : Int) (A' : Option Addr) (n' c' : Nat) (xs' : List Int) (h' : Int) (p' : Bool) (ha : CoinV.Fine w ⟨⟨v, A, n, c, xs⟩, h, p⟩) (hb : CoinV.Fine w ⟨⟨v', A', n', c', xs'⟩, h', p'⟩) :
    Calls Try.prog 18 #[.agg #[.int .i64 v, .slice A n c, .int .i64 h, .bool p], .agg #[.int .i64 v', .slice A' n' c', .int .i64 h', .bool p']] w fun e w' => e = .returned (.bool (CoinD.same ⟨⟨v, xs⟩, h, p⟩ ⟨⟨v', xs'⟩, h', p'⟩)) ∧ Below w.heap.size w w' := SameCoin_any w ⟨⟨v, A, n, c, xs⟩, h, p⟩ ⟨⟨v', A', n', c', xs'⟩, h', p'⟩ ha hb
set_option maxHeartbeats 4000000 in
set_option maxRecDepth 100000 in
theorem coinbytes_any (w : World) (a : CoinV) (ha : a.Fine w) (A : Option Addr) (n c : Nat) (bs : List Int) (hB : Bys w A n bs) (k : Int) :
    Calls Try.prog 3 #[a.val, .slice A n c, .int .i64 k] w fun e w' => e = .returned (.bool true) ∧ Below w.heap.size w w' := by
  obtain ⟨⟨v, A0, n0, c0, xs⟩, h, p⟩ := a
  have HA := hide ha
  have HB := hide hB
  clear ha hB
  show Calls Try.prog 3 #[.agg #[.int .i64 v, .slice A0 n0 c0, .int .i64 h, .bool p], .slice A n c, .int .i64 k] w _
  have hb0 := hide (show Below w.heap.size w (w.alloc (.cells #[.int .i64 v, .slice A0 n0 c0, .int .i64 h, .bool p] 26)) from below_alloc (Below.refl _ _) _)
  have B0 := hide (Blk.new w 26 [.int .i64 v, .slice A0 n0 c0, .int .i64 h, .bool p])
  go_enter Try.func3, Try.ntmps3
  go_wp2_with fail
  refine (coinalive_any _).mono ?_
  rintro e w1 ⟨rfl, hb1⟩
  have HB1 := hide (Below.then_ hb0.out hb1)
  have B1 := hide (Blk.under B0.out hb1)
  clear hb1 hb0 B0
  by_cases hn : n ≤ 2500
  · have hn1 : (n : Int) ≤ 2500 := by omega
    go_wp2_with fail
    refine (Parse_any w1 A n c bs (HB.out.below HB1.out) (by omega)).mono ?_
    rintro e w2 ⟨⟨⟨v2, A2, n2, c2, xs2⟩, h2, p2⟩, rfl, hd2, F2, hb2⟩
    simp only [CoinV.val]
    have F2' := hide (F2.below ((Below.refl _ _).alloc (Nat.le_refl _) (.cells #[.int .i64 v2, .slice A2 n2 c2, .int .i64 h2, .bool p2] 26)))
    have B2 := hide ((Blk.under B1.out hb2).alloc (.cells #[.int .i64 v2, .slice A2 n2 c2, .int .i64 h2, .bool p2] 26))
    have N2 := hide (Blk.new w2 26 [.int .i64 v2, .slice A2 n2 c2, .int .i64 h2, .bool p2])
    have HB2 := hide (below_alloc (Below.then_ HB1.out hb2) (.cells #[.int .i64 v2, .slice A2 n2 c2, .int .i64 h2, .bool p2] 26))
    clear F2 B1 hb2
    obtain ⟨w3, hw3⟩ : ∃ w3, w3 = w2.alloc (.cells #[.int .i64 v2, .slice A2 n2 c2, .int .i64 h2, .bool p2] 26) := ⟨_, rfl⟩
    obtain ⟨g, hg⟩ : ∃ g, g = w2.heap.size := ⟨_, rfl⟩
    rw [← hw3] at F2' B2 N2 HB2
    rw [← hg] at N2
    obtain ⟨E, hE⟩ : ∃ E, (parse bs).2 = E := ⟨_, rfl⟩
    rw [hE]
    have hbs := HB.out.2.1
    have Y3 := HB.out.below HB2.out
    have q0 := N2.out.c0
    have q1 := N2.out.c1
    have q2 := N2.out.c2
    have q3 := N2.out.c3
    by_cases he : E = 0
    · subst he
      obtain ⟨g1, g2, g3⟩ := parse_good bs hbs hE
      rw [← hd2] at g1 g2
      have g1' : rightB ⟨⟨v2, xs2⟩, h2, p2⟩ = true := (rightB_iff _).2 g1
      have g4 := hide (show n2 ≤ 1000000 by have h1 := g1.2.1; have h2 := CoinV.len F2'.out; have h3 : xs2.length ≤ 2000 := h1; have h4 : xs2.length = n2 := h2; omega)
      obtain ⟨S, hS⟩ : ∃ S, S = ba bs := ⟨_, rfl⟩
      have hstr := hide (show ∀ (w' : World) (A' : Option Addr) (n' c' : Nat) (xs : List Int), Bys w' A' n' xs → xs = bs → (convert 22 9 (.slice A' n' c')).run Try.prog w' = .ok (.string S) w' from fun w' A' n' c' xs h e => by rw [hS, ← e]; exact run_str w' A' n' c' xs h)
      have G2 := hide g2
      have HL := hide (CoinV.len F2'.out)
      clear g1 g2 hS hd2 hE g3 hbs
      go_wp2_with fail
      rw [← hw3, ← hg]
      clear hw3 hg
      refine wp_region_held_drew (S := fun w' => Below w3.heap.size w3 w') (by kernel_rfl) (by exact (Below.refl _ _).drew) (fun hSR0 => ?_)
      obtain ⟨w3d, hwR⟩ : ∃ x, x = w3.drew := ⟨_, rfl⟩
      rw [← hwR] at hSR0 ⊢
      clear hwR
      (refine wpAnyH_take (i := 0) (oi := { dst := some 26, op := Go.Op.move (Go.Operand.tmp 8), type := 28, pos := "law.go:79", after := #[], guard := none }) (v := ?_) rfl (by kernel_rfl) (by kernel_rfl) (by kernel_rfl) (fun _ _ _ h => h) (Or.inl ⟨by rfl, fun w' hSw => ?_⟩) hSR0 ?_; rotate_left; focus (go_simp; try with_reducible rfl))
      simp only [Act.put, List.setIfInBounds_toArray, List.set_cons_zero, List.set_cons_succ]
      (refine wpAnyH_take (i := 1) (oi := { dst := some 27, op := Go.Op.binOp Go.BinOp.eql 28 (Go.Operand.tmp 26) (Go.Operand.const (Go.Value.int Go.IntKind.i64 0)) 28, type := 4, pos := "law.go:79", after := #[{ on := 0, ground := Go.Ground.data }], guard := none }) (v := ?_) rfl (by kernel_rfl) (by kernel_rfl) (by kernel_rfl) (fun _ _ _ h => h) (Or.inl ⟨by rfl, fun w' hSw => ?_⟩) hSR0 ?_; rotate_left; focus (go_simp; try with_reducible rfl))
      simp only [Act.put, List.setIfInBounds_toArray, List.set_cons_zero, List.set_cons_succ]
      (refine wpAnyH_take (i := 2) (oi := { dst := some 28, op := Go.Op.move (Go.Operand.tmp 27), type := 4, pos := "law.go:79", after := #[{ on := 1, ground := Go.Ground.data }], guard := none }) (v := ?_) rfl (by kernel_rfl) (by kernel_rfl) (by kernel_rfl) (fun _ _ _ h => h) (Or.inl ⟨by rfl, fun w' hSw => ?_⟩) hSR0 ?_; rotate_left; focus (go_simp; try with_reducible rfl))
      simp only [Act.put, List.setIfInBounds_toArray, List.set_cons_zero, List.set_cons_succ]
      (refine wpAnyH_take (i := 3) (oi := { dst := some 29, op := Go.Op.load 26 (Go.Operand.tmp 7), type := 26, pos := "law.go:79", after := #[{ on := 2, ground := Go.Ground.guard }], guard := some (2, true) }) (v := ?_) rfl (by kernel_rfl) (by kernel_rfl) (by kernel_rfl) (fun _ _ _ h => h) (Or.inl ⟨by rfl, fun w' hSw => ?_⟩) hSR0 ?_; rotate_left; focus (have l0 := cell_under hSw q0; have l1 := cell_under hSw q1; have l2 := cell_under hSw q2; have l3 := cell_under hSw q3; go_simp; try with_reducible rfl))
      simp only [Act.put, List.setIfInBounds_toArray, List.set_cons_zero, List.set_cons_succ]
      refine wpAnyH_ready (rs := [4]) (by kernel_rfl) (by simp) ?_
      refine AllReadyH.cons rfl (fun K hK => ?_) AllReadyH.nil
      go_simp
      go_wp2_with (go_at_call 16; refine (Right_at w3d v2 A2 n2 c2 xs2 h2 p2 HL.out).mono ?_; rintro e w4 ⟨rfl, b4⟩; rw [g1'])
      refine hK.out _ _ (Below.then_ hSR0 b4) (fun hSR1 => ?_)
      clear hK K
      (refine wpAnyH_take (i := 5) (oi := { dst := some 31, op := Go.Op.unOp Go.UnOp.not 4 (Go.Operand.tmp 30), type := 4, pos := "law.go:79", after := #[{ on := 4, ground := Go.Ground.data }, { on := 2, ground := Go.Ground.guard }], guard := some (2, true) }) (v := ?_) rfl (by kernel_rfl) (by kernel_rfl) (by kernel_rfl) (fun _ _ _ h => h) (Or.inl ⟨by rfl, fun w' hSw => ?_⟩) hSR1 ?_; rotate_left; focus (go_simp; try with_reducible rfl))
      simp only [Act.put, List.setIfInBounds_toArray, List.set_cons_zero, List.set_cons_succ]
      (refine wpAnyH_take (i := 6) (oi := { dst := some 32, op := Go.Op.move (Go.Operand.tmp 31), type := 4, pos := "law.go:79", after := #[{ on := 5, ground := Go.Ground.data }, { on := 4, ground := Go.Ground.chain }, { on := 2, ground := Go.Ground.guard }], guard := some (2, true) }) (v := ?_) rfl (by kernel_rfl) (by kernel_rfl) (by kernel_rfl) (fun _ _ _ h => h) (Or.inl ⟨by rfl, fun w' hSw => ?_⟩) hSR1 ?_; rotate_left; focus (go_simp; try with_reducible rfl))
      simp only [Act.put, List.setIfInBounds_toArray, List.set_cons_zero, List.set_cons_succ]
      (refine wpAnyH_take (i := 7) (oi := { dst := some 33, op := Go.Op.load 26 (Go.Operand.tmp 7), type := 26, pos := "law.go:79", after := #[{ on := 6, ground := Go.Ground.guard }], guard := some (6, false) }) (v := ?_) rfl (by kernel_rfl) (by kernel_rfl) (by kernel_rfl) (fun _ _ _ h => h) (Or.inl ⟨by rfl, fun w' hSw => ?_⟩) hSR1 ?_; rotate_left; focus (have l0 := cell_under hSw q0; have l1 := cell_under hSw q1; have l2 := cell_under hSw q2; have l3 := cell_under hSw q3; go_simp; try with_reducible rfl))
      simp only [Act.put, List.setIfInBounds_toArray, List.set_cons_zero, List.set_cons_succ]
      (refine wpAnyH_take (i := 10) (oi := { dst := some 36, op := Go.Op.move (Go.Operand.tmp 1), type := 22, pos := "law.go:79", after := #[{ on := 6, ground := Go.Ground.guard }], guard := some (6, false) }) (v := ?_) rfl (by kernel_rfl) (by kernel_rfl) (by kernel_rfl) (fun _ _ _ h => h) (Or.inl ⟨by rfl, fun w' hSw => ?_⟩) hSR1 ?_; rotate_left; focus (go_simp; try with_reducible rfl))
      simp only [Act.put, List.setIfInBounds_toArray, List.set_cons_zero, List.set_cons_succ]
      (refine wpAnyH_take (i := 11) (oi := { dst := some 37, op := Go.Op.convert 22 9 (Go.Operand.tmp 36), type := 9, pos := "law.go:79", after := #[{ on := 10, ground := Go.Ground.data }, { on := 6, ground := Go.Ground.guard }], guard := some (6, false) }) (v := ?_) rfl (by kernel_rfl) (by kernel_rfl) (by kernel_rfl) (fun _ _ _ h => h) (Or.inl ⟨by rfl, fun w' hSw => ?_⟩) hSR1 ?_; rotate_left; focus (have sb := hstr.out w' A n c _ (Y3.below hSw) rfl; go_simp; try with_reducible rfl))
      simp only [Act.put, List.setIfInBounds_toArray, List.set_cons_zero, List.set_cons_succ]
      refine wpAnyH_ready (rs := [8]) (by kernel_rfl) (by simp) ?_
      refine AllReadyH.cons rfl (fun K hK => ?_) AllReadyH.nil
      go_simp
      go_wp2_with (go_at_call 17; refine (refCoinBytes_at w4 v2 A2 n2 c2 xs2 h2 p2 (F2'.out.below hSR1) g4.out).mono ?_; rintro e w5 ⟨A5, n5, c5, rfl, t5, f5⟩)
      refine hK.out _ _ (Below.then_ hSR1 t5.below) (fun hSR2 => ?_)
      clear hK K
      refine wpAnyH_ready (rs := [9]) (by kernel_rfl) (by simp) ?_
      refine AllReadyH.cons rfl (fun K hK => ?_) AllReadyH.nil
      have s5 := hstr.out w5 A5 n5 c5 _ t5.bys G2.out
      go_simp
      refine hK.out _ _ (hSR2) (fun hSR3 => ?_)
      clear hK K
      (refine wpAnyH_take (i := 12) (oi := { dst := some 38, op := Go.Op.binOp Go.BinOp.neq 9 (Go.Operand.tmp 35) (Go.Operand.tmp 37) 9, type := 4, pos := "law.go:79", after := #[{ on := 9, ground := Go.Ground.data }, { on := 11, ground := Go.Ground.data }, { on := 6, ground := Go.Ground.guard }], guard := some (6, false) }) (v := ?_) rfl (by kernel_rfl) (by kernel_rfl) (by kernel_rfl) (fun _ _ _ h => h) (Or.inl ⟨by rfl, fun w' hSw => ?_⟩) hSR3 ?_; rotate_left; focus (go_simp; try with_reducible rfl))
      simp only [Act.put, List.setIfInBounds_toArray, List.set_cons_zero, List.set_cons_succ]
      (refine wpAnyH_take (i := 13) (oi := { dst := some 39, op := Go.Op.pick (Go.Operand.tmp 32) (Go.Operand.const (Go.Value.bool true)) (Go.Operand.tmp 38), type := 4, pos := "law.go:79", after := #[{ on := 6, ground := Go.Ground.data }, { on := 12, ground := Go.Ground.data }, { on := 2, ground := Go.Ground.guard }], guard := some (2, true) }) (v := ?_) rfl (by kernel_rfl) (by kernel_rfl) (by kernel_rfl) (fun _ _ _ h => h) (Or.inl ⟨by rfl, fun w' hSw => ?_⟩) hSR3 ?_; rotate_left; focus (go_simp; try with_reducible rfl))
      simp only [Act.put, List.setIfInBounds_toArray, List.set_cons_zero, List.set_cons_succ]
      (refine wpAnyH_take (i := 14) (oi := { dst := some 40, op := Go.Op.pick (Go.Operand.tmp 28) (Go.Operand.tmp 39) (Go.Operand.const (Go.Value.bool false)), type := 4, pos := "law.go:79", after := #[{ on := 2, ground := Go.Ground.data }, { on := 13, ground := Go.Ground.data }], guard := none }) (v := ?_) rfl (by kernel_rfl) (by kernel_rfl) (by kernel_rfl) (fun _ _ _ h => h) (Or.inl ⟨by rfl, fun w' hSw => ?_⟩) hSR3 ?_; rotate_left; focus (go_simp; try with_reducible rfl))
      simp only [Act.put, List.setIfInBounds_toArray, List.set_cons_zero, List.set_cons_succ]
      (refine wpAnyH_take (i := 15) (oi := { dst := some 41, op := Go.Op.move (Go.Operand.tmp 40), type := 4, pos := "law.go:79", after := #[{ on := 14, ground := Go.Ground.data }, { on := 8, ground := Go.Ground.chain }], guard := none }) (v := ?_) rfl (by kernel_rfl) (by kernel_rfl) (by kernel_rfl) (fun _ _ _ h => h) (Or.inl ⟨by rfl, fun w' hSw => ?_⟩) hSR3 ?_; rotate_left; focus (go_simp; try with_reducible rfl))
      simp only [Act.put, List.setIfInBounds_toArray, List.set_cons_zero, List.set_cons_succ]
      (refine wpAnyH_take (i := 16) (oi := { dst := some 42, op := Go.Op.move (Go.Operand.tmp 8), type := 28, pos := "law.go:79", after := #[{ on := 15, ground := Go.Ground.guard }], guard := some (15, false) }) (v := ?_) rfl (by kernel_rfl) (by kernel_rfl) (by kernel_rfl) (fun _ _ _ h => h) (Or.inl ⟨by rfl, fun w' hSw => ?_⟩) hSR3 ?_; rotate_left; focus (go_simp; try with_reducible rfl))
      simp only [Act.put, List.setIfInBounds_toArray, List.set_cons_zero, List.set_cons_succ]
      (refine wpAnyH_take (i := 17) (oi := { dst := some 43, op := Go.Op.binOp Go.BinOp.neq 28 (Go.Operand.tmp 42) (Go.Operand.const (Go.Value.int Go.IntKind.i64 0)) 28, type := 4, pos := "law.go:79", after := #[{ on := 16, ground := Go.Ground.data }, { on := 15, ground := Go.Ground.guard }], guard := some (15, false) }) (v := ?_) rfl (by kernel_rfl) (by kernel_rfl) (by kernel_rfl) (fun _ _ _ h => h) (Or.inl ⟨by rfl, fun w' hSw => ?_⟩) hSR3 ?_; rotate_left; focus (go_simp; try with_reducible rfl))
      simp only [Act.put, List.setIfInBounds_toArray, List.set_cons_zero, List.set_cons_succ]
      (refine wpAnyH_take (i := 18) (oi := { dst := some 44, op := Go.Op.move (Go.Operand.tmp 43), type := 4, pos := "law.go:79", after := #[{ on := 17, ground := Go.Ground.data }, { on := 15, ground := Go.Ground.chain }, { on := 15, ground := Go.Ground.guard }], guard := some (15, false) }) (v := ?_) rfl (by kernel_rfl) (by kernel_rfl) (by kernel_rfl) (fun _ _ _ h => h) (Or.inl ⟨by rfl, fun w' hSw => ?_⟩) hSR3 ?_; rotate_left; focus (go_simp; try with_reducible rfl))
      simp only [Act.put, List.setIfInBounds_toArray, List.set_cons_zero, List.set_cons_succ]
      refine wpAnyH_take (i := 19) (oi := { dst := some 45, op := Go.Op.load 26 (Go.Operand.tmp 7), type := 26, pos := "law.go:79", after := #[{ on := 18, ground := Go.Ground.guard }], guard := some (18, true) }) (v := undef) rfl (by kernel_rfl) (by kernel_rfl) (by kernel_rfl) (fun _ _ _ h => h) (Or.inr ⟨by rfl, rfl⟩) hSR3 ?_
      simp only [Act.put, List.setIfInBounds_toArray, List.set_cons_zero, List.set_cons_succ]
      refine wpAnyH_take (i := 20) (oi := { dst := some 46, op := Go.Op.build 26 #[], type := 26, pos := "law.go:79", after := #[{ on := 18, ground := Go.Ground.guard }], guard := some (18, true) }) (v := undef) rfl (by kernel_rfl) (by kernel_rfl) (by kernel_rfl) (fun _ _ _ h => h) (Or.inr ⟨by rfl, rfl⟩) hSR3 ?_
      simp only [Act.put, List.setIfInBounds_toArray, List.set_cons_zero, List.set_cons_succ]
      refine wpAnyH_take (i := 21) (oi := { dst := some 47, op := Go.Op.call { callee := Go.Callee.value (Go.Operand.func 18), args := #[Go.Operand.tmp 45, Go.Operand.tmp 46], argTypes := #[26, 26] }, type := 4, pos := "law.go:79", after := #[{ on := 19, ground := Go.Ground.data }, { on := 20, ground := Go.Ground.data }, { on := 18, ground := Go.Ground.chain }, { on := 18, ground := Go.Ground.guard }], guard := some (18, true) }) (v := undef) rfl (by kernel_rfl) (by kernel_rfl) (by kernel_rfl) (fun _ _ _ h => h) (Or.inr ⟨by rfl, rfl⟩) hSR3 ?_
      simp only [Act.put, List.setIfInBounds_toArray, List.set_cons_zero, List.set_cons_succ]
      refine wpAnyH_take (i := 22) (oi := { dst := some 48, op := Go.Op.unOp Go.UnOp.not 4 (Go.Operand.tmp 47), type := 4, pos := "law.go:79", after := #[{ on := 21, ground := Go.Ground.data }, { on := 18, ground := Go.Ground.guard }], guard := some (18, true) }) (v := undef) rfl (by kernel_rfl) (by kernel_rfl) (by kernel_rfl) (fun _ _ _ h => h) (Or.inr ⟨by rfl, rfl⟩) hSR3 ?_
      simp only [Act.put, List.setIfInBounds_toArray, List.set_cons_zero, List.set_cons_succ]
      refine wpAnyH_take (i := 23) (oi := { dst := some 49, op := Go.Op.move (Go.Operand.tmp 48), type := 4, pos := "law.go:79", after := #[{ on := 22, ground := Go.Ground.data }, { on := 21, ground := Go.Ground.chain }, { on := 18, ground := Go.Ground.guard }], guard := some (18, true) }) (v := undef) rfl (by kernel_rfl) (by kernel_rfl) (by kernel_rfl) (fun _ _ _ h => h) (Or.inr ⟨by rfl, rfl⟩) hSR3 ?_
      simp only [Act.put, List.setIfInBounds_toArray, List.set_cons_zero, List.set_cons_succ]
      refine wpAnyH_take (i := 24) (oi := { dst := some 50, op := Go.Op.move (Go.Operand.tmp 8), type := 28, pos := "law.go:79", after := #[{ on := 23, ground := Go.Ground.guard }], guard := some (23, false) }) (v := undef) rfl (by kernel_rfl) (by kernel_rfl) (by kernel_rfl) (fun _ _ _ h => h) (Or.inr ⟨by rfl, rfl⟩) hSR3 ?_
      simp only [Act.put, List.setIfInBounds_toArray, List.set_cons_zero, List.set_cons_succ]
      refine wpAnyH_take (i := 25) (oi := { dst := some 51, op := Go.Op.binOp Go.BinOp.neq 28 (Go.Operand.tmp 50) (Go.Operand.const (Go.Value.int Go.IntKind.i64 61)) 28, type := 4, pos := "law.go:79", after := #[{ on := 24, ground := Go.Ground.data }, { on := 23, ground := Go.Ground.guard }], guard := some (23, false) }) (v := undef) rfl (by kernel_rfl) (by kernel_rfl) (by kernel_rfl) (fun _ _ _ h => h) (Or.inr ⟨by rfl, rfl⟩) hSR3 ?_
      simp only [Act.put, List.setIfInBounds_toArray, List.set_cons_zero, List.set_cons_succ]
      refine wpAnyH_take (i := 26) (oi := { dst := some 52, op := Go.Op.move (Go.Operand.tmp 51), type := 4, pos := "law.go:79", after := #[{ on := 25, ground := Go.Ground.data }, { on := 23, ground := Go.Ground.chain }, { on := 23, ground := Go.Ground.guard }], guard := some (23, false) }) (v := undef) rfl (by kernel_rfl) (by kernel_rfl) (by kernel_rfl) (fun _ _ _ h => h) (Or.inr ⟨by rfl, rfl⟩) hSR3 ?_
      simp only [Act.put, List.setIfInBounds_toArray, List.set_cons_zero, List.set_cons_succ]
      refine wpAnyH_take (i := 27) (oi := { dst := some 53, op := Go.Op.move (Go.Operand.tmp 8), type := 28, pos := "law.go:79", after := #[{ on := 26, ground := Go.Ground.guard }], guard := some (26, true) }) (v := undef) rfl (by kernel_rfl) (by kernel_rfl) (by kernel_rfl) (fun _ _ _ h => h) (Or.inr ⟨by rfl, rfl⟩) hSR3 ?_
      simp only [Act.put, List.setIfInBounds_toArray, List.set_cons_zero, List.set_cons_succ]
      refine wpAnyH_take (i := 28) (oi := { dst := some 54, op := Go.Op.binOp Go.BinOp.neq 28 (Go.Operand.tmp 53) (Go.Operand.const (Go.Value.int Go.IntKind.i64 62)) 28, type := 4, pos := "law.go:79", after := #[{ on := 27, ground := Go.Ground.data }, { on := 26, ground := Go.Ground.guard }], guard := some (26, true) }) (v := undef) rfl (by kernel_rfl) (by kernel_rfl) (by kernel_rfl) (fun _ _ _ h => h) (Or.inr ⟨by rfl, rfl⟩) hSR3 ?_
      simp only [Act.put, List.setIfInBounds_toArray, List.set_cons_zero, List.set_cons_succ]
      refine wpAnyH_take (i := 29) (oi := { dst := some 55, op := Go.Op.pick (Go.Operand.tmp 52) (Go.Operand.tmp 54) (Go.Operand.const (Go.Value.bool false)), type := 4, pos := "law.go:79", after := #[{ on := 26, ground := Go.Ground.data }, { on := 28, ground := Go.Ground.data }, { on := 23, ground := Go.Ground.guard }], guard := some (23, false) }) (v := undef) rfl (by kernel_rfl) (by kernel_rfl) (by kernel_rfl) (fun _ _ _ h => h) (Or.inr ⟨by rfl, rfl⟩) hSR3 ?_
      simp only [Act.put, List.setIfInBounds_toArray, List.set_cons_zero, List.set_cons_succ]
      refine wpAnyH_take (i := 30) (oi := { dst := some 56, op := Go.Op.pick (Go.Operand.tmp 49) (Go.Operand.const (Go.Value.bool true)) (Go.Operand.tmp 55), type := 4, pos := "law.go:79", after := #[{ on := 23, ground := Go.Ground.data }, { on := 29, ground := Go.Ground.data }, { on := 18, ground := Go.Ground.guard }], guard := some (18, true) }) (v := undef) rfl (by kernel_rfl) (by kernel_rfl) (by kernel_rfl) (fun _ _ _ h => h) (Or.inr ⟨by rfl, rfl⟩) hSR3 ?_
      simp only [Act.put, List.setIfInBounds_toArray, List.set_cons_zero, List.set_cons_succ]
      first | (refine wpAnyH_take (i := 31) (oi := { dst := some 57, op := Go.Op.pick (Go.Operand.tmp 44) (Go.Operand.tmp 56) (Go.Operand.const (Go.Value.bool false)), type := 4, pos := "law.go:79", after := #[{ on := 18, ground := Go.Ground.data }, { on := 30, ground := Go.Ground.data }, { on := 15, ground := Go.Ground.guard }], guard := some (15, false) }) (v := undef) rfl (by kernel_rfl) (by kernel_rfl) (by kernel_rfl) (fun _ _ _ h => h) (Or.inr ⟨by rfl, rfl⟩) hSR3 ?_) | (refine wpAnyH_take (i := 31) (oi := { dst := some 57, op := Go.Op.pick (Go.Operand.tmp 44) (Go.Operand.tmp 56) (Go.Operand.const (Go.Value.bool false)), type := 4, pos := "law.go:79", after := #[{ on := 18, ground := Go.Ground.data }, { on := 30, ground := Go.Ground.data }, { on := 15, ground := Go.Ground.guard }], guard := some (15, false) }) (v := ?_) rfl (by kernel_rfl) (by kernel_rfl) (by kernel_rfl) (fun _ _ _ h => h) (Or.inl ⟨by rfl, fun w' hSw => ?_⟩) hSR3 ?_; rotate_left; focus (go_simp; try with_reducible rfl))
      simp only [Act.put, List.setIfInBounds_toArray, List.set_cons_zero, List.set_cons_succ]
      (refine wpAnyH_take (i := 32) (oi := { dst := some 58, op := Go.Op.pick (Go.Operand.tmp 41) (Go.Operand.const (Go.Value.bool true)) (Go.Operand.tmp 57), type := 4, pos := "law.go:79", after := #[{ on := 15, ground := Go.Ground.data }, { on := 31, ground := Go.Ground.data }], guard := none }) (v := ?_) rfl (by kernel_rfl) (by kernel_rfl) (by kernel_rfl) (fun _ _ _ h => h) (Or.inl ⟨by rfl, fun w' hSw => ?_⟩) hSR3 ?_; rotate_left; focus (go_simp; try with_reducible rfl))
      simp only [Act.put, List.setIfInBounds_toArray, List.set_cons_zero, List.set_cons_succ]
      refine wpAnyH_done (by kernel_rfl) ?_ _
      have HB6 := hide (Below.then_ HB2.out hSR3)
      have B6 := hide (Blk.under B2.out hSR3)
      have FA := hide (HA.out.below HB6.out)
      clear q0 q1 q2 q3 hSR3
      have k0 := B6.out.c0
      have k1 := B6.out.c1
      have k2 := B6.out.c2
      have k3 := B6.out.c3
      go_wp2_with fail
      refine (Right_at w5 v A0 n0 c0 xs h p (CoinV.len FA.out)).mono ?_
      rintro e w7 ⟨rfl, b7⟩
      have HB7 := hide (Below.then_ HB6.out b7)
      have B7 := hide (Blk.under B6.out b7)
      have FA7 := hide (FA.out.below b7)
      clear k0 k1 k2 k3 b7
      by_cases hr : rightB ⟨⟨v, xs⟩, h, p⟩ = true
      · rw [hr]
        have hrt := hide ((rightB_iff _).1 hr)
        have hn0 := hide (show n0 ≤ 1000000 by have h1 := hrt.out.2.1; have h2 := CoinV.len FA7.out; have h3 : xs.length ≤ 2000 := h1; have h4 : xs.length = n0 := h2; omega)
        have HPA := hide (parse_append ⟨⟨v, xs⟩, h, p⟩ hrt.out)
        have HPC := hide (parse_cut ⟨⟨v, xs⟩, h, p⟩ hrt.out)
        clear hr
        have k0 := B7.out.c0
        have k1 := B7.out.c1
        have k2 := B7.out.c2
        have k3 := B7.out.c3
        go_wp2_with fail
        refine (CoinBytes_at w7 v A0 n0 c0 xs h p FA7.out hn0.out).mono ?_
        rintro e w8 ⟨A8, n8, c8, rfl, t8, f8⟩
        have hl8 := hide (show n8 ≤ 1000100 by
          have e1 := t8.len
          have e2 := CoinV.len FA7.out
          have e3 := hn0.out
          have e4 := txt_len xs
          have e5 := (cnt_length (CoinD.n64 ⟨⟨v, xs⟩, h, p⟩).toNat).2
          simp only [CoinD.bytes64, OutD.bytes, List.length_append, dig_length] at e1
          have e6 : xs.length = n0 := e2
          omega)
        clear k0 k1 k2 k3
        obtain ⟨PB, hPB⟩ : ∃ PB, PB = CoinD.bytes64 ⟨⟨v, xs⟩, h, p⟩ := ⟨_, rfl⟩
        rw [← hPB] at t8 HPA HPC
        have HPB := hide hPB
        clear hPB
        obtain ⟨PS, hPS⟩ : ∃ PS, PS = ba PB := ⟨_, rfl⟩
        have hpstr := hide (show ∀ (w' : World) (A' : Option Addr) (n' c' : Nat) (xs : List Int), Bys w' A' n' xs → xs = PB → (convert 22 9 (.slice A' n' c')).run Try.prog w' = .ok (.string PS) w' from fun w' A' n' c' xs h e => by rw [hPS, ← e]; exact run_str w' A' n' c' xs h)
        clear hPS
        have hp0 := hide (show parse PB = (⟨⟨v, xs⟩, h, p⟩, 0) by have := HPA.out []; simpa using this)
        have HB8 := hide (Below.then_ HB7.out t8.below)
        have B8 := hide (Blk.under B7.out t8.below)
        have FA8 := hide (FA7.out.below t8.below)
        go_wp2_with fail
        refine (Parse_any w8 A8 n8 c8 PB t8.bys (by have := hl8.out; omega)).mono ?_
        rintro e wa ⟨⟨⟨v9, A9, n9, c9, xs9⟩, h9, p9⟩, rfl, hd9, F9a, ba⟩
        rw [hp0.out] at hd9 ⊢
        simp only [CoinV.d, OutV.d, CoinD.mk.injEq, OutD.mk.injEq] at hd9
        obtain ⟨⟨e1, e2⟩, e3, e4⟩ := hd9
        subst v9
        subst xs9
        subst h9
        subst p9
        simp only [CoinV.val]
        have bx : Below wa.heap.size wa (wa.alloc (.cells #[.int .i64 v, .slice A9 n9 c9, .int .i64 h, .bool p] 26)) := below_alloc (Below.refl _ _) _
        have b89 := hide (Below.then_ ba bx)
        have F9y := hide (F9a.below bx)
        have N9 := hide (Blk.new wa 26 [.int .i64 v, .slice A9 n9 c9, .int .i64 h, .bool p])
        obtain ⟨w9, hw9⟩ : ∃ w9, w9 = wa.alloc (.cells #[.int .i64 v, .slice A9 n9 c9, .int .i64 h, .bool p] 26) := ⟨_, rfl⟩
        obtain ⟨g9, hg9⟩ : ∃ g9, g9 = wa.heap.size := ⟨_, rfl⟩
        rw [← hw9] at b89 F9y N9
        rw [← hg9] at N9
        have HB9 := hide (Below.then_ HB8.out b89.out)
        have B9 := hide (Blk.under B8.out b89.out)
        have F9 := hide (FA8.out.below b89.out)
        have Y9 := hide (t8.bys.below b89.out)
        have M9 := hide (t8.keep b89.out)
        have y0 := B9.out.c0
        have y1 := B9.out.c1
        have y2 := B9.out.c2
        have y3 := B9.out.c3
        have z0 := N9.out.c0
        have z1 := N9.out.c1
        have z2 := N9.out.c2
        have z3 := N9.out.c3
        clear ba bx F9a t8 f8
        go_wp2_with fail
        rw [← hw9, ← hg9]
        clear hw9 hg9
        refine wp_region_held_drew (S := fun w' => Below w9.heap.size w9 w') (by kernel_rfl) (by exact (Below.refl _ _).drew) (fun hSQ0 => ?_)
        obtain ⟨w9d, hwQ⟩ : ∃ x, x = w9.drew := ⟨_, rfl⟩
        rw [← hwQ] at hSQ0 ⊢
        clear hwQ
        (refine wpAnyH_take (i := 0) (oi := { dst := some 69, op := Go.Op.move (Go.Operand.tmp 9), type := 22, pos := "law.go:87", after := #[], guard := none }) (v := ?_) rfl (by kernel_rfl) (by kernel_rfl) (by kernel_rfl) (fun _ _ _ h => h) (Or.inl ⟨by rfl, fun w' hSw => ?_⟩) hSQ0 ?_; rotate_left; focus (go_simp; try with_reducible rfl))
        simp only [Act.put, List.setIfInBounds_toArray, List.set_cons_zero, List.set_cons_succ]
        (refine wpAnyH_take (i := 1) (oi := { dst := some 70, op := Go.Op.convert 22 9 (Go.Operand.tmp 69), type := 9, pos := "law.go:87", after := #[{ on := 0, ground := Go.Ground.data }], guard := none }) (v := ?_) rfl (by kernel_rfl) (by kernel_rfl) (by kernel_rfl) (fun _ _ _ h => h) (Or.inl ⟨by rfl, fun w' hSw => ?_⟩) hSQ0 ?_; rotate_left; focus (have l0 := hpstr.out w' A8 n8 c8 _ (Y9.out.below hSw) rfl; go_simp; try with_reducible rfl))
        simp only [Act.put, List.setIfInBounds_toArray, List.set_cons_zero, List.set_cons_succ]
        (refine wpAnyH_take (i := 2) (oi := { dst := some 71, op := Go.Op.load 26 (Go.Operand.tmp 3), type := 26, pos := "law.go:87", after := #[], guard := none }) (v := ?_) rfl (by kernel_rfl) (by kernel_rfl) (by kernel_rfl) (fun _ _ _ h => h) (Or.inl ⟨by rfl, fun w' hSw => ?_⟩) hSQ0 ?_; rotate_left; focus (have l0 := cell_under hSw y0; have l1 := cell_under hSw y1; have l2 := cell_under hSw y2; have l3 := cell_under hSw y3; go_simp; try with_reducible rfl))
        simp only [Act.put, List.setIfInBounds_toArray, List.set_cons_zero, List.set_cons_succ]
        refine wpAnyH_ready (rs := [3]) (by kernel_rfl) (by simp) ?_
        refine AllReadyH.cons rfl (fun K hK => ?_) AllReadyH.nil
        go_simp
        go_wp2_with (go_at_call 17; refine (refCoinBytes_at w9d v A0 n0 c0 xs h p (F9.out.below hSQ0) hn0.out).mono ?_; rintro e w10 ⟨A10, n10, c10, rfl, t10, f10⟩)
        refine hK.out _ _ (Below.then_ hSQ0 t10.below) (fun hSQ1 => ?_)
        clear hK K
        refine wpAnyH_ready (rs := [4]) (by kernel_rfl) (by simp) ?_
        refine AllReadyH.cons rfl (fun K hK => ?_) AllReadyH.nil
        have s10 := hpstr.out w10 A10 n10 c10 _ t10.bys HPB.out.symm
        go_simp
        refine hK.out _ _ (hSQ1) (fun hSQ2 => ?_)
        clear hK K
        (refine wpAnyH_take (i := 5) (oi := { dst := some 74, op := Go.Op.binOp Go.BinOp.neq 9 (Go.Operand.tmp 70) (Go.Operand.tmp 73) 9, type := 4, pos := "law.go:87", after := #[{ on := 1, ground := Go.Ground.data }, { on := 4, ground := Go.Ground.data }], guard := none }) (v := ?_) rfl (by kernel_rfl) (by kernel_rfl) (by kernel_rfl) (fun _ _ _ h => h) (Or.inl ⟨by rfl, fun w' hSw => ?_⟩) hSQ2 ?_; rotate_left; focus (go_simp; try with_reducible rfl))
        simp only [Act.put, List.setIfInBounds_toArray, List.set_cons_zero, List.set_cons_succ]
        (refine wpAnyH_take (i := 6) (oi := { dst := some 75, op := Go.Op.move (Go.Operand.tmp 74), type := 4, pos := "law.go:87", after := #[{ on := 5, ground := Go.Ground.data }, { on := 3, ground := Go.Ground.chain }], guard := none }) (v := ?_) rfl (by kernel_rfl) (by kernel_rfl) (by kernel_rfl) (fun _ _ _ h => h) (Or.inl ⟨by rfl, fun w' hSw => ?_⟩) hSQ2 ?_; rotate_left; focus (go_simp; try with_reducible rfl))
        simp only [Act.put, List.setIfInBounds_toArray, List.set_cons_zero, List.set_cons_succ]
        (refine wpAnyH_take (i := 7) (oi := { dst := some 76, op := Go.Op.move (Go.Operand.tmp 11), type := 28, pos := "law.go:87", after := #[{ on := 6, ground := Go.Ground.guard }], guard := some (6, false) }) (v := ?_) rfl (by kernel_rfl) (by kernel_rfl) (by kernel_rfl) (fun _ _ _ h => h) (Or.inl ⟨by rfl, fun w' hSw => ?_⟩) hSQ2 ?_; rotate_left; focus (go_simp; try with_reducible rfl))
        simp only [Act.put, List.setIfInBounds_toArray, List.set_cons_zero, List.set_cons_succ]
        (refine wpAnyH_take (i := 8) (oi := { dst := some 77, op := Go.Op.binOp Go.BinOp.neq 28 (Go.Operand.tmp 76) (Go.Operand.const (Go.Value.int Go.IntKind.i64 0)) 28, type := 4, pos := "law.go:87", after := #[{ on := 7, ground := Go.Ground.data }, { on := 6, ground := Go.Ground.guard }], guard := some (6, false) }) (v := ?_) rfl (by kernel_rfl) (by kernel_rfl) (by kernel_rfl) (fun _ _ _ h => h) (Or.inl ⟨by rfl, fun w' hSw => ?_⟩) hSQ2 ?_; rotate_left; focus (go_simp; try with_reducible rfl))
        simp only [Act.put, List.setIfInBounds_toArray, List.set_cons_zero, List.set_cons_succ]
        (refine wpAnyH_take (i := 9) (oi := { dst := some 78, op := Go.Op.pick (Go.Operand.tmp 75) (Go.Operand.const (Go.Value.bool true)) (Go.Operand.tmp 77), type := 4, pos := "law.go:87", after := #[{ on := 6, ground := Go.Ground.data }, { on := 8, ground := Go.Ground.data }], guard := none }) (v := ?_) rfl (by kernel_rfl) (by kernel_rfl) (by kernel_rfl) (fun _ _ _ h => h) (Or.inl ⟨by rfl, fun w' hSw => ?_⟩) hSQ2 ?_; rotate_left; focus (go_simp; try with_reducible rfl))
        simp only [Act.put, List.setIfInBounds_toArray, List.set_cons_zero, List.set_cons_succ]
        (refine wpAnyH_take (i := 10) (oi := { dst := some 79, op := Go.Op.move (Go.Operand.tmp 78), type := 4, pos := "law.go:87", after := #[{ on := 9, ground := Go.Ground.data }, { on := 6, ground := Go.Ground.chain }], guard := none }) (v := ?_) rfl (by kernel_rfl) (by kernel_rfl) (by kernel_rfl) (fun _ _ _ h => h) (Or.inl ⟨by rfl, fun w' hSw => ?_⟩) hSQ2 ?_; rotate_left; focus (go_simp; try with_reducible rfl))
        simp only [Act.put, List.setIfInBounds_toArray, List.set_cons_zero, List.set_cons_succ]
        (refine wpAnyH_take (i := 11) (oi := { dst := some 80, op := Go.Op.load 26 (Go.Operand.tmp 10), type := 26, pos := "law.go:87", after := #[{ on := 10, ground := Go.Ground.guard }], guard := some (10, false) }) (v := ?_) rfl (by kernel_rfl) (by kernel_rfl) (by kernel_rfl) (fun _ _ _ h => h) (Or.inl ⟨by rfl, fun w' hSw => ?_⟩) hSQ2 ?_; rotate_left; focus (have l0 := cell_under hSw z0; have l1 := cell_under hSw z1; have l2 := cell_under hSw z2; have l3 := cell_under hSw z3; go_simp; try with_reducible rfl))
        simp only [Act.put, List.setIfInBounds_toArray, List.set_cons_zero, List.set_cons_succ]
        (refine wpAnyH_take (i := 12) (oi := { dst := some 81, op := Go.Op.load 26 (Go.Operand.tmp 3), type := 26, pos := "law.go:87", after := #[{ on := 10, ground := Go.Ground.guard }], guard := some (10, false) }) (v := ?_) rfl (by kernel_rfl) (by kernel_rfl) (by kernel_rfl) (fun _ _ _ h => h) (Or.inl ⟨by rfl, fun w' hSw => ?_⟩) hSQ2 ?_; rotate_left; focus (have l0 := cell_under hSw y0; have l1 := cell_under hSw y1; have l2 := cell_under hSw y2; have l3 := cell_under hSw y3; go_simp; try with_reducible rfl))
        simp only [Act.put, List.setIfInBounds_toArray, List.set_cons_zero, List.set_cons_succ]
        refine wpAnyH_ready (rs := [13]) (by kernel_rfl) (by simp) ?_
        refine AllReadyH.cons rfl (fun K hK => ?_) AllReadyH.nil
        go_simp
        go_wp2_with (go_at_call 18; refine (SameCoin_at w10 v A9 n9 c9 xs h p v A0 n0 c0 xs h p (F9y.out.below hSQ1) (F9.out.below hSQ1)).mono ?_; rintro e w11 ⟨rfl, b11⟩; rw [same_refl])
        refine hK.out _ _ (Below.then_ hSQ2 b11) (fun hSQ3 => ?_)
        clear hK K
        (refine wpAnyH_take (i := 14) (oi := { dst := some 83, op := Go.Op.unOp Go.UnOp.not 4 (Go.Operand.tmp 82), type := 4, pos := "law.go:87", after := #[{ on := 13, ground := Go.Ground.data }, { on := 10, ground := Go.Ground.guard }], guard := some (10, false) }) (v := ?_) rfl (by kernel_rfl) (by kernel_rfl) (by kernel_rfl) (fun _ _ _ h => h) (Or.inl ⟨by rfl, fun w' hSw => ?_⟩) hSQ3 ?_; rotate_left; focus (go_simp; try with_reducible rfl))
        simp only [Act.put, List.setIfInBounds_toArray, List.set_cons_zero, List.set_cons_succ]
        (refine wpAnyH_take (i := 15) (oi := { dst := some 84, op := Go.Op.pick (Go.Operand.tmp 79) (Go.Operand.const (Go.Value.bool true)) (Go.Operand.tmp 83), type := 4, pos := "law.go:87", after := #[{ on := 10, ground := Go.Ground.data }, { on := 14, ground := Go.Ground.data }], guard := none }) (v := ?_) rfl (by kernel_rfl) (by kernel_rfl) (by kernel_rfl) (fun _ _ _ h => h) (Or.inl ⟨by rfl, fun w' hSw => ?_⟩) hSQ3 ?_; rotate_left; focus (go_simp; try with_reducible rfl))
        simp only [Act.put, List.setIfInBounds_toArray, List.set_cons_zero, List.set_cons_succ]
        refine wpAnyH_done (by kernel_rfl) ?_ _
        have HB12 := hide (Below.then_ HB9.out hSQ3)
        have M12 := hide (M9.out.keep hSQ3)
        clear hSQ3 y0 y1 y2 y3 z0 z1 z2 z3
        have H812 := hide (M12.out.below)
        have HBA := hide (Below.then_ HB7.out M12.out.below)
        by_cases hk : k < 0 ∨ (n8 : Int) ≤ k
        · have HK := hide hk
          have Z12 := hide (Bys.one w11 5 0 (by decide) (by decide))
          rcases hk with hk | hk
          · go_wp2_with (at_builtin; refine wpList_app rfl _ _ rfl w7 A8 n8 c8 PB (by rfl) ((M12.out.alloc _)) (some ⟨w11.heap.size, 0, none⟩) 1 1 [0] (by rfl) Z12.out (by have := hl8.out; omega) ?_; intro A13 n13 c13 w13 t13 f13)
            refine (Parse_any w13 A13 n13 c13 _ t13.bys (by have e1 := t13.len; have e2 := M12.out.len; have e3 := hl8.out; rw [List.length_append, e2] at e1; simp at e1; omega)).mono ?_
            rintro e w14 ⟨⟨⟨v14, A14, n14, c14, xs14⟩, h14, p14⟩, rfl, hd14, F14, b14⟩
            rw [show (parse (PB ++ [0])).2 = 62 from by rw [HPA.out [0]]; rfl]
            simp only [CoinV.val]
            have HB14 := hide (below_alloc (Below.then_ (Below.then_ HB7.out t13.below) b14) (.cells #[.int .i64 v14, .slice A14 n14 c14, .int .i64 h14, .bool p14] 26))
            clear hd14 F14 b14
            go_wp2_with fail
            go_ret
            exact ⟨rfl, HB14.out⟩
          · have hk1 : 0 ≤ k := by omega
            go_wp2_with (at_builtin; refine wpList_app rfl _ _ rfl w7 A8 n8 c8 PB (by rfl) ((M12.out.alloc _)) (some ⟨w11.heap.size, 0, none⟩) 1 1 [0] (by rfl) Z12.out (by have := hl8.out; omega) ?_; intro A13 n13 c13 w13 t13 f13)
            refine (Parse_any w13 A13 n13 c13 _ t13.bys (by have e1 := t13.len; have e2 := M12.out.len; have e3 := hl8.out; rw [List.length_append, e2] at e1; simp at e1; omega)).mono ?_
            rintro e w14 ⟨⟨⟨v14, A14, n14, c14, xs14⟩, h14, p14⟩, rfl, hd14, F14, b14⟩
            rw [show (parse (PB ++ [0])).2 = 62 from by rw [HPA.out [0]]; rfl]
            simp only [CoinV.val]
            have HB14 := hide (below_alloc (Below.then_ (Below.then_ HB7.out t13.below) b14) (.cells #[.int .i64 v14, .slice A14 n14 c14, .int .i64 h14, .bool p14] 26))
            clear hd14 F14 b14
            go_wp2_with fail
            go_ret
            exact ⟨rfl, HB14.out⟩
        · have hk0 : 0 ≤ k := by omega
          have hk1 : k < (n8 : Int) := by omega
          obtain ⟨K8, hK8⟩ : ∃ K8 : Nat, (K8 : Int) = k := ⟨k.toNat, by omega⟩
          subst hK8
          obtain ⟨A14, hs3, hs4, hBA, _⟩ := slice_head A8 n8 c8 K8 (by omega) M12.out.cap
          have Y14 := hide (hBA _ _ M12.out.bys)
          have HPK := hide (HPC.out K8 (by rw [M12.out.len]; omega))
          clear hBA
          go_wp2_with fail
          refine (Parse_any _ A14 K8 c8 _ Y14.out (by have := hl8.out; omega)).mono ?_
          rintro e w15 ⟨⟨⟨v15, A15, n15, c15, xs15⟩, h15, p15⟩, rfl, hd15, F15, b15⟩
          rw [HPK.out]
          simp only [CoinV.val]
          have HB15 := hide (below_alloc (Below.then_ HB12.out b15) (.cells #[.int .i64 v15, .slice A15 n15 c15, .int .i64 h15, .bool p15] 26))
          clear hd15 F15 b15
          go_wp2_with fail
          go_ret
          exact ⟨rfl, HB15.out⟩
      · have hr' : rightB ⟨⟨v, xs⟩, h, p⟩ = false := by simpa using hr
        rw [hr']
        go_wp2_with fail
        go_ret
        exact ⟨rfl, HB7.out⟩
    · obtain ⟨g1, g2⟩ := parse_bad bs (by rw [hE]; exact he)
      rw [hE] at g2
      rw [← hd2] at g1
      have g1' : CoinD.same ⟨⟨v2, xs2⟩, h2, p2⟩ ⟨⟨0, []⟩, 0, false⟩ = true := by have h1 : (⟨⟨v2, xs2⟩, h2, p2⟩ : CoinD) = zeroC := g1; rw [h1]; exact same_refl _
      clear g1 hd2 hE hbs he
      rcases g2 with rfl | rfl
      · go_wp2_with fail
        rw [← hw3, ← hg]
        clear hw3 hg
        refine wp_region_held_drew (S := fun w' => Below w3.heap.size w3 w') (by kernel_rfl) (by exact (Below.refl _ _).drew) (fun hSR0 => ?_)
        obtain ⟨w3d, hwR⟩ : ∃ x, x = w3.drew := ⟨_, rfl⟩
        rw [← hwR] at hSR0 ⊢
        clear hwR
        (refine wpAnyH_take (i := 0) (oi := { dst := some 26, op := Go.Op.move (Go.Operand.tmp 8), type := 28, pos := "law.go:79", after := #[], guard := none }) (v := ?_) rfl (by kernel_rfl) (by kernel_rfl) (by kernel_rfl) (fun _ _ _ h => h) (Or.inl ⟨by rfl, fun w' hSw => ?_⟩) hSR0 ?_; rotate_left; focus (go_simp; try with_reducible rfl))
        simp only [Act.put, List.setIfInBounds_toArray, List.set_cons_zero, List.set_cons_succ]
        (refine wpAnyH_take (i := 1) (oi := { dst := some 27, op := Go.Op.binOp Go.BinOp.eql 28 (Go.Operand.tmp 26) (Go.Operand.const (Go.Value.int Go.IntKind.i64 0)) 28, type := 4, pos := "law.go:79", after := #[{ on := 0, ground := Go.Ground.data }], guard := none }) (v := ?_) rfl (by kernel_rfl) (by kernel_rfl) (by kernel_rfl) (fun _ _ _ h => h) (Or.inl ⟨by rfl, fun w' hSw => ?_⟩) hSR0 ?_; rotate_left; focus (go_simp; try with_reducible rfl))
        simp only [Act.put, List.setIfInBounds_toArray, List.set_cons_zero, List.set_cons_succ]
        (refine wpAnyH_take (i := 2) (oi := { dst := some 28, op := Go.Op.move (Go.Operand.tmp 27), type := 4, pos := "law.go:79", after := #[{ on := 1, ground := Go.Ground.data }], guard := none }) (v := ?_) rfl (by kernel_rfl) (by kernel_rfl) (by kernel_rfl) (fun _ _ _ h => h) (Or.inl ⟨by rfl, fun w' hSw => ?_⟩) hSR0 ?_; rotate_left; focus (go_simp; try with_reducible rfl))
        simp only [Act.put, List.setIfInBounds_toArray, List.set_cons_zero, List.set_cons_succ]
        refine wpAnyH_take (i := 3) (oi := { dst := some 29, op := Go.Op.load 26 (Go.Operand.tmp 7), type := 26, pos := "law.go:79", after := #[{ on := 2, ground := Go.Ground.guard }], guard := some (2, true) }) (v := undef) rfl (by kernel_rfl) (by kernel_rfl) (by kernel_rfl) (fun _ _ _ h => h) (Or.inr ⟨by rfl, rfl⟩) hSR0 ?_
        simp only [Act.put, List.setIfInBounds_toArray, List.set_cons_zero, List.set_cons_succ]
        refine wpAnyH_take (i := 4) (oi := { dst := some 30, op := Go.Op.call { callee := Go.Callee.value (Go.Operand.func 16), args := #[Go.Operand.tmp 29], argTypes := #[26] }, type := 4, pos := "law.go:79", after := #[{ on := 3, ground := Go.Ground.data }, { on := 2, ground := Go.Ground.chain }, { on := 2, ground := Go.Ground.guard }], guard := some (2, true) }) (v := undef) rfl (by kernel_rfl) (by kernel_rfl) (by kernel_rfl) (fun _ _ _ h => h) (Or.inr ⟨by rfl, rfl⟩) hSR0 ?_
        simp only [Act.put, List.setIfInBounds_toArray, List.set_cons_zero, List.set_cons_succ]
        refine wpAnyH_take (i := 5) (oi := { dst := some 31, op := Go.Op.unOp Go.UnOp.not 4 (Go.Operand.tmp 30), type := 4, pos := "law.go:79", after := #[{ on := 4, ground := Go.Ground.data }, { on := 2, ground := Go.Ground.guard }], guard := some (2, true) }) (v := undef) rfl (by kernel_rfl) (by kernel_rfl) (by kernel_rfl) (fun _ _ _ h => h) (Or.inr ⟨by rfl, rfl⟩) hSR0 ?_
        simp only [Act.put, List.setIfInBounds_toArray, List.set_cons_zero, List.set_cons_succ]
        refine wpAnyH_take (i := 6) (oi := { dst := some 32, op := Go.Op.move (Go.Operand.tmp 31), type := 4, pos := "law.go:79", after := #[{ on := 5, ground := Go.Ground.data }, { on := 4, ground := Go.Ground.chain }, { on := 2, ground := Go.Ground.guard }], guard := some (2, true) }) (v := undef) rfl (by kernel_rfl) (by kernel_rfl) (by kernel_rfl) (fun _ _ _ h => h) (Or.inr ⟨by rfl, rfl⟩) hSR0 ?_
        simp only [Act.put, List.setIfInBounds_toArray, List.set_cons_zero, List.set_cons_succ]
        refine wpAnyH_take (i := 7) (oi := { dst := some 33, op := Go.Op.load 26 (Go.Operand.tmp 7), type := 26, pos := "law.go:79", after := #[{ on := 6, ground := Go.Ground.guard }], guard := some (6, false) }) (v := undef) rfl (by kernel_rfl) (by kernel_rfl) (by kernel_rfl) (fun _ _ _ h => h) (Or.inr ⟨by rfl, rfl⟩) hSR0 ?_
        simp only [Act.put, List.setIfInBounds_toArray, List.set_cons_zero, List.set_cons_succ]
        refine wpAnyH_take (i := 8) (oi := { dst := some 34, op := Go.Op.call { callee := Go.Callee.value (Go.Operand.func 17), args := #[Go.Operand.tmp 33], argTypes := #[26] }, type := 22, pos := "law.go:79", after := #[{ on := 7, ground := Go.Ground.data }, { on := 6, ground := Go.Ground.chain }, { on := 6, ground := Go.Ground.guard }], guard := some (6, false) }) (v := undef) rfl (by kernel_rfl) (by kernel_rfl) (by kernel_rfl) (fun _ _ _ h => h) (Or.inr ⟨by rfl, rfl⟩) hSR0 ?_
        simp only [Act.put, List.setIfInBounds_toArray, List.set_cons_zero, List.set_cons_succ]
        refine wpAnyH_take (i := 9) (oi := { dst := some 35, op := Go.Op.convert 22 9 (Go.Operand.tmp 34), type := 9, pos := "law.go:79", after := #[{ on := 8, ground := Go.Ground.data }, { on := 6, ground := Go.Ground.guard }], guard := some (6, false) }) (v := undef) rfl (by kernel_rfl) (by kernel_rfl) (by kernel_rfl) (fun _ _ _ h => h) (Or.inr ⟨by rfl, rfl⟩) hSR0 ?_
        simp only [Act.put, List.setIfInBounds_toArray, List.set_cons_zero, List.set_cons_succ]
        refine wpAnyH_take (i := 10) (oi := { dst := some 36, op := Go.Op.move (Go.Operand.tmp 1), type := 22, pos := "law.go:79", after := #[{ on := 6, ground := Go.Ground.guard }], guard := some (6, false) }) (v := undef) rfl (by kernel_rfl) (by kernel_rfl) (by kernel_rfl) (fun _ _ _ h => h) (Or.inr ⟨by rfl, rfl⟩) hSR0 ?_
        simp only [Act.put, List.setIfInBounds_toArray, List.set_cons_zero, List.set_cons_succ]
        refine wpAnyH_take (i := 11) (oi := { dst := some 37, op := Go.Op.convert 22 9 (Go.Operand.tmp 36), type := 9, pos := "law.go:79", after := #[{ on := 10, ground := Go.Ground.data }, { on := 6, ground := Go.Ground.guard }], guard := some (6, false) }) (v := undef) rfl (by kernel_rfl) (by kernel_rfl) (by kernel_rfl) (fun _ _ _ h => h) (Or.inr ⟨by rfl, rfl⟩) hSR0 ?_
        simp only [Act.put, List.setIfInBounds_toArray, List.set_cons_zero, List.set_cons_succ]
        refine wpAnyH_take (i := 12) (oi := { dst := some 38, op := Go.Op.binOp Go.BinOp.neq 9 (Go.Operand.tmp 35) (Go.Operand.tmp 37) 9, type := 4, pos := "law.go:79", after := #[{ on := 9, ground := Go.Ground.data }, { on := 11, ground := Go.Ground.data }, { on := 6, ground := Go.Ground.guard }], guard := some (6, false) }) (v := undef) rfl (by kernel_rfl) (by kernel_rfl) (by kernel_rfl) (fun _ _ _ h => h) (Or.inr ⟨by rfl, rfl⟩) hSR0 ?_
        simp only [Act.put, List.setIfInBounds_toArray, List.set_cons_zero, List.set_cons_succ]
        refine wpAnyH_take (i := 13) (oi := { dst := some 39, op := Go.Op.pick (Go.Operand.tmp 32) (Go.Operand.const (Go.Value.bool true)) (Go.Operand.tmp 38), type := 4, pos := "law.go:79", after := #[{ on := 6, ground := Go.Ground.data }, { on := 12, ground := Go.Ground.data }, { on := 2, ground := Go.Ground.guard }], guard := some (2, true) }) (v := undef) rfl (by kernel_rfl) (by kernel_rfl) (by kernel_rfl) (fun _ _ _ h => h) (Or.inr ⟨by rfl, rfl⟩) hSR0 ?_
        simp only [Act.put, List.setIfInBounds_toArray, List.set_cons_zero, List.set_cons_succ]
        (refine wpAnyH_take (i := 14) (oi := { dst := some 40, op := Go.Op.pick (Go.Operand.tmp 28) (Go.Operand.tmp 39) (Go.Operand.const (Go.Value.bool false)), type := 4, pos := "law.go:79", after := #[{ on := 2, ground := Go.Ground.data }, { on := 13, ground := Go.Ground.data }], guard := none }) (v := ?_) rfl (by kernel_rfl) (by kernel_rfl) (by kernel_rfl) (fun _ _ _ h => h) (Or.inl ⟨by rfl, fun w' hSw => ?_⟩) hSR0 ?_; rotate_left; focus (go_simp; try with_reducible rfl))
        simp only [Act.put, List.setIfInBounds_toArray, List.set_cons_zero, List.set_cons_succ]
        (refine wpAnyH_take (i := 15) (oi := { dst := some 41, op := Go.Op.move (Go.Operand.tmp 40), type := 4, pos := "law.go:79", after := #[{ on := 14, ground := Go.Ground.data }, { on := 8, ground := Go.Ground.chain }], guard := none }) (v := ?_) rfl (by kernel_rfl) (by kernel_rfl) (by kernel_rfl) (fun _ _ _ h => h) (Or.inl ⟨by rfl, fun w' hSw => ?_⟩) hSR0 ?_; rotate_left; focus (go_simp; try with_reducible rfl))
        simp only [Act.put, List.setIfInBounds_toArray, List.set_cons_zero, List.set_cons_succ]
        (refine wpAnyH_take (i := 16) (oi := { dst := some 42, op := Go.Op.move (Go.Operand.tmp 8), type := 28, pos := "law.go:79", after := #[{ on := 15, ground := Go.Ground.guard }], guard := some (15, false) }) (v := ?_) rfl (by kernel_rfl) (by kernel_rfl) (by kernel_rfl) (fun _ _ _ h => h) (Or.inl ⟨by rfl, fun w' hSw => ?_⟩) hSR0 ?_; rotate_left; focus (go_simp; try with_reducible rfl))
        simp only [Act.put, List.setIfInBounds_toArray, List.set_cons_zero, List.set_cons_succ]
        (refine wpAnyH_take (i := 17) (oi := { dst := some 43, op := Go.Op.binOp Go.BinOp.neq 28 (Go.Operand.tmp 42) (Go.Operand.const (Go.Value.int Go.IntKind.i64 0)) 28, type := 4, pos := "law.go:79", after := #[{ on := 16, ground := Go.Ground.data }, { on := 15, ground := Go.Ground.guard }], guard := some (15, false) }) (v := ?_) rfl (by kernel_rfl) (by kernel_rfl) (by kernel_rfl) (fun _ _ _ h => h) (Or.inl ⟨by rfl, fun w' hSw => ?_⟩) hSR0 ?_; rotate_left; focus (go_simp; try with_reducible rfl))
        simp only [Act.put, List.setIfInBounds_toArray, List.set_cons_zero, List.set_cons_succ]
        (refine wpAnyH_take (i := 18) (oi := { dst := some 44, op := Go.Op.move (Go.Operand.tmp 43), type := 4, pos := "law.go:79", after := #[{ on := 17, ground := Go.Ground.data }, { on := 15, ground := Go.Ground.chain }, { on := 15, ground := Go.Ground.guard }], guard := some (15, false) }) (v := ?_) rfl (by kernel_rfl) (by kernel_rfl) (by kernel_rfl) (fun _ _ _ h => h) (Or.inl ⟨by rfl, fun w' hSw => ?_⟩) hSR0 ?_; rotate_left; focus (go_simp; try with_reducible rfl))
        simp only [Act.put, List.setIfInBounds_toArray, List.set_cons_zero, List.set_cons_succ]
        (refine wpAnyH_take (i := 19) (oi := { dst := some 45, op := Go.Op.load 26 (Go.Operand.tmp 7), type := 26, pos := "law.go:79", after := #[{ on := 18, ground := Go.Ground.guard }], guard := some (18, true) }) (v := ?_) rfl (by kernel_rfl) (by kernel_rfl) (by kernel_rfl) (fun _ _ _ h => h) (Or.inl ⟨by rfl, fun w' hSw => ?_⟩) hSR0 ?_; rotate_left; focus (have l0 := cell_under hSw q0; have l1 := cell_under hSw q1; have l2 := cell_under hSw q2; have l3 := cell_under hSw q3; go_simp; try with_reducible rfl))
        simp only [Act.put, List.setIfInBounds_toArray, List.set_cons_zero, List.set_cons_succ]
        (refine wpAnyH_take (i := 20) (oi := { dst := some 46, op := Go.Op.build 26 #[], type := 26, pos := "law.go:79", after := #[{ on := 18, ground := Go.Ground.guard }], guard := some (18, true) }) (v := ?_) rfl (by kernel_rfl) (by kernel_rfl) (by kernel_rfl) (fun _ _ _ h => h) (Or.inl ⟨by rfl, fun w' hSw => ?_⟩) hSR0 ?_; rotate_left; focus (go_simp; try with_reducible rfl))
        simp only [Act.put, List.setIfInBounds_toArray, List.set_cons_zero, List.set_cons_succ]
        refine wpAnyH_ready (rs := [21]) (by kernel_rfl) (by simp) ?_
        refine AllReadyH.cons rfl (fun K hK => ?_) AllReadyH.nil
        go_simp
        go_wp2_with (go_at_call 18; refine (SameCoin_at w3d v2 A2 n2 c2 xs2 h2 p2 0 none 0 0 [] 0 false (F2'.out.below hSR0) (CoinV.zero_fine _)).mono ?_; rintro e w5 ⟨rfl, b5⟩; rw [g1'])
        refine hK.out _ _ (Below.then_ hSR0 b5) (fun hSR1 => ?_)
        clear hK K
        (refine wpAnyH_take (i := 22) (oi := { dst := some 48, op := Go.Op.unOp Go.UnOp.not 4 (Go.Operand.tmp 47), type := 4, pos := "law.go:79", after := #[{ on := 21, ground := Go.Ground.data }, { on := 18, ground := Go.Ground.guard }], guard := some (18, true) }) (v := ?_) rfl (by kernel_rfl) (by kernel_rfl) (by kernel_rfl) (fun _ _ _ h => h) (Or.inl ⟨by rfl, fun w' hSw => ?_⟩) hSR1 ?_; rotate_left; focus (go_simp; try with_reducible rfl))
        simp only [Act.put, List.setIfInBounds_toArray, List.set_cons_zero, List.set_cons_succ]
        (refine wpAnyH_take (i := 23) (oi := { dst := some 49, op := Go.Op.move (Go.Operand.tmp 48), type := 4, pos := "law.go:79", after := #[{ on := 22, ground := Go.Ground.data }, { on := 21, ground := Go.Ground.chain }, { on := 18, ground := Go.Ground.guard }], guard := some (18, true) }) (v := ?_) rfl (by kernel_rfl) (by kernel_rfl) (by kernel_rfl) (fun _ _ _ h => h) (Or.inl ⟨by rfl, fun w' hSw => ?_⟩) hSR1 ?_; rotate_left; focus (go_simp; try with_reducible rfl))
        simp only [Act.put, List.setIfInBounds_toArray, List.set_cons_zero, List.set_cons_succ]
        (refine wpAnyH_take (i := 24) (oi := { dst := some 50, op := Go.Op.move (Go.Operand.tmp 8), type := 28, pos := "law.go:79", after := #[{ on := 23, ground := Go.Ground.guard }], guard := some (23, false) }) (v := ?_) rfl (by kernel_rfl) (by kernel_rfl) (by kernel_rfl) (fun _ _ _ h => h) (Or.inl ⟨by rfl, fun w' hSw => ?_⟩) hSR1 ?_; rotate_left; focus (go_simp; try with_reducible rfl))
        simp only [Act.put, List.setIfInBounds_toArray, List.set_cons_zero, List.set_cons_succ]
        (refine wpAnyH_take (i := 25) (oi := { dst := some 51, op := Go.Op.binOp Go.BinOp.neq 28 (Go.Operand.tmp 50) (Go.Operand.const (Go.Value.int Go.IntKind.i64 61)) 28, type := 4, pos := "law.go:79", after := #[{ on := 24, ground := Go.Ground.data }, { on := 23, ground := Go.Ground.guard }], guard := some (23, false) }) (v := ?_) rfl (by kernel_rfl) (by kernel_rfl) (by kernel_rfl) (fun _ _ _ h => h) (Or.inl ⟨by rfl, fun w' hSw => ?_⟩) hSR1 ?_; rotate_left; focus (go_simp; try with_reducible rfl))
        simp only [Act.put, List.setIfInBounds_toArray, List.set_cons_zero, List.set_cons_succ]
        (refine wpAnyH_take (i := 26) (oi := { dst := some 52, op := Go.Op.move (Go.Operand.tmp 51), type := 4, pos := "law.go:79", after := #[{ on := 25, ground := Go.Ground.data }, { on := 23, ground := Go.Ground.chain }, { on := 23, ground := Go.Ground.guard }], guard := some (23, false) }) (v := ?_) rfl (by kernel_rfl) (by kernel_rfl) (by kernel_rfl) (fun _ _ _ h => h) (Or.inl ⟨by rfl, fun w' hSw => ?_⟩) hSR1 ?_; rotate_left; focus (go_simp; try with_reducible rfl))
        simp only [Act.put, List.setIfInBounds_toArray, List.set_cons_zero, List.set_cons_succ]
        refine wpAnyH_take (i := 27) (oi := { dst := some 53, op := Go.Op.move (Go.Operand.tmp 8), type := 28, pos := "law.go:79", after := #[{ on := 26, ground := Go.Ground.guard }], guard := some (26, true) }) (v := undef) rfl (by kernel_rfl) (by kernel_rfl) (by kernel_rfl) (fun _ _ _ h => h) (Or.inr ⟨by rfl, rfl⟩) hSR1 ?_
        simp only [Act.put, List.setIfInBounds_toArray, List.set_cons_zero, List.set_cons_succ]
        refine wpAnyH_take (i := 28) (oi := { dst := some 54, op := Go.Op.binOp Go.BinOp.neq 28 (Go.Operand.tmp 53) (Go.Operand.const (Go.Value.int Go.IntKind.i64 62)) 28, type := 4, pos := "law.go:79", after := #[{ on := 27, ground := Go.Ground.data }, { on := 26, ground := Go.Ground.guard }], guard := some (26, true) }) (v := undef) rfl (by kernel_rfl) (by kernel_rfl) (by kernel_rfl) (fun _ _ _ h => h) (Or.inr ⟨by rfl, rfl⟩) hSR1 ?_
        simp only [Act.put, List.setIfInBounds_toArray, List.set_cons_zero, List.set_cons_succ]
        (refine wpAnyH_take (i := 29) (oi := { dst := some 55, op := Go.Op.pick (Go.Operand.tmp 52) (Go.Operand.tmp 54) (Go.Operand.const (Go.Value.bool false)), type := 4, pos := "law.go:79", after := #[{ on := 26, ground := Go.Ground.data }, { on := 28, ground := Go.Ground.data }, { on := 23, ground := Go.Ground.guard }], guard := some (23, false) }) (v := ?_) rfl (by kernel_rfl) (by kernel_rfl) (by kernel_rfl) (fun _ _ _ h => h) (Or.inl ⟨by rfl, fun w' hSw => ?_⟩) hSR1 ?_; rotate_left; focus (go_simp; try with_reducible rfl))
        simp only [Act.put, List.setIfInBounds_toArray, List.set_cons_zero, List.set_cons_succ]
        (refine wpAnyH_take (i := 30) (oi := { dst := some 56, op := Go.Op.pick (Go.Operand.tmp 49) (Go.Operand.const (Go.Value.bool true)) (Go.Operand.tmp 55), type := 4, pos := "law.go:79", after := #[{ on := 23, ground := Go.Ground.data }, { on := 29, ground := Go.Ground.data }, { on := 18, ground := Go.Ground.guard }], guard := some (18, true) }) (v := ?_) rfl (by kernel_rfl) (by kernel_rfl) (by kernel_rfl) (fun _ _ _ h => h) (Or.inl ⟨by rfl, fun w' hSw => ?_⟩) hSR1 ?_; rotate_left; focus (go_simp; try with_reducible rfl))
        simp only [Act.put, List.setIfInBounds_toArray, List.set_cons_zero, List.set_cons_succ]
        (refine wpAnyH_take (i := 31) (oi := { dst := some 57, op := Go.Op.pick (Go.Operand.tmp 44) (Go.Operand.tmp 56) (Go.Operand.const (Go.Value.bool false)), type := 4, pos := "law.go:79", after := #[{ on := 18, ground := Go.Ground.data }, { on := 30, ground := Go.Ground.data }, { on := 15, ground := Go.Ground.guard }], guard := some (15, false) }) (v := ?_) rfl (by kernel_rfl) (by kernel_rfl) (by kernel_rfl) (fun _ _ _ h => h) (Or.inl ⟨by rfl, fun w' hSw => ?_⟩) hSR1 ?_; rotate_left; focus (go_simp; try with_reducible rfl))
        simp only [Act.put, List.setIfInBounds_toArray, List.set_cons_zero, List.set_cons_succ]
        (refine wpAnyH_take (i := 32) (oi := { dst := some 58, op := Go.Op.pick (Go.Operand.tmp 41) (Go.Operand.const (Go.Value.bool true)) (Go.Operand.tmp 57), type := 4, pos := "law.go:79", after := #[{ on := 15, ground := Go.Ground.data }, { on := 31, ground := Go.Ground.data }], guard := none }) (v := ?_) rfl (by kernel_rfl) (by kernel_rfl) (by kernel_rfl) (fun _ _ _ h => h) (Or.inl ⟨by rfl, fun w' hSw => ?_⟩) hSR1 ?_; rotate_left; focus (go_simp; try with_reducible rfl))
        simp only [Act.put, List.setIfInBounds_toArray, List.set_cons_zero, List.set_cons_succ]
        refine wpAnyH_done (by kernel_rfl) ?_ _

        have HB6 := hide (Below.then_ HB2.out hSR1)
        have B6 := hide (Blk.under B2.out hSR1)
        have FA := hide (HA.out.below HB6.out)
        clear q0 q1 q2 q3 hSR1
        have k0 := B6.out.c0
        have k1 := B6.out.c1
        have k2 := B6.out.c2
        have k3 := B6.out.c3
        go_wp2_with fail
        refine (Right_at w5 v A0 n0 c0 xs h p (CoinV.len FA.out)).mono ?_
        rintro e w7 ⟨rfl, b7⟩
        have HB7 := hide (Below.then_ HB6.out b7)
        have B7 := hide (Blk.under B6.out b7)
        have FA7 := hide (FA.out.below b7)
        clear k0 k1 k2 k3 b7
        by_cases hr : rightB ⟨⟨v, xs⟩, h, p⟩ = true
        · rw [hr]
          have hrt := hide ((rightB_iff _).1 hr)
          have hn0 := hide (show n0 ≤ 1000000 by have h1 := hrt.out.2.1; have h2 := CoinV.len FA7.out; have h3 : xs.length ≤ 2000 := h1; have h4 : xs.length = n0 := h2; omega)
          have HPA := hide (parse_append ⟨⟨v, xs⟩, h, p⟩ hrt.out)
          have HPC := hide (parse_cut ⟨⟨v, xs⟩, h, p⟩ hrt.out)
          clear hr
          have k0 := B7.out.c0
          have k1 := B7.out.c1
          have k2 := B7.out.c2
          have k3 := B7.out.c3
          go_wp2_with fail
          refine (CoinBytes_at w7 v A0 n0 c0 xs h p FA7.out hn0.out).mono ?_
          rintro e w8 ⟨A8, n8, c8, rfl, t8, f8⟩
          have hl8 := hide (show n8 ≤ 1000100 by
            have e1 := t8.len
            have e2 := CoinV.len FA7.out
            have e3 := hn0.out
            have e4 := txt_len xs
            have e5 := (cnt_length (CoinD.n64 ⟨⟨v, xs⟩, h, p⟩).toNat).2
            simp only [CoinD.bytes64, OutD.bytes, List.length_append, dig_length] at e1
            have e6 : xs.length = n0 := e2
            omega)
          clear k0 k1 k2 k3
          obtain ⟨PB, hPB⟩ : ∃ PB, PB = CoinD.bytes64 ⟨⟨v, xs⟩, h, p⟩ := ⟨_, rfl⟩
          rw [← hPB] at t8 HPA HPC
          have HPB := hide hPB
          clear hPB
          obtain ⟨PS, hPS⟩ : ∃ PS, PS = ba PB := ⟨_, rfl⟩
          have hpstr := hide (show ∀ (w' : World) (A' : Option Addr) (n' c' : Nat) (xs : List Int), Bys w' A' n' xs → xs = PB → (convert 22 9 (.slice A' n' c')).run Try.prog w' = .ok (.string PS) w' from fun w' A' n' c' xs h e => by rw [hPS, ← e]; exact run_str w' A' n' c' xs h)
          clear hPS
          have hp0 := hide (show parse PB = (⟨⟨v, xs⟩, h, p⟩, 0) by have := HPA.out []; simpa using this)
          have HB8 := hide (Below.then_ HB7.out t8.below)
          have B8 := hide (Blk.under B7.out t8.below)
          have FA8 := hide (FA7.out.below t8.below)
          go_wp2_with fail
          refine (Parse_any w8 A8 n8 c8 PB t8.bys (by have := hl8.out; omega)).mono ?_
          rintro e wa ⟨⟨⟨v9, A9, n9, c9, xs9⟩, h9, p9⟩, rfl, hd9, F9a, ba⟩
          rw [hp0.out] at hd9 ⊢
          simp only [CoinV.d, OutV.d, CoinD.mk.injEq, OutD.mk.injEq] at hd9
          obtain ⟨⟨e1, e2⟩, e3, e4⟩ := hd9
          subst v9
          subst xs9
          subst h9
          subst p9
          simp only [CoinV.val]
          have bx : Below wa.heap.size wa (wa.alloc (.cells #[.int .i64 v, .slice A9 n9 c9, .int .i64 h, .bool p] 26)) := below_alloc (Below.refl _ _) _
          have b89 := hide (Below.then_ ba bx)
          have F9y := hide (F9a.below bx)
          have N9 := hide (Blk.new wa 26 [.int .i64 v, .slice A9 n9 c9, .int .i64 h, .bool p])
          obtain ⟨w9, hw9⟩ : ∃ w9, w9 = wa.alloc (.cells #[.int .i64 v, .slice A9 n9 c9, .int .i64 h, .bool p] 26) := ⟨_, rfl⟩
          obtain ⟨g9, hg9⟩ : ∃ g9, g9 = wa.heap.size := ⟨_, rfl⟩
          rw [← hw9] at b89 F9y N9
          rw [← hg9] at N9
          have HB9 := hide (Below.then_ HB8.out b89.out)
          have B9 := hide (Blk.under B8.out b89.out)
          have F9 := hide (FA8.out.below b89.out)
          have Y9 := hide (t8.bys.below b89.out)
          have M9 := hide (t8.keep b89.out)
          have y0 := B9.out.c0
          have y1 := B9.out.c1
          have y2 := B9.out.c2
          have y3 := B9.out.c3
          have z0 := N9.out.c0
          have z1 := N9.out.c1
          have z2 := N9.out.c2
          have z3 := N9.out.c3
          clear ba bx F9a t8 f8
          go_wp2_with fail
          rw [← hw9, ← hg9]
          clear hw9 hg9
          refine wp_region_held_drew (S := fun w' => Below w9.heap.size w9 w') (by kernel_rfl) (by exact (Below.refl _ _).drew) (fun hSQ0 => ?_)
          obtain ⟨w9d, hwQ⟩ : ∃ x, x = w9.drew := ⟨_, rfl⟩
          rw [← hwQ] at hSQ0 ⊢
          clear hwQ
          (refine wpAnyH_take (i := 0) (oi := { dst := some 69, op := Go.Op.move (Go.Operand.tmp 9), type := 22, pos := "law.go:87", after := #[], guard := none }) (v := ?_) rfl (by kernel_rfl) (by kernel_rfl) (by kernel_rfl) (fun _ _ _ h => h) (Or.inl ⟨by rfl, fun w' hSw => ?_⟩) hSQ0 ?_; rotate_left; focus (go_simp; try with_reducible rfl))
          simp only [Act.put, List.setIfInBounds_toArray, List.set_cons_zero, List.set_cons_succ]
          (refine wpAnyH_take (i := 1) (oi := { dst := some 70, op := Go.Op.convert 22 9 (Go.Operand.tmp 69), type := 9, pos := "law.go:87", after := #[{ on := 0, ground := Go.Ground.data }], guard := none }) (v := ?_) rfl (by kernel_rfl) (by kernel_rfl) (by kernel_rfl) (fun _ _ _ h => h) (Or.inl ⟨by rfl, fun w' hSw => ?_⟩) hSQ0 ?_; rotate_left; focus (have l0 := hpstr.out w' A8 n8 c8 _ (Y9.out.below hSw) rfl; go_simp; try with_reducible rfl))
          simp only [Act.put, List.setIfInBounds_toArray, List.set_cons_zero, List.set_cons_succ]
          (refine wpAnyH_take (i := 2) (oi := { dst := some 71, op := Go.Op.load 26 (Go.Operand.tmp 3), type := 26, pos := "law.go:87", after := #[], guard := none }) (v := ?_) rfl (by kernel_rfl) (by kernel_rfl) (by kernel_rfl) (fun _ _ _ h => h) (Or.inl ⟨by rfl, fun w' hSw => ?_⟩) hSQ0 ?_; rotate_left; focus (have l0 := cell_under hSw y0; have l1 := cell_under hSw y1; have l2 := cell_under hSw y2; have l3 := cell_under hSw y3; go_simp; try with_reducible rfl))
          simp only [Act.put, List.setIfInBounds_toArray, List.set_cons_zero, List.set_cons_succ]
          refine wpAnyH_ready (rs := [3]) (by kernel_rfl) (by simp) ?_
          refine AllReadyH.cons rfl (fun K hK => ?_) AllReadyH.nil
          go_simp
          go_wp2_with (go_at_call 17; refine (refCoinBytes_at w9d v A0 n0 c0 xs h p (F9.out.below hSQ0) hn0.out).mono ?_; rintro e w10 ⟨A10, n10, c10, rfl, t10, f10⟩)
          refine hK.out _ _ (Below.then_ hSQ0 t10.below) (fun hSQ1 => ?_)
          clear hK K
          refine wpAnyH_ready (rs := [4]) (by kernel_rfl) (by simp) ?_
          refine AllReadyH.cons rfl (fun K hK => ?_) AllReadyH.nil
          have s10 := hpstr.out w10 A10 n10 c10 _ t10.bys HPB.out.symm
          go_simp
          refine hK.out _ _ (hSQ1) (fun hSQ2 => ?_)
          clear hK K
          (refine wpAnyH_take (i := 5) (oi := { dst := some 74, op := Go.Op.binOp Go.BinOp.neq 9 (Go.Operand.tmp 70) (Go.Operand.tmp 73) 9, type := 4, pos := "law.go:87", after := #[{ on := 1, ground := Go.Ground.data }, { on := 4, ground := Go.Ground.data }], guard := none }) (v := ?_) rfl (by kernel_rfl) (by kernel_rfl) (by kernel_rfl) (fun _ _ _ h => h) (Or.inl ⟨by rfl, fun w' hSw => ?_⟩) hSQ2 ?_; rotate_left; focus (go_simp; try with_reducible rfl))
          simp only [Act.put, List.setIfInBounds_toArray, List.set_cons_zero, List.set_cons_succ]
          (refine wpAnyH_take (i := 6) (oi := { dst := some 75, op := Go.Op.move (Go.Operand.tmp 74), type := 4, pos := "law.go:87", after := #[{ on := 5, ground := Go.Ground.data }, { on := 3, ground := Go.Ground.chain }], guard := none }) (v := ?_) rfl (by kernel_rfl) (by kernel_rfl) (by kernel_rfl) (fun _ _ _ h => h) (Or.inl ⟨by rfl, fun w' hSw => ?_⟩) hSQ2 ?_; rotate_left; focus (go_simp; try with_reducible rfl))
          simp only [Act.put, List.setIfInBounds_toArray, List.set_cons_zero, List.set_cons_succ]
          (refine wpAnyH_take (i := 7) (oi := { dst := some 76, op := Go.Op.move (Go.Operand.tmp 11), type := 28, pos := "law.go:87", after := #[{ on := 6, ground := Go.Ground.guard }], guard := some (6, false) }) (v := ?_) rfl (by kernel_rfl) (by kernel_rfl) (by kernel_rfl) (fun _ _ _ h => h) (Or.inl ⟨by rfl, fun w' hSw => ?_⟩) hSQ2 ?_; rotate_left; focus (go_simp; try with_reducible rfl))
          simp only [Act.put, List.setIfInBounds_toArray, List.set_cons_zero, List.set_cons_succ]
          (refine wpAnyH_take (i := 8) (oi := { dst := some 77, op := Go.Op.binOp Go.BinOp.neq 28 (Go.Operand.tmp 76) (Go.Operand.const (Go.Value.int Go.IntKind.i64 0)) 28, type := 4, pos := "law.go:87", after := #[{ on := 7, ground := Go.Ground.data }, { on := 6, ground := Go.Ground.guard }], guard := some (6, false) }) (v := ?_) rfl (by kernel_rfl) (by kernel_rfl) (by kernel_rfl) (fun _ _ _ h => h) (Or.inl ⟨by rfl, fun w' hSw => ?_⟩) hSQ2 ?_; rotate_left; focus (go_simp; try with_reducible rfl))
          simp only [Act.put, List.setIfInBounds_toArray, List.set_cons_zero, List.set_cons_succ]
          (refine wpAnyH_take (i := 9) (oi := { dst := some 78, op := Go.Op.pick (Go.Operand.tmp 75) (Go.Operand.const (Go.Value.bool true)) (Go.Operand.tmp 77), type := 4, pos := "law.go:87", after := #[{ on := 6, ground := Go.Ground.data }, { on := 8, ground := Go.Ground.data }], guard := none }) (v := ?_) rfl (by kernel_rfl) (by kernel_rfl) (by kernel_rfl) (fun _ _ _ h => h) (Or.inl ⟨by rfl, fun w' hSw => ?_⟩) hSQ2 ?_; rotate_left; focus (go_simp; try with_reducible rfl))
          simp only [Act.put, List.setIfInBounds_toArray, List.set_cons_zero, List.set_cons_succ]
          (refine wpAnyH_take (i := 10) (oi := { dst := some 79, op := Go.Op.move (Go.Operand.tmp 78), type := 4, pos := "law.go:87", after := #[{ on := 9, ground := Go.Ground.data }, { on := 6, ground := Go.Ground.chain }], guard := none }) (v := ?_) rfl (by kernel_rfl) (by kernel_rfl) (by kernel_rfl) (fun _ _ _ h => h) (Or.inl ⟨by rfl, fun w' hSw => ?_⟩) hSQ2 ?_; rotate_left; focus (go_simp; try with_reducible rfl))
          simp only [Act.put, List.setIfInBounds_toArray, List.set_cons_zero, List.set_cons_succ]
          (refine wpAnyH_take (i := 11) (oi := { dst := some 80, op := Go.Op.load 26 (Go.Operand.tmp 10), type := 26, pos := "law.go:87", after := #[{ on := 10, ground := Go.Ground.guard }], guard := some (10, false) }) (v := ?_) rfl (by kernel_rfl) (by kernel_rfl) (by kernel_rfl) (fun _ _ _ h => h) (Or.inl ⟨by rfl, fun w' hSw => ?_⟩) hSQ2 ?_; rotate_left; focus (have l0 := cell_under hSw z0; have l1 := cell_under hSw z1; have l2 := cell_under hSw z2; have l3 := cell_under hSw z3; go_simp; try with_reducible rfl))
          simp only [Act.put, List.setIfInBounds_toArray, List.set_cons_zero, List.set_cons_succ]
          (refine wpAnyH_take (i := 12) (oi := { dst := some 81, op := Go.Op.load 26 (Go.Operand.tmp 3), type := 26, pos := "law.go:87", after := #[{ on := 10, ground := Go.Ground.guard }], guard := some (10, false) }) (v := ?_) rfl (by kernel_rfl) (by kernel_rfl) (by kernel_rfl) (fun _ _ _ h => h) (Or.inl ⟨by rfl, fun w' hSw => ?_⟩) hSQ2 ?_; rotate_left; focus (have l0 := cell_under hSw y0; have l1 := cell_under hSw y1; have l2 := cell_under hSw y2; have l3 := cell_under hSw y3; go_simp; try with_reducible rfl))
          simp only [Act.put, List.setIfInBounds_toArray, List.set_cons_zero, List.set_cons_succ]
          refine wpAnyH_ready (rs := [13]) (by kernel_rfl) (by simp) ?_
          refine AllReadyH.cons rfl (fun K hK => ?_) AllReadyH.nil
          go_simp
          go_wp2_with (go_at_call 18; refine (SameCoin_at w10 v A9 n9 c9 xs h p v A0 n0 c0 xs h p (F9y.out.below hSQ1) (F9.out.below hSQ1)).mono ?_; rintro e w11 ⟨rfl, b11⟩; rw [same_refl])
          refine hK.out _ _ (Below.then_ hSQ2 b11) (fun hSQ3 => ?_)
          clear hK K
          (refine wpAnyH_take (i := 14) (oi := { dst := some 83, op := Go.Op.unOp Go.UnOp.not 4 (Go.Operand.tmp 82), type := 4, pos := "law.go:87", after := #[{ on := 13, ground := Go.Ground.data }, { on := 10, ground := Go.Ground.guard }], guard := some (10, false) }) (v := ?_) rfl (by kernel_rfl) (by kernel_rfl) (by kernel_rfl) (fun _ _ _ h => h) (Or.inl ⟨by rfl, fun w' hSw => ?_⟩) hSQ3 ?_; rotate_left; focus (go_simp; try with_reducible rfl))
          simp only [Act.put, List.setIfInBounds_toArray, List.set_cons_zero, List.set_cons_succ]
          (refine wpAnyH_take (i := 15) (oi := { dst := some 84, op := Go.Op.pick (Go.Operand.tmp 79) (Go.Operand.const (Go.Value.bool true)) (Go.Operand.tmp 83), type := 4, pos := "law.go:87", after := #[{ on := 10, ground := Go.Ground.data }, { on := 14, ground := Go.Ground.data }], guard := none }) (v := ?_) rfl (by kernel_rfl) (by kernel_rfl) (by kernel_rfl) (fun _ _ _ h => h) (Or.inl ⟨by rfl, fun w' hSw => ?_⟩) hSQ3 ?_; rotate_left; focus (go_simp; try with_reducible rfl))
          simp only [Act.put, List.setIfInBounds_toArray, List.set_cons_zero, List.set_cons_succ]
          refine wpAnyH_done (by kernel_rfl) ?_ _
          have HB12 := hide (Below.then_ HB9.out hSQ3)
          have M12 := hide (M9.out.keep hSQ3)
          clear hSQ3 y0 y1 y2 y3 z0 z1 z2 z3
          have H812 := hide (M12.out.below)
          have HBA := hide (Below.then_ HB7.out M12.out.below)
          by_cases hk : k < 0 ∨ (n8 : Int) ≤ k
          · have HK := hide hk
            have Z12 := hide (Bys.one w11 5 0 (by decide) (by decide))
            rcases hk with hk | hk
            · go_wp2_with (at_builtin; refine wpList_app rfl _ _ rfl w7 A8 n8 c8 PB (by rfl) ((M12.out.alloc _)) (some ⟨w11.heap.size, 0, none⟩) 1 1 [0] (by rfl) Z12.out (by have := hl8.out; omega) ?_; intro A13 n13 c13 w13 t13 f13)
              refine (Parse_any w13 A13 n13 c13 _ t13.bys (by have e1 := t13.len; have e2 := M12.out.len; have e3 := hl8.out; rw [List.length_append, e2] at e1; simp at e1; omega)).mono ?_
              rintro e w14 ⟨⟨⟨v14, A14, n14, c14, xs14⟩, h14, p14⟩, rfl, hd14, F14, b14⟩
              rw [show (parse (PB ++ [0])).2 = 62 from by rw [HPA.out [0]]; rfl]
              simp only [CoinV.val]
              have HB14 := hide (below_alloc (Below.then_ (Below.then_ HB7.out t13.below) b14) (.cells #[.int .i64 v14, .slice A14 n14 c14, .int .i64 h14, .bool p14] 26))
              clear hd14 F14 b14
              go_wp2_with fail
              go_ret
              exact ⟨rfl, HB14.out⟩
            · have hk1 : 0 ≤ k := by omega
              go_wp2_with (at_builtin; refine wpList_app rfl _ _ rfl w7 A8 n8 c8 PB (by rfl) ((M12.out.alloc _)) (some ⟨w11.heap.size, 0, none⟩) 1 1 [0] (by rfl) Z12.out (by have := hl8.out; omega) ?_; intro A13 n13 c13 w13 t13 f13)
              refine (Parse_any w13 A13 n13 c13 _ t13.bys (by have e1 := t13.len; have e2 := M12.out.len; have e3 := hl8.out; rw [List.length_append, e2] at e1; simp at e1; omega)).mono ?_
              rintro e w14 ⟨⟨⟨v14, A14, n14, c14, xs14⟩, h14, p14⟩, rfl, hd14, F14, b14⟩
              rw [show (parse (PB ++ [0])).2 = 62 from by rw [HPA.out [0]]; rfl]
              simp only [CoinV.val]
              have HB14 := hide (below_alloc (Below.then_ (Below.then_ HB7.out t13.below) b14) (.cells #[.int .i64 v14, .slice A14 n14 c14, .int .i64 h14, .bool p14] 26))
              clear hd14 F14 b14
              go_wp2_with fail
              go_ret
              exact ⟨rfl, HB14.out⟩
          · have hk0 : 0 ≤ k := by omega
            have hk1 : k < (n8 : Int) := by omega
            obtain ⟨K8, hK8⟩ : ∃ K8 : Nat, (K8 : Int) = k := ⟨k.toNat, by omega⟩
            subst hK8
            obtain ⟨A14, hs3, hs4, hBA, _⟩ := slice_head A8 n8 c8 K8 (by omega) M12.out.cap
            have Y14 := hide (hBA _ _ M12.out.bys)
            have HPK := hide (HPC.out K8 (by rw [M12.out.len]; omega))
            clear hBA
            go_wp2_with fail
            refine (Parse_any _ A14 K8 c8 _ Y14.out (by have := hl8.out; omega)).mono ?_
            rintro e w15 ⟨⟨⟨v15, A15, n15, c15, xs15⟩, h15, p15⟩, rfl, hd15, F15, b15⟩
            rw [HPK.out]
            simp only [CoinV.val]
            have HB15 := hide (below_alloc (Below.then_ HB12.out b15) (.cells #[.int .i64 v15, .slice A15 n15 c15, .int .i64 h15, .bool p15] 26))
            clear hd15 F15 b15
            go_wp2_with fail
            go_ret
            exact ⟨rfl, HB15.out⟩
        · have hr' : rightB ⟨⟨v, xs⟩, h, p⟩ = false := by simpa using hr
          rw [hr']
          go_wp2_with fail
          go_ret
          exact ⟨rfl, HB7.out⟩
      · go_wp2_with fail
        rw [← hw3, ← hg]
        clear hw3 hg
        refine wp_region_held_drew (S := fun w' => Below w3.heap.size w3 w') (by kernel_rfl) (by exact (Below.refl _ _).drew) (fun hSR0 => ?_)
        obtain ⟨w3d, hwR⟩ : ∃ x, x = w3.drew := ⟨_, rfl⟩
        rw [← hwR] at hSR0 ⊢
        clear hwR
        (refine wpAnyH_take (i := 0) (oi := { dst := some 26, op := Go.Op.move (Go.Operand.tmp 8), type := 28, pos := "law.go:79", after := #[], guard := none }) (v := ?_) rfl (by kernel_rfl) (by kernel_rfl) (by kernel_rfl) (fun _ _ _ h => h) (Or.inl ⟨by rfl, fun w' hSw => ?_⟩) hSR0 ?_; rotate_left; focus (go_simp; try with_reducible rfl))
        simp only [Act.put, List.setIfInBounds_toArray, List.set_cons_zero, List.set_cons_succ]
        (refine wpAnyH_take (i := 1) (oi := { dst := some 27, op := Go.Op.binOp Go.BinOp.eql 28 (Go.Operand.tmp 26) (Go.Operand.const (Go.Value.int Go.IntKind.i64 0)) 28, type := 4, pos := "law.go:79", after := #[{ on := 0, ground := Go.Ground.data }], guard := none }) (v := ?_) rfl (by kernel_rfl) (by kernel_rfl) (by kernel_rfl) (fun _ _ _ h => h) (Or.inl ⟨by rfl, fun w' hSw => ?_⟩) hSR0 ?_; rotate_left; focus (go_simp; try with_reducible rfl))
        simp only [Act.put, List.setIfInBounds_toArray, List.set_cons_zero, List.set_cons_succ]
        (refine wpAnyH_take (i := 2) (oi := { dst := some 28, op := Go.Op.move (Go.Operand.tmp 27), type := 4, pos := "law.go:79", after := #[{ on := 1, ground := Go.Ground.data }], guard := none }) (v := ?_) rfl (by kernel_rfl) (by kernel_rfl) (by kernel_rfl) (fun _ _ _ h => h) (Or.inl ⟨by rfl, fun w' hSw => ?_⟩) hSR0 ?_; rotate_left; focus (go_simp; try with_reducible rfl))
        simp only [Act.put, List.setIfInBounds_toArray, List.set_cons_zero, List.set_cons_succ]
        refine wpAnyH_take (i := 3) (oi := { dst := some 29, op := Go.Op.load 26 (Go.Operand.tmp 7), type := 26, pos := "law.go:79", after := #[{ on := 2, ground := Go.Ground.guard }], guard := some (2, true) }) (v := undef) rfl (by kernel_rfl) (by kernel_rfl) (by kernel_rfl) (fun _ _ _ h => h) (Or.inr ⟨by rfl, rfl⟩) hSR0 ?_
        simp only [Act.put, List.setIfInBounds_toArray, List.set_cons_zero, List.set_cons_succ]
        refine wpAnyH_take (i := 4) (oi := { dst := some 30, op := Go.Op.call { callee := Go.Callee.value (Go.Operand.func 16), args := #[Go.Operand.tmp 29], argTypes := #[26] }, type := 4, pos := "law.go:79", after := #[{ on := 3, ground := Go.Ground.data }, { on := 2, ground := Go.Ground.chain }, { on := 2, ground := Go.Ground.guard }], guard := some (2, true) }) (v := undef) rfl (by kernel_rfl) (by kernel_rfl) (by kernel_rfl) (fun _ _ _ h => h) (Or.inr ⟨by rfl, rfl⟩) hSR0 ?_
        simp only [Act.put, List.setIfInBounds_toArray, List.set_cons_zero, List.set_cons_succ]
        refine wpAnyH_take (i := 5) (oi := { dst := some 31, op := Go.Op.unOp Go.UnOp.not 4 (Go.Operand.tmp 30), type := 4, pos := "law.go:79", after := #[{ on := 4, ground := Go.Ground.data }, { on := 2, ground := Go.Ground.guard }], guard := some (2, true) }) (v := undef) rfl (by kernel_rfl) (by kernel_rfl) (by kernel_rfl) (fun _ _ _ h => h) (Or.inr ⟨by rfl, rfl⟩) hSR0 ?_
        simp only [Act.put, List.setIfInBounds_toArray, List.set_cons_zero, List.set_cons_succ]
        refine wpAnyH_take (i := 6) (oi := { dst := some 32, op := Go.Op.move (Go.Operand.tmp 31), type := 4, pos := "law.go:79", after := #[{ on := 5, ground := Go.Ground.data }, { on := 4, ground := Go.Ground.chain }, { on := 2, ground := Go.Ground.guard }], guard := some (2, true) }) (v := undef) rfl (by kernel_rfl) (by kernel_rfl) (by kernel_rfl) (fun _ _ _ h => h) (Or.inr ⟨by rfl, rfl⟩) hSR0 ?_
        simp only [Act.put, List.setIfInBounds_toArray, List.set_cons_zero, List.set_cons_succ]
        refine wpAnyH_take (i := 7) (oi := { dst := some 33, op := Go.Op.load 26 (Go.Operand.tmp 7), type := 26, pos := "law.go:79", after := #[{ on := 6, ground := Go.Ground.guard }], guard := some (6, false) }) (v := undef) rfl (by kernel_rfl) (by kernel_rfl) (by kernel_rfl) (fun _ _ _ h => h) (Or.inr ⟨by rfl, rfl⟩) hSR0 ?_
        simp only [Act.put, List.setIfInBounds_toArray, List.set_cons_zero, List.set_cons_succ]
        refine wpAnyH_take (i := 8) (oi := { dst := some 34, op := Go.Op.call { callee := Go.Callee.value (Go.Operand.func 17), args := #[Go.Operand.tmp 33], argTypes := #[26] }, type := 22, pos := "law.go:79", after := #[{ on := 7, ground := Go.Ground.data }, { on := 6, ground := Go.Ground.chain }, { on := 6, ground := Go.Ground.guard }], guard := some (6, false) }) (v := undef) rfl (by kernel_rfl) (by kernel_rfl) (by kernel_rfl) (fun _ _ _ h => h) (Or.inr ⟨by rfl, rfl⟩) hSR0 ?_
        simp only [Act.put, List.setIfInBounds_toArray, List.set_cons_zero, List.set_cons_succ]
        refine wpAnyH_take (i := 9) (oi := { dst := some 35, op := Go.Op.convert 22 9 (Go.Operand.tmp 34), type := 9, pos := "law.go:79", after := #[{ on := 8, ground := Go.Ground.data }, { on := 6, ground := Go.Ground.guard }], guard := some (6, false) }) (v := undef) rfl (by kernel_rfl) (by kernel_rfl) (by kernel_rfl) (fun _ _ _ h => h) (Or.inr ⟨by rfl, rfl⟩) hSR0 ?_
        simp only [Act.put, List.setIfInBounds_toArray, List.set_cons_zero, List.set_cons_succ]
        refine wpAnyH_take (i := 10) (oi := { dst := some 36, op := Go.Op.move (Go.Operand.tmp 1), type := 22, pos := "law.go:79", after := #[{ on := 6, ground := Go.Ground.guard }], guard := some (6, false) }) (v := undef) rfl (by kernel_rfl) (by kernel_rfl) (by kernel_rfl) (fun _ _ _ h => h) (Or.inr ⟨by rfl, rfl⟩) hSR0 ?_
        simp only [Act.put, List.setIfInBounds_toArray, List.set_cons_zero, List.set_cons_succ]
        refine wpAnyH_take (i := 11) (oi := { dst := some 37, op := Go.Op.convert 22 9 (Go.Operand.tmp 36), type := 9, pos := "law.go:79", after := #[{ on := 10, ground := Go.Ground.data }, { on := 6, ground := Go.Ground.guard }], guard := some (6, false) }) (v := undef) rfl (by kernel_rfl) (by kernel_rfl) (by kernel_rfl) (fun _ _ _ h => h) (Or.inr ⟨by rfl, rfl⟩) hSR0 ?_
        simp only [Act.put, List.setIfInBounds_toArray, List.set_cons_zero, List.set_cons_succ]
        refine wpAnyH_take (i := 12) (oi := { dst := some 38, op := Go.Op.binOp Go.BinOp.neq 9 (Go.Operand.tmp 35) (Go.Operand.tmp 37) 9, type := 4, pos := "law.go:79", after := #[{ on := 9, ground := Go.Ground.data }, { on := 11, ground := Go.Ground.data }, { on := 6, ground := Go.Ground.guard }], guard := some (6, false) }) (v := undef) rfl (by kernel_rfl) (by kernel_rfl) (by kernel_rfl) (fun _ _ _ h => h) (Or.inr ⟨by rfl, rfl⟩) hSR0 ?_
        simp only [Act.put, List.setIfInBounds_toArray, List.set_cons_zero, List.set_cons_succ]
        refine wpAnyH_take (i := 13) (oi := { dst := some 39, op := Go.Op.pick (Go.Operand.tmp 32) (Go.Operand.const (Go.Value.bool true)) (Go.Operand.tmp 38), type := 4, pos := "law.go:79", after := #[{ on := 6, ground := Go.Ground.data }, { on := 12, ground := Go.Ground.data }, { on := 2, ground := Go.Ground.guard }], guard := some (2, true) }) (v := undef) rfl (by kernel_rfl) (by kernel_rfl) (by kernel_rfl) (fun _ _ _ h => h) (Or.inr ⟨by rfl, rfl⟩) hSR0 ?_
        simp only [Act.put, List.setIfInBounds_toArray, List.set_cons_zero, List.set_cons_succ]
        (refine wpAnyH_take (i := 14) (oi := { dst := some 40, op := Go.Op.pick (Go.Operand.tmp 28) (Go.Operand.tmp 39) (Go.Operand.const (Go.Value.bool false)), type := 4, pos := "law.go:79", after := #[{ on := 2, ground := Go.Ground.data }, { on := 13, ground := Go.Ground.data }], guard := none }) (v := ?_) rfl (by kernel_rfl) (by kernel_rfl) (by kernel_rfl) (fun _ _ _ h => h) (Or.inl ⟨by rfl, fun w' hSw => ?_⟩) hSR0 ?_; rotate_left; focus (go_simp; try with_reducible rfl))
        simp only [Act.put, List.setIfInBounds_toArray, List.set_cons_zero, List.set_cons_succ]
        (refine wpAnyH_take (i := 15) (oi := { dst := some 41, op := Go.Op.move (Go.Operand.tmp 40), type := 4, pos := "law.go:79", after := #[{ on := 14, ground := Go.Ground.data }, { on := 8, ground := Go.Ground.chain }], guard := none }) (v := ?_) rfl (by kernel_rfl) (by kernel_rfl) (by kernel_rfl) (fun _ _ _ h => h) (Or.inl ⟨by rfl, fun w' hSw => ?_⟩) hSR0 ?_; rotate_left; focus (go_simp; try with_reducible rfl))
        simp only [Act.put, List.setIfInBounds_toArray, List.set_cons_zero, List.set_cons_succ]
        (refine wpAnyH_take (i := 16) (oi := { dst := some 42, op := Go.Op.move (Go.Operand.tmp 8), type := 28, pos := "law.go:79", after := #[{ on := 15, ground := Go.Ground.guard }], guard := some (15, false) }) (v := ?_) rfl (by kernel_rfl) (by kernel_rfl) (by kernel_rfl) (fun _ _ _ h => h) (Or.inl ⟨by rfl, fun w' hSw => ?_⟩) hSR0 ?_; rotate_left; focus (go_simp; try with_reducible rfl))
        simp only [Act.put, List.setIfInBounds_toArray, List.set_cons_zero, List.set_cons_succ]
        (refine wpAnyH_take (i := 17) (oi := { dst := some 43, op := Go.Op.binOp Go.BinOp.neq 28 (Go.Operand.tmp 42) (Go.Operand.const (Go.Value.int Go.IntKind.i64 0)) 28, type := 4, pos := "law.go:79", after := #[{ on := 16, ground := Go.Ground.data }, { on := 15, ground := Go.Ground.guard }], guard := some (15, false) }) (v := ?_) rfl (by kernel_rfl) (by kernel_rfl) (by kernel_rfl) (fun _ _ _ h => h) (Or.inl ⟨by rfl, fun w' hSw => ?_⟩) hSR0 ?_; rotate_left; focus (go_simp; try with_reducible rfl))
        simp only [Act.put, List.setIfInBounds_toArray, List.set_cons_zero, List.set_cons_succ]
        (refine wpAnyH_take (i := 18) (oi := { dst := some 44, op := Go.Op.move (Go.Operand.tmp 43), type := 4, pos := "law.go:79", after := #[{ on := 17, ground := Go.Ground.data }, { on := 15, ground := Go.Ground.chain }, { on := 15, ground := Go.Ground.guard }], guard := some (15, false) }) (v := ?_) rfl (by kernel_rfl) (by kernel_rfl) (by kernel_rfl) (fun _ _ _ h => h) (Or.inl ⟨by rfl, fun w' hSw => ?_⟩) hSR0 ?_; rotate_left; focus (go_simp; try with_reducible rfl))
        simp only [Act.put, List.setIfInBounds_toArray, List.set_cons_zero, List.set_cons_succ]
        (refine wpAnyH_take (i := 19) (oi := { dst := some 45, op := Go.Op.load 26 (Go.Operand.tmp 7), type := 26, pos := "law.go:79", after := #[{ on := 18, ground := Go.Ground.guard }], guard := some (18, true) }) (v := ?_) rfl (by kernel_rfl) (by kernel_rfl) (by kernel_rfl) (fun _ _ _ h => h) (Or.inl ⟨by rfl, fun w' hSw => ?_⟩) hSR0 ?_; rotate_left; focus (have l0 := cell_under hSw q0; have l1 := cell_under hSw q1; have l2 := cell_under hSw q2; have l3 := cell_under hSw q3; go_simp; try with_reducible rfl))
        simp only [Act.put, List.setIfInBounds_toArray, List.set_cons_zero, List.set_cons_succ]
        (refine wpAnyH_take (i := 20) (oi := { dst := some 46, op := Go.Op.build 26 #[], type := 26, pos := "law.go:79", after := #[{ on := 18, ground := Go.Ground.guard }], guard := some (18, true) }) (v := ?_) rfl (by kernel_rfl) (by kernel_rfl) (by kernel_rfl) (fun _ _ _ h => h) (Or.inl ⟨by rfl, fun w' hSw => ?_⟩) hSR0 ?_; rotate_left; focus (go_simp; try with_reducible rfl))
        simp only [Act.put, List.setIfInBounds_toArray, List.set_cons_zero, List.set_cons_succ]
        refine wpAnyH_ready (rs := [21]) (by kernel_rfl) (by simp) ?_
        refine AllReadyH.cons rfl (fun K hK => ?_) AllReadyH.nil
        go_simp
        go_wp2_with (go_at_call 18; refine (SameCoin_at w3d v2 A2 n2 c2 xs2 h2 p2 0 none 0 0 [] 0 false (F2'.out.below hSR0) (CoinV.zero_fine _)).mono ?_; rintro e w5 ⟨rfl, b5⟩; rw [g1'])
        refine hK.out _ _ (Below.then_ hSR0 b5) (fun hSR1 => ?_)
        clear hK K
        (refine wpAnyH_take (i := 22) (oi := { dst := some 48, op := Go.Op.unOp Go.UnOp.not 4 (Go.Operand.tmp 47), type := 4, pos := "law.go:79", after := #[{ on := 21, ground := Go.Ground.data }, { on := 18, ground := Go.Ground.guard }], guard := some (18, true) }) (v := ?_) rfl (by kernel_rfl) (by kernel_rfl) (by kernel_rfl) (fun _ _ _ h => h) (Or.inl ⟨by rfl, fun w' hSw => ?_⟩) hSR1 ?_; rotate_left; focus (go_simp; try with_reducible rfl))
        simp only [Act.put, List.setIfInBounds_toArray, List.set_cons_zero, List.set_cons_succ]
        (refine wpAnyH_take (i := 23) (oi := { dst := some 49, op := Go.Op.move (Go.Operand.tmp 48), type := 4, pos := "law.go:79", after := #[{ on := 22, ground := Go.Ground.data }, { on := 21, ground := Go.Ground.chain }, { on := 18, ground := Go.Ground.guard }], guard := some (18, true) }) (v := ?_) rfl (by kernel_rfl) (by kernel_rfl) (by kernel_rfl) (fun _ _ _ h => h) (Or.inl ⟨by rfl, fun w' hSw => ?_⟩) hSR1 ?_; rotate_left; focus (go_simp; try with_reducible rfl))
        simp only [Act.put, List.setIfInBounds_toArray, List.set_cons_zero, List.set_cons_succ]
        (refine wpAnyH_take (i := 24) (oi := { dst := some 50, op := Go.Op.move (Go.Operand.tmp 8), type := 28, pos := "law.go:79", after := #[{ on := 23, ground := Go.Ground.guard }], guard := some (23, false) }) (v := ?_) rfl (by kernel_rfl) (by kernel_rfl) (by kernel_rfl) (fun _ _ _ h => h) (Or.inl ⟨by rfl, fun w' hSw => ?_⟩) hSR1 ?_; rotate_left; focus (go_simp; try with_reducible rfl))
        simp only [Act.put, List.setIfInBounds_toArray, List.set_cons_zero, List.set_cons_succ]
        (refine wpAnyH_take (i := 25) (oi := { dst := some 51, op := Go.Op.binOp Go.BinOp.neq 28 (Go.Operand.tmp 50) (Go.Operand.const (Go.Value.int Go.IntKind.i64 61)) 28, type := 4, pos := "law.go:79", after := #[{ on := 24, ground := Go.Ground.data }, { on := 23, ground := Go.Ground.guard }], guard := some (23, false) }) (v := ?_) rfl (by kernel_rfl) (by kernel_rfl) (by kernel_rfl) (fun _ _ _ h => h) (Or.inl ⟨by rfl, fun w' hSw => ?_⟩) hSR1 ?_; rotate_left; focus (go_simp; try with_reducible rfl))
        simp only [Act.put, List.setIfInBounds_toArray, List.set_cons_zero, List.set_cons_succ]
        (refine wpAnyH_take (i := 26) (oi := { dst := some 52, op := Go.Op.move (Go.Operand.tmp 51), type := 4, pos := "law.go:79", after := #[{ on := 25, ground := Go.Ground.data }, { on := 23, ground := Go.Ground.chain }, { on := 23, ground := Go.Ground.guard }], guard := some (23, false) }) (v := ?_) rfl (by kernel_rfl) (by kernel_rfl) (by kernel_rfl) (fun _ _ _ h => h) (Or.inl ⟨by rfl, fun w' hSw => ?_⟩) hSR1 ?_; rotate_left; focus (go_simp; try with_reducible rfl))
        simp only [Act.put, List.setIfInBounds_toArray, List.set_cons_zero, List.set_cons_succ]
        (refine wpAnyH_take (i := 27) (oi := { dst := some 53, op := Go.Op.move (Go.Operand.tmp 8), type := 28, pos := "law.go:79", after := #[{ on := 26, ground := Go.Ground.guard }], guard := some (26, true) }) (v := ?_) rfl (by kernel_rfl) (by kernel_rfl) (by kernel_rfl) (fun _ _ _ h => h) (Or.inl ⟨by rfl, fun w' hSw => ?_⟩) hSR1 ?_; rotate_left; focus (go_simp; try with_reducible rfl))
        simp only [Act.put, List.setIfInBounds_toArray, List.set_cons_zero, List.set_cons_succ]
        (refine wpAnyH_take (i := 28) (oi := { dst := some 54, op := Go.Op.binOp Go.BinOp.neq 28 (Go.Operand.tmp 53) (Go.Operand.const (Go.Value.int Go.IntKind.i64 62)) 28, type := 4, pos := "law.go:79", after := #[{ on := 27, ground := Go.Ground.data }, { on := 26, ground := Go.Ground.guard }], guard := some (26, true) }) (v := ?_) rfl (by kernel_rfl) (by kernel_rfl) (by kernel_rfl) (fun _ _ _ h => h) (Or.inl ⟨by rfl, fun w' hSw => ?_⟩) hSR1 ?_; rotate_left; focus (go_simp; try with_reducible rfl))
        simp only [Act.put, List.setIfInBounds_toArray, List.set_cons_zero, List.set_cons_succ]
        (refine wpAnyH_take (i := 29) (oi := { dst := some 55, op := Go.Op.pick (Go.Operand.tmp 52) (Go.Operand.tmp 54) (Go.Operand.const (Go.Value.bool false)), type := 4, pos := "law.go:79", after := #[{ on := 26, ground := Go.Ground.data }, { on := 28, ground := Go.Ground.data }, { on := 23, ground := Go.Ground.guard }], guard := some (23, false) }) (v := ?_) rfl (by kernel_rfl) (by kernel_rfl) (by kernel_rfl) (fun _ _ _ h => h) (Or.inl ⟨by rfl, fun w' hSw => ?_⟩) hSR1 ?_; rotate_left; focus (go_simp; try with_reducible rfl))
        simp only [Act.put, List.setIfInBounds_toArray, List.set_cons_zero, List.set_cons_succ]
        (refine wpAnyH_take (i := 30) (oi := { dst := some 56, op := Go.Op.pick (Go.Operand.tmp 49) (Go.Operand.const (Go.Value.bool true)) (Go.Operand.tmp 55), type := 4, pos := "law.go:79", after := #[{ on := 23, ground := Go.Ground.data }, { on := 29, ground := Go.Ground.data }, { on := 18, ground := Go.Ground.guard }], guard := some (18, true) }) (v := ?_) rfl (by kernel_rfl) (by kernel_rfl) (by kernel_rfl) (fun _ _ _ h => h) (Or.inl ⟨by rfl, fun w' hSw => ?_⟩) hSR1 ?_; rotate_left; focus (go_simp; try with_reducible rfl))
        simp only [Act.put, List.setIfInBounds_toArray, List.set_cons_zero, List.set_cons_succ]
        (refine wpAnyH_take (i := 31) (oi := { dst := some 57, op := Go.Op.pick (Go.Operand.tmp 44) (Go.Operand.tmp 56) (Go.Operand.const (Go.Value.bool false)), type := 4, pos := "law.go:79", after := #[{ on := 18, ground := Go.Ground.data }, { on := 30, ground := Go.Ground.data }, { on := 15, ground := Go.Ground.guard }], guard := some (15, false) }) (v := ?_) rfl (by kernel_rfl) (by kernel_rfl) (by kernel_rfl) (fun _ _ _ h => h) (Or.inl ⟨by rfl, fun w' hSw => ?_⟩) hSR1 ?_; rotate_left; focus (go_simp; try with_reducible rfl))
        simp only [Act.put, List.setIfInBounds_toArray, List.set_cons_zero, List.set_cons_succ]
        (refine wpAnyH_take (i := 32) (oi := { dst := some 58, op := Go.Op.pick (Go.Operand.tmp 41) (Go.Operand.const (Go.Value.bool true)) (Go.Operand.tmp 57), type := 4, pos := "law.go:79", after := #[{ on := 15, ground := Go.Ground.data }, { on := 31, ground := Go.Ground.data }], guard := none }) (v := ?_) rfl (by kernel_rfl) (by kernel_rfl) (by kernel_rfl) (fun _ _ _ h => h) (Or.inl ⟨by rfl, fun w' hSw => ?_⟩) hSR1 ?_; rotate_left; focus (go_simp; try with_reducible rfl))
        simp only [Act.put, List.setIfInBounds_toArray, List.set_cons_zero, List.set_cons_succ]
        refine wpAnyH_done (by kernel_rfl) ?_ _

        have HB6 := hide (Below.then_ HB2.out hSR1)
        have B6 := hide (Blk.under B2.out hSR1)
        have FA := hide (HA.out.below HB6.out)
        clear q0 q1 q2 q3 hSR1
        have k0 := B6.out.c0
        have k1 := B6.out.c1
        have k2 := B6.out.c2
        have k3 := B6.out.c3
        go_wp2_with fail
        refine (Right_at w5 v A0 n0 c0 xs h p (CoinV.len FA.out)).mono ?_
        rintro e w7 ⟨rfl, b7⟩
        have HB7 := hide (Below.then_ HB6.out b7)
        have B7 := hide (Blk.under B6.out b7)
        have FA7 := hide (FA.out.below b7)
        clear k0 k1 k2 k3 b7
        by_cases hr : rightB ⟨⟨v, xs⟩, h, p⟩ = true
        · rw [hr]
          have hrt := hide ((rightB_iff _).1 hr)
          have hn0 := hide (show n0 ≤ 1000000 by have h1 := hrt.out.2.1; have h2 := CoinV.len FA7.out; have h3 : xs.length ≤ 2000 := h1; have h4 : xs.length = n0 := h2; omega)
          have HPA := hide (parse_append ⟨⟨v, xs⟩, h, p⟩ hrt.out)
          have HPC := hide (parse_cut ⟨⟨v, xs⟩, h, p⟩ hrt.out)
          clear hr
          have k0 := B7.out.c0
          have k1 := B7.out.c1
          have k2 := B7.out.c2
          have k3 := B7.out.c3
          go_wp2_with fail
          refine (CoinBytes_at w7 v A0 n0 c0 xs h p FA7.out hn0.out).mono ?_
          rintro e w8 ⟨A8, n8, c8, rfl, t8, f8⟩
          have hl8 := hide (show n8 ≤ 1000100 by
            have e1 := t8.len
            have e2 := CoinV.len FA7.out
            have e3 := hn0.out
            have e4 := txt_len xs
            have e5 := (cnt_length (CoinD.n64 ⟨⟨v, xs⟩, h, p⟩).toNat).2
            simp only [CoinD.bytes64, OutD.bytes, List.length_append, dig_length] at e1
            have e6 : xs.length = n0 := e2
            omega)
          clear k0 k1 k2 k3
          obtain ⟨PB, hPB⟩ : ∃ PB, PB = CoinD.bytes64 ⟨⟨v, xs⟩, h, p⟩ := ⟨_, rfl⟩
          rw [← hPB] at t8 HPA HPC
          have HPB := hide hPB
          clear hPB
          obtain ⟨PS, hPS⟩ : ∃ PS, PS = ba PB := ⟨_, rfl⟩
          have hpstr := hide (show ∀ (w' : World) (A' : Option Addr) (n' c' : Nat) (xs : List Int), Bys w' A' n' xs → xs = PB → (convert 22 9 (.slice A' n' c')).run Try.prog w' = .ok (.string PS) w' from fun w' A' n' c' xs h e => by rw [hPS, ← e]; exact run_str w' A' n' c' xs h)
          clear hPS
          have hp0 := hide (show parse PB = (⟨⟨v, xs⟩, h, p⟩, 0) by have := HPA.out []; simpa using this)
          have HB8 := hide (Below.then_ HB7.out t8.below)
          have B8 := hide (Blk.under B7.out t8.below)
          have FA8 := hide (FA7.out.below t8.below)
          go_wp2_with fail
          refine (Parse_any w8 A8 n8 c8 PB t8.bys (by have := hl8.out; omega)).mono ?_
          rintro e wa ⟨⟨⟨v9, A9, n9, c9, xs9⟩, h9, p9⟩, rfl, hd9, F9a, ba⟩
          rw [hp0.out] at hd9 ⊢
          simp only [CoinV.d, OutV.d, CoinD.mk.injEq, OutD.mk.injEq] at hd9
          obtain ⟨⟨e1, e2⟩, e3, e4⟩ := hd9
          subst v9
          subst xs9
          subst h9
          subst p9
          simp only [CoinV.val]
          have bx : Below wa.heap.size wa (wa.alloc (.cells #[.int .i64 v, .slice A9 n9 c9, .int .i64 h, .bool p] 26)) := below_alloc (Below.refl _ _) _
          have b89 := hide (Below.then_ ba bx)
          have F9y := hide (F9a.below bx)
          have N9 := hide (Blk.new wa 26 [.int .i64 v, .slice A9 n9 c9, .int .i64 h, .bool p])
          obtain ⟨w9, hw9⟩ : ∃ w9, w9 = wa.alloc (.cells #[.int .i64 v, .slice A9 n9 c9, .int .i64 h, .bool p] 26) := ⟨_, rfl⟩
          obtain ⟨g9, hg9⟩ : ∃ g9, g9 = wa.heap.size := ⟨_, rfl⟩
          rw [← hw9] at b89 F9y N9
          rw [← hg9] at N9
          have HB9 := hide (Below.then_ HB8.out b89.out)
          have B9 := hide (Blk.under B8.out b89.out)
          have F9 := hide (FA8.out.below b89.out)
          have Y9 := hide (t8.bys.below b89.out)
          have M9 := hide (t8.keep b89.out)
          have y0 := B9.out.c0
          have y1 := B9.out.c1
          have y2 := B9.out.c2
          have y3 := B9.out.c3
          have z0 := N9.out.c0
          have z1 := N9.out.c1
          have z2 := N9.out.c2
          have z3 := N9.out.c3
          clear ba bx F9a t8 f8
          go_wp2_with fail
          rw [← hw9, ← hg9]
          clear hw9 hg9
          refine wp_region_held_drew (S := fun w' => Below w9.heap.size w9 w') (by kernel_rfl) (by exact (Below.refl _ _).drew) (fun hSQ0 => ?_)
          obtain ⟨w9d, hwQ⟩ : ∃ x, x = w9.drew := ⟨_, rfl⟩
          rw [← hwQ] at hSQ0 ⊢
          clear hwQ
          (refine wpAnyH_take (i := 0) (oi := { dst := some 69, op := Go.Op.move (Go.Operand.tmp 9), type := 22, pos := "law.go:87", after := #[], guard := none }) (v := ?_) rfl (by kernel_rfl) (by kernel_rfl) (by kernel_rfl) (fun _ _ _ h => h) (Or.inl ⟨by rfl, fun w' hSw => ?_⟩) hSQ0 ?_; rotate_left; focus (go_simp; try with_reducible rfl))
          simp only [Act.put, List.setIfInBounds_toArray, List.set_cons_zero, List.set_cons_succ]
          (refine wpAnyH_take (i := 1) (oi := { dst := some 70, op := Go.Op.convert 22 9 (Go.Operand.tmp 69), type := 9, pos := "law.go:87", after := #[{ on := 0, ground := Go.Ground.data }], guard := none }) (v := ?_) rfl (by kernel_rfl) (by kernel_rfl) (by kernel_rfl) (fun _ _ _ h => h) (Or.inl ⟨by rfl, fun w' hSw => ?_⟩) hSQ0 ?_; rotate_left; focus (have l0 := hpstr.out w' A8 n8 c8 _ (Y9.out.below hSw) rfl; go_simp; try with_reducible rfl))
          simp only [Act.put, List.setIfInBounds_toArray, List.set_cons_zero, List.set_cons_succ]
          (refine wpAnyH_take (i := 2) (oi := { dst := some 71, op := Go.Op.load 26 (Go.Operand.tmp 3), type := 26, pos := "law.go:87", after := #[], guard := none }) (v := ?_) rfl (by kernel_rfl) (by kernel_rfl) (by kernel_rfl) (fun _ _ _ h => h) (Or.inl ⟨by rfl, fun w' hSw => ?_⟩) hSQ0 ?_; rotate_left; focus (have l0 := cell_under hSw y0; have l1 := cell_under hSw y1; have l2 := cell_under hSw y2; have l3 := cell_under hSw y3; go_simp; try with_reducible rfl))
          simp only [Act.put, List.setIfInBounds_toArray, List.set_cons_zero, List.set_cons_succ]
          refine wpAnyH_ready (rs := [3]) (by kernel_rfl) (by simp) ?_
          refine AllReadyH.cons rfl (fun K hK => ?_) AllReadyH.nil
          go_simp
          go_wp2_with (go_at_call 17; refine (refCoinBytes_at w9d v A0 n0 c0 xs h p (F9.out.below hSQ0) hn0.out).mono ?_; rintro e w10 ⟨A10, n10, c10, rfl, t10, f10⟩)
          refine hK.out _ _ (Below.then_ hSQ0 t10.below) (fun hSQ1 => ?_)
          clear hK K
          refine wpAnyH_ready (rs := [4]) (by kernel_rfl) (by simp) ?_
          refine AllReadyH.cons rfl (fun K hK => ?_) AllReadyH.nil
          have s10 := hpstr.out w10 A10 n10 c10 _ t10.bys HPB.out.symm
          go_simp
          refine hK.out _ _ (hSQ1) (fun hSQ2 => ?_)
          clear hK K
          (refine wpAnyH_take (i := 5) (oi := { dst := some 74, op := Go.Op.binOp Go.BinOp.neq 9 (Go.Operand.tmp 70) (Go.Operand.tmp 73) 9, type := 4, pos := "law.go:87", after := #[{ on := 1, ground := Go.Ground.data }, { on := 4, ground := Go.Ground.data }], guard := none }) (v := ?_) rfl (by kernel_rfl) (by kernel_rfl) (by kernel_rfl) (fun _ _ _ h => h) (Or.inl ⟨by rfl, fun w' hSw => ?_⟩) hSQ2 ?_; rotate_left; focus (go_simp; try with_reducible rfl))
          simp only [Act.put, List.setIfInBounds_toArray, List.set_cons_zero, List.set_cons_succ]
          (refine wpAnyH_take (i := 6) (oi := { dst := some 75, op := Go.Op.move (Go.Operand.tmp 74), type := 4, pos := "law.go:87", after := #[{ on := 5, ground := Go.Ground.data }, { on := 3, ground := Go.Ground.chain }], guard := none }) (v := ?_) rfl (by kernel_rfl) (by kernel_rfl) (by kernel_rfl) (fun _ _ _ h => h) (Or.inl ⟨by rfl, fun w' hSw => ?_⟩) hSQ2 ?_; rotate_left; focus (go_simp; try with_reducible rfl))
          simp only [Act.put, List.setIfInBounds_toArray, List.set_cons_zero, List.set_cons_succ]
          (refine wpAnyH_take (i := 7) (oi := { dst := some 76, op := Go.Op.move (Go.Operand.tmp 11), type := 28, pos := "law.go:87", after := #[{ on := 6, ground := Go.Ground.guard }], guard := some (6, false) }) (v := ?_) rfl (by kernel_rfl) (by kernel_rfl) (by kernel_rfl) (fun _ _ _ h => h) (Or.inl ⟨by rfl, fun w' hSw => ?_⟩) hSQ2 ?_; rotate_left; focus (go_simp; try with_reducible rfl))
          simp only [Act.put, List.setIfInBounds_toArray, List.set_cons_zero, List.set_cons_succ]
          (refine wpAnyH_take (i := 8) (oi := { dst := some 77, op := Go.Op.binOp Go.BinOp.neq 28 (Go.Operand.tmp 76) (Go.Operand.const (Go.Value.int Go.IntKind.i64 0)) 28, type := 4, pos := "law.go:87", after := #[{ on := 7, ground := Go.Ground.data }, { on := 6, ground := Go.Ground.guard }], guard := some (6, false) }) (v := ?_) rfl (by kernel_rfl) (by kernel_rfl) (by kernel_rfl) (fun _ _ _ h => h) (Or.inl ⟨by rfl, fun w' hSw => ?_⟩) hSQ2 ?_; rotate_left; focus (go_simp; try with_reducible rfl))
          simp only [Act.put, List.setIfInBounds_toArray, List.set_cons_zero, List.set_cons_succ]
          (refine wpAnyH_take (i := 9) (oi := { dst := some 78, op := Go.Op.pick (Go.Operand.tmp 75) (Go.Operand.const (Go.Value.bool true)) (Go.Operand.tmp 77), type := 4, pos := "law.go:87", after := #[{ on := 6, ground := Go.Ground.data }, { on := 8, ground := Go.Ground.data }], guard := none }) (v := ?_) rfl (by kernel_rfl) (by kernel_rfl) (by kernel_rfl) (fun _ _ _ h => h) (Or.inl ⟨by rfl, fun w' hSw => ?_⟩) hSQ2 ?_; rotate_left; focus (go_simp; try with_reducible rfl))
          simp only [Act.put, List.setIfInBounds_toArray, List.set_cons_zero, List.set_cons_succ]
          (refine wpAnyH_take (i := 10) (oi := { dst := some 79, op := Go.Op.move (Go.Operand.tmp 78), type := 4, pos := "law.go:87", after := #[{ on := 9, ground := Go.Ground.data }, { on := 6, ground := Go.Ground.chain }], guard := none }) (v := ?_) rfl (by kernel_rfl) (by kernel_rfl) (by kernel_rfl) (fun _ _ _ h => h) (Or.inl ⟨by rfl, fun w' hSw => ?_⟩) hSQ2 ?_; rotate_left; focus (go_simp; try with_reducible rfl))
          simp only [Act.put, List.setIfInBounds_toArray, List.set_cons_zero, List.set_cons_succ]
          (refine wpAnyH_take (i := 11) (oi := { dst := some 80, op := Go.Op.load 26 (Go.Operand.tmp 10), type := 26, pos := "law.go:87", after := #[{ on := 10, ground := Go.Ground.guard }], guard := some (10, false) }) (v := ?_) rfl (by kernel_rfl) (by kernel_rfl) (by kernel_rfl) (fun _ _ _ h => h) (Or.inl ⟨by rfl, fun w' hSw => ?_⟩) hSQ2 ?_; rotate_left; focus (have l0 := cell_under hSw z0; have l1 := cell_under hSw z1; have l2 := cell_under hSw z2; have l3 := cell_under hSw z3; go_simp; try with_reducible rfl))
          simp only [Act.put, List.setIfInBounds_toArray, List.set_cons_zero, List.set_cons_succ]
          (refine wpAnyH_take (i := 12) (oi := { dst := some 81, op := Go.Op.load 26 (Go.Operand.tmp 3), type := 26, pos := "law.go:87", after := #[{ on := 10, ground := Go.Ground.guard }], guard := some (10, false) }) (v := ?_) rfl (by kernel_rfl) (by kernel_rfl) (by kernel_rfl) (fun _ _ _ h => h) (Or.inl ⟨by rfl, fun w' hSw => ?_⟩) hSQ2 ?_; rotate_left; focus (have l0 := cell_under hSw y0; have l1 := cell_under hSw y1; have l2 := cell_under hSw y2; have l3 := cell_under hSw y3; go_simp; try with_reducible rfl))
          simp only [Act.put, List.setIfInBounds_toArray, List.set_cons_zero, List.set_cons_succ]
          refine wpAnyH_ready (rs := [13]) (by kernel_rfl) (by simp) ?_
          refine AllReadyH.cons rfl (fun K hK => ?_) AllReadyH.nil
          go_simp
          go_wp2_with (go_at_call 18; refine (SameCoin_at w10 v A9 n9 c9 xs h p v A0 n0 c0 xs h p (F9y.out.below hSQ1) (F9.out.below hSQ1)).mono ?_; rintro e w11 ⟨rfl, b11⟩; rw [same_refl])
          refine hK.out _ _ (Below.then_ hSQ2 b11) (fun hSQ3 => ?_)
          clear hK K
          (refine wpAnyH_take (i := 14) (oi := { dst := some 83, op := Go.Op.unOp Go.UnOp.not 4 (Go.Operand.tmp 82), type := 4, pos := "law.go:87", after := #[{ on := 13, ground := Go.Ground.data }, { on := 10, ground := Go.Ground.guard }], guard := some (10, false) }) (v := ?_) rfl (by kernel_rfl) (by kernel_rfl) (by kernel_rfl) (fun _ _ _ h => h) (Or.inl ⟨by rfl, fun w' hSw => ?_⟩) hSQ3 ?_; rotate_left; focus (go_simp; try with_reducible rfl))
          simp only [Act.put, List.setIfInBounds_toArray, List.set_cons_zero, List.set_cons_succ]
          (refine wpAnyH_take (i := 15) (oi := { dst := some 84, op := Go.Op.pick (Go.Operand.tmp 79) (Go.Operand.const (Go.Value.bool true)) (Go.Operand.tmp 83), type := 4, pos := "law.go:87", after := #[{ on := 10, ground := Go.Ground.data }, { on := 14, ground := Go.Ground.data }], guard := none }) (v := ?_) rfl (by kernel_rfl) (by kernel_rfl) (by kernel_rfl) (fun _ _ _ h => h) (Or.inl ⟨by rfl, fun w' hSw => ?_⟩) hSQ3 ?_; rotate_left; focus (go_simp; try with_reducible rfl))
          simp only [Act.put, List.setIfInBounds_toArray, List.set_cons_zero, List.set_cons_succ]
          refine wpAnyH_done (by kernel_rfl) ?_ _
          have HB12 := hide (Below.then_ HB9.out hSQ3)
          have M12 := hide (M9.out.keep hSQ3)
          clear hSQ3 y0 y1 y2 y3 z0 z1 z2 z3
          have H812 := hide (M12.out.below)
          have HBA := hide (Below.then_ HB7.out M12.out.below)
          by_cases hk : k < 0 ∨ (n8 : Int) ≤ k
          · have HK := hide hk
            have Z12 := hide (Bys.one w11 5 0 (by decide) (by decide))
            rcases hk with hk | hk
            · go_wp2_with (at_builtin; refine wpList_app rfl _ _ rfl w7 A8 n8 c8 PB (by rfl) ((M12.out.alloc _)) (some ⟨w11.heap.size, 0, none⟩) 1 1 [0] (by rfl) Z12.out (by have := hl8.out; omega) ?_; intro A13 n13 c13 w13 t13 f13)
              refine (Parse_any w13 A13 n13 c13 _ t13.bys (by have e1 := t13.len; have e2 := M12.out.len; have e3 := hl8.out; rw [List.length_append, e2] at e1; simp at e1; omega)).mono ?_
              rintro e w14 ⟨⟨⟨v14, A14, n14, c14, xs14⟩, h14, p14⟩, rfl, hd14, F14, b14⟩
              rw [show (parse (PB ++ [0])).2 = 62 from by rw [HPA.out [0]]; rfl]
              simp only [CoinV.val]
              have HB14 := hide (below_alloc (Below.then_ (Below.then_ HB7.out t13.below) b14) (.cells #[.int .i64 v14, .slice A14 n14 c14, .int .i64 h14, .bool p14] 26))
              clear hd14 F14 b14
              go_wp2_with fail
              go_ret
              exact ⟨rfl, HB14.out⟩
            · have hk1 : 0 ≤ k := by omega
              go_wp2_with (at_builtin; refine wpList_app rfl _ _ rfl w7 A8 n8 c8 PB (by rfl) ((M12.out.alloc _)) (some ⟨w11.heap.size, 0, none⟩) 1 1 [0] (by rfl) Z12.out (by have := hl8.out; omega) ?_; intro A13 n13 c13 w13 t13 f13)
              refine (Parse_any w13 A13 n13 c13 _ t13.bys (by have e1 := t13.len; have e2 := M12.out.len; have e3 := hl8.out; rw [List.length_append, e2] at e1; simp at e1; omega)).mono ?_
              rintro e w14 ⟨⟨⟨v14, A14, n14, c14, xs14⟩, h14, p14⟩, rfl, hd14, F14, b14⟩
              rw [show (parse (PB ++ [0])).2 = 62 from by rw [HPA.out [0]]; rfl]
              simp only [CoinV.val]
              have HB14 := hide (below_alloc (Below.then_ (Below.then_ HB7.out t13.below) b14) (.cells #[.int .i64 v14, .slice A14 n14 c14, .int .i64 h14, .bool p14] 26))
              clear hd14 F14 b14
              go_wp2_with fail
              go_ret
              exact ⟨rfl, HB14.out⟩
          · have hk0 : 0 ≤ k := by omega
            have hk1 : k < (n8 : Int) := by omega
            obtain ⟨K8, hK8⟩ : ∃ K8 : Nat, (K8 : Int) = k := ⟨k.toNat, by omega⟩
            subst hK8
            obtain ⟨A14, hs3, hs4, hBA, _⟩ := slice_head A8 n8 c8 K8 (by omega) M12.out.cap
            have Y14 := hide (hBA _ _ M12.out.bys)
            have HPK := hide (HPC.out K8 (by rw [M12.out.len]; omega))
            clear hBA
            go_wp2_with fail
            refine (Parse_any _ A14 K8 c8 _ Y14.out (by have := hl8.out; omega)).mono ?_
            rintro e w15 ⟨⟨⟨v15, A15, n15, c15, xs15⟩, h15, p15⟩, rfl, hd15, F15, b15⟩
            rw [HPK.out]
            simp only [CoinV.val]
            have HB15 := hide (below_alloc (Below.then_ HB12.out b15) (.cells #[.int .i64 v15, .slice A15 n15 c15, .int .i64 h15, .bool p15] 26))
            clear hd15 F15 b15
            go_wp2_with fail
            go_ret
            exact ⟨rfl, HB15.out⟩
        · have hr' : rightB ⟨⟨v, xs⟩, h, p⟩ = false := by simpa using hr
          rw [hr']
          go_wp2_with fail
          go_ret
          exact ⟨rfl, HB7.out⟩
  · have hn1 : 2500 < (n : Int) := by omega
    go_wp2_with fail
    go_ret
    exact ⟨rfl, HB1.out⟩
end Go.Proofs.Ytfloclamdpageaa
