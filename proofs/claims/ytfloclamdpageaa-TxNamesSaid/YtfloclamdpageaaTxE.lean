/-
  tx: null, Base.
-/
import Derived.Test.YtfloclamdpageaaTxD
namespace Go.Proofs.Ytfloclamdpageaa
open Go.RowKit

def nullR : RefD := ⟨List.replicate 32 0, 4294967295⟩
theorem nullR_fine : nullR.Fine := ⟨by simp [nullR], fun x hx => by have := List.eq_of_mem_replicate hx; omega, by decide, by decide⟩
def RefD.eqb (a b : RefD) : Bool := decide (a.id = b.id ∧ a.at_ = b.at_)
theorem mkRef_null (w : World) : (mkRef #[(1, .int .u32 4294967295)]).run Try.prog w = .ok (.agg nullR.cells.toArray) w := by kernel_rfl
def baseT (l : List InD) : Bool := match l with
  | [a] => a.ref.eqb nullR
  | _ => false
theorem baseT_one (a : InD) : baseT [a] = a.ref.eqb nullR := rfl
theorem baseT_not (l : List InD) (h : l.length ≠ 1) : baseT l = false := by
  rcases l with _ | ⟨a, _ | ⟨b, l⟩⟩
  · rfl
  · exact absurd rfl h
  · rfl
attribute [local go_sem ↓] loadIn_fold loadRef_fold loadTx_fold eqlRef_fold neqRef_fold mkRef_fold mkTx_fold
attribute [local go_sem] mkRef_null
set_option maxHeartbeats 1000000 in
set_option maxRecDepth 100000 in
theorem null_any (w : World) : Calls Try.prog 73 #[] w fun e w' => e = .returned (.agg nullR.cells.toArray) ∧ Below w.heap.size w w' := by
  have B0 := hide (Blk.new w 47 zeroR.cells)
  have HU := hide Try.underlying47
  have lz : zeroR.cells.length = 33 := rfl
  have ln : nullR.cells.length = 33 := rfl
  have hb : Below w.heap.size w (w.alloc (.cells zeroR.cells.toArray 47)) := (Below.refl _ w).alloc (Nat.le_refl _) _
  go_enter Try.func73, Try.ntmps73
  go_wp2_with (first
    | (refine wpList_alloc_agg rfl 47 rfl zeroR.cells zeroRef ?_; simp only [Act.put, List.setIfInBounds_toArray, List.set_cons_zero, List.set_cons_succ])
    | (refine wpList_store_blk rfl 47 _ _ rfl w.heap.size 0 47 zeroR.cells nullR.cells (by rfl) (by rfl) B0.out (by rw [lz, ln]; decide) (by rw [ln]; exact isRef) (RefD.one _) ?_; intro w9 o9 z9 b9; simp only [Act.put]))
  rw [lay_all zeroR.cells _ (by rw [lz, ln])] at b9
  refine bodyPost_ret (results_cell_blk rfl _ _ w.heap.size 47 _ _ (by rfl) b9 HU.out rfl (by rw [ln]; exact isRef)) rfl ⟨rfl, ?_⟩
  exact hb.trans (o9.below (by simp) (fun i hi e => by have h9 : i = w.heap.size := e; omega))
set_option maxHeartbeats 4000000 in
set_option maxRecDepth 100000 in
theorem TBase_any (w : World) (t : TxV) (hf : t.Fine w) (hs : t.Small) :
    Calls Try.prog 44 #[.agg t.cells.toArray] w fun e w' => e = .returned (.bool (baseT (t.ins.map InV.d))) ∧ Below w.heap.size w w' := by
  obtain ⟨version, iA, iN, iC, ins, oA, oN, oC, outs, until_⟩ := t
  obtain ⟨_, _, hins, _, _, _⟩ := hf
  have hn := hs.ins
  simp only at hins hn
  have B0 := Blk.new w 65 [.int .u32 version, .slice iA iN iC, .slice oA oN oC, .int .u32 until_]
  have hb0 := hide (show Below w.heap.size w (w.alloc (.cells #[.int .u32 version, .slice iA iN iC, .slice oA oN oC, .int .u32 until_] 65)) from below_alloc (Below.refl _ _) _)
  show Calls _ _ #[.agg #[.int .u32 version, .slice iA iN iC, .slice oA oN oC, .int .u32 until_]] _ _
  have HI := hide (hins.below' hb0.out)
  clear hins
  go_enter Try.func44, Try.ntmps44
  go_wp2_with fail
  obtain ⟨w1, hw1⟩ : ∃ w1, w1 = w.alloc (.cells #[.int .u32 version, .slice iA iN iC, .slice oA oN oC, .int .u32 until_] 65) := ⟨_, rfl⟩
  rw [← hw1] at B0 hb0 HI ⊢
  clear hw1
  have x1 := B0.c1
  by_cases h1 : iN = 1
  · subst h1
    obtain ⟨a, ha⟩ : ∃ a, ins[0]? = some a := ⟨_, List.getElem?_eq_getElem (by have := HI.out.1; omega)⟩
    have haf := hide (HI.out.2.1 a (List.mem_of_getElem? ha)).ref
    obtain ⟨b, off, rfl, hrow⟩ := HI.out.2.2 (by omega)
    have hra := hide (show w1.rangeAt b off a.ref.cells by have := InV.range_ref (hrow 0 a ha); simpa using this)
    have hone : ins = [a] := by
      have hl := HI.out.1
      rcases ins with _ | ⟨c, _ | ⟨d, l⟩⟩
      · simp at hl
      · simp at ha; rw [ha]
      · simp at hl
    have heq := fun w => eqlRef_run a.ref nullR haf.out nullR_fine w
    have hres := hide (show baseT ((ins).map InV.d) = decide (a.ref.id = nullR.id ∧ a.ref.at_ = nullR.at_) by rw [hone]; rfl)
    have hc1 : (((1 : Nat) : Int) == 1) = true := by decide
    clear hone ha hrow
    refine wp_region_held_drew (S := fun w' => Below w1.heap.size w1 w') (by kernel_rfl) (by exact (Below.refl _ _).drew) (fun hSA0 => ?_)
    obtain ⟨w1d, hwA⟩ : ∃ x, x = w1.drew := ⟨_, rfl⟩
    rw [← hwA] at hSA0 ⊢
    have hDA : Below w1.heap.size w1 w1d := by rw [hwA]; exact (Below.refl _ _).drew
    clear hwA
    (refine wpAnyH_take (i := 0) (oi := { dst := Option.some 3, op := Go.Op.fieldAddr 65 (Go.Operand.tmp 1) 1, type := 0, pos := "tx.go:86", after := #[], guard := Option.none }) (v := ?_) rfl (by kernel_rfl) (by kernel_rfl) (by kernel_rfl) (fun _ _ _ h => h) (Or.inl ⟨by rfl, fun w' hSw => ?_⟩) hSA0 ?_; rotate_left; focus (go_simp; try with_reducible rfl))
    simp only [Act.put, List.setIfInBounds_toArray, List.set_cons_zero, List.set_cons_succ]
    (refine wpAnyH_take (i := 1) (oi := { dst := Option.some 4, op := Go.Op.load 63 (Go.Operand.tmp 3), type := 63, pos := "tx.go:86", after := #[{ on := 0, ground := Go.Ground.data }], guard := Option.none }) (v := ?_) rfl (by kernel_rfl) (by kernel_rfl) (by kernel_rfl) (fun _ _ _ h => h) (Or.inl ⟨by rfl, fun w' hSw => ?_⟩) hSA0 ?_; rotate_left; focus (have l1 := cell_under hSw x1; go_simp; try with_reducible rfl))
    simp only [Act.put, List.setIfInBounds_toArray, List.set_cons_zero, List.set_cons_succ]
    (refine wpAnyH_take (i := 2) (oi := { dst := Option.some 5, op := Go.Op.call { callee := Go.Callee.builtin Go.Builtin.len, args := #[Go.Operand.tmp 4], argTypes := #[63] }, type := 3, pos := "tx.go:86", after := #[{ on := 1, ground := Go.Ground.data }], guard := Option.none }) (v := ?_) rfl (by kernel_rfl) (by kernel_rfl) (by kernel_rfl) (fun _ _ _ h => h) (Or.inl ⟨by rfl, fun w' hSw => ?_⟩) hSA0 ?_; rotate_left; focus (go_simp; try with_reducible rfl))
    simp only [Act.put, List.setIfInBounds_toArray, List.set_cons_zero, List.set_cons_succ]
    (refine wpAnyH_take (i := 3) (oi := { dst := Option.some 6, op := Go.Op.binOp Go.BinOp.eql 3 (Go.Operand.tmp 5) (Go.Operand.const (Go.Value.int Go.IntKind.i64 1)) 3, type := 4, pos := "tx.go:86", after := #[{ on := 2, ground := Go.Ground.data }], guard := Option.none }) (v := ?_) rfl (by kernel_rfl) (by kernel_rfl) (by kernel_rfl) (fun _ _ _ h => h) (Or.inl ⟨by rfl, fun w' hSw => ?_⟩) hSA0 ?_; rotate_left; focus (go_simp; try with_reducible rfl))
    simp only [Act.put, List.setIfInBounds_toArray, List.set_cons_zero, List.set_cons_succ]
    (refine wpAnyH_take (i := 4) (oi := { dst := Option.some 7, op := Go.Op.move (Go.Operand.tmp 6), type := 4, pos := "tx.go:86", after := #[{ on := 3, ground := Go.Ground.data }], guard := Option.none }) (v := ?_) rfl (by kernel_rfl) (by kernel_rfl) (by kernel_rfl) (fun _ _ _ h => h) (Or.inl ⟨by rfl, fun w' hSw => ?_⟩) hSA0 ?_; rotate_left; focus (go_simp; try with_reducible rfl))
    simp only [Act.put, List.setIfInBounds_toArray, List.set_cons_zero, List.set_cons_succ]
    (refine wpAnyH_take (i := 5) (oi := { dst := Option.some 8, op := Go.Op.fieldAddr 65 (Go.Operand.tmp 1) 1, type := 0, pos := "tx.go:86", after := #[{ on := 4, ground := Go.Ground.guard }], guard := Option.some (4, Bool.true) }) (v := ?_) rfl (by kernel_rfl) (by kernel_rfl) (by kernel_rfl) (fun _ _ _ h => h) (Or.inl ⟨by rfl, fun w' hSw => ?_⟩) hSA0 ?_; rotate_left; focus (go_simp; try with_reducible rfl))
    simp only [Act.put, List.setIfInBounds_toArray, List.set_cons_zero, List.set_cons_succ]
    (refine wpAnyH_take (i := 6) (oi := { dst := Option.some 9, op := Go.Op.load 63 (Go.Operand.tmp 8), type := 63, pos := "tx.go:86", after := #[{ on := 5, ground := Go.Ground.data }, { on := 4, ground := Go.Ground.guard }], guard := Option.some (4, Bool.true) }) (v := ?_) rfl (by kernel_rfl) (by kernel_rfl) (by kernel_rfl) (fun _ _ _ h => h) (Or.inl ⟨by rfl, fun w' hSw => ?_⟩) hSA0 ?_; rotate_left; focus (have l1 := cell_under hSw x1; go_simp; try with_reducible rfl))
    simp only [Act.put, List.setIfInBounds_toArray, List.set_cons_zero, List.set_cons_succ]
    (refine wpAnyH_take (i := 7) (oi := { dst := Option.some 10, op := Go.Op.indexAddr 63 (Go.Operand.tmp 9) (Go.Operand.const (Go.Value.int Go.IntKind.i64 0)), type := 0, pos := "tx.go:86", after := #[{ on := 6, ground := Go.Ground.data }, { on := 4, ground := Go.Ground.guard }], guard := Option.some (4, Bool.true) }) (v := ?_) rfl (by kernel_rfl) (by kernel_rfl) (by kernel_rfl) (fun _ _ _ h => h) (Or.inl ⟨by rfl, fun w' hSw => ?_⟩) hSA0 ?_; rotate_left; focus (go_simp; try with_reducible rfl))
    simp only [Act.put, List.setIfInBounds_toArray, List.set_cons_zero, List.set_cons_succ]
    (refine wpAnyH_take (i := 8) (oi := { dst := Option.some 11, op := Go.Op.fieldAddr 68 (Go.Operand.tmp 10) 0, type := 0, pos := "tx.go:86", after := #[{ on := 7, ground := Go.Ground.data }, { on := 4, ground := Go.Ground.guard }], guard := Option.some (4, Bool.true) }) (v := ?_) rfl (by kernel_rfl) (by kernel_rfl) (by kernel_rfl) (fun _ _ _ h => h) (Or.inl ⟨by rfl, fun w' hSw => ?_⟩) hSA0 ?_; rotate_left; focus (go_simp; try with_reducible rfl))
    simp only [Act.put, List.setIfInBounds_toArray, List.set_cons_zero, List.set_cons_succ]
    (refine wpAnyH_take (i := 9) (oi := { dst := Option.some 12, op := Go.Op.load 47 (Go.Operand.tmp 11), type := 47, pos := "tx.go:86", after := #[{ on := 8, ground := Go.Ground.data }, { on := 4, ground := Go.Ground.guard }], guard := Option.some (4, Bool.true) }) (v := ?_) rfl (by kernel_rfl) (by kernel_rfl) (by kernel_rfl) (fun _ _ _ h => h) (Or.inl ⟨by rfl, fun w' hSw => ?_⟩) hSA0 ?_; rotate_left; focus (have lr := loadRef_run w' b off a.ref (range_under hra.out hSw) haf.out; go_simp; try with_reducible rfl))
    simp only [Act.put, List.setIfInBounds_toArray, List.set_cons_zero, List.set_cons_succ]
    refine wpAnyH_ready (rs := [10]) (by kernel_rfl) (by simp) ?_
    refine AllReadyH.cons rfl (fun K hK => ?_) AllReadyH.nil
    go_simp
    go_wp2_with (go_at_call 73; refine (null_any w1d).mono ?_; rintro e w2 ⟨rfl, b2⟩)
    refine hK.out _ _ (Below.then_ hSA0 b2) (fun hSA1 => ?_)
    clear hK K
    (refine wpAnyH_take (i := 11) (oi := { dst := Option.some 14, op := Go.Op.binOp Go.BinOp.eql 47 (Go.Operand.tmp 12) (Go.Operand.tmp 13) 47, type := 4, pos := "tx.go:86", after := #[{ on := 9, ground := Go.Ground.data }, { on := 10, ground := Go.Ground.data }, { on := 4, ground := Go.Ground.guard }], guard := Option.some (4, Bool.true) }) (v := ?_) rfl (by kernel_rfl) (by kernel_rfl) (by kernel_rfl) (fun _ _ _ h => h) (Or.inl ⟨by rfl, fun w' hSw => ?_⟩) hSA1 ?_; rotate_left; focus (go_simp; try with_reducible rfl))
    simp only [Act.put, List.setIfInBounds_toArray, List.set_cons_zero, List.set_cons_succ]
    (refine wpAnyH_take (i := 12) (oi := { dst := Option.some 15, op := Go.Op.pick (Go.Operand.tmp 7) (Go.Operand.tmp 14) (Go.Operand.const (Go.Value.bool Bool.false)), type := 4, pos := "tx.go:86", after := #[{ on := 4, ground := Go.Ground.data }, { on := 11, ground := Go.Ground.data }], guard := Option.none }) (v := ?_) rfl (by kernel_rfl) (by kernel_rfl) (by kernel_rfl) (fun _ _ _ h => h) (Or.inl ⟨by rfl, fun w' hSw => ?_⟩) hSA1 ?_; rotate_left; focus (go_simp; try with_reducible rfl))
    simp only [Act.put, List.setIfInBounds_toArray, List.set_cons_zero, List.set_cons_succ]
    (refine wpAnyH_take (i := 13) (oi := { dst := Option.some 2, op := Go.Op.assign (Go.Operand.tmp 15), type := 4, pos := "tx.go:86", after := #[{ on := 12, ground := Go.Ground.data }, { on := 10, ground := Go.Ground.chain }, { on := 0, ground := Go.Ground.phase }, { on := 1, ground := Go.Ground.phase }, { on := 2, ground := Go.Ground.phase }, { on := 3, ground := Go.Ground.phase }, { on := 4, ground := Go.Ground.phase }, { on := 5, ground := Go.Ground.phase }, { on := 6, ground := Go.Ground.phase }, { on := 7, ground := Go.Ground.phase }, { on := 8, ground := Go.Ground.phase }, { on := 9, ground := Go.Ground.phase }, { on := 10, ground := Go.Ground.phase }, { on := 11, ground := Go.Ground.phase }, { on := 12, ground := Go.Ground.phase }], guard := Option.none }) (v := ?_) rfl (by kernel_rfl) (by kernel_rfl) (by kernel_rfl) (fun _ _ _ h => h) (Or.inl ⟨by rfl, fun w' hSw => ?_⟩) hSA1 ?_; rotate_left; focus (go_simp; try with_reducible rfl))
    simp only [Act.put, List.setIfInBounds_toArray, List.set_cons_zero, List.set_cons_succ]
    refine wpAnyH_done (by kernel_rfl) ?_ _
    go_wp2_with fail
    go_ret
    exact ⟨by rw [hres.out]; simp [Bool.decide_and], Below.then_ hb0.out hSA1⟩
  · have hc1 : ((iN : Int) == 1) = false := by simp; omega
    have hres := hide (baseT_not (ins.map InV.d) (by rw [List.length_map, HI.out.1]; exact h1))
    refine wp_region_held_drew (S := fun w' => Below w1.heap.size w1 w') (by kernel_rfl) (by exact (Below.refl _ _).drew) (fun hSB0 => ?_)
    obtain ⟨w1d, hwB⟩ : ∃ x, x = w1.drew := ⟨_, rfl⟩
    rw [← hwB] at hSB0 ⊢
    have hDB : Below w1.heap.size w1 w1d := by rw [hwB]; exact (Below.refl _ _).drew
    clear hwB
    (refine wpAnyH_take (i := 0) (oi := { dst := Option.some 3, op := Go.Op.fieldAddr 65 (Go.Operand.tmp 1) 1, type := 0, pos := "tx.go:86", after := #[], guard := Option.none }) (v := ?_) rfl (by kernel_rfl) (by kernel_rfl) (by kernel_rfl) (fun _ _ _ h => h) (Or.inl ⟨by rfl, fun w' hSw => ?_⟩) hSB0 ?_; rotate_left; focus (go_simp; try with_reducible rfl))
    simp only [Act.put, List.setIfInBounds_toArray, List.set_cons_zero, List.set_cons_succ]
    (refine wpAnyH_take (i := 1) (oi := { dst := Option.some 4, op := Go.Op.load 63 (Go.Operand.tmp 3), type := 63, pos := "tx.go:86", after := #[{ on := 0, ground := Go.Ground.data }], guard := Option.none }) (v := ?_) rfl (by kernel_rfl) (by kernel_rfl) (by kernel_rfl) (fun _ _ _ h => h) (Or.inl ⟨by rfl, fun w' hSw => ?_⟩) hSB0 ?_; rotate_left; focus (have l1 := cell_under hSw x1; go_simp; try with_reducible rfl))
    simp only [Act.put, List.setIfInBounds_toArray, List.set_cons_zero, List.set_cons_succ]
    (refine wpAnyH_take (i := 2) (oi := { dst := Option.some 5, op := Go.Op.call { callee := Go.Callee.builtin Go.Builtin.len, args := #[Go.Operand.tmp 4], argTypes := #[63] }, type := 3, pos := "tx.go:86", after := #[{ on := 1, ground := Go.Ground.data }], guard := Option.none }) (v := ?_) rfl (by kernel_rfl) (by kernel_rfl) (by kernel_rfl) (fun _ _ _ h => h) (Or.inl ⟨by rfl, fun w' hSw => ?_⟩) hSB0 ?_; rotate_left; focus (go_simp; try with_reducible rfl))
    simp only [Act.put, List.setIfInBounds_toArray, List.set_cons_zero, List.set_cons_succ]
    (refine wpAnyH_take (i := 3) (oi := { dst := Option.some 6, op := Go.Op.binOp Go.BinOp.eql 3 (Go.Operand.tmp 5) (Go.Operand.const (Go.Value.int Go.IntKind.i64 1)) 3, type := 4, pos := "tx.go:86", after := #[{ on := 2, ground := Go.Ground.data }], guard := Option.none }) (v := ?_) rfl (by kernel_rfl) (by kernel_rfl) (by kernel_rfl) (fun _ _ _ h => h) (Or.inl ⟨by rfl, fun w' hSw => ?_⟩) hSB0 ?_; rotate_left; focus (go_simp; try with_reducible rfl))
    simp only [Act.put, List.setIfInBounds_toArray, List.set_cons_zero, List.set_cons_succ]
    (refine wpAnyH_take (i := 4) (oi := { dst := Option.some 7, op := Go.Op.move (Go.Operand.tmp 6), type := 4, pos := "tx.go:86", after := #[{ on := 3, ground := Go.Ground.data }], guard := Option.none }) (v := ?_) rfl (by kernel_rfl) (by kernel_rfl) (by kernel_rfl) (fun _ _ _ h => h) (Or.inl ⟨by rfl, fun w' hSw => ?_⟩) hSB0 ?_; rotate_left; focus (go_simp; try with_reducible rfl))
    simp only [Act.put, List.setIfInBounds_toArray, List.set_cons_zero, List.set_cons_succ]
    refine wpAnyH_take (i := 5) (oi := { dst := Option.some 8, op := Go.Op.fieldAddr 65 (Go.Operand.tmp 1) 1, type := 0, pos := "tx.go:86", after := #[{ on := 4, ground := Go.Ground.guard }], guard := Option.some (4, Bool.true) }) (v := undef) rfl (by kernel_rfl) (by kernel_rfl) (by kernel_rfl) (fun _ _ _ h => h) (Or.inr ⟨by rfl, rfl⟩) hSB0 ?_
    simp only [Act.put, List.setIfInBounds_toArray, List.set_cons_zero, List.set_cons_succ]
    refine wpAnyH_take (i := 6) (oi := { dst := Option.some 9, op := Go.Op.load 63 (Go.Operand.tmp 8), type := 63, pos := "tx.go:86", after := #[{ on := 5, ground := Go.Ground.data }, { on := 4, ground := Go.Ground.guard }], guard := Option.some (4, Bool.true) }) (v := undef) rfl (by kernel_rfl) (by kernel_rfl) (by kernel_rfl) (fun _ _ _ h => h) (Or.inr ⟨by rfl, rfl⟩) hSB0 ?_
    simp only [Act.put, List.setIfInBounds_toArray, List.set_cons_zero, List.set_cons_succ]
    refine wpAnyH_take (i := 7) (oi := { dst := Option.some 10, op := Go.Op.indexAddr 63 (Go.Operand.tmp 9) (Go.Operand.const (Go.Value.int Go.IntKind.i64 0)), type := 0, pos := "tx.go:86", after := #[{ on := 6, ground := Go.Ground.data }, { on := 4, ground := Go.Ground.guard }], guard := Option.some (4, Bool.true) }) (v := undef) rfl (by kernel_rfl) (by kernel_rfl) (by kernel_rfl) (fun _ _ _ h => h) (Or.inr ⟨by rfl, rfl⟩) hSB0 ?_
    simp only [Act.put, List.setIfInBounds_toArray, List.set_cons_zero, List.set_cons_succ]
    refine wpAnyH_take (i := 8) (oi := { dst := Option.some 11, op := Go.Op.fieldAddr 68 (Go.Operand.tmp 10) 0, type := 0, pos := "tx.go:86", after := #[{ on := 7, ground := Go.Ground.data }, { on := 4, ground := Go.Ground.guard }], guard := Option.some (4, Bool.true) }) (v := undef) rfl (by kernel_rfl) (by kernel_rfl) (by kernel_rfl) (fun _ _ _ h => h) (Or.inr ⟨by rfl, rfl⟩) hSB0 ?_
    simp only [Act.put, List.setIfInBounds_toArray, List.set_cons_zero, List.set_cons_succ]
    refine wpAnyH_take (i := 9) (oi := { dst := Option.some 12, op := Go.Op.load 47 (Go.Operand.tmp 11), type := 47, pos := "tx.go:86", after := #[{ on := 8, ground := Go.Ground.data }, { on := 4, ground := Go.Ground.guard }], guard := Option.some (4, Bool.true) }) (v := undef) rfl (by kernel_rfl) (by kernel_rfl) (by kernel_rfl) (fun _ _ _ h => h) (Or.inr ⟨by rfl, rfl⟩) hSB0 ?_
    simp only [Act.put, List.setIfInBounds_toArray, List.set_cons_zero, List.set_cons_succ]
    refine wpAnyH_take (i := 10) (oi := { dst := Option.some 13, op := Go.Op.call { callee := Go.Callee.value (Go.Operand.func 73), args := #[], argTypes := #[] }, type := 47, pos := "tx.go:86", after := #[{ on := 4, ground := Go.Ground.chain }, { on := 4, ground := Go.Ground.guard }], guard := Option.some (4, Bool.true) }) (v := undef) rfl (by kernel_rfl) (by kernel_rfl) (by kernel_rfl) (fun _ _ _ h => h) (Or.inr ⟨by rfl, rfl⟩) hSB0 ?_
    simp only [Act.put, List.setIfInBounds_toArray, List.set_cons_zero, List.set_cons_succ]
    refine wpAnyH_take (i := 11) (oi := { dst := Option.some 14, op := Go.Op.binOp Go.BinOp.eql 47 (Go.Operand.tmp 12) (Go.Operand.tmp 13) 47, type := 4, pos := "tx.go:86", after := #[{ on := 9, ground := Go.Ground.data }, { on := 10, ground := Go.Ground.data }, { on := 4, ground := Go.Ground.guard }], guard := Option.some (4, Bool.true) }) (v := undef) rfl (by kernel_rfl) (by kernel_rfl) (by kernel_rfl) (fun _ _ _ h => h) (Or.inr ⟨by rfl, rfl⟩) hSB0 ?_
    simp only [Act.put, List.setIfInBounds_toArray, List.set_cons_zero, List.set_cons_succ]
    (refine wpAnyH_take (i := 12) (oi := { dst := Option.some 15, op := Go.Op.pick (Go.Operand.tmp 7) (Go.Operand.tmp 14) (Go.Operand.const (Go.Value.bool Bool.false)), type := 4, pos := "tx.go:86", after := #[{ on := 4, ground := Go.Ground.data }, { on := 11, ground := Go.Ground.data }], guard := Option.none }) (v := ?_) rfl (by kernel_rfl) (by kernel_rfl) (by kernel_rfl) (fun _ _ _ h => h) (Or.inl ⟨by rfl, fun w' hSw => ?_⟩) hSB0 ?_; rotate_left; focus (go_simp; try with_reducible rfl))
    simp only [Act.put, List.setIfInBounds_toArray, List.set_cons_zero, List.set_cons_succ]
    (refine wpAnyH_take (i := 13) (oi := { dst := Option.some 2, op := Go.Op.assign (Go.Operand.tmp 15), type := 4, pos := "tx.go:86", after := #[{ on := 12, ground := Go.Ground.data }, { on := 10, ground := Go.Ground.chain }, { on := 0, ground := Go.Ground.phase }, { on := 1, ground := Go.Ground.phase }, { on := 2, ground := Go.Ground.phase }, { on := 3, ground := Go.Ground.phase }, { on := 4, ground := Go.Ground.phase }, { on := 5, ground := Go.Ground.phase }, { on := 6, ground := Go.Ground.phase }, { on := 7, ground := Go.Ground.phase }, { on := 8, ground := Go.Ground.phase }, { on := 9, ground := Go.Ground.phase }, { on := 10, ground := Go.Ground.phase }, { on := 11, ground := Go.Ground.phase }, { on := 12, ground := Go.Ground.phase }], guard := Option.none }) (v := ?_) rfl (by kernel_rfl) (by kernel_rfl) (by kernel_rfl) (fun _ _ _ h => h) (Or.inl ⟨by rfl, fun w' hSw => ?_⟩) hSB0 ?_; rotate_left; focus (go_simp; try with_reducible rfl))
    simp only [Act.put, List.setIfInBounds_toArray, List.set_cons_zero, List.set_cons_succ]
    refine wpAnyH_done (by kernel_rfl) ?_ _
    go_wp2_with fail
    go_ret
    exact ⟨by rw [hres.out]; rfl, Below.then_ hb0.out hSB0⟩
end Go.Proofs.Ytfloclamdpageaa
