import Derived.Test.YtbpmcnfmgaolnaaPk18
import Derived.Test.YtbpmcnfmgaolnaaPk11
import Derived.Test.YtbpmcnfmgaolnaaPk5
/-
  The document: the number of four bytes; the head of eighty bytes.
-/
namespace Go.Proofs.Ytbpmcnfmgaolnaa
open Go.RowKit

theorem num4 (a b c d : Int) (ha : 0 ≤ a) (hb : 0 ≤ b) (hc : 0 ≤ c) (hd : 0 ≤ d) : ((num [a, b, c, d] : Nat) : Int) = a + 256 * b + 65536 * c + 16777216 * d := by
  simp only [num]; omega
theorem take4 (bs : List Int) (h : 4 ≤ bs.length) : ∃ a b c d, bs.take 4 = [a, b, c, d] ∧ bs[0]? = some a ∧ bs[1]? = some b ∧ bs[2]? = some c ∧ bs[3]? = some d := by
  match bs, h with
  | a :: b :: c :: d :: l, _ => exact ⟨a, b, c, d, rfl, rfl, rfl, rfl, rfl⟩
set_option maxHeartbeats 4000000 in
set_option maxRecDepth 100000 in
theorem refnum4_any (w : World) (A : Option Addr) (n c : Nat) (bs : List Int) (hB : Bys w A n bs) (hn : 4 ≤ n) :
    Calls Try.prog 128 #[.slice A n c] w fun e w' => e = .returned (.int .u32 (num (bs.take 4) : Nat)) ∧ Below w.heap.size w w' := by
  have hl := hB.1
  obtain ⟨x0, x1, x2, x3, ht, e0, e1, e2, e3⟩ := take4 bs (by omega)
  obtain ⟨b, off, rfl, hc⟩ := hB.2.2 (by omega)
  have hb0 := hB.2.1 x0 (List.mem_of_getElem? e0)
  have hb1 := hB.2.1 x1 (List.mem_of_getElem? e1)
  have hb2 := hB.2.1 x2 (List.mem_of_getElem? e2)
  have hb3 := hB.2.1 x3 (List.mem_of_getElem? e3)
  have C0 := hide (by have := hc 0 x0 e0; simpa using this : w.cell? ⟨b, off, none⟩ = some (.int .u8 x0))
  have C1 := hide (hc 1 x1 e1)
  have C2 := hide (hc 2 x2 e2)
  have C3 := hide (hc 3 x3 e3)
  have HT := hide ht
  obtain ⟨y1, hy1⟩ : ∃ y, y = 256 * x1 := ⟨_, rfl⟩
  obtain ⟨y2, hy2⟩ : ∃ y, y = 65536 * x2 := ⟨_, rfl⟩
  obtain ⟨y3, hy3⟩ : ∃ y, y = 16777216 * x3 := ⟨_, rfl⟩
  obtain ⟨z1, hz1⟩ : ∃ y, y = x0 + y1 := ⟨_, rfl⟩
  obtain ⟨z2, hz2⟩ : ∃ y, y = z1 + y2 := ⟨_, rfl⟩
  obtain ⟨z3, hz3⟩ : ∃ y, y = z2 + y3 := ⟨_, rfl⟩
  have HR := hide (show z3 = ((num (bs.take 4) : Nat) : Int) by rw [ht, num4 _ _ _ _ hb0.1 hb1.1 hb2.1 hb3.1, hz3, hz2, hz1, hy1, hy2, hy3])
  have v0 : IntKind.u32.wrap x0 = x0 := by rw [IntKind.wrap_u32]; omega
  have v1 : IntKind.u32.wrap x1 = x1 := by rw [IntKind.wrap_u32]; omega
  have v2 : IntKind.u32.wrap x2 = x2 := by rw [IntKind.wrap_u32]; omega
  have v3 : IntKind.u32.wrap x3 = x3 := by rw [IntKind.wrap_u32]; omega
  have m1 : IntKind.u32.wrap (256 * x1) = y1 := by rw [IntKind.wrap_u32]; omega
  have m2 : IntKind.u32.wrap (65536 * x2) = y2 := by rw [IntKind.wrap_u32]; omega
  have m3 : IntKind.u32.wrap (16777216 * x3) = y3 := by rw [IntKind.wrap_u32]; omega
  have s1 : IntKind.u32.wrap (x0 + y1) = z1 := by rw [IntKind.wrap_u32]; omega
  have s2 : IntKind.u32.wrap (z1 + y2) = z2 := by rw [IntKind.wrap_u32]; omega
  have s3 : IntKind.u32.wrap (z2 + y3) = z3 := by rw [IntKind.wrap_u32]; omega
  have i0 : (0 : Int) < (n : Int) := by omega
  have i1 : (1 : Int) < (n : Int) := by omega
  have i2 : (2 : Int) < (n : Int) := by omega
  have i3 : (3 : Int) < (n : Int) := by omega
  have j0 : 0 < n := by omega
  have j1 : 1 < n := by omega
  have j2 : 2 < n := by omega
  have j3 : 3 < n := by omega
  have HW := hide (Below.refl w.heap.size w)
  clear hl ht e0 e1 e2 e3 hc hb0 hb1 hb2 hb3 hy1 hy2 hy3 hz1 hz2 hz3 hB hn
  go_enter Try.func128, Try.ntmps128
  go_wp2_with fail
  refine wp_region_held_drew (S := fun w' => Below w.heap.size w w') (by kernel_rfl) (by exact (Below.refl _ _).drew) (fun hSA0 => ?_)
  obtain ⟨wd, hwA⟩ : ∃ x, x = w.drew := ⟨_, rfl⟩
  rw [← hwA] at hSA0 ⊢
  clear hwA
  (refine wpAnyH_take (i := 0) (oi := ⟨some 3, .move (.tmp 0), 56, "ref.go:26", #[], none⟩) (v := ?_) rfl (by kernel_rfl) (by kernel_rfl) (by kernel_rfl) (fun _ _ _ h => h) (Or.inl ⟨by rfl, fun w' hSw => ?_⟩) hSA0 ?_; rotate_left; focus (go_simp; try with_reducible rfl))
  simp only [Act.put, List.setIfInBounds_toArray, List.set_cons_zero, List.set_cons_succ]
  (refine wpAnyH_take (i := 1) (oi := ⟨some 4, .indexAddr 56 (.tmp 3) (.const (.int .i64 0)), 0, "ref.go:26", #[⟨0, .data⟩], none⟩) (v := ?_) rfl (by kernel_rfl) (by kernel_rfl) (by kernel_rfl) (fun _ _ _ h => h) (Or.inl ⟨by rfl, fun w' hSw => ?_⟩) hSA0 ?_; rotate_left; focus (go_simp; try with_reducible rfl))
  simp only [Act.put, List.setIfInBounds_toArray, List.set_cons_zero, List.set_cons_succ]
  (refine wpAnyH_take (i := 2) (oi := ⟨some 5, .load 5 (.tmp 4), 5, "ref.go:26", #[⟨1, .data⟩], none⟩) (v := ?_) rfl (by kernel_rfl) (by kernel_rfl) (by kernel_rfl) (fun _ _ _ h => h) (Or.inl ⟨by rfl, fun w' hSw => ?_⟩) hSA0 ?_; rotate_left; focus (have c := cell_under hSw C0.out; go_simp; try with_reducible rfl))
  simp only [Act.put, List.setIfInBounds_toArray, List.set_cons_zero, List.set_cons_succ]
  (refine wpAnyH_take (i := 3) (oi := ⟨some 6, .convert 5 27 (.tmp 5), 27, "ref.go:26", #[⟨2, .data⟩], none⟩) (v := ?_) rfl (by kernel_rfl) (by kernel_rfl) (by kernel_rfl) (fun _ _ _ h => h) (Or.inl ⟨by rfl, fun w' hSw => ?_⟩) hSA0 ?_; rotate_left; focus (go_simp; try with_reducible rfl))
  simp only [Act.put, List.setIfInBounds_toArray, List.set_cons_zero, List.set_cons_succ]
  (refine wpAnyH_take (i := 4) (oi := ⟨some 7, .move (.tmp 0), 56, "ref.go:26", #[], none⟩) (v := ?_) rfl (by kernel_rfl) (by kernel_rfl) (by kernel_rfl) (fun _ _ _ h => h) (Or.inl ⟨by rfl, fun w' hSw => ?_⟩) hSA0 ?_; rotate_left; focus (go_simp; try with_reducible rfl))
  simp only [Act.put, List.setIfInBounds_toArray, List.set_cons_zero, List.set_cons_succ]
  (refine wpAnyH_take (i := 5) (oi := ⟨some 8, .indexAddr 56 (.tmp 7) (.const (.int .i64 1)), 0, "ref.go:26", #[⟨4, .data⟩], none⟩) (v := ?_) rfl (by kernel_rfl) (by kernel_rfl) (by kernel_rfl) (fun _ _ _ h => h) (Or.inl ⟨by rfl, fun w' hSw => ?_⟩) hSA0 ?_; rotate_left; focus (go_simp; try with_reducible rfl))
  simp only [Act.put, List.setIfInBounds_toArray, List.set_cons_zero, List.set_cons_succ]
  (refine wpAnyH_take (i := 6) (oi := ⟨some 9, .load 5 (.tmp 8), 5, "ref.go:26", #[⟨5, .data⟩], none⟩) (v := ?_) rfl (by kernel_rfl) (by kernel_rfl) (by kernel_rfl) (fun _ _ _ h => h) (Or.inl ⟨by rfl, fun w' hSw => ?_⟩) hSA0 ?_; rotate_left; focus (have c := cell_under hSw C1.out; go_simp; try with_reducible rfl))
  simp only [Act.put, List.setIfInBounds_toArray, List.set_cons_zero, List.set_cons_succ]
  (refine wpAnyH_take (i := 7) (oi := ⟨some 10, .convert 5 27 (.tmp 9), 27, "ref.go:26", #[⟨6, .data⟩], none⟩) (v := ?_) rfl (by kernel_rfl) (by kernel_rfl) (by kernel_rfl) (fun _ _ _ h => h) (Or.inl ⟨by rfl, fun w' hSw => ?_⟩) hSA0 ?_; rotate_left; focus (go_simp; try with_reducible rfl))
  simp only [Act.put, List.setIfInBounds_toArray, List.set_cons_zero, List.set_cons_succ]
  (refine wpAnyH_take (i := 8) (oi := ⟨some 11, .binOp .mul 27 (.const (.int .u32 256)) (.tmp 10) 27, 27, "ref.go:26", #[⟨7, .data⟩], none⟩) (v := ?_) rfl (by kernel_rfl) (by kernel_rfl) (by kernel_rfl) (fun _ _ _ h => h) (Or.inl ⟨by rfl, fun w' hSw => ?_⟩) hSA0 ?_; rotate_left; focus (go_simp; try with_reducible rfl))
  simp only [Act.put, List.setIfInBounds_toArray, List.set_cons_zero, List.set_cons_succ]
  (refine wpAnyH_take (i := 9) (oi := ⟨some 12, .binOp .add 27 (.tmp 6) (.tmp 11) 27, 27, "ref.go:26", #[⟨3, .data⟩, ⟨8, .data⟩], none⟩) (v := ?_) rfl (by kernel_rfl) (by kernel_rfl) (by kernel_rfl) (fun _ _ _ h => h) (Or.inl ⟨by rfl, fun w' hSw => ?_⟩) hSA0 ?_; rotate_left; focus (go_simp; try with_reducible rfl))
  simp only [Act.put, List.setIfInBounds_toArray, List.set_cons_zero, List.set_cons_succ]
  (refine wpAnyH_take (i := 10) (oi := ⟨some 13, .move (.tmp 0), 56, "ref.go:26", #[], none⟩) (v := ?_) rfl (by kernel_rfl) (by kernel_rfl) (by kernel_rfl) (fun _ _ _ h => h) (Or.inl ⟨by rfl, fun w' hSw => ?_⟩) hSA0 ?_; rotate_left; focus (go_simp; try with_reducible rfl))
  simp only [Act.put, List.setIfInBounds_toArray, List.set_cons_zero, List.set_cons_succ]
  (refine wpAnyH_take (i := 11) (oi := ⟨some 14, .indexAddr 56 (.tmp 13) (.const (.int .i64 2)), 0, "ref.go:26", #[⟨10, .data⟩], none⟩) (v := ?_) rfl (by kernel_rfl) (by kernel_rfl) (by kernel_rfl) (fun _ _ _ h => h) (Or.inl ⟨by rfl, fun w' hSw => ?_⟩) hSA0 ?_; rotate_left; focus (go_simp; try with_reducible rfl))
  simp only [Act.put, List.setIfInBounds_toArray, List.set_cons_zero, List.set_cons_succ]
  (refine wpAnyH_take (i := 12) (oi := ⟨some 15, .load 5 (.tmp 14), 5, "ref.go:26", #[⟨11, .data⟩], none⟩) (v := ?_) rfl (by kernel_rfl) (by kernel_rfl) (by kernel_rfl) (fun _ _ _ h => h) (Or.inl ⟨by rfl, fun w' hSw => ?_⟩) hSA0 ?_; rotate_left; focus (have c := cell_under hSw C2.out; go_simp; try with_reducible rfl))
  simp only [Act.put, List.setIfInBounds_toArray, List.set_cons_zero, List.set_cons_succ]
  (refine wpAnyH_take (i := 13) (oi := ⟨some 16, .convert 5 27 (.tmp 15), 27, "ref.go:26", #[⟨12, .data⟩], none⟩) (v := ?_) rfl (by kernel_rfl) (by kernel_rfl) (by kernel_rfl) (fun _ _ _ h => h) (Or.inl ⟨by rfl, fun w' hSw => ?_⟩) hSA0 ?_; rotate_left; focus (go_simp; try with_reducible rfl))
  simp only [Act.put, List.setIfInBounds_toArray, List.set_cons_zero, List.set_cons_succ]
  (refine wpAnyH_take (i := 14) (oi := ⟨some 17, .binOp .mul 27 (.const (.int .u32 65536)) (.tmp 16) 27, 27, "ref.go:26", #[⟨13, .data⟩], none⟩) (v := ?_) rfl (by kernel_rfl) (by kernel_rfl) (by kernel_rfl) (fun _ _ _ h => h) (Or.inl ⟨by rfl, fun w' hSw => ?_⟩) hSA0 ?_; rotate_left; focus (go_simp; try with_reducible rfl))
  simp only [Act.put, List.setIfInBounds_toArray, List.set_cons_zero, List.set_cons_succ]
  (refine wpAnyH_take (i := 15) (oi := ⟨some 18, .binOp .add 27 (.tmp 12) (.tmp 17) 27, 27, "ref.go:26", #[⟨9, .data⟩, ⟨14, .data⟩], none⟩) (v := ?_) rfl (by kernel_rfl) (by kernel_rfl) (by kernel_rfl) (fun _ _ _ h => h) (Or.inl ⟨by rfl, fun w' hSw => ?_⟩) hSA0 ?_; rotate_left; focus (go_simp; try with_reducible rfl))
  simp only [Act.put, List.setIfInBounds_toArray, List.set_cons_zero, List.set_cons_succ]
  (refine wpAnyH_take (i := 16) (oi := ⟨some 19, .move (.tmp 0), 56, "ref.go:26", #[], none⟩) (v := ?_) rfl (by kernel_rfl) (by kernel_rfl) (by kernel_rfl) (fun _ _ _ h => h) (Or.inl ⟨by rfl, fun w' hSw => ?_⟩) hSA0 ?_; rotate_left; focus (go_simp; try with_reducible rfl))
  simp only [Act.put, List.setIfInBounds_toArray, List.set_cons_zero, List.set_cons_succ]
  (refine wpAnyH_take (i := 17) (oi := ⟨some 20, .indexAddr 56 (.tmp 19) (.const (.int .i64 3)), 0, "ref.go:26", #[⟨16, .data⟩], none⟩) (v := ?_) rfl (by kernel_rfl) (by kernel_rfl) (by kernel_rfl) (fun _ _ _ h => h) (Or.inl ⟨by rfl, fun w' hSw => ?_⟩) hSA0 ?_; rotate_left; focus (go_simp; try with_reducible rfl))
  simp only [Act.put, List.setIfInBounds_toArray, List.set_cons_zero, List.set_cons_succ]
  (refine wpAnyH_take (i := 18) (oi := ⟨some 21, .load 5 (.tmp 20), 5, "ref.go:26", #[⟨17, .data⟩], none⟩) (v := ?_) rfl (by kernel_rfl) (by kernel_rfl) (by kernel_rfl) (fun _ _ _ h => h) (Or.inl ⟨by rfl, fun w' hSw => ?_⟩) hSA0 ?_; rotate_left; focus (have c := cell_under hSw C3.out; go_simp; try with_reducible rfl))
  simp only [Act.put, List.setIfInBounds_toArray, List.set_cons_zero, List.set_cons_succ]
  (refine wpAnyH_take (i := 19) (oi := ⟨some 22, .convert 5 27 (.tmp 21), 27, "ref.go:26", #[⟨18, .data⟩], none⟩) (v := ?_) rfl (by kernel_rfl) (by kernel_rfl) (by kernel_rfl) (fun _ _ _ h => h) (Or.inl ⟨by rfl, fun w' hSw => ?_⟩) hSA0 ?_; rotate_left; focus (go_simp; try with_reducible rfl))
  simp only [Act.put, List.setIfInBounds_toArray, List.set_cons_zero, List.set_cons_succ]
  (refine wpAnyH_take (i := 20) (oi := ⟨some 23, .binOp .mul 27 (.const (.int .u32 16777216)) (.tmp 22) 27, 27, "ref.go:26", #[⟨19, .data⟩], none⟩) (v := ?_) rfl (by kernel_rfl) (by kernel_rfl) (by kernel_rfl) (fun _ _ _ h => h) (Or.inl ⟨by rfl, fun w' hSw => ?_⟩) hSA0 ?_; rotate_left; focus (go_simp; try with_reducible rfl))
  simp only [Act.put, List.setIfInBounds_toArray, List.set_cons_zero, List.set_cons_succ]
  (refine wpAnyH_take (i := 21) (oi := ⟨some 24, .binOp .add 27 (.tmp 18) (.tmp 23) 27, 27, "ref.go:26", #[⟨15, .data⟩, ⟨20, .data⟩], none⟩) (v := ?_) rfl (by kernel_rfl) (by kernel_rfl) (by kernel_rfl) (fun _ _ _ h => h) (Or.inl ⟨by rfl, fun w' hSw => ?_⟩) hSA0 ?_; rotate_left; focus (go_simp; try with_reducible rfl))
  simp only [Act.put, List.setIfInBounds_toArray, List.set_cons_zero, List.set_cons_succ]
  (refine wpAnyH_take (i := 22) (oi := ⟨some 2, .assign (.tmp 24), 27, "ref.go:26", #[⟨21, .data⟩, ⟨0, .phase⟩, ⟨1, .phase⟩, ⟨2, .phase⟩, ⟨3, .phase⟩, ⟨4, .phase⟩, ⟨5, .phase⟩, ⟨6, .phase⟩, ⟨7, .phase⟩, ⟨8, .phase⟩, ⟨9, .phase⟩, ⟨10, .phase⟩, ⟨11, .phase⟩, ⟨12, .phase⟩, ⟨13, .phase⟩, ⟨14, .phase⟩, ⟨15, .phase⟩, ⟨16, .phase⟩, ⟨17, .phase⟩, ⟨18, .phase⟩, ⟨19, .phase⟩, ⟨20, .phase⟩, ⟨21, .phase⟩], none⟩) (v := ?_) rfl (by kernel_rfl) (by kernel_rfl) (by kernel_rfl) (fun _ _ _ h => h) (Or.inl ⟨by rfl, fun w' hSw => ?_⟩) hSA0 ?_; rotate_left; focus (go_simp; try with_reducible rfl))
  simp only [Act.put, List.setIfInBounds_toArray, List.set_cons_zero, List.set_cons_succ]
  refine wpAnyH_done (by kernel_rfl) ?_ _
  go_wp2_with fail
  go_ret
  refine ⟨?_, hSA0⟩
  show Ending.returned (Array.getD _ 2 undef) = _
  simp
  exact HR.out
end Go.Proofs.Ytbpmcnfmgaolnaa
/-
  The document: the head of eighty bytes.
-/
namespace Go.Proofs.Ytbpmcnfmgaolnaa
open Go.RowKit

theorem step_alloc_agg {P : Program} {ops : Array Oper} {o : Oper} {a : Act} {w : World} {K : Act → World → Prop} {Q : Exit → Act → World → Prop} {E : Prop} (hgd : o.guard = none) (t : TypeId) (ho : o.op = .alloc t) (z : List Value)
    (hz : (P.info? t).map (·.zero) = some (some (.agg z.toArray))) (h : K (a.put o.dst (.pointer (some ⟨w.heap.size, 0, none⟩))) (w.alloc (.cells z.toArray t))) :
    if Region.wanted o (yielded ops a.tmps) = true then Oper.wp P o a w K Q else E := by
  have hw : Region.wanted o (yielded ops a.tmps) = true := by simp [Region.wanted, hgd]
  rw [if_pos hw]
  exact wp_alloc_agg t ho z hz h
theorem step_store_blk {P : Program} {ops : Array Oper} {op : Oper} {a : Act} {w : World} {K : Act → World → Prop} {Q : Exit → Act → World → Prop} {E : Prop} (hgd : op.guard = none) (ty : TypeId) (x y : Operand) (ho : op.op = .store ty x y)
    (g o : Nat) (t : TypeId) (cs vs : List Value) (hx : a.eval x = .pointer (some ⟨g, o, none⟩)) (hy : a.eval y = .agg vs.toArray) (hb : Blk w g t cs) (hl : o + vs.length ≤ cs.length)
    (hi : (P.info? ty).map (·.size) = some vs.length) (h1 : ∀ v ∈ vs, v.oneCell' = true)
    (h : ∀ w', Only (fun i => i = g) w w' → w'.heap.size = w.heap.size → Blk w' g t (lay cs o vs) → K (a.put op.dst undef) w') :
    if Region.wanted op (yielded ops a.tmps) = true then Oper.wp P op a w K Q else E := by
  have hw : Region.wanted op (yielded ops a.tmps) = true := by simp [Region.wanted, hgd]
  rw [if_pos hw]
  refine wp_store_mid ty x y ho g o vs.toArray hx hy (by simpa using hb.there o vs.length hl) (by simpa using hi) (all_oneCell_toArray h1) ?_
  exact h _ (Only.setCells (F := fun i => i = g) (.inr rfl) _ _ _ (Only.refl _ w)) (by rw [setCells_size]) (by simpa using hb.cells vs o w cs)
theorem step_store_head {ops : Array Oper} {op : Oper} {a : Act} {w : World} {K : Act → World → Prop} {Q : Exit → Act → World → Prop} {E : Prop} (hgd : op.guard = none) (x y : Operand) (ho : op.op = .store 33 x y)
    (g : Nat) (c d : HeadD) (hc : c.Fine) (hd : d.Fine) (hx : a.eval x = .pointer (some ⟨g, 0, none⟩)) (hy : a.eval y = .agg d.cells.toArray) (hb : Blk w g 33 c.cells)
    (h : ∀ w', Only (fun i => i = g) w w' → w'.heap.size = w.heap.size → Blk w' g 33 d.cells → K (a.put op.dst undef) w') :
    if Region.wanted op (yielded ops a.tmps) = true then Oper.wp Try.prog op a w K Q else E := by
  refine step_store_blk hgd 33 x y ho g 0 33 c.cells d.cells hx hy hb (by rw [HeadD.cells_len hc, HeadD.cells_len hd]; exact Nat.le_refl _) (by rw [HeadD.cells_len hd]; exact isHead) (HeadD.one d) ?_
  intro w' o z b
  rw [lay_all _ _ (by rw [HeadD.cells_len hc, HeadD.cells_len hd])] at b
  exact h w' o z b
theorem slice_lit (A : Option Addr) (m c U : Nat) (hU : U ≤ m) (hc : m ≤ c) (k : Int) (hk : k = (U : Int)) : ∃ A' : Option Addr, (∀ w : World, (Instr.slice 56 (.slice A m c) (some (.int .i64 k)) none none).run Try.prog w = .ok (.slice A' (m - U) (c - U)) w) ∧
    (∀ w : World, (Instr.sliceAt 56 (.slice A m c) (some (.int .i64 k)) none none).run Try.prog w = .ok (.slice A' (m - U) (c - U)) w) ∧ ∀ (w : World) (bs : List Int), Bys w A m bs → Bys w A' (m - U) (bs.drop U) := by
  subst hk
  obtain ⟨A', h1, h2, h3, _⟩ := slice_from A m c U hU hc
  exact ⟨A', h1, h2, h3⟩
/-- A head whose names are laid down as far as j. -/
def headMid (a b c d : Int) (X Y : List Int) (j : Nat) : HeadD := ⟨a, X.take j ++ List.replicate (32 - j) 0, Y.take j ++ List.replicate (32 - j) 0, b, c, d⟩
def headOf (bs : List Int) : HeadD := ⟨(num (bs.take 4) : Nat), (bs.drop 4).take 32, (bs.drop 36).take 32, (num ((bs.drop 68).take 4) : Nat), (num ((bs.drop 72).take 4) : Nat), (num ((bs.drop 76).take 4) : Nat)⟩
theorem mkHead_4 (a b c d : Int) (w : World) : (mkHead #[(0, .int .u32 a), (3, .int .u32 b), (4, .int .u32 c), (5, .int .u32 d)]).run Try.prog w = .ok (.agg (headMid a b c d [] [] 0).cells.toArray) w := by kernel_rfl
theorem headMid_zero (a b c d : Int) (X Y : List Int) : headMid a b c d X Y 0 = headMid a b c d [] [] 0 := by simp [headMid]
theorem headMid_full (a b c d : Int) (X Y : List Int) : headMid a b c d X Y 32 = ⟨a, X.take 32, Y.take 32, b, c, d⟩ := by simp [headMid]
theorem headMid_fine {a b c d : Int} {X Y : List Int} (ha : 0 ≤ a ∧ a ≤ 4294967295) (hb : 0 ≤ b ∧ b ≤ 4294967295) (hc : 0 ≤ c ∧ c ≤ 4294967295) (hd : 0 ≤ d ∧ d ≤ 4294967295) (hX : Byt X) (hY : Byt Y) (j : Nat) (hj : j ≤ 32) (lX : j ≤ X.length) (lY : j ≤ Y.length) : (headMid a b c d X Y j).Fine := by
  have g : ∀ Z : List Int, Byt Z → Byt (Z.take j ++ List.replicate (32 - j) 0) := fun Z hZ x hx => by
    rcases List.mem_append.1 hx with h | h
    · exact hZ x (List.mem_of_mem_take h)
    · have := List.eq_of_mem_replicate h; omega
  exact ⟨ha, by simp [headMid]; omega, g X hX, by simp [headMid]; omega, g Y hY, hb, hc, hd⟩
theorem mid_set (Z : List Int) (j : Nat) (x : Int) (hx : Z[j]? = some x) (hj : j < 32) : (Z.take j ++ List.replicate (32 - j) 0).set j x = Z.take (j + 1) ++ List.replicate (32 - (j + 1)) 0 := by
  have hl : j < Z.length := (List.getElem?_eq_some_iff.1 hx).1
  have ht : (Z.take j).length = j := by simp; omega
  rw [List.set_append_right _ _ (by omega), ht, Nat.sub_self, show 32 - j = (32 - (j + 1)) + 1 by omega, List.replicate_succ, List.set_cons_zero, List.take_add_one, hx]
  simp
theorem prev_set {h : HeadD} (hpl : h.prev.length = 32) (j : Nat) (hj : j < 32) (x : Int) : h.cells.set (1 + j) (.int .u8 x) = HeadD.cells { h with prev := h.prev.set j x } := by
  have hp := bcs_length h.prev
  rw [hpl] at hp
  simp only [HeadD.cells]
  rw [show 1 + j = j + 1 by omega, List.set_cons_succ, List.set_append_left _ _ (by omega)]
  simp [bcs, List.map_set]
theorem root_set {h : HeadD} (hpl : h.prev.length = 32) (hrl : h.root.length = 32) (j : Nat) (hj : j < 32) (x : Int) : h.cells.set (33 + j) (.int .u8 x) = HeadD.cells { h with root := h.root.set j x } := by
  have hp := bcs_length h.prev
  rw [hpl] at hp
  have hr := bcs_length h.root
  rw [hrl] at hr
  simp only [HeadD.cells]
  rw [show 33 + j = (32 + j) + 1 by omega, List.set_cons_succ, List.set_append_right _ _ (by omega), hp, show 32 + j - 32 = j by omega, List.set_append_left _ _ (by omega)]
  simp [bcs, List.map_set]
theorem headMid_next {a b c d : Int} {X Y : List Int} {j : Nat} (hf : (headMid a b c d X Y j).Fine) (hj : j < 32) {x y : Int} (hx : X[j]? = some x) (hy : Y[j]? = some y) :
    ((headMid a b c d X Y j).cells.set (1 + j) (.int .u8 x)).set (33 + j) (.int .u8 y) = (headMid a b c d X Y (j + 1)).cells := by
  rw [prev_set hf.plen j hj, root_set (h := { headMid a b c d X Y j with prev := (headMid a b c d X Y j).prev.set j x }) (by rw [List.length_set]; exact hf.plen) hf.rlen j hj]
  simp only [headMid]
  rw [mid_set X j x hx hj, mid_set Y j y hy hj]
theorem num4_lt (bs : List Int) (hb : Byt bs) (k : Nat) : (0 : Int) ≤ ((num ((bs.drop k).take 4) : Nat) : Int) ∧ ((num ((bs.drop k).take 4) : Nat) : Int) ≤ 4294967295 := by
  have h1 := num_lt ((bs.drop k).take 4) (fun x hx => hb x (List.mem_of_mem_drop (List.mem_of_mem_take hx)))
  have h2 : ((bs.drop k).take 4).length ≤ 4 := by simp; omega
  have h3 : 256 ^ ((bs.drop k).take 4).length ≤ 256 ^ 4 := Nat.pow_le_pow_right (by decide) h2
  have h4 : (256 : Nat) ^ 4 = 4294967296 := rfl
  omega
attribute [local go_sem ↓] loadHead_fold mkHead_fold
set_option maxHeartbeats 8000000 in
set_option maxRecDepth 100000 in
theorem refHeadOf_any (w : World) (A : Option Addr) (n c : Nat) (bs : List Int) (hB : Bys w A n bs) (hn : 80 ≤ n) (hcap : n ≤ c) :
    Calls Try.prog 85 #[.slice A n c] w fun e w' => e = .returned (.agg (headOf bs).cells.toArray) ∧ Below w.heap.size w w' := by
  have hl := hB.1
  have hby := hB.2.1
  obtain ⟨b, off, rfl, _⟩ := hB.2.2 (by omega)
  obtain ⟨A1, s1, t1, b1⟩ := slice_lit (some ⟨b, off, none⟩) n c 68 (by omega) hcap 68 rfl
  obtain ⟨A2, s2, t2, b2⟩ := slice_lit (some ⟨b, off, none⟩) n c 72 (by omega) hcap 72 rfl
  obtain ⟨A3, s3, t3, b3⟩ := slice_lit (some ⟨b, off, none⟩) n c 76 (by omega) hcap 76 rfl
  have HB0 := hide hB
  have HB1 := hide (b1 _ _ hB)
  have HB2 := hide (b2 _ _ hB)
  have HB3 := hide (b3 _ _ hB)
  have HN := hide hn
  have hV0 := num4_lt bs hby 0
  have hV1 := num4_lt bs hby 68
  have hV2 := num4_lt bs hby 72
  have hV3 := num4_lt bs hby 76
  rw [List.drop_zero] at hV0
  have HRES : headOf bs = ⟨(num (bs.take 4) : Nat), (bs.drop 4).take 32, (bs.drop 36).take 32, (num ((bs.drop 68).take 4) : Nat), (num ((bs.drop 72).take 4) : Nat), (num ((bs.drop 76).take 4) : Nat)⟩ := rfl
  obtain ⟨V0, hv0⟩ : ∃ v : Int, v = (num (bs.take 4) : Nat) := ⟨_, rfl⟩
  obtain ⟨V1, hv1⟩ : ∃ v : Int, v = (num ((bs.drop 68).take 4) : Nat) := ⟨_, rfl⟩
  obtain ⟨V2, hv2⟩ : ∃ v : Int, v = (num ((bs.drop 72).take 4) : Nat) := ⟨_, rfl⟩
  obtain ⟨V3, hv3⟩ : ∃ v : Int, v = (num ((bs.drop 76).take 4) : Nat) := ⟨_, rfl⟩
  rw [← hv0, ← hv1, ← hv2, ← hv3] at HRES
  rw [← hv0] at hV0
  rw [← hv1] at hV1
  rw [← hv2] at hV2
  rw [← hv3] at hV3
  have E0 := hide hv0
  have E1 := hide hv1
  have E2 := hide hv2
  have E3 := hide hv3
  have hmk := mkHead_4 V0 V1 V2 V3
  have hbX : Byt (bs.drop 4) := fun x hx => hby x (List.mem_of_mem_drop hx)
  have hbY : Byt (bs.drop 36) := fun x hx => hby x (List.mem_of_mem_drop hx)
  have hlX : (bs.drop 4).length = n - 4 := by rw [List.length_drop, hl]
  have hlY : (bs.drop 36).length = n - 36 := by rw [List.length_drop, hl]
  have HFin := hide (fun j (hj : j ≤ 32) => headMid_fine hV0 hV1 hV2 hV3 hbX hbY j hj (by omega) (by omega))
  obtain ⟨X, hX⟩ : ∃ X, X = bs.drop 4 := ⟨_, rfl⟩
  obtain ⟨Y, hY⟩ : ∃ Y, Y = bs.drop 36 := ⟨_, rfl⟩
  rw [← hX, ← hY] at HFin HRES
  have HXY := hide (fun j (hj : j < 32) => (⟨by rw [hX, List.getElem?_drop], by rw [hY, List.getElem?_drop]⟩ : X[j]? = bs[4 + j]? ∧ Y[j]? = bs[36 + j]?))
  have HR := hide HRES
  have HLX := hide (show X.length = n - 4 ∧ Y.length = n - 36 by rw [hX, hY]; exact ⟨hlX, hlY⟩)
  have HD0 := hide (show (headMid V0 V1 V2 V3 [] [] 0).Fine by rw [← headMid_zero V0 V1 V2 V3 X Y]; exact HFin.out 0 (by decide))
  have hS0 := hide (Below.refl w.heap.size w)
  clear hB hby hl hv0 hv1 hv2 hv3 hX hY hV0 hV1 hV2 hV3 hbX hbY hlX hlY HRES b1 b2 b3 t1 t2 t3 hn
  go_enter Try.func85, Try.ntmps85
  go_wp2_with (refine wpList_alloc_agg rfl 33 rfl zeroH.cells zeroHead_info ?_; simp only [Act.put, List.setIfInBounds_toArray, List.set_cons_zero, List.set_cons_succ])
  have BP := hide (Blk.new w 33 zeroH.cells)
  have HP := hide (below_alloc (Below.refl _ w) (.cells zeroH.cells.toArray 33))
  obtain ⟨p, hp⟩ : ∃ p, p = w.heap.size := ⟨_, rfl⟩
  have HPS := hide hp
  obtain ⟨w1, hw1⟩ : ∃ x, x = w.alloc (.cells zeroH.cells.toArray 33) := ⟨_, rfl⟩
  rw [← hw1] at BP HP ⊢
  rw [← hp] at BP ⊢
  clear hp hw1
  refine wp_region_held_drew (S := fun w' => Below w.heap.size w w' ∧ Blk w' p 33 zeroH.cells) (by kernel_rfl) (by exact ⟨HP.out.drew, BP.out⟩) (fun hSA0 => ?_)
  obtain ⟨w1d, hwA⟩ : ∃ x, x = w1.drew := ⟨_, rfl⟩
  rw [← hwA] at hSA0 ⊢
  clear hwA
  (refine wpAnyH_take (i := 0) (oi := ⟨some 5, .move (.tmp 0), 56, "ref.go:31", #[], none⟩) (v := ?_) rfl (by kernel_rfl) (by kernel_rfl) (by kernel_rfl) (fun _ _ _ h => h) (Or.inl ⟨by rfl, fun w' hSw => ?_⟩) hSA0 ?_; rotate_left; focus (go_simp; try with_reducible rfl))
  simp only [Act.put, List.setIfInBounds_toArray, List.set_cons_zero, List.set_cons_succ]
  (refine wpAnyH_take (i := 2) (oi := ⟨some 7, .move (.tmp 0), 56, "ref.go:31", #[], none⟩) (v := ?_) rfl (by kernel_rfl) (by kernel_rfl) (by kernel_rfl) (fun _ _ _ h => h) (Or.inl ⟨by rfl, fun w' hSw => ?_⟩) hSA0 ?_; rotate_left; focus (go_simp; try with_reducible rfl))
  simp only [Act.put, List.setIfInBounds_toArray, List.set_cons_zero, List.set_cons_succ]
  (refine wpAnyH_take (i := 3) (oi := ⟨some 8, .slice 56 (.tmp 7) (Option.some (.const (.int .i64 68))) Option.none Option.none, 56, "ref.go:31", #[⟨2, .data⟩], none⟩) (v := ?_) rfl (by kernel_rfl) (by kernel_rfl) (by kernel_rfl) (fun _ _ _ h => h) (Or.inl ⟨by rfl, fun w' hSw => ?_⟩) hSA0 ?_; rotate_left; focus (go_simp; try with_reducible rfl))
  simp only [Act.put, List.setIfInBounds_toArray, List.set_cons_zero, List.set_cons_succ]
  (refine wpAnyH_take (i := 5) (oi := ⟨some 10, .move (.tmp 0), 56, "ref.go:31", #[], none⟩) (v := ?_) rfl (by kernel_rfl) (by kernel_rfl) (by kernel_rfl) (fun _ _ _ h => h) (Or.inl ⟨by rfl, fun w' hSw => ?_⟩) hSA0 ?_; rotate_left; focus (go_simp; try with_reducible rfl))
  simp only [Act.put, List.setIfInBounds_toArray, List.set_cons_zero, List.set_cons_succ]
  (refine wpAnyH_take (i := 6) (oi := ⟨some 11, .slice 56 (.tmp 10) (Option.some (.const (.int .i64 72))) Option.none Option.none, 56, "ref.go:31", #[⟨5, .data⟩], none⟩) (v := ?_) rfl (by kernel_rfl) (by kernel_rfl) (by kernel_rfl) (fun _ _ _ h => h) (Or.inl ⟨by rfl, fun w' hSw => ?_⟩) hSA0 ?_; rotate_left; focus (go_simp; try with_reducible rfl))
  simp only [Act.put, List.setIfInBounds_toArray, List.set_cons_zero, List.set_cons_succ]
  (refine wpAnyH_take (i := 8) (oi := ⟨some 13, .move (.tmp 0), 56, "ref.go:31", #[], none⟩) (v := ?_) rfl (by kernel_rfl) (by kernel_rfl) (by kernel_rfl) (fun _ _ _ h => h) (Or.inl ⟨by rfl, fun w' hSw => ?_⟩) hSA0 ?_; rotate_left; focus (go_simp; try with_reducible rfl))
  simp only [Act.put, List.setIfInBounds_toArray, List.set_cons_zero, List.set_cons_succ]
  (refine wpAnyH_take (i := 9) (oi := ⟨some 14, .slice 56 (.tmp 13) (Option.some (.const (.int .i64 76))) Option.none Option.none, 56, "ref.go:31", #[⟨8, .data⟩], none⟩) (v := ?_) rfl (by kernel_rfl) (by kernel_rfl) (by kernel_rfl) (fun _ _ _ h => h) (Or.inl ⟨by rfl, fun w' hSw => ?_⟩) hSA0 ?_; rotate_left; focus (go_simp; try with_reducible rfl))
  simp only [Act.put, List.setIfInBounds_toArray, List.set_cons_zero, List.set_cons_succ]
  refine wpAnyH_ready (rs := [1, 12]) (by kernel_rfl) (by simp) ?_
  refine AllReadyH.cons rfl (fun K hK => ?_) (AllReadyH.cons rfl (fun K hK => ?_) AllReadyH.nil)
  · go_simp
    refine (refnum4_any w1d _ _ _ _ (HB0.out.below hSA0.1) (by have := HN.out; omega)).mono ?_
    rintro e w1da ⟨rfl, sw1da⟩
    rw [← E0.out]
    have Tw1da := hide sw1da
    clear sw1da
    refine hK.out _ _ (⟨Below.then_ hSA0.1 Tw1da.out, hSA0.2.under Tw1da.out⟩) (fun hSA1 => ?_)
    clear hK K
    refine wpAnyH_ready (rs := [4, 12]) (by kernel_rfl) (by simp) ?_
    refine AllReadyH.cons rfl (fun K hK => ?_) (AllReadyH.cons rfl (fun K hK => ?_) AllReadyH.nil)
    · go_simp
      refine (refnum4_any w1da _ _ _ _ (HB1.out.below hSA1.1) (by have := HN.out; omega)).mono ?_
      rintro e w1dab ⟨rfl, sw1dab⟩
      rw [← E1.out]
      have Tw1dab := hide sw1dab
      clear sw1dab
      refine hK.out _ _ (⟨Below.then_ hSA1.1 Tw1dab.out, hSA1.2.under Tw1dab.out⟩) (fun hSA2 => ?_)
      clear hK K
      refine wpAnyH_ready (rs := [7, 12]) (by kernel_rfl) (by simp) ?_
      refine AllReadyH.cons rfl (fun K hK => ?_) (AllReadyH.cons rfl (fun K hK => ?_) AllReadyH.nil)
      · go_simp
        refine (refnum4_any w1dab _ _ _ _ (HB2.out.below hSA2.1) (by have := HN.out; omega)).mono ?_
        rintro e w1dabc ⟨rfl, sw1dabc⟩
        rw [← E2.out]
        have Tw1dabc := hide sw1dabc
        clear sw1dabc
        refine hK.out _ _ (⟨Below.then_ hSA2.1 Tw1dabc.out, hSA2.2.under Tw1dabc.out⟩) (fun hSA3 => ?_)
        clear hK K
        refine wpAnyH_ready (rs := [10, 12]) (by kernel_rfl) (by simp) ?_
        refine AllReadyH.cons rfl (fun K hK => ?_) (AllReadyH.cons rfl (fun K hK => ?_) AllReadyH.nil)
        · go_simp
          refine (refnum4_any w1dabc _ _ _ _ (HB3.out.below hSA3.1) (by have := HN.out; omega)).mono ?_
          rintro e w1dabcd ⟨rfl, sw1dabcd⟩
          rw [← E3.out]
          have Tw1dabcd := hide sw1dabcd
          clear sw1dabcd
          refine hK.out _ _ (⟨Below.then_ hSA3.1 Tw1dabcd.out, hSA3.2.under Tw1dabcd.out⟩) (fun hSA4 => ?_)
          clear hK K
          (refine wpAnyH_take (i := 11) (oi := ⟨some 16, .build 33 #[(0, .tmp 6), (3, .tmp 9), (4, .tmp 12), (5, .tmp 15)], 33, "ref.go:31", #[⟨1, .data⟩, ⟨4, .data⟩, ⟨7, .data⟩, ⟨10, .data⟩], none⟩) (v := ?_) rfl (by kernel_rfl) (by kernel_rfl) (by kernel_rfl) (fun _ _ _ h => h) (Or.inl ⟨by rfl, fun w' hSw => ?_⟩) hSA4 ?_; rotate_left; focus (go_simp; try with_reducible rfl))
          simp only [Act.put, List.setIfInBounds_toArray, List.set_cons_zero, List.set_cons_succ]
          refine wpAnyH_ready (rs := [12]) (by kernel_rfl) (by simp) ?_
          refine AllReadyH.cons rfl (fun K hK => ?_) AllReadyH.nil
          refine step_alloc_agg rfl 33 rfl zeroH.cells zeroHead_info ?_
          have Kw1dabcdq := hide (Blk.new w1dabcd 33 zeroH.cells)
          have Pw1dabcdq := hide (hSA4.2.alloc (.cells zeroH.cells.toArray 33))
          have Tw1dabcdq := hide (below_alloc hSA4.1 (.cells zeroH.cells.toArray 33))
          obtain ⟨q, hq⟩ : ∃ q, q = w1dabcd.heap.size := ⟨_, rfl⟩
          have HQ := hide (show p < q by rw [hq]; exact hSA4.2.lt)
          obtain ⟨w1dabcdq, hww1dabcdq⟩ : ∃ x, x = w1dabcd.alloc (.cells zeroH.cells.toArray 33) := ⟨_, rfl⟩
          rw [← hww1dabcdq] at Kw1dabcdq Pw1dabcdq Tw1dabcdq ⊢
          rw [← hq] at Kw1dabcdq ⊢
          clear hq hww1dabcdq
          simp only [Act.put, List.setIfInBounds_toArray]
          refine hK.out _ _ (⟨Tw1dabcdq.out, Pw1dabcdq.out⟩) (fun hSA5 => ?_)
          clear hK K
          refine wpAnyH_ready (rs := [13]) (by kernel_rfl) (by simp) ?_
          refine AllReadyH.cons rfl (fun K hK => ?_) AllReadyH.nil
          refine step_store_head rfl _ _ rfl q zeroH (headMid V0 V1 V2 V3 [] [] 0) zeroH_fine HD0.out (by rfl) (by rfl) Kw1dabcdq.out ?_
          intro w9 o9 z9 b9
          have P9 := hide (o9.blk hSA5.2 (show ¬ p = q by have := HQ.out; omega))
          have S9 := hide (o9.under hSA5.1 (fun i hi => by have := HQ.out; have := HPS.out; omega))
          simp only [Act.put]
          refine hK.out _ _ (⟨S9.out, P9.out⟩) (fun hSA6 => ?_)
          clear hK K
          refine wpAnyH_done (by kernel_rfl) ?_ _
          rw [← headMid_zero V0 V1 V2 V3 X Y] at b9
          have B9 := hide b9
          clear b9 o9 z9
          go_wp2_with fail
          go_loopw [4] (fun i wr => ∃ j : Nat, j ≤ 32 ∧ i = .int .i64 (j : Int) ∧ Blk wr q 33 (headMid V0 V1 V2 V3 X Y j).cells ∧ Only (fun i => i = q) w9 wr) (fun i _ => 32 - (intOf i).toNat)
          case atStart => exact ⟨0, by decide, rfl, B9.out, Only.refl _ _⟩
          case round =>
            obtain ⟨j, hj, rfl, hK, hO⟩ := hrel
            have HK := hide hK
            have HO := hide hO
            clear hK hO
            by_cases hlt : j < 32
            · have i1 : (j : Int) < 32 := by omega
              obtain ⟨x, hx⟩ : ∃ x, X[j]? = some x := ⟨_, List.getElem?_eq_getElem (by have := HLX.out; have := HN.out; omega)⟩
              obtain ⟨y, hy⟩ : ∃ y, Y[j]? = some y := ⟨_, List.getElem?_eq_getElem (by have := HLX.out; have := HN.out; omega)⟩
              have hB9 := HB0.out.below (HO.out.under S9.out (fun i hi => by have := HQ.out; have := HPS.out; omega))
              obtain ⟨b', off', he, hc⟩ := hB9.2.2 (by have := HN.out; omega)
              injection he with he; injection he with he1 he2 _; subst he1; subst he2
              have c1 := hc (4 + j) x (by rw [← (HXY.out j hlt).1]; exact hx)
              have c2 := hc (36 + j) y (by rw [← (HXY.out j hlt).2]; exact hy)
              have hbq := hide (show ¬ b = q by
                have h1 := Bys.lt HB0.out (by have := HN.out; omega) _ rfl
                simp only at h1
                have := HQ.out; have := HPS.out; omega)
              have hff := HFin.out j hj
              obtain ⟨cv, hcv⟩ : ∃ v, (headMid V0 V1 V2 V3 X Y j).cells[1 + j]? = some v := ⟨_, List.getElem?_eq_getElem (by rw [HeadD.cells_len hff]; omega)⟩
              obtain ⟨cv2, hcv2⟩ : ∃ v, ((headMid V0 V1 V2 V3 X Y j).cells.set (1 + j) (.int .u8 x))[33 + j]? = some v := ⟨_, List.getElem?_eq_getElem (by rw [List.length_set, HeadD.cells_len hff]; omega)⟩
              have cx : wr.cell? ⟨q, 1 + j, none⟩ = some cv := by rw [HK.out.cell]; exact hcv
              have fx := HK.out.frozen (1 + j)
              have K7 := HK.out.set_ (1 + j) (.int .u8 x)
              have O7 := hide (Only.setCell (F := fun i => i = q) (p := ⟨q, 1 + j, none⟩) HO.out (.inr rfl) (.int .u8 x))
              have c2' : (wr.setCell ⟨q, 1 + j, none⟩ (.int .u8 x)).cell? ⟨b, off + (36 + j), none⟩ = some (.int .u8 y) := by
                rw [World.cell?_setCell_far _ _ _ _ (fun h => hbq.out h.symm)]; exact c2
              have cy : (wr.setCell ⟨q, 1 + j, none⟩ (.int .u8 x)).cell? ⟨q, 33 + j, none⟩ = some cv2 := by rw [K7.cell]; exact hcv2
              have fy := K7.frozen (33 + j)
              have K8 := K7.set_ (33 + j) (.int .u8 y)
              rw [headMid_next hff hlt hx hy] at K8
              have HK8 := hide K8
              have HO8 := hide (Only.setCell (F := fun i => i = q) (p := ⟨q, 33 + j, none⟩) O7.out (.inr rfl) (.int .u8 y))
              have i4 : (4 : Int) + (j : Int) < (n : Int) := by have := HN.out; omega
              have i36 : (36 : Int) + (j : Int) < (n : Int) := by have := HN.out; omega
              clear hB9 hc c2 hff hcv hcv2 K7 K8 O7 hx hy
              go_wp2_with fail
              exact ⟨⟨j + 1, by omega, by simp, HK8.out, HO8.out⟩, by simp [intOf]; omega⟩
            · obtain rfl : j = 32 := by omega
              have hld := loadHead_run wr q 0 _ HK.out.whole (HFin.out 32 (by decide))
              have P10 := hide (HO.out.blk P9.out (show ¬ p = q by have := HQ.out; omega))
              have S10 := hide (HO.out.under S9.out (fun i hi => by have := HQ.out; have := HPS.out; omega))
              go_wp2_with (refine wpList_store_head rfl _ _ rfl p zeroH (headMid V0 V1 V2 V3 X Y 32) zeroH_fine (HFin.out 32 (by decide)) (by rfl) (by rfl) P10.out ?_; intro w11 o11 z11 b11; simp only [Act.put])
              refine bodyPost_ret (results_head _ _ rfl _ _ p (headMid V0 V1 V2 V3 X Y 32) (HFin.out 32 (by decide)) (by rfl) b11) rfl ⟨?_, ?_⟩
              · rw [HR.out, headMid_full]
              · exact o11.under S10.out (fun i hi => by have := HPS.out; omega)
        · refine step_alloc_agg rfl 33 rfl zeroH.cells zeroHead_info ?_
          have Kw1dabcq := hide (Blk.new w1dabc 33 zeroH.cells)
          have Pw1dabcq := hide (hSA3.2.alloc (.cells zeroH.cells.toArray 33))
          have Tw1dabcq := hide (below_alloc hSA3.1 (.cells zeroH.cells.toArray 33))
          obtain ⟨q, hq⟩ : ∃ q, q = w1dabc.heap.size := ⟨_, rfl⟩
          have HQ := hide (show p < q by rw [hq]; exact hSA3.2.lt)
          obtain ⟨w1dabcq, hww1dabcq⟩ : ∃ x, x = w1dabc.alloc (.cells zeroH.cells.toArray 33) := ⟨_, rfl⟩
          rw [← hww1dabcq] at Kw1dabcq Pw1dabcq Tw1dabcq ⊢
          rw [← hq] at Kw1dabcq ⊢
          clear hq hww1dabcq
          simp only [Act.put, List.setIfInBounds_toArray]
          refine hK.out _ _ (⟨Tw1dabcq.out, Pw1dabcq.out⟩) (fun hSA4 => ?_)
          clear hK K
          refine wpAnyH_ready (rs := [10]) (by kernel_rfl) (by simp) ?_
          refine AllReadyH.cons rfl (fun K hK => ?_) AllReadyH.nil
          go_simp
          refine (refnum4_any w1dabcq _ _ _ _ (HB3.out.below hSA4.1) (by have := HN.out; omega)).mono ?_
          rintro e w1dabcqd ⟨rfl, sw1dabcqd⟩
          rw [← E3.out]
          have Kw1dabcqd := hide (Kw1dabcq.out.under sw1dabcqd)
          have Tw1dabcqd := hide sw1dabcqd
          clear sw1dabcqd
          refine hK.out _ _ (⟨Below.then_ hSA4.1 Tw1dabcqd.out, hSA4.2.under Tw1dabcqd.out⟩) (fun hSA5 => ?_)
          clear hK K
          (refine wpAnyH_take (i := 11) (oi := ⟨some 16, .build 33 #[(0, .tmp 6), (3, .tmp 9), (4, .tmp 12), (5, .tmp 15)], 33, "ref.go:31", #[⟨1, .data⟩, ⟨4, .data⟩, ⟨7, .data⟩, ⟨10, .data⟩], none⟩) (v := ?_) rfl (by kernel_rfl) (by kernel_rfl) (by kernel_rfl) (fun _ _ _ h => h) (Or.inl ⟨by rfl, fun w' hSw => ?_⟩) hSA5 ?_; rotate_left; focus (go_simp; try with_reducible rfl))
          simp only [Act.put, List.setIfInBounds_toArray, List.set_cons_zero, List.set_cons_succ]
          refine wpAnyH_ready (rs := [13]) (by kernel_rfl) (by simp) ?_
          refine AllReadyH.cons rfl (fun K hK => ?_) AllReadyH.nil
          refine step_store_head rfl _ _ rfl q zeroH (headMid V0 V1 V2 V3 [] [] 0) zeroH_fine HD0.out (by rfl) (by rfl) Kw1dabcqd.out ?_
          intro w9 o9 z9 b9
          have P9 := hide (o9.blk hSA5.2 (show ¬ p = q by have := HQ.out; omega))
          have S9 := hide (o9.under hSA5.1 (fun i hi => by have := HQ.out; have := HPS.out; omega))
          simp only [Act.put]
          refine hK.out _ _ (⟨S9.out, P9.out⟩) (fun hSA6 => ?_)
          clear hK K
          refine wpAnyH_done (by kernel_rfl) ?_ _
          rw [← headMid_zero V0 V1 V2 V3 X Y] at b9
          have B9 := hide b9
          clear b9 o9 z9
          go_wp2_with fail
          go_loopw [4] (fun i wr => ∃ j : Nat, j ≤ 32 ∧ i = .int .i64 (j : Int) ∧ Blk wr q 33 (headMid V0 V1 V2 V3 X Y j).cells ∧ Only (fun i => i = q) w9 wr) (fun i _ => 32 - (intOf i).toNat)
          case atStart => exact ⟨0, by decide, rfl, B9.out, Only.refl _ _⟩
          case round =>
            obtain ⟨j, hj, rfl, hK, hO⟩ := hrel
            have HK := hide hK
            have HO := hide hO
            clear hK hO
            by_cases hlt : j < 32
            · have i1 : (j : Int) < 32 := by omega
              obtain ⟨x, hx⟩ : ∃ x, X[j]? = some x := ⟨_, List.getElem?_eq_getElem (by have := HLX.out; have := HN.out; omega)⟩
              obtain ⟨y, hy⟩ : ∃ y, Y[j]? = some y := ⟨_, List.getElem?_eq_getElem (by have := HLX.out; have := HN.out; omega)⟩
              have hB9 := HB0.out.below (HO.out.under S9.out (fun i hi => by have := HQ.out; have := HPS.out; omega))
              obtain ⟨b', off', he, hc⟩ := hB9.2.2 (by have := HN.out; omega)
              injection he with he; injection he with he1 he2 _; subst he1; subst he2
              have c1 := hc (4 + j) x (by rw [← (HXY.out j hlt).1]; exact hx)
              have c2 := hc (36 + j) y (by rw [← (HXY.out j hlt).2]; exact hy)
              have hbq := hide (show ¬ b = q by
                have h1 := Bys.lt HB0.out (by have := HN.out; omega) _ rfl
                simp only at h1
                have := HQ.out; have := HPS.out; omega)
              have hff := HFin.out j hj
              obtain ⟨cv, hcv⟩ : ∃ v, (headMid V0 V1 V2 V3 X Y j).cells[1 + j]? = some v := ⟨_, List.getElem?_eq_getElem (by rw [HeadD.cells_len hff]; omega)⟩
              obtain ⟨cv2, hcv2⟩ : ∃ v, ((headMid V0 V1 V2 V3 X Y j).cells.set (1 + j) (.int .u8 x))[33 + j]? = some v := ⟨_, List.getElem?_eq_getElem (by rw [List.length_set, HeadD.cells_len hff]; omega)⟩
              have cx : wr.cell? ⟨q, 1 + j, none⟩ = some cv := by rw [HK.out.cell]; exact hcv
              have fx := HK.out.frozen (1 + j)
              have K7 := HK.out.set_ (1 + j) (.int .u8 x)
              have O7 := hide (Only.setCell (F := fun i => i = q) (p := ⟨q, 1 + j, none⟩) HO.out (.inr rfl) (.int .u8 x))
              have c2' : (wr.setCell ⟨q, 1 + j, none⟩ (.int .u8 x)).cell? ⟨b, off + (36 + j), none⟩ = some (.int .u8 y) := by
                rw [World.cell?_setCell_far _ _ _ _ (fun h => hbq.out h.symm)]; exact c2
              have cy : (wr.setCell ⟨q, 1 + j, none⟩ (.int .u8 x)).cell? ⟨q, 33 + j, none⟩ = some cv2 := by rw [K7.cell]; exact hcv2
              have fy := K7.frozen (33 + j)
              have K8 := K7.set_ (33 + j) (.int .u8 y)
              rw [headMid_next hff hlt hx hy] at K8
              have HK8 := hide K8
              have HO8 := hide (Only.setCell (F := fun i => i = q) (p := ⟨q, 33 + j, none⟩) O7.out (.inr rfl) (.int .u8 y))
              have i4 : (4 : Int) + (j : Int) < (n : Int) := by have := HN.out; omega
              have i36 : (36 : Int) + (j : Int) < (n : Int) := by have := HN.out; omega
              clear hB9 hc c2 hff hcv hcv2 K7 K8 O7 hx hy
              go_wp2_with fail
              exact ⟨⟨j + 1, by omega, by simp, HK8.out, HO8.out⟩, by simp [intOf]; omega⟩
            · obtain rfl : j = 32 := by omega
              have hld := loadHead_run wr q 0 _ HK.out.whole (HFin.out 32 (by decide))
              have P10 := hide (HO.out.blk P9.out (show ¬ p = q by have := HQ.out; omega))
              have S10 := hide (HO.out.under S9.out (fun i hi => by have := HQ.out; have := HPS.out; omega))
              go_wp2_with (refine wpList_store_head rfl _ _ rfl p zeroH (headMid V0 V1 V2 V3 X Y 32) zeroH_fine (HFin.out 32 (by decide)) (by rfl) (by rfl) P10.out ?_; intro w11 o11 z11 b11; simp only [Act.put])
              refine bodyPost_ret (results_head _ _ rfl _ _ p (headMid V0 V1 V2 V3 X Y 32) (HFin.out 32 (by decide)) (by rfl) b11) rfl ⟨?_, ?_⟩
              · rw [HR.out, headMid_full]
              · exact o11.under S10.out (fun i hi => by have := HPS.out; omega)
      · refine step_alloc_agg rfl 33 rfl zeroH.cells zeroHead_info ?_
        have Kw1dabq := hide (Blk.new w1dab 33 zeroH.cells)
        have Pw1dabq := hide (hSA2.2.alloc (.cells zeroH.cells.toArray 33))
        have Tw1dabq := hide (below_alloc hSA2.1 (.cells zeroH.cells.toArray 33))
        obtain ⟨q, hq⟩ : ∃ q, q = w1dab.heap.size := ⟨_, rfl⟩
        have HQ := hide (show p < q by rw [hq]; exact hSA2.2.lt)
        obtain ⟨w1dabq, hww1dabq⟩ : ∃ x, x = w1dab.alloc (.cells zeroH.cells.toArray 33) := ⟨_, rfl⟩
        rw [← hww1dabq] at Kw1dabq Pw1dabq Tw1dabq ⊢
        rw [← hq] at Kw1dabq ⊢
        clear hq hww1dabq
        simp only [Act.put, List.setIfInBounds_toArray]
        refine hK.out _ _ (⟨Tw1dabq.out, Pw1dabq.out⟩) (fun hSA3 => ?_)
        clear hK K
        refine wpAnyH_ready (rs := [7]) (by kernel_rfl) (by simp) ?_
        refine AllReadyH.cons rfl (fun K hK => ?_) AllReadyH.nil
        go_simp
        refine (refnum4_any w1dabq _ _ _ _ (HB2.out.below hSA3.1) (by have := HN.out; omega)).mono ?_
        rintro e w1dabqc ⟨rfl, sw1dabqc⟩
        rw [← E2.out]
        have Kw1dabqc := hide (Kw1dabq.out.under sw1dabqc)
        have Tw1dabqc := hide sw1dabqc
        clear sw1dabqc
        refine hK.out _ _ (⟨Below.then_ hSA3.1 Tw1dabqc.out, hSA3.2.under Tw1dabqc.out⟩) (fun hSA4 => ?_)
        clear hK K
        refine wpAnyH_ready (rs := [10]) (by kernel_rfl) (by simp) ?_
        refine AllReadyH.cons rfl (fun K hK => ?_) AllReadyH.nil
        go_simp
        refine (refnum4_any w1dabqc _ _ _ _ (HB3.out.below hSA4.1) (by have := HN.out; omega)).mono ?_
        rintro e w1dabqcd ⟨rfl, sw1dabqcd⟩
        rw [← E3.out]
        have Kw1dabqcd := hide (Kw1dabqc.out.under sw1dabqcd)
        have Tw1dabqcd := hide sw1dabqcd
        clear sw1dabqcd
        refine hK.out _ _ (⟨Below.then_ hSA4.1 Tw1dabqcd.out, hSA4.2.under Tw1dabqcd.out⟩) (fun hSA5 => ?_)
        clear hK K
        (refine wpAnyH_take (i := 11) (oi := ⟨some 16, .build 33 #[(0, .tmp 6), (3, .tmp 9), (4, .tmp 12), (5, .tmp 15)], 33, "ref.go:31", #[⟨1, .data⟩, ⟨4, .data⟩, ⟨7, .data⟩, ⟨10, .data⟩], none⟩) (v := ?_) rfl (by kernel_rfl) (by kernel_rfl) (by kernel_rfl) (fun _ _ _ h => h) (Or.inl ⟨by rfl, fun w' hSw => ?_⟩) hSA5 ?_; rotate_left; focus (go_simp; try with_reducible rfl))
        simp only [Act.put, List.setIfInBounds_toArray, List.set_cons_zero, List.set_cons_succ]
        refine wpAnyH_ready (rs := [13]) (by kernel_rfl) (by simp) ?_
        refine AllReadyH.cons rfl (fun K hK => ?_) AllReadyH.nil
        refine step_store_head rfl _ _ rfl q zeroH (headMid V0 V1 V2 V3 [] [] 0) zeroH_fine HD0.out (by rfl) (by rfl) Kw1dabqcd.out ?_
        intro w9 o9 z9 b9
        have P9 := hide (o9.blk hSA5.2 (show ¬ p = q by have := HQ.out; omega))
        have S9 := hide (o9.under hSA5.1 (fun i hi => by have := HQ.out; have := HPS.out; omega))
        simp only [Act.put]
        refine hK.out _ _ (⟨S9.out, P9.out⟩) (fun hSA6 => ?_)
        clear hK K
        refine wpAnyH_done (by kernel_rfl) ?_ _
        rw [← headMid_zero V0 V1 V2 V3 X Y] at b9
        have B9 := hide b9
        clear b9 o9 z9
        go_wp2_with fail
        go_loopw [4] (fun i wr => ∃ j : Nat, j ≤ 32 ∧ i = .int .i64 (j : Int) ∧ Blk wr q 33 (headMid V0 V1 V2 V3 X Y j).cells ∧ Only (fun i => i = q) w9 wr) (fun i _ => 32 - (intOf i).toNat)
        case atStart => exact ⟨0, by decide, rfl, B9.out, Only.refl _ _⟩
        case round =>
          obtain ⟨j, hj, rfl, hK, hO⟩ := hrel
          have HK := hide hK
          have HO := hide hO
          clear hK hO
          by_cases hlt : j < 32
          · have i1 : (j : Int) < 32 := by omega
            obtain ⟨x, hx⟩ : ∃ x, X[j]? = some x := ⟨_, List.getElem?_eq_getElem (by have := HLX.out; have := HN.out; omega)⟩
            obtain ⟨y, hy⟩ : ∃ y, Y[j]? = some y := ⟨_, List.getElem?_eq_getElem (by have := HLX.out; have := HN.out; omega)⟩
            have hB9 := HB0.out.below (HO.out.under S9.out (fun i hi => by have := HQ.out; have := HPS.out; omega))
            obtain ⟨b', off', he, hc⟩ := hB9.2.2 (by have := HN.out; omega)
            injection he with he; injection he with he1 he2 _; subst he1; subst he2
            have c1 := hc (4 + j) x (by rw [← (HXY.out j hlt).1]; exact hx)
            have c2 := hc (36 + j) y (by rw [← (HXY.out j hlt).2]; exact hy)
            have hbq := hide (show ¬ b = q by
              have h1 := Bys.lt HB0.out (by have := HN.out; omega) _ rfl
              simp only at h1
              have := HQ.out; have := HPS.out; omega)
            have hff := HFin.out j hj
            obtain ⟨cv, hcv⟩ : ∃ v, (headMid V0 V1 V2 V3 X Y j).cells[1 + j]? = some v := ⟨_, List.getElem?_eq_getElem (by rw [HeadD.cells_len hff]; omega)⟩
            obtain ⟨cv2, hcv2⟩ : ∃ v, ((headMid V0 V1 V2 V3 X Y j).cells.set (1 + j) (.int .u8 x))[33 + j]? = some v := ⟨_, List.getElem?_eq_getElem (by rw [List.length_set, HeadD.cells_len hff]; omega)⟩
            have cx : wr.cell? ⟨q, 1 + j, none⟩ = some cv := by rw [HK.out.cell]; exact hcv
            have fx := HK.out.frozen (1 + j)
            have K7 := HK.out.set_ (1 + j) (.int .u8 x)
            have O7 := hide (Only.setCell (F := fun i => i = q) (p := ⟨q, 1 + j, none⟩) HO.out (.inr rfl) (.int .u8 x))
            have c2' : (wr.setCell ⟨q, 1 + j, none⟩ (.int .u8 x)).cell? ⟨b, off + (36 + j), none⟩ = some (.int .u8 y) := by
              rw [World.cell?_setCell_far _ _ _ _ (fun h => hbq.out h.symm)]; exact c2
            have cy : (wr.setCell ⟨q, 1 + j, none⟩ (.int .u8 x)).cell? ⟨q, 33 + j, none⟩ = some cv2 := by rw [K7.cell]; exact hcv2
            have fy := K7.frozen (33 + j)
            have K8 := K7.set_ (33 + j) (.int .u8 y)
            rw [headMid_next hff hlt hx hy] at K8
            have HK8 := hide K8
            have HO8 := hide (Only.setCell (F := fun i => i = q) (p := ⟨q, 33 + j, none⟩) O7.out (.inr rfl) (.int .u8 y))
            have i4 : (4 : Int) + (j : Int) < (n : Int) := by have := HN.out; omega
            have i36 : (36 : Int) + (j : Int) < (n : Int) := by have := HN.out; omega
            clear hB9 hc c2 hff hcv hcv2 K7 K8 O7 hx hy
            go_wp2_with fail
            exact ⟨⟨j + 1, by omega, by simp, HK8.out, HO8.out⟩, by simp [intOf]; omega⟩
          · obtain rfl : j = 32 := by omega
            have hld := loadHead_run wr q 0 _ HK.out.whole (HFin.out 32 (by decide))
            have P10 := hide (HO.out.blk P9.out (show ¬ p = q by have := HQ.out; omega))
            have S10 := hide (HO.out.under S9.out (fun i hi => by have := HQ.out; have := HPS.out; omega))
            go_wp2_with (refine wpList_store_head rfl _ _ rfl p zeroH (headMid V0 V1 V2 V3 X Y 32) zeroH_fine (HFin.out 32 (by decide)) (by rfl) (by rfl) P10.out ?_; intro w11 o11 z11 b11; simp only [Act.put])
            refine bodyPost_ret (results_head _ _ rfl _ _ p (headMid V0 V1 V2 V3 X Y 32) (HFin.out 32 (by decide)) (by rfl) b11) rfl ⟨?_, ?_⟩
            · rw [HR.out, headMid_full]
            · exact o11.under S10.out (fun i hi => by have := HPS.out; omega)
    · refine step_alloc_agg rfl 33 rfl zeroH.cells zeroHead_info ?_
      have Kw1daq := hide (Blk.new w1da 33 zeroH.cells)
      have Pw1daq := hide (hSA1.2.alloc (.cells zeroH.cells.toArray 33))
      have Tw1daq := hide (below_alloc hSA1.1 (.cells zeroH.cells.toArray 33))
      obtain ⟨q, hq⟩ : ∃ q, q = w1da.heap.size := ⟨_, rfl⟩
      have HQ := hide (show p < q by rw [hq]; exact hSA1.2.lt)
      obtain ⟨w1daq, hww1daq⟩ : ∃ x, x = w1da.alloc (.cells zeroH.cells.toArray 33) := ⟨_, rfl⟩
      rw [← hww1daq] at Kw1daq Pw1daq Tw1daq ⊢
      rw [← hq] at Kw1daq ⊢
      clear hq hww1daq
      simp only [Act.put, List.setIfInBounds_toArray]
      refine hK.out _ _ (⟨Tw1daq.out, Pw1daq.out⟩) (fun hSA2 => ?_)
      clear hK K
      refine wpAnyH_ready (rs := [4]) (by kernel_rfl) (by simp) ?_
      refine AllReadyH.cons rfl (fun K hK => ?_) AllReadyH.nil
      go_simp
      refine (refnum4_any w1daq _ _ _ _ (HB1.out.below hSA2.1) (by have := HN.out; omega)).mono ?_
      rintro e w1daqb ⟨rfl, sw1daqb⟩
      rw [← E1.out]
      have Kw1daqb := hide (Kw1daq.out.under sw1daqb)
      have Tw1daqb := hide sw1daqb
      clear sw1daqb
      refine hK.out _ _ (⟨Below.then_ hSA2.1 Tw1daqb.out, hSA2.2.under Tw1daqb.out⟩) (fun hSA3 => ?_)
      clear hK K
      refine wpAnyH_ready (rs := [7]) (by kernel_rfl) (by simp) ?_
      refine AllReadyH.cons rfl (fun K hK => ?_) AllReadyH.nil
      go_simp
      refine (refnum4_any w1daqb _ _ _ _ (HB2.out.below hSA3.1) (by have := HN.out; omega)).mono ?_
      rintro e w1daqbc ⟨rfl, sw1daqbc⟩
      rw [← E2.out]
      have Kw1daqbc := hide (Kw1daqb.out.under sw1daqbc)
      have Tw1daqbc := hide sw1daqbc
      clear sw1daqbc
      refine hK.out _ _ (⟨Below.then_ hSA3.1 Tw1daqbc.out, hSA3.2.under Tw1daqbc.out⟩) (fun hSA4 => ?_)
      clear hK K
      refine wpAnyH_ready (rs := [10]) (by kernel_rfl) (by simp) ?_
      refine AllReadyH.cons rfl (fun K hK => ?_) AllReadyH.nil
      go_simp
      refine (refnum4_any w1daqbc _ _ _ _ (HB3.out.below hSA4.1) (by have := HN.out; omega)).mono ?_
      rintro e w1daqbcd ⟨rfl, sw1daqbcd⟩
      rw [← E3.out]
      have Kw1daqbcd := hide (Kw1daqbc.out.under sw1daqbcd)
      have Tw1daqbcd := hide sw1daqbcd
      clear sw1daqbcd
      refine hK.out _ _ (⟨Below.then_ hSA4.1 Tw1daqbcd.out, hSA4.2.under Tw1daqbcd.out⟩) (fun hSA5 => ?_)
      clear hK K
      (refine wpAnyH_take (i := 11) (oi := ⟨some 16, .build 33 #[(0, .tmp 6), (3, .tmp 9), (4, .tmp 12), (5, .tmp 15)], 33, "ref.go:31", #[⟨1, .data⟩, ⟨4, .data⟩, ⟨7, .data⟩, ⟨10, .data⟩], none⟩) (v := ?_) rfl (by kernel_rfl) (by kernel_rfl) (by kernel_rfl) (fun _ _ _ h => h) (Or.inl ⟨by rfl, fun w' hSw => ?_⟩) hSA5 ?_; rotate_left; focus (go_simp; try with_reducible rfl))
      simp only [Act.put, List.setIfInBounds_toArray, List.set_cons_zero, List.set_cons_succ]
      refine wpAnyH_ready (rs := [13]) (by kernel_rfl) (by simp) ?_
      refine AllReadyH.cons rfl (fun K hK => ?_) AllReadyH.nil
      refine step_store_head rfl _ _ rfl q zeroH (headMid V0 V1 V2 V3 [] [] 0) zeroH_fine HD0.out (by rfl) (by rfl) Kw1daqbcd.out ?_
      intro w9 o9 z9 b9
      have P9 := hide (o9.blk hSA5.2 (show ¬ p = q by have := HQ.out; omega))
      have S9 := hide (o9.under hSA5.1 (fun i hi => by have := HQ.out; have := HPS.out; omega))
      simp only [Act.put]
      refine hK.out _ _ (⟨S9.out, P9.out⟩) (fun hSA6 => ?_)
      clear hK K
      refine wpAnyH_done (by kernel_rfl) ?_ _
      rw [← headMid_zero V0 V1 V2 V3 X Y] at b9
      have B9 := hide b9
      clear b9 o9 z9
      go_wp2_with fail
      go_loopw [4] (fun i wr => ∃ j : Nat, j ≤ 32 ∧ i = .int .i64 (j : Int) ∧ Blk wr q 33 (headMid V0 V1 V2 V3 X Y j).cells ∧ Only (fun i => i = q) w9 wr) (fun i _ => 32 - (intOf i).toNat)
      case atStart => exact ⟨0, by decide, rfl, B9.out, Only.refl _ _⟩
      case round =>
        obtain ⟨j, hj, rfl, hK, hO⟩ := hrel
        have HK := hide hK
        have HO := hide hO
        clear hK hO
        by_cases hlt : j < 32
        · have i1 : (j : Int) < 32 := by omega
          obtain ⟨x, hx⟩ : ∃ x, X[j]? = some x := ⟨_, List.getElem?_eq_getElem (by have := HLX.out; have := HN.out; omega)⟩
          obtain ⟨y, hy⟩ : ∃ y, Y[j]? = some y := ⟨_, List.getElem?_eq_getElem (by have := HLX.out; have := HN.out; omega)⟩
          have hB9 := HB0.out.below (HO.out.under S9.out (fun i hi => by have := HQ.out; have := HPS.out; omega))
          obtain ⟨b', off', he, hc⟩ := hB9.2.2 (by have := HN.out; omega)
          injection he with he; injection he with he1 he2 _; subst he1; subst he2
          have c1 := hc (4 + j) x (by rw [← (HXY.out j hlt).1]; exact hx)
          have c2 := hc (36 + j) y (by rw [← (HXY.out j hlt).2]; exact hy)
          have hbq := hide (show ¬ b = q by
            have h1 := Bys.lt HB0.out (by have := HN.out; omega) _ rfl
            simp only at h1
            have := HQ.out; have := HPS.out; omega)
          have hff := HFin.out j hj
          obtain ⟨cv, hcv⟩ : ∃ v, (headMid V0 V1 V2 V3 X Y j).cells[1 + j]? = some v := ⟨_, List.getElem?_eq_getElem (by rw [HeadD.cells_len hff]; omega)⟩
          obtain ⟨cv2, hcv2⟩ : ∃ v, ((headMid V0 V1 V2 V3 X Y j).cells.set (1 + j) (.int .u8 x))[33 + j]? = some v := ⟨_, List.getElem?_eq_getElem (by rw [List.length_set, HeadD.cells_len hff]; omega)⟩
          have cx : wr.cell? ⟨q, 1 + j, none⟩ = some cv := by rw [HK.out.cell]; exact hcv
          have fx := HK.out.frozen (1 + j)
          have K7 := HK.out.set_ (1 + j) (.int .u8 x)
          have O7 := hide (Only.setCell (F := fun i => i = q) (p := ⟨q, 1 + j, none⟩) HO.out (.inr rfl) (.int .u8 x))
          have c2' : (wr.setCell ⟨q, 1 + j, none⟩ (.int .u8 x)).cell? ⟨b, off + (36 + j), none⟩ = some (.int .u8 y) := by
            rw [World.cell?_setCell_far _ _ _ _ (fun h => hbq.out h.symm)]; exact c2
          have cy : (wr.setCell ⟨q, 1 + j, none⟩ (.int .u8 x)).cell? ⟨q, 33 + j, none⟩ = some cv2 := by rw [K7.cell]; exact hcv2
          have fy := K7.frozen (33 + j)
          have K8 := K7.set_ (33 + j) (.int .u8 y)
          rw [headMid_next hff hlt hx hy] at K8
          have HK8 := hide K8
          have HO8 := hide (Only.setCell (F := fun i => i = q) (p := ⟨q, 33 + j, none⟩) O7.out (.inr rfl) (.int .u8 y))
          have i4 : (4 : Int) + (j : Int) < (n : Int) := by have := HN.out; omega
          have i36 : (36 : Int) + (j : Int) < (n : Int) := by have := HN.out; omega
          clear hB9 hc c2 hff hcv hcv2 K7 K8 O7 hx hy
          go_wp2_with fail
          exact ⟨⟨j + 1, by omega, by simp, HK8.out, HO8.out⟩, by simp [intOf]; omega⟩
        · obtain rfl : j = 32 := by omega
          have hld := loadHead_run wr q 0 _ HK.out.whole (HFin.out 32 (by decide))
          have P10 := hide (HO.out.blk P9.out (show ¬ p = q by have := HQ.out; omega))
          have S10 := hide (HO.out.under S9.out (fun i hi => by have := HQ.out; have := HPS.out; omega))
          go_wp2_with (refine wpList_store_head rfl _ _ rfl p zeroH (headMid V0 V1 V2 V3 X Y 32) zeroH_fine (HFin.out 32 (by decide)) (by rfl) (by rfl) P10.out ?_; intro w11 o11 z11 b11; simp only [Act.put])
          refine bodyPost_ret (results_head _ _ rfl _ _ p (headMid V0 V1 V2 V3 X Y 32) (HFin.out 32 (by decide)) (by rfl) b11) rfl ⟨?_, ?_⟩
          · rw [HR.out, headMid_full]
          · exact o11.under S10.out (fun i hi => by have := HPS.out; omega)
  · refine step_alloc_agg rfl 33 rfl zeroH.cells zeroHead_info ?_
    have Kw1dq := hide (Blk.new w1d 33 zeroH.cells)
    have Pw1dq := hide (hSA0.2.alloc (.cells zeroH.cells.toArray 33))
    have Tw1dq := hide (below_alloc hSA0.1 (.cells zeroH.cells.toArray 33))
    obtain ⟨q, hq⟩ : ∃ q, q = w1d.heap.size := ⟨_, rfl⟩
    have HQ := hide (show p < q by rw [hq]; exact hSA0.2.lt)
    obtain ⟨w1dq, hww1dq⟩ : ∃ x, x = w1d.alloc (.cells zeroH.cells.toArray 33) := ⟨_, rfl⟩
    rw [← hww1dq] at Kw1dq Pw1dq Tw1dq ⊢
    rw [← hq] at Kw1dq ⊢
    clear hq hww1dq
    simp only [Act.put, List.setIfInBounds_toArray]
    refine hK.out _ _ (⟨Tw1dq.out, Pw1dq.out⟩) (fun hSA1 => ?_)
    clear hK K
    refine wpAnyH_ready (rs := [1]) (by kernel_rfl) (by simp) ?_
    refine AllReadyH.cons rfl (fun K hK => ?_) AllReadyH.nil
    go_simp
    refine (refnum4_any w1dq _ _ _ _ (HB0.out.below hSA1.1) (by have := HN.out; omega)).mono ?_
    rintro e w1dqa ⟨rfl, sw1dqa⟩
    rw [← E0.out]
    have Kw1dqa := hide (Kw1dq.out.under sw1dqa)
    have Tw1dqa := hide sw1dqa
    clear sw1dqa
    refine hK.out _ _ (⟨Below.then_ hSA1.1 Tw1dqa.out, hSA1.2.under Tw1dqa.out⟩) (fun hSA2 => ?_)
    clear hK K
    refine wpAnyH_ready (rs := [4]) (by kernel_rfl) (by simp) ?_
    refine AllReadyH.cons rfl (fun K hK => ?_) AllReadyH.nil
    go_simp
    refine (refnum4_any w1dqa _ _ _ _ (HB1.out.below hSA2.1) (by have := HN.out; omega)).mono ?_
    rintro e w1dqab ⟨rfl, sw1dqab⟩
    rw [← E1.out]
    have Kw1dqab := hide (Kw1dqa.out.under sw1dqab)
    have Tw1dqab := hide sw1dqab
    clear sw1dqab
    refine hK.out _ _ (⟨Below.then_ hSA2.1 Tw1dqab.out, hSA2.2.under Tw1dqab.out⟩) (fun hSA3 => ?_)
    clear hK K
    refine wpAnyH_ready (rs := [7]) (by kernel_rfl) (by simp) ?_
    refine AllReadyH.cons rfl (fun K hK => ?_) AllReadyH.nil
    go_simp
    refine (refnum4_any w1dqab _ _ _ _ (HB2.out.below hSA3.1) (by have := HN.out; omega)).mono ?_
    rintro e w1dqabc ⟨rfl, sw1dqabc⟩
    rw [← E2.out]
    have Kw1dqabc := hide (Kw1dqab.out.under sw1dqabc)
    have Tw1dqabc := hide sw1dqabc
    clear sw1dqabc
    refine hK.out _ _ (⟨Below.then_ hSA3.1 Tw1dqabc.out, hSA3.2.under Tw1dqabc.out⟩) (fun hSA4 => ?_)
    clear hK K
    refine wpAnyH_ready (rs := [10]) (by kernel_rfl) (by simp) ?_
    refine AllReadyH.cons rfl (fun K hK => ?_) AllReadyH.nil
    go_simp
    refine (refnum4_any w1dqabc _ _ _ _ (HB3.out.below hSA4.1) (by have := HN.out; omega)).mono ?_
    rintro e w1dqabcd ⟨rfl, sw1dqabcd⟩
    rw [← E3.out]
    have Kw1dqabcd := hide (Kw1dqabc.out.under sw1dqabcd)
    have Tw1dqabcd := hide sw1dqabcd
    clear sw1dqabcd
    refine hK.out _ _ (⟨Below.then_ hSA4.1 Tw1dqabcd.out, hSA4.2.under Tw1dqabcd.out⟩) (fun hSA5 => ?_)
    clear hK K
    (refine wpAnyH_take (i := 11) (oi := ⟨some 16, .build 33 #[(0, .tmp 6), (3, .tmp 9), (4, .tmp 12), (5, .tmp 15)], 33, "ref.go:31", #[⟨1, .data⟩, ⟨4, .data⟩, ⟨7, .data⟩, ⟨10, .data⟩], none⟩) (v := ?_) rfl (by kernel_rfl) (by kernel_rfl) (by kernel_rfl) (fun _ _ _ h => h) (Or.inl ⟨by rfl, fun w' hSw => ?_⟩) hSA5 ?_; rotate_left; focus (go_simp; try with_reducible rfl))
    simp only [Act.put, List.setIfInBounds_toArray, List.set_cons_zero, List.set_cons_succ]
    refine wpAnyH_ready (rs := [13]) (by kernel_rfl) (by simp) ?_
    refine AllReadyH.cons rfl (fun K hK => ?_) AllReadyH.nil
    refine step_store_head rfl _ _ rfl q zeroH (headMid V0 V1 V2 V3 [] [] 0) zeroH_fine HD0.out (by rfl) (by rfl) Kw1dqabcd.out ?_
    intro w9 o9 z9 b9
    have P9 := hide (o9.blk hSA5.2 (show ¬ p = q by have := HQ.out; omega))
    have S9 := hide (o9.under hSA5.1 (fun i hi => by have := HQ.out; have := HPS.out; omega))
    simp only [Act.put]
    refine hK.out _ _ (⟨S9.out, P9.out⟩) (fun hSA6 => ?_)
    clear hK K
    refine wpAnyH_done (by kernel_rfl) ?_ _
    rw [← headMid_zero V0 V1 V2 V3 X Y] at b9
    have B9 := hide b9
    clear b9 o9 z9
    go_wp2_with fail
    go_loopw [4] (fun i wr => ∃ j : Nat, j ≤ 32 ∧ i = .int .i64 (j : Int) ∧ Blk wr q 33 (headMid V0 V1 V2 V3 X Y j).cells ∧ Only (fun i => i = q) w9 wr) (fun i _ => 32 - (intOf i).toNat)
    case atStart => exact ⟨0, by decide, rfl, B9.out, Only.refl _ _⟩
    case round =>
      obtain ⟨j, hj, rfl, hK, hO⟩ := hrel
      have HK := hide hK
      have HO := hide hO
      clear hK hO
      by_cases hlt : j < 32
      · have i1 : (j : Int) < 32 := by omega
        obtain ⟨x, hx⟩ : ∃ x, X[j]? = some x := ⟨_, List.getElem?_eq_getElem (by have := HLX.out; have := HN.out; omega)⟩
        obtain ⟨y, hy⟩ : ∃ y, Y[j]? = some y := ⟨_, List.getElem?_eq_getElem (by have := HLX.out; have := HN.out; omega)⟩
        have hB9 := HB0.out.below (HO.out.under S9.out (fun i hi => by have := HQ.out; have := HPS.out; omega))
        obtain ⟨b', off', he, hc⟩ := hB9.2.2 (by have := HN.out; omega)
        injection he with he; injection he with he1 he2 _; subst he1; subst he2
        have c1 := hc (4 + j) x (by rw [← (HXY.out j hlt).1]; exact hx)
        have c2 := hc (36 + j) y (by rw [← (HXY.out j hlt).2]; exact hy)
        have hbq := hide (show ¬ b = q by
          have h1 := Bys.lt HB0.out (by have := HN.out; omega) _ rfl
          simp only at h1
          have := HQ.out; have := HPS.out; omega)
        have hff := HFin.out j hj
        obtain ⟨cv, hcv⟩ : ∃ v, (headMid V0 V1 V2 V3 X Y j).cells[1 + j]? = some v := ⟨_, List.getElem?_eq_getElem (by rw [HeadD.cells_len hff]; omega)⟩
        obtain ⟨cv2, hcv2⟩ : ∃ v, ((headMid V0 V1 V2 V3 X Y j).cells.set (1 + j) (.int .u8 x))[33 + j]? = some v := ⟨_, List.getElem?_eq_getElem (by rw [List.length_set, HeadD.cells_len hff]; omega)⟩
        have cx : wr.cell? ⟨q, 1 + j, none⟩ = some cv := by rw [HK.out.cell]; exact hcv
        have fx := HK.out.frozen (1 + j)
        have K7 := HK.out.set_ (1 + j) (.int .u8 x)
        have O7 := hide (Only.setCell (F := fun i => i = q) (p := ⟨q, 1 + j, none⟩) HO.out (.inr rfl) (.int .u8 x))
        have c2' : (wr.setCell ⟨q, 1 + j, none⟩ (.int .u8 x)).cell? ⟨b, off + (36 + j), none⟩ = some (.int .u8 y) := by
          rw [World.cell?_setCell_far _ _ _ _ (fun h => hbq.out h.symm)]; exact c2
        have cy : (wr.setCell ⟨q, 1 + j, none⟩ (.int .u8 x)).cell? ⟨q, 33 + j, none⟩ = some cv2 := by rw [K7.cell]; exact hcv2
        have fy := K7.frozen (33 + j)
        have K8 := K7.set_ (33 + j) (.int .u8 y)
        rw [headMid_next hff hlt hx hy] at K8
        have HK8 := hide K8
        have HO8 := hide (Only.setCell (F := fun i => i = q) (p := ⟨q, 33 + j, none⟩) O7.out (.inr rfl) (.int .u8 y))
        have i4 : (4 : Int) + (j : Int) < (n : Int) := by have := HN.out; omega
        have i36 : (36 : Int) + (j : Int) < (n : Int) := by have := HN.out; omega
        clear hB9 hc c2 hff hcv hcv2 K7 K8 O7 hx hy
        go_wp2_with fail
        exact ⟨⟨j + 1, by omega, by simp, HK8.out, HO8.out⟩, by simp [intOf]; omega⟩
      · obtain rfl : j = 32 := by omega
        have hld := loadHead_run wr q 0 _ HK.out.whole (HFin.out 32 (by decide))
        have P10 := hide (HO.out.blk P9.out (show ¬ p = q by have := HQ.out; omega))
        have S10 := hide (HO.out.under S9.out (fun i hi => by have := HQ.out; have := HPS.out; omega))
        go_wp2_with (refine wpList_store_head rfl _ _ rfl p zeroH (headMid V0 V1 V2 V3 X Y 32) zeroH_fine (HFin.out 32 (by decide)) (by rfl) (by rfl) P10.out ?_; intro w11 o11 z11 b11; simp only [Act.put])
        refine bodyPost_ret (results_head _ _ rfl _ _ p (headMid V0 V1 V2 V3 X Y 32) (HFin.out 32 (by decide)) (by rfl) b11) rfl ⟨?_, ?_⟩
        · rw [HR.out, headMid_full]
        · exact o11.under S10.out (fun i hi => by have := HPS.out; omega)
end Go.Proofs.Ytbpmcnfmgaolnaa
/-
  The document: a block parsed.
-/
namespace Go.Proofs.Ytbpmcnfmgaolnaa
open Go.RowKit

def raws (l : List Nat) (r : Rd) : Rd := l.foldl (fun (r : Rd) (k : Nat) => (r.raw (k : Int)).2) r
theorem raws_succ (l : List Nat) (j k : Nat) (h : l[j]? = some k) (r : Rd) : raws (l.take (j + 1)) r = ((raws (l.take j) r).raw (k : Int)).2 := by
  rw [List.take_add_one, h]
  simp [raws, List.foldl_append]
def headSizes : List Nat := [4, 32, 32, 4, 4, 4]
theorem head_rest (r : Rd) : r.head.2 = raws headSizes r := by
  unfold Rd.head
  split <;> rfl
theorem headOf_bytes (bs : List Int) (hb : Byt bs) (hl : 80 ≤ bs.length) : bs = (headOf bs).bytes ++ bs.drop 80 := by
  have g : ∀ k, k + 4 ≤ bs.length → dig (Int.toNat ((num ((bs.drop k).take 4) : Nat) : Int)) 4 = (bs.drop k).take 4 := fun k hk => by
    have h1 := dig_num ((bs.drop k).take 4) (fun x hx => hb x (List.mem_of_mem_drop (List.mem_of_mem_take hx)))
    have h2 : ((bs.drop k).take 4).length = 4 := by simp; omega
    rw [h2] at h1
    simpa using h1
  have g0 := g 0 (by omega)
  rw [List.drop_zero] at g0
  simp only [HeadD.bytes, headOf]
  rw [g0, g 68 (by omega), g 72 (by omega), g 76 (by omega)]
  have s : ∀ a b : Nat, (bs.drop a).take b ++ bs.drop (a + b) = bs.drop a := fun a b => by rw [← List.drop_drop, List.take_append_drop]
  simp only [List.append_assoc]
  have e0 := s 0 4
  rw [List.drop_zero] at e0
  rw [s 76 4, s 72 4, s 68 4, s 36 32, s 4 32, e0]
theorem headOf_fine (bs : List Int) (hb : Byt bs) (hl : 80 ≤ bs.length) : (headOf bs).Fine := by
  have h0 := num4_lt bs hb 0
  rw [List.drop_zero] at h0
  exact ⟨h0, by simp [headOf]; omega, fun x hx => hb x (List.mem_of_mem_drop (List.mem_of_mem_take hx)), by simp [headOf]; omega, fun x hx => hb x (List.mem_of_mem_drop (List.mem_of_mem_take hx)), num4_lt bs hb 68, num4_lt bs hb 72, num4_lt bs hb 76⟩
theorem headOf_head (bs : List Int) (hb : Byt bs) (hl : 80 ≤ bs.length) : Rd.head ⟨bs, 0⟩ = (headOf bs, ⟨bs.drop 80, 0⟩) := by
  have h := head_full (headOf bs) (headOf_fine bs hb hl) (bs.drop 80)
  rwa [← headOf_bytes bs hb hl] at h
theorem head_long (bs : List Int) (hb : Byt bs) (he : (Rd.head ⟨bs, 0⟩).2.err = 0) : 80 ≤ bs.length := by
  have h := (writes_head ⟨bs, 0⟩ hb he).2
  have h2 := HeadD.bytes_len (Rd.head_fine ⟨bs, 0⟩ hb)
  have h3 := congrArg List.length h
  rw [List.length_append, h2] at h3
  simp only at h3
  omega
theorem lay_head {a b : HeadD} (ha : a.Fine) (hb : b.Fine) (v : Value) : lay (a.cells ++ [v]) 0 b.cells = b.cells ++ [v] := by
  rw [lay_eq _ _ _ (by rw [List.length_append, HeadD.cells_len ha, HeadD.cells_len hb]; simp), HeadD.cells_len hb]
  simp only [List.take_zero, List.nil_append, Nat.zero_add]
  rw [show 68 = a.cells.length by rw [HeadD.cells_len ha], List.drop_left]
theorem step_store_bk {ops : Array Oper} {op : Oper} {a : Act} {w : World} {K : Act → World → Prop} {Q : Exit → Act → World → Prop} {E : Prop} (hgd : op.guard = none) (x y : Operand) (ho : op.op = .store 40 x y)
    (g : Nat) (c d : BlkV) (hc : c.head.Fine) (hd : d.head.Fine) (hx : a.eval x = .pointer (some ⟨g, 0, none⟩)) (hy : a.eval y = .agg d.cells.toArray) (hb : Blk w g 40 c.cells)
    (h : ∀ w', Only (fun i => i = g) w w' → w'.heap.size = w.heap.size → Blk w' g 40 d.cells → K (a.put op.dst undef) w') :
    if Region.wanted op (yielded ops a.tmps) = true then Oper.wp Try.prog op a w K Q else E := by
  refine step_store_blk hgd 40 x y ho g 0 40 c.cells d.cells hx hy hb (by rw [BlkV.cells_len hc, BlkV.cells_len hd]; exact Nat.le_refl _) (by rw [BlkV.cells_len hd]; exact isBlk) (BlkV.one d) ?_
  intro w' o z b
  rw [lay_all _ _ (by rw [BlkV.cells_len hc, BlkV.cells_len hd])] at b
  exact h w' o z b
theorem RdAt.only_keep {T : TypeId} {w w' : World} {g h : Nat} {r : Rd} (hR : RdAt T w g h r) {F : Nat → Prop} (ho : Only F w w') (hg : ¬ F g) (hh : ¬ F h) : RdAt T w' g h r := hR.keep ho hg hh
attribute [local go_sem ↓] loadHead_fold loadBlk_fold mkHead_fold mkBlk_fold mkTxs_fold
attribute [local go_sem] mkBlk_zero
set_option maxHeartbeats 8000000 in
set_option maxRecDepth 100000 in
theorem refBParse_any (w : World) (A : Option Addr) (n c : Nat) (bs : List Int) (hB : Bys w A n bs) (hc : n ≤ c) (hn : n ≤ 1000000000) :
    Calls Try.prog 40 #[.slice A n c] w (ParseBPost w bs) := by
  have b0 : Below w.heap.size w (w.alloc (.cells zeroB.cells.toArray 40)) := (Below.refl _ w).alloc (Nat.le_refl _) _
  obtain ⟨h, hR1, hk⟩ := scan_new w (w.alloc (.cells zeroB.cells.toArray 40)) A n c bs hB hc hn b0
  have hsz : (w.alloc (.cells zeroB.cells.toArray 40)).heap.size = w.heap.size + 1 := by simp
  rw [hsz] at hR1 hk
  obtain ⟨w1, hw1⟩ : ∃ w1, w1 = (w.alloc (.cells zeroB.cells.toArray 40)).alloc (.cells #[.slice A n c, .int .i64 0] 128) := ⟨_, rfl⟩
  rw [← hw1] at hR1
  have B1 := hide (show Blk w1 w.heap.size 40 zeroB.cells by rw [hw1]; exact (Blk.new w 40 zeroB.cells).alloc _)
  have hb1 := hide (show Below w.heap.size w w1 by rw [hw1]; exact below_alloc (below_alloc (Below.refl _ _) _) _)
  have hs1 := hide (show w1.heap.size = w.heap.size + 2 by rw [hw1]; simp)
  obtain ⟨g, hg⟩ : ∃ g, g = w.heap.size + 1 := ⟨_, rfl⟩
  rw [← hg] at hR1 hk
  have HG := hide hg
  have HK := hide (show h < w.heap.size ∨ h = g from hk)
  have HB := hide hB
  have HN := hide hn
  have HCP := hide hc
  have R1 := hide hR1
  clear hB hn hc b0 hsz hk hR1
  go_enter Try.func40, Try.ntmps40
  go_wp2_with (refine wpList_alloc_agg rfl 40 rfl zeroB.cells zeroBlk_info ?_; simp only [Act.put, List.setIfInBounds_toArray, List.set_cons_zero, List.set_cons_succ])
  rw [← hw1, ← hg]
  clear hw1 hg
  have KI2 := hide (Blk.new w1 3 [Value.int .i64 4, .int .i64 32, .int .i64 32, .int .i64 4, .int .i64 4, .int .i64 4])
  have R2 := hide (R1.out.below ((Below.refl _ w1).alloc (Nat.le_refl _) (.cells #[Value.int .i64 4, .int .i64 32, .int .i64 32, .int .i64 4, .int .i64 4, .int .i64 4] 3)))
  have B2 := hide (B1.out.alloc (.cells #[Value.int .i64 4, .int .i64 32, .int .i64 32, .int .i64 4, .int .i64 4, .int .i64 4] 3))
  have Bw2 := hide (below_alloc hb1.out (.cells #[Value.int .i64 4, .int .i64 32, .int .i64 32, .int .i64 4, .int .i64 4, .int .i64 4] 3))
  obtain ⟨w2, hw2⟩ : ∃ x, x = w1.alloc (.cells #[Value.int .i64 4, .int .i64 32, .int .i64 32, .int .i64 4, .int .i64 4, .int .i64 4] 3) := ⟨_, rfl⟩
  have KI := hide (show Blk w2 (g + 1) 3 [Value.int .i64 4, .int .i64 32, .int .i64 32, .int .i64 4, .int .i64 4, .int .i64 4] by
    have hx1 := KI2.out
    rw [hs1.out] at hx1
    rw [hw2, HG.out]
    exact hx1)
  rw [← hw2] at R2 B2 Bw2 ⊢
  clear hw2 KI2 R1 B1 hb1
  go_loopw [15] (fun i ws => ∃ j : Nat, j ≤ 6 ∧ i = .int .i64 (j : Int) ∧ RdAt 128 ws g h (raws (headSizes.take j) ⟨bs, 0⟩) ∧ Only (fun i => i = g) w2 ws) (fun i _ => 6 - (intOf i).toNat)
  case atStart => exact ⟨0, by decide, rfl, R2.out, Only.refl _ _⟩
  case round =>
    obtain ⟨j, hj, rfl, hR, hO⟩ := hrel
    have HR := hide hR
    have HO := hide hO
    clear hR hO
    by_cases hlt : j < 6
    · have i1 : (j : Int) < 6 := by omega
      obtain ⟨z, hz⟩ : ∃ z, headSizes[j]? = some z := ⟨_, List.getElem?_eq_getElem hlt⟩
      have c1 : wr.cell? ⟨g + 1, j, none⟩ = some (.int .i64 (z : Int)) := by
        rw [(HO.out.blk KI.out (show ¬ g + 1 = g by omega)).cell, show ([Value.int .i64 4, .int .i64 32, .int .i64 32, .int .i64 4, .int .i64 4, .int .i64 4] : List Value) = headSizes.map (fun (k : Nat) => Value.int .i64 (k : Int)) from rfl, List.getElem?_map, hz]; rfl
      have HZ := hide (raws_succ headSizes j z hz ⟨bs, 0⟩)
      clear hz
      go_wp2_with fail
      refine (refraw_any _ g h _ _ HR.out).mono ?_
      rintro e w3 ⟨A3, n3, c3, rfl, _, _, _, hR3, o3⟩
      rw [← HZ.out] at hR3
      have HR3 := hide hR3
      have HO3 := hide (HO.out.trans o3 (fun _ _ h => h))
      clear hR3 o3
      go_wp2_with fail
      exact ⟨⟨j + 1, by omega, by simp, HR3.out, HO3.out⟩, by simp [intOf]; omega⟩
    · obtain rfl : j = 6 := by omega
      have e6 : headSizes.take 6 = headSizes := rfl
      obtain ⟨r2, hr2⟩ : ∃ r2, r2 = raws headSizes ⟨bs, 0⟩ := ⟨_, rfl⟩
      have R3 := hide (show RdAt 128 wr g h r2 by rw [hr2, ← e6]; exact HR.out)
      have HHD := hide (show (Rd.head ⟨bs, 0⟩).2 = r2 by rw [head_rest, hr2])
      have hgv := hide (show ¬ w.heap.size = g by have := HG.out; omega)
      have B3 := hide (HO.out.blk B2.out hgv.out)
      have Bw3 := hide (Bw2.out.trans (HO.out.below Bw2.out.size (fun i hi e => by have h9 : i = g := e; have := HG.out; omega)))
      have hs3 := hide (show g + 1 < wr.heap.size from (HO.out.blk KI.out (show ¬ g + 1 = g by omega)).lt)
      clear HR HO KI R2 B2 Bw2 hr2 e6
      go_wp2_with fail
      refine (refcountof_any _ g h _ 100 R3.out (by decide)).mono ?_
      rintro e w5 ⟨rfl, hR5, o5⟩
      have hNm := count_most r2 100
      obtain ⟨N, r4, h4⟩ : ∃ N r4, r2.count 100 = (N, r4) := ⟨_, _, rfl⟩
      have e100 : (100 : Int).toNat = 100 := rfl
      rw [e100] at hR5 ⊢
      rw [h4] at hR5 hNm ⊢
      simp only at hR5 hNm ⊢
      have H4 := hide h4
      have R4 := hide hR5
      have B4 := hide (o5.blk B3.out hgv.out)
      have Bw4 := hide (Bw3.out.trans (o5.below Bw3.out.size (fun i hi e => by have h9 : i = g := e; have := HG.out; omega)))
      have hs4 := hide (show g < w5.heap.size from Nat.lt_of_lt_of_le (by have := hs3.out; omega) o5.size)
      have HNM := hide hNm
      have hcv : IntKind.i64.wrap (N : Int) = (N : Int) := by rw [IntKind.wrap_i64]; omega
      clear h4 e100 hR5 o5 R3 B3 Bw3 hNm hs3
      obtain ⟨w4, hw4⟩ : ∃ x, x = w5 := ⟨_, rfl⟩
      rw [← hw4] at R4 B4 Bw4 hs4 ⊢
      clear hw4
      have KZ4 := hide (Blk.new w4 40 zeroB.cells)
      obtain ⟨p, hp⟩ : ∃ p, p = w4.heap.size := ⟨_, rfl⟩
      have HP := hide hp
      clear hp
      go_wp2_with (first
        | (refine wpList_alloc_agg rfl 40 rfl zeroB.cells zeroBlk_info ?_; simp only [Act.put, List.setIfInBounds_toArray, List.set_cons_zero, List.set_cons_succ])
        | (refine wpList_store_bk rfl _ _ rfl w4.heap.size zeroB zeroB zeroH_fine zeroH_fine (by rfl) (by rfl) KZ4.out ?_; intro w5 o3 z3 b3; rw [← HP.out] at o3 b3 ⊢; have K5 := hide b3; have O45 := hide (((Only.refl (fun i => i = p) w4).alloc (.cells zeroB.cells.toArray 40)).trans o3 (fun _ _ h => h)); clear o3 z3 b3; simp only [Act.put]))
      have hnp := hide (show ¬ p = g ∧ ¬ p = h ∧ ¬ w.heap.size = g ∧ ¬ w.heap.size = p ∧ w.heap.size < p ∧ g < p ∧ h < p by have := HG.out; have := HP.out; have := hs4.out; have := HK.out; omega)
      have B5 := hide (O45.out.blk B4.out hnp.out.2.2.2.1)
      have R5 := hide (R4.out.keep O45.out (fun e => hnp.out.1 e.symm) (fun e => hnp.out.2.1 e.symm))
      have Bw5 := hide (Bw4.out.trans (O45.out.below Bw4.out.size (fun i hi e => by have h9 : i = p := e; have := hnp.out; omega)))
      have hs5 := hide (show p < w5.heap.size from K5.out.lt)
      have HDF := hide zeroH_fine
      obtain ⟨hd, hhd⟩ : ∃ hd, hd = zeroH := ⟨_, rfl⟩
      have K5' := hide (show Blk w5 p 40 (hd.cells ++ [.slice none 0 0]) by rw [hhd]; exact K5.out)
      rw [← hhd] at HDF
      clear KZ4 O45 B4 Bw4 R4 K5 hcv hhd
      go_loopw [9] (fun i ws => ∃ (j : Nat) (xs : List TxV) (tA : Option Addr) (tC : Nat), j ≤ N ∧ i = .int .i64 (j : Int) ∧ TxsAt 128 w5 ws g h p hd r4 j xs tA tC) (fun i _ => N - (intOf i).toNat)
      case atStart => exact ⟨0, [], none, 0, by omega, rfl, rfl, rfl, R5.out, K5'.out, Nat.le_refl _, World.ownsRow_nil _ _ _ _, (by simp), (by simp), Only.refl _ _⟩
      case round =>
        obtain ⟨j, xs, tA, tC, hj, rfl, hI⟩ := hrel
        by_cases hlt : j < N
        · have hI0 := hide hI
          obtain ⟨r3, hr3⟩ : ∃ r3, r3 = (Rd.rep Rd.tx j r4).2 := ⟨_, rfl⟩
          have HR3 := hide hr3
          have i1 : (j : Int) < (N : Int) := by omega
          have hu : IntKind.i64.wrap ((j : Int) + 1) = (j : Int) + 1 := by rw [IntKind.wrap_i64]; have := HNM.out; omega
          have hj9 := hide (show j ≤ 100 by have := HNM.out; omega)
          clear hI hr3
          go_wp2_with fail
          have hId := hI0.out.drew
          refine wp_region_held_drew (S := fun _ => True) (by kernel_rfl) (trivial) (fun hSA0 => ?_)
          obtain ⟨wrd, hwA⟩ : ∃ x, x = wr.drew := ⟨_, rfl⟩
          rw [← hwA] at hId ⊢
          have hIa := hide hId
          have Ka := hide hId.blk
          have Ra := hide (show RdAt 128 wrd g h r3 by rw [HR3.out]; exact hId.rd)
          clear hId hI0
          clear hwA
          (refine wpAnyH_take (i := 0) (oi := ⟨some 32, .fieldAddr 40 (.tmp 8) 1, 0, "ref.go:91", #[], none⟩) (v := ?_) rfl (by kernel_rfl) (by kernel_rfl) (by kernel_rfl) (fun _ _ _ h => h) (Or.inl ⟨by rfl, fun w' hSw => ?_⟩) hSA0 ?_; rotate_left; focus (go_simp; try with_reducible rfl))
          simp only [Act.put, List.setIfInBounds_toArray, List.set_cons_zero, List.set_cons_succ]
          (refine wpAnyH_take (i := 2) (oi := ⟨some 34, .move (.tmp 4), 126, "ref.go:91", #[], none⟩) (v := ?_) rfl (by kernel_rfl) (by kernel_rfl) (by kernel_rfl) (fun _ _ _ h => h) (Or.inl ⟨by rfl, fun w' hSw => ?_⟩) hSA0 ?_; rotate_left; focus (go_simp; try with_reducible rfl))
          simp only [Act.put, List.setIfInBounds_toArray, List.set_cons_zero, List.set_cons_succ]
          refine wpAnyH_ready (rs := [1, 3]) (by kernel_rfl) (by simp) ?_
          refine AllReadyH.cons rfl (fun K hK => ?_) (AllReadyH.cons rfl (fun K hK => ?_) AllReadyH.nil)
          · have c1 := cell68 Ka.out HDF.out
            go_simp
            refine hK.out _ _ (trivial) (fun hSA1 => ?_)
            clear hK K
            refine wpAnyH_ready (rs := [3]) (by kernel_rfl) (by simp) ?_
            refine AllReadyH.cons rfl (fun K hK => ?_) AllReadyH.nil
            go_simp
            refine (refTRead_any wrd g h _ Ra.out).mono ?_
            rintro e wb ⟨a, rfl, had, hfb, hsm, hRb, ob⟩
            go_simp
            have Kb := hide (ob.blk Ka.out hnp.out.1)
            have HRb := hide hRb
            have HOb := hide ob
            have HAD := hide had
            have HFB := hide hfb
            have HSM := hide hsm
            have hmks := mkTxs_run wb a
            clear hRb ob had hfb hsm
            refine hK.out _ _ (trivial) (fun hSA2 => ?_)
            clear hK K
            refine wpAnyH_ready (rs := [4]) (by kernel_rfl) (by simp) ?_
            refine AllReadyH.cons rfl (fun K hK => ?_) AllReadyH.nil
            have hmk1 := hmks
            go_simp
            refine hK.out _ _ (trivial) (fun hSA3 => ?_)
            clear hK K
            refine wpAnyH_ready (rs := [5]) (by kernel_rfl) (by simp) ?_
            refine AllReadyH.cons rfl (fun K hK => ?_) AllReadyH.nil
            have hOc := HOb.out.alloc (.cells a.cells.toArray 37)
            have hrc := hOc.own hIa.out.row (fun q hq e => by have := (hIa.out.row.lt q hq).1; have h9 : q = g := e; have := hs5.out; have := hnp.out; omega)
            refine step_row rfl 37 rfl _ _ 38 rfl 37 4 64 Try.underlying38 tx_infoR (by decide) w5.heap.size (.slice tA j tC) j (xs.flatMap TxV.cells) (by rfl) hrc (Nat.le_trans hIa.out.only.size hOc.size) wb.heap.size 0 1 1 a.cells (by rfl) rfl (Blk.new wb 37 a.cells).whole (TxV.one a) (by have := hj9.out; omega) (by decide) ?_
            intro A9 c9 w9 q1 q2 q3 q4
            have hT9 := q4.blk (hOc.blk hIa.out.blk hnp.out.1) (fun e => by have := (hIa.out.row.lt _ e).1; have := hs5.out; omega)
            have hfin := hide (hIa.out.next HDF.out HR3.out HAD.out HFB.out HSM.out HOb.out (HRb.out.below (below_alloc (Below.refl _ wb) (.cells a.cells.toArray 37))) q1 q2 q3 q4 (by have := hs5.out; have := hnp.out; omega) (by have := hs5.out; have := hnp.out; omega) hs5.out hnp.out.1 hnp.out.2.1)
            have c1 := cell68 hT9 HDF.out
            have f1 := hT9.frozen 68
            clear q1 q2 q3 q4 hT9 hOc hrc
            refine hK.out _ _ (trivial) (fun hSA4 => ?_)
            clear hK K
            (refine wpAnyH_take (i := 6) (oi := ⟨some 38, .fieldAddr 40 (.tmp 8) 1, 0, "ref.go:91", #[⟨0, .phase⟩, ⟨1, .phase⟩, ⟨2, .phase⟩, ⟨3, .phase⟩, ⟨4, .phase⟩, ⟨5, .phase⟩], none⟩) (v := ?_) rfl (by kernel_rfl) (by kernel_rfl) (by kernel_rfl) (fun _ _ _ h => h) (Or.inl ⟨by rfl, fun w' hSw => ?_⟩) hSA4 ?_; rotate_left; focus (go_simp; try with_reducible rfl))
            simp only [Act.put, List.setIfInBounds_toArray, List.set_cons_zero, List.set_cons_succ]
            refine wpAnyH_ready (rs := [7]) (by kernel_rfl) (by simp) ?_
            refine AllReadyH.cons rfl (fun K hK => ?_) AllReadyH.nil
            go_simp
            refine hK.out _ _ (trivial) (fun hSA5 => ?_)
            clear hK K
            refine wpAnyH_done (by kernel_rfl) ?_ _
            go_wp2_with fail
            exact ⟨⟨.int .i64 ((j : Int) + 1), _, _, _, _, _, _, _, _, _, _, _, _, ⟨j + 1, xs ++ [a], A9, c9, by omega, by simp, hfin.out⟩, rfl⟩, by simp [intOf]; omega⟩
          · go_simp
            refine (refTRead_any wrd g h _ Ra.out).mono ?_
            rintro e wb ⟨a, rfl, had, hfb, hsm, hRb, ob⟩
            go_simp
            have Kb := hide (ob.blk Ka.out hnp.out.1)
            have HRb := hide hRb
            have HOb := hide ob
            have HAD := hide had
            have HFB := hide hfb
            have HSM := hide hsm
            have hmks := mkTxs_run wb a
            clear hRb ob had hfb hsm
            refine hK.out _ _ (trivial) (fun hSA1 => ?_)
            clear hK K
            refine wpAnyH_ready (rs := [1, 4]) (by kernel_rfl) (by simp) ?_
            refine AllReadyH.cons rfl (fun K hK => ?_) (AllReadyH.cons rfl (fun K hK => ?_) AllReadyH.nil)
            · have c1 := cell68 Kb.out HDF.out
              go_simp
              refine hK.out _ _ (trivial) (fun hSA2 => ?_)
              clear hK K
              refine wpAnyH_ready (rs := [4]) (by kernel_rfl) (by simp) ?_
              refine AllReadyH.cons rfl (fun K hK => ?_) AllReadyH.nil
              have hmk1 := hmks
              go_simp
              refine hK.out _ _ (trivial) (fun hSA3 => ?_)
              clear hK K
              refine wpAnyH_ready (rs := [5]) (by kernel_rfl) (by simp) ?_
              refine AllReadyH.cons rfl (fun K hK => ?_) AllReadyH.nil
              have hOc := HOb.out.alloc (.cells a.cells.toArray 37)
              have hrc := hOc.own hIa.out.row (fun q hq e => by have := (hIa.out.row.lt q hq).1; have h9 : q = g := e; have := hs5.out; have := hnp.out; omega)
              refine step_row rfl 37 rfl _ _ 38 rfl 37 4 64 Try.underlying38 tx_infoR (by decide) w5.heap.size (.slice tA j tC) j (xs.flatMap TxV.cells) (by rfl) hrc (Nat.le_trans hIa.out.only.size hOc.size) wb.heap.size 0 1 1 a.cells (by rfl) rfl (Blk.new wb 37 a.cells).whole (TxV.one a) (by have := hj9.out; omega) (by decide) ?_
              intro A9 c9 w9 q1 q2 q3 q4
              have hT9 := q4.blk (hOc.blk hIa.out.blk hnp.out.1) (fun e => by have := (hIa.out.row.lt _ e).1; have := hs5.out; omega)
              have hfin := hide (hIa.out.next HDF.out HR3.out HAD.out HFB.out HSM.out HOb.out (HRb.out.below (below_alloc (Below.refl _ wb) (.cells a.cells.toArray 37))) q1 q2 q3 q4 (by have := hs5.out; have := hnp.out; omega) (by have := hs5.out; have := hnp.out; omega) hs5.out hnp.out.1 hnp.out.2.1)
              have c1 := cell68 hT9 HDF.out
              have f1 := hT9.frozen 68
              clear q1 q2 q3 q4 hT9 hOc hrc
              refine hK.out _ _ (trivial) (fun hSA4 => ?_)
              clear hK K
              (refine wpAnyH_take (i := 6) (oi := ⟨some 38, .fieldAddr 40 (.tmp 8) 1, 0, "ref.go:91", #[⟨0, .phase⟩, ⟨1, .phase⟩, ⟨2, .phase⟩, ⟨3, .phase⟩, ⟨4, .phase⟩, ⟨5, .phase⟩], none⟩) (v := ?_) rfl (by kernel_rfl) (by kernel_rfl) (by kernel_rfl) (fun _ _ _ h => h) (Or.inl ⟨by rfl, fun w' hSw => ?_⟩) hSA4 ?_; rotate_left; focus (go_simp; try with_reducible rfl))
              simp only [Act.put, List.setIfInBounds_toArray, List.set_cons_zero, List.set_cons_succ]
              refine wpAnyH_ready (rs := [7]) (by kernel_rfl) (by simp) ?_
              refine AllReadyH.cons rfl (fun K hK => ?_) AllReadyH.nil
              go_simp
              refine hK.out _ _ (trivial) (fun hSA5 => ?_)
              clear hK K
              refine wpAnyH_done (by kernel_rfl) ?_ _
              go_wp2_with fail
              exact ⟨⟨.int .i64 ((j : Int) + 1), _, _, _, _, _, _, _, _, _, _, _, _, ⟨j + 1, xs ++ [a], A9, c9, by omega, by simp, hfin.out⟩, rfl⟩, by simp [intOf]; omega⟩
            · have hmk1 := hmks
              go_simp
              refine hK.out _ _ (trivial) (fun hSA2 => ?_)
              clear hK K
              refine wpAnyH_ready (rs := [1]) (by kernel_rfl) (by simp) ?_
              refine AllReadyH.cons rfl (fun K hK => ?_) AllReadyH.nil
              have c1 := cell68 (Kb.out.alloc (.cells a.cells.toArray 37)) HDF.out
              go_simp
              refine hK.out _ _ (trivial) (fun hSA3 => ?_)
              clear hK K
              refine wpAnyH_ready (rs := [5]) (by kernel_rfl) (by simp) ?_
              refine AllReadyH.cons rfl (fun K hK => ?_) AllReadyH.nil
              have hOc := HOb.out.alloc (.cells a.cells.toArray 37)
              have hrc := hOc.own hIa.out.row (fun q hq e => by have := (hIa.out.row.lt q hq).1; have h9 : q = g := e; have := hs5.out; have := hnp.out; omega)
              refine step_row rfl 37 rfl _ _ 38 rfl 37 4 64 Try.underlying38 tx_infoR (by decide) w5.heap.size (.slice tA j tC) j (xs.flatMap TxV.cells) (by rfl) hrc (Nat.le_trans hIa.out.only.size hOc.size) wb.heap.size 0 1 1 a.cells (by rfl) rfl (Blk.new wb 37 a.cells).whole (TxV.one a) (by have := hj9.out; omega) (by decide) ?_
              intro A9 c9 w9 q1 q2 q3 q4
              have hT9 := q4.blk (hOc.blk hIa.out.blk hnp.out.1) (fun e => by have := (hIa.out.row.lt _ e).1; have := hs5.out; omega)
              have hfin := hide (hIa.out.next HDF.out HR3.out HAD.out HFB.out HSM.out HOb.out (HRb.out.below (below_alloc (Below.refl _ wb) (.cells a.cells.toArray 37))) q1 q2 q3 q4 (by have := hs5.out; have := hnp.out; omega) (by have := hs5.out; have := hnp.out; omega) hs5.out hnp.out.1 hnp.out.2.1)
              have c1 := cell68 hT9 HDF.out
              have f1 := hT9.frozen 68
              clear q1 q2 q3 q4 hT9 hOc hrc
              refine hK.out _ _ (trivial) (fun hSA4 => ?_)
              clear hK K
              (refine wpAnyH_take (i := 6) (oi := ⟨some 38, .fieldAddr 40 (.tmp 8) 1, 0, "ref.go:91", #[⟨0, .phase⟩, ⟨1, .phase⟩, ⟨2, .phase⟩, ⟨3, .phase⟩, ⟨4, .phase⟩, ⟨5, .phase⟩], none⟩) (v := ?_) rfl (by kernel_rfl) (by kernel_rfl) (by kernel_rfl) (fun _ _ _ h => h) (Or.inl ⟨by rfl, fun w' hSw => ?_⟩) hSA4 ?_; rotate_left; focus (go_simp; try with_reducible rfl))
              simp only [Act.put, List.setIfInBounds_toArray, List.set_cons_zero, List.set_cons_succ]
              refine wpAnyH_ready (rs := [7]) (by kernel_rfl) (by simp) ?_
              refine AllReadyH.cons rfl (fun K hK => ?_) AllReadyH.nil
              go_simp
              refine hK.out _ _ (trivial) (fun hSA5 => ?_)
              clear hK K
              refine wpAnyH_done (by kernel_rfl) ?_ _
              go_wp2_with fail
              exact ⟨⟨.int .i64 ((j : Int) + 1), _, _, _, _, _, _, _, _, _, _, _, _, ⟨j + 1, xs ++ [a], A9, c9, by omega, by simp, hfin.out⟩, rfl⟩, by simp [intOf]; omega⟩
        · obtain rfl : N = j := by omega
          have i1 : ¬ (N : Int) < (N : Int) := by omega
          have HI := hide hI
          obtain ⟨r5, hr5⟩ : ∃ r5, r5 = (Rd.rep Rd.tx N r4).2 := ⟨_, rfl⟩
          have HRD : Hid (RdAt 128 wr g h r5) := hide (by rw [hr5]; exact hI.rd)
          have hpb := hide (show parseB bs = if r5.err ≠ 0 then (zeroBD, r5.err) else if 0 < r5.rest.length then (zeroBD, 62) else (⟨(Rd.head ⟨bs, 0⟩).1, xs.map TxV.d⟩, 0) by
            unfold parseB
            simp only [Rd.blk, HHD.out, H4.out]
            rw [← hr5, ← hI.data])
          have HBr := hide (hI.only.blk B5.out (fun e => by rcases e with e | e; exact hnp.out.2.2.1 e; exact hnp.out.2.2.2.1 e))
          have Bwr := hide (show Below w.heap.size w wr from Bw5.out.trans (hI.only.below Bw5.out.size (fun i hi e => by have := hnp.out; have := HG.out; rcases e with e | e <;> omega)))
          have hup := hide (show r5.err = 0 → r2.err = 0 from fun he => by
            have e4 : r4.err = 0 := by
              have h1 : (Rd.rep Rd.tx N r4).2.err = 0 := by rw [← hr5]; exact he
              exact Sticky.up (f := Rd.rep Rd.tx N) (rep_sticky tx_sticky N) (rfl : Rd.rep Rd.tx N r4 = (_, _)) h1
            exact Sticky.up (f := fun r => r.count 100) (fun r hr => sticky_count r 100 hr) H4.out e4)
          clear hI hr5
          obtain ⟨A5, n5, c5, hG5, hbys5, hcc5, hq5, hlt5, hn5⟩ := HRD.out
          obtain rfl : n5 = r5.rest.length := hbys5.1.symm
          have HG5 := hide hG5
          have e1 := hG5.c1
          have e0 := hG5.c0
          clear hG5 hbys5 hcc5 hq5 hlt5 hn5
          by_cases he : r5.err = 0
          · have hc : (r5.err == 0) = true := by simp [he]
            have hc2 : (r5.err != 0) = false := by simp [he]
            have h80 := hide (head_long bs HB.out.2.1 (by rw [HHD.out]; exact hup.out he))
            by_cases hl : 0 < r5.rest.length
            · have hl1 : (0 : Int) < (r5.rest.length : Int) := by omega
              have HPB := hide (show parseB bs = (zeroBD, 62) by rw [hpb.out, if_neg (fun h => h he), if_pos hl])
              go_wp2_with (refine wpList_store_bk rfl _ _ rfl w.heap.size zeroB zeroB zeroH_fine zeroH_fine (by rfl) (by rfl) HBr.out ?_; intro w9 o9 z9 b9; simp only [Act.put])
              refine bodyPost_ret (results_blk_tmp _ _ _ rfl _ _ w.heap.size zeroB zeroH_fine (by rfl) b9) rfl ⟨zeroB, by rw [HPB.out]; rfl, by rw [HPB.out]; rfl, zeroB_fine _, zeroB_small, ?_⟩
              exact Bwr.out.trans (o9.below Bwr.out.size (fun i hi e => by have h9 : i = w.heap.size := e; omega))
            · have hl1 : ¬ (0 : Int) < (r5.rest.length : Int) := by omega
              have HHF := hide (headOf_fine bs HB.out.2.1 h80.out)
              have HPB := hide (show parseB bs = (⟨headOf bs, xs.map TxV.d⟩, 0) by rw [hpb.out, if_neg (fun h => h he), if_neg hl, headOf_head bs HB.out.2.1 h80.out])
              obtain ⟨d, hd9⟩ : ∃ d, d = headOf bs := ⟨_, rfl⟩
              have HD9 := hide hd9
              have hlen := hide HB.out.1
              go_wp2_with fail
              refine (refHeadOf_any wr A n c bs (HB.out.below Bwr.out) (by have := h80.out; have := hlen.out; omega) HCP.out).mono ?_
              rintro e w10 ⟨rfl, h10⟩
              rw [← hd9]
              clear hd9
              rw [← HD9.out] at HHF HPB
              have P10 := hide (HI.out.blk.under h10)
              have H10 := hide h10
              clear h10
              obtain ⟨W9, hW9⟩ : ∃ W9 : BlkV, W9 = ⟨d, tA, N, tC, xs⟩ := ⟨_, rfl⟩
              have HWF := hide (show W9.head.Fine by rw [hW9]; exact HHF.out)
              have HW9 := hide hW9
              clear hW9
              have B10 := hide (HBr.out.under H10.out)
              go_wp2_with (first
                | (refine wpList_store_blk rfl 33 _ _ rfl p 0 40 (hd.cells ++ [.slice tA N tC]) d.cells (by rfl) (by rfl) P10.out (by rw [List.length_append, HeadD.cells_len HDF.out, HeadD.cells_len HHF.out]; simp) (by rw [HeadD.cells_len HHF.out]; exact isHead) (HeadD.one d) ?_; intro w11 o11 z11 b11; rw [lay_head HDF.out HHF.out] at b11; have K11 := hide (show Blk w11 p 40 W9.cells by rw [HW9.out]; exact b11); have hld := loadBlk_run w11 p 0 W9 K11.out.whole HWF.out; have B11 := hide (o11.blk B10.out hnp.out.2.2.2.1); have O11 := hide o11; clear o11 z11 b11; simp only [Act.put])
                | (refine wpList_store_bk rfl _ _ rfl w.heap.size zeroB W9 zeroH_fine HWF.out (by rfl) (by rfl) B11.out ?_; intro w12 o12 z12 b12; simp only [Act.put]))
              have hall := (Only.of_below H10.out (fun i => i = p ∨ i = w.heap.size)).trans ((O11.out.mono (fun i _ e => (.inl e : i = p ∨ i = w.heap.size))).trans (o12.mono (fun i _ e => (.inr e : i = p ∨ i = w.heap.size))) (fun i _ e => e)) (fun _ _ e => e)
              refine bodyPost_ret (results_blk_tmp _ _ _ rfl _ _ w.heap.size W9 HWF.out (by rfl) b12) rfl ⟨W9, by rw [HPB.out]; rfl, by rw [HPB.out, HW9.out]; rfl, ?_, ?_, ?_⟩
              · rw [HW9.out]
                exact ⟨HHF.out, HI.out.later (hall.mono (fun i _ e => by have := hnp.out; have := hs5.out; rcases e with e | e <;> omega)), HI.out.cap⟩
              · rw [HW9.out]
                exact ⟨by show N ≤ 1000; have := HNM.out; omega, HI.out.small⟩
              · exact Bwr.out.trans (hall.below Bwr.out.size (fun i hi e => by have := hnp.out; rcases e with e | e <;> omega))
          · have hc : (r5.err == 0) = false := by simpa using he
            have hc2 : (r5.err != 0) = true := by simpa using he
            have HPB := hide (show parseB bs = (zeroBD, r5.err) by rw [hpb.out, if_pos he])
            go_wp2_with fail
            refine wp_region_held_drew (S := fun w' => Only (fun i => i = w.heap.size) wr w') (by kernel_rfl) (by exact (Only.refl _ _).drew) (fun hSB0 => ?_)
            obtain ⟨wrd, hwB⟩ : ∃ x, x = wr.drew := ⟨_, rfl⟩
            have HBrd := hide (show Blk wrd w.heap.size 40 zeroB.cells by rw [hwB]; exact HBr.out)
            have hgv2 := hide (show ¬ g = w.heap.size by have := HG.out; omega)
            rw [← hwB] at hSB0 ⊢
            clear e1 e0
            clear hwB
            (refine wpAnyH_take (i := 0) (oi := ⟨some 44, .build 40 #[], 40, "ref.go:94", #[], none⟩) (v := ?_) rfl (by kernel_rfl) (by kernel_rfl) (by kernel_rfl) (fun _ _ _ h => h) (Or.inl ⟨by rfl, fun w' hSw => ?_⟩) hSB0 ?_; rotate_left; focus (go_simp; try with_reducible rfl))
            simp only [Act.put, List.setIfInBounds_toArray, List.set_cons_zero, List.set_cons_succ]
            (refine wpAnyH_take (i := 1) (oi := ⟨some 45, .move (.tmp 4), 126, "ref.go:94", #[⟨5, .gcOnly .lateStores⟩], none⟩) (v := ?_) rfl (by kernel_rfl) (by kernel_rfl) (by kernel_rfl) (fun _ _ _ h => h) (Or.inl ⟨by rfl, fun w' hSw => ?_⟩) hSB0 ?_; rotate_left; focus (go_simp; try with_reducible rfl))
            simp only [Act.put, List.setIfInBounds_toArray, List.set_cons_zero, List.set_cons_succ]
            (refine wpAnyH_take (i := 2) (oi := ⟨some 46, .nilCheck (.tmp 45), 0, "ref.go:94", #[⟨1, .data⟩, ⟨5, .gcOnly .lateStores⟩], none⟩) (v := ?_) rfl (by kernel_rfl) (by kernel_rfl) (by kernel_rfl) (fun _ _ _ h => h) (Or.inl ⟨by rfl, fun w' hSw => ?_⟩) hSB0 ?_; rotate_left; focus (go_simp; try with_reducible rfl))
            simp only [Act.put, List.setIfInBounds_toArray, List.set_cons_zero, List.set_cons_succ]
            (refine wpAnyH_take (i := 3) (oi := ⟨some 47, .fieldAddr 128 (.tmp 46) 1, 0, "ref.go:94", #[⟨2, .data⟩, ⟨5, .gcOnly .lateStores⟩], none⟩) (v := ?_) rfl (by kernel_rfl) (by kernel_rfl) (by kernel_rfl) (fun _ _ _ h => h) (Or.inl ⟨by rfl, fun w' hSw => ?_⟩) hSB0 ?_; rotate_left; focus (go_simp; try with_reducible rfl))
            simp only [Act.put, List.setIfInBounds_toArray, List.set_cons_zero, List.set_cons_succ]
            (refine wpAnyH_take (i := 4) (oi := ⟨some 48, .load 3 (.tmp 47), 3, "ref.go:94", #[⟨3, .data⟩, ⟨5, .gcOnly .lateStores⟩], none⟩) (v := ?_) rfl (by kernel_rfl) (by kernel_rfl) (by kernel_rfl) (fun _ _ _ h => h) (Or.inl ⟨by rfl, fun w' hSw => ?_⟩) hSB0 ?_; rotate_left; focus (have e1 := (hSw.blk HG5.out hgv2.out).c1; go_simp; try with_reducible rfl))
            simp only [Act.put, List.setIfInBounds_toArray, List.set_cons_zero, List.set_cons_succ]
            refine wpAnyH_ready (rs := [5]) (by kernel_rfl) (by simp) ?_
            refine AllReadyH.cons rfl (fun K hK => ?_) AllReadyH.nil
            refine step_store_bk rfl _ _ rfl w.heap.size zeroB zeroB zeroH_fine zeroH_fine (by rfl) (by rfl) HBrd.out ?_
            intro w9 o9 z9 b9
            simp only [Act.put]
            refine hK.out _ _ (by exact hSB0.trans o9 (fun _ _ h => h)) (fun hSB1 => ?_)
            clear hK K
            (refine wpAnyH_take (i := 6) (oi := ⟨some 3, .assign (.tmp 48), 3, "ref.go:94", #[⟨4, .data⟩, ⟨5, .chain⟩, ⟨0, .phase⟩, ⟨1, .phase⟩, ⟨2, .phase⟩, ⟨3, .phase⟩, ⟨4, .phase⟩, ⟨5, .phase⟩], none⟩) (v := ?_) rfl (by kernel_rfl) (by kernel_rfl) (by kernel_rfl) (fun _ _ _ h => h) (Or.inl ⟨by rfl, fun w' hSw => ?_⟩) hSB1 ?_; rotate_left; focus (go_simp; try with_reducible rfl))
            simp only [Act.put, List.setIfInBounds_toArray]
            refine wpAnyH_done (by kernel_rfl) ?_ _
            go_wp2_with fail
            refine bodyPost_ret (results_blk_tmp _ _ _ rfl _ _ w.heap.size zeroB zeroH_fine (by rfl) b9) rfl ⟨zeroB, by rw [HPB.out]; rfl, by rw [HPB.out]; rfl, zeroB_fine _, zeroB_small, ?_⟩
            exact Bwr.out.trans ((hSB0.trans o9 (fun _ _ h => h)).below Bwr.out.size (fun i hi e => by have h9 : i = w.heap.size := e; omega))
end Go.Proofs.Ytbpmcnfmgaolnaa
