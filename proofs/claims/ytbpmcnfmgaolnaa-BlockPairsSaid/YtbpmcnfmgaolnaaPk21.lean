import Derived.Test.YtbpmcnfmgaolnaaPk1
import Derived.Test.YtbpmcnfmgaolnaaPk16
import Derived.Test.YtbpmcnfmgaolnaaPk2
import Derived.Test.YtbpmcnfmgaolnaaPk20
/-
  slices.Chunk over hashes, two by two.
-/
namespace Go.Proofs.Ytbpmcnfmgaolnaa
open Go.RowKit Go.Shelf

attribute [local go_sem] Oper.semAt_some
def encPair (b off n : Nat) (k : PairNo n) : Array Value := #[.slice (some ⟨b, off + 2 * k.1 * 32, none⟩) (pairLen n k.1) (pairLen n k.1)]
theorem hslice_from (b off N cap r : Nat) (h : 2 * r < N) (hc : N ≤ cap) (w : World) : (Instr.slice 65 (.slice (some ⟨b, off, none⟩) N cap) (some (.int .i64 (2 * (r : Int)))) none none).run Try.prog w = .ok (.slice (some ⟨b, off + 2 * r * 32, none⟩) (N - 2 * r) (cap - 2 * r)) w := by
  have hel : Try.prog.elem 65 = 31 := by kernel_rfl
  have hu : Try.prog.underlying 65 = some (.slice (Try.prog.elem 65)) := by rw [hel]; exact Try.underlying65
  have hsz : (Try.prog.info? 31).map (·.size) = some 32 := by kernel_rfl
  have e : (2 * (r : Int)).toNat = 2 * r := by omega
  have e2 : cap ≠ 2 * r := by omega
  rw [run_slice_l w _ (some ⟨b, off, none⟩) N cap hu .i64 (2 * (r : Int)) (by omega) (by omega), hel, run_size hsz w]
  simp [Result.andThen, sliced, e, e2, Addr.add_mid]
theorem hslice_pair (b off N cap r m : Nat) (h : 2 * r + m ≤ N) (hm : 1 ≤ m) (hc : N ≤ cap) (w : World) : (Instr.slice 65 (.slice (some ⟨b, off, none⟩) N cap) (some (.int .i64 (2 * (r : Int)))) (some (.int .i64 (2 * (r : Int) + (m : Int)))) (some (.int .i64 (2 * (r : Int) + (m : Int))))).run Try.prog w = .ok (.slice (some ⟨b, off + 2 * r * 32, none⟩) m m) w := by
  have hel : Try.prog.elem 65 = 31 := by kernel_rfl
  have hu : Try.prog.underlying 65 = some (.slice (Try.prog.elem 65)) := by rw [hel]; exact Try.underlying65
  have hsz : (Try.prog.info? 31).map (·.size) = some 32 := by kernel_rfl
  have e : (2 * (r : Int)).toNat = 2 * r := by omega
  have e3 : (2 * (r : Int) + (m : Int)).toNat = 2 * r + m := by omega
  have e2 : ¬ m = 0 := by omega
  rw [run_slice_lhm w _ (some ⟨b, off, none⟩) N cap hu .i64 .i64 .i64 (2 * (r : Int)) (2 * (r : Int) + (m : Int)) (2 * (r : Int) + (m : Int)) (by omega) (by omega) (by omega) (by omega), hel, run_size hsz w]
  simp [Result.andThen, sliced, e, e3, e2, Addr.add_mid]
theorem hslice_at (v : Value) (lo hi mx : Option Value) (w : World) : (Instr.sliceAt 65 v lo hi mx).run Try.prog w = (Instr.slice 65 v lo hi mx).run Try.prog w := by
  have hel : Try.prog.elem 65 = 31 := by kernel_rfl
  exact run_sliceAt_slice w _ _ _ _ _ (by rw [hel]; exact Try.underlying65)
/-- What lies below n0 in cells lies as it lay, but in the blocks X and Y. -/
def KpXY (n0 X Y : Nat) (A B : World) : Prop := ∀ i, i < n0 → i ≠ X → i ≠ Y → ∀ o : Obj, A.heap[i]? = some o → o.isCells = true → B.heap[i]? = some o
theorem KpXY.refl (n0 X Y : Nat) (A : World) : KpXY n0 X Y A A := fun _ _ _ _ _ h _ => h
theorem KpXY.trans {n0 X Y : Nat} {A B C : World} (h : KpXY n0 X Y A B) (k : KpXY n0 X Y B C) : KpXY n0 X Y A C := fun i hi hx hy o ho hc => k i hi hx hy o (h i hi hx hy o ho hc) hc
theorem KpXY.put {n0 X Y : Nat} (W : World) (l : Nat) (o o' : Obj) (h : W.heap[l]? = some o) (hc : o.isCells = false) : KpXY n0 X Y W (W.putObj l o') := fun i _ _ _ p hp hpc => by
  have hne : i ≠ l := by
    rintro rfl
    rw [h] at hp
    cases hp
    rw [hc] at hpc
    cases hpc
  have hg := grownBy_putObj' W l o'
  exact (hg.block i (Array.getElem?_eq_some_iff.1 hp).1 (fun e => by injection e with e; exact hne e)).trans hp
theorem KpXY.cell {n0 X Y : Nat} {A B : World} (h : KpXY n0 X Y A B) {p : Addr} {v : Value} (h0 : p.block < n0) (hx : p.block ≠ X) (hy : p.block ≠ Y) (hv : A.cell? p = some v) : B.cell? p = some v := by
  have : ∃ o, A.heap[p.block]? = some o ∧ o.isCells = true := by
    unfold World.cell? at hv
    split at hv
    · rename_i c t m ho
      exact ⟨_, ho, rfl⟩
    · cases hv
  obtain ⟨o, ho, hc⟩ := this
  exact (World.cell?_of_block (w := A) ((h p.block h0 hx hy o ho hc).trans ho.symm)).trans hv
set_option maxHeartbeats 1000000 in
theorem chunk_in (F : Fence) (n : Nat) (h5 : F.fn 72) (hro : F.round = none) (a : Option Addr) (len cap : Nat) (w : World) :
    CallsIn F n Try.prog 72 #[.slice a len cap, .int .i64 2] w fun e w' => e = .returned (.func (.func 113) #[] #[.pointer (some ⟨w.heap.size, 0, none⟩), .pointer (some ⟨w.heap.size + 1, 0, none⟩)]) ∧ w' = (w.alloc (.cells #[.slice a len cap] 65)).alloc (.cells #[.int .i64 2] 3) := by
  refine callsIn_of_wp Try.func72 rfl h5 ?_ hro
  simp only [Try.ntmps72, List.size_toArray, List.length_cons, List.length_nil, Nat.reduceAdd, Nat.reduceSub, Array.replicate_succ, Array.replicate_zero, List.push_toArray, List.append_toArray, List.nil_append, List.cons_append]
  gi_wp2
  go_ret
  exact ⟨rfl, rfl⟩
set_option maxRecDepth 100000 in
set_option maxHeartbeats 2000000 in
theorem chunk1_in (n : Nat) (hn : 1 ≤ n) (l Bs Bn n0 X Y b off N cap : Nat) (hN : N ≤ 1000000) (hcap : N ≤ cap) (hbs : Bs < n0 ∧ Bs ≠ X ∧ Bs ≠ Y) (hbn : Bn < n0 ∧ Bn ≠ X ∧ Bn ≠ Y) (J Jx : List (PairNo N) → World → Prop)
    (hY : ∀ pre x W, J pre W → pre.length < N → YieldAt Fence.wide (n - 1) Try.prog l (encPair b off N x) W fun e W' =>
      (e = .returned (.bool true) ∧ J (pre ++ [x]) W' ∧ KpXY n0 X Y W W') ∨ (e = .returned (.bool false) ∧ Jx (pre ++ [x]) W'))
    (W : World) (hBs : W.cell? ⟨Bs, 0, none⟩ = some (.slice (some ⟨b, off, none⟩) N cap)) (hBn : W.cell? ⟨Bn, 0, none⟩ = some (.int .i64 2)) (hJd : ∀ pre W, J pre W → J pre W.drew) (h0 : J [] W) :
    CallsIn Fence.wide n Try.prog 113 #[.func (.yield l) #[] #[], .pointer (some ⟨Bs, 0, none⟩), .pointer (some ⟨Bn, 0, none⟩)] W fun e W' => (∃ v, e = .returned v) ∧
      ((∃ ys, ys = pairsTo N ((N + 1) / 2) ∧ J ys W') ∨ (∃ pre, Jx pre W')) := by
  refine callsIn_of_wp Try.func113 rfl trivial ?_ rfl
  simp only [Try.ntmps113, List.size_toArray, List.length_cons, List.length_nil, Nat.reduceAdd, Nat.reduceSub, Array.replicate_succ, Array.replicate_zero, List.push_toArray, List.append_toArray, List.nil_append, List.cons_append]
  gi_wp2
  gi_loopw [4] (fun i wr => ∃ r : Nat, 2 * r ≤ N + 1 ∧ i = .int .i64 (2 * (r : Int)) ∧ J (pairsTo N r) wr ∧ KpXY n0 X Y W wr)
    (fun i _ => N + 1 - (intOf i).toNat)
  case atStart => exact ⟨0, by omega, rfl, h0, KpXY.refl _ _ _ _⟩
  case round =>
    obtain ⟨r, hr, rfl, hJs, hnx⟩ := hrel
    have hBs2 : wr.cell? ⟨Bs, 0, none⟩ = some (.slice (some ⟨b, off, none⟩) N cap) := hnx.cell (p := ⟨Bs, 0, none⟩) hbs.1 hbs.2.1 hbs.2.2 hBs
    have hBn2 : wr.cell? ⟨Bn, 0, none⟩ = some (.int .i64 2) := hnx.cell (p := ⟨Bn, 0, none⟩) hbn.1 hbn.2.1 hbn.2.2 hBn
    have r0 : (0 : Int) ≤ (r : Int) := by omega
    have hN9 : (N : Int) ≤ 1000000 := by omega
    by_cases hlt : 2 * r < N
    · have i1 : 2 * (r : Int) < (N : Int) := by omega
      obtain ⟨fn, tmps, assign, body, hy, hR⟩ := hY _ ⟨r, hlt⟩ wr.drew (hJd _ _ hJs) (by rw [pairsTo_length N r (by omega)]; omega)
      have hs3 := hslice_from b off N cap r hlt hcap
      have hs3a := fun w => (hslice_at _ _ none none w).trans (hs3 w)
      obtain ⟨q, hq⟩ : ∃ q, q = N - 2 * r := ⟨_, rfl⟩
      rw [← hq] at hs3 hs3a
      have hq1 : 1 ≤ q := by omega
      have HQ := hide hq
      clear hq
      by_cases h2 : q = 1
      · have hql : pairLen N r = q := by rw [pairLen, ← HQ.out]; omega
        have hs4 : ∀ w : World, (Instr.slice 65 (.slice (some ⟨b, off, none⟩) N cap) (some (.int .i64 (2 * (r : Int)))) (some (.int .i64 (2 * (r : Int) + (q : Int)))) (some (.int .i64 (2 * (r : Int) + (q : Int))))).run Try.prog w = .ok (.slice (some ⟨b, off + 2 * r * 32, none⟩) q q) w := fun w => hslice_pair b off N cap r q (by have := HQ.out; omega) (by omega) hcap w
        have hs4a := fun w => (hslice_at _ _ _ _ w).trans (hs4 w)
        dsimp only [encPair] at hy
        rw [hql] at hy
        have i2 : (q : Int) < 2 := by omega
        have HQ1 := hide h2
        clear h2
        gi_wp2
        refine wpIn_wide.2 ?_
        refine wp_region_held_drew (S := fun w' => w'.cell? ⟨Bs, 0, none⟩ = some (.slice (some ⟨b, off, none⟩) N cap) ∧ w'.cell? ⟨Bn, 0, none⟩ = some (.int .i64 2)) (by kernel_rfl) (⟨hBs2, hBn2⟩) (fun hSA0 => ?_)
        (refine wpAnyH_take (i := 0) (oi := ⟨some 13, .load 3 (.tmp 2), 3, "iter.go:105", #[], none⟩) (v := ?_) rfl (by kernel_rfl) (by kernel_rfl) (by kernel_rfl) (fun _ _ _ h => h) (Or.inl ⟨by rfl, fun w' hSw => ?_⟩) hSA0 ?_; rotate_left; focus (have hc := hSw.2; go_simp; try with_reducible rfl))
        simp only [Act.put, List.setIfInBounds_toArray, List.set_cons_zero, List.set_cons_succ]
        (refine wpAnyH_take (i := 1) (oi := ⟨some 14, .load 65 (.tmp 1), 65, "iter.go:105", #[], none⟩) (v := ?_) rfl (by kernel_rfl) (by kernel_rfl) (by kernel_rfl) (fun _ _ _ h => h) (Or.inl ⟨by rfl, fun w' hSw => ?_⟩) hSA0 ?_; rotate_left; focus (have hc := hSw.1; go_simp; try with_reducible rfl))
        simp only [Act.put, List.setIfInBounds_toArray, List.set_cons_zero, List.set_cons_succ]
        (refine wpAnyH_take (i := 2) (oi := ⟨some 15, .move (.tmp 4), 3, "iter.go:105", #[], none⟩) (v := ?_) rfl (by kernel_rfl) (by kernel_rfl) (by kernel_rfl) (fun _ _ _ h => h) (Or.inl ⟨by rfl, fun w' hSw => ?_⟩) hSA0 ?_; rotate_left; focus (go_simp; try with_reducible rfl))
        simp only [Act.put, List.setIfInBounds_toArray, List.set_cons_zero, List.set_cons_succ]
        (refine wpAnyH_take (i := 3) (oi := ⟨some 16, .slice 65 (.tmp 14) (Option.some (.tmp 15)) Option.none Option.none, 65, "iter.go:105", #[⟨1, .data⟩, ⟨2, .data⟩], none⟩) (v := ?_) rfl (by kernel_rfl) (by kernel_rfl) (by kernel_rfl) (fun _ _ _ h => h) (Or.inl ⟨by rfl, fun w' hSw => ?_⟩) hSA0 ?_; rotate_left; focus (go_simp; try with_reducible rfl))
        simp only [Act.put, List.setIfInBounds_toArray, List.set_cons_zero, List.set_cons_succ]
        (refine wpAnyH_take (i := 4) (oi := ⟨some 17, .call { callee := .builtin .len, args := #[.tmp 16], argTypes := #[65] }, 3, "iter.go:105", #[⟨3, .data⟩], none⟩) (v := ?_) rfl (by kernel_rfl) (by kernel_rfl) (by kernel_rfl) (fun _ _ _ h => h) (Or.inl ⟨by rfl, fun w' hSw => ?_⟩) hSA0 ?_; rotate_left; focus (go_simp; try with_reducible rfl))
        simp only [Act.put, List.setIfInBounds_toArray, List.set_cons_zero, List.set_cons_succ]
        (refine wpAnyH_take (i := 5) (oi := ⟨some 18, .call { callee := .builtin .min, args := #[.tmp 13, .tmp 17], argTypes := #[3, 3] }, 3, "iter.go:105", #[⟨0, .data⟩, ⟨4, .data⟩], none⟩) (v := ?_) rfl (by kernel_rfl) (by kernel_rfl) (by kernel_rfl) (fun _ _ _ h => h) (Or.inl ⟨by rfl, fun w' hSw => ?_⟩) hSA0 ?_; rotate_left; focus (go_simp; try with_reducible rfl))
        simp only [Act.put, List.setIfInBounds_toArray, List.set_cons_zero, List.set_cons_succ]
        (refine wpAnyH_take (i := 6) (oi := ⟨some 5, .assign (.tmp 18), 3, "iter.go:105", #[⟨5, .data⟩, ⟨0, .phase⟩, ⟨1, .phase⟩, ⟨2, .phase⟩, ⟨3, .phase⟩, ⟨4, .phase⟩, ⟨5, .phase⟩], none⟩) (v := ?_) rfl (by kernel_rfl) (by kernel_rfl) (by kernel_rfl) (fun _ _ _ h => h) (Or.inl ⟨by rfl, fun w' hSw => ?_⟩) hSA0 ?_; rotate_left; focus (go_simp; try with_reducible rfl))
        simp only [Act.put, List.setIfInBounds_toArray, List.set_cons_zero, List.set_cons_succ]
        refine wpAnyH_done (by kernel_rfl) ?_ _
        gi_wp2
        refine hR.mono ?_
        rintro e W3 (⟨rfl, hJ3, hk3⟩ | ⟨rfl, hJx3⟩)
        · have hBn3 : W3.cell? ⟨Bn, 0, none⟩ = some (.int .i64 2) := hk3.cell (p := ⟨Bn, 0, none⟩) hbn.1 hbn.2.1 hbn.2.2 hBn2
          gi_wp2
          go_roundw
          case rel => exact ⟨r + 1, by omega, by simp; omega, by rw [pairsTo_succ N r hlt]; exact hJ3, hnx.trans hk3⟩
          case measure => simp [intOf]; omega
        · gi_wp2
          refine bodyPost_ret (results_none rfl _ _ _) rfl ?_
          exact ⟨⟨_, rfl⟩, .inr ⟨_, hJx3⟩⟩
      · have hql : pairLen N r = 2 := by rw [pairLen, ← HQ.out]; omega
        have hs4 : ∀ w : World, (Instr.slice 65 (.slice (some ⟨b, off, none⟩) N cap) (some (.int .i64 (2 * (r : Int)))) (some (.int .i64 (2 * (r : Int) + 2))) (some (.int .i64 (2 * (r : Int) + 2)))).run Try.prog w = .ok (.slice (some ⟨b, off + 2 * r * 32, none⟩) 2 2) w := fun w => hslice_pair b off N cap r 2 (by have := HQ.out; omega) (by omega) hcap w
        have hs4a := fun w => (hslice_at _ _ _ _ w).trans (hs4 w)
        dsimp only [encPair] at hy
        rw [hql] at hy
        have i2 : ¬ (q : Int) < 2 := by omega
        clear h2
        gi_wp2
        refine wpIn_wide.2 ?_
        refine wp_region_held_drew (S := fun w' => w'.cell? ⟨Bs, 0, none⟩ = some (.slice (some ⟨b, off, none⟩) N cap) ∧ w'.cell? ⟨Bn, 0, none⟩ = some (.int .i64 2)) (by kernel_rfl) (⟨hBs2, hBn2⟩) (fun hSA0 => ?_)
        (refine wpAnyH_take (i := 0) (oi := ⟨some 13, .load 3 (.tmp 2), 3, "iter.go:105", #[], none⟩) (v := ?_) rfl (by kernel_rfl) (by kernel_rfl) (by kernel_rfl) (fun _ _ _ h => h) (Or.inl ⟨by rfl, fun w' hSw => ?_⟩) hSA0 ?_; rotate_left; focus (have hc := hSw.2; go_simp; try with_reducible rfl))
        simp only [Act.put, List.setIfInBounds_toArray, List.set_cons_zero, List.set_cons_succ]
        (refine wpAnyH_take (i := 1) (oi := ⟨some 14, .load 65 (.tmp 1), 65, "iter.go:105", #[], none⟩) (v := ?_) rfl (by kernel_rfl) (by kernel_rfl) (by kernel_rfl) (fun _ _ _ h => h) (Or.inl ⟨by rfl, fun w' hSw => ?_⟩) hSA0 ?_; rotate_left; focus (have hc := hSw.1; go_simp; try with_reducible rfl))
        simp only [Act.put, List.setIfInBounds_toArray, List.set_cons_zero, List.set_cons_succ]
        (refine wpAnyH_take (i := 2) (oi := ⟨some 15, .move (.tmp 4), 3, "iter.go:105", #[], none⟩) (v := ?_) rfl (by kernel_rfl) (by kernel_rfl) (by kernel_rfl) (fun _ _ _ h => h) (Or.inl ⟨by rfl, fun w' hSw => ?_⟩) hSA0 ?_; rotate_left; focus (go_simp; try with_reducible rfl))
        simp only [Act.put, List.setIfInBounds_toArray, List.set_cons_zero, List.set_cons_succ]
        (refine wpAnyH_take (i := 3) (oi := ⟨some 16, .slice 65 (.tmp 14) (Option.some (.tmp 15)) Option.none Option.none, 65, "iter.go:105", #[⟨1, .data⟩, ⟨2, .data⟩], none⟩) (v := ?_) rfl (by kernel_rfl) (by kernel_rfl) (by kernel_rfl) (fun _ _ _ h => h) (Or.inl ⟨by rfl, fun w' hSw => ?_⟩) hSA0 ?_; rotate_left; focus (go_simp; try with_reducible rfl))
        simp only [Act.put, List.setIfInBounds_toArray, List.set_cons_zero, List.set_cons_succ]
        (refine wpAnyH_take (i := 4) (oi := ⟨some 17, .call { callee := .builtin .len, args := #[.tmp 16], argTypes := #[65] }, 3, "iter.go:105", #[⟨3, .data⟩], none⟩) (v := ?_) rfl (by kernel_rfl) (by kernel_rfl) (by kernel_rfl) (fun _ _ _ h => h) (Or.inl ⟨by rfl, fun w' hSw => ?_⟩) hSA0 ?_; rotate_left; focus (go_simp; try with_reducible rfl))
        simp only [Act.put, List.setIfInBounds_toArray, List.set_cons_zero, List.set_cons_succ]
        (refine wpAnyH_take (i := 5) (oi := ⟨some 18, .call { callee := .builtin .min, args := #[.tmp 13, .tmp 17], argTypes := #[3, 3] }, 3, "iter.go:105", #[⟨0, .data⟩, ⟨4, .data⟩], none⟩) (v := ?_) rfl (by kernel_rfl) (by kernel_rfl) (by kernel_rfl) (fun _ _ _ h => h) (Or.inl ⟨by rfl, fun w' hSw => ?_⟩) hSA0 ?_; rotate_left; focus (go_simp; try with_reducible rfl))
        simp only [Act.put, List.setIfInBounds_toArray, List.set_cons_zero, List.set_cons_succ]
        (refine wpAnyH_take (i := 6) (oi := ⟨some 5, .assign (.tmp 18), 3, "iter.go:105", #[⟨5, .data⟩, ⟨0, .phase⟩, ⟨1, .phase⟩, ⟨2, .phase⟩, ⟨3, .phase⟩, ⟨4, .phase⟩, ⟨5, .phase⟩], none⟩) (v := ?_) rfl (by kernel_rfl) (by kernel_rfl) (by kernel_rfl) (fun _ _ _ h => h) (Or.inl ⟨by rfl, fun w' hSw => ?_⟩) hSA0 ?_; rotate_left; focus (go_simp; try with_reducible rfl))
        simp only [Act.put, List.setIfInBounds_toArray, List.set_cons_zero, List.set_cons_succ]
        refine wpAnyH_done (by kernel_rfl) ?_ _
        gi_wp2
        refine hR.mono ?_
        rintro e W3 (⟨rfl, hJ3, hk3⟩ | ⟨rfl, hJx3⟩)
        · have hBn3 : W3.cell? ⟨Bn, 0, none⟩ = some (.int .i64 2) := hk3.cell (p := ⟨Bn, 0, none⟩) hbn.1 hbn.2.1 hbn.2.2 hBn2
          gi_wp2
          go_roundw
          case rel => exact ⟨r + 1, by omega, by simp; omega, by rw [pairsTo_succ N r hlt]; exact hJ3, hnx.trans hk3⟩
          case measure => simp [intOf]; omega
        · gi_wp2
          refine bodyPost_ret (results_none rfl _ _ _) rfl ?_
          exact ⟨⟨_, rfl⟩, .inr ⟨_, hJx3⟩⟩
    · have i1 : ¬ 2 * (r : Int) < (N : Int) := by omega
      have hrN : r = (N + 1) / 2 := by omega
      gi_wp2
      go_end0
      exact ⟨⟨_, rfl⟩, .inl (by rw [← hrN]; exact hJs)⟩
theorem grownBy_drew (W : World) : W.grownBy W.drew none := ⟨rfl, rfl, rfl, Nat.le_refl _, fun _ _ _ => rfl⟩
theorem chunk_stops (n : Nat) (hn : 1 ≤ n) (Bs Bn n0 X Y b off N cap : Nat) (w : World) (hN : N ≤ 1000000) (hcap : N ≤ cap) (hbs : Bs < n0 ∧ Bs ≠ X ∧ Bs ≠ Y) (hbn : Bn < n0 ∧ Bn ≠ X ∧ Bn ≠ Y) (hs : Bs < w.heap.size) (hb : Bn < w.heap.size)
    (hBs : w.cell? ⟨Bs, 0, none⟩ = some (.slice (some ⟨b, off, none⟩) N cap)) (hBn : w.cell? ⟨Bn, 0, none⟩ = some (.int .i64 2)) :
    SeqStopsK Fence.wide n Try.prog 113 #[.pointer (some ⟨Bs, 0, none⟩), .pointer (some ⟨Bn, 0, none⟩)] (encPair b off N) (KpXY n0 X Y) (fun ys => ys = pairsTo N ((N + 1) / 2)) (fun _ => True) N w := fun l J Jx W hW hJ _ hY h0 => by
  refine (chunk1_in n hn l Bs Bn n0 X Y b off N cap hN hcap hbs hbn J Jx hY W ((hW.cell (p := ⟨Bs, 0, none⟩) hs).trans hBs) ((hW.cell (p := ⟨Bn, 0, none⟩) hb).trans hBn) (fun pre W h => hJ pre W W.drew none h (grownBy_drew W) (fun _ e => by cases e)) h0).mono ?_
  rintro e W' ⟨he, ⟨ys, rfl, hj⟩ | ⟨pre, hj⟩⟩
  · exact ⟨he, .inl ⟨_, rfl, hj⟩⟩
  · exact ⟨he, .inr ⟨_, trivial, hj⟩⟩
end Go.Proofs.Ytbpmcnfmgaolnaa
/-
  The program's Root: a pair's hash is made and appended, in a round of its loop over pairs.
-/
namespace Go.Proofs.Ytbpmcnfmgaolnaa
open Go.RowKit Go.Shelf

attribute [local go_sem ↓] loadHash_fold mkHash_fold eqlHash_fold mkHs1_fold
theorem Byss.two (w w1 : World) (e : TypeId) (A B : Option Addr) (n m c d : Nat) (x y : List Int) (hx : Bys w A n x) (hy : Bys w B m y) (hc : n ≤ c) (hd : m ≤ d) (hb : Below w.heap.size w w1) : Byss (w1.alloc (.cells #[.slice A n c, .slice B m d] e)) (some ⟨w1.heap.size, 0, none⟩) 2 [x, y] := by
  have hb2 : Below w.heap.size w (w1.alloc (.cells #[.slice A n c, .slice B m d] e)) := below_alloc hb _
  have hB := Blk.new w1 e [.slice A n c, .slice B m d]
  refine ⟨rfl, fun _ => ⟨w1.heap.size, 0, rfl, fun j xs hj => ?_⟩⟩
  match j, hj with
  | 0, hj => injection hj with hj; subst hj; exact ⟨A, n, c, hB.c0, hx.below hb2, hc⟩
  | 1, hj => injection hj with hj; subst hj; exact ⟨B, m, d, hB.c1, hy.below hb2, hd⟩
  | j + 2, hj => simp at hj
set_option maxHeartbeats 4000000 in
set_option maxRecDepth 100000 in
theorem rootPair_any {Q : Exit → Act → World → Prop} {ln n : Nat} (hL : ¬ LetsOut Q) (hPan : ∀ c (a : Act) w, Q (.panic c) a w → False) (u0 u1 u2 u3 u4 u6 u9 u10 u11 u12 u13 u14 u15 u16 u17 u18 u19 u20 u21 u22 u23 u24 u25 u26 u27 u28 u29 u30 u31 u32 u33 u34 u35 u36 u37 u38 u39 u40 u41 u42 u43 u44 u45 u46 u47 u48 u49 u50 : Value) (W : World) (pY p7 p8 base n5 c5 : Nat) (A5 : Option Addr) (cs : List Value) (a b : List Int)
    (kY : Hid (Blk W pY 65 [.slice A5 n5 c5])) (ho : Hid (W.ownsRow base 31 32 (.slice A5 n5 c5) n5 cs)) (hbase : Hid (base ≤ W.heap.size)) (hYl : Hid (pY < W.heap.size)) (hYn : Hid (¬ (Value.slice A5 n5 c5).ownBlock = some pY)) (k7 : Hid (Blk W p7 31 (bcs a))) (k8 : Hid (Blk W p8 31 (bcs b))) (ha : Hid (a.length = 32 ∧ Byt a)) (hb : Hid (b.length = 32 ∧ Byt b)) (hn5 : Hid (n5 ≤ 1000))
    (hQ : ∀ (a' : Act) (W' : World) (A' : Option Addr) (c' : Nat), Only (fun i => i = pY ∨ (Value.slice A5 n5 c5).ownBlock = some i) W W' → Blk W' pY 65 [.slice A' (n5 + 1) c'] → n5 + 1 ≤ c' → W'.ownsRow base 31 32 (.slice A' (n5 + 1) c') (n5 + 1) (cs ++ bcs (sha2 (a ++ b))) → Q .normal a' W') :
    (Code.region 10 #[⟨some 39, .load 65 (.tmp 5), 65, "block.go:70", #[], none⟩, ⟨some 40, .slice 31 (.tmp 7) Option.none Option.none Option.none, 56, "block.go:70", #[], none⟩, ⟨some 41, .slice 31 (.tmp 8) Option.none Option.none Option.none, 56, "block.go:70", #[], none⟩, ⟨some 42, .buildSlice 162 2 #[(0, .tmp 40), (1, .tmp 41)], 162, "block.go:70", #[⟨1, .data⟩, ⟨2, .data⟩], none⟩, ⟨some 43, .call { callee := .value (.func 73), args := #[.tmp 42], argTypes := #[162] }, 31, "block.go:70", #[⟨3, .data⟩], none⟩, ⟨some 44, .buildSlice 65 1 #[(0, .tmp 43)], 65, "block.go:70", #[⟨4, .data⟩], none⟩, ⟨some 45, .call { callee := .builtin .append, args := #[.tmp 39, .tmp 44], argTypes := #[65, 65] }, 65, "block.go:70", #[⟨0, .data⟩, ⟨5, .data⟩, ⟨4, .chain⟩], none⟩, ⟨none, .store 65 (.tmp 5) (.tmp 45), 0, "block.go:70", #[⟨6, .data⟩, ⟨6, .chain⟩, ⟨0, .phase⟩, ⟨1, .phase⟩, ⟨2, .phase⟩, ⟨3, .phase⟩, ⟨4, .phase⟩, ⟨5, .phase⟩, ⟨6, .phase⟩], none⟩] true).wpIn (Fence.wide.inRound ln) n Try.prog Q { tmps := #[u0, u1, u2, u3, u4, .pointer (some ⟨pY, 0, none⟩), u6, .pointer (some ⟨p7, 0, none⟩), .pointer (some ⟨p8, 0, none⟩), u9, u10, u11, u12, u13, u14, u15, u16, u17, u18, u19, u20, u21, u22, u23, u24, u25, u26, u27, u28, u29, u30, u31, u32, u33, u34, u35, u36, u37, u38, u39, u40, u41, u42, u43, u44, u45, u46, u47, u48, u49, u50], defers := [] } W := by
  refine wpIn_region_held_drew (S := fun _ => True) (by kernel_rfl) hL (by kernel_rfl) (trivial) (fun hSA0 => ?_)
  obtain ⟨Wd, hwA⟩ : ∃ x, x = W.drew := ⟨_, rfl⟩
  have BWd := hide (show Below W.heap.size W Wd by rw [hwA]; exact (Below.refl _ _).drew)
  rw [← hwA]
  clear hwA
  (refine wpAnyH_take (i := 1) (oi := ⟨some 40, .slice 31 (.tmp 7) Option.none Option.none Option.none, 56, "block.go:70", #[], none⟩) (v := ?_) rfl (by kernel_rfl) (by kernel_rfl) (by kernel_rfl) (fun c a w h => (hPan c _ w h).elim) (Or.inl ⟨by rfl, fun w' hSw => ?_⟩) hSA0 ?_; rotate_left; focus (go_simp; try with_reducible rfl))
  simp only [Act.put, List.setIfInBounds_toArray, List.set_cons_zero, List.set_cons_succ]
  (refine wpAnyH_take (i := 2) (oi := ⟨some 41, .slice 31 (.tmp 8) Option.none Option.none Option.none, 56, "block.go:70", #[], none⟩) (v := ?_) rfl (by kernel_rfl) (by kernel_rfl) (by kernel_rfl) (fun c a w h => (hPan c _ w h).elim) (Or.inl ⟨by rfl, fun w' hSw => ?_⟩) hSA0 ?_; rotate_left; focus (go_simp; try with_reducible rfl))
  simp only [Act.put, List.setIfInBounds_toArray, List.set_cons_zero, List.set_cons_succ]
  refine wpAnyH_ready (rs := [0, 3]) (by kernel_rfl) (by simp) ?_
  refine AllReadyH.cons rfl (fun K hK => ?_) (AllReadyH.cons rfl (fun K hK => ?_) AllReadyH.nil)
  · have c0 := (kY.out.under BWd.out).c0
    go_simp
    clear c0
    refine hK.out _ _ (trivial) (fun hSA1 => ?_)
    clear hK K
    refine wpAnyH_ready (rs := [3]) (by kernel_rfl) (by simp) ?_
    refine AllReadyH.cons rfl (fun K hK => ?_) AllReadyH.nil
    go_simp
    have X3 := hide (Byss.two Wd Wd 56 (some ⟨p7, 0, none⟩) (some ⟨p8, 0, none⟩) 32 32 32 32 a b (by have h9 := Bys.of_blk (k7.out.under BWd.out) ha.out.2; rwa [ha.out.1] at h9) (by have h9 := Bys.of_blk (k8.out.under BWd.out) hb.out.2; rwa [hb.out.1] at h9) (Nat.le_refl _) (Nat.le_refl _) (Below.refl _ _))
    have BW3 := hide (below_alloc BWd.out (.cells #[.slice (some ⟨p7, 0, none⟩) 32 32, .slice (some ⟨p8, 0, none⟩) 32 32] 56))
    obtain ⟨W3, hW3⟩ : ∃ x, x = Wd.alloc (.cells #[.slice (some ⟨p7, 0, none⟩) 32 32, .slice (some ⟨p8, 0, none⟩) 32 32] 56) := ⟨_, rfl⟩
    rw [← hW3] at X3 BW3 ⊢
    clear hW3
    refine hK.out _ _ (trivial) (fun hSA2 => ?_)
    clear hK K
    refine wpAnyH_ready (rs := [4]) (by kernel_rfl) (by simp) ?_
    refine AllReadyH.cons rfl (fun K hK => ?_) AllReadyH.nil
    go_simp
    go_wp2_with (go_at_call 73; refine (Twice_any W3 _ 2 2 [a, b] X3.out (by simp [ha.out.1]) (by simp [ha.out.1, hb.out.1]) (by decide)).mono ?_; rintro e W4 ⟨rfl, hb4⟩)
    have BW4 := hide (Below.then_ BW3.out hb4)
    clear hb4
    obtain ⟨H, hH⟩ : ∃ H, H = sha2 (a ++ b) := ⟨_, rfl⟩
    have HL := hide (show H.length = 32 by rw [hH]; exact sha2_len _)
    rw [← hH]
    have HHH := hide hH
    clear hH
    refine hK.out _ _ (trivial) (fun hSA3 => ?_)
    clear hK K
    refine wpAnyH_ready (rs := [5]) (by kernel_rfl) (by simp) ?_
    refine AllReadyH.cons rfl (fun K hK => ?_) AllReadyH.nil
    have hmk := mkHs1_run W4 H HL.out
    go_simp
    clear hmk
    have NB := hide (show (W4.alloc (.cells (bcs H).toArray 31)).rangeAt W4.heap.size 0 (bcs H) from (Blk.new W4 31 (bcs H)).whole)
    have BW5 := hide (below_alloc BW4.out (.cells (bcs H).toArray 31))
    obtain ⟨W5, hW5⟩ : ∃ x, x = W4.alloc (.cells (bcs H).toArray 31) := ⟨_, rfl⟩
    rw [← hW5] at NB BW5 ⊢
    clear hW5
    refine hK.out _ _ (trivial) (fun hSA4 => ?_)
    clear hK K
    refine wpAnyH_ready (rs := [6]) (by kernel_rfl) (by simp) ?_
    refine AllReadyH.cons rfl (fun K hK => ?_) AllReadyH.nil
    refine step_row (by rfl) _ (by rfl) _ _ 65 (by rfl) 31 32 32 Try.underlying65 hash_infoR (by decide) base (.slice A5 n5 c5) n5 cs (by rfl) ((Only.of_below BW5.out (fun _ => False)).own ho.out (fun _ _ h => h)) (Nat.le_trans hbase.out BW5.out.size) _ 0 1 1 (bcs H) (by rfl) (by rw [bcs_length, HL.out]) NB.out (bcs_one _) (by have := hn5.out; omega) (by decide) ?_
    intro A9 c9 W6 q1 q2 q3 q4
    have KY6 := hide (q4.blk (kY.out.under BW5.out) hYn.out)
    have OW6 := hide ((Only.of_below BW5.out _).trans q4 (fun _ _ h => h))
    have Q1 := hide q1
    have Q2 := hide q2
    have Q3 := hide q3
    clear q1 q2 q3 q4
    refine hK.out _ _ (trivial) (fun hSA5 => ?_)
    clear hK K
    refine wpAnyH_ready (rs := [7]) (by kernel_rfl) (by simp) ?_
    refine AllReadyH.cons rfl (fun K hK => ?_) AllReadyH.nil
    have c0 := KY6.out.c0
    have f0 := KY6.out.frozen 0
    go_simp
    clear c0 f0
    refine hK.out _ _ (trivial) (fun hSA6 => ?_)
    clear hK K
    refine wpAnyH_done (by kernel_rfl) ?_ _
    have o7 : Only (fun i => i = pY) W6 (W6.setCell ⟨pY, 0, none⟩ (.slice A9 (n5 + 1) c9)) := Only.cell1 W6 pY 0 _
    refine hQ _ _ A9 c9 ((OW6.out.mono (fun i _ h => .inr h)).trans o7 (fun i _ h => .inl h)) ?_ Q2.out ?_ 
    · exact KY6.out.set_ 0 _
    · rw [← HHH.out]; exact o7.own Q1.out (fun g hg e => hYn.out (by have h9 : g = pY := e; subst h9; exact (Q3.out g hg).resolve_right (fun h => by have := hYl.out; have := BW5.out.size; omega)))
  · go_simp
    have X3 := hide (Byss.two Wd Wd 56 (some ⟨p7, 0, none⟩) (some ⟨p8, 0, none⟩) 32 32 32 32 a b (by have h9 := Bys.of_blk (k7.out.under BWd.out) ha.out.2; rwa [ha.out.1] at h9) (by have h9 := Bys.of_blk (k8.out.under BWd.out) hb.out.2; rwa [hb.out.1] at h9) (Nat.le_refl _) (Nat.le_refl _) (Below.refl _ _))
    have BW3 := hide (below_alloc BWd.out (.cells #[.slice (some ⟨p7, 0, none⟩) 32 32, .slice (some ⟨p8, 0, none⟩) 32 32] 56))
    obtain ⟨W3, hW3⟩ : ∃ x, x = Wd.alloc (.cells #[.slice (some ⟨p7, 0, none⟩) 32 32, .slice (some ⟨p8, 0, none⟩) 32 32] 56) := ⟨_, rfl⟩
    rw [← hW3] at X3 BW3 ⊢
    clear hW3
    refine hK.out _ _ (trivial) (fun hSA1 => ?_)
    clear hK K
    refine wpAnyH_ready (rs := [0, 4]) (by kernel_rfl) (by simp) ?_
    refine AllReadyH.cons rfl (fun K hK => ?_) (AllReadyH.cons rfl (fun K hK => ?_) AllReadyH.nil)
    · have c0 := (kY.out.under BW3.out).c0
      go_simp
      clear c0
      refine hK.out _ _ (trivial) (fun hSA2 => ?_)
      clear hK K
      refine wpAnyH_ready (rs := [4]) (by kernel_rfl) (by simp) ?_
      refine AllReadyH.cons rfl (fun K hK => ?_) AllReadyH.nil
      go_simp
      go_wp2_with (go_at_call 73; refine (Twice_any W3 _ 2 2 [a, b] X3.out (by simp [ha.out.1]) (by simp [ha.out.1, hb.out.1]) (by decide)).mono ?_; rintro e W4 ⟨rfl, hb4⟩)
      have BW4 := hide (Below.then_ BW3.out hb4)
      clear hb4
      obtain ⟨H, hH⟩ : ∃ H, H = sha2 (a ++ b) := ⟨_, rfl⟩
      have HL := hide (show H.length = 32 by rw [hH]; exact sha2_len _)
      rw [← hH]
      have HHH := hide hH
      clear hH
      refine hK.out _ _ (trivial) (fun hSA3 => ?_)
      clear hK K
      refine wpAnyH_ready (rs := [5]) (by kernel_rfl) (by simp) ?_
      refine AllReadyH.cons rfl (fun K hK => ?_) AllReadyH.nil
      have hmk := mkHs1_run W4 H HL.out
      go_simp
      clear hmk
      have NB := hide (show (W4.alloc (.cells (bcs H).toArray 31)).rangeAt W4.heap.size 0 (bcs H) from (Blk.new W4 31 (bcs H)).whole)
      have BW5 := hide (below_alloc BW4.out (.cells (bcs H).toArray 31))
      obtain ⟨W5, hW5⟩ : ∃ x, x = W4.alloc (.cells (bcs H).toArray 31) := ⟨_, rfl⟩
      rw [← hW5] at NB BW5 ⊢
      clear hW5
      refine hK.out _ _ (trivial) (fun hSA4 => ?_)
      clear hK K
      refine wpAnyH_ready (rs := [6]) (by kernel_rfl) (by simp) ?_
      refine AllReadyH.cons rfl (fun K hK => ?_) AllReadyH.nil
      refine step_row (by rfl) _ (by rfl) _ _ 65 (by rfl) 31 32 32 Try.underlying65 hash_infoR (by decide) base (.slice A5 n5 c5) n5 cs (by rfl) ((Only.of_below BW5.out (fun _ => False)).own ho.out (fun _ _ h => h)) (Nat.le_trans hbase.out BW5.out.size) _ 0 1 1 (bcs H) (by rfl) (by rw [bcs_length, HL.out]) NB.out (bcs_one _) (by have := hn5.out; omega) (by decide) ?_
      intro A9 c9 W6 q1 q2 q3 q4
      have KY6 := hide (q4.blk (kY.out.under BW5.out) hYn.out)
      have OW6 := hide ((Only.of_below BW5.out _).trans q4 (fun _ _ h => h))
      have Q1 := hide q1
      have Q2 := hide q2
      have Q3 := hide q3
      clear q1 q2 q3 q4
      refine hK.out _ _ (trivial) (fun hSA5 => ?_)
      clear hK K
      refine wpAnyH_ready (rs := [7]) (by kernel_rfl) (by simp) ?_
      refine AllReadyH.cons rfl (fun K hK => ?_) AllReadyH.nil
      have c0 := KY6.out.c0
      have f0 := KY6.out.frozen 0
      go_simp
      clear c0 f0
      refine hK.out _ _ (trivial) (fun hSA6 => ?_)
      clear hK K
      refine wpAnyH_done (by kernel_rfl) ?_ _
      have o7 : Only (fun i => i = pY) W6 (W6.setCell ⟨pY, 0, none⟩ (.slice A9 (n5 + 1) c9)) := Only.cell1 W6 pY 0 _
      refine hQ _ _ A9 c9 ((OW6.out.mono (fun i _ h => .inr h)).trans o7 (fun i _ h => .inl h)) ?_ Q2.out ?_ 
      · exact KY6.out.set_ 0 _
      · rw [← HHH.out]; exact o7.own Q1.out (fun g hg e => hYn.out (by have h9 : g = pY := e; subst h9; exact (Q3.out g hg).resolve_right (fun h => by have := hYl.out; have := BW5.out.size; omega)))
    · go_simp
      go_wp2_with (go_at_call 73; refine (Twice_any W3 _ 2 2 [a, b] X3.out (by simp [ha.out.1]) (by simp [ha.out.1, hb.out.1]) (by decide)).mono ?_; rintro e W4 ⟨rfl, hb4⟩)
      have BW4 := hide (Below.then_ BW3.out hb4)
      clear hb4
      obtain ⟨H, hH⟩ : ∃ H, H = sha2 (a ++ b) := ⟨_, rfl⟩
      have HL := hide (show H.length = 32 by rw [hH]; exact sha2_len _)
      rw [← hH]
      have HHH := hide hH
      clear hH
      refine hK.out _ _ (trivial) (fun hSA2 => ?_)
      clear hK K
      refine wpAnyH_ready (rs := [0, 5]) (by kernel_rfl) (by simp) ?_
      refine AllReadyH.cons rfl (fun K hK => ?_) (AllReadyH.cons rfl (fun K hK => ?_) AllReadyH.nil)
      · have c0 := (kY.out.under BW4.out).c0
        go_simp
        clear c0
        refine hK.out _ _ (trivial) (fun hSA3 => ?_)
        clear hK K
        refine wpAnyH_ready (rs := [5]) (by kernel_rfl) (by simp) ?_
        refine AllReadyH.cons rfl (fun K hK => ?_) AllReadyH.nil
        have hmk := mkHs1_run W4 H HL.out
        go_simp
        clear hmk
        have NB := hide (show (W4.alloc (.cells (bcs H).toArray 31)).rangeAt W4.heap.size 0 (bcs H) from (Blk.new W4 31 (bcs H)).whole)
        have BW5 := hide (below_alloc BW4.out (.cells (bcs H).toArray 31))
        obtain ⟨W5, hW5⟩ : ∃ x, x = W4.alloc (.cells (bcs H).toArray 31) := ⟨_, rfl⟩
        rw [← hW5] at NB BW5 ⊢
        clear hW5
        refine hK.out _ _ (trivial) (fun hSA4 => ?_)
        clear hK K
        refine wpAnyH_ready (rs := [6]) (by kernel_rfl) (by simp) ?_
        refine AllReadyH.cons rfl (fun K hK => ?_) AllReadyH.nil
        refine step_row (by rfl) _ (by rfl) _ _ 65 (by rfl) 31 32 32 Try.underlying65 hash_infoR (by decide) base (.slice A5 n5 c5) n5 cs (by rfl) ((Only.of_below BW5.out (fun _ => False)).own ho.out (fun _ _ h => h)) (Nat.le_trans hbase.out BW5.out.size) _ 0 1 1 (bcs H) (by rfl) (by rw [bcs_length, HL.out]) NB.out (bcs_one _) (by have := hn5.out; omega) (by decide) ?_
        intro A9 c9 W6 q1 q2 q3 q4
        have KY6 := hide (q4.blk (kY.out.under BW5.out) hYn.out)
        have OW6 := hide ((Only.of_below BW5.out _).trans q4 (fun _ _ h => h))
        have Q1 := hide q1
        have Q2 := hide q2
        have Q3 := hide q3
        clear q1 q2 q3 q4
        refine hK.out _ _ (trivial) (fun hSA5 => ?_)
        clear hK K
        refine wpAnyH_ready (rs := [7]) (by kernel_rfl) (by simp) ?_
        refine AllReadyH.cons rfl (fun K hK => ?_) AllReadyH.nil
        have c0 := KY6.out.c0
        have f0 := KY6.out.frozen 0
        go_simp
        clear c0 f0
        refine hK.out _ _ (trivial) (fun hSA6 => ?_)
        clear hK K
        refine wpAnyH_done (by kernel_rfl) ?_ _
        have o7 : Only (fun i => i = pY) W6 (W6.setCell ⟨pY, 0, none⟩ (.slice A9 (n5 + 1) c9)) := Only.cell1 W6 pY 0 _
        refine hQ _ _ A9 c9 ((OW6.out.mono (fun i _ h => .inr h)).trans o7 (fun i _ h => .inl h)) ?_ Q2.out ?_ 
        · exact KY6.out.set_ 0 _
        · rw [← HHH.out]; exact o7.own Q1.out (fun g hg e => hYn.out (by have h9 : g = pY := e; subst h9; exact (Q3.out g hg).resolve_right (fun h => by have := hYl.out; have := BW5.out.size; omega)))
      · have hmk := mkHs1_run W4 H HL.out
        go_simp
        clear hmk
        have NB := hide (show (W4.alloc (.cells (bcs H).toArray 31)).rangeAt W4.heap.size 0 (bcs H) from (Blk.new W4 31 (bcs H)).whole)
        have BW5 := hide (below_alloc BW4.out (.cells (bcs H).toArray 31))
        obtain ⟨W5, hW5⟩ : ∃ x, x = W4.alloc (.cells (bcs H).toArray 31) := ⟨_, rfl⟩
        rw [← hW5] at NB BW5 ⊢
        clear hW5
        refine hK.out _ _ (trivial) (fun hSA3 => ?_)
        clear hK K
        refine wpAnyH_ready (rs := [0]) (by kernel_rfl) (by simp) ?_
        refine AllReadyH.cons rfl (fun K hK => ?_) AllReadyH.nil
        have c0 := (kY.out.under BW5.out).c0
        go_simp
        clear c0
        refine hK.out _ _ (trivial) (fun hSA4 => ?_)
        clear hK K
        refine wpAnyH_ready (rs := [6]) (by kernel_rfl) (by simp) ?_
        refine AllReadyH.cons rfl (fun K hK => ?_) AllReadyH.nil
        refine step_row (by rfl) _ (by rfl) _ _ 65 (by rfl) 31 32 32 Try.underlying65 hash_infoR (by decide) base (.slice A5 n5 c5) n5 cs (by rfl) ((Only.of_below BW5.out (fun _ => False)).own ho.out (fun _ _ h => h)) (Nat.le_trans hbase.out BW5.out.size) _ 0 1 1 (bcs H) (by rfl) (by rw [bcs_length, HL.out]) NB.out (bcs_one _) (by have := hn5.out; omega) (by decide) ?_
        intro A9 c9 W6 q1 q2 q3 q4
        have KY6 := hide (q4.blk (kY.out.under BW5.out) hYn.out)
        have OW6 := hide ((Only.of_below BW5.out _).trans q4 (fun _ _ h => h))
        have Q1 := hide q1
        have Q2 := hide q2
        have Q3 := hide q3
        clear q1 q2 q3 q4
        refine hK.out _ _ (trivial) (fun hSA5 => ?_)
        clear hK K
        refine wpAnyH_ready (rs := [7]) (by kernel_rfl) (by simp) ?_
        refine AllReadyH.cons rfl (fun K hK => ?_) AllReadyH.nil
        have c0 := KY6.out.c0
        have f0 := KY6.out.frozen 0
        go_simp
        clear c0 f0
        refine hK.out _ _ (trivial) (fun hSA6 => ?_)
        clear hK K
        refine wpAnyH_done (by kernel_rfl) ?_ _
        have o7 : Only (fun i => i = pY) W6 (W6.setCell ⟨pY, 0, none⟩ (.slice A9 (n5 + 1) c9)) := Only.cell1 W6 pY 0 _
        refine hQ _ _ A9 c9 ((OW6.out.mono (fun i _ h => .inr h)).trans o7 (fun i _ h => .inl h)) ?_ Q2.out ?_ 
        · exact KY6.out.set_ 0 _
        · rw [← HHH.out]; exact o7.own Q1.out (fun g hg e => hYn.out (by have h9 : g = pY := e; subst h9; exact (Q3.out g hg).resolve_right (fun h => by have := hYl.out; have := BW5.out.size; omega)))
end Go.Proofs.Ytbpmcnfmgaolnaa
/-
  The program: what stands for all hashes.
-/
namespace Go.Proofs.Ytbpmcnfmgaolnaa
open Go.RowKit Go.Shelf

attribute [local go_sem] Oper.semAt_some
attribute [local go_sem ↓] loadHash_fold mkHash_fold eqlHash_fold mkHs1_fold
attribute [local go_sem] mkHash_zero
/-- What turns but in blocks of cells keeps whatever is no cells. -/
theorem keepsFrom_of_only {F : Nat → Prop} {W W' : World} (B : Nat) (h : Only F W W') (hF : ∀ i, i < W.heap.size → F i → ∃ o : Obj, W.heap[i]? = some o ∧ o.isCells = true) : KeepsFrom B W W' :=
  ⟨h.size, fun k o _ hk ho => by
    have hlt := (Array.getElem?_eq_some_iff.1 hk).1
    refine (h.block k hlt fun hf => ?_).trans hk
    obtain ⟨o', h1, h2⟩ := hF k hlt hf
    rw [hk] at h1
    cases h1
    rw [ho] at h2
    cases h2⟩
theorem kpXY_of_only {F : Nat → Prop} {W W' : World} {n0 X Y : Nat} (h : Only F W W') (hF : ∀ i, i < n0 → F i → i = X ∨ i = Y) : KpXY n0 X Y W W' := fun i hi hx hy o ho _ =>
  (h.block i (Array.getElem?_eq_some_iff.1 ho).1 (fun hf => by rcases hF i hi hf with h | h; exact hx h; exact hy h)).trans ho
/-- What a round of Root knows between two pairs: w1 is the world where the pairs' loop began; X holds whether two were the same, Y the row of what was made. -/
structure PairsIn (w1 : World) (X Y : Nat) (s0 : Bool) (l : List (List Int)) (pre : List (PairNo l.length)) (W : World) : Prop where
  only : Only (fun i => i = X ∨ i = Y) w1 W
  same : Blk W X 4 [.bool (s0 || pre.any (pairSame l))]
  row : ∃ (A : Option Addr) (c : Nat), Blk W Y 65 [.slice A pre.length c] ∧ pre.length ≤ c ∧ W.ownsRow w1.heap.size 31 32 (.slice A pre.length c) pre.length ((pre.map (pairHash l)).flatMap bcs)
theorem blk_kept {W W' : World} {row : Option Nat} {g : Nat} {t : TypeId} {cs : List Value} (h : Blk W g t cs) (hg : W.grownBy W' row) (hr : ∀ r, row = some r → ∃ o : Obj, W.heap[r]? = some o ∧ o.isCells = false) : Blk W' g t cs := by
  refine (hg.block g h.lt fun e => ?_).trans h
  obtain ⟨o, h1, h2⟩ := hr g e.symm
  rw [show W.heap[g]? = _ from h] at h1
  cases h1
  cases h2
theorem row_kept {W W' : World} {row : Option Nat} {base : Nat} {e : TypeId} {k n : Nat} {v : Value} {cs : List Value} (h : W.ownsRow base e k v n cs) (hg : W.grownBy W' row) (hr : ∀ r, row = some r → ∃ o : Obj, W.heap[r]? = some o ∧ o.isCells = false) : W'.ownsRow base e k v n cs := by
  refine ⟨h.1, h.2.imp id fun ⟨g, cap, cur, h1, h2, h3, h4⟩ => ⟨g, cap, cur, h1, h2, ?_, h4⟩⟩
  exact blk_kept (cs := cur.toList) (by simpa [Blk] using h3) hg hr |> fun h => by simpa [Blk] using h
theorem pairsIn_own (w1 : World) (X Y : Nat) (s0 : Bool) (l : List (List Int)) : OwnFrom w1.heap.size (PairsIn w1 X Y s0 l) := by
  intro pre W W' row h hg hr
  have hc := fun r e => (hr r e).2
  obtain ⟨A, c, h1, h2, h3⟩ := h.row
  exact ⟨h.only.grown hg (fun g e => .inl (hr g e).1), blk_kept h.same hg hc, A, c, blk_kept h1 hg hc, h2, row_kept h3 hg hc⟩
theorem pairs_round {w1 : World} {X Y B : Nat} {s0 : Bool} {l : List (List Int)} {pre : List (PairNo l.length)} {W W8 W9 W' : World} {A5 A' : Option Addr} {c5 c' : Nat} (x : PairNo l.length) (hXY : X ≠ Y) (hX1 : X < w1.heap.size)
    (hP : PairsIn w1 X Y s0 l pre W) (kY : Blk W Y 65 [.slice A5 pre.length c5]) (ho : W.ownsRow w1.heap.size 31 32 (.slice A5 pre.length c5) pre.length ((pre.map (pairHash l)).flatMap bcs))
    (v : Bool) (hv : v = (s0 || (pre ++ [x]).any (pairSame l))) (T : Below W.heap.size W W8) (e9 : W9 = W8.setCell ⟨X, 0, none⟩ (.bool v))
    (o1 : Only (fun i => i = Y ∨ (Value.slice A5 pre.length c5).ownBlock = some i) W9 W') (k1 : Blk W' Y 65 [.slice A' (pre.length + 1) c']) (hc1 : pre.length + 1 ≤ c')
    (r1 : W'.ownsRow w1.heap.size 31 32 (.slice A' (pre.length + 1) c') (pre.length + 1) ((pre.map (pairHash l)).flatMap bcs ++ bcs (sha2 (pairA l x.1 ++ pairB l x.1)))) :
    KeepsFrom B W W' ∧ KpXY w1.heap.size X Y W W' ∧ PairsIn w1 X Y s0 l (pre ++ [x]) W' := by
  subst e9
  have hown : ∀ g, (Value.slice A5 pre.length c5).ownBlock = some g → w1.heap.size ≤ g ∧ g < W.heap.size := fun g hg => ho.lt g hg
  have oW : Only (fun i => i = X ∨ i = Y ∨ (Value.slice A5 pre.length c5).ownBlock = some i) W W' := ((Only.of_below T _).trans (Only.cell1 W8 X 0 _) (fun i _ h => .inl h)).trans o1 (fun i _ h => .inr h)
  refine ⟨keepsFrom_of_only B oW ?_, kpXY_of_only oW ?_, ?_, ?_, A', c', ?_, ?_, ?_⟩
  · rintro i hi (rfl | rfl | hg)
    · exact ⟨_, hP.same, rfl⟩
    · exact ⟨_, kY, rfl⟩
    · rcases ho.2 with ⟨e, _⟩ | ⟨g, cap, cur, e, _, hh, _⟩
      · rw [e] at hg
        cases hg
      · rw [e] at hg
        have e9 : g = i := by injection hg
        subst e9
        exact ⟨_, hh, rfl⟩
  · rintro i hi (h | h | hg)
    · exact .inl h
    · exact .inr h
    · have := (hown i hg).1
      omega
  · refine hP.only.trans oW ?_
    rintro i hi (h | h | hg)
    · exact .inl h
    · exact .inr h
    · have := (hown i hg).1
      omega
  · rw [← hv]
    refine o1.blk ((hP.same.under T).set_ 0 (.bool v)) ?_
    rintro (h | h)
    · exact hXY h
    · have := (hown X h).1
      omega
  · rw [List.length_append]
    exact k1
  · rw [List.length_append]
    exact hc1
  · rw [List.length_append, List.map_append, List.flatMap_append]
    simpa [pairHash] using r1
/-- What Root's own loop knows: the hashes at hand, of which the same stands for all. -/
structure RootAt (w : World) (p2 p4 : Nat) (l : List (List Int)) (l' : List (List Int)) (A : Option Addr) (n c : Nat) (s : Bool) (ds : List Nat) (W : World) : Prop where
  hashes : HashesIn W A n l'
  cap : n ≤ c
  small : n ≤ 1000
  pos : 1 ≤ n
  root : rootL l = ((rootL l').1, s || (rootL l').2)
  far : ∀ ad, A = some ad → ad.block ≠ p2 ∧ ad.block ≠ p4
  k2 : Blk W p2 31 (bcs zero32)
  k4 : Blk W p4 4 [.bool s]
  nodup : ds.Nodup
  mark : ∀ D ∈ ds, w.heap.size ≤ D ∧ W.heap[D]? = some (.deferred (some []))
  below : Below w.heap.size w W
theorem ne_of_getD {w : World} {A : Option Addr} {n : Nat} {l : List (List Int)} (h : HashesIn w A n l) (hn : 0 < n) : ∃ b off, A = some ⟨b, off, none⟩ ∧ b < w.heap.size := by
  obtain ⟨b, off, e, hr⟩ := h.2.2 hn
  refine ⟨b, off, e, ?_⟩
  obtain ⟨x, hx⟩ : ∃ x, l[0]? = some x := ⟨_, List.getElem?_eq_getElem (by have := h.1; omega)⟩
  have h1 := hr 0 x hx
  have hf := (h.2.1 x (List.mem_of_getElem? hx)).1
  obtain ⟨v, hv⟩ : ∃ v, (bcs x)[0]? = some v := ⟨_, List.getElem?_eq_getElem (by rw [bcs_length, hf]; decide)⟩
  have h2 := h1 0 v hv
  exact World.block_lt_of_cell? w _ h2
def RootAtS (w : World) (p2 p4 : Nat) (l : List (List Int)) (l' : List (List Int)) (A : Option Addr) (n c : Nat) (ds : List Nat) (W : World) : Prop := ∃ s, RootAt w p2 p4 l l' A n c s ds W
def lenOf : Value → Nat
  | .slice _ n _ => n
  | _ => 0
set_option maxHeartbeats 8000000 in
set_option maxRecDepth 100000 in
theorem Root_any (w : World) (A : Option Addr) (n c : Nat) (l : List (List Int)) (hH : HashesIn w A n l) (hn : n ≤ 1000) (hc : n ≤ c) :
    Calls Try.prog 29 #[.slice A n c] w (RootPost w l) := by
  refine (callsIn_wide (n := 9)).1 (callsIn_of_wp_marks Try.func29 rfl trivial ?_ rfl)
  simp only [Try.ntmps29, List.size_toArray, List.length_cons, List.length_nil, Nat.reduceAdd, Nat.reduceSub, Array.replicate_succ, Array.replicate_zero, List.push_toArray, List.append_toArray, List.nil_append, List.cons_append]
  refine wpIn_wide.2 (wp_calm ?_)
  have HH := hide hH
  have HN := hide hn
  have HC := hide hc
  have hlen := hide hH.1
  have BZ := hide (Blk.new w 31 (bcs zero32))
  have b0 := hide (below_alloc (Below.refl _ w) (.cells (bcs zero32).toArray 31))
  clear hH hn hc
  by_cases h0 : n = 0
  · subst h0
    have hl : l = [] := List.eq_nil_of_length_eq_zero hlen.out
    subst hl
    go_wp2_with (first
      | (refine wpList_alloc_agg rfl 31 rfl (bcs zero32) zeroHash_info ?_; simp only [Act.put, List.setIfInBounds_toArray, List.set_cons_zero, List.set_cons_succ])
      | (refine wpList_store_blk rfl 31 _ _ rfl w.heap.size 0 31 (bcs zero32) (bcs zero32) (by rfl) (by rfl) BZ.out (Nat.le_refl _) (by exact isHash32) (bcs_one _) ?_; intro w9 o9 z9 b9; rw [lay_all _ _ rfl] at b9; simp only [Act.put]))
    refine leaves_marks (F := Fence.wide) (n := 9) (n0 := w.heap.size) [] w9 List.nodup_nil (by simp) (fun w' hk => ⟨_, results_hash_tmp _ _ _ rfl _ _ w.heap.size zero32 rfl (by rfl) (hk.2 _ _ b9 rfl), rfl, ?_⟩)
    exact (b0.out.trans (o9.below b0.out.size (fun i hi e => by have h9 : i = w.heap.size := e; omega))).trans hk.1
  · have hc0 : ((n : Int) == 0) = false := by simp; omega
    go_wp2_with (refine wpList_alloc_agg rfl 31 rfl (bcs zero32) zeroHash_info ?_; simp only [Act.put, List.setIfInBounds_toArray, List.set_cons_zero, List.set_cons_succ])
    obtain ⟨w0, hw0⟩ : ∃ x, x = w.alloc (.cells (bcs zero32).toArray 31) := ⟨_, rfl⟩
    have hs0 : w0.heap.size = w.heap.size + 1 := by rw [hw0]; simp
    have hs1 : w.heap.size + 1 = w0.heap.size := hs0.symm
    rw [← hw0] at BZ b0 ⊢
    clear hw0
    have B4 := hide (Blk.new w0 4 [.bool false])
    have B2 := hide (BZ.out.alloc (.cells #[.bool false] 4))
    have bb := hide (below_alloc b0.out (.cells #[.bool false] 4))
    obtain ⟨w00, hw00⟩ : ∃ x, x = w0.alloc (.cells #[.bool false] 4) := ⟨_, rfl⟩
    have H2 := hide (show w.heap.size < w0.heap.size by omega)
    have Hw := hide (show w0.heap.size < w00.heap.size by rw [hw00]; simp)
    rw [hs1]
    obtain ⟨p2, hp2⟩ : ∃ p, p = w.heap.size := ⟨_, rfl⟩
    obtain ⟨p4, hp4⟩ : ∃ p, p = w0.heap.size := ⟨_, rfl⟩
    have hR0 : RootAt w p2 p4 l l A n c false [] w00 := by
      rw [hp2, hp4, hw00]
      refine ⟨HH.out.below' ((show Below w.heap.size w (w0.alloc (.cells #[.bool false] 4)) from bb.out)), HC.out, HN.out, by omega, by simp, fun ad e => ?_, B2.out, B4.out, List.nodup_nil, by simp, bb.out⟩
      obtain ⟨b, off, e2, hb⟩ := ne_of_getD HH.out (by omega)
      rw [e] at e2
      injection e2 with e2
      subst e2
      have := H2.out
      exact ⟨by show b ≠ _; omega, by show b ≠ _; omega⟩
    rw [← hp2, ← hp4, ← hw00]
    have HR0 := hide hR0
    have P24 := hide (show p2 ≠ p4 by rw [hp2, hp4]; have := H2.out; omega)
    have P2w := hide hp2
    have P4w := hide (show w.heap.size ≤ p4 by rw [hp4]; have := H2.out; omega)
    clear hR0 hw00 hp2 hp4 hs0 hs1 B2 B4 bb
    refine wp_loop (fun a' wr => ∃ (l' : List (List Int)) (A' : Option Addr) (n' c' : Nat) (ds : List Nat) (u1 u3 u5 u6 u7 u8 u9 u10 u11 u12 u13 u14 u15 u16 u17 u18 u19 u20 u21 u22 u23 u24 u25 u26 u27 u28 u29 u30 u31 u32 u33 u34 u35 u36 u37 u38 u39 u40 u41 u42 u43 u44 u45 u46 u47 u48 u49 u50 : Value), a' = { tmps := #[.slice A' n' c', u1, .pointer (some ⟨p2, 0, none⟩), u3, .pointer (some ⟨p4, 0, none⟩), u5, u6, u7, u8, u9, u10, u11, u12, u13, u14, u15, u16, u17, u18, u19, u20, u21, u22, u23, u24, u25, u26, u27, u28, u29, u30, u31, u32, u33, u34, u35, u36, u37, u38, u39, u40, u41, u42, u43, u44, u45, u46, u47, u48, u49, u50], defers := marks ds } ∧ RootAtS w p2 p4 l l' A' n' c' ds wr) (fun a' _ => lenOf (a'.tmps.getD 0 undef)) ⟨l, A, n, c, [], _, _, _, _, _, _, _, _, _, _, _, _, _, _, _, _, _, _, _, _, _, _, _, _, _, _, _, _, _, _, _, _, _, _, _, _, _, _, _, _, _, _, _, _, _, _, _, _, rfl, false, HR0.out⟩ ?_
    rintro a wr ⟨l', A', n', c', ds, u1, u3, u5, u6, u7, u8, u9, u10, u11, u12, u13, u14, u15, u16, u17, u18, u19, u20, u21, u22, u23, u24, u25, u26, u27, u28, u29, u30, u31, u32, u33, u34, u35, u36, u37, u38, u39, u40, u41, u42, u43, u44, u45, u46, u47, u48, u49, u50, rfl, s, hr⟩
    have HR := hide hr
    clear hr
    have hln := hide HR.out.hashes.1
    have hp1 := HR.out.pos
    by_cases h1 : n' = 1
    · subst h1
      obtain ⟨x, hx⟩ : ∃ x, l' = [x] := List.length_eq_one_iff.1 hln.out
      subst hx
      obtain ⟨pb, off, rfl, hrr⟩ := HR.out.hashes.2.2 (by decide)
      have hxf := hide (HR.out.hashes.2.1 x (by simp))
      have hr1 := hide (show wr.rangeAt pb off (bcs x) by simpa using hrr 0 x rfl)
      have hs4 := HR.out.k4.c0
      clear hrr hp1
      go_wp2_with fail
      refine wp_region_held_drew (S := fun w' => Blk w' p4 4 [.bool s] ∧ w'.rangeAt pb off (bcs x)) (by kernel_rfl) (⟨HR.out.k4.under (Below.refl _ wr).drew, range_under hr1.out (Below.refl _ wr).drew⟩) (fun hSA0 => ?_)
      obtain ⟨wrd, hwA⟩ : ∃ x, x = wr.drew := ⟨_, rfl⟩
      have Bd := hide (show Below wr.heap.size wr wrd by rw [hwA]; exact (Below.refl _ _).drew)
      rw [← hwA] at hSA0 ⊢
      clear hwA
      (refine wpAnyH_take (i := 0) (oi := ⟨some 47, .move (.tmp 0), 65, "block.go:74", #[], none⟩) (v := ?_) rfl (by kernel_rfl) (by kernel_rfl) (by kernel_rfl) (fun _ _ _ h => h) (Or.inl ⟨by rfl, fun w' hSw => ?_⟩) hSA0 ?_; rotate_left; focus (go_simp; try with_reducible rfl))
      simp only [Act.put, List.setIfInBounds_toArray, List.set_cons_zero, List.set_cons_succ]
      (refine wpAnyH_take (i := 1) (oi := ⟨some 48, .indexAddr 65 (.tmp 47) (.const (.int .i64 0)), 0, "block.go:74", #[⟨0, .data⟩], none⟩) (v := ?_) rfl (by kernel_rfl) (by kernel_rfl) (by kernel_rfl) (fun _ _ _ h => h) (Or.inl ⟨by rfl, fun w' hSw => ?_⟩) hSA0 ?_; rotate_left; focus (go_simp; try with_reducible rfl))
      simp only [Act.put, List.setIfInBounds_toArray, List.set_cons_zero, List.set_cons_succ]
      (refine wpAnyH_take (i := 2) (oi := ⟨some 49, .load 31 (.tmp 48), 31, "block.go:74", #[⟨1, .data⟩], none⟩) (v := ?_) rfl (by kernel_rfl) (by kernel_rfl) (by kernel_rfl) (fun _ _ _ h => h) (Or.inl ⟨by rfl, fun w' hSw => ?_⟩) hSA0 ?_; rotate_left; focus (have hl := loadHashB_run w' pb off x hSw.2 hxf.out.1; go_simp; try with_reducible rfl))
      simp only [Act.put, List.setIfInBounds_toArray, List.set_cons_zero, List.set_cons_succ]
      (refine wpAnyH_take (i := 3) (oi := ⟨some 50, .load 4 (.tmp 4), 4, "block.go:74", #[⟨4, .gcOnly .lateStores⟩], none⟩) (v := ?_) rfl (by kernel_rfl) (by kernel_rfl) (by kernel_rfl) (fun _ _ _ h => h) (Or.inl ⟨by rfl, fun w' hSw => ?_⟩) hSA0 ?_; rotate_left; focus (have hc := hSw.1.c0; go_simp; try with_reducible rfl))
      simp only [Act.put, List.setIfInBounds_toArray, List.set_cons_zero, List.set_cons_succ]
      refine wpAnyH_ready (rs := [4]) (by kernel_rfl) (by simp) ?_
      refine AllReadyH.cons rfl (fun K hK => ?_) AllReadyH.nil
      refine step_store_blk rfl 31 _ _ rfl p2 0 31 (bcs zero32) (bcs x) (by rfl) (by rfl) (HR.out.k2.under Bd.out) (by rw [bcs_length, bcs_length, hxf.out.1]; decide) (by rw [bcs_length, hxf.out.1]; exact isHash32) (bcs_one _) ?_
      intro w9 o9 z9 b9
      rw [lay_all _ _ (by rw [bcs_length, bcs_length, hxf.out.1]; rfl)] at b9
      have hS9 : Blk w9 p4 4 [.bool s] ∧ w9.rangeAt pb off (bcs x) := ⟨o9.blk (HR.out.k4.under Bd.out) (fun e => P24.out e.symm), fun j v hv => (World.cell?_of_block (o9.block pb (World.block_lt_of_cell? _ _ (hSA0.2 j v hv)) (fun e => (HR.out.far _ rfl).1 e))).trans (hSA0.2 j v hv)⟩
      simp only [Act.put]
      refine hK.out _ _ (hS9) (fun hSA1 => ?_)
      clear hK K
      (refine wpAnyH_take (i := 5) (oi := ⟨some 3, .assign (.tmp 50), 4, "block.go:74", #[⟨3, .data⟩, ⟨4, .chain⟩, ⟨0, .phase⟩, ⟨1, .phase⟩, ⟨2, .phase⟩, ⟨3, .phase⟩, ⟨4, .phase⟩], none⟩) (v := ?_) rfl (by kernel_rfl) (by kernel_rfl) (by kernel_rfl) (fun _ _ _ h => h) (Or.inl ⟨by rfl, fun w' hSw => ?_⟩) hSA1 ?_; rotate_left; focus (go_simp; try with_reducible rfl))
      simp only [Act.put, List.setIfInBounds_toArray]
      refine wpAnyH_done (by kernel_rfl) ?_ _
      go_wp2_with fail
      have hb9 := o9.under (Below.then_ HR.out.below Bd.out) (fun i hi => by have h9 : i = p2 := hi; have := P2w.out; omega)
      refine leaves_marks (F := Fence.wide) (n := 9) (n0 := w.heap.size) ds w9 HR.out.nodup (fun D hD => ?_) (fun w' hk => ⟨_, results_hash_tmp _ _ _ rfl _ _ p2 x hxf.out.1 (by rfl) (hk.2 _ _ b9 rfl), ?_, hb9.trans hk.1⟩)
      · obtain ⟨h1, h2⟩ := HR.out.mark D hD
        refine ⟨h1, (o9.block D ?_ ?_).trans ((Bd.out.block D (Array.getElem?_eq_some_iff.1 h2).1).trans h2)⟩
        · exact Nat.lt_of_lt_of_le (Array.getElem?_eq_some_iff.1 h2).1 Bd.out.size
        · intro e
          have h9 : D = p2 := e
          subst h9
          have h3 : wr.heap[D]? = _ := HR.out.k2
          rw [h2] at h3
          cases h3
      · rw [HR.out.root]
        simp [show rootL [x] = (x, false) from rfl]
    · have i1 : (1 : Int) < (n' : Int) := by omega
      have hn2 := hide (show 2 ≤ n' by omega)
      obtain ⟨pb, off, hA', hpb⟩ := ne_of_getD HR.out.hashes (by omega)
      subst hA'
      have HPB := hide hpb
      clear h1 hp1 hpb
      go_wp2_with (go_at_call 72; refine ((callsIn_wide (n := 9)).1 (chunk_in Fence.wide 9 trivial rfl _ _ _ _)).mono ?_; rintro e w' ⟨rfl, rfl⟩)
      obtain ⟨wa, hwa⟩ : ∃ x, x = wr.alloc (.cells #[.slice none 0 0] 65) := ⟨_, rfl⟩
      obtain ⟨wb, hwb⟩ : ∃ x, x = wa.alloc (.cells #[.slice (some ⟨pb, off, none⟩) n' c'] 65) := ⟨_, rfl⟩
      obtain ⟨w1, hw1⟩ : ∃ x, x = wb.alloc (.cells #[.int .i64 2] 3) := ⟨_, rfl⟩
      rw [← hwa, ← hwb, ← hw1]
      have sa : wa.heap.size = wr.heap.size + 1 := by rw [hwa]; simp
      have sb : wb.heap.size = wr.heap.size + 1 + 1 := by rw [hwb]; simp; omega
      have sc : w1.heap.size = wr.heap.size + 1 + 1 + 1 := by rw [hw1]; simp; omega
      have kY : Blk w1 wr.heap.size 65 [.slice none 0 0] := by rw [hw1]; refine Blk.alloc ?_ _; rw [hwb]; refine Blk.alloc ?_ _; rw [hwa]; exact Blk.new _ _ _
      have kS : Blk w1 (wr.heap.size + 1) 65 [.slice (some ⟨pb, off, none⟩) n' c'] := by rw [hw1]; refine Blk.alloc ?_ _; rw [hwb, ← sa]; exact Blk.new _ _ _
      have kN : Blk w1 (wr.heap.size + 1 + 1) 3 [.int .i64 2] := by rw [hw1, ← sb]; exact Blk.new _ _ _
      have hbr : Below wr.heap.size wr w1 := by rw [hw1]; refine below_alloc ?_ _; rw [hwb]; refine below_alloc ?_ _; rw [hwa]; exact below_alloc (Below.refl _ _) _
      have hp4 := HR.out.k4.lt
      have hI0 : PairsIn w1 p4 wr.heap.size s l' [] w1 := ⟨Only.refl _ _, by simpa using HR.out.k4.under hbr, none, 0, kY, Nat.le_refl _, World.ownsRow_nil w1 _ _ _⟩
      have hcs := chunk_stops 8 (by decide) (wr.heap.size + 1) (wr.heap.size + 1 + 1) w1.heap.size p4 wr.heap.size pb off n' c' w1 (by have := HR.out.small; omega) HR.out.cap (by omega) (by omega) (by omega) (by omega) kS.c0 kN.c0
      have hle := hln.out
      subst hle
      have HBR := hide hbr
      have H4 := hide hp4
      have SC := hide sc
      clear hwa hwb hw1 sa sb sc kY kS kN hbr hp4
      refine (wpIn_wide (n := 9)).1 ?_
      refine wpIn_rangeFunc_ownG rfl (by decide) (gf := 113) (lb := #[.pointer (some ⟨wr.heap.size + 1, 0, none⟩), .pointer (some ⟨wr.heap.size + 1 + 1, 0, none⟩)]) rfl trivial (enters_of Try.func113 (by kernel_rfl) rfl)
        hcs (fun h k => h.trans k) (fun W l o o' _ h hc _ => KpXY.put W l o o' h hc) (Below.refl _ _) (fun _ => rfl)
        (PairsIn w1 p4 wr.heap.size s l') (fun _ _ _ => False) (pairsIn_own w1 p4 wr.heap.size s l') (fun _ _ _ _ _ hs _ _ => hs)
        hI0
        (fun x => { tmps := #[.slice (some ⟨pb, off, none⟩) l'.length c', u1, .pointer (some ⟨p2, 0, none⟩), u3, .pointer (some ⟨p4, 0, none⟩), .pointer (some ⟨wr.heap.size, 0, none⟩), .slice (some ⟨pb, off + 2 * x.1 * 32, none⟩) (pairLen l'.length x.1) (pairLen l'.length x.1), u7, u8, u9, u10, u11, u12, .slice (some ⟨pb, off, none⟩) l'.length c', .int .i64 (l'.length : Int), .bool true, .slice (some ⟨pb, off, none⟩) l'.length c', .func (.func 113) #[] #[.pointer (some ⟨wr.heap.size + 1, 0, none⟩), .pointer (some ⟨wr.heap.size + 1 + 1, 0, none⟩)], .slice (some ⟨pb, off + 2 * x.1 * 32, none⟩) (pairLen l'.length x.1) (pairLen l'.length x.1), u19, u20, u21, u22, u23, u24, u25, u26, u27, u28, u29, u30, u31, u32, u33, u34, u35, u36, u37, u38, u39, u40, u41, u42, u43, u44, u45, u46, u47, u48, u49, u50], defers := [] }) ?assign ?body ?done ?stop
      case assign =>
        intro l x W K hK
        simp only [encPair]
        gi_wp2
        exact hK
      case body =>
        rintro ln pre ⟨k, hk⟩ W hP hpl
        obtain ⟨A5, c5, kY5, hc5, ho5⟩ := hP.row
        obtain ⟨b', off', e', hrow⟩ := HR.out.hashes.2.2 (by have := hn2.out; omega)
        injection e' with e'
        injection e' with e1 e2 _
        subst e1
        subst e2
        have hraW : ∀ (i : Nat) (y : List Int), l'[i]? = some y → W.rangeAt pb (off + i * 32) (bcs y) := fun i y hy j v hv => by
          have h1 := range_under (hrow i y hy) HBR.out j v hv
          refine (World.cell?_of_block (hP.only.block pb (World.block_lt_of_cell? _ _ h1) ?_)).trans h1
          rintro (h | h)
          · exact (HR.out.far _ rfl).2 h
          · have := HPB.out; omega
        have hall := HR.out.hashes.2.1
        obtain ⟨sv, hsv⟩ : ∃ v, v = (s || pre.any (pairSame l')) := ⟨_, rfl⟩
        have PS := hide (show Blk W p4 4 [.bool sv] by rw [hsv]; exact hP.same)
        have HSV := hide hsv
        have KY := hide kY5
        have OY := hide ho5
        have HP := hide hP
        have W1 := hide hP.only.size
        have PLN := hide hpl
        obtain ⟨a, ha⟩ : ∃ a, a = pairA l' k := ⟨_, rfl⟩
        have hga : l'[2 * k]? = some a := by rw [ha]; exact pairA_get l' k hk
        have haf := hide (hall a (List.mem_of_getElem? hga))
        have hra := hraW _ a hga
        have YN := hide (show ¬ (Value.slice A5 pre.length c5).ownBlock = some wr.heap.size from fun e => by have := (ho5.lt _ e).1; have := SC.out; omega)
        have PL := hide (show pre.length ≤ 1000 by have := HR.out.small; omega)
        have HAA := hide ha
        have HK := hide hk
        clear hsv hP kY5 ho5 hc5 hrow hcs hI0 hpl ha hga
        dsimp only
        by_cases hm : 2 * k + 1 < l'.length
        · have hpl2 : pairLen l'.length k = 2 := by have := HK.out; rw [pairLen]; omega
          rw [hpl2]
          obtain ⟨b, hb⟩ : ∃ b, b = pairB l' k := ⟨_, rfl⟩
          have hgb : l'[2 * k + 1]? = some b := by rw [hb]; exact pairB_get l' k hm
          have hbf := hide (hall b (List.mem_of_getElem? hgb))
          have hrb : W.rangeAt pb (off + 2 * k * 32 + 32) (bcs b) := by have := hraW _ b hgb; rwa [show off + (2 * k + 1) * 32 = off + 2 * k * 32 + 32 by omega] at this
          obtain ⟨o2, ho2⟩ : ∃ o, o = off + 2 * k * 32 := ⟨_, rfl⟩
          rw [← ho2] at hra hrb ⊢
          have HRA := hide hra
          have HRB := hide hrb
          obtain ⟨q, hqq⟩ : ∃ q, q = (a == b) := ⟨_, rfl⟩
          have hq := fun w => eqlHash_run a b haf.out.1 hbf.out.1 w
          rw [← hqq] at hq
          have HPS := hide (show pairSame l' ⟨k, HK.out⟩ = q by rw [hqq, HAA.out, hb]; simp [pairSame, hm])
          have HBB := hide hb
          have HM := hide hm
          clear ho2 hra hrb hb hgb hm hpl2 hraW hall hqq
          gi_wp2
          refine wpIn_region_held_drew (S := fun w' => Below W.heap.size W w') (by kernel_rfl) (by rintro ⟨_, _, h⟩; exact h) (by kernel_rfl) (by exact (Below.refl _ _).drew) (fun hSB0 => ?_)
          obtain ⟨Wd, hwB⟩ : ∃ x, x = W.drew := ⟨_, rfl⟩
          rw [← hwB] at hSB0 ⊢
          clear hwB
          (refine wpAnyH_take (i := 0) (oi := ⟨some 19, .move (.tmp 6), 65, "block.go:68", #[], none⟩) (v := ?_) rfl (by kernel_rfl) (by kernel_rfl) (by kernel_rfl) (fun _ _ _ h => h) (Or.inl ⟨by rfl, fun w' hSw => ?_⟩) hSB0 ?_; rotate_left; focus (go_simp; try with_reducible rfl))
          simp only [Act.put, List.setIfInBounds_toArray, List.set_cons_zero, List.set_cons_succ]
          (refine wpAnyH_take (i := 1) (oi := ⟨some 20, .indexAddr 65 (.tmp 19) (.const (.int .i64 0)), 0, "block.go:68", #[⟨0, .data⟩], none⟩) (v := ?_) rfl (by kernel_rfl) (by kernel_rfl) (by kernel_rfl) (fun _ _ _ h => h) (Or.inl ⟨by rfl, fun w' hSw => ?_⟩) hSB0 ?_; rotate_left; focus (go_simp; try with_reducible rfl))
          simp only [Act.put, List.setIfInBounds_toArray, List.set_cons_zero, List.set_cons_succ]
          (refine wpAnyH_take (i := 2) (oi := ⟨some 21, .load 31 (.tmp 20), 31, "block.go:68", #[⟨1, .data⟩], none⟩) (v := ?_) rfl (by kernel_rfl) (by kernel_rfl) (by kernel_rfl) (fun _ _ _ h => h) (Or.inl ⟨by rfl, fun w' hSw => ?_⟩) hSB0 ?_; rotate_left; focus (have hl := loadHashB_run w' pb o2 a (range_under HRA.out hSw) haf.out.1; go_simp; try with_reducible rfl))
          simp only [Act.put, List.setIfInBounds_toArray, List.set_cons_zero, List.set_cons_succ]
          (refine wpAnyH_take (i := 3) (oi := ⟨some 22, .move (.tmp 6), 65, "block.go:68", #[], none⟩) (v := ?_) rfl (by kernel_rfl) (by kernel_rfl) (by kernel_rfl) (fun _ _ _ h => h) (Or.inl ⟨by rfl, fun w' hSw => ?_⟩) hSB0 ?_; rotate_left; focus (go_simp; try with_reducible rfl))
          simp only [Act.put, List.setIfInBounds_toArray, List.set_cons_zero, List.set_cons_succ]
          (refine wpAnyH_take (i := 4) (oi := ⟨some 23, .move (.tmp 6), 65, "block.go:68", #[], none⟩) (v := ?_) rfl (by kernel_rfl) (by kernel_rfl) (by kernel_rfl) (fun _ _ _ h => h) (Or.inl ⟨by rfl, fun w' hSw => ?_⟩) hSB0 ?_; rotate_left; focus (go_simp; try with_reducible rfl))
          simp only [Act.put, List.setIfInBounds_toArray, List.set_cons_zero, List.set_cons_succ]
          (refine wpAnyH_take (i := 5) (oi := ⟨some 24, .call { callee := .builtin .len, args := #[.tmp 23], argTypes := #[65] }, 3, "block.go:68", #[⟨4, .data⟩], none⟩) (v := ?_) rfl (by kernel_rfl) (by kernel_rfl) (by kernel_rfl) (fun _ _ _ h => h) (Or.inl ⟨by rfl, fun w' hSw => ?_⟩) hSB0 ?_; rotate_left; focus (go_simp; try with_reducible rfl))
          simp only [Act.put, List.setIfInBounds_toArray, List.set_cons_zero, List.set_cons_succ]
          (refine wpAnyH_take (i := 6) (oi := ⟨some 25, .binOp .sub 3 (.tmp 24) (.const (.int .i64 1)) 3, 3, "block.go:68", #[⟨5, .data⟩], none⟩) (v := ?_) rfl (by kernel_rfl) (by kernel_rfl) (by kernel_rfl) (fun _ _ _ h => h) (Or.inl ⟨by rfl, fun w' hSw => ?_⟩) hSB0 ?_; rotate_left; focus (go_simp; try with_reducible rfl))
          simp only [Act.put, List.setIfInBounds_toArray, List.set_cons_zero, List.set_cons_succ]
          (refine wpAnyH_take (i := 7) (oi := ⟨some 26, .indexAddr 65 (.tmp 22) (.tmp 25), 0, "block.go:68", #[⟨3, .data⟩, ⟨6, .data⟩], none⟩) (v := ?_) rfl (by kernel_rfl) (by kernel_rfl) (by kernel_rfl) (fun _ _ _ h => h) (Or.inl ⟨by rfl, fun w' hSw => ?_⟩) hSB0 ?_; rotate_left; focus (have hz1 : IntKind.i64.wrap 1 = 1 := rfl; have hz0 : IntKind.i64.wrap 0 = 0 := rfl; go_simp; try with_reducible rfl))
          simp only [Act.put, List.setIfInBounds_toArray, List.set_cons_zero, List.set_cons_succ]
          (refine wpAnyH_take (i := 8) (oi := ⟨some 27, .load 31 (.tmp 26), 31, "block.go:68", #[⟨7, .data⟩], none⟩) (v := ?_) rfl (by kernel_rfl) (by kernel_rfl) (by kernel_rfl) (fun _ _ _ h => h) (Or.inl ⟨by rfl, fun w' hSw => ?_⟩) hSB0 ?_; rotate_left; focus (have hl := loadHashB_run w' pb (o2 + 32) b (range_under HRB.out hSw) hbf.out.1; go_simp; try with_reducible rfl))
          simp only [Act.put, List.setIfInBounds_toArray, List.set_cons_zero, List.set_cons_succ]
          refine wpAnyH_ready (rs := [9, 10]) (by kernel_rfl) (by simp) ?_
          refine AllReadyH.cons rfl (fun K hK => ?_) (AllReadyH.cons rfl (fun K hK => ?_) AllReadyH.nil)
          · refine step_alloc_agg rfl 31 rfl (bcs zero32) zeroHash_info ?_
            have K7Wdp7 := hide (Blk.new Wd 31 (bcs zero32))
            have TWdp7 := hide (below_alloc hSB0 (.cells (bcs zero32).toArray 31))
            obtain ⟨p7, hp7⟩ : ∃ p, p = Wd.heap.size := ⟨_, rfl⟩
            have P7 := hide (show W.heap.size ≤ p7 by rw [hp7]; exact hSB0.size)
            obtain ⟨Wdp7, hwWdp7⟩ : ∃ x, x = Wd.alloc (.cells (bcs zero32).toArray 31) := ⟨_, rfl⟩
            rw [← hwWdp7] at K7Wdp7 TWdp7 ⊢
            rw [← hp7] at K7Wdp7 ⊢
            clear hp7 hwWdp7
            simp only [Act.put, List.setIfInBounds_toArray]
            refine hK.out _ _ (TWdp7.out) (fun hSB1 => ?_)
            clear hK K
            refine wpAnyH_ready (rs := [10]) (by kernel_rfl) (by simp) ?_
            refine AllReadyH.cons rfl (fun K hK => ?_) AllReadyH.nil
            refine step_alloc_agg rfl 31 rfl (bcs zero32) zeroHash_info ?_
            have K8Wdp7p8 := hide (Blk.new Wdp7 31 (bcs zero32))
            have K7Wdp7p8 := hide (K7Wdp7.out.alloc (.cells (bcs zero32).toArray 31))
            have hltWdp7p8 := K7Wdp7.out.lt
            have TWdp7p8 := hide (below_alloc hSB1 (.cells (bcs zero32).toArray 31))
            obtain ⟨p8, hp8⟩ : ∃ p, p = Wdp7.heap.size := ⟨_, rfl⟩
            have P8 := hide (show W.heap.size ≤ p8 by rw [hp8]; exact hSB1.size)
            have NE := hide (show ¬ p7 = p8 by omega)
            clear hltWdp7p8
            obtain ⟨Wdp7p8, hwWdp7p8⟩ : ∃ x, x = Wdp7.alloc (.cells (bcs zero32).toArray 31) := ⟨_, rfl⟩
            rw [← hwWdp7p8] at K8Wdp7p8 TWdp7p8 ⊢
            rw [← hwWdp7p8] at K7Wdp7p8
            rw [← hp8] at K8Wdp7p8 ⊢
            clear hp8 hwWdp7p8
            simp only [Act.put]
            refine hK.out _ _ (TWdp7p8.out) (fun hSB2 => ?_)
            clear hK K
            refine wpAnyH_ready (rs := [11]) (by kernel_rfl) (by simp) ?_
            refine AllReadyH.cons rfl (fun K hK => ?_) AllReadyH.nil
            refine step_store_blk rfl 31 _ _ rfl p7 0 31 (bcs zero32) (bcs a) (by rfl) (by rfl) K7Wdp7p8.out (by rw [bcs_length, bcs_length, haf.out.1]; decide) (by rw [bcs_length, haf.out.1]; exact isHash32) (bcs_one _) ?_
            intro w7s ow7s zw7s bw7s
            rw [lay_all _ _ (by rw [bcs_length, bcs_length, haf.out.1]; rfl)] at bw7s
            have K7w7s := hide bw7s
            have K8w7s := hide (ow7s.blk K8Wdp7p8.out (fun e => NE.out e.symm))
            have Tw7s := hide (ow7s.under hSB2 (fun i hi => by have h9 : i = p7 := hi; have := P7.out; omega))
            clear ow7s zw7s bw7s
            simp only [Act.put]
            refine hK.out _ _ (Tw7s.out) (fun hSB3 => ?_)
            clear hK K
            refine wpAnyH_ready (rs := [12]) (by kernel_rfl) (by simp) ?_
            refine AllReadyH.cons rfl (fun K hK => ?_) AllReadyH.nil
            refine step_store_blk rfl 31 _ _ rfl p8 0 31 (bcs zero32) (bcs b) (by rfl) (by rfl) K8w7s.out (by rw [bcs_length, bcs_length, hbf.out.1]; decide) (by rw [bcs_length, hbf.out.1]; exact isHash32) (bcs_one _) ?_
            intro w8s ow8s zw8s bw8s
            rw [lay_all _ _ (by rw [bcs_length, bcs_length, hbf.out.1]; rfl)] at bw8s
            have K8w8s := hide bw8s
            have K7w8s := hide (ow8s.blk K7w7s.out NE.out)
            have Tw8s := hide (ow8s.under hSB3 (fun i hi => by have h9 : i = p8 := hi; have := P8.out; omega))
            clear ow8s zw8s bw8s
            simp only [Act.put]
            refine hK.out _ _ (Tw8s.out) (fun hSB4 => ?_)
            clear hK K
            refine wpAnyH_done (by kernel_rfl) ?_ _
            have hc4 := (PS.out.under Tw8s.out).c0
            have hf4 := (PS.out.under Tw8s.out).frozen 0
            have hl7 := loadHashB_run w8s p7 0 a K7w8s.out.whole haf.out.1
            have hl8 := loadHashB_run w8s p8 0 b K8w8s.out.whole hbf.out.1
            cases sv <;> cases q <;>
            (gi_wp2
             first
               | (obtain ⟨w9, hw9⟩ : ∃ x, x = w8s.setCell ⟨p4, 0, none⟩ (.bool true) := ⟨_, rfl⟩; rw [← hw9])
               | (obtain ⟨w9, hw9⟩ : ∃ x, x = w8s.setCell ⟨p4, 0, none⟩ (.bool false) := ⟨_, rfl⟩; rw [← hw9])
             have OT := hide (show Only (fun i => i = p4) w8s w9 by rw [hw9]; exact Only.cell1 w8s p4 0 _)
             have HW9 := hide hw9
             have hl4 := PS.out.lt
             have hY4 := H4.out
             have h7 := P7.out
             have h8 := P8.out
             have hYW := KY.out.lt
             have hT := Tw8s.out.size
             have hO := OT.out.size
             have hW1 := W1.out
             have hsc := SC.out
             refine rootPair_any (by rintro ⟨_, _, h⟩; exact h) (fun _ _ _ h => h) _ _ _ _ _ _ _ _ _ _ _ _ _ _ _ _ _ _ _ _ _ _ _ _ _ _ _ _ _ _ _ _ _ _ _ _ _ _ _ _ _ _ _ _ _ _ _ _ w9 wr.heap.size p7 p8 w1.heap.size pre.length c5 A5 _ a b (hide (OT.out.blk (KY.out.under Tw8s.out) (by show ¬ wr.heap.size = p4; omega))) (hide (OT.out.own ((Only.of_below Tw8s.out (fun _ => False)).own OY.out (fun _ _ h => h)) (fun g hg e => by have h9 : g = p4 := e; have := (OY.out.lt g hg).1; omega))) (hide (by omega)) (hide (by omega)) YN (hide (OT.out.blk K7w8s.out (by show ¬ p7 = p4; omega))) (hide (OT.out.blk K8w8s.out (by show ¬ p8 = p4; omega))) haf hbf PL ?_
             intro a' W' A' c'' o1 k1 hc1 r1
             exact pairs_round (B := w1.heap.size) ⟨k, hk⟩ (by omega) (by omega) HP.out KY.out OY.out _ (by rw [List.any_append, ← Bool.or_assoc, ← HSV.out]; simp [HPS.out]) Tw8s.out HW9.out o1 k1 hc1 (by show W'.ownsRow _ _ _ _ _ (_ ++ bcs (sha2 (pairA l' k ++ pairB l' k))); rw [← HAA.out, ← HBB.out]; exact r1))
          · refine step_alloc_agg rfl 31 rfl (bcs zero32) zeroHash_info ?_
            have K8Wdp8 := hide (Blk.new Wd 31 (bcs zero32))
            have TWdp8 := hide (below_alloc hSB0 (.cells (bcs zero32).toArray 31))
            obtain ⟨p8, hp8⟩ : ∃ p, p = Wd.heap.size := ⟨_, rfl⟩
            have P8 := hide (show W.heap.size ≤ p8 by rw [hp8]; exact hSB0.size)
            obtain ⟨Wdp8, hwWdp8⟩ : ∃ x, x = Wd.alloc (.cells (bcs zero32).toArray 31) := ⟨_, rfl⟩
            rw [← hwWdp8] at K8Wdp8 TWdp8 ⊢
            rw [← hp8] at K8Wdp8 ⊢
            clear hp8 hwWdp8
            simp only [Act.put, List.setIfInBounds_toArray]
            refine hK.out _ _ (TWdp8.out) (fun hSB1 => ?_)
            clear hK K
            refine wpAnyH_ready (rs := [9]) (by kernel_rfl) (by simp) ?_
            refine AllReadyH.cons rfl (fun K hK => ?_) AllReadyH.nil
            refine step_alloc_agg rfl 31 rfl (bcs zero32) zeroHash_info ?_
            have K7Wdp8p7 := hide (Blk.new Wdp8 31 (bcs zero32))
            have K8Wdp8p7 := hide (K8Wdp8.out.alloc (.cells (bcs zero32).toArray 31))
            have hltWdp8p7 := K8Wdp8.out.lt
            have TWdp8p7 := hide (below_alloc hSB1 (.cells (bcs zero32).toArray 31))
            obtain ⟨p7, hp7⟩ : ∃ p, p = Wdp8.heap.size := ⟨_, rfl⟩
            have P7 := hide (show W.heap.size ≤ p7 by rw [hp7]; exact hSB1.size)
            have NE := hide (show ¬ p7 = p8 by omega)
            clear hltWdp8p7
            obtain ⟨Wdp8p7, hwWdp8p7⟩ : ∃ x, x = Wdp8.alloc (.cells (bcs zero32).toArray 31) := ⟨_, rfl⟩
            rw [← hwWdp8p7] at K7Wdp8p7 TWdp8p7 ⊢
            rw [← hwWdp8p7] at K8Wdp8p7
            rw [← hp7] at K7Wdp8p7 ⊢
            clear hp7 hwWdp8p7
            simp only [Act.put]
            refine hK.out _ _ (TWdp8p7.out) (fun hSB2 => ?_)
            clear hK K
            refine wpAnyH_ready (rs := [11]) (by kernel_rfl) (by simp) ?_
            refine AllReadyH.cons rfl (fun K hK => ?_) AllReadyH.nil
            refine step_store_blk rfl 31 _ _ rfl p7 0 31 (bcs zero32) (bcs a) (by rfl) (by rfl) K7Wdp8p7.out (by rw [bcs_length, bcs_length, haf.out.1]; decide) (by rw [bcs_length, haf.out.1]; exact isHash32) (bcs_one _) ?_
            intro w7s ow7s zw7s bw7s
            rw [lay_all _ _ (by rw [bcs_length, bcs_length, haf.out.1]; rfl)] at bw7s
            have K7w7s := hide bw7s
            have K8w7s := hide (ow7s.blk K8Wdp8p7.out (fun e => NE.out e.symm))
            have Tw7s := hide (ow7s.under hSB2 (fun i hi => by have h9 : i = p7 := hi; have := P7.out; omega))
            clear ow7s zw7s bw7s
            simp only [Act.put]
            refine hK.out _ _ (Tw7s.out) (fun hSB3 => ?_)
            clear hK K
            refine wpAnyH_ready (rs := [12]) (by kernel_rfl) (by simp) ?_
            refine AllReadyH.cons rfl (fun K hK => ?_) AllReadyH.nil
            refine step_store_blk rfl 31 _ _ rfl p8 0 31 (bcs zero32) (bcs b) (by rfl) (by rfl) K8w7s.out (by rw [bcs_length, bcs_length, hbf.out.1]; decide) (by rw [bcs_length, hbf.out.1]; exact isHash32) (bcs_one _) ?_
            intro w8s ow8s zw8s bw8s
            rw [lay_all _ _ (by rw [bcs_length, bcs_length, hbf.out.1]; rfl)] at bw8s
            have K8w8s := hide bw8s
            have K7w8s := hide (ow8s.blk K7w7s.out NE.out)
            have Tw8s := hide (ow8s.under hSB3 (fun i hi => by have h9 : i = p8 := hi; have := P8.out; omega))
            clear ow8s zw8s bw8s
            simp only [Act.put]
            refine hK.out _ _ (Tw8s.out) (fun hSB4 => ?_)
            clear hK K
            refine wpAnyH_done (by kernel_rfl) ?_ _
            have hc4 := (PS.out.under Tw8s.out).c0
            have hf4 := (PS.out.under Tw8s.out).frozen 0
            have hl7 := loadHashB_run w8s p7 0 a K7w8s.out.whole haf.out.1
            have hl8 := loadHashB_run w8s p8 0 b K8w8s.out.whole hbf.out.1
            cases sv <;> cases q <;>
            (gi_wp2
             first
               | (obtain ⟨w9, hw9⟩ : ∃ x, x = w8s.setCell ⟨p4, 0, none⟩ (.bool true) := ⟨_, rfl⟩; rw [← hw9])
               | (obtain ⟨w9, hw9⟩ : ∃ x, x = w8s.setCell ⟨p4, 0, none⟩ (.bool false) := ⟨_, rfl⟩; rw [← hw9])
             have OT := hide (show Only (fun i => i = p4) w8s w9 by rw [hw9]; exact Only.cell1 w8s p4 0 _)
             have HW9 := hide hw9
             have hl4 := PS.out.lt
             have hY4 := H4.out
             have h7 := P7.out
             have h8 := P8.out
             have hYW := KY.out.lt
             have hT := Tw8s.out.size
             have hO := OT.out.size
             have hW1 := W1.out
             have hsc := SC.out
             refine rootPair_any (by rintro ⟨_, _, h⟩; exact h) (fun _ _ _ h => h) _ _ _ _ _ _ _ _ _ _ _ _ _ _ _ _ _ _ _ _ _ _ _ _ _ _ _ _ _ _ _ _ _ _ _ _ _ _ _ _ _ _ _ _ _ _ _ _ w9 wr.heap.size p7 p8 w1.heap.size pre.length c5 A5 _ a b (hide (OT.out.blk (KY.out.under Tw8s.out) (by show ¬ wr.heap.size = p4; omega))) (hide (OT.out.own ((Only.of_below Tw8s.out (fun _ => False)).own OY.out (fun _ _ h => h)) (fun g hg e => by have h9 : g = p4 := e; have := (OY.out.lt g hg).1; omega))) (hide (by omega)) (hide (by omega)) YN (hide (OT.out.blk K7w8s.out (by show ¬ p7 = p4; omega))) (hide (OT.out.blk K8w8s.out (by show ¬ p8 = p4; omega))) haf hbf PL ?_
             intro a' W' A' c'' o1 k1 hc1 r1
             exact pairs_round (B := w1.heap.size) ⟨k, hk⟩ (by omega) (by omega) HP.out KY.out OY.out _ (by rw [List.any_append, ← Bool.or_assoc, ← HSV.out]; simp [HPS.out]) Tw8s.out HW9.out o1 k1 hc1 (by show W'.ownsRow _ _ _ _ _ (_ ++ bcs (sha2 (pairA l' k ++ pairB l' k))); rw [← HAA.out, ← HBB.out]; exact r1))
        · have hpl2 : pairLen l'.length k = 1 := by have := HK.out; rw [pairLen]; omega
          rw [hpl2]
          obtain ⟨b, hb⟩ : ∃ b, b = a := ⟨_, rfl⟩
          have hbf := hide (show HFine wr b by rw [hb]; exact haf.out)
          have hrb : W.rangeAt pb (off + 2 * k * 32) (bcs b) := by rw [hb]; exact hra
          obtain ⟨o2, ho2⟩ : ∃ o, o = off + 2 * k * 32 := ⟨_, rfl⟩
          rw [← ho2] at hra hrb ⊢
          have HRA := hide hra
          have HRB := hide hrb
          obtain ⟨q, hqq⟩ : ∃ q, q = (a == b) := ⟨_, rfl⟩
          have hq := fun w => eqlHash_run a b haf.out.1 hbf.out.1 w
          rw [← hqq] at hq
          have HPS := hide (show pairSame l' ⟨k, HK.out⟩ = false by simp [pairSame, hm])
          have HBB := hide (show b = pairB l' k by rw [hb, HAA.out]; exact (pairB_last l' k (by have := HK.out; omega)).symm)
          clear ho2 hra hrb hb hm hpl2 hraW hall hqq
          gi_wp2
          refine wpIn_region_held_drew (S := fun w' => Below W.heap.size W w') (by kernel_rfl) (by rintro ⟨_, _, h⟩; exact h) (by kernel_rfl) (by exact (Below.refl _ _).drew) (fun hSB0 => ?_)
          obtain ⟨Wd, hwB⟩ : ∃ x, x = W.drew := ⟨_, rfl⟩
          rw [← hwB] at hSB0 ⊢
          clear hwB
          (refine wpAnyH_take (i := 0) (oi := ⟨some 19, .move (.tmp 6), 65, "block.go:68", #[], none⟩) (v := ?_) rfl (by kernel_rfl) (by kernel_rfl) (by kernel_rfl) (fun _ _ _ h => h) (Or.inl ⟨by rfl, fun w' hSw => ?_⟩) hSB0 ?_; rotate_left; focus (go_simp; try with_reducible rfl))
          simp only [Act.put, List.setIfInBounds_toArray, List.set_cons_zero, List.set_cons_succ]
          (refine wpAnyH_take (i := 1) (oi := ⟨some 20, .indexAddr 65 (.tmp 19) (.const (.int .i64 0)), 0, "block.go:68", #[⟨0, .data⟩], none⟩) (v := ?_) rfl (by kernel_rfl) (by kernel_rfl) (by kernel_rfl) (fun _ _ _ h => h) (Or.inl ⟨by rfl, fun w' hSw => ?_⟩) hSB0 ?_; rotate_left; focus (go_simp; try with_reducible rfl))
          simp only [Act.put, List.setIfInBounds_toArray, List.set_cons_zero, List.set_cons_succ]
          (refine wpAnyH_take (i := 2) (oi := ⟨some 21, .load 31 (.tmp 20), 31, "block.go:68", #[⟨1, .data⟩], none⟩) (v := ?_) rfl (by kernel_rfl) (by kernel_rfl) (by kernel_rfl) (fun _ _ _ h => h) (Or.inl ⟨by rfl, fun w' hSw => ?_⟩) hSB0 ?_; rotate_left; focus (have hl := loadHashB_run w' pb o2 a (range_under HRA.out hSw) haf.out.1; go_simp; try with_reducible rfl))
          simp only [Act.put, List.setIfInBounds_toArray, List.set_cons_zero, List.set_cons_succ]
          (refine wpAnyH_take (i := 3) (oi := ⟨some 22, .move (.tmp 6), 65, "block.go:68", #[], none⟩) (v := ?_) rfl (by kernel_rfl) (by kernel_rfl) (by kernel_rfl) (fun _ _ _ h => h) (Or.inl ⟨by rfl, fun w' hSw => ?_⟩) hSB0 ?_; rotate_left; focus (go_simp; try with_reducible rfl))
          simp only [Act.put, List.setIfInBounds_toArray, List.set_cons_zero, List.set_cons_succ]
          (refine wpAnyH_take (i := 4) (oi := ⟨some 23, .move (.tmp 6), 65, "block.go:68", #[], none⟩) (v := ?_) rfl (by kernel_rfl) (by kernel_rfl) (by kernel_rfl) (fun _ _ _ h => h) (Or.inl ⟨by rfl, fun w' hSw => ?_⟩) hSB0 ?_; rotate_left; focus (go_simp; try with_reducible rfl))
          simp only [Act.put, List.setIfInBounds_toArray, List.set_cons_zero, List.set_cons_succ]
          (refine wpAnyH_take (i := 5) (oi := ⟨some 24, .call { callee := .builtin .len, args := #[.tmp 23], argTypes := #[65] }, 3, "block.go:68", #[⟨4, .data⟩], none⟩) (v := ?_) rfl (by kernel_rfl) (by kernel_rfl) (by kernel_rfl) (fun _ _ _ h => h) (Or.inl ⟨by rfl, fun w' hSw => ?_⟩) hSB0 ?_; rotate_left; focus (go_simp; try with_reducible rfl))
          simp only [Act.put, List.setIfInBounds_toArray, List.set_cons_zero, List.set_cons_succ]
          (refine wpAnyH_take (i := 6) (oi := ⟨some 25, .binOp .sub 3 (.tmp 24) (.const (.int .i64 1)) 3, 3, "block.go:68", #[⟨5, .data⟩], none⟩) (v := ?_) rfl (by kernel_rfl) (by kernel_rfl) (by kernel_rfl) (fun _ _ _ h => h) (Or.inl ⟨by rfl, fun w' hSw => ?_⟩) hSB0 ?_; rotate_left; focus (go_simp; try with_reducible rfl))
          simp only [Act.put, List.setIfInBounds_toArray, List.set_cons_zero, List.set_cons_succ]
          (refine wpAnyH_take (i := 7) (oi := ⟨some 26, .indexAddr 65 (.tmp 22) (.tmp 25), 0, "block.go:68", #[⟨3, .data⟩, ⟨6, .data⟩], none⟩) (v := ?_) rfl (by kernel_rfl) (by kernel_rfl) (by kernel_rfl) (fun _ _ _ h => h) (Or.inl ⟨by rfl, fun w' hSw => ?_⟩) hSB0 ?_; rotate_left; focus (have hz1 : IntKind.i64.wrap 1 = 1 := rfl; have hz0 : IntKind.i64.wrap 0 = 0 := rfl; go_simp; try with_reducible rfl))
          simp only [Act.put, List.setIfInBounds_toArray, List.set_cons_zero, List.set_cons_succ]
          (refine wpAnyH_take (i := 8) (oi := ⟨some 27, .load 31 (.tmp 26), 31, "block.go:68", #[⟨7, .data⟩], none⟩) (v := ?_) rfl (by kernel_rfl) (by kernel_rfl) (by kernel_rfl) (fun _ _ _ h => h) (Or.inl ⟨by rfl, fun w' hSw => ?_⟩) hSB0 ?_; rotate_left; focus (have hl := loadHashB_run w' pb o2 b (range_under HRB.out hSw) hbf.out.1; go_simp; try with_reducible rfl))
          simp only [Act.put, List.setIfInBounds_toArray, List.set_cons_zero, List.set_cons_succ]
          refine wpAnyH_ready (rs := [9, 10]) (by kernel_rfl) (by simp) ?_
          refine AllReadyH.cons rfl (fun K hK => ?_) (AllReadyH.cons rfl (fun K hK => ?_) AllReadyH.nil)
          · refine step_alloc_agg rfl 31 rfl (bcs zero32) zeroHash_info ?_
            have K7Wdp7 := hide (Blk.new Wd 31 (bcs zero32))
            have TWdp7 := hide (below_alloc hSB0 (.cells (bcs zero32).toArray 31))
            obtain ⟨p7, hp7⟩ : ∃ p, p = Wd.heap.size := ⟨_, rfl⟩
            have P7 := hide (show W.heap.size ≤ p7 by rw [hp7]; exact hSB0.size)
            obtain ⟨Wdp7, hwWdp7⟩ : ∃ x, x = Wd.alloc (.cells (bcs zero32).toArray 31) := ⟨_, rfl⟩
            rw [← hwWdp7] at K7Wdp7 TWdp7 ⊢
            rw [← hp7] at K7Wdp7 ⊢
            clear hp7 hwWdp7
            simp only [Act.put, List.setIfInBounds_toArray]
            refine hK.out _ _ (TWdp7.out) (fun hSB1 => ?_)
            clear hK K
            refine wpAnyH_ready (rs := [10]) (by kernel_rfl) (by simp) ?_
            refine AllReadyH.cons rfl (fun K hK => ?_) AllReadyH.nil
            refine step_alloc_agg rfl 31 rfl (bcs zero32) zeroHash_info ?_
            have K8Wdp7p8 := hide (Blk.new Wdp7 31 (bcs zero32))
            have K7Wdp7p8 := hide (K7Wdp7.out.alloc (.cells (bcs zero32).toArray 31))
            have hltWdp7p8 := K7Wdp7.out.lt
            have TWdp7p8 := hide (below_alloc hSB1 (.cells (bcs zero32).toArray 31))
            obtain ⟨p8, hp8⟩ : ∃ p, p = Wdp7.heap.size := ⟨_, rfl⟩
            have P8 := hide (show W.heap.size ≤ p8 by rw [hp8]; exact hSB1.size)
            have NE := hide (show ¬ p7 = p8 by omega)
            clear hltWdp7p8
            obtain ⟨Wdp7p8, hwWdp7p8⟩ : ∃ x, x = Wdp7.alloc (.cells (bcs zero32).toArray 31) := ⟨_, rfl⟩
            rw [← hwWdp7p8] at K8Wdp7p8 TWdp7p8 ⊢
            rw [← hwWdp7p8] at K7Wdp7p8
            rw [← hp8] at K8Wdp7p8 ⊢
            clear hp8 hwWdp7p8
            simp only [Act.put]
            refine hK.out _ _ (TWdp7p8.out) (fun hSB2 => ?_)
            clear hK K
            refine wpAnyH_ready (rs := [11]) (by kernel_rfl) (by simp) ?_
            refine AllReadyH.cons rfl (fun K hK => ?_) AllReadyH.nil
            refine step_store_blk rfl 31 _ _ rfl p7 0 31 (bcs zero32) (bcs a) (by rfl) (by rfl) K7Wdp7p8.out (by rw [bcs_length, bcs_length, haf.out.1]; decide) (by rw [bcs_length, haf.out.1]; exact isHash32) (bcs_one _) ?_
            intro w7s ow7s zw7s bw7s
            rw [lay_all _ _ (by rw [bcs_length, bcs_length, haf.out.1]; rfl)] at bw7s
            have K7w7s := hide bw7s
            have K8w7s := hide (ow7s.blk K8Wdp7p8.out (fun e => NE.out e.symm))
            have Tw7s := hide (ow7s.under hSB2 (fun i hi => by have h9 : i = p7 := hi; have := P7.out; omega))
            clear ow7s zw7s bw7s
            simp only [Act.put]
            refine hK.out _ _ (Tw7s.out) (fun hSB3 => ?_)
            clear hK K
            refine wpAnyH_ready (rs := [12]) (by kernel_rfl) (by simp) ?_
            refine AllReadyH.cons rfl (fun K hK => ?_) AllReadyH.nil
            refine step_store_blk rfl 31 _ _ rfl p8 0 31 (bcs zero32) (bcs b) (by rfl) (by rfl) K8w7s.out (by rw [bcs_length, bcs_length, hbf.out.1]; decide) (by rw [bcs_length, hbf.out.1]; exact isHash32) (bcs_one _) ?_
            intro w8s ow8s zw8s bw8s
            rw [lay_all _ _ (by rw [bcs_length, bcs_length, hbf.out.1]; rfl)] at bw8s
            have K8w8s := hide bw8s
            have K7w8s := hide (ow8s.blk K7w7s.out NE.out)
            have Tw8s := hide (ow8s.under hSB3 (fun i hi => by have h9 : i = p8 := hi; have := P8.out; omega))
            clear ow8s zw8s bw8s
            simp only [Act.put]
            refine hK.out _ _ (Tw8s.out) (fun hSB4 => ?_)
            clear hK K
            refine wpAnyH_done (by kernel_rfl) ?_ _
            have hc4 := (PS.out.under Tw8s.out).c0
            have hf4 := (PS.out.under Tw8s.out).frozen 0
            have hl7 := loadHashB_run w8s p7 0 a K7w8s.out.whole haf.out.1
            have hl8 := loadHashB_run w8s p8 0 b K8w8s.out.whole hbf.out.1
            cases sv <;>
            (gi_wp2
             first
               | (obtain ⟨w9, hw9⟩ : ∃ x, x = w8s.setCell ⟨p4, 0, none⟩ (.bool true) := ⟨_, rfl⟩; rw [← hw9])
               | (obtain ⟨w9, hw9⟩ : ∃ x, x = w8s.setCell ⟨p4, 0, none⟩ (.bool false) := ⟨_, rfl⟩; rw [← hw9])
             have OT := hide (show Only (fun i => i = p4) w8s w9 by rw [hw9]; exact Only.cell1 w8s p4 0 _)
             have HW9 := hide hw9
             have hl4 := PS.out.lt
             have hY4 := H4.out
             have h7 := P7.out
             have h8 := P8.out
             have hYW := KY.out.lt
             have hT := Tw8s.out.size
             have hO := OT.out.size
             have hW1 := W1.out
             have hsc := SC.out
             refine rootPair_any (by rintro ⟨_, _, h⟩; exact h) (fun _ _ _ h => h) _ _ _ _ _ _ _ _ _ _ _ _ _ _ _ _ _ _ _ _ _ _ _ _ _ _ _ _ _ _ _ _ _ _ _ _ _ _ _ _ _ _ _ _ _ _ _ _ w9 wr.heap.size p7 p8 w1.heap.size pre.length c5 A5 _ a b (hide (OT.out.blk (KY.out.under Tw8s.out) (by show ¬ wr.heap.size = p4; omega))) (hide (OT.out.own ((Only.of_below Tw8s.out (fun _ => False)).own OY.out (fun _ _ h => h)) (fun g hg e => by have h9 : g = p4 := e; have := (OY.out.lt g hg).1; omega))) (hide (by omega)) (hide (by omega)) YN (hide (OT.out.blk K7w8s.out (by show ¬ p7 = p4; omega))) (hide (OT.out.blk K8w8s.out (by show ¬ p8 = p4; omega))) haf hbf PL ?_
             intro a' W' A' c'' o1 k1 hc1 r1
             exact pairs_round (B := w1.heap.size) ⟨k, hk⟩ (by omega) (by omega) HP.out KY.out OY.out _ (by rw [List.any_append, ← Bool.or_assoc, ← HSV.out]; simp [HPS.out]) Tw8s.out HW9.out o1 k1 hc1 (by show W'.ownsRow _ _ _ _ _ (_ ++ bcs (sha2 (pairA l' k ++ pairB l' k))); rw [← HAA.out, ← HBB.out]; exact r1))
          · refine step_alloc_agg rfl 31 rfl (bcs zero32) zeroHash_info ?_
            have K8Wdp8 := hide (Blk.new Wd 31 (bcs zero32))
            have TWdp8 := hide (below_alloc hSB0 (.cells (bcs zero32).toArray 31))
            obtain ⟨p8, hp8⟩ : ∃ p, p = Wd.heap.size := ⟨_, rfl⟩
            have P8 := hide (show W.heap.size ≤ p8 by rw [hp8]; exact hSB0.size)
            obtain ⟨Wdp8, hwWdp8⟩ : ∃ x, x = Wd.alloc (.cells (bcs zero32).toArray 31) := ⟨_, rfl⟩
            rw [← hwWdp8] at K8Wdp8 TWdp8 ⊢
            rw [← hp8] at K8Wdp8 ⊢
            clear hp8 hwWdp8
            simp only [Act.put, List.setIfInBounds_toArray]
            refine hK.out _ _ (TWdp8.out) (fun hSB1 => ?_)
            clear hK K
            refine wpAnyH_ready (rs := [9]) (by kernel_rfl) (by simp) ?_
            refine AllReadyH.cons rfl (fun K hK => ?_) AllReadyH.nil
            refine step_alloc_agg rfl 31 rfl (bcs zero32) zeroHash_info ?_
            have K7Wdp8p7 := hide (Blk.new Wdp8 31 (bcs zero32))
            have K8Wdp8p7 := hide (K8Wdp8.out.alloc (.cells (bcs zero32).toArray 31))
            have hltWdp8p7 := K8Wdp8.out.lt
            have TWdp8p7 := hide (below_alloc hSB1 (.cells (bcs zero32).toArray 31))
            obtain ⟨p7, hp7⟩ : ∃ p, p = Wdp8.heap.size := ⟨_, rfl⟩
            have P7 := hide (show W.heap.size ≤ p7 by rw [hp7]; exact hSB1.size)
            have NE := hide (show ¬ p7 = p8 by omega)
            clear hltWdp8p7
            obtain ⟨Wdp8p7, hwWdp8p7⟩ : ∃ x, x = Wdp8.alloc (.cells (bcs zero32).toArray 31) := ⟨_, rfl⟩
            rw [← hwWdp8p7] at K7Wdp8p7 TWdp8p7 ⊢
            rw [← hwWdp8p7] at K8Wdp8p7
            rw [← hp7] at K7Wdp8p7 ⊢
            clear hp7 hwWdp8p7
            simp only [Act.put]
            refine hK.out _ _ (TWdp8p7.out) (fun hSB2 => ?_)
            clear hK K
            refine wpAnyH_ready (rs := [11]) (by kernel_rfl) (by simp) ?_
            refine AllReadyH.cons rfl (fun K hK => ?_) AllReadyH.nil
            refine step_store_blk rfl 31 _ _ rfl p7 0 31 (bcs zero32) (bcs a) (by rfl) (by rfl) K7Wdp8p7.out (by rw [bcs_length, bcs_length, haf.out.1]; decide) (by rw [bcs_length, haf.out.1]; exact isHash32) (bcs_one _) ?_
            intro w7s ow7s zw7s bw7s
            rw [lay_all _ _ (by rw [bcs_length, bcs_length, haf.out.1]; rfl)] at bw7s
            have K7w7s := hide bw7s
            have K8w7s := hide (ow7s.blk K8Wdp8p7.out (fun e => NE.out e.symm))
            have Tw7s := hide (ow7s.under hSB2 (fun i hi => by have h9 : i = p7 := hi; have := P7.out; omega))
            clear ow7s zw7s bw7s
            simp only [Act.put]
            refine hK.out _ _ (Tw7s.out) (fun hSB3 => ?_)
            clear hK K
            refine wpAnyH_ready (rs := [12]) (by kernel_rfl) (by simp) ?_
            refine AllReadyH.cons rfl (fun K hK => ?_) AllReadyH.nil
            refine step_store_blk rfl 31 _ _ rfl p8 0 31 (bcs zero32) (bcs b) (by rfl) (by rfl) K8w7s.out (by rw [bcs_length, bcs_length, hbf.out.1]; decide) (by rw [bcs_length, hbf.out.1]; exact isHash32) (bcs_one _) ?_
            intro w8s ow8s zw8s bw8s
            rw [lay_all _ _ (by rw [bcs_length, bcs_length, hbf.out.1]; rfl)] at bw8s
            have K8w8s := hide bw8s
            have K7w8s := hide (ow8s.blk K7w7s.out NE.out)
            have Tw8s := hide (ow8s.under hSB3 (fun i hi => by have h9 : i = p8 := hi; have := P8.out; omega))
            clear ow8s zw8s bw8s
            simp only [Act.put]
            refine hK.out _ _ (Tw8s.out) (fun hSB4 => ?_)
            clear hK K
            refine wpAnyH_done (by kernel_rfl) ?_ _
            have hc4 := (PS.out.under Tw8s.out).c0
            have hf4 := (PS.out.under Tw8s.out).frozen 0
            have hl7 := loadHashB_run w8s p7 0 a K7w8s.out.whole haf.out.1
            have hl8 := loadHashB_run w8s p8 0 b K8w8s.out.whole hbf.out.1
            cases sv <;>
            (gi_wp2
             first
               | (obtain ⟨w9, hw9⟩ : ∃ x, x = w8s.setCell ⟨p4, 0, none⟩ (.bool true) := ⟨_, rfl⟩; rw [← hw9])
               | (obtain ⟨w9, hw9⟩ : ∃ x, x = w8s.setCell ⟨p4, 0, none⟩ (.bool false) := ⟨_, rfl⟩; rw [← hw9])
             have OT := hide (show Only (fun i => i = p4) w8s w9 by rw [hw9]; exact Only.cell1 w8s p4 0 _)
             have HW9 := hide hw9
             have hl4 := PS.out.lt
             have hY4 := H4.out
             have h7 := P7.out
             have h8 := P8.out
             have hYW := KY.out.lt
             have hT := Tw8s.out.size
             have hO := OT.out.size
             have hW1 := W1.out
             have hsc := SC.out
             refine rootPair_any (by rintro ⟨_, _, h⟩; exact h) (fun _ _ _ h => h) _ _ _ _ _ _ _ _ _ _ _ _ _ _ _ _ _ _ _ _ _ _ _ _ _ _ _ _ _ _ _ _ _ _ _ _ _ _ _ _ _ _ _ _ _ _ _ _ w9 wr.heap.size p7 p8 w1.heap.size pre.length c5 A5 _ a b (hide (OT.out.blk (KY.out.under Tw8s.out) (by show ¬ wr.heap.size = p4; omega))) (hide (OT.out.own ((Only.of_below Tw8s.out (fun _ => False)).own OY.out (fun _ _ h => h)) (fun g hg e => by have h9 : g = p4 := e; have := (OY.out.lt g hg).1; omega))) (hide (by omega)) (hide (by omega)) YN (hide (OT.out.blk K7w8s.out (by show ¬ p7 = p4; omega))) (hide (OT.out.blk K8w8s.out (by show ¬ p8 = p4; omega))) haf hbf PL ?_
             intro a' W' A' c'' o1 k1 hc1 r1
             exact pairs_round (B := w1.heap.size) ⟨k, hk⟩ (by omega) (by omega) HP.out KY.out OY.out _ (by rw [List.any_append, ← Bool.or_assoc, ← HSV.out]; simp [HPS.out]) Tw8s.out HW9.out o1 k1 hc1 (by show W'.ownsRow _ _ _ _ _ (_ ++ bcs (sha2 (pairA l' k ++ pairB l' k))); rw [← HAA.out, ← HBB.out]; exact r1))
      case done =>
        rintro D xs W hD rfl hP hK
        obtain ⟨A5, c5, kY5, hc5, ho5⟩ := hP.row
        have hpd := pairs_done l'
        have hnl := nextL_len l'
        have hpl := pairsTo_length l'.length ((l'.length + 1) / 2) (by omega)
        rw [hpd.1] at ho5
        have HC5 := hide hc5
        have hYc := kY5.c0
        have HD := hide hD
        have HK := hide hK
        have HO5 := hide ho5
        have HP := hide hP
        have HPD := hide hpd.2
        have HNL := hide hnl
        have HPL := hide hpl
        clear hcs hI0 hpd hnl hpl hK hD hP ho5 hc5 kY5
        dsimp only
        go_wp2_with fail
        have hfin : RootAtS w p2 p4 l (nextL l') A5 (pairsTo l'.length ((l'.length + 1) / 2)).length c5 (D :: ds) W := by
          have hb2 := hn2.out
          have hpl := HPL.out
          have hnl := HNL.out
          have hsm := HR.out.small
          have e1 : (nextL l').length = (pairsTo l'.length ((l'.length + 1) / 2)).length := by omega
          have hfar : ∀ ad, A5 = some ad → w1.heap.size ≤ ad.block := fun ad e => by
            obtain ⟨g, cap, e9, hg, _⟩ := HO5.out.form (by omega)
            rw [e] at e9
            injection e9 with e9
            injection e9 with e9
            rw [e9]
            exact hg
          have hs1 := SC.out
          have h4 := H4.out
          have h4w := P4w.out
          have h2w := P2w.out
          have hY : ∀ i, i = p4 ∨ i = wr.heap.size → w.heap.size ≤ i := fun i h => by omega
          refine ⟨s || pairL l', rows_of e1 (fun a ha => by rw [bcs_length, (nextL_byt l' a ha).1]) HO5.out (nextL_byt l'), HC5.out, by omega, by omega, ?_, fun ad e => ?_, ?_, by rw [← HPD.out]; exact HP.out.same, ?_, ?_, HP.out.only.under (Below.then_ HR.out.below HBR.out) hY⟩
          · have h2 := rootL_two l' hb2
            rw [HR.out.root, h2]
            simp [Bool.or_assoc]
          · have := hfar ad e
            omega
          · exact HP.out.only.blk (HR.out.k2.under HBR.out) (fun e => by rcases e with e | e; exact P24.out e; have := HR.out.k2.lt; omega)
          · refine List.nodup_cons.2 ⟨fun hm => ?_, HR.out.nodup⟩
            have := (Array.getElem?_eq_some_iff.1 (HR.out.mark D hm).2).1
            have := HD.out
            omega
          · intro E hE
            rcases List.mem_cons.1 hE with rfl | hE
            · exact ⟨by have := HD.out; omega, HK.out⟩
            · obtain ⟨h1, h2⟩ := HR.out.mark E hE
              have hlt := (Array.getElem?_eq_some_iff.1 h2).1
              refine ⟨h1, (HP.out.only.block E (by omega) ?_).trans ((HBR.out.block E hlt).trans h2)⟩
              rintro (e | e)
              · have h3 : wr.heap[p4]? = _ := HR.out.k4
                rw [← e, h2] at h3
                cases h3
              · omega
        refine ⟨⟨nextL l', A5, _, c5, D :: ds, ⟨⟨rfl, rfl, rfl⟩, rfl⟩, hfin⟩, ?_⟩
        have hb2 := hn2.out
        have hpl := HPL.out
        simp only [lenOf]
        omega
      case stop =>
        rintro D c pre W _ _ h _
        exact h.elim
end Go.Proofs.Ytbpmcnfmgaolnaa
