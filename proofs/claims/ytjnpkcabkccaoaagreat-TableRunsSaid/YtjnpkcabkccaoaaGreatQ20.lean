/- Lemmas and walks for TableRuns, packed. -/
import Derived.Test.YtjnpkcabkccaoaaGreatQ16
import Derived.Test.YtjnpkcabkccaoaaGreatQ6
import Derived.Test.YtjnpkcabkccaoaaGreatQ18
import Derived.Test.YtjnpkcabkccaoaaGreatQ13
import Derived.Lib.BytesEntry
import Derived.Laws.Externs
set_option maxRecDepth 100000
set_option maxHeartbeats 16000000
namespace Go.Proofs.YtjnpkcabkccaoaaGreat
open Go.RowKit Go.Shelf

abbrev PartNo (n : Nat) := { k : Nat // 120 * k < n }
def partLen (n k : Nat) : Nat := min 120 (n - 120 * k)
def partsTo (n : Nat) : Nat → List (PartNo n)
 | 0 => []
 | k + 1 => if h : 120 * k < n then partsTo n k ++ [⟨k, h⟩] else partsTo n k
theorem partsTo_succ (n k : Nat) (h : 120 * k < n) : partsTo n (k + 1) = partsTo n k ++ [⟨k, h⟩] := by rw [partsTo, dif_pos h]
theorem partsTo_length (n : Nat) : ∀ k, 120 * k ≤ n + 119 → (partsTo n k).length = k
 | 0, _ => rfl
 | k + 1, h => by rw [partsTo_succ n k (by omega), List.length_append, partsTo_length n k (by omega)]; rfl
attribute [local go_sem] Oper.semAt_some
def encPart (b off n : Nat) (k : PartNo n) : Array Value := #[.slice (some ⟨b, off + 120 * k.1, none⟩) (partLen n k.1) (partLen n k.1)]
theorem bslice_from (b off N cap r : Nat) (h : 120 * r < N) (hc : N ≤ cap) (w : World) : (Instr.slice 23 (.slice (some ⟨b, off, none⟩) N cap) (some (.int .i64 (120 * (r : Int)))) none none).run Tryz.prog w = .ok (.slice (some ⟨b, off + 120 * r, none⟩) (N - 120 * r) (cap - 120 * r)) w := by
 have hel : Tryz.prog.elem 23 = 5 := by kernel_rfl
 have hu : Tryz.prog.underlying 23 = some (.slice (Tryz.prog.elem 23)) := by rw [hel]; exact Tryz.underlying23
 have hsz : (Tryz.prog.info? 5).map (·.size) = some 1 := by kernel_rfl
 have e : (120 * (r : Int)).toNat = 120 * r := by omega
 have e2 : cap ≠ 120 * r := by omega
 rw [run_slice_l w _ (some ⟨b, off, none⟩) N cap hu .i64 (120 * (r : Int)) (by omega) (by omega), hel, run_size hsz w]
 simp [Result.andThen, sliced, e, e2, Addr.add_mid]
theorem bslice_part (b off N cap r m : Nat) (h : 120 * r + m ≤ N) (hm : 1 ≤ m) (hc : N ≤ cap) (w : World) : (Instr.slice 23 (.slice (some ⟨b, off, none⟩) N cap) (some (.int .i64 (120 * (r : Int)))) (some (.int .i64 (120 * (r : Int) + (m : Int)))) (some (.int .i64 (120 * (r : Int) + (m : Int))))).run Tryz.prog w = .ok (.slice (some ⟨b, off + 120 * r, none⟩) m m) w := by
 have hel : Tryz.prog.elem 23 = 5 := by kernel_rfl
 have hu : Tryz.prog.underlying 23 = some (.slice (Tryz.prog.elem 23)) := by rw [hel]; exact Tryz.underlying23
 have hsz : (Tryz.prog.info? 5).map (·.size) = some 1 := by kernel_rfl
 have e : (120 * (r : Int)).toNat = 120 * r := by omega
 have e3 : (120 * (r : Int) + (m : Int)).toNat = 120 * r + m := by omega
 have e2 : ¬ m = 0 := by omega
 rw [run_slice_lhm w _ (some ⟨b, off, none⟩) N cap hu .i64 .i64 .i64 (120 * (r : Int)) (120 * (r : Int) + (m : Int)) (120 * (r : Int) + (m : Int)) (by omega) (by omega) (by omega) (by omega), hel, run_size hsz w]
 simp [Result.andThen, sliced, e, e3, e2, Addr.add_mid]
theorem bslice_at (v : Value) (lo hi mx : Option Value) (w : World) : (Instr.sliceAt 23 v lo hi mx).run Tryz.prog w = (Instr.slice 23 v lo hi mx).run Tryz.prog w := by
 have hel : Tryz.prog.elem 23 = 5 := by kernel_rfl
 exact run_sliceAt_slice w _ _ _ _ _ (by rw [hel]; exact Tryz.underlying23)
def KpG (n0 : Nat) (G : Nat → Prop) (A B : World) : Prop := ∀ i, i < n0 → ¬ G i → ∀ o : Obj, A.heap[i]? = some o → o.isCells = true → B.heap[i]? = some o
theorem KpG.refl (n0 : Nat) (G : Nat → Prop) (A : World) : KpG n0 G A A := fun _ _ _ _ h _ => h
theorem KpG.trans {n0 : Nat} {G : Nat → Prop} {A B C : World} (h : KpG n0 G A B) (k : KpG n0 G B C) : KpG n0 G A C := fun i hi hx o ho hc => k i hi hx o (h i hi hx o ho hc) hc
theorem KpG.put {n0 : Nat} {G : Nat → Prop} (W : World) (l : Nat) (o o' : Obj) (h : W.heap[l]? = some o) (hc : o.isCells = false) : KpG n0 G W (W.putObj l o') := fun i _ _ p hp hpc => by
 have hne : i ≠ l := by
  rintro rfl
  rw [h] at hp
  cases hp
  rw [hc] at hpc
  cases hpc
 have hg := grownBy_putObj' W l o'
 exact (hg.block i (Array.getElem?_eq_some_iff.1 hp).1 (fun e => by injection e with e; exact hne e)).trans hp
theorem KpG.cell {n0 : Nat} {G : Nat → Prop} {A B : World} (h : KpG n0 G A B) {p : Addr} {v : Value} (h0 : p.block < n0) (hx : ¬ G p.block) (hv : A.cell? p = some v) : B.cell? p = some v := by
 have : ∃ o, A.heap[p.block]? = some o ∧ o.isCells = true := by
  unfold World.cell? at hv
  split at hv
  ·rename_i c t m ho
   exact ⟨_, ho, rfl⟩
  ·cases hv
 obtain ⟨o, ho, hc⟩ := this
 exact (World.cell?_of_block (w := A) ((h p.block h0 hx o ho hc).trans ho.symm)).trans hv
theorem bchunk_in (F : Fence) (n : Nat) (h5 : F.fn 86) (hro : F.round = none) (a : Option Addr) (len cap : Nat) (w : World) :
  CallsIn F n Tryz.prog 86 #[.slice a len cap, .int .i64 120] w fun e w' => e = .returned (.func (.func 120) #[] #[.pointer (some ⟨w.heap.size, 0, none⟩), .pointer (some ⟨w.heap.size + 1, 0, none⟩)]) ∧ w' = (w.alloc (.cells #[.slice a len cap] 23)).alloc (.cells #[.int .i64 120] 3) := by
 refine callsIn_of_wp Tryz.func86 rfl h5 ?_ hro
 simp only [Tryz.ntmps86, List.size_toArray, List.length_cons, List.length_nil, Nat.reduceAdd, Nat.reduceSub, Array.replicate_succ, Array.replicate_zero, List.push_toArray, List.append_toArray, List.nil_append, List.cons_append]
 gi_wp2
 go_ret
 exact ⟨rfl, rfl⟩
theorem bchunk1_in (n : Nat) (hn : 1 ≤ n) (l Bs Bn n0 b off N cap : Nat) (G : Nat → Prop) (hN : N ≤ 1000000) (hcap : N ≤ cap) (hbs : Bs < n0 ∧ ¬ G Bs) (hbn : Bn < n0 ∧ ¬ G Bn) (J Jx : List (PartNo N) → World → Prop)
  (hY : ∀ pre x W, J pre W → pre.length < N → YieldAt Fence.wide (n - 1) Tryz.prog l (encPart b off N x) W fun e W' =>
   (e = .returned (.bool true) ∧ J (pre ++ [x]) W' ∧ KpG n0 G W W') ∨ (e = .returned (.bool false) ∧ Jx (pre ++ [x]) W'))
  (W : World) (hBs : W.cell? ⟨Bs, 0, none⟩ = some (.slice (some ⟨b, off, none⟩) N cap)) (hBn : W.cell? ⟨Bn, 0, none⟩ = some (.int .i64 120)) (hJd : ∀ pre W, J pre W → J pre W.drew) (h0 : J [] W) :
  CallsIn Fence.wide n Tryz.prog 120 #[.func (.yield l) #[] #[], .pointer (some ⟨Bs, 0, none⟩), .pointer (some ⟨Bn, 0, none⟩)] W fun e W' => (∃ v, e = .returned v) ∧
   ((∃ ys, ys = partsTo N ((N + 119) / 120) ∧ J ys W') ∨ (∃ r, Jx (partsTo N r) W')) := by
 refine callsIn_of_wp Tryz.func120 rfl trivial ?_ rfl
 simp only [Tryz.ntmps120, List.size_toArray, List.length_cons, List.length_nil, Nat.reduceAdd, Nat.reduceSub, Array.replicate_succ, Array.replicate_zero, List.push_toArray, List.append_toArray, List.nil_append, List.cons_append]
 gi_wp2
 gi_loopw [4] (fun i wr => ∃ r : Nat, 120 * r ≤ N + 119 ∧ i = .int .i64 (120 * (r : Int)) ∧ J (partsTo N r) wr ∧ KpG n0 G W wr)
  (fun i _ => N + 120 - (intOf i).toNat)
 case atStart => exact ⟨0, by omega, rfl, h0, KpG.refl _ _ _⟩
 case round =>
  obtain ⟨r, hr, rfl, hJs, hnx⟩ := hrel
  have hBs2 : wr.cell? ⟨Bs, 0, none⟩ = some (.slice (some ⟨b, off, none⟩) N cap) := hnx.cell (p := ⟨Bs, 0, none⟩) hbs.1 hbs.2 hBs
  have hBn2 : wr.cell? ⟨Bn, 0, none⟩ = some (.int .i64 120) := hnx.cell (p := ⟨Bn, 0, none⟩) hbn.1 hbn.2 hBn
  have r0 : (0 : Int) ≤ (r : Int) := by omega
  have hN9 : (N : Int) ≤ 1000000 := by omega
  by_cases hlt : 120 * r < N
  ·have i1 : 120 * (r : Int) < (N : Int) := by omega
   obtain ⟨fn, tmps, assign, body, hy, hR⟩ := hY _ ⟨r, hlt⟩ wr.drew (hJd _ _ hJs) (by rw [partsTo_length N r (by omega)]; omega)
   have hs3 := bslice_from b off N cap r hlt hcap
   have hs3a := fun w => (bslice_at _ _ none none w).trans (hs3 w)
   obtain ⟨q, hq⟩ : ∃ q, q = N - 120 * r := ⟨_, rfl⟩
   rw [← hq] at hs3 hs3a
   have hq1 : 1 ≤ q := by omega
   have HQ := hide hq
   clear hq
   by_cases h2 : q < 120
   ·have hql : partLen N r = q := by rw [partLen, ← HQ.out]; omega
    have hs4 : ∀ w : World, (Instr.slice 23 (.slice (some ⟨b, off, none⟩) N cap) (some (.int .i64 (120 * (r : Int)))) (some (.int .i64 (120 * (r : Int) + (q : Int)))) (some (.int .i64 (120 * (r : Int) + (q : Int))))).run Tryz.prog w = .ok (.slice (some ⟨b, off + 120 * r, none⟩) q q) w := fun w => bslice_part b off N cap r q (by have := HQ.out; omega) (by omega) hcap w
    have hs4a := fun w => (bslice_at _ _ _ _ w).trans (hs4 w)
    dsimp only [encPart] at hy
    rw [hql] at hy
    have i2 : (q : Int) < 120 := by omega
    have HQ1 := hide h2
    clear h2
    gi_wp2
    refine wpIn_wide.2 ?_
    refine wp_region_held_drew (S := fun w' => w'.cell? ⟨Bs, 0, none⟩ = some (.slice (some ⟨b, off, none⟩) N cap) ∧ w'.cell? ⟨Bn, 0, none⟩ = some (.int .i64 120)) (by kernel_rfl) (⟨hBs2, hBn2⟩) (fun hSA0 => ?_)
    (refine tq 0 rfl hSA0 ?_ (fun w' hSw => by have hc := hSw.2; go_simp; try with_reducible rfl))
    (refine tq 1 rfl hSA0 ?_ (fun w' hSw => by have hc := hSw.1; go_simp; try with_reducible rfl))
    refine tq 2 rfl hSA0 ?_
    refine tq 3 rfl hSA0 ?_
    refine tq 4 rfl hSA0 ?_
    refine tq 5 rfl hSA0 ?_
    refine tq 6 rfl hSA0 ?_
    refine wpAnyH_done (by kernel_rfl) ?_ _
    gi_wp2
    refine hR.mono ?_
    rintro e W3 (⟨rfl, hJ3, hk3⟩ | ⟨rfl, hJx3⟩)
    ·have hBn3 : W3.cell? ⟨Bn, 0, none⟩ = some (.int .i64 120) := hk3.cell (p := ⟨Bn, 0, none⟩) hbn.1 hbn.2 hBn2
     gi_wp2
     go_roundw
     case rel => exact ⟨r + 1, by omega, by simp; omega, by rw [partsTo_succ N r hlt]; exact hJ3, hnx.trans hk3⟩
     case measure => simp [intOf]; omega
    ·gi_wp2
     refine bodyPost_ret (results_none rfl _ _ _) rfl ?_
     exact ⟨⟨_, rfl⟩, .inr ⟨r + 1, by rw [partsTo_succ N r hlt]; exact hJx3⟩⟩
   ·have hql : partLen N r = 120 := by rw [partLen, ← HQ.out]; omega
    have hs4 : ∀ w : World, (Instr.slice 23 (.slice (some ⟨b, off, none⟩) N cap) (some (.int .i64 (120 * (r : Int)))) (some (.int .i64 (120 * (r : Int) + 120))) (some (.int .i64 (120 * (r : Int) + 120)))).run Tryz.prog w = .ok (.slice (some ⟨b, off + 120 * r, none⟩) 120 120) w := fun w => bslice_part b off N cap r 120 (by have := HQ.out; omega) (by omega) hcap w
    have hs4a := fun w => (bslice_at _ _ _ _ w).trans (hs4 w)
    dsimp only [encPart] at hy
    rw [hql] at hy
    have i2 : ¬ (q : Int) < 120 := by omega
    clear h2
    gi_wp2
    refine wpIn_wide.2 ?_
    refine wp_region_held_drew (S := fun w' => w'.cell? ⟨Bs, 0, none⟩ = some (.slice (some ⟨b, off, none⟩) N cap) ∧ w'.cell? ⟨Bn, 0, none⟩ = some (.int .i64 120)) (by kernel_rfl) (⟨hBs2, hBn2⟩) (fun hSA0 => ?_)
    (refine tq 0 rfl hSA0 ?_ (fun w' hSw => by have hc := hSw.2; go_simp; try with_reducible rfl))
    (refine tq 1 rfl hSA0 ?_ (fun w' hSw => by have hc := hSw.1; go_simp; try with_reducible rfl))
    refine tq 2 rfl hSA0 ?_
    refine tq 3 rfl hSA0 ?_
    refine tq 4 rfl hSA0 ?_
    refine tq 5 rfl hSA0 ?_
    refine tq 6 rfl hSA0 ?_
    refine wpAnyH_done (by kernel_rfl) ?_ _
    gi_wp2
    refine hR.mono ?_
    rintro e W3 (⟨rfl, hJ3, hk3⟩ | ⟨rfl, hJx3⟩)
    ·have hBn3 : W3.cell? ⟨Bn, 0, none⟩ = some (.int .i64 120) := hk3.cell (p := ⟨Bn, 0, none⟩) hbn.1 hbn.2 hBn2
     gi_wp2
     go_roundw
     case rel => exact ⟨r + 1, by omega, by simp; omega, by rw [partsTo_succ N r hlt]; exact hJ3, hnx.trans hk3⟩
     case measure => simp [intOf]; omega
    ·gi_wp2
     refine bodyPost_ret (results_none rfl _ _ _) rfl ?_
     exact ⟨⟨_, rfl⟩, .inr ⟨r + 1, by rw [partsTo_succ N r hlt]; exact hJx3⟩⟩
  ·have i1 : ¬ 120 * (r : Int) < (N : Int) := by omega
   have hrN : r = (N + 119) / 120 := by omega
   gi_wp2
   go_end0
   exact ⟨⟨_, rfl⟩, .inl (by rw [← hrN]; exact hJs)⟩
theorem grownBy_drew (W : World) : W.grownBy W.drew none := ⟨rfl, rfl, rfl, Nat.le_refl _, fun _ _ _ => rfl⟩
theorem bchunk_stops (n : Nat) (hn : 1 ≤ n) (Bs Bn n0 b off N cap : Nat) (G : Nat → Prop) (w : World) (hN : N ≤ 1000000) (hcap : N ≤ cap) (hbs : Bs < n0 ∧ ¬ G Bs) (hbn : Bn < n0 ∧ ¬ G Bn) (hs : Bs < w.heap.size) (hb : Bn < w.heap.size)
  (hBs : w.cell? ⟨Bs, 0, none⟩ = some (.slice (some ⟨b, off, none⟩) N cap)) (hBn : w.cell? ⟨Bn, 0, none⟩ = some (.int .i64 120)) :
  SeqStopsK Fence.wide n Tryz.prog 120 #[.pointer (some ⟨Bs, 0, none⟩), .pointer (some ⟨Bn, 0, none⟩)] (encPart b off N) (KpG n0 G) (fun ys => ys = partsTo N ((N + 119) / 120)) (fun pre => ∃ r, pre = partsTo N r) N w := fun l J Jx W hW hJ _ hY h0 => by
 refine (bchunk1_in n hn l Bs Bn n0 b off N cap G hN hcap hbs hbn J Jx hY W ((hW.cell (p := ⟨Bs, 0, none⟩) hs).trans hBs) ((hW.cell (p := ⟨Bn, 0, none⟩) hb).trans hBn) (fun pre W h => hJ pre W W.drew none h (grownBy_drew W) (fun _ e => by cases e)) h0).mono ?_
 rintro e W' ⟨he, ⟨ys, rfl, hj⟩ | ⟨r, hj⟩⟩
 ·exact ⟨he, .inl ⟨_, rfl, hj⟩⟩
 ·exact ⟨he, .inr ⟨_, ⟨r, rfl⟩, hj⟩⟩
end Go.Proofs.YtjnpkcabkccaoaaGreat
namespace Go.Proofs.YtjnpkcabkccaoaaGreat
open Go.RowKit
section
variable {P : Program}
theorem run_built3 (t : TypeId) (f0 f1 f2 : Field) (k n m : Nat) (hu : P.underlying t = some (.struct #[f0, f1, f2])) (ho0 : f0.offset = 0) (ho1 : f1.offset = k) (ho2 : f2.offset = k + n)
  (hs0 : (P.info? f0.type).map (·.size) = some k) (hs1 : (P.info? f1.type).map (·.size) = some n) (hs2 : (P.info? f2.type).map (·.size) = some m) (hz : (P.info? t).map (fun i => i.zero.map (fun z => z.cells.size)) = some (some (k + n + m)))
  (v0 v1 v2 : Value) (vs0 vs1 vs2 : List Value) (h0 : v0.cells = vs0.toArray) (h1 : v1.cells = vs1.toArray) (h2 : v2.cells = vs2.toArray) (l0 : vs0.length = k) (l1 : vs1.length = n) (l2 : vs2.length = m) (w : World) :
  (Instr.build t #[(0, v0), (1, v1), (2, v2)]).run P w = .ok (.agg (vs0 ++ vs1 ++ vs2).toArray) w := by
 obtain ⟨i, z, hi, hzz, zs, hzs, hzl⟩ := zero_parts hz
 unfold Instr.build
 have hm : (#[f0, f1, f2].mapM fun f => do pure (f.offset, ← sizeOf f.type) : Sem (Array (Nat × Nat))).run P w = .ok #[(0, k), (k, n), (k + n, m)] w := by
  simp [ho0, ho1, ho2, run_size hs0, run_size hs1, run_size hs2]
 have hf : Instr.fill (fun j => #[(0, k), (k, n), (k + n, m)][j]?) zs.toArray [(0, v0), (1, v1), (2, v2)] = some (vs0 ++ vs1 ++ vs2).toArray := by
  rw [fill_one _ zs 0 v0 vs0 0 _ (by rw [l0]; rfl) h0 (by omega)]
  rw [fill_one _ (lay zs 0 vs0) 1 v1 vs1 k _ (by rw [l1]; rfl) h1 (by rw [lay_length]; omega)]
  rw [fill_one _ (lay (lay zs 0 vs0) k vs1) 2 v2 vs2 (k + n) _ (by rw [l2]; rfl) h2 (by rw [lay_length, lay_length]; omega)]
  rw [Instr.fill]
  congr 2
  rw [lay_eq _ _ _ (by rw [lay_length, lay_length]; omega), lay_eq (lay zs 0 vs0) k vs1 (by rw [lay_length]; omega), lay_eq zs 0 vs0 (by omega)]
  have e1 : (zs.take 0 ++ vs0 ++ zs.drop (0 + vs0.length)).take k = vs0 := by rw [List.take_zero, List.nil_append, List.take_append_of_le_length (by omega), List.take_of_length_le (by omega)]
  rw [e1]
  have e2 : (vs0 ++ vs1 ++ (zs.take 0 ++ vs0 ++ zs.drop (0 + vs0.length)).drop (k + vs1.length)).take (k + n) = vs0 ++ vs1 := by
   rw [List.take_append, List.take_of_length_le (by simp; omega)]
   have : k + n - (vs0 ++ vs1).length = 0 := by simp; omega
   rw [this, List.take_zero, List.append_nil]
  have e3 : (vs0 ++ vs1 ++ (zs.take 0 ++ vs0 ++ zs.drop (0 + vs0.length)).drop (k + vs1.length)).drop (k + n + vs2.length) = [] := by
   apply List.drop_of_length_le
   simp
   omega
  rw [e2, e3, List.append_nil]
 simp only [Sem.run_bind, run_zero hi hzz, Result.andThen_ok, run_underlying hu, hm, hzs]
 simp only [hf]
 simp
end
structure PairV where
 kA : Option Addr
 kN : Nat
 kC : Nat
 key : List Int
 vA : Option Addr
 vN : Nat
 vC : Nat
 value : List Int
 gone : Bool
def PairV.cells (p : PairV) : List Value := [.slice p.kA p.kN p.kC, .slice p.vA p.vN p.vC, .bool p.gone]
def PairV.d (p : PairV) : PairD := ⟨p.key, p.value, p.gone⟩
structure PairV.Fine (w : World) (p : PairV) : Prop where
 key : Bys w p.kA p.kN p.key
 kcap : p.kN ≤ p.kC
 value : Bys w p.vA p.vN p.value
 vcap : p.vN ≤ p.vC
theorem PairV.Fine.below {w w' : World} {p : PairV} (h : p.Fine w) (hb : Below w.heap.size w w') : p.Fine w' := ⟨h.key.below hb, h.kcap, h.value.below hb, h.vcap⟩
theorem PairV.one (p : PairV) : ∀ v ∈ p.cells, v.oneCell' = true := by
 intro v hv
 simp only [PairV.cells, List.mem_cons, List.mem_nil_iff, or_false] at hv
 rcases hv with rfl | rfl | rfl <;> rfl
abbrev PairsIn (w : World) (A : Option Addr) (n : Nat) (xs : List PairV) : Prop := RowsIn PairV.cells 3 PairV.Fine w A n xs
theorem PairsIn.below' {w w' : World} {A : Option Addr} {n : Nat} {xs : List PairV} (h : PairsIn w A n xs) (hb : Below w.heap.size w w') : PairsIn w' A n xs := h.below hb fun _ h => h.below hb
def zeroPr : List Value := [.slice none 0 0, .slice none 0 0, .bool false]
theorem zeroPr_info : (Tryz.prog.info? 59).map (·.zero) = some (some (.agg zeroPr.toArray)) := by kernel_rfl
theorem isPr : (Tryz.prog.info? 59).map (·.size) = some 3 := by kernel_rfl
theorem pr_infoR : (Tryz.prog.info? 59).map (fun i => (i.size, i.bytes, i.zero.map (fun z => z.cells.size))) = some (3, 56, some 3) := by kernel_rfl
def loadPr (a : Addr) : Sem Value := loadVar 59 a
theorem loadPr_fold (a : Addr) : loadVar 59 a = loadPr a := rfl
theorem loadPr_run (w : World) (b o : Nat) (p : PairV) (h : w.rangeAt b o p.cells) : (loadPr ⟨b, o, none⟩).run Tryz.prog w = .ok (.agg p.cells.toArray) w :=
 run_loadVar_mid w b o _ p.cells _ h Tryz.underlying59 rfl (by rw [isPr]; rfl)
theorem pr_store {w : World} {ops : Array Oper} {rest : List Oper} {op : Oper} {a : Act} {Q : Exit → Act → World → Prop} (hgd : op.guard = none) (x y : Operand) (ho : op.op = .store 59 x y) (w0 : World) (hw : w = w0.alloc (.cells zeroPr.toArray 59))
  (hx : a.eval x = .pointer (some ⟨w0.heap.size, 0, none⟩)) (V : PairV) (hy : a.eval y = .agg V.cells.toArray)
  (h : ∀ w', Below w0.heap.size w0 w' → w0.heap.size < w'.heap.size → Blk w' w0.heap.size 59 V.cells → wpList Tryz.prog ops Q rest (a.put op.dst undef) w') : wpList Tryz.prog ops Q (op :: rest) a w := by
 subst hw
 have hI := isPr
 refine wpList_store_blk hgd 59 x y ho w0.heap.size 0 59 zeroPr V.cells hx hy (Blk.new w0 _ _) (Nat.le_refl _) (by exact hI) (PairV.one V) ?_
 intro w' o z b
 rw [lay_all _ _ (by rfl)] at b
 have hb : Below w0.heap.size w0 (w0.alloc (.cells zeroPr.toArray 59)) := below_alloc (Below.refl _ _) _
 exact h w' (hb.trans (o.below hb.size (fun i hi e => by have h9 : i = w0.heap.size := e; omega))) b.lt b
def mkPr (parts : Array (Nat × Value)) : Sem Value := Instr.build 59 parts
theorem mkPr_fold (parts : Array (Nat × Value)) : Instr.build 59 parts = mkPr parts := rfl
def mkPrs1 (parts : Array (Nat × Value)) : Sem Value := Instr.buildSlice 37 1 parts
theorem mkPrs1_fold (parts : Array (Nat × Value)) : Instr.buildSlice 37 1 parts = mkPrs1 parts := rfl
theorem pr_zeros : (Tryz.prog.info? 59).map (fun i => i.zero.map (fun z => z.cells.size)) = some (some 3) := by kernel_rfl
theorem mkPrs1_run (w : World) (p : PairV) : (mkPrs1 #[(0, .agg p.cells.toArray)]).run Tryz.prog w = .ok (.slice (some ⟨w.heap.size, 0, none⟩) 1 1) (w.alloc (.cells p.cells.toArray 59)) :=
 run_buildSlice_one 37 59 3 Tryz.underlying37 isPr pr_zeros (by decide) (by decide) p.cells rfl w
theorem mkPr_run (w : World) (p : PairV) : (mkPr #[(0, .slice p.kA p.kN p.kC), (1, .slice p.vA p.vN p.vC), (2, .bool p.gone)]).run Tryz.prog w = .ok (.agg p.cells.toArray) w := by
 have := run_built3 (P := Tryz.prog) 59 _ _ _ 1 1 1 Tryz.underlying59 rfl rfl rfl (by kernel_rfl) (by kernel_rfl) (by kernel_rfl) (by kernel_rfl) (.slice p.kA p.kN p.kC) (.slice p.vA p.vN p.vC) (.bool p.gone) [.slice p.kA p.kN p.kC] [.slice p.vA p.vN p.vC] [.bool p.gone] rfl rfl rfl rfl rfl rfl w
 rw [mkPr, this]
 rfl
theorem run_bytesOf {P : Program} (w : World) (A : Option Addr) (n c : Nat) (xs : List Int) (hA : Bys w A n xs) : (Extern.Bytes.bytesOf (.slice A n c)).run P w = .ok ⟨(Lib.bytesOf xs).toArray⟩ w := by
 have hl := hA.1
 rcases Nat.eq_zero_or_pos n with h0 | h0
 ·subst h0
  obtain rfl : xs = [] := List.eq_nil_of_length_eq_zero hl
  cases A with
  | none => rfl
  | some a => rfl
 ·obtain ⟨b, off, rfl, hc⟩ := hA.2.2 h0
  subst hl
  have := Lib.run_loadBytesX (P := P) w xs ⟨b, off, none⟩ .empty (fun j x hj => by rw [Addr.add_mid]; exact hc j x hj)
  rw [Extern.Bytes.bytesOf, this]
  congr 1
  apply ByteArray.ext
  show (#[] : Array UInt8) ++ (Lib.bytesOf xs).toArray = (Lib.bytesOf xs).toArray
  simp
theorem run_compareB {P : Program} (w : World) (A B : Option Addr) (n c m d : Nat) (xs ys : List Int) (hA : Bys w A n xs) (hB : Bys w B m ys) :
  (Extern.BytealgCompare.compare #[.slice A n c, .slice B m d]).run P w = .ok (.int .i64 (lex xs ys)) w := by
 change Sem.run P (do pure (goInt (Extern.BytealgCompare.cmp (← Extern.Bytes.bytesOf (.slice A n c)) (← Extern.Bytes.bytesOf (.slice B m d))))) w = _
 have h1 := run_bytesOf (P := P) w A n c xs hA
 have h2 := run_bytesOf (P := P) w B m d ys hB
 simp only [Sem.run_bind, h1, h2, Sem.run_pure, Result.andThen]
 rw [Lib.cmp_eq]
 have := compare_lex xs ys hA.2.1 hB.2.1
 simp only [Lib.bytesOf]
 rw [this]
 rfl
theorem Compare_any (w : World) (A B : Option Addr) (n c m d : Nat) (xs ys : List Int) (hA : Bys w A n xs) (hB : Bys w B m ys) :
  Calls Tryz.prog 40 #[.slice A n c, .slice B m d] w fun e w' => e = .returned (.int .i64 (lex xs ys)) ∧ w = w' := by
 have hr := hide (run_compareB (P := Tryz.prog) w A B n c m d xs ys hA hB)
 clear hA hB
 go_enter Tryz.func40, Tryz.ntmps40
 go_wp2
 rw [run_callFunc_extern Tryz.func74 (by kernel_rfl) (by kernel_rfl) (by kernel_rfl) (e := Extern.BytealgCompare.compare) (by kernel_rfl), hr.out]
 simp only [Result.andThen]
 rw [Oper.upon_value]
 go_wp2
 go_ret
 exact ⟨rfl, rfl⟩
theorem byKey_any (w : World) (p q : PairV) (hp : p.Fine w) (hq : q.Fine w) :
  Calls Tryz.prog 64 #[.agg p.cells.toArray, .agg q.cells.toArray] w fun e w' => e = .returned (.int .i64 (lex p.key q.key)) ∧ Below w.heap.size w w' := by
 have h1 := hp.key.below (below_alloc (below_alloc (Below.refl _ w) (.cells p.cells.toArray 59)) (.cells q.cells.toArray 59))
 have h2 := hq.key.below (below_alloc (below_alloc (Below.refl _ w) (.cells p.cells.toArray 59)) (.cells q.cells.toArray 59))
 have hb := below_alloc (below_alloc (Below.refl _ w) (.cells p.cells.toArray 59)) (.cells q.cells.toArray 59)
 obtain ⟨kA, kN, kC, key, vA, vN, vC, value, gone⟩ := p
 obtain ⟨kA', kN', kC', key', vA', vN', vC', value', gone'⟩ := q
 simp only [PairV.cells] at h1 h2 hb
 have hc := hide (Compare_any _ _ _ _ kC _ kC' _ _ h1 h2)
 have HB := hide hb
 clear hp hq h1 h2 hb
 simp only [PairV.cells]
 go_enter Tryz.func64, Tryz.ntmps64
 go_wp2_with fail
 refine hc.out.mono ?_
 rintro e w' ⟨rfl, rfl⟩
 go_wp2_with fail
 go_ret
 exact ⟨rfl, HB.out⟩
theorem one_any (w : World) (p : PairV) (hp : p.Fine w) (hm : p.kN ≤ 1000000000000 ∧ p.vN ≤ 1000000000000) :
  Calls Tryz.prog 80 #[.agg p.cells.toArray] w fun e w' => e = .returned (.bool p.d.okB) ∧ Below w.heap.size w w' := by
 have hb := below_alloc (Below.refl _ w) (.cells p.cells.toArray 59)
 have hk := hp.key.1
 have hv := hp.value.1
 have hE : p.d.okB = (decide (1 ≤ p.kN) && (decide (p.kN ≤ 200) && (decide (p.vN ≤ 20000) && (!p.gone || decide (p.vN = 0))))) := by
  rw [PairD.okB]; simp only [PairV.d, hk, hv]
 obtain ⟨kA, kN, kC, key, vA, vN, vC, value, gone⟩ := p
 simp only [PairV.cells] at hb hm hE ⊢
 have HB := hide hb
 have HE := hide hE
 obtain ⟨m1, m2⟩ := hm
 clear hp hb hE hk hv
 generalize PairD.okB _ = r at HE
 have i1 : (kN : Int) ≤ 1000000000000 := by omega
 have i2 : (vN : Int) ≤ 1000000000000 := by omega
 cases gone
 all_goals
  go_enter Tryz.func80, Tryz.ntmps80
  go_wp2
  all_goals
   go_ret
   refine ⟨?_, HB.out⟩
   rw [HE.out]
   show Ending.returned (Value.bool _) = Ending.returned (Value.bool _)
   congr 2
   rw [Bool.eq_iff_iff]
   simp
   try omega
end Go.Proofs.YtjnpkcabkccaoaaGreat
