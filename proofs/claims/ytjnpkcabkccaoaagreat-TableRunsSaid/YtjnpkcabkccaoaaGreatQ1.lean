/- Lemmas and walks for TableRuns, packed. -/
import Derived.WalkKit
import Derived.WalkSpells
import Derived.WalkLawsBesides
import Derived.Deep.RegionHeld3
import Derived.Deep.MidRow
import Derived.Deep.WholeRow
import Derived.Deep.AppendLies
import Derived.Maps.AppendAt
import Derived.Deep.Draws
import Derived.Lib.Hide
import Derived.Deep.RegionLaw
import Derived.Deep.DrawnRows
import Derived.Deep.QuietTactic
import Derived.BigQuiet
import Derived.Deep.DeepFit
import Derived.Deep.Cut
import Derived.Deep.CutRange
import Derived.Deep.DeepCutAuto
import Derived.Deep.LoopGhost
set_option maxRecDepth 100000
set_option maxHeartbeats 16000000
namespace Go.Proofs.YtjnpkcabkccaoaaGreat
open Go.RowKit
theorem pU : (∀ (t : Array Value) (ds : List Deferred) (i : Tmp) (v : Value), Act.put ⟨t, ds⟩ (some i) v = ⟨t.setIfInBounds i v, ds⟩) ∧ (∀ (a : Act) (v : Value), Act.put a none v = a) ∧ (∀ (l : List Value) (i : Nat) (a : Value), l.toArray.setIfInBounds i a = (l.set i a).toArray) ∧ (∀ (a b : Value) (l : List Value), (a :: l).set 0 b = b :: l) ∧ (∀ (a b : Value) (l : List Value) (n : Nat), (a :: l).set (n + 1) b = a :: l.set n b) := ⟨fun _ _ _ _ => rfl, fun _ _ => rfl, fun _ _ _ => by simp, fun _ _ _ => rfl, fun _ _ _ _ => rfl⟩
section
variable {P : Program} {ops : Array Oper} {Q : Exit → Act → World → Prop} {md : Region.Mode} {S : World → Prop} {d : Option Tmp} {op : Op} {ty : TypeId} {pos : String} {af : Array Edge} {gd : Option (Tmp × Bool)} {v : Value} {fuel : Nat} {listed : Array Bool} {a a' : Act} {w : World}
theorem tq (i : Nat) (hi : ops[i]? = some ⟨d, op, ty, pos, af, gd⟩) (hS : S w) (h : wpAnyH P md ops Q S fuel (listed.setIfInBounds i true) a' w) (hv : ∀ w, S w → (execOp a.eval ⟨d, op, ty, pos, af, gd⟩).run P w = .ok (.value v) w := by (intro w' hSw; go_simp; try with_reducible rfl)) (ha : a.put d v = a' := by (simp only [pU]; rfl)) (hw : Region.wanted ⟨d, op, ty, pos, af, gd⟩ (yielded ops a.tmps) = true := by rfl) (hs : Region.noSelect ops = true := by kernel_rfl) (hf : Region.free md ops listed i = true := by kernel_rfl) (hr : (Region.ready md ops listed).contains i = true := by kernel_rfl) (hQ : ∀ c a w, Q (.panic c) (a.put d v) w → Q (.panic c) a w := by exact fun _ _ _ h => h) : wpAnyH P md ops Q S (fuel + 1) listed a w := wpAnyH_take hi hs hf hr hQ (Or.inl ⟨hw, hv⟩) hS (ha ▸ h)
theorem tm (i : Nat) (hi : ops[i]? = some ⟨d, op, ty, pos, af, gd⟩) (hS : S w) (h : wpAnyH P md ops Q S fuel (listed.setIfInBounds i true) a' w) (ha : a.put d undef = a' := by (simp only [pU]; rfl)) (hw : Region.wanted ⟨d, op, ty, pos, af, gd⟩ (yielded ops a.tmps) = false := by rfl) (hs : Region.noSelect ops = true := by kernel_rfl) (hf : Region.free md ops listed i = true := by kernel_rfl) (hr : (Region.ready md ops listed).contains i = true := by kernel_rfl) (hQ : ∀ c a w, Q (.panic c) (a.put d undef) w → Q (.panic c) a w := by exact fun _ _ _ h => h) : wpAnyH P md ops Q S (fuel + 1) listed a w := wpAnyH_take hi hs hf hr hQ (Or.inr ⟨hw, rfl⟩) hS (ha ▸ h)
end
section
variable {P : Program} {ops : Array Oper} {Q : Exit → Act → World → Prop} {md : Region.Mode} {S : World → Prop} {d : Option Tmp} {op : Op} {ty : TypeId} {pos : String} {af : Array Edge} {gd : Option (Tmp × Bool)} {fuel : Nat} {listed : Array Bool} {a : Act} {w : World}
theorem ry (i : Nat) (ho : ops[i]? = some ⟨d, op, ty, pos, af, gd⟩) (h : ∀ K : Act → World → Prop, Shut (∀ a w, S w → (S w → wpAnyH P md ops Q S fuel (listed.setIfInBounds i true) a w) → K a w) → if Region.wanted ⟨d, op, ty, pos, af, gd⟩ (yielded ops a.tmps) = true then Oper.wp P ⟨d, op, ty, pos, af, gd⟩ a w K Q else K (a.put d undef) w) (hr : Region.ready md ops listed = [i] := by kernel_rfl) : wpAnyH P md ops Q S (fuel + 1) listed a w := wpAnyH_ready hr (by simp) (AllReadyH.cons ho h AllReadyH.nil)
end
end Go.Proofs.YtjnpkcabkccaoaaGreat
namespace Go.Proofs.YtjnpkcabkccaoaaGreat
open Go.RowKit
theorem hide {p : Prop} (h : p) : Hid p := h

def Blk (w : World) (g : Nat) (t : TypeId) (cs : List Value) : Prop := w.heap[g]? = some (.cells cs.toArray t (0, 0))

section
variable {w w' : World} {g : Nat} {t : TypeId} {cs : List Value}
theorem Blk.lt (h : Blk w g t cs) : g < w.heap.size := by
 rcases Nat.lt_or_ge g w.heap.size with hlt | hge
 ·exact hlt
 ·unfold Blk at h; rw [Array.getElem?_eq_none hge] at h; cases h
theorem Blk.cell (h : Blk w g t cs) (i : Nat) : w.cell? ⟨g, i, none⟩ = cs[i]? := by
 rw [cell_of_row w g i _ t (0, 0) h]; simp
theorem Blk.frozen (h : Blk w g t cs) (i : Nat) : w.frozen? ⟨g, i, none⟩ = false := by
 unfold Blk at h
 simp [World.frozen?, h]
theorem Blk.range (h : Blk w g t cs) (o : Nat) (xs : List Value) (hx : ∀ j v, xs[j]? = some v → cs[o + j]? = some v) : w.rangeAt g o xs := fun j v hv => by
 rw [h.cell]; exact hx j v hv
theorem Blk.whole (h : Blk w g t cs) : w.rangeAt g 0 cs := h.range 0 cs fun j v hv => by simpa using hv
theorem Blk.there (h : Blk w g t cs) (o n : Nat) (hn : o + n ≤ cs.length) : w.there g o n := fun j hj => ⟨by
 rw [h.cell, List.getElem?_eq_getElem (by omega)]; rfl, h.frozen _⟩
theorem Blk.new (w : World) (t : TypeId) (cs : List Value) : Blk (w.alloc (.cells cs.toArray t)) w.heap.size t cs := heap_alloc_new w _
theorem Blk.new1 (w : World) (o : Obj) (t : TypeId) (cs : List Value) : Blk ((w.alloc o).alloc (.cells cs.toArray t)) (w.heap.size + 1) t cs := by
 have := Blk.new (w.alloc o) t cs
 simpa using this
theorem Blk.set_ (h : Blk w g t cs) (i : Nat) (u : Value) : Blk (w.setCell ⟨g, i, none⟩ u) g t (cs.set i u) := by
 unfold Blk at h ⊢
 simp [World.setCell, Array.getElem?_modify, h]
theorem Blk.far (h : Blk w g t cs) {p : Addr} (hp : g ≠ p.block) (u : Value) : Blk (w.setCell p u) g t cs := (Below.heap_setCell w p u g hp).trans h
end

structure Only (F : Nat → Prop) (w w' : World) : Prop where
 os : w'.os = w.os
 tape : w'.tape = w.tape
 output : w'.output = w.output
 size : w.heap.size ≤ w'.heap.size
 block : ∀ i, i < w.heap.size → ¬ F i → w'.heap[i]? = w.heap[i]?

section
variable {F G : Nat → Prop} {a b w w' : World}
theorem Only.refl (F : Nat → Prop) (w : World) : Only F w w := ⟨rfl, rfl, rfl, Nat.le_refl _, fun _ _ _ => rfl⟩
theorem Only.trans (h : Only F a b) (k : Only G b w) (hG : ∀ i, i < a.heap.size → G i → F i) : Only F a w :=
 ⟨k.os.trans h.os, k.tape.trans h.tape, k.output.trans h.output, Nat.le_trans h.size k.size,
 fun i hi hF => (k.block i (Nat.lt_of_lt_of_le hi h.size) (fun hg => hF (hG i hi hg))).trans (h.block i hi hF)⟩
theorem Only.mono (h : Only F a b) (hG : ∀ i, i < a.heap.size → F i → G i) : Only G a b :=
 ⟨h.os, h.tape, h.output, h.size, fun i hi hg => h.block i hi (fun hf => hg (hG i hi hf))⟩
theorem Only.drew (h : Only F a w) : Only F a w.drew := ⟨h.os, h.tape, h.output, h.size, h.block⟩
theorem Only.alloc (h : Only F a w) (o : Obj) : Only F a (w.alloc o) :=
 ⟨h.os, h.tape, h.output, Nat.le_trans h.size (by simp), fun i hi hF => (Below.heap_alloc w o i (Nat.lt_of_lt_of_le hi h.size)).trans (h.block i hi hF)⟩
theorem Only.setCell (h : Only F a w) {p : Addr} (hp : a.heap.size ≤ p.block ∨ F p.block) (u : Value) : Only F a (w.setCell p u) :=
 ⟨h.os, h.tape, h.output, by simpa [World.setCell] using h.size, fun i hi hF => (Below.heap_setCell w p u i (by
  rintro rfl
  rcases hp with hp | hp
  ·omega
  ·exact hF hp)).trans (h.block i hi hF)⟩
theorem Only.setCells {b0 : Nat} (hp : a.heap.size ≤ b0 ∨ F b0) : ∀ (vs : List Value) (o : Nat) (w : World), Only F a w → Only F a (w.setCells b0 o vs)
 | [], _, _, h => h
 | v :: r, o, w, h => by
  rw [World.setCells]
  exact Only.setCells hp r (o + 1) _ (h.setCell hp v)
theorem Only.grown (h : Only F a w) {row : Option Nat} (hg : w.grownBy w' row) (hr : ∀ g, row = some g → a.heap.size ≤ g ∨ F g) : Only F a w' :=
 ⟨hg.os.trans h.os, hg.tape.trans h.tape, hg.output.trans h.output, Nat.le_trans h.size hg.size,
 fun i hi hF => (hg.block i (Nat.lt_of_lt_of_le hi h.size) (fun e => by
  rcases hr i e.symm with h1 | h1
  ·omega
  ·exact hF h1)).trans (h.block i hi hF)⟩
theorem Only.below (h : Only F a w) {B : Nat} (hB : B ≤ a.heap.size) (hF : ∀ i, i < B → ¬ F i) : Below B a w :=
 ⟨h.os, h.tape, h.output, h.size, fun i hi => h.block i (by omega) (hF i hi)⟩
theorem Only.of_below (h : Below a.heap.size a w) (F : Nat → Prop) : Only F a w := ⟨h.os, h.tape, h.output, h.size, fun i hi _ => h.block i hi⟩
theorem Only.blk (h : Only F w w') {g : Nat} {t : TypeId} {cs : List Value} (hb : Blk w g t cs) (hg : ¬ F g) : Blk w' g t cs := (h.block g hb.lt hg).trans hb
theorem Only.own (h : Only F w w') {base : Nat} {e : TypeId} {size n : Nat} {v : Value} {xs : List Value} (ho : w.ownsRow base e size v n xs) (hg : ∀ g, v.ownBlock = some g → ¬ F g) : w'.ownsRow base e size v n xs := by
 refine ⟨ho.1, ?_⟩
 rcases ho.2 with hn | ⟨g, cap, cur, rfl, hb, hgg, rest⟩
 ·exact .inl hn
 ·refine .inr ⟨g, cap, cur, rfl, hb, ?_, rest⟩
  rw [h.block g (Array.getElem?_eq_some_iff.1 hgg).1 (hg g rfl)]
  exact hgg
end
theorem setCells_heap (b0 : Nat) : ∀ (vs : List Value) (o : Nat) (w : World) (g : Nat), g ≠ b0 → (w.setCells b0 o vs).heap[g]? = w.heap[g]?
 | [], _, _, _, _ => rfl
 | v :: r, o, w, g, hg => by
  rw [World.setCells, setCells_heap b0 r (o + 1) _ g hg]
  exact Below.heap_setCell w _ v g hg
theorem Blk.alloc {w : World} {g : Nat} {t : TypeId} {cs : List Value} (h : Blk w g t cs) (o : Obj) : Blk (w.alloc o) g t cs := (Below.heap_alloc w o g h.lt).trans h
def lay : List Value → Nat → List Value → List Value
 | cs, _, [] => cs
 | cs, o, v :: r => lay (cs.set o v) (o + 1) r
theorem Blk.cells {g : Nat} {t : TypeId} : ∀ (vs : List Value) (o : Nat) (w : World) (cs : List Value), Blk w g t cs → Blk (w.setCells g o vs) g t (lay cs o vs)
 | [], _, _, _, h => h
 | v :: r, o, w, cs, h => by
  rw [World.setCells]
  exact Blk.cells r (o + 1) _ _ (h.set_ o v)
theorem lay_length : ∀ (vs : List Value) (o : Nat) (cs : List Value), (lay cs o vs).length = cs.length
 | [], _, _ => rfl
 | v :: r, o, cs => by rw [lay, lay_length r]; simp
theorem lay_get : ∀ (vs : List Value) (o : Nat) (cs : List Value) (j : Nat), o + vs.length ≤ cs.length → (lay cs o vs)[j]? = if o ≤ j ∧ j < o + vs.length then vs[j - o]? else cs[j]?
 | [], o, cs, j, _ => by
  have : ¬ (o ≤ j ∧ j < o + ([] : List Value).length) := by simp only [List.length_nil]; omega
  rw [lay, if_neg this]
 | v :: r, o, cs, j, h => by
  simp only [List.length_cons] at h ⊢
  rw [lay, lay_get r (o + 1) _ j (by simp; omega)]
  by_cases h1 : o + 1 ≤ j ∧ j < o + 1 + r.length
  ·rw [if_pos h1, if_pos (by omega)]
   obtain ⟨k, hk⟩ : ∃ k, j - o = k + 1 := ⟨j - o - 1, by omega⟩
   rw [hk, List.getElem?_cons_succ]
   congr 1 <;> omega
  ·rw [if_neg h1]
   by_cases h2 : j = o
   ·subst h2
    rw [if_pos (by omega), List.getElem?_set_self (by omega)]
    simp
   ·rw [if_neg (by omega), List.getElem?_set_ne (by omega)]
theorem lay_eq (cs : List Value) (o : Nat) (vs : List Value) (h : o + vs.length ≤ cs.length) : lay cs o vs = cs.take o ++ vs ++ cs.drop (o + vs.length) := by
 refine List.ext_getElem? fun j => ?_
 rw [lay_get vs o cs j h]
 by_cases h1 : j < o
 ·rw [if_neg (by omega), List.append_assoc, List.getElem?_append_left (by simp; omega), List.getElem?_take_of_lt h1]
 ·by_cases h2 : j < o + vs.length
  ·rw [if_pos (by omega), List.append_assoc, List.getElem?_append_right (by simp; omega), List.getElem?_append_left (by simp; omega)]
   congr 1 <;> (simp; omega)
  ·rw [if_neg (by omega), List.getElem?_append_right (by simp; omega), List.getElem?_drop]
   congr 1 <;> (simp; omega)

theorem setCells_size (b0 : Nat) : ∀ (vs : List Value) (o : Nat) (w : World), (w.setCells b0 o vs).heap.size = w.heap.size
 | [], _, _ => rfl
 | v :: r, o, w => by rw [World.setCells, setCells_size b0 r (o + 1) _]; simp [World.setCell]
theorem keep_cell {w : World} {b0 o : Nat} {vs : List Value} {p : Addr} {v : Value} (h : w.cell? p = some v) (hne : p.block ≠ b0) : (w.setCells b0 o vs).cell? p = some v :=
 (World.cell?_of_block (w := w) (setCells_heap b0 vs o w _ hne)).trans h
theorem own_drew {w : World} {base : Nat} {e : TypeId} {size n : Nat} {v : Value} {xs : List Value} (h : w.ownsRow base e size v n xs) : w.drew.ownsRow base e size v n xs := h
section
variable {P : Program}
theorem wp_alloc_agg {o : Oper} {a : Act} {w : World} {K : Act → World → Prop} {Q : Exit → Act → World → Prop} (t : TypeId) (ho : o.op = .alloc t) (z : List Value)
  (hz : (P.info? t).map (·.zero) = some (some (.agg z.toArray))) (h : K (a.put o.dst (.pointer (some ⟨w.heap.size, 0, none⟩))) (w.alloc (.cells z.toArray t))) : o.wp P a w K Q := by
 have hzv : (zeroValue t).run P w = .ok (.agg z.toArray) w := by
  cases hq : P.info? t with
  | none => simp [hq] at hz
  | some i =>
   have : i.zero = some (.agg z.toArray) := by simpa [hq] using hz
   simp [zeroValue, typeInfo, hq, this]
 unfold Oper.wp execOp
 simp only [ho, Instr.alloc, Sem.run_bind, Sem.run_pure, Result.andThen_ok, hzv]
 simpa [newVar, newRow, Value.cells, Oper.upon] using h
theorem wpList_alloc_agg {ops : Array Oper} {rest : List Oper} {o : Oper} {a : Act} {w : World} {Q : Exit → Act → World → Prop} (hgd : o.guard = none) (t : TypeId) (ho : o.op = .alloc t) (z : List Value)
  (hz : (P.info? t).map (·.zero) = some (some (.agg z.toArray))) (h : wpList P ops Q rest (a.put o.dst (.pointer (some ⟨w.heap.size, 0, none⟩))) (w.alloc (.cells z.toArray t))) : wpList P ops Q (o :: rest) a w :=
 wpList_plain hgd fun _ hK => wp_alloc_agg t ho z hz (hK _ _ h)
end

theorem foldl_lay (off : Nat) : ∀ (vs : List Value) (k : Nat) (cs : List Value), (vs.zipIdx k).foldl (fun (c : Array Value) (p : Value × Nat) => c.setIfInBounds (off + p.2) p.1) cs.toArray = (lay cs (off + k) vs).toArray
 | [], _, _ => rfl
 | v :: r, k, cs => by
  rw [List.zipIdx_cons, List.foldl_cons, lay]
  have : (cs.toArray.setIfInBounds (off + k) v) = (cs.set (off + k) v).toArray := by simp
  rw [this, foldl_lay off r (k + 1)]
  rfl
theorem fill_one (place : Nat → Option (Nat × Nat)) (cs : List Value) (i : Nat) (v : Value) (vs : List Value) (off : Nat) (rest : List (Nat × Value))
  (hp : place i = some (off, vs.length)) (hv : v.cells = vs.toArray) (hfit : off + vs.length ≤ cs.length) :
  Instr.fill place cs.toArray ((i, v) :: rest) = Instr.fill place (lay cs off vs).toArray rest := by
 have hs : v.cells.size = vs.length := by rw [hv]; simp
 rw [Instr.fill, hp]
 simp only [hs]
 rw [if_neg (by simp; omega)]
 congr 1
 rw [hv]
 have := foldl_lay off vs 0 cs
 simp only [Nat.add_zero] at this
 rw [← this, ← Array.foldl_toList, show vs.toArray.zipIdx.toList = vs.zipIdx from by simp]
theorem lay_all (cs vs : List Value) (h : cs.length = vs.length) : lay cs 0 vs = vs := by
 rw [lay_eq _ _ _ (by omega)]
 simp [h]
theorem run_zero {P : Program} {t : TypeId} {i : TypeInfo} {z : Value} (hi : P.info? t = some i) (hz : i.zero = some z) (w : World) : (zeroValue t).run P w = .ok z w := by
 simp [zeroValue, typeInfo, hi, hz]
theorem run_size {P : Program} {t : TypeId} {n : Nat} (hi : (P.info? t).map (·.size) = some n) (w : World) : (sizeOf t).run P w = .ok n w := by
 cases hq : P.info? t with
 | none => simp [hq] at hi
 | some i =>
  have : i.size = n := by simpa [hq] using hi
  simp [sizeOf, typeInfo, hq, this]
theorem zero_parts {P : Program} {t : TypeId} {n : Nat} (h : (P.info? t).map (fun i => i.zero.map (fun z => z.cells.size)) = some (some n)) : ∃ i z, P.info? t = some i ∧ i.zero = some z ∧ ∃ zs : List Value, z.cells = zs.toArray ∧ zs.length = n := by
 cases hq : P.info? t with
 | none => simp [hq] at h
 | some i =>
  cases hz : i.zero with
  | none => simp [hq, hz] at h
  | some z => exact ⟨i, z, rfl, hz, z.cells.toList, by simp, by simpa [hq, hz] using h⟩
theorem run_build_pair {P : Program} (t : TypeId) (f0 f1 : Field) (n : Nat) (hu : P.underlying t = some (.struct #[f0, f1])) (ho0 : f0.offset = 0) (ho1 : f1.offset = 1)
  (hs0 : (P.info? f0.type).map (·.size) = some 1) (hs1 : (P.info? f1.type).map (·.size) = some n) (hz : (P.info? t).map (fun i => i.zero.map (fun z => z.cells.size)) = some (some (n + 1)))
  (v0 : Value) (hv0 : v0.cells = #[v0]) (vs : List Value) (hvs : vs.length = n) (w : World) : (Instr.build t #[(0, v0), (1, .agg vs.toArray)]).run P w = .ok (.agg (v0 :: vs).toArray) w := by
 obtain ⟨i, z, hi, hzz, zs, hzs, hzl⟩ := zero_parts hz
 unfold Instr.build
 have hm : (#[f0, f1].mapM fun f => do pure (f.offset, ← sizeOf f.type) : Sem (Array (Nat × Nat))).run P w = .ok #[(0, 1), (1, n)] w := by
  simp [ho0, ho1, run_size hs0, run_size hs1]
 have h1 : Instr.fill (fun k => #[(0, 1), (1, n)][k]?) zs.toArray [(0, v0), (1, .agg vs.toArray)] = some (v0 :: vs).toArray := by
  rw [fill_one _ zs 0 v0 [v0] 0 _ rfl (by simpa using hv0) (by simp; omega)]
  rw [fill_one _ (lay zs 0 [v0]) 1 (.agg vs.toArray) vs 1 _ (by simp [hvs]) rfl (by rw [lay_length]; omega)]
  rw [Instr.fill]
  congr 2
  rw [lay_eq _ _ _ (by rw [lay_length]; omega), lay_eq zs 0 [v0] (by simp; omega)]
  have : (zs.drop (1 + vs.length)) = [] := by apply List.drop_of_length_le; omega
  obtain ⟨z0, zr, rfl⟩ : ∃ z0 zr, zs = z0 :: zr := by
   cases zs with
   | nil => simp at hzl
   | cons a b => exact ⟨a, b, rfl⟩
  simp at hzl
  simp [hvs, hzl]
  omega
 simp only [Sem.run_bind, run_zero hi hzz, Result.andThen_ok, run_underlying hu, hm, hzs]
 simp only [h1]
 simp
theorem run_buildSlice_one {P : Program} (t e : TypeId) (n : Nat) (hu : P.underlying t = some (.slice e)) (hs : (P.info? e).map (·.size) = some n) (hz : (P.info? e).map (fun i => i.zero.map (fun z => z.cells.size)) = some (some n))
  (hn : 0 < n) (hn' : n ≤ 16777216) (vs : List Value) (hvs : vs.length = n) (w : World) :
  (Instr.buildSlice t 1 #[(0, .agg vs.toArray)]).run P w = .ok (.slice (some ⟨w.heap.size, 0, none⟩) 1 1) (w.alloc (.cells vs.toArray e)) := by
 obtain ⟨i, z, hi, hzz, zs, hzs, hzl⟩ := zero_parts hz
 have h1 : ∀ zs' : List Value, zs'.length = n → Instr.fill (fun i => some (i * n, n)) zs'.toArray [(0, .agg vs.toArray)] = some vs.toArray := fun zs' h => by
  rw [fill_one _ zs' 0 (.agg vs.toArray) vs 0 _ (by simp [hvs]) rfl (by omega), Instr.fill, lay_all _ _ (by omega)]
 have h2 : Instr.fill (fun i => some (i * n, n)) (Array.map (fun k => zs.toArray[k % zs.toArray.size]!) (Array.range (1 * n))) [(0, .agg vs.toArray)] = some vs.toArray := by
  obtain ⟨l, hl⟩ : ∃ l : List Value, Array.map (fun k => zs.toArray[k % zs.toArray.size]!) (Array.range (1 * n)) = l.toArray := ⟨_, (Array.toArray_toList).symm⟩
  rw [hl]
  refine h1 l ?_
  have := congrArg Array.size hl
  simp at this
  omega
 unfold Instr.buildSlice
 have hnz : ¬ (1 * n = 0) := by omega
 have hnb : ¬ (1 * n > 2 ^ 24) := by omega
 simp only [Sem.run_bind, run_underlying hu, Result.andThen_ok, run_size hs, hnb, hnz, if_false, run_zero hi hzz, hzs]
 simp only [Sem.run_pure, Sem.run_bind, Result.andThen_ok, h2, newRow, newObj]
 rfl

section
variable {P : Program}
theorem wpList_store_blk {ops : Array Oper} {rest : List Oper} {op : Oper} {a : Act} {w : World} {Q : Exit → Act → World → Prop} (hgd : op.guard = none) (ty : TypeId) (x y : Operand) (ho : op.op = .store ty x y)
  (g o : Nat) (t : TypeId) (cs vs : List Value) (hx : a.eval x = .pointer (some ⟨g, o, none⟩)) (hy : a.eval y = .agg vs.toArray) (hb : Blk w g t cs) (hl : o + vs.length ≤ cs.length)
  (hi : (P.info? ty).map (·.size) = some vs.length) (h1 : ∀ v ∈ vs, v.oneCell' = true)
  (h : ∀ w', Only (fun i => i = g) w w' → w'.heap.size = w.heap.size → Blk w' g t (lay cs o vs) → wpList P ops Q rest (a.put op.dst undef) w') : wpList P ops Q (op :: rest) a w := by
 refine wpList_store_mid hgd ty x y ho g o vs.toArray hx hy (by simpa using hb.there o vs.length hl) (by simpa using hi) (all_oneCell_toArray h1) ?_
 exact h _ (Only.setCells (F := fun i => i = g) (.inr rfl) _ _ _ (Only.refl _ w)) (by rw [setCells_size]) (by simpa using hb.cells vs o w cs)
theorem wpList_load_blk {ops : Array Oper} {rest : List Oper} {op : Oper} {a : Act} {w : World} {Q : Exit → Act → World → Prop} (hgd : op.guard = none) (ty : TypeId) (x : Operand) (ho : op.op = .load ty x)
  (g o : Nat) (t : TypeId) (cs vs : List Value) (d : TypeDesc) (hx : a.eval x = .pointer (some ⟨g, o, none⟩)) (hb : Blk w g t cs) (hv : ∀ j v, vs[j]? = some v → cs[o + j]? = some v)
  (hu : P.underlying ty = some d) (hd : d.isRow = true) (hi : (P.info? ty).map (·.size) = some vs.length)
  (h : wpList P ops Q rest (a.put op.dst (.agg vs.toArray)) w) : wpList P ops Q (op :: rest) a w :=
 wpList_load_mid hgd ty x ho g o hx vs d (hb.range o vs hv) hu hd hi h
end

theorem madeCells_replicate (u : Value) (m n : Nat) (hm : 0 < m) : madeCells (List.replicate m u).toArray n = (List.replicate n u).toArray := by
 unfold madeCells
 apply Array.ext
 ·simp
 ·intro i h1 h2
  simp at h1
  have : i % m < m := Nat.mod_lt _ hm
  simp [this]
theorem results_cell_tmp_blk {P : Program} {fn : Func} {p u : Tmp} {ty : TypeId} (h : fn.results = #[.cell p ty, .tmp u]) (tmps : Array Value) (w : World) (g : Nat) (t : TypeId) (cs : List Value) (d : TypeDesc)
  (hp : tmps.getD p undef = .pointer (some ⟨g, 0, none⟩)) (hb : Blk w g t cs) (hu : P.underlying ty = some d) (hd : d.isRow = true) (hi : (P.info? ty).map (·.size) = some cs.length) :
  (results fn tmps).run P w = .ok (.tuple #[.agg cs.toArray, tmps.getD u undef]) w := by
 rw [results_cell_tmp h, hp]
 simp only [asAddr, Sem.run_pure, Result.andThen_ok, run_loadVar_mid w g 0 ty cs d hb.whole hu hd hi]
theorem results_cell_blk {P : Program} {fn : Func} {p : Tmp} {ty : TypeId} (h : fn.results = #[.cell p ty]) (tmps : Array Value) (w : World) (g : Nat) (t : TypeId) (cs : List Value) (d : TypeDesc)
  (hp : tmps.getD p undef = .pointer (some ⟨g, 0, none⟩)) (hb : Blk w g t cs) (hu : P.underlying ty = some d) (hd : d.isRow = true) (hi : (P.info? ty).map (·.size) = some cs.length) :
  (results fn tmps).run P w = .ok (.agg cs.toArray) w := by
 have hp' : tmps[p]?.getD undef = .pointer (some ⟨g, 0, none⟩) := by simpa using hp
 simp [results, h, hp', asAddr, run_loadVar_mid w g 0 ty cs d hb.whole hu hd hi]
theorem run_make_rowN {P : Program} (t e : TypeId) (i : TypeInfo) (z : Value) (ht : P.underlying t = some (.slice e)) (hi : P.info? e = some i) (hz : i.zero = some z)
  (kl kc : IntKind) (n c : Nat) (hnc : n ≤ c) (hbytes : i.bytes * c ≤ 281474976710656) (h63 : c ≤ 9223372036854775807) (w : World) :
  (Instr.makeSlice t (.int kl (n : Int)) (.int kc (c : Int))).run P w = .ok (.slice (some ⟨w.heap.size, 0, none⟩) n c) (w.alloc (.cells (madeCells z.cells (c * i.size)) e)) := by
 have hb : (i.bytes : Int) * (c : Int) ≤ 281474976710656 := by
  have h : ((i.bytes * c : Nat) : Int) ≤ 281474976710656 := by omega
  rwa [Int.natCast_mul] at h
 have hr := run_make (P := P) w t e i z ht hi hz kl kc n c (by omega) (by omega) hb (by omega)
 simp only [Int.toNat_natCast] at hr
 exact hr

theorem run_copy_blk {P : Program} {w : World} (dT sT ty elem : TypeId) (g off dLen dCap : Nat) (ad : Addr) (sLen sCap : Nat) (cur : List Value) (t : TypeId) (cs : List Value)
  (hu : P.underlying dT = some (.slice elem)) (hsz : (P.info? elem).map (·.size) = some 1) (hg : Blk w g t cur) (hn : cs.length = Nat.min sLen dLen)
  (hsrc : ∀ (j : Nat) (v : Value), cs[j]? = some v → w.cell? (ad.add j) = some v) (hfit : off + cs.length ≤ cur.length) (h1 : ∀ v ∈ cs, v.oneCell' = true) :
  ∃ w', (Builtin.copy_ #[dT, sT] ty #[.slice (some ⟨g, off, none⟩) dLen dCap, .slice (some ad) sLen sCap]).run P w = .ok (goInt cs.length) w' ∧ Only (fun i => i = g) w w' ∧ w'.heap.size = w.heap.size ∧ Blk w' g t (lay cur off cs) := by
 have hrun := run_copy_row (P := P) w dT sT ty elem g off dLen dCap ad sLen sCap cur.toArray t cs hu hsz hg hn hsrc (by simpa using hfit) h1
 refine ⟨_, hrun, ⟨rfl, rfl, rfl, by simp [World.setRow], fun i _ hi => setRow_other w g i _ hi⟩, by simp [World.setRow], ?_⟩
 rw [lay_eq _ _ _ hfit]
 simpa [Blk] using setRow_heap w g cur.toArray _ t _ hg
theorem step_copy_blk {P : Program} {ops : Array Oper} {o : Oper} {a : Act} {w : World} {K : Act → World → Prop} {Q : Exit → Act → World → Prop} {E : Prop} (hgd : o.guard = none) (d s : Operand) (dT sT : TypeId)
  (ho : o.op = .call { callee := .builtin .copy, args := #[d, s], argTypes := #[dT, sT] }) (elem : TypeId) (hu : P.underlying dT = some (.slice elem)) (hsz : (P.info? elem).map (·.size) = some 1)
  (g off dLen dCap : Nat) (ad : Addr) (sLen sCap : Nat) (hd : a.eval d = .slice (some ⟨g, off, none⟩) dLen dCap) (hs : a.eval s = .slice (some ad) sLen sCap)
  (cur : List Value) (t : TypeId) (hg : Blk w g t cur) (cs : List Value) (hn : cs.length = Nat.min sLen dLen)
  (hsrc : ∀ (j : Nat) (v : Value), cs[j]? = some v → w.cell? (ad.add j) = some v) (hfit : off + cs.length ≤ cur.length) (h1 : ∀ v ∈ cs, v.oneCell' = true)
  (h : ∀ w', Only (fun i => i = g) w w' → w'.heap.size = w.heap.size → Blk w' g t (lay cur off cs) → K (a.put o.dst (goInt cs.length)) w') :
  if Region.wanted o (yielded ops a.tmps) = true then Oper.wp P o a w K Q else E := by
 have hw : Region.wanted o (yielded ops a.tmps) = true := by simp [Region.wanted, hgd]
 rw [if_pos hw]
 obtain ⟨w', hrun, ho', hz', hb'⟩ := run_copy_blk (P := P) dT sT o.type elem g off dLen dCap ad sLen sCap cur t cs hu hsz hg hn hsrc hfit h1
 unfold Oper.wp
 simp [execOp, ho, resolve, invoke, builtin, hd, hs, hrun, Result.andThen]
 exact h w' ho' hz' hb'
def Bys (w : World) (A : Option Addr) (n : Nat) (bs : List Int) : Prop :=
 bs.length = n ∧ (∀ v ∈ bs, 0 ≤ v ∧ v ≤ 255) ∧ (0 < n → ∃ b off : Nat, A = some ⟨b, off, none⟩ ∧ ∀ (j : Nat) (v : Int), bs[j]? = some v → w.cell? ⟨b, off + j, none⟩ = some (.int .u8 v))
def Apart (A : Option Addr) (n : Nat) (F : Nat → Prop) : Prop := 0 < n → ∀ ad, A = some ad → ¬ F ad.block
theorem Bys.nil (w : World) (A : Option Addr) : Bys w A 0 [] := ⟨rfl, by simp, fun h => absurd h (by omega)⟩
theorem Bys.keep {w w' : World} {A : Option Addr} {n : Nat} {bs : List Int} {F : Nat → Prop} (h : Bys w A n bs) (ho : Only F w w') (ha : Apart A n F) : Bys w' A n bs := by
 refine ⟨h.1, h.2.1, fun hn => ?_⟩
 obtain ⟨b, off, hA, hc⟩ := h.2.2 hn
 refine ⟨b, off, hA, fun j v hv => ?_⟩
 have h1 := hc j v hv
 have hlt := World.block_lt_of_cell? w _ h1
 exact (World.cell?_of_block (w := w) (ho.block b hlt (ha hn _ hA))).trans h1
theorem Bys.lt {w : World} {A : Option Addr} {n : Nat} {bs : List Int} (h : Bys w A n bs) (hn : 0 < n) (ad : Addr) (hA : A = some ad) : ad.block < w.heap.size := by
 obtain ⟨b, off, hA', hc⟩ := h.2.2 hn
 rw [hA] at hA'
 injection hA' with e
 subst e
 have hl := h.1
 exact World.block_lt_of_cell? w _ (hc 0 _ (List.getElem?_eq_getElem (by omega)))
def bcs (bs : List Int) : List Value := bs.map (Value.int .u8 ·)
theorem bcs_length (bs : List Int) : (bcs bs).length = bs.length := by simp [bcs]
theorem bcs_append (a b : List Int) : bcs (a ++ b) = bcs a ++ bcs b := by simp [bcs]
theorem bcs_one (bs : List Int) : ∀ v ∈ bcs bs, v.oneCell' = true := by
 intro v hv
 simp only [bcs, List.mem_map] at hv
 obtain ⟨x, _, rfl⟩ := hv
 rfl
def Byt (bs : List Int) : Prop := ∀ x ∈ bs, 0 ≤ x ∧ x ≤ 255
def Tail (w : World) (e : TypeId) (v : Value) (bs : List Int) (G : Nat → Prop) : Prop :=
 Byt bs ∧ ((w.ownsRow 0 e 1 v bs.length (bcs bs) ∧ G = fun i => v.ownBlock = some i) ∨
  (∃ A, v = .slice A bs.length bs.length ∧ Bys w A bs.length bs ∧ G = fun _ => False))
theorem own_read {w : World} {base : Nat} {e : TypeId} {v : Value} {bs : List Int} (h : w.ownsRow base e 1 v bs.length (bcs bs)) (hb : Byt bs) :
  ∃ A c, v = .slice A bs.length c ∧ Bys w A bs.length bs ∧ bs.length ≤ c ∧ c ≤ maxLen := by
 rcases h.2 with ⟨rfl, h0⟩ | ⟨g, cap, cur, rfl, _, hh, hnc, hcm, _, htake⟩
 ·refine ⟨none, 0, by rw [h0], ⟨rfl, hb, fun hn => absurd hn (by omega)⟩, by omega, Nat.zero_le _⟩
 ·refine ⟨_, cap, rfl, ⟨rfl, hb, fun _ => ⟨g, 0, rfl, fun j v hv => ?_⟩⟩, hnc, hcm⟩
  have hc : Blk w g e cur.toList := by simpa [Blk] using hh
  rw [Nat.zero_add, hc.cell]
  have : (bcs bs)[j]? = some (.int .u8 v) := by simp [bcs, hv]
  rw [← htake, List.getElem?_take] at this
  split at this
  ·exact this
  ·cases this
theorem Tail.read {w : World} {e : TypeId} {v : Value} {bs : List Int} {G : Nat → Prop} (h : Tail w e v bs G) : ∃ A c, v = .slice A bs.length c ∧ Bys w A bs.length bs ∧ bs.length ≤ c := by
 rcases h.2 with ⟨ho, _⟩ | ⟨A, hv, hB, _⟩
 ·obtain ⟨A, c, h1, h2, h3, _⟩ := own_read ho h.1
  exact ⟨A, c, h1, h2, h3⟩
 ·exact ⟨A, _, hv, hB, Nat.le_refl _⟩
theorem own_weak {w : World} {base : Nat} {e : TypeId} {size n : Nat} {v : Value} {xs : List Value} (h : w.ownsRow base e size v n xs) : w.ownsRow 0 e size v n xs := by
 refine ⟨h.1, ?_⟩
 rcases h.2 with h0 | ⟨g, cap, cur, h1, _, h3⟩
 ·exact .inl h0
 ·exact .inr ⟨g, cap, cur, h1, Nat.zero_le _, h3⟩
section
variable {P : Program}
theorem run_append_none (w : World) (t ty e : TypeId) (i : TypeInfo) (ht : P.underlying t = some (.slice e)) (hi : P.info? e = some i) (A B : Option Addr) (n cap c : Nat) (hn : n ≤ cap) :
  (Builtin.append_ #[t, t] ty #[.slice A n cap, .slice B 0 c]).run P w = .ok (.slice A n cap) w := by
 cases A <;> cases B <;> simp [Builtin.append_, run_underlying ht, sizeOf, typeInfo, hi, Builtin.lenOf, Builtin.firstCells, loadCells, loadCellsFrom, hn, storeCells]
theorem run_append_tail (w : World) (t ty e : TypeId) (i : TypeInfo) (z : Value) (ht : P.underlying t = some (.slice e)) (hi : P.info? e = some i) (hz : i.zero = some z) (hs : i.size = 1) (hby : i.bytes = 1) (hzs : z.cells.size = 1)
  (v : Value) (bs : List Int) (G : Nat → Prop) (h : Tail w e v bs G) (B : Option Addr) (m c : Nat) (cs : List Int) (hB : Bys w B m cs) (hlen : bs.length + m ≤ 140737488355328) :
  ∃ v' G' w', (Builtin.append_ #[t, t] ty #[v, .slice B m c]).run P w = .ok v' w' ∧ Tail w' e v' (bs ++ cs) G' ∧ Only G w w' ∧ (∀ i, G' i → G i ∨ w.heap.size ≤ i) ∧ ((m = 0 ∧ v' = v) ∨ ∀ i, v'.ownBlock = some i → G' i) := by
 have hbyt : Byt (bs ++ cs) := fun x hx => by
  rcases List.mem_append.1 hx with h1 | h1
  ·exact h.1 x h1
  ·exact hB.2.1 x h1
 rcases Nat.eq_zero_or_pos m with h0 | hm
 ·subst h0
  have hcs : cs = [] := List.eq_nil_of_length_eq_zero hB.1
  subst hcs
  obtain ⟨A, cap, rfl, _, hcap⟩ := h.read
  refine ⟨_, G, w, run_append_none w t ty e i ht hi A B _ cap c hcap, by rw [List.append_nil]; exact h, Only.refl _ _, fun _ h => .inl h, .inl ⟨rfl, rfl⟩⟩
 ·obtain ⟨b, off, rfl, hc⟩ := hB.2.2 hm
  have hnews : ∀ j u, (bcs cs)[j]? = some u → w.cell? ((⟨b, off, none⟩ : Addr).add j) = some u := fun j u hu => by
   rw [Addr.add_mid]
   simp only [bcs, List.getElem?_map] at hu
   cases hg : cs[j]? with
   | none => rw [hg] at hu; cases hu
   | some x => rw [hg] at hu; injection hu with hu; subst hu; exact hc j x hg
  have hl : (bcs cs).length = m * 1 := by rw [bcs_length, hB.1]; omega
  have hml : bs.length + m ≤ maxLen := by simp only [maxLen]; omega
  have hle : (bs ++ cs).length = bs.length + m := by rw [List.length_append, hB.1]
  rcases h.2 with ⟨ho, rfl⟩ | ⟨A, rfl, hA, rfl⟩
  ·obtain ⟨v', w', hrun, o1, g1, _, hat⟩ := run_append_own_at (P := P) w 0 t ty e i z 1 1 ht hi hz hs hby hzs (by decide) v bs.length (bcs bs) ho ⟨b, off, none⟩ m c (bcs cs) hl hnews (bcs_one cs) hml (by omega) (Nat.zero_le _)
   refine ⟨v', _, w', hrun, ⟨hbyt, .inl ⟨by rw [hle, bcs_append]; exact o1, rfl⟩⟩, (Only.refl _ w).grown g1 (fun g hg => .inr hg), fun j hj => ?_, .inr fun _ h => h⟩
   rcases hat with h1 | h1
   ·left; rw [h1] at hj; exact hj
   ·right; rw [h1] at hj; injection hj with hj; omega
  ·have key : ∃ v' w', (Builtin.append_ #[t, t] ty #[.slice A bs.length bs.length, .slice (some ⟨b, off, none⟩) m c]).run P w = .ok v' w' ∧ w'.ownsRow w.heap.size e 1 v' (bs.length + m) (bcs bs ++ bcs cs) ∧ w.grownBy w' none := by
    cases A with
    | some a =>
     refine run_append_arg_grows (P := P) w t ty e i z 1 1 ht hi hz hs hby hzs (by decide) a bs.length bs.length (bcs bs) (by rw [bcs_length]; omega) (fun j u hu => ?_) ⟨b, off, none⟩ m c (bcs cs) hl hnews (by omega) hml (by omega)
     have hj : j < bs.length := by rw [← bcs_length]; exact (List.getElem?_eq_some_iff.1 hu).1
     obtain ⟨b2, off2, hA2, hc2⟩ := hA.2.2 (by omega)
     injection hA2 with hA2
     subst hA2
     rw [Addr.add_mid]
     simp only [bcs, List.getElem?_map] at hu
     cases hg : bs[j]? with
     | none => rw [hg] at hu; cases hu
     | some x => rw [hg] at hu; injection hu with hu; subst hu; exact hc2 j x hg
    | none =>
     have hb0 : bs = [] := by
      rcases Nat.eq_zero_or_pos bs.length with h1 | h1
      ·exact List.eq_nil_of_length_eq_zero h1
      ·obtain ⟨_, _, h2, _⟩ := hA.2.2 h1; cases h2
     subst hb0
     obtain ⟨v', w', hrun, r1, r2, _⟩ := run_append_own (P := P) w w.heap.size t ty e i z 1 1 ht hi hz hs hby hzs (by decide) (.slice none 0 0) 0 [] (World.ownsRow_nil w _ e 1) ⟨b, off, none⟩ m c (bcs cs) hl hnews (bcs_one cs) (by simpa using hml) (by simp at hlen; omega) (Nat.le_refl _)
     exact ⟨v', w', hrun, r1, r2⟩
   obtain ⟨v', w', hrun, r1, r2⟩ := key
   refine ⟨v', _, w', hrun, ⟨hbyt, .inl ⟨by rw [hle, bcs_append]; exact own_weak r1, rfl⟩⟩, (Only.refl _ w).grown r2 (fun g hg => by cases hg), fun j hj => ?_, .inr fun _ h => h⟩
   rcases r1.2 with ⟨rfl, h0⟩ | ⟨g, cap, cur, rfl, hg, _⟩
   ·omega
   ·have : g = j := by simpa [Value.ownBlock] using hj
    right; omega
theorem wp_append_tail {w : World} {o : Oper} {a : Act} {K : Act → World → Prop} {Q : Exit → Act → World → Prop} (s x : Operand) (t : TypeId)
  (ho : o.op = .call { callee := .builtin .append, args := #[s, x], argTypes := #[t, t] })
  (e : TypeId) (i : TypeInfo) (z : Value) (ht : P.underlying t = some (.slice e)) (hi : P.info? e = some i) (hz : i.zero = some z) (hsz : i.size = 1) (hby : i.bytes = 1) (hzs : z.cells.size = 1)
  (v : Value) (bs : List Int) (G : Nat → Prop) (hs : a.eval s = v) (h : Tail w e v bs G) (B : Option Addr) (m c : Nat) (cs : List Int) (hx : a.eval x = .slice B m c) (hB : Bys w B m cs) (hlen : bs.length + m ≤ 140737488355328)
  (hK : ∀ A' c' G' w', Tail w' e (.slice A' (bs.length + m) c') (bs ++ cs) G' → Only G w w' → (∀ i, G' i → G i ∨ w.heap.size ≤ i) → ((m = 0 ∧ Value.slice A' (bs.length + m) c' = v) ∨ ∀ i, (Value.slice A' (bs.length + m) c').ownBlock = some i → G' i) → K (a.put o.dst (.slice A' (bs.length + m) c')) w') : o.wp P a w K Q := by
 obtain ⟨v', G', w', hr, h2, h3, h4, h5⟩ := run_append_tail (P := P) w t o.type e i z ht hi hz hsz hby hzs v bs G h B m c cs hB hlen
 obtain ⟨A', c', rfl, _, _⟩ := h2.read
 have hl : (bs ++ cs).length = bs.length + m := by rw [List.length_append, hB.1]
 rw [hl] at hr h2 h5
 unfold Oper.wp execOp
 simp only [ho, resolve, invoke, builtin, Sem.run_bind, Sem.run_pure, Result.andThen_ok, List.map_toArray, List.map_cons, List.map_nil, hs, hx, hr]
 exact hK A' c' G' w' h2 h3 h4 h5
theorem wpList_append_tail {w : World} {ops : Array Oper} {rest : List Oper} {o : Oper} {a : Act} {Q : Exit → Act → World → Prop} (hgd : o.guard = none) (s x : Operand) (t : TypeId)
  (ho : o.op = .call { callee := .builtin .append, args := #[s, x], argTypes := #[t, t] })
  (e : TypeId) (i : TypeInfo) (z : Value) (ht : P.underlying t = some (.slice e)) (hi : P.info? e = some i) (hz : i.zero = some z) (hsz : i.size = 1) (hby : i.bytes = 1) (hzs : z.cells.size = 1)
  (v : Value) (bs : List Int) (G : Nat → Prop) (hs : a.eval s = v) (h : Tail w e v bs G) (B : Option Addr) (m c : Nat) (cs : List Int) (hx : a.eval x = .slice B m c) (hB : Bys w B m cs) (hlen : bs.length + m ≤ 140737488355328)
  (hK : ∀ A' c' G' w', Tail w' e (.slice A' (bs.length + m) c') (bs ++ cs) G' → Only G w w' → (∀ i, G' i → G i ∨ w.heap.size ≤ i) → ((m = 0 ∧ Value.slice A' (bs.length + m) c' = v) ∨ ∀ i, (Value.slice A' (bs.length + m) c').ownBlock = some i → G' i) → wpList P ops Q rest (a.put o.dst (.slice A' (bs.length + m) c')) w') : wpList P ops Q (o :: rest) a w :=
 wpList_plain hgd fun _ hK' => wp_append_tail s x t ho e i z ht hi hz hsz hby hzs v bs G hs h B m c cs hx hB hlen fun A' c' G' w' h1 h2 h3 h4 => hK' _ _ (hK A' c' G' w' h1 h2 h3 h4)
theorem step_append_tail {w : World} {ops : Array Oper} {o : Oper} {a : Act} {K : Act → World → Prop} {Q : Exit → Act → World → Prop} {E : Prop} (hgd : o.guard = none) (s x : Operand) (t : TypeId)
  (ho : o.op = .call { callee := .builtin .append, args := #[s, x], argTypes := #[t, t] })
  (e : TypeId) (i : TypeInfo) (z : Value) (ht : P.underlying t = some (.slice e)) (hi : P.info? e = some i) (hz : i.zero = some z) (hsz : i.size = 1) (hby : i.bytes = 1) (hzs : z.cells.size = 1)
  (v : Value) (bs : List Int) (G : Nat → Prop) (hs : a.eval s = v) (h : Tail w e v bs G) (B : Option Addr) (m c : Nat) (cs : List Int) (hx : a.eval x = .slice B m c) (hB : Bys w B m cs) (hlen : bs.length + m ≤ 140737488355328)
  (hK : ∀ A' c' G' w', Tail w' e (.slice A' (bs.length + m) c') (bs ++ cs) G' → Only G w w' → (∀ i, G' i → G i ∨ w.heap.size ≤ i) → ((m = 0 ∧ Value.slice A' (bs.length + m) c' = v) ∨ ∀ i, (Value.slice A' (bs.length + m) c').ownBlock = some i → G' i) → K (a.put o.dst (.slice A' (bs.length + m) c')) w') :
  if Region.wanted o (yielded ops a.tmps) = true then Oper.wp P o a w K Q else E := by
 have hw : Region.wanted o (yielded ops a.tmps) = true := by simp [Region.wanted, hgd]
 rw [if_pos hw]
 exact wp_append_tail s x t ho e i z ht hi hz hsz hby hzs v bs G hs h B m c cs hx hB hlen hK
end
section
variable {w w' : World} {e : TypeId} {v : Value} {bs : List Int} {G : Nat → Prop}
theorem Tail.keep (h : Tail w e v bs G) {H : Nat → Prop} (ho : Only H w w') (hd : ∀ A c, v = .slice A bs.length c → Apart A bs.length H) (hg : ∀ i, G i → ¬ H i) : Tail w' e v bs G := by
 refine ⟨h.1, ?_⟩
 rcases h.2 with ⟨h1, rfl⟩ | ⟨A, rfl, h2, h3⟩
 ·exact .inl ⟨ho.own h1 hg, rfl⟩
 ·exact .inr ⟨A, rfl, h2.keep ho (hd A _ rfl), h3⟩
theorem Tail.below (h : Tail w e v bs G) (hb : Below w.heap.size w w') : Tail w' e v bs G :=
 h.keep (Only.of_below hb (fun _ => False)) (fun _ _ _ _ _ _ hf => hf) (fun _ _ hf => hf)
theorem Tail.lt (h : Tail w e v bs G) : ∀ i, G i → i < w.heap.size := by
 rcases h.2 with ⟨h1, rfl⟩ | ⟨A, rfl, h2, rfl⟩
 ·intro i hi; exact (h1.lt i hi).2
 ·intro i hi; exact hi.elim
theorem Tail.full {A : Option Addr} {n : Nat} (h : Bys w A n bs) : Tail w e (.slice A n n) bs (fun _ => False) := by
 have := h.1
 subst this
 exact ⟨h.2.1, .inr ⟨A, rfl, h, rfl⟩⟩
end
theorem Bys.one (w : World) (e : TypeId) (x : Int) (h0 : 0 ≤ x) (h1 : x ≤ 255) : Bys (w.alloc (.cells #[.int .u8 x] e)) (some ⟨w.heap.size, 0, none⟩) 1 [x] := by
 refine ⟨rfl, fun v hv => ?_, fun _ => ⟨w.heap.size, 0, rfl, fun j v hv => ?_⟩⟩
 ·simp at hv; omega
 ·rw [Nat.zero_add, (Blk.new w e [.int .u8 x]).cell]
  rcases j with _ | j
  ·simp at hv; subst hv; rfl
  ·simp at hv
theorem Only.under {F : Nat → Prop} {w0 w w' : World} (h : Only F w w') (hb : Below w0.heap.size w0 w) (hF : ∀ i, F i → w0.heap.size ≤ i) : Below w0.heap.size w0 w' :=
 hb.trans (h.below hb.size (fun i hi hf => by have := hF i hf; omega))
theorem Below.then_ {w0 w w' : World} (hb : Below w0.heap.size w0 w) (h : Below w.heap.size w w') : Below w0.heap.size w0 w' := hb.trans (h.mono hb.size)
theorem Bys.alloc {w : World} {A : Option Addr} {n : Nat} {bs : List Int} (h : Bys w A n bs) (o : Obj) : Bys (w.alloc o) A n bs :=
 h.keep ((Only.refl (fun _ => False) w).alloc o) (fun _ _ _ h => h)
theorem Only.alloc0 {F : Nat → Prop} (w : World) (o : Obj) : Only F w (w.alloc o) := (Only.refl F w).alloc o
section
variable {w w' : World} {g : Nat} {t : TypeId} {x0 x1 x2 x3 x4 x5 : Value} {l : List Value}
theorem Blk.c0 (h : Blk w g t (x0 :: l)) : w.cell? ⟨g, 0, none⟩ = some x0 := (h.cell 0).trans rfl
theorem Blk.c1 (h : Blk w g t (x0 :: x1 :: l)) : w.cell? ⟨g, 1, none⟩ = some x1 := (h.cell 1).trans rfl
theorem Blk.c2 (h : Blk w g t (x0 :: x1 :: x2 :: l)) : w.cell? ⟨g, 2, none⟩ = some x2 := (h.cell 2).trans rfl
theorem Blk.c3 (h : Blk w g t (x0 :: x1 :: x2 :: x3 :: l)) : w.cell? ⟨g, 3, none⟩ = some x3 := (h.cell 3).trans rfl
theorem Blk.c4 (h : Blk w g t (x0 :: x1 :: x2 :: x3 :: x4 :: l)) : w.cell? ⟨g, 4, none⟩ = some x4 := (h.cell 4).trans rfl
theorem Blk.c5 (h : Blk w g t (x0 :: x1 :: x2 :: x3 :: x4 :: x5 :: l)) : w.cell? ⟨g, 5, none⟩ = some x5 := (h.cell 5).trans rfl
theorem Blk.under {cs : List Value} (h : Blk w g t cs) (hb : Below w.heap.size w w') : Blk w' g t cs :=
 (Only.of_below hb (fun _ => False)).blk h (fun h => h)
end
theorem cell_under {w w' : World} {p : Addr} {v : Value} (hb : Below w.heap.size w w') (h : w.cell? p = some v) : w'.cell? p = some v :=
 (hb.cell (World.block_lt_of_cell? w _ h)).trans h
def Byss (w : World) (A : Option Addr) (n : Nat) (xss : List (List Int)) : Prop :=
 xss.length = n ∧ (0 < n → ∃ b off : Nat, A = some ⟨b, off, none⟩ ∧ ∀ (j : Nat) (xs : List Int), xss[j]? = some xs → ∃ A' n' c', w.cell? ⟨b, off + j, none⟩ = some (.slice A' n' c') ∧ Bys w A' n' xs ∧ n' ≤ c')
theorem Byss.below {w w' : World} {A : Option Addr} {n : Nat} {xss : List (List Int)} (h : Byss w A n xss) (hb : Below w.heap.size w w') : Byss w' A n xss := by
 refine ⟨h.1, fun hn => ?_⟩
 obtain ⟨b, off, hA, hc⟩ := h.2 hn
 refine ⟨b, off, hA, fun j xs hj => ?_⟩
 obtain ⟨A', n', c', h1, h2, h3⟩ := hc j xs hj
 exact ⟨A', n', c', (hb.cell (p := ⟨b, off + j, none⟩) (World.block_lt_of_cell? w _ h1)).trans h1, h2.keep (Only.of_below hb (fun _ => False)) (fun _ _ _ h => h), h3⟩
def Mine (e : TypeId) (w0 w : World) (A : Option Addr) (n c : Nat) (bs : List Int) : Prop :=
 Below w0.heap.size w0 w ∧ n = bs.length ∧ ∃ G, Tail w e (.slice A n c) bs G ∧ ∀ i, G i → w0.heap.size ≤ i
def Fr (w0 : World) (A : Option Addr) : Prop := ∀ ad, A = some ad → w0.heap.size ≤ ad.block
def FrStep (w0 : World) (A : Option Addr) (m : Nat) (A' : Option Addr) : Prop := Fr w0 A ∨ 0 < m → Fr w0 A'
def MinePost (e : TypeId) (w0 : World) (A : Option Addr) (bs : List Int) (en : Ending) (w' : World) : Prop :=
 ∃ A' n c, en = .returned (.slice A' n c) ∧ Mine e w0 w' A' n c bs ∧ (Fr w0 A → Fr w0 A')
theorem Fr.none (w0 : World) : Fr w0 none := fun _ h => by cases h
theorem Fr.older {wa w0 : World} {A : Option Addr} (h : Fr w0 A) (hb : Below wa.heap.size wa w0) : Fr wa A := fun ad e => Nat.le_trans hb.size (h ad e)
theorem Fr.new (w : World) (w0 : World) (h : w0.heap.size ≤ w.heap.size) (o : Nat) : Fr w0 (some ⟨w.heap.size, o, Option.none⟩) := fun ad e => by injection e with e; rw [← e]; exact h
theorem MinePost.fresh {e : TypeId} {w0 w' : World} {bs : List Int} {en : Ending} (h : MinePost e w0 Option.none bs en w') : ∃ A' n c, en = .returned (.slice A' n c) ∧ Mine e w0 w' A' n c bs ∧ Fr w0 A' := by
 obtain ⟨A', n, c, h1, h2, h3⟩ := h
 exact ⟨A', n, c, h1, h2, h3 (Fr.none _)⟩
theorem MinePost.mk {e : TypeId} {w0 w' : World} {A A' : Option Addr} {n c : Nat} {bs : List Int} (h : Mine e w0 w' A' n c bs) (hf : Fr w0 A') : MinePost e w0 A bs (.returned (.slice A' n c)) w' := ⟨A', n, c, rfl, h, fun _ => hf⟩
section
variable {w0 w w' : World} {e : TypeId} {A : Option Addr} {n c : Nat} {bs : List Int}
theorem Mine.below (h : Mine e w0 w A n c bs) : Below w0.heap.size w0 w := h.1
theorem Mine.len (h : Mine e w0 w A n c bs) : bs.length = n := h.2.1.symm
theorem Mine.bys (h : Mine e w0 w A n c bs) : Bys w A n bs := by
 obtain ⟨_, rfl, G, h1, _⟩ := h
 obtain ⟨A', c', h2, h3, _⟩ := h1.read
 injection h2 with e1 e2 e3
 subst e1
 exact h3
theorem Mine.cap (h : Mine e w0 w A n c bs) : n ≤ c := by
 obtain ⟨_, rfl, G, h1, _⟩ := h
 obtain ⟨A', c', h2, _, h4⟩ := h1.read
 injection h2 with e1 e2 e3
 omega
theorem Mine.full (hb : Below w0.heap.size w0 w) (h : Bys w A n bs) : Mine e w0 w A n n bs := ⟨hb, h.1.symm, _, Tail.full h, fun _ h => h.elim⟩
theorem Mine.nil (hb : Below w0.heap.size w0 w) (A : Option Addr) : Mine e w0 w A 0 0 [] := Mine.full hb (Bys.nil w A)
theorem Mine.keep (h : Mine e w0 w A n c bs) (hb : Below w.heap.size w w') : Mine e w0 w' A n c bs := by
 obtain ⟨h0, hn, G, h1, h2⟩ := h
 exact ⟨h0.trans (hb.mono h0.size), hn, G, h1.below hb, h2⟩
theorem Mine.alloc (h : Mine e w0 w A n c bs) (o : Obj) : Mine e w0 (w.alloc o) A n c bs := h.keep ((Below.refl _ w).alloc (Nat.le_refl _) o)
theorem Mine.older {wa : World} (h : Mine e w0 w A n c bs) (hb : Below wa.heap.size wa w0) : Mine e wa w A n c bs := by
 obtain ⟨h0, hn, G, h1, h2⟩ := h
 have := hb.size
 exact ⟨hb.trans (h0.mono hb.size), hn, G, h1, fun i hi => Nat.le_trans hb.size (h2 i hi)⟩
theorem Mine.old {B : Option Addr} {m : Nat} {cs : List Int} (h : Mine e w0 w A n c bs) (hB : Bys w0 B m cs) : Bys w B m cs :=
 hB.keep (Only.of_below h.1 (fun _ => False)) (fun _ _ _ h => h)
theorem Bys.below {B : Option Addr} {m : Nat} {cs : List Int} (hB : Bys w B m cs) (h : Below w.heap.size w w') : Bys w' B m cs :=
 hB.keep (Only.of_below h (fun _ => False)) (fun _ _ _ h => h)
end
section
variable {P : Program}
theorem wpList_mine {w : World} {ops : Array Oper} {rest : List Oper} {o : Oper} {a : Act} {Q : Exit → Act → World → Prop} (hgd : o.guard = none) (s x : Operand) (t : TypeId)
  (ho : o.op = .call { callee := .builtin .append, args := #[s, x], argTypes := #[t, t] })
  (e : TypeId) (i : TypeInfo) (z : Value) (ht : P.underlying t = some (.slice e)) (hi : P.info? e = some i) (hz : i.zero = some z) (hsz : i.size = 1) (hby : i.bytes = 1) (hzs : z.cells.size = 1)
  (w0 : World) (A : Option Addr) (n c : Nat) (bs : List Int) (hs : a.eval s = .slice A n c) (h : Mine e w0 w A n c bs) (B : Option Addr) (m c' : Nat) (cs : List Int) (hx : a.eval x = .slice B m c') (hB : Bys w B m cs) (hlen : n + m ≤ 140737488355328)
  (hK : ∀ A' n' c' w', Mine e w0 w' A' n' c' (bs ++ cs) → FrStep w0 A m A' → wpList P ops Q rest (a.put o.dst (.slice A' n' c')) w') : wpList P ops Q (o :: rest) a w := by
 obtain ⟨h0, rfl, G, h1, h2⟩ := h
 refine wpList_append_tail hgd s x t ho e i z ht hi hz hsz hby hzs _ bs G hs h1 B m c' cs hx hB hlen fun A' c2 G' w' t' o' g' k' => ?_
 have hG : ∀ i, G' i → w0.heap.size ≤ i := fun i hi => by
  rcases g' i hi with h | h
  ·exact h2 i h
  ·exact Nat.le_trans h0.size h
 refine hK A' _ c2 w' ⟨h0.trans (o'.below h0.size (fun i hi hg => by have := h2 i hg; omega)), by rw [List.length_append, hB.1], G', t', hG⟩ fun hF => ?_
 rcases k' with ⟨hm, e1⟩ | hk
 ·injection e1 with e1 _ _
  subst e1
  rcases hF with hF | hF
  ·exact hF
  ·omega
 ·intro ad e1
  subst e1
  exact hG _ (hk ad.block rfl)
end
end Go.Proofs.YtjnpkcabkccaoaaGreat
