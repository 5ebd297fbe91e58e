/-
  The slab laws: what all share; the chapter's example; the names.
-/
import Derived.Test.YtjipgimnhkliaaaSlabF
namespace Go.Proofs.Ytjipgimnhkliaaa
open Go.RowKit

/-! ### Arrays of integers held against each other -/
theorem all_range_eq : ∀ (xs ys : List Int), xs.length = ys.length → ((List.range xs.length).all fun i => xs.getD i 0 == ys.getD i 0) = (xs == ys)
  | [], [], _ => rfl
  | x :: xs, y :: ys, h => by
    have ih := all_range_eq xs ys (by simpa using h)
    rw [List.length_cons, List.range_succ_eq_map, List.all_cons, List.all_map]
    simp only [List.getD_cons_zero, Function.comp_def, List.getD_cons_succ, ih]
    simp [List.cons_beq_cons]
  | [], _ :: _, h => by simp at h
  | _ :: _, [], h => by simp at h
theorem run_equalIn_ints {P : Program} (w : World) (d : Nat) (t e : TypeId) (n : Nat) (k : IntKind) (ht : P.underlying t = some (.array n e)) (he : P.underlying e = some (.int k)) (hsz : ∀ w, (sizeOf e).run P w = .ok 1 w)
    (xs ys : List Int) (hx : xs.length = n) (hy : ys.length = n) :
    (Op.equalIn (d + 2) t (.agg (xs.map (Value.int k ·)).toArray) (.agg (ys.map (Value.int k ·)).toArray)).run P w = .ok (xs == ys) w := by
  rw [← all_range_eq xs ys (hx.trans hy.symm), hx, List.range_eq_range', Op.equalIn]
  simp only [Sem.run_bind, run_underlying ht, Result.andThen_ok, hsz, Std.Legacy.Range.forIn_eq_forIn_range', Std.Legacy.Range.size, Nat.sub_zero, Nat.add_sub_cancel, Nat.div_one]
  have hl : ∀ i ∈ List.range' 0 n 1, i < n := fun i hi => by simpa using (List.mem_range'_1.1 hi).2
  generalize List.range' 0 n 1 = l at hl ⊢
  induction l with
  | nil => simp
  | cons i l ih =>
    have hi : i < n := hl i (by simp)
    have px : (part e (xs.map (Value.int k ·)).toArray (i * 1)).run P w = .ok (.int k (xs.getD i 0)) w := by
      simp [part, isAgg, run_underlying he, List.getD, List.getElem?_eq_getElem (show i < xs.length by omega)]
    have py : (part e (ys.map (Value.int k ·)).toArray (i * 1)).run P w = .ok (.int k (ys.getD i 0)) w := by
      simp [part, isAgg, run_underlying he, List.getD, List.getElem?_eq_getElem (show i < ys.length by omega)]
    have pe : (Op.equalIn (d + 1) e (.int k (xs.getD i 0)) (.int k (ys.getD i 0))).run P w = .ok (xs.getD i 0 == ys.getD i 0) w :=
      run_equalIn_int w d e k k _ _ he
    simp only [List.forIn_cons, Sem.run_bind, px, py, pe, Result.andThen_ok, List.all_cons]
    cases hb : (xs.getD i 0 == ys.getD i 0)
    · simp
    · simp only [Bool.not_true, Bool.false_eq_true, if_false, Sem.run_pure, Result.andThen_ok, Bool.true_and]
      exact ih fun j hj => hl j (by simp [hj])

/-! ### What is sealed for a slab -/
def eqlSlab (x y : Value) : Sem Value := binOp .eql 33 x y
def neqSlab (x y : Value) : Sem Value := binOp .neq 33 x y
theorem eqlSlab_fold (x y : Value) : binOp .eql 33 x y = eqlSlab x y := rfl
theorem neqSlab_fold (x y : Value) : binOp .neq 33 x y = neqSlab x y := rfl
theorem size5 (w : World) : (sizeOf 5).run Try.prog w = .ok 1 w := run_size iszByte w
theorem eqlSlab_run (a b : Slb) (ha : a.length = 128) (hb : b.length = 128) (w : World) : (eqlSlab (.agg (enc a).toArray) (.agg (enc b).toArray)).run Try.prog w = .ok (.bool (a == b)) w := by
  unfold eqlSlab
  rw [run_eql_struct]
  have := run_equalIn_ints (P := Try.prog) w 9998 33 5 128 .u8 Try.underlying33 Try.underlying5 size5 a b ha hb
  unfold enc
  rw [this]
  rfl
theorem neqSlab_run (a b : Slb) (ha : a.length = 128) (hb : b.length = 128) (w : World) : (neqSlab (.agg (enc a).toArray) (.agg (enc b).toArray)).run Try.prog w = .ok (.bool (!(a == b))) w := by
  unfold neqSlab
  rw [run_neq_struct]
  have := run_equalIn_ints (P := Try.prog) w 9998 33 5 128 .u8 Try.underlying33 Try.underlying5 size5 a b ha hb
  unfold enc
  rw [this]
  rfl
theorem guardSlab : Try.prog.eqGuardType Try.prog.depth 33 = false := by kernel_rfl
def slab1 (v : Int) : Slb := v :: List.replicate 127 0
theorem slab1_length (v : Int) : (slab1 v).length = 128 := by simp [slab1]
theorem mkSlab_run1 (v : Int) (w : World) : (mkSlab #[(0, .int .u8 v)]).run Try.prog w = .ok (.agg (enc (slab1 v)).toArray) w := by kernel_rfl

/-! ### A law's own device -/
structure St (w0 w : World) (b : Nat) (F : Nat → Prop) (d : Dev) : Prop where
  rep : DevRep w b F d
  below : Below w0.heap.size w0 w
  ge : ∀ i, F i → w0.heap.size ≤ i
section
variable {w0 w w' : World} {b : Nat} {F : Nat → Prop} {d d' : Dev} {r : Value} {e : Ending}
theorem St.next (h : St w0 w b F d) (hp : DevPost w b F d' r e w') : e = .returned r ∧ ∃ F', St w0 w' b F' d' ∧ Only F w w' ∧ ∀ i, F' i → F i ∨ w.heap.size ≤ i := by
  obtain ⟨he, F', hr, ho, hg⟩ := hp
  refine ⟨he, F', ⟨hr, h.below.trans (ho.below h.below.size (fun i hi hf => by have := h.ge i hf; omega)), fun i hi => ?_⟩, ho, hg⟩
  rcases hg i hi with h1 | h1
  · exact h.ge i h1
  · have := h.below.size; omega
theorem St.other (h : St w0 w b F d) {G : Nat → Prop} (ho : Only G w w') (hd : ∀ i, F i → ¬ G i) (hG : ∀ i, G i → w0.heap.size ≤ i) : St w0 w' b F d :=
  ⟨h.rep.keep ho hd, h.below.trans (ho.below h.below.size (fun i hi hg => by have := hG i hg; omega)), h.ge⟩
theorem St.alloc (h : St w0 w b F d) (o : Obj) : St w0 (w.alloc o) b F d := h.other (G := fun _ => False) ((Only.refl _ _).alloc o) (fun _ _ h => h) (fun _ h => h.elim)
theorem St.under (h : St w0 w b F d) (hb : Below w.heap.size w w') : St w0 w' b F d := h.other (G := fun _ => False) (Only.of_below hb _) (fun _ _ h => h) (fun _ h => h.elim)
theorem St.lt (h : St w0 w b F d) : ∀ i, F i → i < w.heap.size := h.rep.lt
theorem St.keepRep (h : St w0 w b F d) (h' : DevRep w' b F d') (ho : Only F w w') : St w0 w' b F d' :=
  ⟨h', h.below.trans (ho.below h.below.size (fun i hi hf => by have := h.ge i hf; omega)), h.ge⟩
end
theorem St.fresh {w : World} {n : Int} {e : Ending} {w' : World} (hp : NewPost w n e w') : ∃ b F, e = .returned (.pointer (some ⟨b, 0, none⟩)) ∧ St w w' b F (newDev n) := by
  obtain ⟨b, F, he, hr, hb, hg⟩ := hp
  exact ⟨b, F, he, hr, hb, hg⟩

theorem lay_whole {w : World} {g : Nat} {t : TypeId} {cs vs : List Value} (h : Blk w g t (lay cs 0 vs)) (hl : cs.length = vs.length) : w.rangeAt g 0 vs := by
  rw [lay_all _ _ hl] at h
  exact h.whole
theorem bysTwo (w : World) (x y : Int) (t : TypeId) (hx : 0 ≤ x ∧ x ≤ 255) (hy : 0 ≤ y ∧ y ≤ 255) : Bys (w.alloc (.cells #[.int .u8 x, .int .u8 y] t)) (some ⟨w.heap.size, 0, none⟩) 2 [x, y] := by
  refine ⟨rfl, by simp [hx, hy], fun _ => ⟨w.heap.size, 0, rfl, fun j v hv => ?_⟩⟩
  have hb : Blk (w.alloc (.cells #[.int .u8 x, .int .u8 y] t)) w.heap.size t [.int .u8 x, .int .u8 y] := Blk.new w t _
  rw [hb.cell]
  have : ([x, y].map (Value.int .u8 ·))[j]? = some (.int .u8 v) := by rw [List.getElem?_map, hv]; rfl
  simpa using this
theorem write_few (d : Dev) (a : Int) (s : Slb) : (d.write a s).1.written.length ≤ d.written.length + 1 := by
  unfold Dev.write
  split
  · split
    · simp [Dev.after]
    · simp
  · simp
theorem read_128 {d : Dev} (h : d.Good) (a : Int) : (d.read a).1.length = 128 := by
  unfold Dev.read
  split
  · rename_i hh
    simp only [Dev.has, Bool.and_eq_true, decide_eq_true_eq] at hh
    have hl : a.toNat < d.seen.length := by rw [h.seen]; omega
    simp only [List.getElem?_eq_getElem hl]
    exact h.s128 _ (List.getElem_mem hl)
  · exact zeroS_length

attribute [local go_sem ↓] mkSlab_fold eqlSlab_fold neqSlab_fold loadSlab_fold
attribute [local go_sem] mkSlab_run mkSlab_run1 guardSlab

set_option maxHeartbeats 1000000 in
set_option maxRecDepth 100000 in
theorem alive_any (w : World) : Calls Try.prog 14 #[] w fun e w' => e = .returned (.bool true) ∧ Below w.heap.size w w' := by
  go_enter Try.func14, Try.ntmps14
  go_wp2_with (first
    | (go_at_call 15; refine (new_any _ _).mono ?_; rintro e w1 hn; obtain ⟨b, F, rfl, s1⟩ := St.fresh hn; clear hn)
    | (go_at_call 23; refine (size_any _ b F _ s1.rep).mono ?_; rintro e w' ⟨rfl, rfl⟩))
  generalize hd1 : newDev 2 = d1 at *
  have HD1 := hide hd1
  have l1 : d1.written.length ≤ 0 := by rw [← hd1]; simp [newDev]
  clear hd1
  refine (write_any _ b F d1 _ (slab1 1) s1.rep (slab1_length 1) (by omega)).mono ?_
  rintro e w2 hp
  obtain ⟨rfl, F2, s2, o2, g2⟩ := s1.next hp
  clear hp
  have l2 := write_few d1 1 (slab1 1)
  generalize hd2 : d1.write 1 (slab1 1) = d2 at *
  have HD2 := hide hd2
  clear hd2
  go_wp2_with fail
  refine (write_any _ b F2 d2.1 _ (slab1 2) s2.rep (slab1_length 2) (by omega)).mono ?_
  rintro e w3 hp
  obtain ⟨rfl, F3, s3, o3, g3⟩ := s2.next hp
  clear hp
  have l3 := write_few d2.1 1 (slab1 2)
  generalize hd3 : d2.1.write 1 (slab1 2) = d3 at *
  have HD3 := hide hd3
  clear hd3
  go_wp2_with fail
  have hlt3 := s3.lt
  refine (restart_any _ b F3 d3.1 _ _ _ [128, 0] (s3.alloc _).rep (by omega) (bysTwo w3 128 0 _ (by decide) (by decide)) (fun _ ad e => by injection e with e; subst e; exact fun hf => absurd (hlt3 _ hf) (by simp)) (by decide)).mono ?_
  rintro e w4 hp
  obtain ⟨rfl, F4, s4, o4, g4⟩ := (s3.alloc _).next hp
  clear hp
  have hr : (d3.1.restart [128, 0]).read 1 = (slab1 1, 0) := by rw [← HD3.out, ← HD2.out, ← HD1.out]; decide +kernel
  generalize hd4 : d3.1.restart [128, 0] = d4 at *
  clear hd4
  have I1 := hide (isz33' (slab1 1) (slab1_length 1))
  have hu := hide Try.underlying33
  go_wp2_with (first
    | (go_at_call 19; refine (read_any _ b F4 d4 _ s4.rep).mono ?_; rintro e w5 ⟨rfl, hb5⟩; rw [hr])
    | (refine wpList_alloc_agg rfl 33 rfl (enc zeroS) zero33 ?_; simp only [Act.put, List.setIfInBounds_toArray, List.set_cons_zero, List.set_cons_succ])
    | (refine wpList_store_blk rfl 33 _ _ rfl w5.heap.size 0 33 (enc zeroS) (enc (slab1 1)) (by rfl) (by rfl) (Blk.new w5 _ _) (Nat.le_of_eq (by rw [enc_length, enc_length, slab1_length, zeroS_length])) I1.out (enc_one _) ?_; intro w6 o6 z6 b6; simp only [Act.put]; have hl6 := loadSlab_run w6 w5.heap.size 0 (slab1 1) (lay_whole b6 (by rw [enc_length, enc_length, slab1_length, zeroS_length])) (slab1_length 1); have he6 := eqlSlab_run (slab1 1) (slab1 1) (slab1_length 1) (slab1_length 1) w6))
  go_ret
  refine ⟨by simp, ?_⟩
  have hb6 : Below w5.heap.size w5 w6 := ((Below.refl _ _).alloc (Nat.le_refl _) _).trans (o6.below (by simp) (fun i hi => by omega))
  exact (s4.below.trans (hb5.mono s4.below.size)).trans (hb6.mono (Nat.le_trans s4.below.size hb5.size))
end Go.Proofs.Ytjipgimnhkliaaa
