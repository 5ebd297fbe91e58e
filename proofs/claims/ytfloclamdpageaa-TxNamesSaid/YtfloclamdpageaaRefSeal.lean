/-
  What is sealed for references and hashes: built, loaded, compared.
-/
import Derived.Test.YtfloclamdpageaaRefD
import Derived.Laws.StructEq
namespace Go.Proofs.Ytfloclamdpageaa
open Go.RowKit

theorem run_equalIn_row {P : Program} (w : World) (d : Nat) (t e : TypeId) (n : Nat) (k : IntKind) (ht : P.underlying t = some (.array n e)) (he : P.underlying e = some (.int k)) (hsz : ∀ w, (sizeOf e).run P w = .ok 1 w)
    (xs ys : List Int) (hx : xs.length = n) (hy : ys.length = n) :
    (Op.equalIn (d + 2) t (.agg (xs.map (Value.int k)).toArray) (.agg (ys.map (Value.int k)).toArray)).run P w = .ok (xs == ys) w := by
  have key : ((List.range xs.length).all fun i => xs.getD i 0 == ys.getD i 0) = (xs == ys) := by
    have : ∀ (xs ys : List Int), xs.length = ys.length → ((List.range xs.length).all fun i => xs.getD i 0 == ys.getD i 0) = (xs == ys) := by
      intro xs
      induction xs with
      | nil => intro ys h; cases ys with
        | nil => rfl
        | cons _ _ => simp at h
      | cons x xs ih =>
        intro ys h
        cases ys with
        | nil => simp at h
        | cons y ys =>
          have ih := ih ys (by simpa using h)
          rw [List.length_cons, List.range_succ_eq_map, List.all_cons, List.all_map]
          simp only [List.getD_cons_zero, Function.comp_def, List.getD_cons_succ, ih]
          simp [List.cons_beq_cons]
    exact this xs ys (hx.trans hy.symm)
  rw [← key, hx, List.range_eq_range', Op.equalIn]
  simp only [Sem.run_bind, run_underlying ht, Result.andThen_ok, hsz, Std.Legacy.Range.forIn_eq_forIn_range', Std.Legacy.Range.size, Nat.sub_zero, Nat.add_sub_cancel, Nat.div_one]
  have hl : ∀ i ∈ List.range' 0 n 1, i < n := fun i hi => by simpa using (List.mem_range'_1.1 hi).2
  generalize List.range' 0 n 1 = l at hl ⊢
  induction l with
  | nil => simp
  | cons i l ih =>
    have hi : i < n := hl i (by simp)
    have px : (part e (xs.map (Value.int k)).toArray (i * 1)).run P w = .ok (.int k (xs.getD i 0)) w := by
      simp [part, isAgg, run_underlying he, List.getD, List.getElem?_eq_getElem (show i < xs.length by omega)]
    have py : (part e (ys.map (Value.int k)).toArray (i * 1)).run P w = .ok (.int k (ys.getD i 0)) w := by
      simp [part, isAgg, run_underlying he, List.getD, List.getElem?_eq_getElem (show i < ys.length by omega)]
    have pe : (Op.equalIn (d + 1) e (.int k (xs.getD i 0)) (.int k (ys.getD i 0))).run P w = .ok (xs.getD i 0 == ys.getD i 0) w :=
      run_equalIn_int w d e k k _ _ he
    simp only [List.forIn_cons, Sem.run_bind, px, py, pe, Result.andThen_ok, List.all_cons]
    cases hb : (xs.getD i 0 == ys.getD i 0)
    · simp
    · simp only [Bool.not_true, Bool.false_eq_true, if_false, Sem.run_pure, Result.andThen_ok, Bool.true_and]
      exact ih fun j hj => hl j (by simp [hj])
def zeroR : RefD := ⟨List.replicate 32 0, 0⟩
theorem zeroR_fine : zeroR.Fine := ⟨by simp [zeroR], fun x hx => by have := List.eq_of_mem_replicate hx; omega, by decide, by decide⟩
set_option maxRecDepth 100000 in
theorem infoRef : (Try.prog.info? 47).map (fun i => i.zero.map (fun z => z.cells.size)) = some (some (32 + 1)) := by kernel_rfl
set_option maxRecDepth 100000 in
theorem zeroRef : (Try.prog.info? 47).map (·.zero) = some (some (.agg zeroR.cells.toArray)) := by kernel_rfl
set_option maxRecDepth 100000 in
theorem isRef : (Try.prog.info? 47).map (·.size) = some 33 := by kernel_rfl
set_option maxRecDepth 100000 in
theorem isHash : (Try.prog.info? 44).map (·.size) = some 32 := by kernel_rfl
theorem isU32 : (Try.prog.info? 45).map (·.size) = some 1 := by kernel_rfl
theorem isU8 : (Try.prog.info? 5).map (·.size) = some 1 := by kernel_rfl
/-! #### Built -/
def mkRef (parts : Array (Nat × Value)) : Sem Value := Instr.build 47 parts
theorem mkRef_fold (parts : Array (Nat × Value)) : Instr.build 47 parts = mkRef parts := rfl
theorem mkRef_run (bs : List Int) (n : Int) (hl : bs.length = 32) (w : World) : (mkRef #[(0, .agg (bs.map (Value.int .u8)).toArray), (1, .int .u32 n)]).run Try.prog w = .ok (.agg (⟨bs, n⟩ : RefD).cells.toArray) w :=
  run_build2 47 _ _ 32 1 Try.underlying47 rfl rfl isHash isU32 infoRef (.agg (bs.map (Value.int .u8)).toArray) (.int .u32 n) (bs.map (Value.int .u8)) [.int .u32 n] rfl rfl (by simpa using hl) rfl w
set_option maxRecDepth 100000 in
theorem mkRef_zero (w : World) : (mkRef #[]).run Try.prog w = .ok (.agg zeroR.cells.toArray) w := by kernel_rfl
/-! #### Loaded -/
def loadRef (a : Addr) : Sem Value := loadVar 47 a
theorem loadRef_fold (a : Addr) : loadVar 47 a = loadRef a := rfl
theorem loadRef_run (w : World) (b o : Nat) (r : RefD) (h : w.rangeAt b o r.cells) (hf : r.Fine) : (loadRef ⟨b, o, none⟩).run Try.prog w = .ok (.agg r.cells.toArray) w :=
  run_loadVar_mid w b o _ r.cells _ h Try.underlying47 rfl (by rw [isRef, RefD.cells_len hf])
def loadHash (a : Addr) : Sem Value := loadVar 44 a
theorem loadHash_fold (a : Addr) : loadVar 44 a = loadHash a := rfl
theorem loadHash_run (w : World) (b o : Nat) (bs : List Int) (h : w.rangeAt b o (bs.map (Value.int .u8))) (hl : bs.length = 32) : (loadHash ⟨b, o, none⟩).run Try.prog w = .ok (.agg (bs.map (Value.int .u8)).toArray) w :=
  run_loadVar_mid w b o _ (bs.map (Value.int .u8)) _ h Try.underlying44 rfl (by rw [isHash, List.length_map, hl])
/-! #### Compared -/
def eqlRef (x y : Value) : Sem Value := binOp .eql 47 x y
def neqRef (x y : Value) : Sem Value := binOp .neq 47 x y
theorem eqlRef_fold (x y : Value) : binOp .eql 47 x y = eqlRef x y := rfl
theorem neqRef_fold (x y : Value) : binOp .neq 47 x y = neqRef x y := rfl
theorem part_row {P : Program} {ty e : TypeId} {n : Nat} (ht : P.underlying ty = some (.array n e)) (hs : (P.info? ty).map (·.size) = some n) (w : World) (xs ys : List Value) (hl : xs.length = n) : (part ty (xs ++ ys).toArray 0).run P w = .ok (.agg xs.toArray) w := by
  have h1 : (isAgg ty).run P w = .ok true w := by simp [isAgg, run_underlying ht]
  unfold part
  simp only [Sem.run_bind, h1, Result.andThen_ok, if_true, run_size hs, Sem.run_pure]
  congr 2
  apply Array.ext'
  rw [Array.toList_extract]
  simp only [List.extract_eq_take_drop, List.drop_zero, Nat.zero_add, Nat.sub_zero]
  rw [List.take_append_of_le_length (by omega), List.take_of_length_le (by omega)]
theorem part_one {P : Program} {ty : TypeId} {k : IntKind} (ht : P.underlying ty = some (.int k)) (w : World) (xs : List Value) (n : Nat) (v : Value) (hl : xs.length = n) : (part ty (xs ++ [v]).toArray n).run P w = .ok v w := by
  have h1 : (isAgg ty).run P w = .ok false w := by simp [isAgg, run_underlying ht]
  have h2 : (xs ++ [v]).toArray[n]? = some v := by subst hl; simp
  unfold part
  simp only [Sem.run_bind, h1, Result.andThen_ok, Bool.false_eq_true, if_false, h2, Sem.run_pure]
theorem refEq (w : World) (d : Nat) (a b : RefD) (ha : a.id.length = 32) (hb : b.id.length = 32) : (Op.equalIn (d + 3) 47 (.agg a.cells.toArray) (.agg b.cells.toArray)).run Try.prog w = .ok (decide (a.id = b.id ∧ a.at_ = b.at_)) w := by
  have hp : Try.prog.stoodInHeld 47 = false := by kernel_rfl
  have e1 := run_equalIn_row (P := Try.prog) w d 44 5 32 .u8 Try.underlying44 Try.underlying5 (fun w => run_size isU8 w) a.id b.id ha hb
  have e2 : (Op.equalIn (d + 2) 45 (.int .u32 a.at_) (.int .u32 b.at_)).run Try.prog w = .ok (a.at_ == b.at_) w := run_equalIn_int (P := Try.prog) w (d + 1) 45 .u32 .u32 a.at_ b.at_ Try.underlying45
  have pa0 := part_row (ty := 44) Try.underlying44 isHash w (a.id.map (Value.int .u8)) [.int .u32 a.at_] (by simpa using ha)
  have pb0 := part_row (ty := 44) Try.underlying44 isHash w (b.id.map (Value.int .u8)) [.int .u32 b.at_] (by simpa using hb)
  have pa1 := part_one (ty := 45) Try.underlying45 w (a.id.map (Value.int .u8)) 32 (.int .u32 a.at_) (by simpa using ha)
  have pb1 := part_one (ty := 45) Try.underlying45 w (b.id.map (Value.int .u8)) 32 (.int .u32 b.at_) (by simpa using hb)
  rw [run_equalIn_agg w (d + 2) 47 _ _ (by simp only [Program.fieldsOf, Try.underlying47]) hp]
  simp only [Program.fieldsOf, Try.underlying47, Op.eqFields]
  rw [if_pos (by decide), if_pos (by decide)]
  simp only [Sem.run_bind, RefD.cells]
  rw [pa0, Result.andThen_ok, pb0, Result.andThen_ok, e1, Result.andThen_ok]
  by_cases h1 : a.id = b.id
  · rw [if_neg (by simp [h1]), Sem.run_bind, pa1, Result.andThen_ok, Sem.run_bind, pb1, Result.andThen_ok, Sem.run_bind, e2, Result.andThen_ok]
    by_cases h2 : a.at_ = b.at_
    · rw [if_neg (by simp [h2]), Sem.run_pure, decide_eq_true (And.intro h1 h2)]
    · rw [if_pos (by simp [h2]), Sem.run_pure, decide_eq_false (fun h => h2 h.2)]
  · rw [if_pos (by simp [h1]), Sem.run_pure, decide_eq_false (fun h => h1 h.1)]
theorem eqlRef_run (a b : RefD) (ha : a.Fine) (hb : b.Fine) (w : World) : (eqlRef (.agg a.cells.toArray) (.agg b.cells.toArray)).run Try.prog w = .ok (.bool (decide (a.id = b.id ∧ a.at_ = b.at_))) w := by
  unfold eqlRef
  rw [run_eql_struct, refEq w 9997 a b ha.len hb.len]
  rfl
theorem neqRef_run (a b : RefD) (ha : a.Fine) (hb : b.Fine) (w : World) : (neqRef (.agg a.cells.toArray) (.agg b.cells.toArray)).run Try.prog w = .ok (.bool (!decide (a.id = b.id ∧ a.at_ = b.at_))) w := by
  unfold neqRef
  rw [run_neq_struct, refEq w 9997 a b ha.len hb.len]
  rfl
set_option maxRecDepth 100000 in
theorem guardRef : Try.prog.eqGuardType Try.prog.depth 47 = false := by kernel_rfl
end Go.Proofs.Ytfloclamdpageaa
