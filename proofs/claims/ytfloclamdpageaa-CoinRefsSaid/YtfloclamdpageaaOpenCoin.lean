/-
  From a reading of the arguments: a coin, an output, a reference.
-/
import Derived.Test.YtfloclamdpageaaOpenOut
import Derived.Test.YtfloclamdpageaaRefD
namespace Go.Proofs.Ytfloclamdpageaa
open Go.RowKit Go.WideShapes Go.ChangeShapes

section
variable {H : Type} {enc : TypeId × Value → H} {P : Program} {W : World}
theorem okWide_struct {r : Reach} {b0 : Nat} {v : Value} {t : TypeId} {fs : Array Field} (ht : P.underlying t = some (.struct fs)) (h : Value.okWide P W r b0 t v) : ∃ cs, v = .agg cs ∧ cs.size = P.cellsOf t := by
  simp only [Value.okWide, ht] at h
  obtain ⟨cs, h1, h2, _⟩ := h
  exact ⟨cs, h1, h2⟩
theorem field_at {fs : Array Field} {xs : List (DataW H × List MemPlace)} {cs : List Value} {n : Nat} (hg : ∀ (i : Nat) (f : Field), fs[i]? = some f → DataW.trod enc P W 0 (fun _ => true) true n f.type ((cs.drop f.offset).take (P.cellsOf f.type)) = xs[i]?)
    (hlen : xs.length = fs.size) (i : Nat) (f : Field) (s : Nat) (hi : fs[i]? = some f) (hc : P.cellsOf f.type = s) : ∃ y, DataW.trod enc P W 0 (fun _ => true) true n f.type ((cs.drop f.offset).take s) = some y := by
  have h1 := hg i f hi
  rw [hc] at h1
  have hil : i < fs.size := (Array.getElem?_eq_some_iff.1 hi).1
  rw [List.getElem?_eq_getElem (by omega)] at h1
  exact ⟨_, h1⟩
theorem bytes_of_array {t e : TypeId} {n fuel : Nat} {cs : List Value} {x : DataW H × List MemPlace} (ht : P.underlying t = some (.array n e)) (he : P.underlying e = some (.int .u8)) (hc : P.cellsOf e = 1) (hn : P.cellsOf t = n)
    (h : DataW.trod enc P W 0 (fun _ => true) true fuel t cs = some x) : ∃ bs : List Int, cs = bs.map (Value.int .u8) ∧ Byt bs ∧ bs.length = n := by
  obtain ⟨xs, m, _, _, hcl, hlen, hg⟩ := DataW.trod_array ht h
  rw [hn] at hcl
  have hex : ∀ i, i < n → ∃ b : Int, (0 ≤ b ∧ b ≤ 255) ∧ cs[i]? = some (.int .u8 b) := fun i hi => by
    have h1 := hg i hi
    rw [hc, Nat.mul_one, List.getElem?_eq_getElem (by omega), List.drop_eq_getElem_cons (by omega)] at h1
    obtain ⟨b, hb, hw⟩ := int_of_cells he h1
    exact ⟨b, wf8 hw, by rw [List.getElem?_eq_getElem (by omega), hb]⟩
  obtain ⟨bs, hl, hb⟩ := list_upto n hex
  refine ⟨bs, ?_, fun v hv => ?_, hl⟩
  · apply List.ext_getElem?
    intro i
    rw [List.getElem?_map]
    by_cases hi : i < n
    · rw [(hb i bs[i] (List.getElem?_eq_getElem (by omega))).2, List.getElem?_eq_getElem (by omega)]; rfl
    · rw [List.getElem?_eq_none (by omega), List.getElem?_eq_none (by omega)]; rfl
  · obtain ⟨i, hi⟩ := List.mem_iff_getElem?.1 hv
    exact (hb i v hi).1
end
section
variable {H : Type} {enc : TypeId × Value → H} {W : World}
theorem ref_of_cells {m : Nat} {cs : List Value} {y : DataW H × List MemPlace} (h : DataW.trod enc Try.prog W 0 (fun _ => true) true m 47 cs = some y) (hl : cs.length = 33) : ∃ a : RefD, cs = a.cells ∧ a.Fine := by
  obtain ⟨xs, n, _, _, _, hlen, hg⟩ := DataW.trod_struct Try.underlying47 h
  obtain ⟨y0, h0⟩ := field_at hg hlen 0 _ 32 rfl (by kernel_rfl)
  obtain ⟨y1, h1⟩ := field_at hg hlen 1 _ 1 rfl (by kernel_rfl)
  obtain ⟨bs, hbs, hby, hbl⟩ := bytes_of_array Try.underlying44 Try.underlying5 (by kernel_rfl) (by kernel_rfl) h0
  have e1 : (cs.drop 32).take 1 = [cs[32]'(by omega)] := by rw [List.drop_eq_getElem_cons (by omega)]; rfl
  have h1' : DataW.trod enc Try.prog W 0 (fun _ => true) true n 45 [cs[32]'(by omega)] = some y1 := by rw [← e1]; exact h1
  obtain ⟨k, hk, wk⟩ := int_of_cells Try.underlying45 h1'
  have hbs' : cs.take 32 = bs.map (Value.int .u8) := hbs
  refine ⟨⟨bs, k⟩, ?_, ⟨hbl, hby, (wfu32 wk).1, by have := (wfu32 wk).2; show k < _; omega⟩⟩
  show cs = bs.map (Value.int .u8) ++ [.int .u32 k]
  rw [← hbs', ← hk, ← List.take_succ_eq_append_getElem (by omega), List.take_of_length_le (by omega)]
theorem coin_of_cells {m : Nat} {cs : List Value} {y : DataW H × List MemPlace} (h : DataW.trod enc Try.prog W 0 (fun _ => true) true m 26 cs = some y) (hl : cs.length = 4) : ∃ a : CoinV, .agg cs.toArray = a.val ∧ a.Fine W := by
  match cs, hl with
  | [c0, c1, c2, c3], _ =>
    obtain ⟨xs, n, _, _, _, hlen, hg⟩ := DataW.trod_struct Try.underlying26 h
    obtain ⟨y0, h0⟩ := field_at hg hlen 0 _ 2 rfl (by kernel_rfl)
    obtain ⟨y1, h1⟩ := one_field hg hlen 1 _ c2 rfl (by kernel_rfl) rfl
    obtain ⟨y2, h2⟩ := one_field hg hlen 2 _ c3 rfl (by kernel_rfl) rfl
    obtain ⟨o, ho, fo⟩ := out_of_cells (cs := [c0, c1]) h0 rfl
    obtain ⟨k, rfl, wk⟩ := int_of_cells Try.underlying2 h1
    obtain ⟨b, hb, _⟩ := DataW.trod_bool Try.underlying4 h2
    injection hb with hb
    subst hb
    simp only [OutV.cells, List.cons.injEq, and_true] at ho
    obtain ⟨rfl, rfl⟩ := ho
    exact ⟨⟨o, k, b⟩, rfl, ⟨fo, wf64 wk⟩⟩
set_option maxRecDepth 100000 in
theorem cells_coin : Try.prog.cellsOf 26 = 4 := by kernel_rfl
set_option maxRecDepth 100000 in
theorem cells_out : Try.prog.cellsOf 24 = 2 := by kernel_rfl
set_option maxRecDepth 100000 in
theorem cells_ref : Try.prog.cellsOf 47 = 33 := by kernel_rfl
set_option maxRecDepth 100000 in
theorem open_coin {r : Reach} {b0 : Nat} {v : Value} {d : DataW H} {p : List MemPlace} (hv : Value.okWide Try.prog W r b0 26 v) (h : DataW.Trod enc Try.prog W 0 (fun _ => true) true 26 v d p) :
    ∃ a : CoinV, v = a.val ∧ a.Fine W := by
  obtain ⟨cs, rfl, hsz⟩ := okWide_struct Try.underlying26 hv
  have e := cells_coin
  obtain ⟨fuel, hf⟩ := h
  obtain ⟨a, h1, h2⟩ := coin_of_cells (cs := cs.toList) hf (by have h4 := hsz.trans e; clear hsz e; simpa using h4)
  exact ⟨a, by simpa using h1, h2⟩
set_option maxRecDepth 100000 in
theorem open_out {r : Reach} {b0 : Nat} {v : Value} {d : DataW H} {p : List MemPlace} (hv : Value.okWide Try.prog W r b0 24 v) (h : DataW.Trod enc Try.prog W 0 (fun _ => true) true 24 v d p) :
    ∃ a : OutV, v = .agg #[.int .i64 a.v, .slice a.A a.n a.c] ∧ a.Fine W := by
  obtain ⟨cs, rfl, hsz⟩ := okWide_struct Try.underlying24 hv
  have e := cells_out
  obtain ⟨fuel, hf⟩ := h
  obtain ⟨a, h1, h2⟩ := out_of_cells (cs := cs.toList) hf (by have h4 := hsz.trans e; clear hsz e; simpa using h4)
  refine ⟨a, ?_, h2⟩
  have : cs = a.cells.toArray := by rw [← h1]
  rw [this]; rfl
set_option maxRecDepth 100000 in
theorem open_ref {r : Reach} {b0 : Nat} {v : Value} {d : DataW H} {p : List MemPlace} (hv : Value.okWide Try.prog W r b0 47 v) (h : DataW.Trod enc Try.prog W 0 (fun _ => true) true 47 v d p) :
    ∃ a : RefD, v = .agg a.cells.toArray ∧ a.Fine := by
  obtain ⟨cs, rfl, hsz⟩ := okWide_struct Try.underlying47 hv
  have e := cells_ref
  obtain ⟨fuel, hf⟩ := h
  obtain ⟨a, h1, h2⟩ := ref_of_cells (cs := cs.toList) hf (by have h4 := hsz.trans e; clear hsz e; simpa using h4)
  refine ⟨a, ?_, h2⟩
  have : cs = a.cells.toArray := by rw [← h1]
  rw [this]
end
end Go.Proofs.Ytfloclamdpageaa
