import Derived.Test.YtbpmcnfmgaolnaaPk12
import Derived.Test.YtbpmcnfmgaolnaaPk17
/-
  From a reading of the arguments: a head, a block, a row of hashes.
-/
namespace Go.Proofs.Ytbpmcnfmgaolnaa
open Go.RowKit Go.WideShapes Go.ChangeShapes

section
variable {H : Type} {enc : TypeId × Value → H} {W : World}
theorem cut_at {α : Type} (l : List α) (i k : Nat) : l.drop i = (l.drop i).take k ++ l.drop (i + k) := by rw [← List.drop_drop, List.take_append_drop]
theorem one_at {α : Type} (l : List α) (i : Nat) (h : i < l.length) : (l.drop i).take 1 = [l[i]] := by rw [List.drop_eq_getElem_cons h]; rfl
theorem head_of_cells {m : Nat} {cs : List Value} {y : DataW H × List MemPlace} (h : DataW.trod enc Try.prog W 0 (fun _ => true) true m 33 cs = some y) (hl : cs.length = 68) : ∃ a : HeadD, cs = a.cells ∧ a.Fine := by
  obtain ⟨xs, n, _, _, _, hlen, hg⟩ := DataW.trod_struct Try.underlying33 h
  obtain ⟨y0, h0⟩ := field_at hg hlen 0 _ 1 rfl (by kernel_rfl)
  obtain ⟨y1, h1⟩ := field_at hg hlen 1 _ 32 rfl (by kernel_rfl)
  obtain ⟨y2, h2⟩ := field_at hg hlen 2 _ 32 rfl (by kernel_rfl)
  obtain ⟨y3, h3⟩ := field_at hg hlen 3 _ 1 rfl (by kernel_rfl)
  obtain ⟨y4, h4⟩ := field_at hg hlen 4 _ 1 rfl (by kernel_rfl)
  obtain ⟨y5, h5⟩ := field_at hg hlen 5 _ 1 rfl (by kernel_rfl)
  have g0 : DataW.trod enc Try.prog W 0 (fun _ => true) true n 27 ((cs.drop 0).take 1) = some y0 := h0
  have g1 : DataW.trod enc Try.prog W 0 (fun _ => true) true n 31 ((cs.drop 1).take 32) = some y1 := h1
  have g2 : DataW.trod enc Try.prog W 0 (fun _ => true) true n 31 ((cs.drop 33).take 32) = some y2 := h2
  have g3 : DataW.trod enc Try.prog W 0 (fun _ => true) true n 27 ((cs.drop 65).take 1) = some y3 := h3
  have g4 : DataW.trod enc Try.prog W 0 (fun _ => true) true n 27 ((cs.drop 66).take 1) = some y4 := h4
  have g5 : DataW.trod enc Try.prog W 0 (fun _ => true) true n 27 ((cs.drop 67).take 1) = some y5 := h5
  clear h0 h1 h2 h3 h4 h5
  obtain ⟨ps, hps, pby, pl⟩ := bytes_of_array Try.underlying31 Try.underlying5 (by kernel_rfl) (by kernel_rfl) g1
  obtain ⟨rs, hrs, rby, rl⟩ := bytes_of_array Try.underlying31 Try.underlying5 (by kernel_rfl) (by kernel_rfl) g2
  rw [one_at cs 0 (by omega)] at g0
  rw [one_at cs 65 (by omega)] at g3
  rw [one_at cs 66 (by omega)] at g4
  rw [one_at cs 67 (by omega)] at g5
  obtain ⟨v, hv, wv⟩ := int_of_cells Try.underlying27 g0
  obtain ⟨t, ht, wt⟩ := int_of_cells Try.underlying27 g3
  obtain ⟨b, hb, wb⟩ := int_of_cells Try.underlying27 g4
  obtain ⟨k, hk, wk⟩ := int_of_cells Try.underlying27 g5
  have hps' : (cs.drop 1).take 32 = ps.map (Value.int .u8) := hps
  have hrs' : (cs.drop 33).take 32 = rs.map (Value.int .u8) := hrs
  have u (x : Int) (hx : (Lit.int .u32 x).wf = true) : 0 ≤ x ∧ x ≤ 4294967295 := ⟨(wfu32 hx).1, by have := (wfu32 hx).2; omega⟩
  refine ⟨⟨v, ps, rs, t, b, k⟩, ?_, ⟨u v wv, pl, pby, rl, rby, u t wt, u b wb, u k wk⟩⟩
  show cs = .int .u32 v :: (ps.map (Value.int .u8) ++ (rs.map (Value.int .u8) ++ [.int .u32 t, .int .u32 b, .int .u32 k]))
  rw [← hps', ← hrs', ← hv, ← ht, ← hb, ← hk]
  have c0 := cut_at cs 0 1
  have c1 := cut_at cs 1 32
  have c2 := cut_at cs 33 32
  have c3 := cut_at cs 65 1
  have c4 := cut_at cs 66 1
  have c5 := cut_at cs 67 1
  rw [one_at cs 0 (by omega)] at c0
  rw [one_at cs 65 (by omega)] at c3
  rw [one_at cs 66 (by omega)] at c4
  rw [one_at cs 67 (by omega)] at c5
  have c6 : cs.drop (67 + 1) = [] := List.drop_eq_nil_of_le (by omega)
  rw [c6] at c5
  rw [show 66 + 1 = 67 from rfl, c5] at c4
  rw [show 65 + 1 = 66 from rfl, c4] at c3
  rw [show 33 + 32 = 65 from rfl, c3] at c2
  rw [show 1 + 32 = 33 from rfl, c2] at c1
  rw [show 0 + 1 = 1 from rfl, c1] at c0
  exact c0
set_option maxRecDepth 100000 in
theorem cells_head : Try.prog.cellsOf 33 = 68 := by kernel_rfl
set_option maxRecDepth 100000 in
theorem cells_blk : Try.prog.cellsOf 40 = 69 := by kernel_rfl
set_option maxRecDepth 100000 in
theorem open_head {r : Reach} {b0 : Nat} {v : Value} {d : DataW H} {p : List MemPlace} (hv : Value.okWide Try.prog W r b0 33 v) (h : DataW.Trod enc Try.prog W 0 (fun _ => true) true 33 v d p) :
    ∃ a : HeadD, v = .agg a.cells.toArray ∧ a.Fine := by
  obtain ⟨cs, rfl, hsz⟩ := okWide_struct Try.underlying33 hv
  have e := cells_head
  obtain ⟨fuel, hf⟩ := h
  obtain ⟨a, h1, h2⟩ := head_of_cells (cs := cs.toList) hf (by have h4 := hsz.trans e; clear hsz e; simpa using h4)
  exact ⟨a, by rw [← h1], h2⟩
theorem txs_of_reading {fuel : Nat} {V : Value} {x : DataW H × List MemPlace} (h : DataW.trod enc Try.prog W 0 (fun _ => true) true fuel 38 [V] = some x) :
    ∃ (A : Option Addr) (n c : Nat) (xs : List TxV), V = .slice A n c ∧ TxsIn W A n xs ∧ n ≤ c ∧ c ≤ maxLen :=
  rows_of_reading Try.underlying38 (by kernel_rfl) (by decide) (fun _ _ _ ht hl => let ⟨a, h1, h2, _⟩ := tx_of_cells ht hl; ⟨a, h1, h2⟩) h
theorem blk_of_cells {m : Nat} {cs : List Value} {y : DataW H × List MemPlace} (h : DataW.trod enc Try.prog W 0 (fun _ => true) true m 40 cs = some y) (hl : cs.length = 69) : ∃ a : BlkV, cs = a.cells ∧ a.Fine W ∧ a.c ≤ maxLen := by
  obtain ⟨xs, n, _, _, _, hlen, hg⟩ := DataW.trod_struct Try.underlying40 h
  obtain ⟨y0, h0⟩ := field_at hg hlen 0 _ 68 rfl (by kernel_rfl)
  obtain ⟨y1, h1⟩ := field_at hg hlen 1 _ 1 rfl (by kernel_rfl)
  have g0 : DataW.trod enc Try.prog W 0 (fun _ => true) true n 33 ((cs.drop 0).take 68) = some y0 := h0
  have g1 : DataW.trod enc Try.prog W 0 (fun _ => true) true n 38 ((cs.drop 68).take 1) = some y1 := h1
  clear h0 h1
  rw [one_at cs 68 (by omega)] at g1
  obtain ⟨hd, hhd, fh⟩ := head_of_cells g0 (by rw [List.length_take, List.length_drop]; omega)
  obtain ⟨A, k, c, ts, hA, hT, hk, hc⟩ := txs_of_reading g1
  refine ⟨⟨hd, A, k, c, ts⟩, ?_, ⟨fh, hT, hk⟩, hc⟩
  show cs = hd.cells ++ [.slice A k c]
  rw [← hhd, ← hA]
  have c0 := cut_at cs 0 68
  have c1 := cut_at cs 68 1
  rw [one_at cs 68 (by omega)] at c1
  have c6 : cs.drop (68 + 1) = [] := List.drop_eq_nil_of_le (by omega)
  rw [c6] at c1
  rw [show 0 + 68 = 68 from rfl, c1] at c0
  exact c0
set_option maxRecDepth 100000 in
theorem open_blk {r : Reach} {b0 : Nat} {v : Value} {d : DataW H} {p : List MemPlace} (hv : Value.okWide Try.prog W r b0 40 v) (h : DataW.Trod enc Try.prog W 0 (fun _ => true) true 40 v d p) :
    ∃ a : BlkV, v = .agg a.cells.toArray ∧ a.Fine W ∧ a.c ≤ maxLen := by
  obtain ⟨cs, rfl, hsz⟩ := okWide_struct Try.underlying40 hv
  have e := cells_blk
  obtain ⟨fuel, hf⟩ := h
  obtain ⟨a, h1, h2⟩ := blk_of_cells (cs := cs.toList) hf (by have h4 := hsz.trans e; clear hsz e; simpa using h4)
  exact ⟨a, by rw [← h1], h2⟩
theorem hashes_of_reading {fuel : Nat} {V : Value} {x : DataW H × List MemPlace} (h : DataW.trod enc Try.prog W 0 (fun _ => true) true fuel 65 [V] = some x) :
    ∃ (A : Option Addr) (n c : Nat) (xs : List (List Int)), V = .slice A n c ∧ HashesIn W A n xs ∧ n ≤ c ∧ c ≤ maxLen :=
  rows_of_reading Try.underlying65 (by kernel_rfl) (by decide) (fun _ _ _ ht hl => by
    obtain ⟨bs, hbs, hby, hbl⟩ := bytes_of_array Try.underlying31 Try.underlying5 (by kernel_rfl) (by kernel_rfl) ht
    exact ⟨bs, hbs, hbl, hby⟩) h
end
end Go.Proofs.Ytbpmcnfmgaolnaa
