import Derived.Test.YtbpmcnfmgaolnaaPk10
import Derived.Test.YtbpmcnfmgaolnaaPk9
import Derived.Lib.AppendZerosOnto
import Derived.Test.YtbpmcnfmgaolnaaPk14
/-
  Heads and blocks as bytes, how they are read, and what stands for all hashes: plain functions, no program in sight.
-/
namespace Go.Proofs.Ytbpmcnfmgaolnaa
open Go.RowKit

structure HeadD where
  version : Int
  prev : List Int
  root : List Int
  time : Int
  bits : Int
  nonce : Int
deriving DecidableEq
namespace HeadD
def cells (h : HeadD) : List Value := .int .u32 h.version :: (bcs h.prev ++ (bcs h.root ++ [.int .u32 h.time, .int .u32 h.bits, .int .u32 h.nonce]))
def bytes (h : HeadD) : List Int := dig h.version.toNat 4 ++ h.prev ++ h.root ++ dig h.time.toNat 4 ++ dig h.bits.toNat 4 ++ dig h.nonce.toNat 4
structure Fine (h : HeadD) : Prop where
  version : 0 ≤ h.version ∧ h.version ≤ 4294967295
  plen : h.prev.length = 32
  pbyt : Byt h.prev
  rlen : h.root.length = 32
  rbyt : Byt h.root
  time : 0 ≤ h.time ∧ h.time ≤ 4294967295
  bits : 0 ≤ h.bits ∧ h.bits ≤ 4294967295
  nonce : 0 ≤ h.nonce ∧ h.nonce ≤ 4294967295
theorem cells_len {h : HeadD} (hf : h.Fine) : h.cells.length = 68 := by simp [cells, bcs_length, hf.plen, hf.rlen]
theorem bytes_len {h : HeadD} (hf : h.Fine) : h.bytes.length = 80 := by simp [bytes, dig_length, hf.plen, hf.rlen]
theorem one (h : HeadD) : ∀ v ∈ h.cells, v.oneCell' = true := by
  intro v hv
  simp only [cells, List.mem_cons, List.mem_append, List.mem_nil_iff, or_false] at hv
  rcases hv with rfl | hv | hv | rfl | rfl | rfl
  · rfl
  · exact bcs_one _ v hv
  · exact bcs_one _ v hv
  all_goals rfl
theorem byt {h : HeadD} (hf : h.Fine) : Byt h.bytes := by
  intro x hx
  simp only [bytes, List.mem_append] at hx
  rcases hx with ((((hx | hx) | hx) | hx) | hx) | hx
  · exact dig_byt _ _ x hx
  · exact hf.pbyt x hx
  · exact hf.rbyt x hx
  all_goals exact dig_byt _ _ x hx
end HeadD
def zeroH : HeadD := ⟨0, List.replicate 32 0, List.replicate 32 0, 0, 0, 0⟩
theorem zeroH_fine : zeroH.Fine := ⟨by decide, rfl, fun x hx => by have := List.eq_of_mem_replicate hx; omega, rfl, fun x hx => by have := List.eq_of_mem_replicate hx; omega, by decide, by decide, by decide⟩
/-! ### A head in a block -/
section
variable {w : World} {g : Nat} {t : TypeId} {h : HeadD} {l : List Value}
theorem head_at (hf : h.Fine) (i : Nat) : (h.cells ++ l)[i]? = if i = 0 then some (.int .u32 h.version) else if i < 33 then (h.prev[i - 1]?).map (Value.int .u8) else if i < 65 then (h.root[i - 33]?).map (Value.int .u8) else ([Value.int .u32 h.time, .int .u32 h.bits, .int .u32 h.nonce] ++ l)[i - 65]? := by
  unfold HeadD.cells
  rcases i with _ | i
  · rfl
  · rw [if_neg (by omega), List.cons_append, List.getElem?_cons_succ, List.append_assoc, List.append_assoc]
    have h1 := bcs_length h.prev
    have h2 := bcs_length h.root
    have h3 := hf.plen
    have h4 := hf.rlen
    by_cases hi : i + 1 < 33
    · rw [if_pos hi, List.getElem?_append_left (by omega)]
      simp [bcs]
    · rw [if_neg hi, List.getElem?_append_right (by omega)]
      by_cases hj : i + 1 < 65
      · rw [if_pos hj, List.getElem?_append_left (by omega), h1, h3]
        simp only [bcs, List.getElem?_map]
        rw [show i + 1 - 33 = i - 32 by omega]
      · rw [if_neg hj, List.getElem?_append_right (by omega), h1, h2, h3, h4]
        rw [show i - 32 - 32 = i + 1 - 65 by omega]
theorem head_version (hb : Blk w g t (h.cells ++ l)) (hf : h.Fine) : w.cell? ⟨g, 0, none⟩ = some (.int .u32 h.version) := by rw [hb.cell, head_at hf]; rfl
theorem head_time (hb : Blk w g t (h.cells ++ l)) (hf : h.Fine) : w.cell? ⟨g, 65, none⟩ = some (.int .u32 h.time) := by rw [hb.cell, head_at hf]; rfl
theorem head_bits (hb : Blk w g t (h.cells ++ l)) (hf : h.Fine) : w.cell? ⟨g, 66, none⟩ = some (.int .u32 h.bits) := by rw [hb.cell, head_at hf]; rfl
theorem head_nonce (hb : Blk w g t (h.cells ++ l)) (hf : h.Fine) : w.cell? ⟨g, 67, none⟩ = some (.int .u32 h.nonce) := by rw [hb.cell, head_at hf]; rfl
theorem head_prev (hb : Blk w g t (h.cells ++ l)) (hf : h.Fine) : Bys w (some ⟨g, 1, none⟩) 32 h.prev := by
  refine ⟨hf.plen, hf.pbyt, fun _ => ⟨g, 1, rfl, fun j v hv => ?_⟩⟩
  have hj : j < 32 := by have := (List.getElem?_eq_some_iff.1 hv).1; have := hf.plen; omega
  rw [hb.cell, head_at hf, if_neg (by omega), if_pos (by omega), show 1 + j - 1 = j by omega, hv]; rfl
theorem head_root (hb : Blk w g t (h.cells ++ l)) (hf : h.Fine) : Bys w (some ⟨g, 33, none⟩) 32 h.root := by
  refine ⟨hf.rlen, hf.rbyt, fun _ => ⟨g, 33, rfl, fun j v hv => ?_⟩⟩
  have hj : j < 32 := by have := (List.getElem?_eq_some_iff.1 hv).1; have := hf.rlen; omega
  rw [hb.cell, head_at hf, if_neg (by omega), if_neg (by omega), if_pos (by omega), show 33 + j - 33 = j by omega, hv]; rfl
end
/-! ### Blocks -/
structure BlkD where
  head : HeadD
  txs : List TxD
def BlkD.bytes (b : BlkD) : List Int := b.head.bytes ++ cnt b.txs.length ++ b.txs.flatMap TxD.bytes
abbrev TxsIn (w : World) (A : Option Addr) (n : Nat) (xs : List TxV) : Prop := RowsIn TxV.cells 4 TxV.Fine w A n xs
theorem TxsIn.below' {w w' : World} {A : Option Addr} {n : Nat} {xs : List TxV} (h : TxsIn w A n xs) (hb : Below w.heap.size w w') : TxsIn w' A n xs := h.below hb fun _ h => h.below hb
structure BlkV where
  head : HeadD
  A : Option Addr
  n : Nat
  c : Nat
  txs : List TxV
def BlkV.cells (b : BlkV) : List Value := b.head.cells ++ [.slice b.A b.n b.c]
def BlkV.d (b : BlkV) : BlkD := ⟨b.head, b.txs.map TxV.d⟩
structure BlkV.Fine (w : World) (b : BlkV) : Prop where
  head : b.head.Fine
  txs : TxsIn w b.A b.n b.txs
  cap : b.n ≤ b.c
structure BlkV.Small (b : BlkV) : Prop where
  n : b.n ≤ 1000
  txs : ∀ t ∈ b.txs, t.Small
theorem BlkV.Fine.below {w w' : World} {b : BlkV} (h : b.Fine w) (hb : Below w.heap.size w w') : b.Fine w' := ⟨h.head, h.txs.below' hb, h.cap⟩
theorem BlkV.one (b : BlkV) : ∀ v ∈ b.cells, v.oneCell' = true := by
  intro v hv
  rcases List.mem_append.1 hv with h | h
  · exact b.head.one v h
  · simp only [List.mem_cons, List.mem_nil_iff, or_false] at h; subst h; rfl
theorem BlkV.cells_len {b : BlkV} (h : b.head.Fine) : b.cells.length = 69 := by simp [BlkV.cells, HeadD.cells_len h]
theorem BlkD.bytes_eq (b : BlkV) : b.d.bytes = b.head.bytes ++ cnt b.txs.length ++ b.txs.flatMap fun t => t.d.bytes := by simp [BlkV.d, BlkD.bytes, List.flatMap_map]
def zeroB : BlkV := ⟨zeroH, none, 0, 0, []⟩
/-! ### Reading -/
def Rd.headRaw (r : Rd) : HeadD × Rd :=
  let v := r.fixed 4
  let p := v.2.raw 32
  let q := p.2.raw 32
  let t := q.2.fixed 4
  let b := t.2.fixed 4
  let n := b.2.fixed 4
  (⟨(v.1 : Int), p.1, q.1, (t.1 : Int), (b.1 : Int), (n.1 : Int)⟩, n.2)
def Rd.head (r : Rd) : HeadD × Rd := if r.headRaw.2.err ≠ 0 then (zeroH, r.headRaw.2) else r.headRaw
def zeroBD : BlkD := ⟨zeroH, []⟩
def Rd.blk (r : Rd) : BlkD × Rd :=
  let h := r.head
  let n := h.2.count 100
  let ts := Rd.rep Rd.tx n.1 n.2
  (⟨h.1, ts.1⟩, ts.2)
def parseB (b : List Int) : BlkD × Int :=
  if (Rd.blk ⟨b, 0⟩).2.err ≠ 0 then (zeroBD, (Rd.blk ⟨b, 0⟩).2.err) else if 0 < (Rd.blk ⟨b, 0⟩).2.rest.length then (zeroBD, 62) else ((Rd.blk ⟨b, 0⟩).1, 0)
def parseH (b : List Int) : HeadD × Int := if b.length < 80 then (zeroH, 61) else if 80 < b.length then (zeroH, 62) else ((Rd.head ⟨b, 0⟩).1, 0)
/-! ### What stands for all hashes -/
def nextL : List (List Int) → List (List Int)
  | [] => []
  | [a] => [sha2 (a ++ a)]
  | a :: b :: l => sha2 (a ++ b) :: nextL l
def pairL : List (List Int) → Bool
  | [] => false
  | [_] => false
  | a :: b :: l => (a == b) || pairL l
theorem nextL_len : ∀ l : List (List Int), (nextL l).length = (l.length + 1) / 2
  | [] => rfl
  | [a] => by simp [nextL]
  | a :: b :: l => by simp only [nextL, List.length_cons, nextL_len l]; omega
/-- fuel: more than there are hashes. -/
def rootN : Nat → List (List Int) → List Int × Bool
  | 0, _ => (zero32, false)
  | k + 1, l =>
    match l with
    | [] => (zero32, false)
    | [a] => (a, false)
    | a :: b :: r => ((rootN k (nextL (a :: b :: r))).1, pairL (a :: b :: r) || (rootN k (nextL (a :: b :: r))).2)
def rootL (l : List (List Int)) : List Int × Bool := rootN (l.length + 1) l
theorem rootN_more : ∀ (k m : Nat) (l : List (List Int)), l.length < k → l.length < m → rootN k l = rootN m l
  | 0, _, _, h, _ => absurd h (by omega)
  | _ + 1, 0, _, _, h => absurd h (by omega)
  | k + 1, m + 1, l, h1, h2 => by
    rcases l with _ | ⟨a, _ | ⟨b, r⟩⟩
    · rfl
    · rfl
    · have hl : (nextL (a :: b :: r)).length = (r.length + 3) / 2 := by rw [nextL_len]; simp
      simp only [List.length_cons] at h1 h2
      rw [rootN, rootN, rootN_more k m (nextL (a :: b :: r)) (by omega) (by omega)]
theorem rootL_step (a b : List Int) (r : List (List Int)) : rootL (a :: b :: r) = ((rootL (nextL (a :: b :: r))).1, pairL (a :: b :: r) || (rootL (nextL (a :: b :: r))).2) := by
  have hl : (nextL (a :: b :: r)).length = (r.length + 3) / 2 := by rw [nextL_len]; simp
  unfold rootL
  rw [rootN, rootN_more ((a :: b :: r).length) ((nextL (a :: b :: r)).length + 1) _ (by simp only [List.length_cons]; omega) (by omega)]
theorem nextL_byt : ∀ (l : List (List Int)), ∀ x ∈ nextL l, x.length = 32 ∧ Byt x
  | [], x, h => by simp [nextL] at h
  | [a], x, h => by
    simp [nextL] at h; subst h; exact ⟨sha2_len _, sha2_byt _⟩
  | a :: b :: l, x, h => by
    simp only [nextL, List.mem_cons] at h
    rcases h with rfl | h
    · exact ⟨sha2_len _, sha2_byt _⟩
    · exact nextL_byt l x h
def BlkD.ids (b : BlkD) : List (List Int) := b.txs.map fun t => sha2 t.bytes
/-! ### Can it be? -/
def firstErr : List TxD → Int
  | [] => 0
  | t :: l => if checkT t ≠ 0 then checkT t else firstErr l
def basesOk : List TxD → Bool
  | [] => true
  | t :: l => baseT t.ins && l.all fun t => !baseT t.ins
def checkB (b : BlkD) : Int :=
  if b.txs.length = 0 ∨ 20000 < b.bytes.length then 111
  else if basesOk b.txs = false then 111
  else if firstErr b.txs ≠ 0 then firstErr b.txs
  else if (rootL b.ids).1 ≠ b.head.root ∨ (rootL b.ids).2 = true then 111 else 0
end Go.Proofs.Ytbpmcnfmgaolnaa
/-
  slices.Grow, slices.Concat of bytes; heads sealed; heads as bytes, the program's and the document's.
-/
namespace Go.Proofs.Ytbpmcnfmgaolnaa
open Go.RowKit

/-! ### Heads and blocks, sealed -/
theorem zeroHead_info : (Try.prog.info? 33).map (·.zero) = some (some (.agg zeroH.cells.toArray)) := by kernel_rfl
theorem isHead : (Try.prog.info? 33).map (·.size) = some 68 := by kernel_rfl
theorem zeroBlk_info : (Try.prog.info? 40).map (·.zero) = some (some (.agg zeroB.cells.toArray)) := by kernel_rfl
theorem isBlk : (Try.prog.info? 40).map (·.size) = some 69 := by kernel_rfl
def loadHead (a : Addr) : Sem Value := loadVar 33 a
theorem loadHead_fold (a : Addr) : loadVar 33 a = loadHead a := rfl
theorem loadHead_run (w : World) (b o : Nat) (h : HeadD) (hr : w.rangeAt b o h.cells) (hf : h.Fine) : (loadHead ⟨b, o, none⟩).run Try.prog w = .ok (.agg h.cells.toArray) w :=
  run_loadVar_mid w b o _ h.cells _ hr Try.underlying33 rfl (by rw [isHead, HeadD.cells_len hf])
def loadBlk (a : Addr) : Sem Value := loadVar 40 a
theorem loadBlk_fold (a : Addr) : loadVar 40 a = loadBlk a := rfl
theorem loadBlk_run (w : World) (b o : Nat) (v : BlkV) (hr : w.rangeAt b o v.cells) (hf : v.head.Fine) : (loadBlk ⟨b, o, none⟩).run Try.prog w = .ok (.agg v.cells.toArray) w :=
  run_loadVar_mid w b o _ v.cells _ hr Try.underlying40 rfl (by rw [isBlk, BlkV.cells_len hf])
def mkHead (parts : Array (Nat × Value)) : Sem Value := Instr.build 33 parts
theorem mkHead_fold (parts : Array (Nat × Value)) : Instr.build 33 parts = mkHead parts := rfl
theorem mkHead_zero (w : World) : (mkHead #[]).run Try.prog w = .ok (.agg zeroH.cells.toArray) w := by kernel_rfl
def mkBlk (parts : Array (Nat × Value)) : Sem Value := Instr.build 40 parts
theorem mkBlk_fold (parts : Array (Nat × Value)) : Instr.build 40 parts = mkBlk parts := rfl
theorem mkBlk_zero (w : World) : (mkBlk #[]).run Try.prog w = .ok (.agg zeroB.cells.toArray) w := by kernel_rfl
theorem head_range {w : World} {g : Nat} {t : TypeId} {h : HeadD} {l : List Value} (hb : Blk w g t (h.cells ++ l)) : w.rangeAt g 0 h.cells := hb.range 0 _ fun j v hv => by
  rw [Nat.zero_add, List.getElem?_append_left (List.getElem?_eq_some_iff.1 hv).1]; exact hv
/-! ### slices.Grow of nothing -/
theorem Mine.row0 {w0 w : World} {e : TypeId} {g cap : Nat} {cur : Array Value} (hb : Below w0.heap.size w0 w) (hg : w0.heap.size ≤ g) (hh : w.heap[g]? = some (.cells cur e (0, 0))) (hcm : cap ≤ maxLen) (hs : cur.size = cap) : Mine e w0 w (some ⟨g, 0, none⟩) 0 cap [] := by
  refine ⟨hb, rfl, fun i => (Value.slice (some ⟨g, 0, none⟩) 0 cap).ownBlock = some i, ⟨(fun x hx => by cases hx), .inl ⟨⟨by simp [bcs], .inr ⟨g, cap, cur, rfl, Nat.zero_le _, hh, Nat.zero_le _, hcm, by rw [hs, Nat.mul_one], by simp [bcs]⟩⟩, rfl⟩⟩, fun i hi => ?_⟩
  have : g = i := by simpa [Value.ownBlock] using hi
  omega
theorem run_makeZeros (w : World) (n : Nat) (h0 : 0 < n) (hn : n ≤ 1000000000) : ∃ cap w', (∀ ty, (Builtin.append_ #[56, 3] ty #[.slice none 0 0, .int .i64 (n : Int)]).run Try.prog w = .ok (.slice (some ⟨w.heap.size, 0, none⟩) n cap) w') ∧ n ≤ cap ∧ cap ≤ maxLen ∧ Mine 5 w w' (some ⟨w.heap.size, 0, none⟩) 0 cap [] := by
  obtain ⟨i, z, hi, hz, hs, hby, hzs⟩ := u8_info
  have hold : (Builtin.firstCells i.size 0 (.slice none 0 0)).run Try.prog w.drew = .ok ([] : List Value).toArray w.drew := rfl
  have h := fun ty => Lib.run_append_grow_zeros (P := Try.prog) w 56 3 ty 5 i z .i64 .i64 Try.underlying56 Try.underlying3 hi hz none 0 0 [] hold n h0 (by rw [hs]; decide) (by omega) (by omega) (by rw [hby]; omega) (growslice_fits (by omega) (by rw [hby]; omega))
  have hge := grownCap_ge w n 0 5
  have hle := grownCap_le_maxLen w n 0 5 (by unfold maxLen; omega)
  obtain ⟨G, hG⟩ : ∃ G, G = grownCap w n 0 5 := ⟨_, rfl⟩
  simp only [Nat.zero_add] at h
  rw [← hG] at h hge hle
  refine ⟨G, _, h, hge, hle, Mine.row0 ((Below.refl _ w).drew.alloc (Nat.le_refl _) _) (Nat.le_refl _) (heap_alloc_new w.drew _) hle ?_⟩
  simp [Builtin.zeroCells, hzs]
  omega
set_option maxHeartbeats 2000000 in
set_option maxRecDepth 100000 in
theorem grow_nil (w : World) (n : Nat) (hn : n ≤ 1000000000) :
    Calls Try.prog 131 #[.slice none 0 0, .int .i64 (n : Int)] w (MinePost 5 w none []) := by
  have hw0 : IntKind.i64.wrap ((n : Int) - 0) = (n : Int) := by rw [IntKind.wrap_i64]; omega
  have h1 : ¬ ((n : Int) < 0) := by omega
  by_cases h0 : n = 0
  · subst h0
    go_enter Try.func131, Try.ntmps131
    go_wp2
    go_ret
    exact MinePost.mk (Mine.nil (Below.refl _ _) _) (Fr.none _)
  · have h2 : (0 : Int) < (n : Int) := by omega
    obtain ⟨cap, w', hrun, hc1, hc2, hM⟩ := run_makeZeros w n (by omega) hn
    have HM := hide hM
    have HR := hide hrun
    have HC := hide hc1
    clear hrun hM
    go_enter Try.func131, Try.ntmps131
    go_wp2_with (at_builtin; refine Lib.wpList_append_run _ rfl _ _ _ _ rfl _ _ (by rfl) (by rfl) _ _ (HR.out _) ?_)
    all_goals
      go_ret
      exact MinePost.mk HM.out (Fr.new w w (Nat.le_refl _) 0)
theorem flat_step {α : Type} (l : List (List α)) (j : Nat) (x : List α) (h : l[j]? = some x) : (l.take (j + 1)).flatten.length = (l.take j).flatten.length + x.length := by
  rw [flat_take l j x h, List.length_append]
set_option maxHeartbeats 4000000 in
set_option maxRecDepth 100000 in
theorem concat_any (w : World) (X : Option Addr) (n c : Nat) (xss : List (List Int)) (hX : Byss w X n xss) (hn : n ≤ 1000) (hl : xss.flatten.length ≤ 1000000000) :
    Calls Try.prog 87 #[.slice X n c] w (MinePost 5 w none xss.flatten) := by
  have HX := hide hX
  have HN := hide hn
  have HL := hide hl
  have hlen := hide hX.1
  clear hX hn hl
  go_enter Try.func87, Try.ntmps87
  go_wp2_with fail
  go_loopw [3, 11] (fun s i wr => ∃ j : Nat, j ≤ n ∧ i = .int .i64 (j : Int) ∧ s = .int .i64 ((xss.take j).flatten.length : Int) ∧ wr = w) (fun _ i _ => n - (intOf i).toNat)
  case atStart => exact ⟨0, Nat.zero_le _, rfl, rfl, rfl⟩
  case round =>
    obtain ⟨j, hj, rfl, rfl, hwr⟩ := hrel
    subst hwr
    have hle := flat_le xss j
    by_cases hlt : j < n
    · obtain ⟨x, hx⟩ : ∃ x, xss[j]? = some x := ⟨_, List.getElem?_eq_getElem (by have := hlen.out; omega)⟩
      obtain ⟨b, off, hXe, hcell⟩ := HX.out.2 (by omega)
      obtain ⟨A', n', c', k1, hB, hc'⟩ := hcell j x hx
      have hst := flat_step xss j x hx
      have hle1 := flat_le xss (j + 1)
      have hxl := hB.1
      obtain ⟨S, hS⟩ : ∃ S : Nat, S = (xss.take j).flatten.length := ⟨_, rfl⟩
      rw [← hS] at hst hle ⊢
      obtain ⟨V, hV⟩ : ∃ V : Int, V = (S : Int) + (n' : Int) := ⟨_, rfl⟩
      have hw1 : IntKind.i64.wrap ((S : Int) + (n' : Int)) = V := by rw [IntKind.wrap_i64, hV]; have := HL.out; omega
      have hneg : ¬ V < 0 := by omega
      have HV := hide hV
      clear hV
      have i1 : (j : Int) < (n : Int) := by omega
      have hN9 := HN.out
      have HST := hide hst
      have HXL := hide hxl
      clear hst hle1 hcell hB hx hS hxl
      rw [hXe]
      go_wp2_with fail
      exact ⟨⟨j + 1, by omega, by simp, by rw [HST.out, HXL.out, HV.out]; simp, trivial⟩, by simp [intOf]; omega⟩
    · obtain rfl : n = j := by omega
      have hfull : xss.take n = xss := List.take_of_length_le (by rw [hlen.out]; exact Nat.le_refl _)
      have i1 : ¬ (n : Int) < (n : Int) := by omega
      rw [hfull]
      obtain ⟨L, hL⟩ : ∃ L, L = xss.flatten.length := ⟨_, rfl⟩
      have HLL := hide (show L ≤ 1000000000 by rw [hL]; exact HL.out)
      rw [← hL]
      clear hfull hle hlt hj hL
      go_wp2_with fail
      refine (grow_nil wr L HLL.out).mono ?_
      rintro e w1 ⟨A1, n1, c1, rfl, t1, f1⟩
      obtain rfl : n1 = 0 := t1.2.1
      have T1 := hide t1
      have F1 := hide (f1 (Fr.none _))
      clear t1 f1
      go_wp2_with fail
      obtain ⟨wz, rfl⟩ : ∃ wz : World, wz = wr := ⟨_, rfl⟩
      go_loopw [6, 27] (fun s i wr => ∃ (j m : Nat) (A' : Option Addr) (c' : Nat), j ≤ n ∧ i = .int .i64 (j : Int) ∧ s = .slice A' m c' ∧ Mine 5 wz wr A' m c' (xss.take j).flatten ∧ Fr wz A') (fun _ i _ => n - (intOf i).toNat)
      case atStart => exact ⟨0, 0, A1, c1, Nat.zero_le _, rfl, rfl, T1.out, F1.out⟩
      case round =>
        obtain ⟨j, m, A2, c2, hj, rfl, rfl, hM, hF⟩ := hrel
        have HM := hide hM
        have HF := hide hF
        by_cases hlt : j < n
        · obtain ⟨x, hx⟩ : ∃ x, xss[j]? = some x := ⟨_, List.getElem?_eq_getElem (by have := hlen.out; omega)⟩
          obtain ⟨b, off, hXe, hcell⟩ := HX.out.2 (by omega)
          obtain ⟨A', n', c', k1, hB, hc'⟩ := hcell j x hx
          have k1 := cell_under hM.below k1
          have HB := hide (hM.old hB)
          have HTK := hide (flat_take xss j x hx)
          have hb9 := hide (show m + n' ≤ 140737488355328 by
            have h1 := flat_step xss j x hx
            have h2 := flat_le xss (j + 1)
            have h3 := hM.len
            have h4 := hB.1
            have h5 := HL.out
            omega)
          have i1 : (j : Int) < (n : Int) := by omega
          have hN9 := HN.out
          clear hM hF hx hcell hB
          rw [hXe]
          go_wp2_with (at_builtin; refine wpList_app rfl _ _ rfl wz A2 m c2 _ (by rfl) HM.out A' n' c' x (by rfl) HB.out hb9.out ?_; intro A3 n3 c3 w3 t3 f3; have T3 := hide t3; have F3 := hide (f3 (.inl HF.out)); clear t3 f3; simp only [Act.put, List.setIfInBounds_toArray, List.set_cons_zero, List.set_cons_succ])
          exact ⟨⟨j + 1, n3, A3, c3, by omega, by simp, rfl, by rw [HTK.out]; exact T3.out, F3.out⟩, by simp [intOf]; omega⟩
        · obtain rfl : n = j := by omega
          have hfull : xss.take n = xss := List.take_of_length_le (by rw [hlen.out]; exact Nat.le_refl _)
          have i1 : ¬ (n : Int) < (n : Int) := by omega
          rw [hfull] at HM
          clear hfull hM hF
          go_wp2_with fail
          go_ret
          exact MinePost.mk HM.out HF.out
/-! ### Heads as bytes -/
attribute [local go_sem ↓] loadHead_fold
set_option maxHeartbeats 4000000 in
set_option maxRecDepth 100000 in
theorem refHeadBytes_any (w : World) (h : HeadD) (hf : h.Fine) :
    Calls Try.prog 45 #[.agg h.cells.toArray] w (MinePost 5 w none h.bytes) := by
  have B0 := Blk.new w 33 (h.cells ++ [])
  have e0 : (h.cells ++ []).toArray = h.cells.toArray := by rw [List.append_nil]
  rw [e0] at B0
  have hb0 := hide (show Below w.heap.size w (w.alloc (.cells h.cells.toArray 33)) from below_alloc (Below.refl _ _) _)
  have HB0 := hide B0
  have HF := hide hf
  have u0 : IntKind.u64.wrap h.version = h.version := u64_small _ hf.version.1 hf.version.2
  have u1 : IntKind.u64.wrap h.time = h.time := u64_small _ hf.time.1 hf.time.2
  have u2 : IntKind.u64.wrap h.bits = h.bits := u64_small _ hf.bits.1 hf.bits.2
  have u3 : IntKind.u64.wrap h.nonce = h.nonce := u64_small _ hf.nonce.1 hf.nonce.2
  have c0 := head_version B0 hf
  clear hf B0 e0
  go_enter Try.func45, Try.ntmps45
  go_wp2_with fail
  obtain ⟨w1, hw1⟩ : ∃ w1, w1 = w.alloc (.cells h.cells.toArray 33) := ⟨_, rfl⟩
  rw [← hw1] at HB0 hb0 ⊢
  clear hw1 c0
  refine (reffixed_any w1 w1 h.version 4 (Below.refl _ _) HF.out.version.1 (by have := HF.out.version.2; omega)).mono ?_
  rintro e w2 ⟨A2, n2, c2, rfl, t2, f2⟩
  have T2 := hide t2
  have F2 := hide (f2 (Fr.none _))
  have HP := hide (head_prev (HB0.out.under t2.below) HF.out)
  have L2 := hide t2.len
  clear t2 f2
  go_wp2_with (first
    | (at_builtin; refine wpList_app rfl _ _ rfl w1 A2 n2 c2 _ (by rfl) T2.out (some ⟨w.heap.size, 1, none⟩) 32 32 h.prev (by rfl) HP.out (by have h1 := L2.out; rw [dig_length] at h1; have h2 : (Rd.within 4).toNat = 4 := rfl; omega) ?_; intro A3 n3 c3 w3 t3 f3; have T3 := hide t3; have F3 := hide (f3 (.inl F2.out)); have HR := hide (head_root (HB0.out.under t3.below) HF.out); have L3 := hide t3.len; clear t3 f3; simp only [Act.put, List.setIfInBounds_toArray, List.set_cons_zero, List.set_cons_succ])
    | (at_builtin; refine wpList_app rfl _ _ rfl w1 A3 n3 c3 _ (by rfl) T3.out (some ⟨w.heap.size, 33, none⟩) 32 32 h.root (by rfl) HR.out (by have h1 := L3.out; rw [List.length_append, dig_length, HF.out.plen] at h1; have h2 : (Rd.within 4).toNat = 4 := rfl; omega) ?_; intro A4 n4 c4 w4 t4 f4; have T4 := hide t4; have F4 := hide (f4 (.inl F3.out)); have L4 := hide t4.len; have c4t := head_time (HB0.out.under t4.below) HF.out; clear t4 f4; simp only [Act.put, List.setIfInBounds_toArray, List.set_cons_zero, List.set_cons_succ]))
  have hw4 : (Rd.within 4).toNat = 4 := rfl
  rw [hw4] at T4 L4
  have N4 := hide (show n4 = 68 by have h1 := L4.out; simp only [List.length_append, dig_length, HF.out.plen, HF.out.rlen] at h1; omega)
  obtain ⟨p4, hp4⟩ : ∃ p, p = dig h.version.toNat 4 ++ h.prev ++ h.root := ⟨_, rfl⟩
  rw [← hp4] at T4
  have HP4 := hide hp4
  clear hp4 hw4 L4 T2 T3 HP HR L2 L3
  refine (reffixed_any w4 w4 h.time 4 (Below.refl _ _) HF.out.time.1 (by have := HF.out.time.2; omega)).mono ?_
  rintro e w5 ⟨A5, n5, c5, rfl, t5, f5⟩
  have hw4 : (Rd.within 4).toNat = 4 := rfl
  rw [hw4] at t5
  have Y5 := hide t5.bys
  have T4k := hide (T4.out.keep t5.below)
  have N5 := hide (show n5 = 4 by have h1 := t5.len; rw [dig_length] at h1; omega)
  clear t5 f5 hw4
  go_wp2_with (at_builtin; refine wpList_app rfl _ _ rfl w1 A4 n4 c4 p4 (by rfl) T4k.out A5 n5 c5 (dig h.time.toNat 4) (by rfl) Y5.out (by have h1 := N4.out; have h2 := N5.out; omega) ?_; intro A6 n6 c6 w6 t6 f6; have T6 := hide t6; have F6 := hide (f6 (.inl F4.out)); have N6 := hide (show n6 = 72 by have h1 := t6.len; rw [List.length_append, dig_length, T4.out.len] at h1; have h2 := N4.out; omega); have c6t := head_bits (HB0.out.under t6.below) HF.out; clear t6 f6; simp only [Act.put, List.setIfInBounds_toArray, List.set_cons_zero, List.set_cons_succ])
  obtain ⟨p6, hp6⟩ : ∃ p, p = p4 ++ dig h.time.toNat 4 := ⟨_, rfl⟩
  rw [← hp6] at T6
  have HP6 := hide hp6
  clear hp6 T4k T4 Y5
  refine (reffixed_any w6 w6 h.bits 4 (Below.refl _ _) HF.out.bits.1 (by have := HF.out.bits.2; omega)).mono ?_
  rintro e w7 ⟨A7, n7, c7, rfl, t7, f7⟩
  have hw4 : (Rd.within 4).toNat = 4 := rfl
  rw [hw4] at t7
  have Y7 := hide t7.bys
  have T6k := hide (T6.out.keep t7.below)
  have N7 := hide (show n7 = 4 by have h1 := t7.len; rw [dig_length] at h1; omega)
  clear t7 f7 hw4
  go_wp2_with (at_builtin; refine wpList_app rfl _ _ rfl w1 A6 n6 c6 p6 (by rfl) T6k.out A7 n7 c7 (dig h.bits.toNat 4) (by rfl) Y7.out (by have h1 := N6.out; have h2 := N7.out; omega) ?_; intro A8 n8 c8 w8 t8 f8; have T8 := hide t8; have F8 := hide (f8 (.inl F6.out)); have N8 := hide (show n8 = 76 by have h1 := t8.len; rw [List.length_append, dig_length, T6.out.len] at h1; have h2 := N6.out; omega); have c8t := head_nonce (HB0.out.under t8.below) HF.out; clear t8 f8; simp only [Act.put, List.setIfInBounds_toArray, List.set_cons_zero, List.set_cons_succ])
  obtain ⟨p8, hp8⟩ : ∃ p, p = p6 ++ dig h.bits.toNat 4 := ⟨_, rfl⟩
  rw [← hp8] at T8
  have HP8 := hide hp8
  clear hp8 T6k T6 Y7
  refine (reffixed_any w8 w8 h.nonce 4 (Below.refl _ _) HF.out.nonce.1 (by have := HF.out.nonce.2; omega)).mono ?_
  rintro e w9 ⟨A9, n9, c9, rfl, t9, f9⟩
  have hw4 : (Rd.within 4).toNat = 4 := rfl
  rw [hw4] at t9
  have Y9 := hide t9.bys
  have T8k := hide (T8.out.keep t9.below)
  have N9 := hide (show n9 = 4 by have h1 := t9.len; rw [dig_length] at h1; omega)
  clear t9 f9 hw4
  go_wp2_with (at_builtin; refine wpList_app rfl _ _ rfl w1 A8 n8 c8 p8 (by rfl) T8k.out A9 n9 c9 (dig h.nonce.toNat 4) (by rfl) Y9.out (by have h1 := N8.out; have h2 := N9.out; omega) ?_; intro A10 n10 c10 w10 t10 f10; have T10 := hide t10; have F10 := hide (f10 (.inl F8.out)); have N10 := hide (show n10 = 80 by have h1 := t10.len; rw [List.length_append, dig_length, T8.out.len] at h1; have h2 := N8.out; omega); clear t10 f10; simp only [Act.put, List.setIfInBounds_toArray, List.set_cons_zero, List.set_cons_succ])
  go_ret
  have hall : p8 ++ dig h.nonce.toNat 4 = h.bytes := by rw [HP8.out, HP6.out, HP4.out]; rfl
  rw [← hall]
  exact MinePost.mk (T10.out.older hb0.out) (F10.out.older hb0.out)
theorem Byss.three (w w1 : World) (e : TypeId) (A B C : Option Addr) (n m k c d f : Nat) (x y z : List Int) (hx : Bys w A n x) (hy : Bys w B m y) (hz : Bys w C k z) (hc : n ≤ c) (hd : m ≤ d) (hf : k ≤ f) (hb : Below w.heap.size w w1) : Byss (w1.alloc (.cells #[.slice A n c, .slice B m d, .slice C k f] e)) (some ⟨w1.heap.size, 0, none⟩) 3 [x, y, z] := by
  have hb2 : Below w.heap.size w (w1.alloc (.cells #[.slice A n c, .slice B m d, .slice C k f] e)) := below_alloc hb _
  have hB := Blk.new w1 e [.slice A n c, .slice B m d, .slice C k f]
  refine ⟨rfl, fun _ => ⟨w1.heap.size, 0, rfl, fun j xs hj => ?_⟩⟩
  match j, hj with
  | 0, hj => injection hj with hj; subst hj; exact ⟨A, n, c, hB.c0, hx.below hb2, hc⟩
  | 1, hj => injection hj with hj; subst hj; exact ⟨B, m, d, hB.c1, hy.below hb2, hd⟩
  | 2, hj => injection hj with hj; subst hj; exact ⟨C, k, f, hB.c2, hz.below hb2, hf⟩
  | j + 3, hj => simp at hj
theorem index3_run (a b c : Int) (j : Nat) (hj : j < 3) (w : World) : (Instr.index 136 (.agg #[.int .u32 a, .int .u32 b, .int .u32 c]) (.int .i64 (j : Int))).run Try.prog w = .ok (.int .u32 ([a, b, c].getD j 0)) w := by
  rcases j with _ | _ | _ | j
  · show (_ : Result Value) = _
    kernel_rfl
  · show (_ : Result Value) = _
    kernel_rfl
  · show (_ : Result Value) = _
    kernel_rfl
  · omega
set_option maxHeartbeats 4000000 in
set_option maxRecDepth 100000 in
theorem HeadBytes_any (w : World) (h : HeadD) (hf : h.Fine) :
    Calls Try.prog 44 #[.agg h.cells.toArray] w (MinePost 5 w none h.bytes) := by
  have B0 := Blk.new w 33 (h.cells ++ [])
  have e0 : (h.cells ++ []).toArray = h.cells.toArray := by rw [List.append_nil]
  rw [e0] at B0
  have hb0 := hide (show Below w.heap.size w (w.alloc (.cells h.cells.toArray 33)) from below_alloc (Below.refl _ _) _)
  have HB0 := hide B0
  have HF := hide hf
  have u0 : IntKind.u64.wrap h.version = h.version := u64_small _ hf.version.1 hf.version.2
  have c0 := head_version B0 hf
  clear hf B0 e0
  go_enter Try.func44, Try.ntmps44
  go_wp2_with fail
  obtain ⟨w1, hw1⟩ : ∃ w1, w1 = w.alloc (.cells h.cells.toArray 33) := ⟨_, rfl⟩
  rw [← hw1] at HB0 hb0 ⊢
  clear hw1 c0
  refine (Fixed_any w1 w1 none 0 0 [] h.version 4 (Below.refl _ _) (Bys.nil _ _) HF.out.version.1 (by have := HF.out.version.2; omega) (by decide)).mono ?_
  rintro e w2 ⟨A2, n2, c2, rfl, t2, f2⟩
  have hw4 : (Rd.within 4).toNat = 4 := rfl
  rw [List.nil_append, hw4] at t2
  have T2 := hide t2
  have HP := hide (head_prev (HB0.out.under t2.below) HF.out)
  have HR := hide (head_root (HB0.out.under t2.below) HF.out)
  have B2 := hide t2.below
  clear t2 f2 hw4
  go_wp2_with fail
  refine wp_region_held_drew (S := fun w' => Below w2.heap.size w2 w') (by kernel_rfl) (by exact (Below.refl _ _).drew) (fun hSA0 => ?_)
  obtain ⟨w2d, hwA⟩ : ∃ x, x = w2.drew := ⟨_, rfl⟩
  rw [← hwA] at hSA0 ⊢
  clear hwA
  (refine wpAnyH_take (i := 0) (oi := ⟨some 10, .move (.tmp 3), 56, "block.go:23", #[], none⟩) (v := ?_) rfl (by kernel_rfl) (by kernel_rfl) (by kernel_rfl) (fun _ _ _ h => h) (Or.inl ⟨by rfl, fun w' hSw => ?_⟩) hSA0 ?_; rotate_left; focus (go_simp; try with_reducible rfl))
  simp only [Act.put, List.setIfInBounds_toArray, List.set_cons_zero, List.set_cons_succ]
  (refine wpAnyH_take (i := 1) (oi := ⟨some 11, .fieldAddr 33 (.tmp 1) 1, 0, "block.go:23", #[], none⟩) (v := ?_) rfl (by kernel_rfl) (by kernel_rfl) (by kernel_rfl) (fun _ _ _ h => h) (Or.inl ⟨by rfl, fun w' hSw => ?_⟩) hSA0 ?_; rotate_left; focus (go_simp; try with_reducible rfl))
  simp only [Act.put, List.setIfInBounds_toArray, List.set_cons_zero, List.set_cons_succ]
  (refine wpAnyH_take (i := 2) (oi := ⟨some 12, .slice 31 (.tmp 11) Option.none Option.none Option.none, 56, "block.go:23", #[⟨1, .data⟩], none⟩) (v := ?_) rfl (by kernel_rfl) (by kernel_rfl) (by kernel_rfl) (fun _ _ _ h => h) (Or.inl ⟨by rfl, fun w' hSw => ?_⟩) hSA0 ?_; rotate_left; focus (go_simp; try with_reducible rfl))
  simp only [Act.put, List.setIfInBounds_toArray, List.set_cons_zero, List.set_cons_succ]
  (refine wpAnyH_take (i := 3) (oi := ⟨some 13, .fieldAddr 33 (.tmp 1) 2, 0, "block.go:23", #[], none⟩) (v := ?_) rfl (by kernel_rfl) (by kernel_rfl) (by kernel_rfl) (fun _ _ _ h => h) (Or.inl ⟨by rfl, fun w' hSw => ?_⟩) hSA0 ?_; rotate_left; focus (go_simp; try with_reducible rfl))
  simp only [Act.put, List.setIfInBounds_toArray, List.set_cons_zero, List.set_cons_succ]
  (refine wpAnyH_take (i := 4) (oi := ⟨some 14, .slice 31 (.tmp 13) Option.none Option.none Option.none, 56, "block.go:23", #[⟨3, .data⟩], none⟩) (v := ?_) rfl (by kernel_rfl) (by kernel_rfl) (by kernel_rfl) (fun _ _ _ h => h) (Or.inl ⟨by rfl, fun w' hSw => ?_⟩) hSA0 ?_; rotate_left; focus (go_simp; try with_reducible rfl))
  simp only [Act.put, List.setIfInBounds_toArray, List.set_cons_zero, List.set_cons_succ]
  refine wpAnyH_ready (rs := [5]) (by kernel_rfl) (by simp) ?_
  refine AllReadyH.cons rfl (fun K hK => ?_) AllReadyH.nil
  go_simp
  refine hK.out _ _ (below_alloc hSA0 _) (fun hSA1 => ?_)
  clear hK K
  refine wpAnyH_ready (rs := [6]) (by kernel_rfl) (by simp) ?_
  refine AllReadyH.cons rfl (fun K hK => ?_) AllReadyH.nil
  go_simp
  go_wp2_with (go_at_call 87; refine (concat_any _ _ 3 3 [dig h.version.toNat 4, h.prev, h.root] (Byss.three w2 w2d 56 _ _ _ n2 32 32 c2 32 32 _ _ _ T2.out.bys HP.out HR.out T2.out.cap (Nat.le_refl _) (Nat.le_refl _) hSA0) (by decide) (by simp [dig_length, HF.out.plen, HF.out.rlen])).mono ?_; rintro e w3 ⟨A3, n3, c3, rfl, t3, f3⟩)
  refine hK.out _ _ (Below.then_ hSA1 t3.below) (fun hSA2 => ?_)
  clear hK K
  (refine wpAnyH_take (i := 7) (oi := ⟨some 3, .assign (.tmp 16), 56, "block.go:23", #[⟨6, .data⟩, ⟨6, .chain⟩, ⟨0, .phase⟩, ⟨1, .phase⟩, ⟨2, .phase⟩, ⟨3, .phase⟩, ⟨4, .phase⟩, ⟨5, .phase⟩, ⟨6, .phase⟩], none⟩) (v := ?_) rfl (by kernel_rfl) (by kernel_rfl) (by kernel_rfl) (fun _ _ _ h => h) (Or.inl ⟨by rfl, fun w' hSw => ?_⟩) hSA2 ?_; rotate_left; focus (go_simp; try with_reducible rfl))
  simp only [Act.put, List.setIfInBounds_toArray, List.set_cons_zero, List.set_cons_succ]
  refine wpAnyH_done (by kernel_rfl) ?_ _
  have C3 := HB0.out.under (Below.then_ B2.out hSA2)
  have k65 := head_time C3 HF.out
  have k66 := head_bits C3 HF.out
  have k67 := head_nonce C3 HF.out
  have T3 := hide t3
  have F3 := hide (f3 (Fr.none _))
  have B3 := hide (Below.then_ B2.out hSA2)
  have HS1 := hide (Below.then_ hb0.out (Below.then_ B2.out hSA1))
  have hflat : [dig h.version.toNat 4, h.prev, h.root].flatten = dig h.version.toNat 4 ++ h.prev ++ h.root := by simp
  rw [hflat] at T3
  have HX := hide (index3_run h.time h.bits h.nonce)
  clear C3 hSA0 hSA1 hSA2 t3 f3 hflat
  go_wp2_with fail
  obtain ⟨hs, hhs⟩ : ∃ hs, hs = [h.time, h.bits, h.nonce] := ⟨_, rfl⟩
  obtain ⟨P0, hP0⟩ : ∃ P0, P0 = dig h.version.toNat 4 ++ h.prev ++ h.root := ⟨_, rfl⟩
  rw [← hhs] at HX
  rw [← hP0] at T3
  have hl0 := hide (show P0.length = 68 by rw [hP0]; simp [dig_length, HF.out.plen, HF.out.rlen])
  have hbd := hide (show ∀ x ∈ hs, 0 ≤ x ∧ x ≤ 4294967295 by
    rw [hhs]; intro x hx
    simp only [List.mem_cons, List.mem_nil_iff, or_false] at hx
    rcases hx with rfl | rfl | rfl
    · exact HF.out.time
    · exact HF.out.bits
    · exact HF.out.nonce)
  have hlh := hide (show hs.length = 3 by rw [hhs]; rfl)
  have HE := hide (show P0 ++ hs.flatMap (fun x => dig x.toNat 4) = h.bytes by rw [hP0, hhs]; simp [HeadD.bytes])
  have T3w := hide (show Mine 5 w w3 A3 n3 c3 (P0 ++ (hs.take 0).flatMap (fun x => dig x.toNat 4)) by
    rw [List.take_zero, List.flatMap_nil, List.append_nil]
    exact T3.out.older HS1.out)
  have F3w := hide (show Fr w A3 from F3.out.older HS1.out)
  clear hhs hP0 T3 F3 k65 k66 k67
  go_loopw [3, 24] (fun b i wr => ∃ (j n : Nat) (A : Option Addr) (c : Nat), j ≤ 3 ∧ i = .int .i64 (j : Int) ∧ b = .slice A n c ∧ Mine 5 w wr A n c (P0 ++ (hs.take j).flatMap (fun x => dig x.toNat 4)) ∧ Fr w A) (fun _ i _ => 3 - (intOf i).toNat)
  case atStart => exact ⟨0, n3, A3, c3, by decide, rfl, rfl, T3w.out, F3w.out⟩
  case round =>
    obtain ⟨j, n, A, c, hj, rfl, rfl, hM, hF⟩ := hrel
    have HM := hide hM
    have HFr := hide hF
    clear hM hF
    by_cases hlt : j < 3
    · obtain ⟨x, hx⟩ : ∃ x, hs[j]? = some x := ⟨_, List.getElem?_eq_getElem (by have := hlh.out; omega)⟩
      have hix := HX.out j hlt
      rw [List.getD_eq_getElem?_getD, hx] at hix
      simp only [Option.getD_some] at hix
      have hb := hbd.out x (List.mem_of_getElem? hx)
      have ux : IntKind.u64.wrap x = x := u64_small _ hb.1 hb.2
      have HB := hide hb
      have HTK := hide (show (hs.take (j + 1)).flatMap (fun x => dig x.toNat 4) = (hs.take j).flatMap (fun x => dig x.toNat 4) ++ dig x.toNat 4 from flatMap_take _ hs j x hx)
      have i1 : (j : Int) < 3 := by omega
      have hln := hide (show n ≤ 80 by
        have h1 := HM.out.len
        have h2 := flatMap_len (fun x : Int => dig x.toNat 4) (hs.take j) 4 (fun a _ => by rw [dig_length]; exact Nat.le_refl _)
        have h3 := hl0.out
        rw [List.length_append] at h1
        rw [List.length_take] at h2
        omega)
      clear hx hb
      go_wp2_with fail
      refine (Fixed_any wr wr A n c _ x 4 (Below.refl _ _) HM.out.bys HB.out.1 (by have := HB.out.2; omega) (by have := hln.out; omega)).mono ?_
      rintro e w5 ⟨A5, n5, c5, rfl, t5, f5⟩
      have hw4 : (Rd.within 4).toNat = 4 := rfl
      rw [hw4, List.append_assoc, ← HTK.out] at t5
      have T5 := hide (t5.older HM.out.below)
      have F5 := hide ((f5 (Fr.none _)).older HM.out.below)
      clear t5 f5 hw4 hix
      go_wp2_with fail
      exact ⟨⟨j + 1, n5, A5, c5, by omega, by simp, rfl, T5.out, F5.out⟩, by simp [intOf]; omega⟩
    · obtain rfl : j = 3 := by omega
      have hall : hs.take 3 = hs := List.take_of_length_le (by rw [hlh.out]; exact Nat.le_refl _)
      rw [hall, HE.out] at HM
      clear hall hj hlt
      go_wp2_with fail
      go_ret
      exact MinePost.mk HM.out HFr.out
end Go.Proofs.Ytbpmcnfmgaolnaa
/-
  Heads' names, the program's and the document's; heads read.
-/
namespace Go.Proofs.Ytbpmcnfmgaolnaa
open Go.RowKit

attribute [local go_sem ↓] loadHead_fold
set_option maxHeartbeats 4000000 in
set_option maxRecDepth 100000 in
theorem BId_any (w : World) (t : HeadD) (hf : t.Fine) :
    Calls Try.prog 41 #[.agg t.cells.toArray] w fun e w' => e = .returned (.agg (bcs (sha2 t.bytes)).toArray) ∧ Below w.heap.size w w' := by
  have hHH := hide Try.underlying31
  have hIH : (Try.prog.info? 31).map (·.size) = some 32 := by kernel_rfl
  have lz32 : (bcs zero32).length = 32 := rfl
  have lsh2 : (bcs (sha2 t.bytes)).length = 32 := by rw [bcs_length, sha2_len]
  have b1 : Below w.heap.size w ((w.alloc (.cells t.cells.toArray 33)).alloc (.cells (bcs zero32).toArray 31)) := Below.then_ ((Below.refl _ w).alloc (Nat.le_refl _) _) ((Below.refl _ _).alloc (Nat.le_refl _) _)
  have T0 := (Blk.new w 33 t.cells).alloc (.cells (bcs zero32).toArray 31)
  have K0 := hide (Blk.new1 w (.cells t.cells.toArray 33) 31 (bcs zero32))
  have hld := loadHead_run _ w.heap.size 0 t T0.whole hf
  have hF := hide hf
  have B1 := hide b1
  have hlen := hide (show t.bytes.length ≤ 100000000 by rw [HeadD.bytes_len hf]; decide)
  have hsz := hide (show ((w.alloc (.cells t.cells.toArray 33)).alloc (.cells (bcs zero32).toArray 31)).heap.size = w.heap.size + 2 by simp)
  clear T0 b1 hf
  go_enter Try.func41, Try.ntmps41
  go_wp2_with (refine wpList_alloc_agg rfl 31 rfl (bcs zero32) zero32_info ?_; simp only [Act.put, List.setIfInBounds_toArray, List.set_cons_zero, List.set_cons_succ, World.size_alloc])
  refine (HeadBytes_any _ t hF.out).mono ?_
  rintro e w2 ⟨A2, n2, c2, rfl, t2, f2⟩
  have hb2 := hide (Below.then_ B1.out t2.below)
  have K2 := hide (K0.out.under t2.below)
  have hn2 := t2.len
  have HBY := hide (Byss.one w2 w2 56 A2 n2 c2 t.bytes t2.bys t2.cap (Below.refl _ _))
  have hb23 : Below w2.heap.size w2 (w2.alloc (.cells #[.slice A2 n2 c2] 56)) := (Below.refl _ w2).alloc (Nat.le_refl _) _
  have HB23 := hide hb23
  clear hld t2 f2 hn2 hb23
  go_wp2_with fail
  refine (Twice_any _ _ 1 1 [t.bytes] HBY.out (by simp) (by simpa using hlen.out) (by decide)).mono ?_
  rintro e w5 ⟨rfl, hb5⟩
  have hf1 : [t.bytes].flatten = t.bytes := by simp
  rw [hf1]
  have hb25 := hide (Below.then_ HB23.out hb5)
  have K5 := hide (K2.out.under hb25.out)
  have hbw := hide (Below.then_ hb2.out hb25.out)
  go_wp2_with (refine wpList_store_blk rfl 31 _ _ rfl (w.heap.size + 1) 0 31 (bcs zero32) (bcs (sha2 t.bytes)) (by rfl) (by rfl) K5.out (by rw [lz32, lsh2]; decide) (by rw [hIH, lsh2]) (bcs_one _) ?_; intro w9 o9 z9 b9; simp only [Act.put])
  rw [lay_all (bcs zero32) _ (by rw [lz32, lsh2])] at b9
  refine bodyPost_ret (results_cell_blk rfl _ _ (w.heap.size + 1) 31 _ _ (by rfl) b9 hHH.out rfl (by rw [hIH, lsh2])) rfl ⟨rfl, ?_⟩
  exact hbw.out.trans (o9.below hbw.out.size (fun i hi e => by have h9 : i = w.heap.size + 1 := e; omega))
set_option maxHeartbeats 4000000 in
set_option maxRecDepth 100000 in
theorem refBId_any (w : World) (t : HeadD) (hf : t.Fine) :
    Calls Try.prog 17 #[.agg t.cells.toArray] w fun e w' => e = .returned (.agg (bcs (sha2 t.bytes)).toArray) ∧ Below w.heap.size w w' := by
  have hHH := hide Try.underlying31
  have hIH : (Try.prog.info? 31).map (·.size) = some 32 := by kernel_rfl
  have lz32 : (bcs zero32).length = 32 := rfl
  have lsh2 : (bcs (sha2 t.bytes)).length = 32 := by rw [bcs_length, sha2_len]
  have b1 : Below w.heap.size w ((w.alloc (.cells t.cells.toArray 33)).alloc (.cells (bcs zero32).toArray 31)) := below_alloc (below_alloc (Below.refl _ _) _) _
  have T0 := (Blk.new w 33 t.cells).alloc (.cells (bcs zero32).toArray 31)
  have K0 := hide (Blk.new1 w (.cells t.cells.toArray 33) 31 (bcs zero32))
  have hld := loadHead_run _ w.heap.size 0 t T0.whole hf
  have hF := hide hf
  have B1 := hide b1
  have hlen := hide (show t.bytes.length ≤ 100000000 by rw [HeadD.bytes_len hf]; decide)
  clear T0 b1 hf
  go_enter Try.func17, Try.ntmps17
  go_wp2_with (refine wpList_alloc_agg rfl 31 rfl (bcs zero32) zero32_info ?_; simp only [Act.put, List.setIfInBounds_toArray, List.set_cons_zero, List.set_cons_succ, World.size_alloc])
  refine (refHeadBytes_any _ t hF.out).mono ?_
  rintro e w2 ⟨A2, n2, c2, rfl, t2, f2⟩
  have hb2 := hide (Below.then_ B1.out t2.below)
  have K2 := hide (K0.out.under t2.below)
  have hn2 := hide t2.len
  have HBY := hide t2.bys
  clear hld t2 f2
  go_wp2_with fail
  refine (rtwice_any _ A2 n2 c2 t.bytes HBY.out (by have h1 := hlen.out; have h2 := hn2.out; omega)).mono ?_
  rintro e w5 ⟨rfl, hb5⟩
  have K5 := hide (K2.out.under hb5)
  have hbw := hide (Below.then_ hb2.out hb5)
  go_wp2_with (refine wpList_store_blk rfl 31 _ _ rfl (w.heap.size + 1) 0 31 (bcs zero32) (bcs (sha2 t.bytes)) (by rfl) (by rfl) K5.out (by rw [lz32, lsh2]; decide) (by rw [hIH, lsh2]) (bcs_one _) ?_; intro w9 o9 z9 b9; simp only [Act.put])
  rw [lay_all (bcs zero32) _ (by rw [lz32, lsh2])] at b9
  refine bodyPost_ret (results_cell_blk rfl _ _ (w.heap.size + 1) 31 _ _ (by rfl) b9 hHH.out rfl (by rw [hIH, lsh2])) rfl ⟨rfl, ?_⟩
  exact hbw.out.trans (o9.below hbw.out.size (fun i hi e => by have h9 : i = w.heap.size + 1 := e; omega))
end Go.Proofs.Ytbpmcnfmgaolnaa
