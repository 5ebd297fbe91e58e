import Derived.Test.YtbpmcnfmgaolnaaBlkUP
/-
  BlockTurns: the law's walk.
-/
namespace Go.Proofs.Ytbpmcnfmgaolnaa
open Go.RowKit
section
variable {P : Program} {ops : Array Oper} {Q : Exit → Act → World → Prop} {md : Region.Mode} {S : World → Prop}
theorem tk {i : Nat} {oi : Oper} {v : Value} {fuel : Nat} {listed : Array Bool} {a : Act} {w : World} (hS : S w) (hv : ∀ w, S w → (execOp a.eval oi).run P w = .ok (.value v) w) (h : wpAnyH P md ops Q S fuel (listed.setIfInBounds i true) (a.put oi.dst v) w) (hi : ops[i]? = some oi := by rfl) (hw : Region.wanted oi (yielded ops a.tmps) = true := by rfl) (hs : Region.noSelect ops = true := by kernel_rfl) (hf : Region.free md ops listed i = true := by kernel_rfl) (hr : (Region.ready md ops listed).contains i = true := by kernel_rfl) (hQ : ∀ c a w, Q (.panic c) (a.put oi.dst v) w → Q (.panic c) a w := by exact fun _ _ _ h => h) : wpAnyH P md ops Q S (fuel + 1) listed a w := wpAnyH_take hi hs hf hr hQ (Or.inl ⟨hw, hv⟩) hS h
theorem sT {α : Type} (l : List α) (i : Nat) (a : α) : l.toArray.setIfInBounds i a = (l.set i a).toArray := by simp
theorem sZ {α : Type} (a b : α) (l : List α) : (a :: l).set 0 b = b :: l := rfl
theorem sS {α : Type} (a b : α) (l : List α) (n : Nat) : (a :: l).set (n + 1) b = a :: l.set n b := rfl
end

theorem hash_store2 {w : World} {ops : Array Oper} {rest : List Oper} {op : Oper} {a : Act} {Q : Exit → Act → World → Prop} (hgd : op.guard = none) (x y : Operand) (ho : op.op = .store 31 x y)
    (g : Nat) (cs : List Value) (d : List Int) (hc : cs.length = 32) (hd : d.length = 32) (hx : a.eval x = .pointer (some ⟨g, 0, none⟩)) (hy : a.eval y = .agg (bcs d).toArray) (hb : Blk w g 31 cs)
    (h : ∀ w', Only (fun i => i = g) w w' → Blk w' g 31 (bcs d) → wpList Try.prog ops Q rest (a.put op.dst undef) w') : wpList Try.prog ops Q (op :: rest) a w := by
  refine wpList_store_blk hgd 31 x y ho g 0 31 cs (bcs d) hx hy hb (by rw [bcs_length, hd, hc]; exact Nat.le_refl _) (by rw [bcs_length, hd]; exact isHash32) (bcs_one d) ?_
  intro w' o z b
  rw [lay_all _ _ (by rw [bcs_length, hd, hc])] at b
  exact h w' o b
theorem head_store2 {w : World} {ops : Array Oper} {rest : List Oper} {op : Oper} {a : Act} {Q : Exit → Act → World → Prop} (hgd : op.guard = none) (x y : Operand) (ho : op.op = .store 33 x y)
    (g : Nat) (c d : HeadD) (hc : c.Fine) (hd : d.Fine) (hx : a.eval x = .pointer (some ⟨g, 0, none⟩)) (hy : a.eval y = .agg d.cells.toArray) (hb : Blk w g 33 c.cells)
    (h : ∀ w', Only (fun i => i = g) w w' → Blk w' g 33 d.cells → wpList Try.prog ops Q rest (a.put op.dst undef) w') : wpList Try.prog ops Q (op :: rest) a w := by
  refine wpList_store_blk hgd 33 x y ho g 0 33 c.cells d.cells hx hy hb (by rw [HeadD.cells_len hc, HeadD.cells_len hd]; exact Nat.le_refl _) (by rw [HeadD.cells_len hd]; exact isHead) (HeadD.one d) ?_
  intro w' o z b
  rw [lay_all _ _ (by rw [HeadD.cells_len hc, HeadD.cells_len hd])] at b
  exact h w' o b
/-- What the walk knows: a row of hashes of its own (block g), the row that came in, the head's box, and roots in variables. -/
structure TS (w0 : World) (g : Nat) (A : Option Addr) (n : Nat) (l : List (List Int)) (h : HeadD) (l' : List (List Int)) (ks : List (Nat × List Int)) (w : World) : Prop where
  below : Below w0.heap.size w0 w
  own : RowB w g 31 (l'.flatMap bcs)
  lst : HashesIn w A n l
  box : Blk w w0.heap.size 33 h.cells
  ks : ∀ q ∈ ks, Blk w q.1 31 (bcs q.2) ∧ q.1 ≠ g
  far : ∀ ad, A = some ad → ad.block ≠ g
  hw : w0.heap.size < g
theorem TS.under {w0 w w' : World} {g n : Nat} {A : Option Addr} {l l' : List (List Int)} {h : HeadD} {ks : List (Nat × List Int)} (s : TS w0 g A n l h l' ks w) (hb : Below w.heap.size w w') : TS w0 g A n l h l' ks w' :=
  ⟨Below.then_ s.below hb, s.own.under hb, s.lst.below' hb, s.box.under hb, fun q hq => ⟨(s.ks q hq).1.under hb, (s.ks q hq).2⟩, s.far, s.hw⟩
theorem TS.change {w0 w w' : World} {g n : Nat} {A : Option Addr} {l l' l2 : List (List Int)} {h : HeadD} {ks : List (Nat × List Int)} (s : TS w0 g A n l h l' ks w) (ho : Only (fun i => i = g) w w') (hr : RowB w' g 31 (l2.flatMap bcs)) : TS w0 g A n l h l2 ks w' := by
  have hw := s.hw
  refine ⟨ho.under s.below (fun i hi => by have h9 : i = g := hi; omega), hr, ⟨s.lst.1, s.lst.2.1, fun hn => ?_⟩, ho.blk s.box (by show ¬ w0.heap.size = g; omega), fun q hq => ⟨ho.blk (s.ks q hq).1 (s.ks q hq).2, (s.ks q hq).2⟩, s.far, hw⟩
  obtain ⟨b, off, e, hrow⟩ := s.lst.2.2 hn
  refine ⟨b, off, e, fun i a ha j v hv => ?_⟩
  have h1 := hrow i a ha j v hv
  exact (World.cell?_of_block (ho.block b (World.block_lt_of_cell? _ _ h1) (s.far _ e))).trans h1
theorem TS.add {w0 w w' : World} {g n : Nat} {A : Option Addr} {l l' : List (List Int)} {h : HeadD} {ks : List (Nat × List Int)} {R : List Int} (s : TS w0 g A n l h l' ks w) (hb : Below w.heap.size w w') (hk : Blk w' w.heap.size 31 (bcs R)) : TS w0 g A n l h l' ((w.heap.size, R) :: ks) w' := by
  have hg := s.own.lt
  have s' := s.under hb
  refine ⟨s'.below, s'.own, s'.lst, s'.box, fun q hq => ?_, s.far, s.hw⟩
  rcases List.mem_cons.1 hq with rfl | hq
  · exact ⟨hk, by show w.heap.size ≠ g; omega⟩
  · exact s'.ks q hq
theorem head_nonceSet {h : HeadD} (hf : h.Fine) (v : Int) : h.cells.set 67 (.int .u32 v) = (⟨h.version, h.prev, h.root, h.time, h.bits, v⟩ : HeadD).cells := by
  have e : h.cells = (.int .u32 h.version :: (bcs h.prev ++ (bcs h.root ++ [.int .u32 h.time, .int .u32 h.bits]))) ++ [.int .u32 h.nonce] := by simp [HeadD.cells]
  have hl : (Value.int .u32 h.version :: (bcs h.prev ++ (bcs h.root ++ [.int .u32 h.time, .int .u32 h.bits]))).length = 67 := by simp [bcs_length, hf.plen, hf.rlen]
  rw [e, List.set_append_right _ _ (by rw [hl]; exact Nat.le_refl _), hl]
  simp [HeadD.cells]
theorem head_nonceCell {w : World} {g : Nat} {t : TypeId} {h : HeadD} (hb : Blk w g t h.cells) (hf : h.Fine) : w.cell? ⟨g, 67, none⟩ = some (.int .u32 h.nonce) := by
  have e : h.cells = (.int .u32 h.version :: (bcs h.prev ++ (bcs h.root ++ [.int .u32 h.time, .int .u32 h.bits]))) ++ [.int .u32 h.nonce] := by simp [HeadD.cells]
  have hl : (Value.int .u32 h.version :: (bcs h.prev ++ (bcs h.root ++ [.int .u32 h.time, .int .u32 h.bits]))).length = 67 := by simp [bcs_length, hf.plen, hf.rlen]
  rw [hb.cell, e, List.getElem?_append_right (by rw [hl]; exact Nat.le_refl _), hl]
  rfl
theorem set_swap_byt {l : List (List Int)} {k : Nat} {x y : List Int} (hf : ∀ z ∈ l, z.length = 32 ∧ Byt z) (hx : l[k]? = some x) (hy : l[k + 1]? = some y) : ∀ z ∈ (l.set k y).set (k + 1) x, z.length = 32 ∧ Byt z := fun z hz => by
  rcases List.mem_or_eq_of_mem_set hz with h1 | h1
  · rcases List.mem_or_eq_of_mem_set h1 with h2 | h2
    · exact hf z h2
    · rw [h2]; exact hf y (List.mem_of_getElem? hy)
  · rw [h1]; exact hf x (List.mem_of_getElem? hx)
theorem set_byt {l : List (List Int)} {k : Nat} {y : List Int} (hf : ∀ z ∈ l, z.length = 32 ∧ Byt z) (hy : y.length = 32 ∧ Byt y) : ∀ z ∈ l.set k y, z.length = 32 ∧ Byt z := fun z hz => by
  rcases List.mem_or_eq_of_mem_set hz with h2 | h2
  · exact hf z h2
  · rw [h2]; exact hy
theorem byte_byt {y : List Int} (hy : y.length = 32 ∧ Byt y) (i : Nat) (v : Int) (h0 : 0 ≤ v) (h1 : v ≤ 255) : (y.set i v).length = 32 ∧ Byt (y.set i v) := by
  refine ⟨by rw [List.length_set]; exact hy.1, fun z hz => ?_⟩
  rcases List.mem_or_eq_of_mem_set hz with h2 | h2
  · exact hy.2 z h2
  · omega
attribute [local go_sem ↓] loadHash_fold loadHead_fold eqlHash_fold neqHash_fold
attribute [local go_sem] guardHash
theorem flat_rangeH {α : Type} {cells : α → List Value} {k : Nat} {w : World} {b : Nat} : ∀ (xs : List α) (off : Nat), (∀ a ∈ xs, (cells a).length = k) → (∀ (i : Nat) (a : α), xs[i]? = some a → w.rangeAt b (off + i * k) (cells a)) → w.rangeAt b off (xs.flatMap cells)
  | [], _, _, _ => fun j v hv => by simp at hv
  | a :: l, off, hl, h => fun j v hv => by
    have ha := hl a (by simp)
    rw [List.flatMap_cons, List.getElem?_append] at hv
    split at hv
    · have := h 0 a rfl j v hv
      simpa using this
    · rename_i hj
      have ih := flat_rangeH l (off + k) (fun x hx => hl x (by simp [hx])) (fun i x hx => by
        have := h (i + 1) x (by simpa using hx)
        rwa [show off + (i + 1) * k = off + k + i * k by rw [Nat.add_mul]; omega] at this) (j - (cells a).length) v hv
      rwa [show off + k + (j - (cells a).length) = off + j by omega] at ih
set_option maxHeartbeats 2000000 in
set_option maxRecDepth 100000 in
theorem turns_r8 {Q : Exit → Act → World → Prop} (hPan : ∀ c (a : Act) (d : Nat) v w, Q (.panic c) (a.put (some d) v) w → Q (.panic c) a w) (u0 u1 u2 u3 u4 u5 u6 u7 u8 u11 u12 u13 u14 u15 u16 u17 u18 u19 u20 u21 u22 u23 u24 u25 u26 u27 u28 u29 u30 u31 u32 u33 u34 u35 u36 u37 u38 u39 u40 u41 u42 u43 u44 u45 u46 u47 u48 u49 u50 u51 u52 u53 u54 u55 u56 u57 u58 u59 u60 u61 u62 u63 u64 u65 u66 u67 u68 u69 u70 u71 u72 u73 u74 u75 u76 u77 u78 u79 u80 u81 u82 u83 u84 u85 u86 u87 u88 u89 u90 u91 u92 u93 u94 u95 u96 u97 u98 u99 u100 u101 u102 u103 u104 u105 u106 u107 u108 u109 u110 u111 u112 u113 u114 u115 u116 u117 u118 u119 u120 u121 u122 u123 u124 u125 u126 u127 u128 u129 u130 u131 u132 u133 u134 : Value) (w5 : World) (g k n c3 : Nat) (l : List (List Int)) (x y : List Int) (hl : ∀ x ∈ l, x.length = 32) (hx : l[k]? = some x) (hy : l[k + 1]? = some y) (hn : l.length = n) (hkn : k + 2 ≤ n) (hn60 : n ≤ 60) (HR : Hid (RowB w5 g 31 (l.flatMap bcs)))
    (hQ : ∀ (v46 v47 v48 v49 v50 v51 v52 v53 v54 v55 v56 v57 v58 v59 v60 v61 : Value) (w' : World), Only (fun i => i = g) w5 w' → RowB w' g 31 (((l.set k y).set (k + 1) x).flatMap bcs) → Q .normal { tmps := List.toArray (u0 :: u1 :: u2 :: u3 :: u4 :: u5 :: u6 :: u7 :: u8 :: .int .i64 (k : Int) :: .slice (some ⟨g, 0, none⟩) n c3 :: u11 :: u12 :: u13 :: u14 :: u15 :: u16 :: u17 :: u18 :: u19 :: u20 :: u21 :: u22 :: u23 :: u24 :: u25 :: u26 :: u27 :: u28 :: u29 :: u30 :: u31 :: u32 :: u33 :: u34 :: u35 :: u36 :: u37 :: u38 :: u39 :: u40 :: u41 :: u42 :: u43 :: u44 :: u45 :: v46 :: v47 :: v48 :: v49 :: v50 :: v51 :: v52 :: v53 :: v54 :: v55 :: v56 :: v57 :: v58 :: v59 :: v60 :: v61 :: u62 :: u63 :: u64 :: u65 :: u66 :: u67 :: u68 :: u69 :: u70 :: u71 :: u72 :: u73 :: u74 :: u75 :: u76 :: u77 :: u78 :: u79 :: u80 :: u81 :: u82 :: u83 :: u84 :: u85 :: u86 :: u87 :: u88 :: u89 :: u90 :: u91 :: u92 :: u93 :: u94 :: u95 :: u96 :: u97 :: u98 :: u99 :: u100 :: u101 :: u102 :: u103 :: u104 :: u105 :: u106 :: u107 :: u108 :: u109 :: u110 :: u111 :: u112 :: u113 :: u114 :: u115 :: u116 :: u117 :: u118 :: u119 :: u120 :: u121 :: u122 :: u123 :: u124 :: u125 :: u126 :: u127 :: u128 :: u129 :: u130 :: u131 :: u132 :: u133 :: u134 :: []), defers := [] } w') :
    (Code.region 8 #[⟨some 46, .move (.tmp 10), 65, "law.go:142", #[], none⟩, ⟨some 47, .move (.tmp 9), 3, "law.go:142", #[], none⟩, ⟨some 48, .move (.tmp 10), 65, "law.go:142", #[⟨15, .gcOnly .lateStores⟩], none⟩, ⟨some 49, .move (.tmp 9), 3, "law.go:142", #[⟨15, .gcOnly .lateStores⟩], none⟩, ⟨some 50, .binOp .add 3 (.tmp 49) (.const (.int .i64 1)) 3, 3, "law.go:142", #[⟨3, .data⟩, ⟨15, .gcOnly .lateStores⟩], none⟩, ⟨some 51, .move (.tmp 10), 65, "law.go:142", #[], none⟩, ⟨some 52, .move (.tmp 9), 3, "law.go:142", #[], none⟩, ⟨some 53, .binOp .add 3 (.tmp 52) (.const (.int .i64 1)) 3, 3, "law.go:142", #[⟨6, .data⟩], none⟩, ⟨some 54, .indexAddr 65 (.tmp 51) (.tmp 53), 0, "law.go:142", #[⟨5, .data⟩, ⟨7, .data⟩], none⟩, ⟨some 55, .load 31 (.tmp 54), 31, "law.go:142", #[⟨8, .data⟩], none⟩, ⟨some 56, .move (.tmp 10), 65, "law.go:142", #[], none⟩, ⟨some 57, .move (.tmp 9), 3, "law.go:142", #[], none⟩, ⟨some 58, .indexAddr 65 (.tmp 56) (.tmp 57), 0, "law.go:142", #[⟨10, .data⟩, ⟨11, .data⟩], none⟩, ⟨some 59, .load 31 (.tmp 58), 31, "law.go:142", #[⟨12, .data⟩], none⟩, ⟨some 60, .indexAddr 65 (.tmp 46) (.tmp 47), 0, "law.go:142", #[⟨0, .data⟩, ⟨1, .data⟩, ⟨0, .phase⟩, ⟨1, .phase⟩, { on := 2, ground := Go.Ground.textOnly Go.Departure.lateStores }, { on := 3, ground := Go.Ground.textOnly Go.Departure.lateStores }, { on := 4, ground := Go.Ground.textOnly Go.Departure.lateStores }, ⟨5, .phase⟩, ⟨6, .phase⟩, ⟨7, .phase⟩, ⟨8, .phase⟩, ⟨9, .phase⟩, { on := 10, ground := Go.Ground.textOnly Go.Departure.lateStores }, { on := 11, ground := Go.Ground.textOnly Go.Departure.lateStores }, { on := 12, ground := Go.Ground.textOnly Go.Departure.lateStoresUnsure }, ⟨13, .phase⟩], none⟩, ⟨none, .store 31 (.tmp 60) (.tmp 55), 0, "law.go:142", #[⟨14, .data⟩, ⟨9, .data⟩, ⟨0, .phase⟩, ⟨1, .phase⟩, { on := 2, ground := Go.Ground.textOnly Go.Departure.lateStores }, { on := 3, ground := Go.Ground.textOnly Go.Departure.lateStores }, { on := 4, ground := Go.Ground.textOnly Go.Departure.lateStores }, ⟨5, .phase⟩, ⟨6, .phase⟩, ⟨7, .phase⟩, ⟨8, .phase⟩, ⟨9, .phase⟩, { on := 10, ground := Go.Ground.textOnly Go.Departure.lateStores }, { on := 11, ground := Go.Ground.textOnly Go.Departure.lateStores }, { on := 12, ground := Go.Ground.textOnly Go.Departure.lateStoresUnsure }, ⟨13, .phase⟩], none⟩, ⟨some 61, .indexAddr 65 (.tmp 48) (.tmp 50), 0, "law.go:142", #[⟨2, .data⟩, ⟨4, .data⟩, ⟨0, .phase⟩, ⟨1, .phase⟩, ⟨2, .phase⟩, ⟨3, .phase⟩, ⟨4, .phase⟩, ⟨5, .phase⟩, ⟨6, .phase⟩, ⟨7, .phase⟩, ⟨8, .phase⟩, ⟨9, .phase⟩, ⟨10, .phase⟩, ⟨11, .phase⟩, ⟨12, .phase⟩, ⟨13, .phase⟩, ⟨14, .phase⟩, ⟨15, .phase⟩], none⟩, ⟨none, .store 31 (.tmp 61) (.tmp 59), 0, "law.go:142", #[⟨16, .data⟩, ⟨13, .data⟩, ⟨15, .chain⟩, ⟨0, .phase⟩, ⟨1, .phase⟩, ⟨2, .phase⟩, ⟨3, .phase⟩, ⟨4, .phase⟩, ⟨5, .phase⟩, ⟨6, .phase⟩, ⟨7, .phase⟩, ⟨8, .phase⟩, ⟨9, .phase⟩, ⟨10, .phase⟩, ⟨11, .phase⟩, ⟨12, .phase⟩, ⟨13, .phase⟩, ⟨14, .phase⟩, ⟨15, .phase⟩], none⟩] true).wp Try.prog Q { tmps := List.toArray (u0 :: u1 :: u2 :: u3 :: u4 :: u5 :: u6 :: u7 :: u8 :: .int .i64 (k : Int) :: .slice (some ⟨g, 0, none⟩) n c3 :: u11 :: u12 :: u13 :: u14 :: u15 :: u16 :: u17 :: u18 :: u19 :: u20 :: u21 :: u22 :: u23 :: u24 :: u25 :: u26 :: u27 :: u28 :: u29 :: u30 :: u31 :: u32 :: u33 :: u34 :: u35 :: u36 :: u37 :: u38 :: u39 :: u40 :: u41 :: u42 :: u43 :: u44 :: u45 :: u46 :: u47 :: u48 :: u49 :: u50 :: u51 :: u52 :: u53 :: u54 :: u55 :: u56 :: u57 :: u58 :: u59 :: u60 :: u61 :: u62 :: u63 :: u64 :: u65 :: u66 :: u67 :: u68 :: u69 :: u70 :: u71 :: u72 :: u73 :: u74 :: u75 :: u76 :: u77 :: u78 :: u79 :: u80 :: u81 :: u82 :: u83 :: u84 :: u85 :: u86 :: u87 :: u88 :: u89 :: u90 :: u91 :: u92 :: u93 :: u94 :: u95 :: u96 :: u97 :: u98 :: u99 :: u100 :: u101 :: u102 :: u103 :: u104 :: u105 :: u106 :: u107 :: u108 :: u109 :: u110 :: u111 :: u112 :: u113 :: u114 :: u115 :: u116 :: u117 :: u118 :: u119 :: u120 :: u121 :: u122 :: u123 :: u124 :: u125 :: u126 :: u127 :: u128 :: u129 :: u130 :: u131 :: u132 :: u133 :: u134 :: []), defers := [] } w5 := by
  have i0 : (0 : Int) ≤ (k : Int) := by omega
  have i1 : (k : Int) < (n : Int) := by omega
  have i2 : (k : Int) + 1 < (n : Int) := by omega
  have hk9 : (k : Int) ≤ 1000 := by omega
  have hw1 : IntKind.i64.wrap ((k : Int) + 1) = (k : Int) + 1 := by rw [IntKind.wrap_i64]; omega
  have i3 : (0 : Int) ≤ (k : Int) + 1 := by omega
  have i4 : ((k : Int) + 1).toNat = k + 1 := by omega
  have hn9 : (n : Int) ≤ 1000 := by omega
  have hs : ∀ x ∈ l.set k y, x.length = 32 := fun z hz => by
    rcases List.mem_or_eq_of_mem_set hz with h1 | h1
    · exact hl z h1
    · rw [h1]; exact hl y (List.mem_of_getElem? hy)
  refine wp_region_held_drew (S := fun _ => True) (by kernel_rfl) (trivial) (fun hSA0 => ?_)
  obtain ⟨w5d, hwA⟩ : ∃ x, x = w5.drew := ⟨_, rfl⟩
  have Bw5d := hide (show Below w5.heap.size w5 w5d by rw [hwA]; exact (Below.refl _ _).drew)
  have Rw5d := hide (HR.out.under Bw5d.out)
  rw [← hwA]
  clear hwA
  (refine tk (i := 0) (oi := ⟨some 46, .move (.tmp 10), 65, "law.go:142", #[], none⟩) (v := ?_) hSA0 (fun w' hSw => ?_) ?_ (hQ := fun c a w h => hPan c a _ _ w h); rotate_left; focus (go_simp; try with_reducible rfl))
  simp only [Act.put, sT, sZ, sS]
  (refine tk (i := 1) (oi := ⟨some 47, .move (.tmp 9), 3, "law.go:142", #[], none⟩) (v := ?_) hSA0 (fun w' hSw => ?_) ?_ (hQ := fun c a w h => hPan c a _ _ w h); rotate_left; focus (go_simp; try with_reducible rfl))
  simp only [Act.put, sT, sZ, sS]
  (refine tk (i := 2) (oi := ⟨some 48, .move (.tmp 10), 65, "law.go:142", #[⟨15, .gcOnly .lateStores⟩], none⟩) (v := ?_) hSA0 (fun w' hSw => ?_) ?_ (hQ := fun c a w h => hPan c a _ _ w h); rotate_left; focus (go_simp; try with_reducible rfl))
  simp only [Act.put, sT, sZ, sS]
  (refine tk (i := 3) (oi := ⟨some 49, .move (.tmp 9), 3, "law.go:142", #[⟨15, .gcOnly .lateStores⟩], none⟩) (v := ?_) hSA0 (fun w' hSw => ?_) ?_ (hQ := fun c a w h => hPan c a _ _ w h); rotate_left; focus (go_simp; try with_reducible rfl))
  simp only [Act.put, sT, sZ, sS]
  (refine tk (i := 4) (oi := ⟨some 50, .binOp .add 3 (.tmp 49) (.const (.int .i64 1)) 3, 3, "law.go:142", #[⟨3, .data⟩, ⟨15, .gcOnly .lateStores⟩], none⟩) (v := ?_) hSA0 (fun w' hSw => ?_) ?_ (hQ := fun c a w h => hPan c a _ _ w h); rotate_left; focus (go_simp; try with_reducible rfl))
  simp only [Act.put, sT, sZ, sS]
  (refine tk (i := 5) (oi := ⟨some 51, .move (.tmp 10), 65, "law.go:142", #[], none⟩) (v := ?_) hSA0 (fun w' hSw => ?_) ?_ (hQ := fun c a w h => hPan c a _ _ w h); rotate_left; focus (go_simp; try with_reducible rfl))
  simp only [Act.put, sT, sZ, sS]
  (refine tk (i := 6) (oi := ⟨some 52, .move (.tmp 9), 3, "law.go:142", #[], none⟩) (v := ?_) hSA0 (fun w' hSw => ?_) ?_ (hQ := fun c a w h => hPan c a _ _ w h); rotate_left; focus (go_simp; try with_reducible rfl))
  simp only [Act.put, sT, sZ, sS]
  (refine tk (i := 7) (oi := ⟨some 53, .binOp .add 3 (.tmp 52) (.const (.int .i64 1)) 3, 3, "law.go:142", #[⟨6, .data⟩], none⟩) (v := ?_) hSA0 (fun w' hSw => ?_) ?_ (hQ := fun c a w h => hPan c a _ _ w h); rotate_left; focus (go_simp; try with_reducible rfl))
  simp only [Act.put, sT, sZ, sS]
  (refine tk (i := 8) (oi := ⟨some 54, .indexAddr 65 (.tmp 51) (.tmp 53), 0, "law.go:142", #[⟨5, .data⟩, ⟨7, .data⟩], none⟩) (v := ?_) hSA0 (fun w' hSw => ?_) ?_ (hQ := fun c a w h => hPan c a _ _ w h); rotate_left; focus (go_simp; try with_reducible rfl))
  simp only [Act.put, sT, sZ, sS]
  (refine tk (i := 10) (oi := ⟨some 56, .move (.tmp 10), 65, "law.go:142", #[], none⟩) (v := ?_) hSA0 (fun w' hSw => ?_) ?_ (hQ := fun c a w h => hPan c a _ _ w h); rotate_left; focus (go_simp; try with_reducible rfl))
  simp only [Act.put, sT, sZ, sS]
  (refine tk (i := 11) (oi := ⟨some 57, .move (.tmp 9), 3, "law.go:142", #[], none⟩) (v := ?_) hSA0 (fun w' hSw => ?_) ?_ (hQ := fun c a w h => hPan c a _ _ w h); rotate_left; focus (go_simp; try with_reducible rfl))
  simp only [Act.put, sT, sZ, sS]
  (refine tk (i := 12) (oi := ⟨some 58, .indexAddr 65 (.tmp 56) (.tmp 57), 0, "law.go:142", #[⟨10, .data⟩, ⟨11, .data⟩], none⟩) (v := ?_) hSA0 (fun w' hSw => ?_) ?_ (hQ := fun c a w h => hPan c a _ _ w h); rotate_left; focus (go_simp; try with_reducible rfl))
  simp only [Act.put, sT, sZ, sS]
  refine wpAnyH_ready (rs := [9, 13]) (by kernel_rfl) (by simp) ?_
  refine AllReadyH.cons rfl (fun K hK => ?_) (AllReadyH.cons rfl (fun K hK => ?_) AllReadyH.nil)
  · have h9 := loadHashB_run w5d g ((k + 1) * 32) y (Rw5d.out.hash hl hy) (hl _ (List.mem_of_getElem? hy))
    go_simp
    clear h9
    refine hK.out _ _ (trivial) (fun hSA1 => ?_)
    clear hK K
    refine wpAnyH_ready (rs := [13]) (by kernel_rfl) (by simp) ?_
    refine AllReadyH.cons rfl (fun K hK => ?_) AllReadyH.nil
    have h9 := loadHashB_run w5d g (k * 32) x (Rw5d.out.hash hl hx) (hl _ (List.mem_of_getElem? hx))
    go_simp
    clear h9
    refine hK.out _ _ (trivial) (fun hSA2 => ?_)
    clear hK K
    (refine tk (i := 14) (oi := ⟨some 60, .indexAddr 65 (.tmp 46) (.tmp 47), 0, "law.go:142", #[⟨0, .data⟩, ⟨1, .data⟩, ⟨0, .phase⟩, ⟨1, .phase⟩, { on := 2, ground := Go.Ground.textOnly Go.Departure.lateStores }, { on := 3, ground := Go.Ground.textOnly Go.Departure.lateStores }, { on := 4, ground := Go.Ground.textOnly Go.Departure.lateStores }, ⟨5, .phase⟩, ⟨6, .phase⟩, ⟨7, .phase⟩, ⟨8, .phase⟩, ⟨9, .phase⟩, { on := 10, ground := Go.Ground.textOnly Go.Departure.lateStores }, { on := 11, ground := Go.Ground.textOnly Go.Departure.lateStores }, { on := 12, ground := Go.Ground.textOnly Go.Departure.lateStoresUnsure }, ⟨13, .phase⟩], none⟩) (v := ?_) hSA2 (fun w' hSw => ?_) ?_ (hQ := fun c a w h => hPan c a _ _ w h); rotate_left; focus (go_simp; try with_reducible rfl))
    simp only [Act.put, sT, sZ, sS]
    refine wpAnyH_ready (rs := [15]) (by kernel_rfl) (by simp) ?_
    refine AllReadyH.cons rfl (fun K hK => ?_) AllReadyH.nil
    refine step_store_row rfl _ _ rfl g k l y hl (by omega) (hl _ (List.mem_of_getElem? hy)) (by rfl) (by rfl) Rw5d.out ?_
    intro w6 o6 r6
    have R6 := hide r6
    have O6 := hide ((Only.of_below Bw5d.out (fun i => i = g)).trans o6 (fun _ _ h => h))
    clear o6 r6
    simp only [Act.put]
    refine hK.out _ _ (trivial) (fun hSA3 => ?_)
    clear hK K
    (refine tk (i := 16) (oi := ⟨some 61, .indexAddr 65 (.tmp 48) (.tmp 50), 0, "law.go:142", #[⟨2, .data⟩, ⟨4, .data⟩, ⟨0, .phase⟩, ⟨1, .phase⟩, ⟨2, .phase⟩, ⟨3, .phase⟩, ⟨4, .phase⟩, ⟨5, .phase⟩, ⟨6, .phase⟩, ⟨7, .phase⟩, ⟨8, .phase⟩, ⟨9, .phase⟩, ⟨10, .phase⟩, ⟨11, .phase⟩, ⟨12, .phase⟩, ⟨13, .phase⟩, ⟨14, .phase⟩, ⟨15, .phase⟩], none⟩) (v := ?_) hSA3 (fun w' hSw => ?_) ?_ (hQ := fun c a w h => hPan c a _ _ w h); rotate_left; focus (go_simp; try with_reducible rfl))
    simp only [Act.put, List.setIfInBounds_toArray]
    refine wpAnyH_ready (rs := [17]) (by kernel_rfl) (by simp) ?_
    refine AllReadyH.cons rfl (fun K hK => ?_) AllReadyH.nil
    refine step_store_row rfl _ _ rfl g (k + 1) (l.set k y) x hs (by rw [List.length_set]; omega) (hl _ (List.mem_of_getElem? hx)) (by rfl) (by rfl) R6.out ?_
    intro w7 o7 r7
    simp only [Act.put]
    refine hK.out _ _ (trivial) (fun hSA4 => ?_)
    clear hK K
    refine wpAnyH_done (by kernel_rfl) ?_ _
    exact hQ _ _ _ _ _ _ _ _ _ _ _ _ _ _ _ _ w7 (O6.out.trans o7 (fun _ _ h => h)) r7
  · have h9 := loadHashB_run w5d g (k * 32) x (Rw5d.out.hash hl hx) (hl _ (List.mem_of_getElem? hx))
    go_simp
    clear h9
    refine hK.out _ _ (trivial) (fun hSA1 => ?_)
    clear hK K
    refine wpAnyH_ready (rs := [9]) (by kernel_rfl) (by simp) ?_
    refine AllReadyH.cons rfl (fun K hK => ?_) AllReadyH.nil
    have h9 := loadHashB_run w5d g ((k + 1) * 32) y (Rw5d.out.hash hl hy) (hl _ (List.mem_of_getElem? hy))
    go_simp
    clear h9
    refine hK.out _ _ (trivial) (fun hSA2 => ?_)
    clear hK K
    (refine tk (i := 14) (oi := ⟨some 60, .indexAddr 65 (.tmp 46) (.tmp 47), 0, "law.go:142", #[⟨0, .data⟩, ⟨1, .data⟩, ⟨0, .phase⟩, ⟨1, .phase⟩, { on := 2, ground := Go.Ground.textOnly Go.Departure.lateStores }, { on := 3, ground := Go.Ground.textOnly Go.Departure.lateStores }, { on := 4, ground := Go.Ground.textOnly Go.Departure.lateStores }, ⟨5, .phase⟩, ⟨6, .phase⟩, ⟨7, .phase⟩, ⟨8, .phase⟩, ⟨9, .phase⟩, { on := 10, ground := Go.Ground.textOnly Go.Departure.lateStores }, { on := 11, ground := Go.Ground.textOnly Go.Departure.lateStores }, { on := 12, ground := Go.Ground.textOnly Go.Departure.lateStoresUnsure }, ⟨13, .phase⟩], none⟩) (v := ?_) hSA2 (fun w' hSw => ?_) ?_ (hQ := fun c a w h => hPan c a _ _ w h); rotate_left; focus (go_simp; try with_reducible rfl))
    simp only [Act.put, sT, sZ, sS]
    refine wpAnyH_ready (rs := [15]) (by kernel_rfl) (by simp) ?_
    refine AllReadyH.cons rfl (fun K hK => ?_) AllReadyH.nil
    refine step_store_row rfl _ _ rfl g k l y hl (by omega) (hl _ (List.mem_of_getElem? hy)) (by rfl) (by rfl) Rw5d.out ?_
    intro w6 o6 r6
    have R6 := hide r6
    have O6 := hide ((Only.of_below Bw5d.out (fun i => i = g)).trans o6 (fun _ _ h => h))
    clear o6 r6
    simp only [Act.put]
    refine hK.out _ _ (trivial) (fun hSA3 => ?_)
    clear hK K
    (refine tk (i := 16) (oi := ⟨some 61, .indexAddr 65 (.tmp 48) (.tmp 50), 0, "law.go:142", #[⟨2, .data⟩, ⟨4, .data⟩, ⟨0, .phase⟩, ⟨1, .phase⟩, ⟨2, .phase⟩, ⟨3, .phase⟩, ⟨4, .phase⟩, ⟨5, .phase⟩, ⟨6, .phase⟩, ⟨7, .phase⟩, ⟨8, .phase⟩, ⟨9, .phase⟩, ⟨10, .phase⟩, ⟨11, .phase⟩, ⟨12, .phase⟩, ⟨13, .phase⟩, ⟨14, .phase⟩, ⟨15, .phase⟩], none⟩) (v := ?_) hSA3 (fun w' hSw => ?_) ?_ (hQ := fun c a w h => hPan c a _ _ w h); rotate_left; focus (go_simp; try with_reducible rfl))
    simp only [Act.put, List.setIfInBounds_toArray]
    refine wpAnyH_ready (rs := [17]) (by kernel_rfl) (by simp) ?_
    refine AllReadyH.cons rfl (fun K hK => ?_) AllReadyH.nil
    refine step_store_row rfl _ _ rfl g (k + 1) (l.set k y) x hs (by rw [List.length_set]; omega) (hl _ (List.mem_of_getElem? hx)) (by rfl) (by rfl) R6.out ?_
    intro w7 o7 r7
    simp only [Act.put]
    refine hK.out _ _ (trivial) (fun hSA4 => ?_)
    clear hK K
    refine wpAnyH_done (by kernel_rfl) ?_ _
    exact hQ _ _ _ _ _ _ _ _ _ _ _ _ _ _ _ _ w7 (O6.out.trans o7 (fun _ _ h => h)) r7
set_option maxHeartbeats 2000000 in
set_option maxRecDepth 100000 in
theorem blockturns_any (w : World) (A : Option Addr) (n c : Nat) (l : List (List Int)) (at_ : Int) (h : HeadD) (hX : HashesIn w A n l) (hc : n ≤ c) (h0 : -9223372036854775808 ≤ at_) (h1 : at_ ≤ 9223372036854775807) (hf : h.Fine) :
    Calls Try.prog 9 #[.slice A n c, .int .i64 at_, .agg h.cells.toArray] w fun e w' => e = .returned (.bool true) ∧ Below w.heap.size w w' := by
  have HX := hide hX
  have HC := hide hc
  have HAT := hide (And.intro h0 h1)
  have HF := hide hf
  have B0 := hide (Blk.new w 33 h.cells)
  have b0 := hide (below_alloc (Below.refl _ w) (.cells h.cells.toArray 33))
  clear hX hc hf
  go_enter Try.func9, Try.ntmps9
  go_wp2_with fail
  refine (blockAlive_any _).mono ?_
  rintro e w1 ⟨rfl, b1⟩
  have HB1 := hide (Below.then_ b0.out b1)
  have B1 := hide (B0.out.under b1)
  have HX1 := hide (HX.out.below' HB1.out)
  clear b1 B0 b0
  by_cases hn2 : n < 2
  · have i1 : (n : Int) < 2 := by omega
    clear hn2
    go_wp2_with fail
    go_ret
    exact ⟨rfl, HB1.out⟩
  · have i1 : ¬ (n : Int) < 2 := by omega
    by_cases hn : 60 < n
    · have i2 : (60 : Int) < (n : Int) := by omega
      clear hn2 hn
      go_wp2_with fail
      go_ret
      exact ⟨rfl, HB1.out⟩
    · have i2 : ¬ (60 : Int) < (n : Int) := by omega
      have HN := hide (show 2 ≤ n ∧ n ≤ 60 by omega)
      clear hn2 hn
      go_wp2_with fail
      refine (Root_any w1 A n c l HX1.out (by have := HN.out; omega) HC.out).mono ?_
      rintro e w2 ⟨rfl, b2⟩
      obtain ⟨R0, hR0⟩ : ∃ H, H = (rootL l).1 := ⟨_, rfl⟩
      obtain ⟨s0, hs0⟩ : ∃ s, s = (rootL l).2 := ⟨_, rfl⟩
      rw [← hR0, ← hs0]
      have HR0 := hide hR0
      have L0 := hide (show R0.length = 32 by rw [hR0]; exact (rootL_len l HX.out.2.1).1)
      have HB2 := hide (Below.then_ HB1.out b2)
      have B2 := hide (B1.out.under b2)
      have HX2 := hide (HX1.out.below' b2)
      clear hR0 hs0 b2
      have key : (((n : Int) - 2 < at_ ∧ 0 < (n : Int) - 2) ∨ ((n : Int) - 2 < at_ ∧ ¬ 0 < (n : Int) - 2)) ∨ ((¬ (n : Int) - 2 < at_ ∧ 0 < at_) ∨ (¬ (n : Int) - 2 < at_ ∧ ¬ 0 < at_)) := by omega
      have hsub : (n : Int) - 2 ≤ 60 := by have := HN.out; omega
      have key2 : ∃ k : Nat, k + 2 ≤ n ∧ ((((n : Int) - 2 < at_ ∧ 0 < (n : Int) - 2) ∧ (n : Int) - 2 = (k : Int)) ∨ (((n : Int) - 2 < at_ ∧ ¬ 0 < (n : Int) - 2) ∧ (0 : Int) = (k : Int)) ∨ ((¬ (n : Int) - 2 < at_ ∧ 0 < at_) ∧ at_ = (k : Int)) ∨ ((¬ (n : Int) - 2 < at_ ∧ ¬ 0 < at_) ∧ (0 : Int) = (k : Int))) := by
        have hn2 := HN.out
        rcases key with (⟨a, b⟩ | ⟨a, b⟩) | (⟨a, b⟩ | ⟨a, b⟩)
        · exact ⟨n - 2, by omega, .inl ⟨⟨a, b⟩, by omega⟩⟩
        · exact ⟨0, by omega, .inr (.inl ⟨⟨a, b⟩, rfl⟩)⟩
        · exact ⟨at_.toNat, by omega, .inr (.inr (.inl ⟨⟨a, b⟩, by omega⟩))⟩
        · exact ⟨0, by omega, .inr (.inr (.inr ⟨⟨a, b⟩, rfl⟩))⟩
      clear key
      obtain ⟨k, hkn, key3⟩ := key2
      rcases key3 with ⟨⟨j1, j2⟩, hkv⟩ | ⟨⟨j1, j2⟩, hkv⟩ | ⟨⟨j1, j2⟩, hkv⟩ | ⟨⟨j1, j2⟩, hkv⟩
      all_goals (
 have HKV := hide hkv
 have HKN := hide hkn
 clear hkv hkn
 have KZ3 := hide (Blk.new w2 31 (bcs zero32))
 go_wp2_with (first
   | (refine wpList_alloc_agg rfl 31 rfl (bcs zero32) zeroHash_info ?_; simp only [Act.put, sT, sZ, sS])
   | (refine hash_store2 rfl _ _ rfl w2.heap.size (bcs zero32) R0 rfl L0.out (by rfl) (by rfl) KZ3.out ?_; intro w3 o3 b3; have K3 := hide b3; have B3 := hide (show Below w2.heap.size w2 w3 from Below.trans ((Below.refl _ w2).alloc (Nat.le_refl _) _) (o3.below (by simp) (fun i hi e => by have h9 : i = w2.heap.size := e; omega))); clear o3 b3; simp only [Act.put])
   | (at_builtin; (first | (have hX9 := HX2.out.below' (Below.then_ B3.out (below_alloc (Below.refl _ w3) (.cells #[] 31))); obtain ⟨b9, o9, hA, hrow⟩ := hX9.2.2 (by have := HN.out; omega); subst hA; refine wpList_mineR rfl _ _ 65 rfl 31 32 32 Try.underlying65 hash_infoR (by decide) w3 (.slice (some ⟨w3.heap.size, 0, none⟩) 0 0) 0 [] (by rfl) (MineR.empty [] rfl) b9 o9 n c (l.flatMap bcs) (by rfl) (by rw [flat_len32 l (fun x hx => (hX9.2.1 x hx).1), hX9.1]) (flat_rangeH l _ (fun x hx => by rw [bcs_length, (hX9.2.1 x hx).1]) hrow) (flat_one32 l) (by have := HN.out; omega) (by decide) ?_; intro A4 c4 w4 q1 q2 q3; have T4 := hide q1; clear q1 q2 q3 hX9 hrow; simp only [Act.put, sT, sZ, sS]))))
 first
   | rw [show Value.int .i64 ((n : Int) - 2) = Value.int .i64 (k : Int) by rw [HKV.out]]
   | rw [show Value.int .i64 at_ = Value.int .i64 (k : Int) by rw [HKV.out]]
   | rw [show Value.int .i64 (0 : Int) = Value.int .i64 (k : Int) by rw [← HKV.out]]
 simp only [Nat.zero_add]
 have hmr := T4.out
 rw [Nat.zero_add, List.nil_append] at hmr
 obtain ⟨g, hg, hgw, hrow4⟩ := hmr.rowB (by have := HN.out; omega)
 subst hg
 have HC4 := hide (show n ≤ c4 by rcases hmr.2.2 with ⟨e1, h9⟩ | ⟨g9, cap, cur, e1, _, _, hnc, _⟩; (have := HN.out; omega); (injection e1 with _ _ e3; omega))
 have HB3 := hide (Below.then_ HB2.out B3.out)
 have S4 := hide (show TS w g (some ⟨b9, o9, none⟩) n l h l [(w2.heap.size, R0)] w4 from ⟨Below.then_ HB3.out hmr.1, hrow4, HX2.out.below' (Below.then_ B3.out hmr.1), (B2.out.under B3.out).under hmr.1, fun q hq => by have h9 : q = (w2.heap.size, R0) := (by simpa using hq); subst h9; exact ⟨K3.out.under hmr.1, by have := K3.out.lt; show w2.heap.size ≠ g; omega⟩, fun ad e => by
   have h9 : ad = ⟨b9, o9, none⟩ := by injection e with e; exact e.symm
   subst h9
   obtain ⟨b', o', e', hr'⟩ := HX2.out.2.2 (by have := HN.out; omega)
   injection e' with e'
   injection e' with e1 _ _
   subst e1
   obtain ⟨z, hz⟩ : ∃ z, l[0]? = some z := ⟨_, List.getElem?_eq_getElem (by have := HX2.out.1; have := HN.out; omega)⟩
   have hzl := (HX2.out.2.1 z (List.mem_of_getElem? hz)).1
   obtain ⟨v, hv⟩ : ∃ v, (bcs z)[0]? = some v := ⟨_, List.getElem?_eq_getElem (by rw [bcs_length, hzl]; decide)⟩
   have h8 := World.block_lt_of_cell? _ _ (hr' 0 z hz 0 v hv)
   have h7 : b9 < w2.heap.size := h8
   have := B3.out.size
   show b9 ≠ g
   omega, by have := B3.out.size; have := B2.out.lt; omega⟩)
 have HFL := hide HX2.out.2.1
 have HFLN := hide HX2.out.1
 clear hmr hgw hrow4 T4 K3 B3 KZ3 HB3 HX2 B2 HX1 B1 HX
 obtain ⟨x, hx⟩ : ∃ x, l[k]? = some x := ⟨_, List.getElem?_eq_getElem (by have := HFLN.out; have := HKN.out; omega)⟩
 obtain ⟨y, hy⟩ : ∃ y, l[k + 1]? = some y := ⟨_, List.getElem?_eq_getElem (by have := HFLN.out; have := HKN.out; omega)⟩
 refine turns_r8 (fun _ _ _ _ _ h => h) _ _ _ _ _ _ _ _ _ _ _ _ _ _ _ _ _ _ _ _ _ _ _ _ _ _ _ _ _ _ _ _ _ _ _ _ _ _ _ _ _ _ _ _ _ _ _ _ _ _ _ _ _ _ _ _ _ _ _ _ _ _ _ _ _ _ _ _ _ _ _ _ _ _ _ _ _ _ _ _ _ _ _ _ _ _ _ _ _ _ _ _ _ _ _ _ _ _ _ _ _ _ _ _ _ _ _ _ _ _ _ _ _ _ _ _ _ _ _ _ _ _ _ _ _ _ _ _ _ _ _ _ _ w4 g k n c4 l x y (fun z hz => (HFL.out z hz).1) hx hy HFLN.out HKN.out (by have := HN.out; omega) (hide S4.out.own) ?_
 intro v46 v47 v48 v49 v50 v51 v52 v53 v54 v55 v56 v57 v58 v59 v60 v61 w5 O5 R5
 have hyf := HFL.out y (List.mem_of_getElem? hy)
 obtain ⟨b3, hb3⟩ : ∃ b, y[3]? = some b := ⟨_, List.getElem?_eq_getElem (by rw [hyf.1]; decide)⟩
 have hbr := hyf.2 b3 (List.mem_of_getElem? hb3)
 obtain ⟨l1, hl1⟩ : ∃ z, z = (l.set k y).set (k + 1) x := ⟨_, rfl⟩
 rw [← hl1] at R5
 have F1 := hide (show ∀ z ∈ l1, z.length = 32 ∧ Byt z by rw [hl1]; exact set_swap_byt HFL.out hx hy)
 have F1N := hide (show l1.length = n by rw [hl1, List.length_set, List.length_set]; exact HFLN.out)
 have Hy1 := hide (show l1[k]? = some y by rw [hl1, List.getElem?_set_ne (by omega), List.getElem?_set_self (by have := HFLN.out; have := HKN.out; omega)])
 have S5 := hide (S4.out.change O5 R5)
 obtain ⟨bv, hbv⟩ : ∃ v, v = (b3 + 1) % 256 := ⟨_, rfl⟩
 have hw3 : IntKind.u8.wrap (b3 + 1) = bv := by rw [IntKind.wrap_u8, hbv]
 have hw4 : IntKind.u8.wrap (bv - 1) = b3 := by rw [IntKind.wrap_u8, hbv]; omega
 obtain ⟨y2, hy2⟩ : ∃ z, z = y.set 3 bv := ⟨_, rfl⟩
 obtain ⟨l2, hl2⟩ : ∃ z, z = l1.set k y2 := ⟨_, rfl⟩
 have F2 := hide (show ∀ z ∈ l2, z.length = 32 ∧ Byt z by rw [hl2, hy2]; exact set_byt F1.out (byte_byt hyf 3 bv (by omega) (by omega)))
 have F2N := hide (show l2.length = n by rw [hl2, List.length_set]; exact F1N.out)
 have Hy2 := hide (show l2[k]? = some y2 by rw [hl2, List.getElem?_set_self (by rw [F1N.out]; have := HKN.out; omega)])
 have Hb3 := hide hb3
 have Hbv := hide (show y2[3]? = some bv by rw [hy2, List.getElem?_set_self (by rw [hyf.1]; decide)])
 have E2 := hide (show l1.set k (y.set 3 bv) = l2 by rw [hl2, hy2])
 have E1 := hide (show l2.set k (y2.set 3 b3) = l1 by
   have h9 : (y.set 3 bv).set 3 b3 = y := by
     rw [List.set_set]
     apply List.ext_getElem?
     intro p
     by_cases hp : 3 = p
     · subst hp; rw [List.getElem?_set_self (by rw [hyf.1]; decide), hb3]
     · rw [List.getElem?_set_ne hp]
   rw [hl2, hy2, List.set_set, h9]
   apply List.ext_getElem?
   intro p
   by_cases hp : k = p
   · subst hp; rw [List.getElem?_set_self (by rw [F1N.out]; have := HKN.out; omega), Hy1.out]
   · rw [List.getElem?_set_ne hp])
 clear S4 O5 R5 hl1 hl2 hy2 hbv hx hy hyf hb3
 have i5 : (0 : Int) ≤ (k : Int) := by omega
 have i6 : (k : Int) < (n : Int) := by have := HKN.out; omega
 have hn9 : (n : Int) ≤ 1000 := by have := HN.out; omega
 go_wp2_with fail
 refine (Root_any w5 (some ⟨g, 0, none⟩) n c4 l1 (S5.out.own.hashes F1N.out F1.out) (by have := HN.out; omega) HC4.out).mono ?_
 rintro e w6 ⟨rfl, b9'⟩
 have S5v := hide (S5.out.under b9')
 clear b9'
 obtain ⟨R1, hR1⟩ : ∃ H, H = (rootL l1).1 := ⟨_, rfl⟩
 obtain ⟨s7, hs7⟩ : ∃ s, s = (rootL l1).2 := ⟨_, rfl⟩
 rw [← hR1, ← hs7]
 have HR1 := hide hR1
 have L1 := hide (show R1.length = 32 by rw [hR1]; exact (rootL_len l1 F1.out).1)
 clear hR1 hs7
 have KZ7 := hide (Blk.new w6 31 (bcs zero32))
 go_wp2_with (first
   | (refine wpList_alloc_agg rfl 31 rfl (bcs zero32) zeroHash_info ?_; simp only [Act.put, sT, sZ, sS])
   | (refine hash_store2 rfl _ _ rfl w6.heap.size (bcs zero32) R1 rfl L1.out (by rfl) (by rfl) KZ7.out ?_; intro w7 o7 b7; have K7 := hide b7; have B7 := hide (show Below w6.heap.size w6 w7 from Below.trans ((Below.refl _ w6).alloc (Nat.le_refl _) _) (o7.below (by simp) (fun i hi e => by have h9 : i = w6.heap.size := e; omega))); clear o7 b7; simp only [Act.put]))
 have S7 := hide (S5v.out.add B7.out K7.out)
 clear S5 S5v B7 K7 KZ7
 refine wp_region_held_drew (S := fun _ => True) (by kernel_rfl) (trivial) (fun hSZ0 => ?_)
 obtain ⟨w7d, hwZ⟩ : ∃ x, x = w7.drew := ⟨_, rfl⟩
 have S7d := hide (show TS w g (some ⟨b9, o9, none⟩) n l h l1 _ w7d by rw [hwZ]; exact S7.out.under (Below.refl _ w7).drew)
 rw [← hwZ]
 clear hwZ
 (refine tk (i := 0) (oi := ⟨some 67, .move (.tmp 10), 65, "law.go:144", #[], none⟩) (v := ?_) hSZ0 (fun w' hSw => ?_) ?_; rotate_left; focus (go_simp; try with_reducible rfl))
 simp only [Act.put, sT, sZ, sS]
 (refine tk (i := 1) (oi := ⟨some 68, .move (.tmp 9), 3, "law.go:144", #[], none⟩) (v := ?_) hSZ0 (fun w' hSw => ?_) ?_; rotate_left; focus (go_simp; try with_reducible rfl))
 simp only [Act.put, sT, sZ, sS]
 (refine tk (i := 2) (oi := ⟨some 69, .indexAddr 65 (.tmp 67) (.tmp 68), 0, "law.go:144", #[⟨0, .data⟩, ⟨1, .data⟩], none⟩) (v := ?_) hSZ0 (fun w' hSw => ?_) ?_; rotate_left; focus (go_simp; try with_reducible rfl))
 simp only [Act.put, sT, sZ, sS]
 (refine tk (i := 3) (oi := ⟨some 70, .indexAddr 31 (.tmp 69) (.const (.int .i64 3)), 0, "law.go:144", #[⟨2, .data⟩], none⟩) (v := ?_) hSZ0 (fun w' hSw => ?_) ?_; rotate_left; focus (go_simp; try with_reducible rfl))
 simp only [Act.put, sT, sZ, sS]
 (refine tk (i := 6) (oi := ⟨some 73, .indexAddr 65 (.tmp 67) (.tmp 68), 0, "law.go:144", #[⟨0, .data⟩, ⟨1, .data⟩], none⟩) (v := ?_) hSZ0 (fun w' hSw => ?_) ?_; rotate_left; focus (go_simp; try with_reducible rfl))
 simp only [Act.put, sT, sZ, sS]
 refine wpAnyH_ready (rs := [4]) (by kernel_rfl) (by simp) ?_
 refine AllReadyH.cons rfl (fun K hK => ?_) AllReadyH.nil
 have c9 := (S7d.out.own.byteAt (fun z hz => (F1.out z hz).1) Hy1.out 3 b3 Hb3.out)
 go_simp
 clear c9
 refine hK.out _ _ (trivial) (fun hSZ1 => ?_)
 clear hK K
 (refine tk (i := 5) (oi := ⟨some 72, .binOp .add 5 (.tmp 71) (.const (.int .u8 1)) 5, 5, "law.go:144", #[⟨4, .data⟩], none⟩) (v := ?_) hSZ1 (fun w' hSw => ?_) ?_; rotate_left; focus (go_simp; try with_reducible rfl))
 simp only [Act.put, sT, sZ, sS]
 (refine tk (i := 7) (oi := ⟨some 74, .indexAddr 31 (.tmp 73) (.const (.int .i64 3)), 0, "law.go:144", #[⟨6, .data⟩, ⟨0, .phase⟩, ⟨1, .phase⟩, ⟨2, .phase⟩, ⟨3, .phase⟩, ⟨4, .phase⟩, ⟨5, .phase⟩], none⟩) (v := ?_) hSZ1 (fun w' hSw => ?_) ?_; rotate_left; focus (go_simp; try with_reducible rfl))
 simp only [Act.put, sT, sZ, sS]
 refine wpAnyH_ready (rs := [8]) (by kernel_rfl) (by simp) ?_
 refine AllReadyH.cons rfl (fun K hK => ?_) AllReadyH.nil
 have c9 := (S7d.out.own.byteAt (fun z hz => (F1.out z hz).1) Hy1.out 3 b3 Hb3.out)
 have f9 := S7d.out.own.frozen (k * 32 + 3)
 go_simp
 clear c9 f9
 refine hK.out _ _ (trivial) (fun hSZ2 => ?_)
 clear hK K
 refine wpAnyH_done (by kernel_rfl) ?_ _
 have S8' := S7d.out.change (Only.cell1 w7d g (k * 32 + 3) (.int .u8 bv)) (S7d.out.own.byte (fun z hz => (F1.out z hz).1) Hy1.out 3 (by decide) bv)
 obtain ⟨w8, hw9⟩ : ∃ z, z = w7d.setCell ⟨g, k * 32 + 3, none⟩ (.int .u8 bv) := ⟨_, rfl⟩
 rw [← hw9] at S8' ⊢
 clear hw9
 rw [E2.out] at S8'
 have S8 := hide S8'
 clear S8' S7 S7d
 go_wp2_with fail
 refine (Root_any w8 (some ⟨g, 0, none⟩) n c4 l2 (S8.out.own.hashes F2N.out F2.out) (by have := HN.out; omega) HC4.out).mono ?_
 rintro e w9 ⟨rfl, b9'⟩
 have S8v := hide (S8.out.under b9')
 clear b9'
 obtain ⟨R2, hR2⟩ : ∃ H, H = (rootL l2).1 := ⟨_, rfl⟩
 obtain ⟨s10, hs10⟩ : ∃ s, s = (rootL l2).2 := ⟨_, rfl⟩
 rw [← hR2, ← hs10]
 have HR2 := hide hR2
 have L2 := hide (show R2.length = 32 by rw [hR2]; exact (rootL_len l2 F2.out).1)
 clear hR2 hs10
 have KZ10 := hide (Blk.new w9 31 (bcs zero32))
 go_wp2_with (first
   | (refine wpList_alloc_agg rfl 31 rfl (bcs zero32) zeroHash_info ?_; simp only [Act.put, sT, sZ, sS])
   | (refine hash_store2 rfl _ _ rfl w9.heap.size (bcs zero32) R2 rfl L2.out (by rfl) (by rfl) KZ10.out ?_; intro w10 o10 b10; have K10 := hide b10; have B10 := hide (show Below w9.heap.size w9 w10 from Below.trans ((Below.refl _ w9).alloc (Nat.le_refl _) _) (o10.below (by simp) (fun i hi e => by have h9 : i = w9.heap.size := e; omega))); clear o10 b10; simp only [Act.put]))
 have S10 := hide (S8v.out.add B10.out K10.out)
 clear S8 S8v B10 K10 KZ10
 refine (refRoot_any (l.length + 1) w10 (some ⟨b9, o9, none⟩) n c l (Nat.lt_succ_self _) S10.out.lst (by have := HN.out; omega)).mono ?_
 rintro e w11 ⟨rfl, b9'⟩
 have S10v := hide (S10.out.under b9')
 clear b9'
 obtain ⟨s12, hs12⟩ : ∃ s, s = (rootL l).2 := ⟨_, rfl⟩
 rw [← HR0.out, ← hs12]
 clear hs12
 have KZ12 := hide (Blk.new w11 31 (bcs zero32))
 go_wp2_with (first
   | (refine wpList_alloc_agg rfl 31 rfl (bcs zero32) zeroHash_info ?_; simp only [Act.put, sT, sZ, sS])
   | (refine hash_store2 rfl _ _ rfl w11.heap.size (bcs zero32) R0 rfl L0.out (by rfl) (by rfl) KZ12.out ?_; intro w12 o12 b12; have K12 := hide b12; have B12 := hide (show Below w11.heap.size w11 w12 from Below.trans ((Below.refl _ w11).alloc (Nat.le_refl _) _) (o12.below (by simp) (fun i hi e => by have h9 : i = w11.heap.size := e; omega))); clear o12 b12; simp only [Act.put]))
 have S12 := hide (S10v.out.add B12.out K12.out)
 clear S10 S10v B12 K12 KZ12
 refine (refRoot_any (l2.length + 1) w12 (some ⟨g, 0, none⟩) n c4 l2 (Nat.lt_succ_self _) (S12.out.own.hashes F2N.out F2.out) (by have := HN.out; omega)).mono ?_
 rintro e w13 ⟨rfl, b9'⟩
 have S12v := hide (S12.out.under b9')
 clear b9'
 obtain ⟨s14, hs14⟩ : ∃ s, s = (rootL l2).2 := ⟨_, rfl⟩
 rw [← HR2.out, ← hs14]
 clear hs14
 have KZ14 := hide (Blk.new w13 31 (bcs zero32))
 go_wp2_with (first
   | (refine wpList_alloc_agg rfl 31 rfl (bcs zero32) zeroHash_info ?_; simp only [Act.put, sT, sZ, sS])
   | (refine hash_store2 rfl _ _ rfl w13.heap.size (bcs zero32) R2 rfl L2.out (by rfl) (by rfl) KZ14.out ?_; intro w14 o14 b14; have K14 := hide b14; have B14 := hide (show Below w13.heap.size w13 w14 from Below.trans ((Below.refl _ w13).alloc (Nat.le_refl _) _) (o14.below (by simp) (fun i hi e => by have h9 : i = w13.heap.size := e; omega))); clear o14 b14; simp only [Act.put]))
 have S14 := hide (S12v.out.add B14.out K14.out)
 clear S12 S12v B14 K14 KZ14
 refine wp_region_held_drew (S := fun _ => True) (by kernel_rfl) (trivial) (fun hSZ0 => ?_)
 obtain ⟨w14d, hwZ⟩ : ∃ x, x = w14.drew := ⟨_, rfl⟩
 have S14d := hide (show TS w g (some ⟨b9, o9, none⟩) n l h l2 _ w14d by rw [hwZ]; exact S14.out.under (Below.refl _ w14).drew)
 rw [← hwZ]
 clear hwZ
 (refine tk (i := 0) (oi := ⟨some 90, .move (.tmp 10), 65, "law.go:148", #[], none⟩) (v := ?_) hSZ0 (fun w' hSw => ?_) ?_; rotate_left; focus (go_simp; try with_reducible rfl))
 simp only [Act.put, sT, sZ, sS]
 (refine tk (i := 1) (oi := ⟨some 91, .move (.tmp 9), 3, "law.go:148", #[], none⟩) (v := ?_) hSZ0 (fun w' hSw => ?_) ?_; rotate_left; focus (go_simp; try with_reducible rfl))
 simp only [Act.put, sT, sZ, sS]
 (refine tk (i := 2) (oi := ⟨some 92, .indexAddr 65 (.tmp 90) (.tmp 91), 0, "law.go:148", #[⟨0, .data⟩, ⟨1, .data⟩], none⟩) (v := ?_) hSZ0 (fun w' hSw => ?_) ?_; rotate_left; focus (go_simp; try with_reducible rfl))
 simp only [Act.put, sT, sZ, sS]
 (refine tk (i := 3) (oi := ⟨some 93, .indexAddr 31 (.tmp 92) (.const (.int .i64 3)), 0, "law.go:148", #[⟨2, .data⟩], none⟩) (v := ?_) hSZ0 (fun w' hSw => ?_) ?_; rotate_left; focus (go_simp; try with_reducible rfl))
 simp only [Act.put, sT, sZ, sS]
 (refine tk (i := 6) (oi := ⟨some 96, .indexAddr 65 (.tmp 90) (.tmp 91), 0, "law.go:148", #[⟨0, .data⟩, ⟨1, .data⟩], none⟩) (v := ?_) hSZ0 (fun w' hSw => ?_) ?_; rotate_left; focus (go_simp; try with_reducible rfl))
 simp only [Act.put, sT, sZ, sS]
 refine wpAnyH_ready (rs := [4]) (by kernel_rfl) (by simp) ?_
 refine AllReadyH.cons rfl (fun K hK => ?_) AllReadyH.nil
 have c9 := (S14d.out.own.byteAt (fun z hz => (F2.out z hz).1) Hy2.out 3 bv Hbv.out)
 go_simp
 clear c9
 refine hK.out _ _ (trivial) (fun hSZ1 => ?_)
 clear hK K
 (refine tk (i := 5) (oi := ⟨some 95, .binOp .sub 5 (.tmp 94) (.const (.int .u8 1)) 5, 5, "law.go:148", #[⟨4, .data⟩], none⟩) (v := ?_) hSZ1 (fun w' hSw => ?_) ?_; rotate_left; focus (go_simp; try with_reducible rfl))
 simp only [Act.put, sT, sZ, sS]
 (refine tk (i := 7) (oi := ⟨some 97, .indexAddr 31 (.tmp 96) (.const (.int .i64 3)), 0, "law.go:148", #[⟨6, .data⟩, ⟨0, .phase⟩, ⟨1, .phase⟩, ⟨2, .phase⟩, ⟨3, .phase⟩, ⟨4, .phase⟩, ⟨5, .phase⟩], none⟩) (v := ?_) hSZ1 (fun w' hSw => ?_) ?_; rotate_left; focus (go_simp; try with_reducible rfl))
 simp only [Act.put, sT, sZ, sS]
 refine wpAnyH_ready (rs := [8]) (by kernel_rfl) (by simp) ?_
 refine AllReadyH.cons rfl (fun K hK => ?_) AllReadyH.nil
 have c9 := (S14d.out.own.byteAt (fun z hz => (F2.out z hz).1) Hy2.out 3 bv Hbv.out)
 have f9 := S14d.out.own.frozen (k * 32 + 3)
 go_simp
 clear c9 f9
 refine hK.out _ _ (trivial) (fun hSZ2 => ?_)
 clear hK K
 refine wpAnyH_done (by kernel_rfl) ?_ _
 have S16' := S14d.out.change (Only.cell1 w14d g (k * 32 + 3) (.int .u8 b3)) (S14d.out.own.byte (fun z hz => (F2.out z hz).1) Hy2.out 3 (by decide) b3)
 obtain ⟨w16, hw9⟩ : ∃ z, z = w14d.setCell ⟨g, k * 32 + 3, none⟩ (.int .u8 b3) := ⟨_, rfl⟩
 rw [← hw9] at S16' ⊢
 clear hw9
 rw [E1.out] at S16'
 have S16 := hide S16'
 clear S16' S14 S14d
 go_wp2_with fail
 refine (refRoot_any (l1.length + 1) w16 (some ⟨g, 0, none⟩) n c4 l1 (Nat.lt_succ_self _) (S16.out.own.hashes F1N.out F1.out) (by have := HN.out; omega)).mono ?_
 rintro e w17 ⟨rfl, b9'⟩
 have S16v := hide (S16.out.under b9')
 clear b9'
 obtain ⟨s18, hs18⟩ : ∃ s, s = (rootL l1).2 := ⟨_, rfl⟩
 rw [← HR1.out, ← hs18]
 clear hs18
 have KZ18 := hide (Blk.new w17 31 (bcs zero32))
 go_wp2_with (first
   | (refine wpList_alloc_agg rfl 31 rfl (bcs zero32) zeroHash_info ?_; simp only [Act.put, sT, sZ, sS])
   | (refine hash_store2 rfl _ _ rfl w17.heap.size (bcs zero32) R1 rfl L1.out (by rfl) (by rfl) KZ18.out ?_; intro w18 o18 b18; have K18 := hide b18; have B18 := hide (show Below w17.heap.size w17 w18 from Below.trans ((Below.refl _ w17).alloc (Nat.le_refl _) _) (o18.below (by simp) (fun i hi e => by have h9 : i = w17.heap.size := e; omega))); clear o18 b18; simp only [Act.put]))
 have S18 := hide (S16v.out.add B18.out K18.out)
 clear S16 S16v B18 K18 KZ18
 obtain ⟨q1, hq1'⟩ : ∃ q, q = (R0 == R1) := ⟨_, rfl⟩
 obtain ⟨q2, hq2'⟩ : ∃ q, q = (R0 == R2) := ⟨_, rfl⟩
 have HQ1 := hide (show ∀ w, (eqlHash (.agg (bcs R0).toArray) (.agg (bcs R1).toArray)).run Try.prog w = .ok (.bool q1) w from fun w => by rw [hq1']; exact eqlHash_run R0 R1 L0.out L1.out w)
 have HQ2 := hide (show ∀ w, (eqlHash (.agg (bcs R0).toArray) (.agg (bcs R2).toArray)).run Try.prog w = .ok (.bool q2) w from fun w => by rw [hq2']; exact eqlHash_run R0 R2 L0.out L2.out w)
 clear hq1' hq2' hw3 hw4
 refine wp_region_held_drew (S := fun w' => Below w18.heap.size w18 w') (by kernel_rfl) (by exact (Below.refl _ _).drew) (fun hSY0 => ?_)
 obtain ⟨w18d, hwY⟩ : ∃ x, x = w18.drew := ⟨_, rfl⟩
 rw [← hwY] at hSY0 ⊢
 clear hwY
 (refine tk (i := 0) (oi := ⟨some 103, .load 31 (.tmp 7), 31, "law.go:150", #[], none⟩) (v := ?_) hSY0 (fun w' hSw => ?_) ?_; rotate_left; focus (have z0 := loadHashB_run w' w2.heap.size 0 R0 ((S18.out.ks (w2.heap.size, R0) (by simp)).1.under hSw).whole L0.out; go_simp; try with_reducible rfl))
 simp only [Act.put, sT, sZ, sS]
 (refine tk (i := 1) (oi := ⟨some 104, .load 31 (.tmp 11), 31, "law.go:150", #[], none⟩) (v := ?_) hSY0 (fun w' hSw => ?_) ?_; rotate_left; focus (have z1 := loadHashB_run w' w6.heap.size 0 R1 ((S18.out.ks (w6.heap.size, R1) (by simp)).1.under hSw).whole L1.out; go_simp; try with_reducible rfl))
 simp only [Act.put, sT, sZ, sS]
 (refine tk (i := 2) (oi := ⟨some 105, .binOp .eql 31 (.tmp 103) (.tmp 104) 31, 4, "law.go:150", #[⟨0, .data⟩, ⟨1, .data⟩], none⟩) (v := ?_) hSY0 (fun w' hSw => ?_) ?_; rotate_left; focus (have z9 := HQ1.out w'; go_simp; try with_reducible rfl))
 simp only [Act.put, sT, sZ, sS]
 (refine tk (i := 3) (oi := ⟨some 106, .load 31 (.tmp 15), 31, "law.go:150", #[], none⟩) (v := ?_) hSY0 (fun w' hSw => ?_) ?_; rotate_left; focus (have z3 := loadHashB_run w' w11.heap.size 0 R0 ((S18.out.ks (w11.heap.size, R0) (by simp)).1.under hSw).whole L0.out; go_simp; try with_reducible rfl))
 simp only [Act.put, sT, sZ, sS]
 (refine tk (i := 4) (oi := ⟨some 107, .load 31 (.tmp 19), 31, "law.go:150", #[], none⟩) (v := ?_) hSY0 (fun w' hSw => ?_) ?_; rotate_left; focus (have z4 := loadHashB_run w' w17.heap.size 0 R1 ((S18.out.ks (w17.heap.size, R1) (by simp)).1.under hSw).whole L1.out; go_simp; try with_reducible rfl))
 simp only [Act.put, sT, sZ, sS]
 (refine tk (i := 5) (oi := ⟨some 108, .binOp .eql 31 (.tmp 106) (.tmp 107) 31, 4, "law.go:150", #[⟨3, .data⟩, ⟨4, .data⟩], none⟩) (v := ?_) hSY0 (fun w' hSw => ?_) ?_; rotate_left; focus (have z9 := HQ1.out w'; go_simp; try with_reducible rfl))
 simp only [Act.put, sT, sZ, sS]
 (refine tk (i := 6) (oi := ⟨some 109, .binOp .neq 4 (.tmp 105) (.tmp 108) 4, 4, "law.go:150", #[⟨2, .data⟩, ⟨5, .data⟩], none⟩) (v := ?_) hSY0 (fun w' hSw => ?_) ?_; rotate_left; focus (go_simp; try with_reducible rfl))
 simp only [Act.put, sT, sZ, sS]
 (refine tk (i := 7) (oi := ⟨some 110, .move (.tmp 109), 4, "law.go:150", #[⟨6, .data⟩], none⟩) (v := ?_) hSY0 (fun w' hSw => ?_) ?_; rotate_left; focus (go_simp; try with_reducible rfl))
 simp only [Act.put, sT, sZ, sS]
 (refine tk (i := 8) (oi := ⟨some 111, .load 31 (.tmp 7), 31, "law.go:150", #[⟨7, .guard⟩], some (7, false)⟩) (v := ?_) hSY0 (fun w' hSw => ?_) ?_; rotate_left; focus (have z8 := loadHashB_run w' w2.heap.size 0 R0 ((S18.out.ks (w2.heap.size, R0) (by simp)).1.under hSw).whole L0.out; go_simp; try with_reducible rfl))
 simp only [Act.put, sT, sZ, sS]
 (refine tk (i := 9) (oi := ⟨some 112, .load 31 (.tmp 13), 31, "law.go:150", #[⟨7, .guard⟩], some (7, false)⟩) (v := ?_) hSY0 (fun w' hSw => ?_) ?_; rotate_left; focus (have z9 := loadHashB_run w' w9.heap.size 0 R2 ((S18.out.ks (w9.heap.size, R2) (by simp)).1.under hSw).whole L2.out; go_simp; try with_reducible rfl))
 simp only [Act.put, sT, sZ, sS]
 (refine tk (i := 10) (oi := ⟨some 113, .binOp .eql 31 (.tmp 111) (.tmp 112) 31, 4, "law.go:150", #[⟨8, .data⟩, ⟨9, .data⟩, ⟨7, .guard⟩], some (7, false)⟩) (v := ?_) hSY0 (fun w' hSw => ?_) ?_; rotate_left; focus (have z9 := HQ2.out w'; go_simp; try with_reducible rfl))
 simp only [Act.put, sT, sZ, sS]
 (refine tk (i := 11) (oi := ⟨some 114, .load 31 (.tmp 15), 31, "law.go:150", #[⟨7, .guard⟩], some (7, false)⟩) (v := ?_) hSY0 (fun w' hSw => ?_) ?_; rotate_left; focus (have z11 := loadHashB_run w' w11.heap.size 0 R0 ((S18.out.ks (w11.heap.size, R0) (by simp)).1.under hSw).whole L0.out; go_simp; try with_reducible rfl))
 simp only [Act.put, sT, sZ, sS]
 (refine tk (i := 12) (oi := ⟨some 115, .load 31 (.tmp 17), 31, "law.go:150", #[⟨7, .guard⟩], some (7, false)⟩) (v := ?_) hSY0 (fun w' hSw => ?_) ?_; rotate_left; focus (have z12 := loadHashB_run w' w13.heap.size 0 R2 ((S18.out.ks (w13.heap.size, R2) (by simp)).1.under hSw).whole L2.out; go_simp; try with_reducible rfl))
 simp only [Act.put, sT, sZ, sS]
 (refine tk (i := 13) (oi := ⟨some 116, .binOp .eql 31 (.tmp 114) (.tmp 115) 31, 4, "law.go:150", #[⟨11, .data⟩, ⟨12, .data⟩, ⟨7, .guard⟩], some (7, false)⟩) (v := ?_) hSY0 (fun w' hSw => ?_) ?_; rotate_left; focus (have z9 := HQ2.out w'; go_simp; try with_reducible rfl))
 simp only [Act.put, sT, sZ, sS]
 (refine tk (i := 14) (oi := ⟨some 117, .binOp .neq 4 (.tmp 113) (.tmp 116) 4, 4, "law.go:150", #[⟨10, .data⟩, ⟨13, .data⟩, ⟨7, .guard⟩], some (7, false)⟩) (v := ?_) hSY0 (fun w' hSw => ?_) ?_; rotate_left; focus (go_simp; try with_reducible rfl))
 simp only [Act.put, sT, sZ, sS]
 (refine tk (i := 15) (oi := ⟨some 118, .pick (.tmp 110) (.const (.bool Bool.true)) (.tmp 117), 4, "law.go:150", #[⟨7, .data⟩, ⟨14, .data⟩], none⟩) (v := ?_) hSY0 (fun w' hSw => ?_) ?_; rotate_left; focus (go_simp; try with_reducible rfl))
 simp only [Act.put, sT, sZ, sS]
 refine wpAnyH_done (by kernel_rfl) ?_ _
 have S16e := hide (S18.out.under hSY0)
 have KZh := hide (Blk.new w18d 33 zeroH.cells)
 have lh := loadHead_run w18d w.heap.size 0 h S16e.out.box.whole HF.out
 go_wp2_with (first
   | (refine wpList_alloc_agg rfl 33 rfl zeroH.cells zeroHead_info ?_; simp only [Act.put, sT, sZ, sS])
   | (refine head_store2 rfl _ _ rfl w18d.heap.size zeroH h zeroH_fine HF.out (by rfl) (by rfl) KZh.out ?_; intro w19 o19 k19; have B19 := hide (show Below w18d.heap.size w18d w19 from Below.trans ((Below.refl _ w18d).alloc (Nat.le_refl _) _) (o19.below (by simp) (fun i hi e => by have h9 : i = w18d.heap.size := e; omega))); have c67 := head_nonceCell k19 HF.out; have f67 := k19.frozen 67; have K19 := hide k19; clear o19 k19 lh; simp only [Act.put]))
 obtain ⟨p21, hp21⟩ : ∃ p, p = w18d.heap.size := ⟨_, rfl⟩
 obtain ⟨h2, hh2⟩ : ∃ z, z = (⟨h.version, h.prev, h.root, h.time, h.bits, (h.nonce + 1) % 4294967296⟩ : HeadD) := ⟨_, rfl⟩
 have HF2 := hide (show h2.Fine by rw [hh2]; exact ⟨HF.out.version, HF.out.plen, HF.out.pbyt, HF.out.rlen, HF.out.rbyt, HF.out.time, HF.out.bits, by show 0 ≤ (h.nonce + 1) % 4294967296 ∧ (h.nonce + 1) % 4294967296 ≤ 4294967295; omega⟩)
 have o20 := Only.cell1 w19 p21 67 (.int .u32 ((h.nonce + 1) % 4294967296))
 have hlt := S16e.out.box.lt
 have KA := hide (o20.blk (S16e.out.box.under B19.out) (by show ¬ w.heap.size = p21; omega))
 have KB := hide (show Blk (w19.setCell ⟨p21, 67, none⟩ (.int .u32 ((h.nonce + 1) % 4294967296))) p21 33 h2.cells by rw [hh2, ← head_nonceSet HF.out, hp21]; exact K19.out.set_ 67 _)
 have HB20 := hide (o20.under (Below.then_ S16e.out.below B19.out) (fun i hi => by have h9 : i = p21 := hi; omega))
 rw [← hp21]
 obtain ⟨w20, hw20⟩ : ∃ z, z = w19.setCell ⟨p21, 67, none⟩ (.int .u32 ((h.nonce + 1) % 4294967296)) := ⟨_, rfl⟩
 rw [← hw20] at KA KB HB20 ⊢
 obtain ⟨J0, hJ0⟩ : ∃ z, z = sha2 h.bytes := ⟨_, rfl⟩
 obtain ⟨J2, hJ2⟩ : ∃ z, z = sha2 h2.bytes := ⟨_, rfl⟩
 have FJ0 := hide (show sha2 h.bytes = J0 from hJ0.symm)
 have FJ2 := hide (show sha2 h2.bytes = J2 from hJ2.symm)
 obtain ⟨q3, hq3⟩ : ∃ q, q = (J2 == J0) := ⟨_, rfl⟩
 have HQ3 := hide (show ∀ w, (eqlHash (.agg (bcs J2).toArray) (.agg (bcs J0).toArray)).run Try.prog w = .ok (.bool q3) w from fun w => by rw [hq3]; exact eqlHash_run J2 J0 (by rw [hJ2]; exact sha2_len _) (by rw [hJ0]; exact sha2_len _) w)
 clear hw20 hp21 hh2 o20 hlt hJ0 hJ2 hq3 c67 f67 K19 B19 S16e S18
 refine wp_region_held_drew (S := fun w' => Below w20.heap.size w20 w') (by kernel_rfl) (by exact (Below.refl _ _).drew) (fun hSV0 => ?_)
 obtain ⟨w20d, hwV⟩ : ∃ x, x = w20.drew := ⟨_, rfl⟩
 rw [← hwV] at hSV0 ⊢
 have hDV : Below w20.heap.size w20 w20d := by rw [hwV]; exact (Below.refl _ _).drew
 clear hwV
 (refine tk (i := 0) (oi := ⟨some 124, .load 33 (.tmp 21), 33, "law.go:155", #[], none⟩) (v := ?_) hSV0 (fun w' hSw => ?_) ?_; rotate_left; focus (have z9 := loadHead_run w' p21 0 h2 (range_under KB.out.whole hSw) HF2.out; go_simp; try with_reducible rfl))
 simp only [Act.put, sT, sZ, sS]
 (refine tk (i := 2) (oi := ⟨some 126, .load 33 (.tmp 5), 33, "law.go:155", #[], none⟩) (v := ?_) hSV0 (fun w' hSw => ?_) ?_; rotate_left; focus (have z9 := loadHead_run w' w.heap.size 0 h (range_under KA.out.whole hSw) HF.out; go_simp; try with_reducible rfl))
 simp only [Act.put, sT, sZ, sS]
 (refine tk (i := 5) (oi := ⟨some 129, .load 33 (.tmp 21), 33, "law.go:155", #[], none⟩) (v := ?_) hSV0 (fun w' hSw => ?_) ?_; rotate_left; focus (have z9 := loadHead_run w' p21 0 h2 (range_under KB.out.whole hSw) HF2.out; go_simp; try with_reducible rfl))
 simp only [Act.put, sT, sZ, sS]
 (refine tk (i := 7) (oi := ⟨some 131, .load 33 (.tmp 5), 33, "law.go:155", #[], none⟩) (v := ?_) hSV0 (fun w' hSw => ?_) ?_; rotate_left; focus (have z9 := loadHead_run w' w.heap.size 0 h (range_under KA.out.whole hSw) HF.out; go_simp; try with_reducible rfl))
 simp only [Act.put, sT, sZ, sS]
 refine wpAnyH_ready (rs := [1]) (by kernel_rfl) (by simp) ?_
 refine AllReadyH.cons rfl (fun K hK => ?_) AllReadyH.nil
 go_simp
 go_wp2_with (go_at_call 41; refine (BId_any w20d h2 HF2.out).mono ?_; rintro e x1 ⟨rfl, bx1⟩; rw [FJ2.out])
 refine hK.out _ _ (Below.then_ hSV0 bx1) (fun hSV1 => ?_)
 clear hK K
 refine wpAnyH_ready (rs := [3]) (by kernel_rfl) (by simp) ?_
 refine AllReadyH.cons rfl (fun K hK => ?_) AllReadyH.nil
 go_simp
 go_wp2_with (go_at_call 41; refine (BId_any x1 h HF.out).mono ?_; rintro e x2 ⟨rfl, bx2⟩; rw [FJ0.out])
 refine hK.out _ _ (Below.then_ hSV1 bx2) (fun hSV2 => ?_)
 clear hK K
 (refine tk (i := 4) (oi := ⟨some 128, .binOp .eql 31 (.tmp 125) (.tmp 127) 31, 4, "law.go:155", #[⟨1, .data⟩, ⟨3, .data⟩], none⟩) (v := ?_) hSV2 (fun w' hSw => ?_) ?_; rotate_left; focus (have z9 := HQ3.out w'; go_simp; try with_reducible rfl))
 simp only [Act.put, sT, sZ, sS]
 refine wpAnyH_ready (rs := [6]) (by kernel_rfl) (by simp) ?_
 refine AllReadyH.cons rfl (fun K hK => ?_) AllReadyH.nil
 go_simp
 go_wp2_with (go_at_call 17; refine (refBId_any x2 h2 HF2.out).mono ?_; rintro e x3 ⟨rfl, bx3⟩; rw [FJ2.out])
 refine hK.out _ _ (Below.then_ hSV2 bx3) (fun hSV3 => ?_)
 clear hK K
 refine wpAnyH_ready (rs := [8]) (by kernel_rfl) (by simp) ?_
 refine AllReadyH.cons rfl (fun K hK => ?_) AllReadyH.nil
 go_simp
 go_wp2_with (go_at_call 17; refine (refBId_any x3 h HF.out).mono ?_; rintro e x4 ⟨rfl, bx4⟩; rw [FJ0.out])
 refine hK.out _ _ (Below.then_ hSV3 bx4) (fun hSV4 => ?_)
 clear hK K
 (refine tk (i := 9) (oi := ⟨some 133, .binOp .eql 31 (.tmp 130) (.tmp 132) 31, 4, "law.go:155", #[⟨6, .data⟩, ⟨8, .data⟩], none⟩) (v := ?_) hSV4 (fun w' hSw => ?_) ?_; rotate_left; focus (have z9 := HQ3.out w'; go_simp; try with_reducible rfl))
 simp only [Act.put, sT, sZ, sS]
 (refine tk (i := 10) (oi := ⟨some 134, .binOp .eql 4 (.tmp 128) (.tmp 133) 4, 4, "law.go:155", #[⟨4, .data⟩, ⟨9, .data⟩], none⟩) (v := ?_) hSV4 (fun w' hSw => ?_) ?_; rotate_left; focus (go_simp; try with_reducible rfl))
 simp only [Act.put, sT, sZ, sS]
 (refine tk (i := 11) (oi := ⟨some 6, .assign (.tmp 134), 4, "law.go:155", #[⟨10, .data⟩, ⟨8, .chain⟩, ⟨0, .phase⟩, ⟨1, .phase⟩, ⟨2, .phase⟩, ⟨3, .phase⟩, ⟨4, .phase⟩, ⟨5, .phase⟩, ⟨6, .phase⟩, ⟨7, .phase⟩, ⟨8, .phase⟩, ⟨9, .phase⟩, ⟨10, .phase⟩], none⟩) (v := ?_) hSV4 (fun w' hSw => ?_) ?_; rotate_left; focus (go_simp; try with_reducible rfl))
 simp only [Act.put, sT, sZ, sS]
 refine wpAnyH_done (by kernel_rfl) ?_ _
 go_wp2_with fail
 go_ret
 exact ⟨rfl, Below.then_ HB20.out hSV4⟩)
end Go.Proofs.Ytbpmcnfmgaolnaa
