import Derived.Test.YtbpmcnfmgaolnaaPk23
/-
  BlockNames: the law's walk.
-/
namespace Go.Proofs.Ytbpmcnfmgaolnaa
open Go.RowKit

/-- The example with another root. -/
def otherRoot : List Int := [200, 220, 70, 224, 43, 188, 23, 139, 251, 104, 248, 93, 151, 93, 92, 91, 41, 159, 118, 70, 137, 17, 198, 173, 225, 47, 190, 109, 95, 218, 148, 59]
theorem other_check : checkB (plainD otherRoot) = 111 := by decide +kernel
theorem twice_check : checkB ⟨plainH plainRoot, [plainTD, plainTD]⟩ = 111 := by decide +kernel
theorem zeroB_check : checkB zeroB.d = 111 := by decide +kernel
theorem plain_first (w : World) (g gl gi go gt : Nat) (h : Blk w g 40 (plainB plainRoot gl gi go gt).cells) : w.cell? ⟨g, 33, none⟩ = some (.int .u8 199) := by
  rw [h.cell]; rfl
theorem other_set (gl gi go gt : Nat) : (plainB plainRoot gl gi go gt).cells.set 33 (.int .u8 200) = (plainB otherRoot gl gi go gt).cells := rfl
def zeros (n : Nat) : List Int := List.replicate n 0
theorem zeros_byt (n : Nat) : Byt (zeros n) := fun x hx => by have := List.eq_of_mem_replicate hx; omega
theorem make_zeros (n : Nat) (hn : n ≤ 1000) (w : World) : (Instr.makeSlice 56 (.int .i64 (n : Int)) (.int .i64 (n : Int))).run Try.prog w = .ok (.slice (some ⟨w.heap.size, 0, none⟩) n n) (w.alloc (.cells (bcs (zeros n)).toArray 5)) := by
  obtain ⟨i, z, hi, hz, hs1, hby, hzs⟩ := u8_info
  have hz8 : z = .int .u8 0 := by
    have h9 : (Try.prog.info? 5).map (·.zero) = some (some (.int .u8 0)) := by kernel_rfl
    rw [hi] at h9
    simp only [Option.map_some, Option.some.injEq] at h9
    rw [hz] at h9
    exact Option.some.inj h9
  have h := run_make_rowN (P := Try.prog) 56 5 i z Try.underlying56 hi hz .i64 .i64 n n (Nat.le_refl _) (by rw [hby]; omega) (by omega) w
  have e : madeCells (Value.int .u8 0).cells (n * 1) = (bcs (zeros n)).toArray := by
    apply Array.ext
    · simp [madeCells, bcs, zeros]
    · intro i h1 h2
      simp [madeCells, bcs, zeros, Value.cells, Nat.mod_one]
  rw [h, hz8, hs1, e]
theorem own_of_blk {w : World} {g : Nat} {e : TypeId} {T : TxV} (h : Blk w g e T.cells) : w.ownsRow 0 e 4 (.slice (some ⟨g, 0, none⟩) 1 1) 1 T.cells :=
  ⟨rfl, .inr ⟨g, 1, T.cells.toArray, rfl, Nat.zero_le _, h, Nat.le_refl _, by simp [maxLen], rfl, rfl⟩⟩
theorem names_facts : ∃ (H X : List Int), Hid (PlainRoot H) ∧ (∀ (w : World) (g gl gi go gt : Nat), Blk w g 40 (plainB H gl gi go gt).cells → w.cell? ⟨g, 33, none⟩ = some (.int .u8 199)) ∧ (∀ gl gi go gt, (plainB H gl gi go gt).cells.set 33 (.int .u8 200) = (plainB X gl gi go gt).cells) ∧ (X.length = 32 ∧ Byt X) ∧ (∀ gl gi go gt, checkB (plainB X gl gi go gt).d = 111) ∧ checkB ⟨plainH H, [plainTD, plainTD]⟩ = 111 :=
  ⟨plainRoot, otherRoot, hide plainRoot_is, plain_first, other_set, ⟨rfl, fun x hx => by simp [otherRoot] at hx; omega⟩, fun _ _ _ _ => other_check, twice_check⟩
theorem parse_z79 : parseH (zeros 79) = (zeroH, 61) := by decide +kernel
theorem parse_z81 : parseH (zeros 81) = (zeroH, 62) := by decide +kernel
theorem parse_z80 : parseH (zeros 80) = (zeroH, 0) := by decide +kernel
theorem head_storeN {w : World} {ops : Array Oper} {rest : List Oper} {op : Oper} {a : Act} {Q : Exit → Act → World → Prop} (hgd : op.guard = none) (x y : Operand) (ho : op.op = .store 33 x y)
    (w0 : World) (hw : w = w0.alloc (.cells zeroH.cells.toArray 33)) (hx : a.eval x = .pointer (some ⟨w0.heap.size, 0, none⟩)) (hy : a.eval y = .agg zeroH.cells.toArray)
    (h : ∀ w', Below w0.heap.size w0 w' → Blk w' w0.heap.size 33 zeroH.cells → wpList Try.prog ops Q rest (a.put op.dst undef) w') : wpList Try.prog ops Q (op :: rest) a w := by
  subst hw
  refine wpList_store_blk hgd 33 x y ho w0.heap.size 0 33 zeroH.cells zeroH.cells hx hy (Blk.new w0 _ _) (Nat.le_refl _) (by rw [HeadD.cells_len zeroH_fine]; exact isHead) (HeadD.one _) ?_
  intro w' o z b
  rw [lay_all zeroH.cells zeroH.cells rfl] at b
  have hb : Below w0.heap.size w0 (w0.alloc (.cells zeroH.cells.toArray 33)) := below_alloc (Below.refl _ _) _
  exact h w' (hb.trans (o.below hb.size (fun i hi e => by have h9 : i = w0.heap.size := e; omega))) b
attribute [local go_sem ↓] loadHead_fold loadBlk_fold loadTx_fold loadHash_fold eqlHash_fold eqlHead_fold mkHash_fold mkBlk_fold mkHead_fold mkTxs_fold
attribute [local go_sem] mkHash_zero mkBlk_zero mkHead_zero guardHash guardHead
theorem blk_ne {w : World} {a b : Nat} {t u : TypeId} {cs ds : List Value} (h1 : Blk w a t cs) (h2 : Blk w b u ds) (ht : t ≠ u) : ¬ a = b := fun e => by
  subst e
  have h3 : some (Obj.cells cs.toArray t (0, 0)) = some (Obj.cells ds.toArray u (0, 0)) := h1.symm.trans h2
  injection h3 with h3
  injection h3 with _ h4 _
  exact ht h4
theorem own_ne {w : World} {base k n g : Nat} {e u : TypeId} {v : Value} {cs ds : List Value} (h : w.ownsRow base e k v n cs) (hg : v.ownBlock = some g) (hb : Blk w g u ds) (ht : e ≠ u) : False := by
  rcases h.2 with ⟨e1, _⟩ | ⟨g9, cap, cur, e1, _, hh, _⟩
  · rw [e1] at hg; cases hg
  · rw [e1] at hg
    have h9 : g9 = g := by injection hg
    subst h9
    have h3 : some (Obj.cells cur e (0, 0)) = some (Obj.cells ds.toArray u (0, 0)) := hh.symm.trans hb
    injection h3 with h3
    injection h3 with _ h4 _
    exact ht h4
theorem plainB_fine {w : World} {H : List Int} {gl gi go gt : Nat} (h : PTxAt w gl gi go) (ht : Blk w gt 37 (plainT gl gi go).cells) (hh : H.length = 32 ∧ Byt H) : (plainB H gl gi go gt).Fine w := by
  refine ⟨plainH_fine H hh, ⟨rfl, fun a ha => ?_, fun _ => ⟨gt, 0, rfl, fun j a ha => ?_⟩⟩, Nat.le_refl _⟩
  · obtain rfl : a = plainT gl gi go := by simpa [plainB] using ha
    exact h.fine
  · rcases j with _ | j
    · obtain rfl : plainT gl gi go = a := by simpa [plainB] using ha
      simpa using ht.whole
    · simp [plainB] at ha
set_option maxHeartbeats 4000000 in
set_option maxRecDepth 100000 in
theorem names_r3 {Q : Exit → Act → World → Prop} (hPan : ∀ c (a : Act) (d : Nat) v w, Q (.panic c) (a.put (some d) v) w → Q (.panic c) a w) (u0 u1 u3 u4 u5 u6 u7 u8 u9 u10 u11 u12 u13 u14 u15 u16 u17 u18 u19 u20 u21 u22 u23 u24 u25 u26 u27 u28 u29 u30 u31 u32 u33 u34 u35 u36 u37 u38 u39 u40 u41 u42 u43 u44 u45 u46 u47 u48 u49 u50 u51 u52 u53 u54 u55 u56 u57 u58 u59 u60 u61 u62 u63 u64 u65 u66 u67 u68 u69 u70 u71 u72 u73 u74 u75 u76 u77 u78 u79 u80 u81 u82 u83 u84 u85 u86 u87 u88 u89 u90 u91 u92 u93 u94 : Value) (H : List Int) (hf : (plainH H).Fine) (w5 : World) (p2 l2 i2 g2 t2 : Nat) (hn2 : t2 ≠ p2)
    (K2 : Hid (Blk w5 p2 40 (plainB H l2 i2 g2 t2).cells)) (T2 : Hid (Blk w5 t2 37 (plainT l2 i2 g2).cells)) (hPT : PTxAt w5 l2 i2 g2)
    (hQ : ∀ (v21 v22 v23 v24 v25 v26 v27 v28 v29 : Value) (w10 : World) (A9 : Option Addr) (c9 : Nat), Only (fun i => i = p2 ∨ i = t2) w5 w10 → Blk w10 p2 40 ((plainH H).cells ++ [.slice A9 2 c9]) → (⟨plainH H, A9, 2, c9, [plainT l2 i2 g2, plainT l2 i2 g2]⟩ : BlkV).Fine w10 → Q .normal { tmps := List.toArray (u0 :: u1 :: .pointer (some ⟨p2, 0, none⟩) :: u3 :: u4 :: u5 :: u6 :: u7 :: u8 :: u9 :: u10 :: u11 :: u12 :: u13 :: u14 :: u15 :: u16 :: u17 :: u18 :: u19 :: u20 :: v21 :: v22 :: v23 :: v24 :: v25 :: v26 :: v27 :: v28 :: v29 :: u30 :: u31 :: u32 :: u33 :: u34 :: u35 :: u36 :: u37 :: u38 :: u39 :: u40 :: u41 :: u42 :: u43 :: u44 :: u45 :: u46 :: u47 :: u48 :: u49 :: u50 :: u51 :: u52 :: u53 :: u54 :: u55 :: u56 :: u57 :: u58 :: u59 :: u60 :: u61 :: u62 :: u63 :: u64 :: u65 :: u66 :: u67 :: u68 :: u69 :: u70 :: u71 :: u72 :: u73 :: u74 :: u75 :: u76 :: u77 :: u78 :: u79 :: u80 :: u81 :: u82 :: u83 :: u84 :: u85 :: u86 :: u87 :: u88 :: u89 :: u90 :: u91 :: u92 :: u93 :: u94 :: []), defers := [] } w10) :
    (Code.region 3 #[⟨some 21, .fieldAddr 40 (.tmp 2) 1, 0, "law.go:27", #[], none⟩, ⟨some 22, .load 38 (.tmp 21), 38, "law.go:27", #[⟨0, .data⟩], none⟩, ⟨some 23, .fieldAddr 40 (.tmp 2) 1, 0, "law.go:27", #[], none⟩, ⟨some 24, .load 38 (.tmp 23), 38, "law.go:27", #[⟨2, .data⟩], none⟩, ⟨some 25, .indexAddr 38 (.tmp 24) (.const (.int .i64 0)), 0, "law.go:27", #[⟨3, .data⟩], none⟩, ⟨some 26, .load 37 (.tmp 25), 37, "law.go:27", #[⟨4, .data⟩], none⟩, ⟨some 27, .buildSlice 38 1 #[(0, .tmp 26)], 38, "law.go:27", #[⟨5, .data⟩], none⟩, ⟨some 28, .call { callee := .builtin .append, args := #[.tmp 22, .tmp 27], argTypes := #[38, 38] }, 38, "law.go:27", #[⟨1, .data⟩, ⟨6, .data⟩], none⟩, ⟨some 29, .fieldAddr 40 (.tmp 2) 1, 0, "law.go:27", #[⟨0, .phase⟩, ⟨1, .phase⟩, ⟨2, .phase⟩, ⟨3, .phase⟩, ⟨4, .phase⟩, ⟨5, .phase⟩, ⟨6, .phase⟩, ⟨7, .phase⟩], none⟩, ⟨none, .store 38 (.tmp 29) (.tmp 28), 0, "law.go:27", #[⟨8, .data⟩, ⟨7, .data⟩, ⟨7, .chain⟩, ⟨0, .phase⟩, ⟨1, .phase⟩, ⟨2, .phase⟩, ⟨3, .phase⟩, ⟨4, .phase⟩, ⟨5, .phase⟩, ⟨6, .phase⟩, ⟨7, .phase⟩], none⟩] true).wp Try.prog Q { tmps := List.toArray (u0 :: u1 :: .pointer (some ⟨p2, 0, none⟩) :: u3 :: u4 :: u5 :: u6 :: u7 :: u8 :: u9 :: u10 :: u11 :: u12 :: u13 :: u14 :: u15 :: u16 :: u17 :: u18 :: u19 :: u20 :: u21 :: u22 :: u23 :: u24 :: u25 :: u26 :: u27 :: u28 :: u29 :: u30 :: u31 :: u32 :: u33 :: u34 :: u35 :: u36 :: u37 :: u38 :: u39 :: u40 :: u41 :: u42 :: u43 :: u44 :: u45 :: u46 :: u47 :: u48 :: u49 :: u50 :: u51 :: u52 :: u53 :: u54 :: u55 :: u56 :: u57 :: u58 :: u59 :: u60 :: u61 :: u62 :: u63 :: u64 :: u65 :: u66 :: u67 :: u68 :: u69 :: u70 :: u71 :: u72 :: u73 :: u74 :: u75 :: u76 :: u77 :: u78 :: u79 :: u80 :: u81 :: u82 :: u83 :: u84 :: u85 :: u86 :: u87 :: u88 :: u89 :: u90 :: u91 :: u92 :: u93 :: u94 :: []), defers := [] } w5 := by
  refine wp_region_held_drew (S := fun _ => True) (by kernel_rfl) (trivial) (fun hSA0 => ?_)
  obtain ⟨w5d, hwA⟩ : ∃ x, x = w5.drew := ⟨_, rfl⟩
  have Bw5d := hide (show Below w5.heap.size w5 w5d by rw [hwA]; exact (Below.refl _ _).drew)
  have K2w5d := hide (K2.out.under Bw5d.out)
  have Tw5d := hide (T2.out.under Bw5d.out)
  rw [← hwA]
  clear hwA
  (refine wpAnyH_take (i := 0) (oi := ⟨some 21, .fieldAddr 40 (.tmp 2) 1, 0, "law.go:27", #[], none⟩) (v := ?_) rfl (by kernel_rfl) (by kernel_rfl) (by kernel_rfl) (fun c a w h => hPan c a _ _ w h) (Or.inl ⟨by rfl, fun w' hSw => ?_⟩) hSA0 ?_; rotate_left; focus (go_simp; try with_reducible rfl))
  simp only [Act.put, List.setIfInBounds_toArray, List.set_cons_zero, List.set_cons_succ]
  (refine wpAnyH_take (i := 2) (oi := ⟨some 23, .fieldAddr 40 (.tmp 2) 1, 0, "law.go:27", #[], none⟩) (v := ?_) rfl (by kernel_rfl) (by kernel_rfl) (by kernel_rfl) (fun c a w h => hPan c a _ _ w h) (Or.inl ⟨by rfl, fun w' hSw => ?_⟩) hSA0 ?_; rotate_left; focus (go_simp; try with_reducible rfl))
  simp only [Act.put, List.setIfInBounds_toArray, List.set_cons_zero, List.set_cons_succ]
  refine wpAnyH_ready (rs := [1, 3]) (by kernel_rfl) (by simp) ?_
  refine AllReadyH.cons rfl (fun K hK => ?_) (AllReadyH.cons rfl (fun K hK => ?_) AllReadyH.nil)
  · have c0 := (cell68 (h := plainH H) (a := .slice (some ⟨t2, 0, none⟩) 1 1) K2w5d.out hf)
    go_simp
    clear c0
    refine hK.out _ _ (trivial) (fun hSA1 => ?_)
    clear hK K
    refine wpAnyH_ready (rs := [3]) (by kernel_rfl) (by simp) ?_
    refine AllReadyH.cons rfl (fun K hK => ?_) AllReadyH.nil
    have c0 := (cell68 (h := plainH H) (a := .slice (some ⟨t2, 0, none⟩) 1 1) K2w5d.out hf)
    go_simp
    clear c0
    refine hK.out _ _ (trivial) (fun hSA2 => ?_)
    clear hK K
    (refine wpAnyH_take (i := 4) (oi := ⟨some 25, .indexAddr 38 (.tmp 24) (.const (.int .i64 0)), 0, "law.go:27", #[⟨3, .data⟩], none⟩) (v := ?_) rfl (by kernel_rfl) (by kernel_rfl) (by kernel_rfl) (fun c a w h => hPan c a _ _ w h) (Or.inl ⟨by rfl, fun w' hSw => ?_⟩) hSA2 ?_; rotate_left; focus (go_simp; try with_reducible rfl))
    simp only [Act.put, List.setIfInBounds_toArray, List.set_cons_zero, List.set_cons_succ]
    refine wpAnyH_ready (rs := [5]) (by kernel_rfl) (by simp) ?_
    refine AllReadyH.cons rfl (fun K hK => ?_) AllReadyH.nil
    have lt := loadTx_run w5d t2 0 (plainT l2 i2 g2) Tw5d.out.whole
    go_simp
    clear lt
    refine hK.out _ _ (trivial) (fun hSA3 => ?_)
    clear hK K
    refine wpAnyH_ready (rs := [6]) (by kernel_rfl) (by simp) ?_
    refine AllReadyH.cons rfl (fun K hK => ?_) AllReadyH.nil
    have hmr := mkTxs_run w5d (plainT l2 i2 g2)
    go_simp
    clear hmr
    have Nwr3 := hide (Blk.new w5d 37 (plainT l2 i2 g2).cells)
    have Bwr3 := hide (below_alloc Bw5d.out (.cells (plainT l2 i2 g2).cells.toArray 37))
    have Twr3 := hide (Tw5d.out.alloc (.cells (plainT l2 i2 g2).cells.toArray 37))
    have K2wr3 := hide (K2w5d.out.alloc (.cells (plainT l2 i2 g2).cells.toArray 37))
    obtain ⟨gr, hgr⟩ : ∃ x, x = w5d.heap.size := ⟨_, rfl⟩
    obtain ⟨wr3, hv⟩ : ∃ x, x = w5d.alloc (.cells (plainT l2 i2 g2).cells.toArray 37) := ⟨_, rfl⟩
    rw [← hgr, ← hv] at Nwr3
    rw [← hv] at Bwr3 Twr3 K2wr3 ⊢
    rw [← hgr]
    clear hv hgr
    refine hK.out _ _ (trivial) (fun hSA4 => ?_)
    clear hK K
    refine wpAnyH_ready (rs := [7]) (by kernel_rfl) (by simp) ?_
    refine AllReadyH.cons rfl (fun K hK => ?_) AllReadyH.nil
    refine step_row (by rfl) _ (by rfl) _ _ 38 (by rfl) 37 4 64 Try.underlying38 tx_infoR (by decide) 0 (.slice (some ⟨t2, 0, none⟩) 1 1) 1 (plainT l2 i2 g2).cells (by rfl) (own_of_blk Twr3.out) (Nat.zero_le _) gr 0 1 1 (plainT l2 i2 g2).cells (by rfl) rfl Nwr3.out.whole (TxV.one _) (by decide) (by decide) ?_
    intro A9 c9 w9 q1 q2 q3 q4
    have K29 := hide (q4.blk K2wr3.out (fun e => hn2 (by injection e)))
    have Q1 := hide q1
    have Q2 := hide q2
    have O9 := hide ((Only.of_below Bwr3.out (fun i => i = p2 ∨ i = t2)).trans q4 (fun i _ h => .inr (by have h9 : t2 = i := (by injection h); exact h9.symm)))
    clear q1 q2 q3 q4
    refine hK.out _ _ (trivial) (fun hSA5 => ?_)
    clear hK K
    (refine wpAnyH_take (i := 8) (oi := ⟨some 29, .fieldAddr 40 (.tmp 2) 1, 0, "law.go:27", #[⟨0, .phase⟩, ⟨1, .phase⟩, ⟨2, .phase⟩, ⟨3, .phase⟩, ⟨4, .phase⟩, ⟨5, .phase⟩, ⟨6, .phase⟩, ⟨7, .phase⟩], none⟩) (v := ?_) rfl (by kernel_rfl) (by kernel_rfl) (by kernel_rfl) (fun c a w h => hPan c a _ _ w h) (Or.inl ⟨by rfl, fun w' hSw => ?_⟩) hSA5 ?_; rotate_left; focus (go_simp; try with_reducible rfl))
    simp only [Act.put, List.setIfInBounds_toArray, List.set_cons_zero, List.set_cons_succ]
    refine wpAnyH_ready (rs := [9]) (by kernel_rfl) (by simp) ?_
    refine AllReadyH.cons rfl (fun K hK => ?_) AllReadyH.nil
    have c0 := (cell68 (h := plainH H) (a := .slice (some ⟨t2, 0, none⟩) 1 1) K29.out hf)
    have f0 := K29.out.frozen 68
    go_simp
    clear c0 f0
    refine hK.out _ _ (trivial) (fun hSA6 => ?_)
    clear hK K
    refine wpAnyH_done (by kernel_rfl) ?_ _
    have O10 := O9.out.trans (Only.cell1 w9 p2 68 (.slice A9 2 c9)) (fun i _ h => .inl h)
    have hk := K29.out.set_ 68 (.slice A9 2 c9)
    rw [show (plainB H l2 i2 g2 t2).cells = (plainH H).cells ++ [.slice (some ⟨t2, 0, none⟩) 1 1] from rfl, head_set hf] at hk
    have hT : PTxAt w5 l2 i2 g2 := hPT
    have hfine : (plainT l2 i2 g2).Fine (w9.setCell ⟨p2, 68, none⟩ (.slice A9 2 c9)) := PTxAt.fine ⟨O10.blk hT.l (by rintro (e | e); exact blk_ne hT.l K2.out (by decide) e; exact blk_ne hT.l T2.out (by decide) e), O10.blk hT.i (by rintro (e | e); exact blk_ne hT.i K2.out (by decide) e; exact blk_ne hT.i T2.out (by decide) e), O10.blk hT.o (by rintro (e | e); exact blk_ne hT.o K2.out (by decide) e; exact blk_ne hT.o T2.out (by decide) e)⟩
    have hown := (Only.cell1 w9 p2 68 (.slice A9 2 c9)).own Q1.out (fun g hg e => by have h9 : g = p2 := e; subst h9; exact own_ne Q1.out hg K29.out (by decide))
    refine hQ _ _ _ _ _ _ _ _ _ _ A9 c9 O10 hk ⟨hf, rows_of (xs := [plainT l2 i2 g2, plainT l2 i2 g2]) rfl (fun a ha => by have h9 : a = plainT l2 i2 g2 := (by simpa using ha); rw [h9]; rfl) (by simpa using hown) (fun a ha => by have h9 : a = plainT l2 i2 g2 := (by simpa using ha); rw [h9]; exact hfine), Q2.out⟩
  · have c0 := (cell68 (h := plainH H) (a := .slice (some ⟨t2, 0, none⟩) 1 1) K2w5d.out hf)
    go_simp
    clear c0
    refine hK.out _ _ (trivial) (fun hSA1 => ?_)
    clear hK K
    (refine wpAnyH_take (i := 4) (oi := ⟨some 25, .indexAddr 38 (.tmp 24) (.const (.int .i64 0)), 0, "law.go:27", #[⟨3, .data⟩], none⟩) (v := ?_) rfl (by kernel_rfl) (by kernel_rfl) (by kernel_rfl) (fun c a w h => hPan c a _ _ w h) (Or.inl ⟨by rfl, fun w' hSw => ?_⟩) hSA1 ?_; rotate_left; focus (go_simp; try with_reducible rfl))
    simp only [Act.put, List.setIfInBounds_toArray, List.set_cons_zero, List.set_cons_succ]
    refine wpAnyH_ready (rs := [1, 5]) (by kernel_rfl) (by simp) ?_
    refine AllReadyH.cons rfl (fun K hK => ?_) (AllReadyH.cons rfl (fun K hK => ?_) AllReadyH.nil)
    · have c0 := (cell68 (h := plainH H) (a := .slice (some ⟨t2, 0, none⟩) 1 1) K2w5d.out hf)
      go_simp
      clear c0
      refine hK.out _ _ (trivial) (fun hSA2 => ?_)
      clear hK K
      refine wpAnyH_ready (rs := [5]) (by kernel_rfl) (by simp) ?_
      refine AllReadyH.cons rfl (fun K hK => ?_) AllReadyH.nil
      have lt := loadTx_run w5d t2 0 (plainT l2 i2 g2) Tw5d.out.whole
      go_simp
      clear lt
      refine hK.out _ _ (trivial) (fun hSA3 => ?_)
      clear hK K
      refine wpAnyH_ready (rs := [6]) (by kernel_rfl) (by simp) ?_
      refine AllReadyH.cons rfl (fun K hK => ?_) AllReadyH.nil
      have hmr := mkTxs_run w5d (plainT l2 i2 g2)
      go_simp
      clear hmr
      have Nwr3 := hide (Blk.new w5d 37 (plainT l2 i2 g2).cells)
      have Bwr3 := hide (below_alloc Bw5d.out (.cells (plainT l2 i2 g2).cells.toArray 37))
      have Twr3 := hide (Tw5d.out.alloc (.cells (plainT l2 i2 g2).cells.toArray 37))
      have K2wr3 := hide (K2w5d.out.alloc (.cells (plainT l2 i2 g2).cells.toArray 37))
      obtain ⟨gr, hgr⟩ : ∃ x, x = w5d.heap.size := ⟨_, rfl⟩
      obtain ⟨wr3, hv⟩ : ∃ x, x = w5d.alloc (.cells (plainT l2 i2 g2).cells.toArray 37) := ⟨_, rfl⟩
      rw [← hgr, ← hv] at Nwr3
      rw [← hv] at Bwr3 Twr3 K2wr3 ⊢
      rw [← hgr]
      clear hv hgr
      refine hK.out _ _ (trivial) (fun hSA4 => ?_)
      clear hK K
      refine wpAnyH_ready (rs := [7]) (by kernel_rfl) (by simp) ?_
      refine AllReadyH.cons rfl (fun K hK => ?_) AllReadyH.nil
      refine step_row (by rfl) _ (by rfl) _ _ 38 (by rfl) 37 4 64 Try.underlying38 tx_infoR (by decide) 0 (.slice (some ⟨t2, 0, none⟩) 1 1) 1 (plainT l2 i2 g2).cells (by rfl) (own_of_blk Twr3.out) (Nat.zero_le _) gr 0 1 1 (plainT l2 i2 g2).cells (by rfl) rfl Nwr3.out.whole (TxV.one _) (by decide) (by decide) ?_
      intro A9 c9 w9 q1 q2 q3 q4
      have K29 := hide (q4.blk K2wr3.out (fun e => hn2 (by injection e)))
      have Q1 := hide q1
      have Q2 := hide q2
      have O9 := hide ((Only.of_below Bwr3.out (fun i => i = p2 ∨ i = t2)).trans q4 (fun i _ h => .inr (by have h9 : t2 = i := (by injection h); exact h9.symm)))
      clear q1 q2 q3 q4
      refine hK.out _ _ (trivial) (fun hSA5 => ?_)
      clear hK K
      (refine wpAnyH_take (i := 8) (oi := ⟨some 29, .fieldAddr 40 (.tmp 2) 1, 0, "law.go:27", #[⟨0, .phase⟩, ⟨1, .phase⟩, ⟨2, .phase⟩, ⟨3, .phase⟩, ⟨4, .phase⟩, ⟨5, .phase⟩, ⟨6, .phase⟩, ⟨7, .phase⟩], none⟩) (v := ?_) rfl (by kernel_rfl) (by kernel_rfl) (by kernel_rfl) (fun c a w h => hPan c a _ _ w h) (Or.inl ⟨by rfl, fun w' hSw => ?_⟩) hSA5 ?_; rotate_left; focus (go_simp; try with_reducible rfl))
      simp only [Act.put, List.setIfInBounds_toArray, List.set_cons_zero, List.set_cons_succ]
      refine wpAnyH_ready (rs := [9]) (by kernel_rfl) (by simp) ?_
      refine AllReadyH.cons rfl (fun K hK => ?_) AllReadyH.nil
      have c0 := (cell68 (h := plainH H) (a := .slice (some ⟨t2, 0, none⟩) 1 1) K29.out hf)
      have f0 := K29.out.frozen 68
      go_simp
      clear c0 f0
      refine hK.out _ _ (trivial) (fun hSA6 => ?_)
      clear hK K
      refine wpAnyH_done (by kernel_rfl) ?_ _
      have O10 := O9.out.trans (Only.cell1 w9 p2 68 (.slice A9 2 c9)) (fun i _ h => .inl h)
      have hk := K29.out.set_ 68 (.slice A9 2 c9)
      rw [show (plainB H l2 i2 g2 t2).cells = (plainH H).cells ++ [.slice (some ⟨t2, 0, none⟩) 1 1] from rfl, head_set hf] at hk
      have hT : PTxAt w5 l2 i2 g2 := hPT
      have hfine : (plainT l2 i2 g2).Fine (w9.setCell ⟨p2, 68, none⟩ (.slice A9 2 c9)) := PTxAt.fine ⟨O10.blk hT.l (by rintro (e | e); exact blk_ne hT.l K2.out (by decide) e; exact blk_ne hT.l T2.out (by decide) e), O10.blk hT.i (by rintro (e | e); exact blk_ne hT.i K2.out (by decide) e; exact blk_ne hT.i T2.out (by decide) e), O10.blk hT.o (by rintro (e | e); exact blk_ne hT.o K2.out (by decide) e; exact blk_ne hT.o T2.out (by decide) e)⟩
      have hown := (Only.cell1 w9 p2 68 (.slice A9 2 c9)).own Q1.out (fun g hg e => by have h9 : g = p2 := e; subst h9; exact own_ne Q1.out hg K29.out (by decide))
      refine hQ _ _ _ _ _ _ _ _ _ _ A9 c9 O10 hk ⟨hf, rows_of (xs := [plainT l2 i2 g2, plainT l2 i2 g2]) rfl (fun a ha => by have h9 : a = plainT l2 i2 g2 := (by simpa using ha); rw [h9]; rfl) (by simpa using hown) (fun a ha => by have h9 : a = plainT l2 i2 g2 := (by simpa using ha); rw [h9]; exact hfine), Q2.out⟩
    · have lt := loadTx_run w5d t2 0 (plainT l2 i2 g2) Tw5d.out.whole
      go_simp
      clear lt
      refine hK.out _ _ (trivial) (fun hSA2 => ?_)
      clear hK K
      refine wpAnyH_ready (rs := [1, 6]) (by kernel_rfl) (by simp) ?_
      refine AllReadyH.cons rfl (fun K hK => ?_) (AllReadyH.cons rfl (fun K hK => ?_) AllReadyH.nil)
      · have c0 := (cell68 (h := plainH H) (a := .slice (some ⟨t2, 0, none⟩) 1 1) K2w5d.out hf)
        go_simp
        clear c0
        refine hK.out _ _ (trivial) (fun hSA3 => ?_)
        clear hK K
        refine wpAnyH_ready (rs := [6]) (by kernel_rfl) (by simp) ?_
        refine AllReadyH.cons rfl (fun K hK => ?_) AllReadyH.nil
        have hmr := mkTxs_run w5d (plainT l2 i2 g2)
        go_simp
        clear hmr
        have Nwr3 := hide (Blk.new w5d 37 (plainT l2 i2 g2).cells)
        have Bwr3 := hide (below_alloc Bw5d.out (.cells (plainT l2 i2 g2).cells.toArray 37))
        have Twr3 := hide (Tw5d.out.alloc (.cells (plainT l2 i2 g2).cells.toArray 37))
        have K2wr3 := hide (K2w5d.out.alloc (.cells (plainT l2 i2 g2).cells.toArray 37))
        obtain ⟨gr, hgr⟩ : ∃ x, x = w5d.heap.size := ⟨_, rfl⟩
        obtain ⟨wr3, hv⟩ : ∃ x, x = w5d.alloc (.cells (plainT l2 i2 g2).cells.toArray 37) := ⟨_, rfl⟩
        rw [← hgr, ← hv] at Nwr3
        rw [← hv] at Bwr3 Twr3 K2wr3 ⊢
        rw [← hgr]
        clear hv hgr
        refine hK.out _ _ (trivial) (fun hSA4 => ?_)
        clear hK K
        refine wpAnyH_ready (rs := [7]) (by kernel_rfl) (by simp) ?_
        refine AllReadyH.cons rfl (fun K hK => ?_) AllReadyH.nil
        refine step_row (by rfl) _ (by rfl) _ _ 38 (by rfl) 37 4 64 Try.underlying38 tx_infoR (by decide) 0 (.slice (some ⟨t2, 0, none⟩) 1 1) 1 (plainT l2 i2 g2).cells (by rfl) (own_of_blk Twr3.out) (Nat.zero_le _) gr 0 1 1 (plainT l2 i2 g2).cells (by rfl) rfl Nwr3.out.whole (TxV.one _) (by decide) (by decide) ?_
        intro A9 c9 w9 q1 q2 q3 q4
        have K29 := hide (q4.blk K2wr3.out (fun e => hn2 (by injection e)))
        have Q1 := hide q1
        have Q2 := hide q2
        have O9 := hide ((Only.of_below Bwr3.out (fun i => i = p2 ∨ i = t2)).trans q4 (fun i _ h => .inr (by have h9 : t2 = i := (by injection h); exact h9.symm)))
        clear q1 q2 q3 q4
        refine hK.out _ _ (trivial) (fun hSA5 => ?_)
        clear hK K
        (refine wpAnyH_take (i := 8) (oi := ⟨some 29, .fieldAddr 40 (.tmp 2) 1, 0, "law.go:27", #[⟨0, .phase⟩, ⟨1, .phase⟩, ⟨2, .phase⟩, ⟨3, .phase⟩, ⟨4, .phase⟩, ⟨5, .phase⟩, ⟨6, .phase⟩, ⟨7, .phase⟩], none⟩) (v := ?_) rfl (by kernel_rfl) (by kernel_rfl) (by kernel_rfl) (fun c a w h => hPan c a _ _ w h) (Or.inl ⟨by rfl, fun w' hSw => ?_⟩) hSA5 ?_; rotate_left; focus (go_simp; try with_reducible rfl))
        simp only [Act.put, List.setIfInBounds_toArray, List.set_cons_zero, List.set_cons_succ]
        refine wpAnyH_ready (rs := [9]) (by kernel_rfl) (by simp) ?_
        refine AllReadyH.cons rfl (fun K hK => ?_) AllReadyH.nil
        have c0 := (cell68 (h := plainH H) (a := .slice (some ⟨t2, 0, none⟩) 1 1) K29.out hf)
        have f0 := K29.out.frozen 68
        go_simp
        clear c0 f0
        refine hK.out _ _ (trivial) (fun hSA6 => ?_)
        clear hK K
        refine wpAnyH_done (by kernel_rfl) ?_ _
        have O10 := O9.out.trans (Only.cell1 w9 p2 68 (.slice A9 2 c9)) (fun i _ h => .inl h)
        have hk := K29.out.set_ 68 (.slice A9 2 c9)
        rw [show (plainB H l2 i2 g2 t2).cells = (plainH H).cells ++ [.slice (some ⟨t2, 0, none⟩) 1 1] from rfl, head_set hf] at hk
        have hT : PTxAt w5 l2 i2 g2 := hPT
        have hfine : (plainT l2 i2 g2).Fine (w9.setCell ⟨p2, 68, none⟩ (.slice A9 2 c9)) := PTxAt.fine ⟨O10.blk hT.l (by rintro (e | e); exact blk_ne hT.l K2.out (by decide) e; exact blk_ne hT.l T2.out (by decide) e), O10.blk hT.i (by rintro (e | e); exact blk_ne hT.i K2.out (by decide) e; exact blk_ne hT.i T2.out (by decide) e), O10.blk hT.o (by rintro (e | e); exact blk_ne hT.o K2.out (by decide) e; exact blk_ne hT.o T2.out (by decide) e)⟩
        have hown := (Only.cell1 w9 p2 68 (.slice A9 2 c9)).own Q1.out (fun g hg e => by have h9 : g = p2 := e; subst h9; exact own_ne Q1.out hg K29.out (by decide))
        refine hQ _ _ _ _ _ _ _ _ _ _ A9 c9 O10 hk ⟨hf, rows_of (xs := [plainT l2 i2 g2, plainT l2 i2 g2]) rfl (fun a ha => by have h9 : a = plainT l2 i2 g2 := (by simpa using ha); rw [h9]; rfl) (by simpa using hown) (fun a ha => by have h9 : a = plainT l2 i2 g2 := (by simpa using ha); rw [h9]; exact hfine), Q2.out⟩
      · have hmr := mkTxs_run w5d (plainT l2 i2 g2)
        go_simp
        clear hmr
        have Nwr3 := hide (Blk.new w5d 37 (plainT l2 i2 g2).cells)
        have Bwr3 := hide (below_alloc Bw5d.out (.cells (plainT l2 i2 g2).cells.toArray 37))
        have Twr3 := hide (Tw5d.out.alloc (.cells (plainT l2 i2 g2).cells.toArray 37))
        have K2wr3 := hide (K2w5d.out.alloc (.cells (plainT l2 i2 g2).cells.toArray 37))
        obtain ⟨gr, hgr⟩ : ∃ x, x = w5d.heap.size := ⟨_, rfl⟩
        obtain ⟨wr3, hv⟩ : ∃ x, x = w5d.alloc (.cells (plainT l2 i2 g2).cells.toArray 37) := ⟨_, rfl⟩
        rw [← hgr, ← hv] at Nwr3
        rw [← hv] at Bwr3 Twr3 K2wr3 ⊢
        rw [← hgr]
        clear hv hgr
        refine hK.out _ _ (trivial) (fun hSA3 => ?_)
        clear hK K
        refine wpAnyH_ready (rs := [1]) (by kernel_rfl) (by simp) ?_
        refine AllReadyH.cons rfl (fun K hK => ?_) AllReadyH.nil
        have c0 := (cell68 (h := plainH H) (a := .slice (some ⟨t2, 0, none⟩) 1 1) K2wr3.out hf)
        go_simp
        clear c0
        refine hK.out _ _ (trivial) (fun hSA4 => ?_)
        clear hK K
        refine wpAnyH_ready (rs := [7]) (by kernel_rfl) (by simp) ?_
        refine AllReadyH.cons rfl (fun K hK => ?_) AllReadyH.nil
        refine step_row (by rfl) _ (by rfl) _ _ 38 (by rfl) 37 4 64 Try.underlying38 tx_infoR (by decide) 0 (.slice (some ⟨t2, 0, none⟩) 1 1) 1 (plainT l2 i2 g2).cells (by rfl) (own_of_blk Twr3.out) (Nat.zero_le _) gr 0 1 1 (plainT l2 i2 g2).cells (by rfl) rfl Nwr3.out.whole (TxV.one _) (by decide) (by decide) ?_
        intro A9 c9 w9 q1 q2 q3 q4
        have K29 := hide (q4.blk K2wr3.out (fun e => hn2 (by injection e)))
        have Q1 := hide q1
        have Q2 := hide q2
        have O9 := hide ((Only.of_below Bwr3.out (fun i => i = p2 ∨ i = t2)).trans q4 (fun i _ h => .inr (by have h9 : t2 = i := (by injection h); exact h9.symm)))
        clear q1 q2 q3 q4
        refine hK.out _ _ (trivial) (fun hSA5 => ?_)
        clear hK K
        (refine wpAnyH_take (i := 8) (oi := ⟨some 29, .fieldAddr 40 (.tmp 2) 1, 0, "law.go:27", #[⟨0, .phase⟩, ⟨1, .phase⟩, ⟨2, .phase⟩, ⟨3, .phase⟩, ⟨4, .phase⟩, ⟨5, .phase⟩, ⟨6, .phase⟩, ⟨7, .phase⟩], none⟩) (v := ?_) rfl (by kernel_rfl) (by kernel_rfl) (by kernel_rfl) (fun c a w h => hPan c a _ _ w h) (Or.inl ⟨by rfl, fun w' hSw => ?_⟩) hSA5 ?_; rotate_left; focus (go_simp; try with_reducible rfl))
        simp only [Act.put, List.setIfInBounds_toArray, List.set_cons_zero, List.set_cons_succ]
        refine wpAnyH_ready (rs := [9]) (by kernel_rfl) (by simp) ?_
        refine AllReadyH.cons rfl (fun K hK => ?_) AllReadyH.nil
        have c0 := (cell68 (h := plainH H) (a := .slice (some ⟨t2, 0, none⟩) 1 1) K29.out hf)
        have f0 := K29.out.frozen 68
        go_simp
        clear c0 f0
        refine hK.out _ _ (trivial) (fun hSA6 => ?_)
        clear hK K
        refine wpAnyH_done (by kernel_rfl) ?_ _
        have O10 := O9.out.trans (Only.cell1 w9 p2 68 (.slice A9 2 c9)) (fun i _ h => .inl h)
        have hk := K29.out.set_ 68 (.slice A9 2 c9)
        rw [show (plainB H l2 i2 g2 t2).cells = (plainH H).cells ++ [.slice (some ⟨t2, 0, none⟩) 1 1] from rfl, head_set hf] at hk
        have hT : PTxAt w5 l2 i2 g2 := hPT
        have hfine : (plainT l2 i2 g2).Fine (w9.setCell ⟨p2, 68, none⟩ (.slice A9 2 c9)) := PTxAt.fine ⟨O10.blk hT.l (by rintro (e | e); exact blk_ne hT.l K2.out (by decide) e; exact blk_ne hT.l T2.out (by decide) e), O10.blk hT.i (by rintro (e | e); exact blk_ne hT.i K2.out (by decide) e; exact blk_ne hT.i T2.out (by decide) e), O10.blk hT.o (by rintro (e | e); exact blk_ne hT.o K2.out (by decide) e; exact blk_ne hT.o T2.out (by decide) e)⟩
        have hown := (Only.cell1 w9 p2 68 (.slice A9 2 c9)).own Q1.out (fun g hg e => by have h9 : g = p2 := e; subst h9; exact own_ne Q1.out hg K29.out (by decide))
        refine hQ _ _ _ _ _ _ _ _ _ _ A9 c9 O10 hk ⟨hf, rows_of (xs := [plainT l2 i2 g2, plainT l2 i2 g2]) rfl (fun a ha => by have h9 : a = plainT l2 i2 g2 := (by simpa using ha); rw [h9]; rfl) (by simpa using hown) (fun a ha => by have h9 : a = plainT l2 i2 g2 := (by simpa using ha); rw [h9]; exact hfine), Q2.out⟩
set_option maxHeartbeats 4000000 in
set_option maxRecDepth 100000 in
theorem blocknames_any (w : World) : Calls Try.prog 11 #[] w fun e w' => e = .returned (.bool true) ∧ Below w.heap.size w w' := by
  obtain ⟨H, X, hP, hfirst, hset, hXf, hc1, hc2⟩ := names_facts
  have HF1 := hide hfirst
  have HSE := hide hset
  have HXF := hide hXf
  have HC1 := hide hc1
  have HC2 := hide hc2
  clear hfirst hset hXf hc1 hc2
  go_enter Try.func11, Try.ntmps11
  go_wp2_with fail
  refine (plain_any H hP w).mono ?_
  rintro e w1 ⟨l1, i1, g1, t1, rfl, h1⟩
  go_wp2_with fail
  refine (plain_any H hP w1).mono ?_
  rintro e w2 ⟨l2, i2, g2, t2, rfl, h2⟩
  have N1 := hide ((Blk.new w2 40 zeroB.cells).alloc (.cells zeroB.cells.toArray 40))
  have N2 := hide (Blk.new1 w2 (.cells zeroB.cells.toArray 40) 40 zeroB.cells)
  have bb := hide (below_alloc (below_alloc (Below.refl _ w2) (.cells zeroB.cells.toArray 40)) (.cells zeroB.cells.toArray 40))
  have H1 := hide (h1.under h2.below)
  have H2 := hide h2
  have HB2 := hide (Below.then_ h1.below h2.below)
  have L1 := hide (show l1 < w1.heap.size ∧ i1 < w1.heap.size ∧ g1 < w1.heap.size ∧ t1 < w1.heap.size ∧ w1.heap.size ≤ w2.heap.size ∧ w.heap.size ≤ w1.heap.size from ⟨h1.tx.l.lt, h1.tx.i.lt, h1.tx.o.lt, h1.t.lt, h2.below.size, h1.below.size⟩)
  have L2 := hide (show t2 < w2.heap.size ∧ w1.heap.size < t2 from ⟨h2.t.lt, h2.s4⟩)
  clear h1 h2
  go_wp2_with (first
    | (refine wpList_alloc_agg rfl 40 rfl zeroB.cells zeroBlk_info ?_; simp only [Act.put, List.setIfInBounds_toArray, List.set_cons_zero, List.set_cons_succ, World.size_alloc])
    | (refine blk_store rfl _ _ rfl w2.heap.size zeroB (plainB H l1 i1 g1 t1) zeroH_fine (plainH_fine H hP.out.len) (by rfl) (by rfl) N1.out ?_; intro w3 o3 k3; have K13 := hide k3; have N23 := hide (o3.blk N2.out (by show ¬ w2.heap.size + 1 = w2.heap.size; omega)); have B3 := hide (o3.under bb.out (fun i hi => by have h9 : i = w2.heap.size := hi; omega)); clear o3 k3; simp only [Act.put])
    | (refine blk_store rfl _ _ rfl (w2.heap.size + 1) zeroB (plainB H l2 i2 g2 t2) zeroH_fine (plainH_fine H hP.out.len) (by rfl) (by rfl) N23.out ?_; intro w4 o4 k4; have K24 := hide k4; have K14 := hide (o4.blk K13.out (by show ¬ w2.heap.size = w2.heap.size + 1; omega)); have B4 := hide (o4.under B3.out (fun i hi => by have h9 : i = w2.heap.size + 1 := hi; omega)); clear o4 k4; have c33 := HF1.out w4 w2.heap.size l1 i1 g1 t1 K14.out; have f33 := K14.out.frozen 33; simp only [Act.put]))
  obtain ⟨p1, hp1⟩ : ∃ x, x = w2.heap.size := ⟨_, rfl⟩
  obtain ⟨p2, hp2⟩ : ∃ x, x = w2.heap.size + 1 := ⟨_, rfl⟩
  rw [← hp2, ← hp1]
  have h12 : ¬ p2 = p1 := by omega
  have K15 := hide (show Blk (w4.setCell ⟨p1, 33, none⟩ (.int .u8 200)) p1 40 (plainB X l1 i1 g1 t1).cells by rw [← HSE.out l1 i1 g1 t1, hp1]; exact K14.out.set_ 33 _)
  have K25 := hide (show Blk (w4.setCell ⟨p1, 33, none⟩ (.int .u8 200)) p2 40 (plainB H l2 i2 g2 t2).cells by rw [hp1, hp2]; exact K24.out.far (p := ⟨w2.heap.size, 33, none⟩) (by show w2.heap.size + 1 ≠ w2.heap.size; omega) _)
  have B5 := hide (show Below w2.heap.size w2 (w4.setCell ⟨p1, 33, none⟩ (.int .u8 200)) from (Only.cell1 w4 p1 33 _).under B4.out (fun i hi => by have h9 : i = p1 := hi; omega))
  obtain ⟨w5, hw5⟩ : ∃ x, x = w4.setCell ⟨p1, 33, none⟩ (.int .u8 200) := ⟨_, rfl⟩
  rw [← hw5] at K15 K25 B5 ⊢
  have PP := hide (show p1 = w2.heap.size ∧ p2 = w2.heap.size + 1 from ⟨hp1, hp2⟩)
  have H15 := hide (H1.out.under B5.out)
  have H25 := hide (H2.out.under B5.out)
  have HB5 := hide (Below.then_ HB2.out B5.out)
  clear hw5 hp1 hp2 h12 c33 f33 B4 K14 K24 N1 N2 bb H1 H2 N23 K13 B3
  refine names_r3 (fun _ _ _ _ _ h => h) _ _ _ _ _ _ _ _ _ _ _ _ _ _ _ _ _ _ _ _ _ _ _ _ _ _ _ _ _ _ _ _ _ _ _ _ _ _ _ _ _ _ _ _ _ _ _ _ _ _ _ _ _ _ _ _ _ _ _ _ _ _ _ _ _ _ _ _ _ _ _ _ _ _ _ _ _ _ _ _ _ _ _ _ _ _ _ _ _ _ _ _ _ _ H (plainH_fine H hP.out.len) w5 p2 l2 i2 g2 t2 (by have := PP.out; have := L2.out; omega) K25 (hide H25.out.t) H25.out.tx ?_
  intro v21 v22 v23 v24 v25 v26 v27 v28 v29 w10 A9 c9 O10 K210 F210
  have hne : ∀ g, g < w1.heap.size → ¬ (g = p2 ∨ g = t2) := fun g hg => by have := PP.out; have := L1.out; have := L2.out; omega
  have F110 := hide (plainB_fine (H := X) ⟨O10.blk H15.out.tx.l (hne _ L1.out.1), O10.blk H15.out.tx.i (hne _ L1.out.2.1), O10.blk H15.out.tx.o (hne _ L1.out.2.2.1)⟩ (O10.blk H15.out.t (hne _ L1.out.2.2.2.1)) HXF.out)
  have K110 := hide (O10.blk K15.out (by have := PP.out; have := L1.out; have := L2.out; omega))
  have HB10 := hide (O10.under HB5.out (fun i hi => by have := PP.out; have := L1.out; have := L2.out; omega))
  have K2a := hide K210
  have F2a := hide F210
  clear hne O10 K210 F210 H15 H25 K15 K25 B5 HB5
  obtain ⟨z79, hz79⟩ : ∃ z, z = zeros 79 := ⟨_, rfl⟩
  obtain ⟨z81, hz81⟩ : ∃ z, z = zeros 81 := ⟨_, rfl⟩
  obtain ⟨z80, hz80⟩ : ∃ z, z = zeros 80 := ⟨_, rfl⟩
  have hm79 : ∀ w : World, (Instr.makeSlice 56 (.int .i64 79) (.int .i64 79)).run Try.prog w = .ok (.slice (some ⟨w.heap.size, 0, none⟩) 79 79) (w.alloc (.cells (bcs z79).toArray 5)) := fun w => by rw [hz79]; exact make_zeros 79 (by decide) w
  have hm81 : ∀ w : World, (Instr.makeSlice 56 (.int .i64 81) (.int .i64 81)).run Try.prog w = .ok (.slice (some ⟨w.heap.size, 0, none⟩) 81 81) (w.alloc (.cells (bcs z81).toArray 5)) := fun w => by rw [hz81]; exact make_zeros 81 (by decide) w
  have hm80 : ∀ w : World, (Instr.makeSlice 56 (.int .i64 80) (.int .i64 80)).run Try.prog w = .ok (.slice (some ⟨w.heap.size, 0, none⟩) 80 80) (w.alloc (.cells (bcs z80).toArray 5)) := fun w => by rw [hz80]; exact make_zeros 80 (by decide) w
  have Z79 := hide (show (z79.length = 79 ∧ Byt z79) ∧ parseH z79 = (zeroH, 61) by rw [hz79]; exact ⟨⟨by simp [zeros], zeros_byt _⟩, parse_z79⟩)
  have Z81 := hide (show (z81.length = 81 ∧ Byt z81) ∧ parseH z81 = (zeroH, 62) by rw [hz81]; exact ⟨⟨by simp [zeros], zeros_byt _⟩, parse_z81⟩)
  have Z80 := hide (show (z80.length = 80 ∧ Byt z80) ∧ parseH z80 = (zeroH, 0) by rw [hz80]; exact ⟨⟨by simp [zeros], zeros_byt _⟩, parse_z80⟩)
  clear hz79 hz81 hz80
  go_wp2_with fail
  refine (HeadParse_any _ _ 79 79 z79 (by have h9 := Bys.of_blk (Blk.new w10 5 (bcs z79)) Z79.out.1.2; rwa [Z79.out.1.1] at h9) (by decide)).mono ?_
  rintro e wh79 ⟨rfl, b9⟩
  rw [Z79.out.2]
  have Bh79 := hide (show Below w10.heap.size w10 wh79 from Below.then_ (below_alloc (Below.refl _ w10) (.cells (bcs z79).toArray 5)) b9)
  clear b9
  go_wp2_with (first
    | (refine wpList_alloc_agg rfl 33 rfl zeroH.cells zeroHead_info ?_; simp only [Act.put, List.setIfInBounds_toArray, List.set_cons_zero, List.set_cons_succ])
    | (refine head_storeN rfl _ _ rfl wh79 rfl (by rfl) (by rfl) ?_; intro ws79 b9 k9; have Bs79 := hide (Below.then_ Bh79.out b9); have Ks79 := hide k9; clear b9 k9; simp only [Act.put]))
  go_wp2_with fail
  refine (HeadParse_any _ _ 81 81 z81 (by have h9 := Bys.of_blk (Blk.new ws79 5 (bcs z81)) Z81.out.1.2; rwa [Z81.out.1.1] at h9) (by decide)).mono ?_
  rintro e wh81 ⟨rfl, b9⟩
  rw [Z81.out.2]
  have Bh81 := hide (show Below ws79.heap.size ws79 wh81 from Below.then_ (below_alloc (Below.refl _ ws79) (.cells (bcs z81).toArray 5)) b9)
  clear b9
  go_wp2_with (first
    | (refine wpList_alloc_agg rfl 33 rfl zeroH.cells zeroHead_info ?_; simp only [Act.put, List.setIfInBounds_toArray, List.set_cons_zero, List.set_cons_succ])
    | (refine head_storeN rfl _ _ rfl wh81 rfl (by rfl) (by rfl) ?_; intro ws81 b9 k9; have Bs81 := hide (Below.then_ Bh81.out b9); have Ks81 := hide k9; clear b9 k9; simp only [Act.put]))
  go_wp2_with fail
  refine (HeadParse_any _ _ 80 80 z80 (by have h9 := Bys.of_blk (Blk.new ws81 5 (bcs z80)) Z80.out.1.2; rwa [Z80.out.1.1] at h9) (by decide)).mono ?_
  rintro e wh80 ⟨rfl, b9⟩
  rw [Z80.out.2]
  have Bh80 := hide (show Below ws81.heap.size ws81 wh80 from Below.then_ (below_alloc (Below.refl _ ws81) (.cells (bcs z80).toArray 5)) b9)
  clear b9
  go_wp2_with (first
    | (refine wpList_alloc_agg rfl 33 rfl zeroH.cells zeroHead_info ?_; simp only [Act.put, List.setIfInBounds_toArray, List.set_cons_zero, List.set_cons_succ])
    | (refine head_storeN rfl _ _ rfl wh80 rfl (by rfl) (by rfl) ?_; intro ws80 b9 k9; have Bs80 := hide (Below.then_ Bh80.out b9); have Ks80 := hide k9; clear b9 k9; simp only [Act.put]))
  go_wp2_with fail
  refine (Root_any ws80 none 0 0 [] (RowsIn.nil _ _ _ _ _) (by decide) (Nat.le_refl _)).mono ?_
  rintro e wr ⟨rfl, b9⟩
  rw [show rootL [] = (zero32, false) from rfl]
  have HBr := hide (Below.then_ (Below.then_ (Below.then_ (Below.then_ (Below.refl _ w10) Bs79.out) Bs81.out) Bs80.out) b9)
  have K8r := hide (Ks80.out.under b9)
  have KZ := hide (Blk.new wr 31 (bcs zero32))
  clear b9 Bs79 Bs81 Bs80 Bh79 Bh81 Bh80 Ks79 Ks81 Ks80 hm79 hm81 hm80 Z79 Z81 Z80
  go_wp2_with (first
    | (refine wpList_alloc_agg rfl 31 rfl (bcs zero32) zeroHash_info ?_; simp only [Act.put, List.setIfInBounds_toArray, List.set_cons_zero, List.set_cons_succ])
    | (refine wpList_store_blk rfl 31 _ _ rfl wr.heap.size 0 31 (bcs zero32) (bcs zero32) (by rfl) (by rfl) KZ.out (Nat.le_refl _) (by exact isHash32) (bcs_one _) ?_; intro wq o9 z9 b9; rw [lay_all (bcs zero32) (bcs zero32) rfl] at b9; have BQ := hide (show Below wr.heap.size wr wq from Below.trans ((Below.refl _ wr).alloc (Nat.le_refl _) _) (o9.below (by simp) (fun i hi e => by have h9 : i = wr.heap.size := e; omega))); have KQ := hide b9; clear o9 z9 b9; simp only [Act.put]))
  have HBq := hide (Below.then_ HBr.out BQ.out)
  have K8q := hide (K8r.out.under BQ.out)
  refine (blockAlive_any wq).mono ?_
  rintro e x1 ⟨rfl, b1⟩
  have X1 := hide (Below.then_ HBq.out b1)
  have K8a := hide (K8q.out.under b1)
  have KQa := hide (KQ.out.under b1)
  have la := loadBlk_run x1 p1 0 (plainB X l1 i1 g1 t1) (K110.out.under X1.out).whole (plainH_fine X HXF.out)
  clear b1
  go_wp2_with fail
  refine (BCheck_any x1 (plainB X l1 i1 g1 t1) (F110.out.below X1.out) (plainB_small _ _ _ _ _)).mono ?_
  rintro e x2 ⟨rfl, b2⟩
  rw [HC1.out]
  have X2 := hide (Below.then_ X1.out b2)
  have K8b := hide (K8a.out.under b2)
  have KQb := hide (KQa.out.under b2)
  obtain ⟨V2, hV2⟩ : ∃ V, V = (⟨plainH H, A9, 2, c9, [plainT l2 i2 g2, plainT l2 i2 g2]⟩ : BlkV) := ⟨_, rfl⟩
  have K2v := hide (show Blk w10 p2 40 V2.cells by rw [hV2]; exact K2a.out)
  have F2v := hide (show V2.Fine w10 by rw [hV2]; exact F2a.out)
  have S2v := hide (show V2.Small by rw [hV2]; exact ⟨by simp, fun t ht => by have h9 : t = plainT l2 i2 g2 := (by simpa using ht); rw [h9]; exact plainT_small _ _ _⟩)
  have D2v := hide (show checkB V2.d = 111 by rw [hV2]; exact HC2.out)
  have lb := loadBlk_run x2 p2 0 V2 (K2v.out.under X2.out).whole F2v.out.head
  clear b2 la hV2
  go_wp2_with fail
  refine (BCheck_any x2 V2 (F2v.out.below X2.out) S2v.out).mono ?_
  rintro e x3 ⟨rfl, b3⟩
  rw [D2v.out]
  have X3 := hide (Below.then_ X2.out b3)
  have K8c := hide (K8b.out.under b3)
  have KQc := hide (KQb.out.under b3)
  clear b3 lb
  go_wp2_with fail
  refine (BCheck_any x3 zeroB ⟨zeroH_fine, RowsIn.nil _ _ _ _ _, Nat.le_refl _⟩ ⟨by decide, fun t ht => by cases ht⟩).mono ?_
  rintro e x4 ⟨rfl, b4⟩
  rw [zeroB_check]
  have X4 := hide (Below.then_ X3.out b4)
  have lh := loadHead_run x4 wh80.heap.size 0 zeroH (K8c.out.under b4).whole zeroH_fine
  have lq := loadHashB_run x4 wr.heap.size 0 zero32 (KQc.out.under b4).whole rfl
  have eh := fun w => eqlHead_run zeroH zeroH zeroH_fine zeroH_fine w
  have eq := fun w => eqlHash_self zero32 rfl w
  clear b4
  go_wp2_with fail
  go_ret
  exact ⟨rfl, Below.then_ HB10.out X4.out⟩
end Go.Proofs.Ytbpmcnfmgaolnaa
