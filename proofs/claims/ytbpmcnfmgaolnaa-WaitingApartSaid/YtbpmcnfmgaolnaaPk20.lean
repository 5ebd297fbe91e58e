import Derived.Test.YtbpmcnfmgaolnaaPk19
import Derived.Test.YtbpmcnfmgaolnaaPk9
import Derived.Test.YtbpmcnfmgaolnaaPk10
import Derived.Test.YtbpmcnfmgaolnaaPk11
/-
  block.Same, both.
-/
namespace Go.Proofs.Ytbpmcnfmgaolnaa
open Go.RowKit

attribute [local go_sem ↓] loadTx_fold loadHead_fold loadBlk_fold
set_option maxHeartbeats 4000000 in
set_option maxRecDepth 100000 in
theorem EqTx_any (w : World) (A B : Option Addr) (n c m d : Nat) (xs ys : List TxV) (hX : TxsIn w A n xs) (hY : TxsIn w B m ys) (sX : ∀ a ∈ xs, a.Small) (sY : ∀ b ∈ ys, b.Small) (hn : n ≤ 1000) (_hm : m ≤ 1000) :
    Calls Try.prog 81 #[.slice A n c, .slice B m d, .func (.func 57) #[] #[]] w fun e w' => e = .returned (.bool (sameL TxD.same (xs.map TxV.d) (ys.map TxV.d))) ∧ Below w.heap.size w w' := by
  have HX := hide hX
  have HY := hide hY
  have HN := hide hn
  have hI := isTx
  have lz : zeroV.cells.length = 4 := rfl
  by_cases hnm : n = m
  · subst hnm
    have heq : ((n : Int) == (n : Int)) = true := by simp
    clear hX hY hn
    go_enter Try.func81, Try.ntmps81
    go_wp2_with fail
    go_loopw [17] (fun i wr => ∃ j : Nat, j ≤ n ∧ i = .int .i64 j ∧ Below w.heap.size w wr ∧ sameL TxD.same (xs.map TxV.d) (ys.map TxV.d) = sameL TxD.same ((xs.map TxV.d).drop j) ((ys.map TxV.d).drop j)) (fun i _ => n - (intOf i).toNat)
    case atStart => exact ⟨0, by omega, rfl, Below.refl _ _, rfl⟩
    case round =>
      obtain ⟨j, hj, rfl, hb, hs⟩ := hrel
      have HS := hide hs
      have HB := hide hb
      by_cases hlt : j < n
      · obtain ⟨a, ha⟩ : ∃ a, xs[j]? = some a := ⟨_, List.getElem?_eq_getElem (by have := HX.out.1; omega)⟩
        obtain ⟨b, hbb⟩ : ∃ b, ys[j]? = some b := ⟨_, List.getElem?_eq_getElem (by have := HY.out.1; omega)⟩
        have SA := hide (sX a (List.mem_of_getElem? ha))
        have SB := hide (sY b (List.mem_of_getElem? hbb))
        have haf := HX.out.2.1 a (List.mem_of_getElem? ha)
        have hbf := HY.out.2.1 b (List.mem_of_getElem? hbb)
        obtain ⟨pa, oa, rfl, hra⟩ := HX.out.2.2 (by omega)
        obtain ⟨pb, ob, rfl, hrb⟩ := HY.out.2.2 (by omega)
        have hld := loadTx_run wr pa (oa + j * 4) a (range_under (hra j a ha) hb)
        have hrb2 := hide (range_under (hrb j b hbb) hb)
        have hdr := hide (sameL_drop TxD.same (xs.map TxV.d) (ys.map TxV.d) j a.d b.d (by simp [ha]) (by simp [hbb]))
        have la : a.cells.length = 4 := rfl
        have lb : b.cells.length = 4 := rfl
        have HAF := hide (haf.below hb)
        have HBF := hide (hbf.below hb)
        have KZ := hide (Blk.new wr 37 zeroV.cells)
        have i0 : (0 : Int) ≤ (j : Int) := by omega
        have i1 : (j : Int) < (n : Int) := by omega
        have hj9 : (j : Int) ≤ 1000 := by have := HN.out; omega
        clear ha hbb haf hbf hra hrb hs hb
        go_wp2_with (first
          | (refine wpList_alloc_agg rfl 37 rfl zeroV.cells zeroTx_info ?_; simp only [Act.put, List.setIfInBounds_toArray, List.set_cons_zero, List.set_cons_succ])
          | (refine wpList_store_blk rfl 37 _ _ rfl wr.heap.size 0 37 zeroV.cells a.cells (by rfl) (by rfl) KZ.out (by rw [lz, la]; decide) (by rw [hI, la]) (TxV.one a) ?_; intro w5 o5 z5 b5; rw [lay_all zeroV.cells _ (by rw [lz, la])] at b5; have hb5 : Below wr.heap.size wr w5 := Below.trans ((Below.refl _ wr).alloc (Nat.le_refl _) _) (o5.below (by simp) (fun i hi e => by have h9 : i = wr.heap.size := e; omega)); have hld2 := loadTx_run w5 pb (ob + j * 4) b (range_under hrb2.out hb5); have KZ2 := hide (Blk.new w5 37 zeroV.cells); have B5 := hide b5; have HB5 := hide hb5; clear o5 z5 b5 hb5; simp only [Act.put])
          | (refine wpList_store_blk rfl 37 _ _ rfl w5.heap.size 0 37 zeroV.cells b.cells (by rfl) (by rfl) KZ2.out (by rw [lz, lb]; decide) (by rw [hI, lb]) (TxV.one b) ?_; intro w6 o6 z6 b6; rw [lay_all zeroV.cells _ (by rw [lz, lb])] at b6; have hb6 : Below w5.heap.size w5 w6 := Below.trans ((Below.refl _ w5).alloc (Nat.le_refl _) _) (o6.below (by simp) (fun i hi e => by have h9 : i = w5.heap.size := e; omega)); have l1 := loadTx_run w6 wr.heap.size 0 a (B5.out.under hb6).whole; have l2 := loadTx_run w6 w5.heap.size 0 b b6.whole; have HB6 := hide (Below.then_ HB5.out hb6); clear o6 z6 b6 hb6; simp only [Act.put]))
        refine (TSame_any w6 a b (HAF.out.below HB6.out) (HBF.out.below HB6.out) SA.out SB.out).mono ?_
        rintro e w7 ⟨rfl, hb7⟩
        have HB7 := hide (Below.then_ HB.out (Below.then_ HB6.out hb7))
        clear l1 l2 hb7
        by_cases hab : a.d.same b.d = true
        · rw [hab] at hdr ⊢
          go_wp2_with fail
          exact ⟨⟨j + 1, by omega, by simp, HB7.out, by rw [HS.out, hdr.out]; rfl⟩, by simp [intOf]; omega⟩
        · have hab' : a.d.same b.d = false := by simpa using hab
          rw [hab'] at hdr ⊢
          go_wp2_with fail
          go_ret
          exact ⟨by rw [HS.out, hdr.out]; rfl, HB7.out⟩
      · obtain rfl : n = j := by omega
        have hjn : ¬ (n : Int) < (n : Int) := by omega
        have hx : (xs.map TxV.d).drop n = [] := List.drop_of_length_le (by rw [List.length_map, HX.out.1]; exact Nat.le_refl _)
        have hy : (ys.map TxV.d).drop n = [] := List.drop_of_length_le (by rw [List.length_map, HY.out.1]; exact Nat.le_refl _)
        clear hs hb
        go_wp2_with fail
        go_ret
        exact ⟨by rw [HS.out, hx, hy]; rfl, HB.out⟩
  · have heq : ((n : Int) == (m : Int)) = false := by simp; omega
    have hne : sameL TxD.same (xs.map TxV.d) (ys.map TxV.d) = false := sameL_len _ _ _ (by rw [List.length_map, List.length_map, hX.1, hY.1]; exact hnm)
    have HNE := hide hne
    clear hX hY hn hne
    go_enter Try.func81, Try.ntmps81
    go_wp2_with fail
    go_ret
    exact ⟨by rw [HNE.out]; rfl, Below.refl _ _⟩
theorem part_row_at {P : Program} {ty e : TypeId} {n : Nat} (ht : P.underlying ty = some (.array n e)) (hs : (P.info? ty).map (·.size) = some n) (w : World) (pre xs ys : List Value) (o : Nat) (ho : pre.length = o) (hl : xs.length = n) : (part ty (pre ++ (xs ++ ys)).toArray o).run P w = .ok (.agg xs.toArray) w := by
  have h1 : (isAgg ty).run P w = .ok true w := by simp [isAgg, run_underlying ht]
  unfold part
  simp only [Sem.run_bind, h1, Result.andThen_ok, if_true, run_size hs, Sem.run_pure]
  congr 2
  apply Array.ext'
  rw [Array.toList_extract]
  simp only [List.extract_eq_take_drop]
  rw [show o + n - o = n by omega, ← ho, List.drop_left, List.take_append_of_le_length (by omega), List.take_of_length_le (by omega)]
theorem part_one_at {P : Program} {ty : TypeId} {k : IntKind} (ht : P.underlying ty = some (.int k)) (w : World) (xs ys : List Value) (n : Nat) (v : Value) (hl : xs.length = n) : (part ty (xs ++ (v :: ys)).toArray n).run P w = .ok v w := by
  have h1 : (isAgg ty).run P w = .ok false w := by simp [isAgg, run_underlying ht]
  have h2 : (xs ++ (v :: ys)).toArray[n]? = some v := by subst hl; simp
  unfold part
  simp only [Sem.run_bind, h1, Result.andThen_ok, Bool.false_eq_true, if_false, h2, Sem.run_pure]
theorem isHash32 : (Try.prog.info? 31).map (·.size) = some 32 := by kernel_rfl
theorem head_parts (h : HeadD) (hf : h.Fine) (w : World) : (part 27 h.cells.toArray 0).run Try.prog w = .ok (.int .u32 h.version) w ∧ (part 31 h.cells.toArray 1).run Try.prog w = .ok (.agg (bcs h.prev).toArray) w ∧ (part 31 h.cells.toArray 33).run Try.prog w = .ok (.agg (bcs h.root).toArray) w ∧
    (part 27 h.cells.toArray 65).run Try.prog w = .ok (.int .u32 h.time) w ∧ (part 27 h.cells.toArray 66).run Try.prog w = .ok (.int .u32 h.bits) w ∧ (part 27 h.cells.toArray 67).run Try.prog w = .ok (.int .u32 h.nonce) w := by
  have hp : (bcs h.prev).length = 32 := by rw [bcs_length, hf.plen]
  have hr : (bcs h.root).length = 32 := by rw [bcs_length, hf.rlen]
  refine ⟨?_, ?_, ?_, ?_, ?_, ?_⟩
  · exact part_one_at Try.underlying27 w [] _ 0 (.int .u32 h.version) rfl
  · exact part_row_at Try.underlying31 isHash32 w [.int .u32 h.version] (bcs h.prev) _ 1 rfl hp
  · have e : h.cells = (.int .u32 h.version :: bcs h.prev) ++ (bcs h.root ++ [.int .u32 h.time, .int .u32 h.bits, .int .u32 h.nonce]) := by simp [HeadD.cells]
    rw [e]
    exact part_row_at Try.underlying31 isHash32 w _ (bcs h.root) _ 33 (by simp [hp]) hr
  · have e : h.cells = (.int .u32 h.version :: (bcs h.prev ++ bcs h.root)) ++ (.int .u32 h.time :: [.int .u32 h.bits, .int .u32 h.nonce]) := by simp [HeadD.cells]
    rw [e]
    exact part_one_at Try.underlying27 w _ _ 65 _ (by simp [hp, hr])
  · have e : h.cells = (.int .u32 h.version :: (bcs h.prev ++ (bcs h.root ++ [.int .u32 h.time]))) ++ (.int .u32 h.bits :: [.int .u32 h.nonce]) := by simp [HeadD.cells]
    rw [e]
    exact part_one_at Try.underlying27 w _ _ 66 _ (by simp [hp, hr])
  · have e : h.cells = (.int .u32 h.version :: (bcs h.prev ++ (bcs h.root ++ [.int .u32 h.time, .int .u32 h.bits]))) ++ (.int .u32 h.nonce :: []) := by simp [HeadD.cells]
    rw [e]
    exact part_one_at Try.underlying27 w _ _ 67 _ (by simp [hp, hr])
def eqlHead (x y : Value) : Sem Value := binOp .eql 33 x y
theorem eqlHead_fold (x y : Value) : binOp .eql 33 x y = eqlHead x y := rfl
theorem headEq (w : World) (d : Nat) (a b : HeadD) (ha : a.Fine) (hb : b.Fine) : (Op.equalIn (d + 3) 33 (.agg a.cells.toArray) (.agg b.cells.toArray)).run Try.prog w = .ok (decide (a = b)) w := by
  have hp : Try.prog.stoodInHeld 33 = false := by kernel_rfl
  have eh := fun (x y : List Int) (hx : x.length = 32) (hy : y.length = 32) => run_equalIn_row (P := Try.prog) w d 31 5 32 .u8 Try.underlying31 Try.underlying5 (fun w => run_size isU8 w) x y hx hy
  have e1 : (Op.equalIn (d + 2) 31 (.agg (bcs a.prev).toArray) (.agg (bcs b.prev).toArray)).run Try.prog w = .ok (a.prev == b.prev) w := eh a.prev b.prev ha.plen hb.plen
  have e2 : (Op.equalIn (d + 2) 31 (.agg (bcs a.root).toArray) (.agg (bcs b.root).toArray)).run Try.prog w = .ok (a.root == b.root) w := eh a.root b.root ha.rlen hb.rlen
  have eu : ∀ x y : Int, (Op.equalIn (d + 2) 27 (.int .u32 x) (.int .u32 y)).run Try.prog w = .ok (x == y) w := fun x y => run_equalIn_int (P := Try.prog) w (d + 1) 27 .u32 .u32 x y Try.underlying27
  obtain ⟨a0, a1, a2, a3, a4, a5⟩ := head_parts a ha w
  obtain ⟨b0, b1, b2, b3, b4, b5⟩ := head_parts b hb w
  have hab : (a = b) ↔ a.version = b.version ∧ a.prev = b.prev ∧ a.root = b.root ∧ a.time = b.time ∧ a.bits = b.bits ∧ a.nonce = b.nonce := by
    cases a; cases b; simp
  rw [run_equalIn_agg w (d + 2) 33 _ _ (by simp only [Program.fieldsOf, Try.underlying33]) hp]
  simp only [Program.fieldsOf, Try.underlying33, Op.eqFields]
  rw [if_pos (by decide), if_pos (by decide), if_pos (by decide), if_pos (by decide), if_pos (by decide), if_pos (by decide)]
  simp only [Sem.run_bind]
  rw [a0, Result.andThen_ok, b0, Result.andThen_ok, eu, Result.andThen_ok]
  by_cases h1 : a.version = b.version
  · rw [if_neg (by simp [h1])]
    simp only [Sem.run_bind]
    rw [a1, Result.andThen_ok, b1, Result.andThen_ok, e1, Result.andThen_ok]
    by_cases h2 : a.prev = b.prev
    · rw [if_neg (by simp [h2])]
      simp only [Sem.run_bind]
      rw [a2, Result.andThen_ok, b2, Result.andThen_ok, e2, Result.andThen_ok]
      by_cases h3 : a.root = b.root
      · rw [if_neg (by simp [h3])]
        simp only [Sem.run_bind]
        rw [a3, Result.andThen_ok, b3, Result.andThen_ok, eu, Result.andThen_ok]
        by_cases h4 : a.time = b.time
        · rw [if_neg (by simp [h4])]
          simp only [Sem.run_bind]
          rw [a4, Result.andThen_ok, b4, Result.andThen_ok, eu, Result.andThen_ok]
          by_cases h5 : a.bits = b.bits
          · rw [if_neg (by simp [h5])]
            simp only [Sem.run_bind]
            rw [a5, Result.andThen_ok, b5, Result.andThen_ok, eu, Result.andThen_ok]
            by_cases h6 : a.nonce = b.nonce
            · rw [if_neg (by simp [h6]), Sem.run_pure, decide_eq_true (hab.2 ⟨h1, h2, h3, h4, h5, h6⟩)]
            · rw [if_pos (by simp [h6]), Sem.run_pure, decide_eq_false (fun h => h6 (hab.1 h).2.2.2.2.2)]
          · rw [if_pos (by simp [h5]), Sem.run_pure, decide_eq_false (fun h => h5 (hab.1 h).2.2.2.2.1)]
        · rw [if_pos (by simp [h4]), Sem.run_pure, decide_eq_false (fun h => h4 (hab.1 h).2.2.2.1)]
      · rw [if_pos (by simp [h3]), Sem.run_pure, decide_eq_false (fun h => h3 (hab.1 h).2.2.1)]
    · rw [if_pos (by simp [h2]), Sem.run_pure, decide_eq_false (fun h => h2 (hab.1 h).2.1)]
  · rw [if_pos (by simp [h1]), Sem.run_pure, decide_eq_false (fun h => h1 (hab.1 h).1)]
theorem eqlHead_run (a b : HeadD) (ha : a.Fine) (hb : b.Fine) (w : World) : (eqlHead (.agg a.cells.toArray) (.agg b.cells.toArray)).run Try.prog w = .ok (.bool (decide (a = b))) w := by
  unfold eqlHead
  rw [run_eql_struct, headEq w 9997 a b ha hb]
  rfl
set_option maxRecDepth 100000 in
theorem guardHead : Try.prog.eqGuardType Try.prog.depth 33 = false := by kernel_rfl
def BlkD.same (a b : BlkD) : Bool := decide (a.head = b.head) && sameL TxD.same a.txs b.txs
attribute [local go_sem ↓] eqlHead_fold
attribute [local go_sem] guardHead
set_option maxHeartbeats 4000000 in
set_option maxRecDepth 100000 in
theorem BSame_any (w : World) (a b : BlkV) (ha : a.Fine w) (hb : b.Fine w) (sa : a.Small) (sb : b.Small) :
    Calls Try.prog 34 #[.agg a.cells.toArray, .agg b.cells.toArray] w fun e w' => e = .returned (.bool (a.d.same b.d)) ∧ Below w.heap.size w w' := by
  have A0 := (Blk.new w 40 a.cells).alloc (.cells b.cells.toArray 40)
  have B0 := Blk.new1 w (.cells a.cells.toArray 40) 40 b.cells
  have hw : Below w.heap.size w ((w.alloc (.cells a.cells.toArray 40)).alloc (.cells b.cells.toArray 40)) := below_alloc (below_alloc (Below.refl _ _) _) _
  have HA := hide (ha.below hw)
  have HB := hide (hb.below hw)
  have HW := hide hw
  have l1 := loadHead_run _ _ 0 a.head (head_range A0) ha.head
  have l2 := loadHead_run _ _ 0 b.head (head_range B0) hb.head
  have c1 := cell68 A0 ha.head
  have c2 := cell68 B0 hb.head
  have SA := hide sa
  have SB := hide sb
  have hE := fun w => eqlHead_run a.head b.head ha.head hb.head w
  have HS : Hid (a.d.same b.d = (decide (a.head = b.head) && sameL TxD.same (a.txs.map TxV.d) (b.txs.map TxV.d))) := hide rfl
  clear A0 B0 hw ha hb sa sb
  by_cases h1 : a.head = b.head
  · rw [decide_eq_true h1] at hE HS
    clear h1
    go_enter Try.func34, Try.ntmps34
    go_wp2_with fail
    refine (EqTx_any _ a.A b.A a.n a.c b.n b.c a.txs b.txs HA.out.txs HB.out.txs SA.out.txs SB.out.txs SA.out.n SB.out.n).mono ?_
    rintro e w2 ⟨rfl, hb2⟩
    obtain ⟨x, hx⟩ : ∃ x, x = sameL TxD.same (a.txs.map TxV.d) (b.txs.map TxV.d) := ⟨_, rfl⟩
    rw [← hx] at HS ⊢
    clear hx
    go_wp2_with fail
    go_ret
    exact ⟨by rw [HS.out]; rfl, Below.then_ HW.out hb2⟩
  · rw [decide_eq_false h1] at hE HS
    clear h1
    go_enter Try.func34, Try.ntmps34
    go_wp2_with fail
    go_ret
    exact ⟨by rw [HS.out]; rfl, HW.out⟩
end Go.Proofs.Ytbpmcnfmgaolnaa
/-
  The document: the same block?
-/
namespace Go.Proofs.Ytbpmcnfmgaolnaa
open Go.RowKit

theorem BlkV.byt {w : World} {b : BlkV} (hf : b.Fine w) : Byt b.d.bytes := by
  rw [BlkD.bytes_eq]
  refine byt_app (byt_app (HeadD.byt hf.head) (cnt_byt _)) ?_
  intro x hx
  obtain ⟨t, ht, hx⟩ := List.mem_flatMap.1 hx
  exact TxV.byt (hf.txs.2.1 t ht) x hx
attribute [local go_sem ↓] loadBlk_fold
set_option maxHeartbeats 4000000 in
set_option maxRecDepth 100000 in
theorem refBSame_any (w : World) (a b : BlkV) (ha : a.Fine w) (hb : b.Fine w) (sa : a.Small) (sb : b.Small) :
    Calls Try.prog 35 #[.agg a.cells.toArray, .agg b.cells.toArray] w fun e w' => e = .returned (.bool (decide (a.d.bytes = b.d.bytes))) ∧ Below w.heap.size w w' := by
  obtain ⟨wv, hwv⟩ : ∃ x, x = (w.alloc (.cells a.cells.toArray 40)).alloc (.cells b.cells.toArray 40) := ⟨_, rfl⟩
  have HB0 := hide (show Below w.heap.size w wv by rw [hwv]; exact below_alloc (below_alloc (Below.refl _ _) _) _)
  have TA := hide (show Blk wv w.heap.size 40 a.cells by rw [hwv]; exact (Blk.new w 40 a.cells).alloc _)
  have TB := hide (show Blk wv (w.heap.size + 1) 40 b.cells by rw [hwv]; exact Blk.new1 w _ 40 b.cells)
  have HA := hide (ha.below HB0.out)
  have HB := hide (hb.below HB0.out)
  have E := hide (ba_beq a.d.bytes b.d.bytes (BlkV.byt ha) (BlkV.byt hb))
  obtain ⟨S, hS, hsa⟩ := hstr_of a.d.bytes
  obtain ⟨T, hT, hsb⟩ := hstr_of b.d.bytes
  rw [← hS, ← hT] at E
  have HAF := hide ha.head
  have HBF := hide hb.head
  clear hS hT ha hb
  go_enter Try.func35, Try.ntmps35
  go_wp2_with fail
  rw [← hwv]
  clear hwv
  refine wp_region_held_drew (S := fun w' => Below wv.heap.size wv w') (by kernel_rfl) (by exact (Below.refl _ _).drew) (fun hSA0 => ?_)
  obtain ⟨wvd, hwA⟩ : ∃ x, x = wv.drew := ⟨_, rfl⟩
  rw [← hwA] at hSA0 ⊢
  clear hwA
  (refine wpAnyH_take (i := 0) (oi := ⟨some 5, .load 40 (.tmp 2), 40, "ref.go:127", #[], none⟩) (v := ?_) rfl (by kernel_rfl) (by kernel_rfl) (by kernel_rfl) (fun _ _ _ h => h) (Or.inl ⟨by rfl, fun w' hSw => ?_⟩) hSA0 ?_; rotate_left; focus (have hl := loadBlk_run w' w.heap.size 0 a (range_under TA.out.whole hSw) HAF.out; go_simp; try with_reducible rfl))
  simp only [Act.put, List.setIfInBounds_toArray, List.set_cons_zero, List.set_cons_succ]
  (refine wpAnyH_take (i := 3) (oi := ⟨some 8, .load 40 (.tmp 3), 40, "ref.go:127", #[], none⟩) (v := ?_) rfl (by kernel_rfl) (by kernel_rfl) (by kernel_rfl) (fun _ _ _ h => h) (Or.inl ⟨by rfl, fun w' hSw => ?_⟩) hSA0 ?_; rotate_left; focus (have hl := loadBlk_run w' (w.heap.size + 1) 0 b (range_under TB.out.whole hSw) HBF.out; go_simp; try with_reducible rfl))
  simp only [Act.put, List.setIfInBounds_toArray, List.set_cons_zero, List.set_cons_succ]
  refine wpAnyH_ready (rs := [1]) (by kernel_rfl) (by simp) ?_
  refine AllReadyH.cons rfl (fun K hK => ?_) AllReadyH.nil
  go_simp
  refine (refBBytes_any _ a (HA.out.below hSA0) sa).mono ?_
  rintro e wvda ⟨Aa, na, ca, rfl, ta, fa⟩
  go_simp
  have HSwvda := hide (Below.then_ hSA0 ta.below)
  have Ya := hide ta.bys
  clear ta fa
  refine hK.out _ _ (HSwvda.out) (fun hSA1 => ?_)
  clear hK K
  refine wpAnyH_ready (rs := [2, 4]) (by kernel_rfl) (by simp) ?_
  refine AllReadyH.cons rfl (fun K hK => ?_) (AllReadyH.cons rfl (fun K hK => ?_) AllReadyH.nil)
  · have sa := hsa.out wvda Aa na ca _ Ya.out rfl
    go_simp
    refine hK.out _ _ (hSA1) (fun hSA2 => ?_)
    clear hK K
    refine wpAnyH_ready (rs := [4]) (by kernel_rfl) (by simp) ?_
    refine AllReadyH.cons rfl (fun K hK => ?_) AllReadyH.nil
    go_simp
    refine (refBBytes_any _ b (HB.out.below hSA2) sb).mono ?_
    rintro e wvdab ⟨Ab, nb, cb, rfl, tb, fb⟩
    go_simp
    have HSwvdab := hide (Below.then_ hSA2 tb.below)
    have Yb := hide tb.bys
    have Yawvdab := hide (Ya.out.below tb.below)
    clear tb fb
    refine hK.out _ _ (HSwvdab.out) (fun hSA3 => ?_)
    clear hK K
    refine wpAnyH_ready (rs := [5]) (by kernel_rfl) (by simp) ?_
    refine AllReadyH.cons rfl (fun K hK => ?_) AllReadyH.nil
    have sb := hsb.out wvdab Ab nb cb _ Yb.out rfl
    go_simp
    refine hK.out _ _ (hSA3) (fun hSA4 => ?_)
    clear hK K
    (refine wpAnyH_take (i := 6) (oi := ⟨some 11, .binOp .eql 9 (.tmp 7) (.tmp 10) 9, 4, "ref.go:127", #[⟨2, .data⟩, ⟨5, .data⟩], none⟩) (v := ?_) rfl (by kernel_rfl) (by kernel_rfl) (by kernel_rfl) (fun _ _ _ h => h) (Or.inl ⟨by rfl, fun w' hSw => ?_⟩) hSA4 ?_; rotate_left; focus (go_simp; try with_reducible rfl))
    simp only [Act.put, List.setIfInBounds_toArray, List.set_cons_zero, List.set_cons_succ]
    (refine wpAnyH_take (i := 7) (oi := ⟨some 4, .assign (.tmp 11), 4, "ref.go:127", #[⟨6, .data⟩, ⟨4, .chain⟩, ⟨0, .phase⟩, ⟨1, .phase⟩, ⟨2, .phase⟩, ⟨3, .phase⟩, ⟨4, .phase⟩, ⟨5, .phase⟩, ⟨6, .phase⟩], none⟩) (v := ?_) rfl (by kernel_rfl) (by kernel_rfl) (by kernel_rfl) (fun _ _ _ h => h) (Or.inl ⟨by rfl, fun w' hSw => ?_⟩) hSA4 ?_; rotate_left; focus (go_simp; try with_reducible rfl))
    simp only [Act.put, List.setIfInBounds_toArray, List.set_cons_zero, List.set_cons_succ]
    refine wpAnyH_done (by kernel_rfl) ?_ _
    go_wp2_with fail
    go_ret
    exact ⟨by rw [← E.out]; rfl, Below.then_ HB0.out hSA4⟩
  · go_simp
    refine (refBBytes_any _ b (HB.out.below hSA1) sb).mono ?_
    rintro e wvdab ⟨Ab, nb, cb, rfl, tb, fb⟩
    go_simp
    have HSwvdab := hide (Below.then_ hSA1 tb.below)
    have Yb := hide tb.bys
    have Yawvdab := hide (Ya.out.below tb.below)
    clear tb fb
    refine hK.out _ _ (HSwvdab.out) (fun hSA2 => ?_)
    clear hK K
    refine wpAnyH_ready (rs := [2, 5]) (by kernel_rfl) (by simp) ?_
    refine AllReadyH.cons rfl (fun K hK => ?_) (AllReadyH.cons rfl (fun K hK => ?_) AllReadyH.nil)
    · have sa := hsa.out wvdab Aa na ca _ Yawvdab.out rfl
      go_simp
      refine hK.out _ _ (hSA2) (fun hSA3 => ?_)
      clear hK K
      refine wpAnyH_ready (rs := [5]) (by kernel_rfl) (by simp) ?_
      refine AllReadyH.cons rfl (fun K hK => ?_) AllReadyH.nil
      have sb := hsb.out wvdab Ab nb cb _ Yb.out rfl
      go_simp
      refine hK.out _ _ (hSA3) (fun hSA4 => ?_)
      clear hK K
      (refine wpAnyH_take (i := 6) (oi := ⟨some 11, .binOp .eql 9 (.tmp 7) (.tmp 10) 9, 4, "ref.go:127", #[⟨2, .data⟩, ⟨5, .data⟩], none⟩) (v := ?_) rfl (by kernel_rfl) (by kernel_rfl) (by kernel_rfl) (fun _ _ _ h => h) (Or.inl ⟨by rfl, fun w' hSw => ?_⟩) hSA4 ?_; rotate_left; focus (go_simp; try with_reducible rfl))
      simp only [Act.put, List.setIfInBounds_toArray, List.set_cons_zero, List.set_cons_succ]
      (refine wpAnyH_take (i := 7) (oi := ⟨some 4, .assign (.tmp 11), 4, "ref.go:127", #[⟨6, .data⟩, ⟨4, .chain⟩, ⟨0, .phase⟩, ⟨1, .phase⟩, ⟨2, .phase⟩, ⟨3, .phase⟩, ⟨4, .phase⟩, ⟨5, .phase⟩, ⟨6, .phase⟩], none⟩) (v := ?_) rfl (by kernel_rfl) (by kernel_rfl) (by kernel_rfl) (fun _ _ _ h => h) (Or.inl ⟨by rfl, fun w' hSw => ?_⟩) hSA4 ?_; rotate_left; focus (go_simp; try with_reducible rfl))
      simp only [Act.put, List.setIfInBounds_toArray, List.set_cons_zero, List.set_cons_succ]
      refine wpAnyH_done (by kernel_rfl) ?_ _
      go_wp2_with fail
      go_ret
      exact ⟨by rw [← E.out]; rfl, Below.then_ HB0.out hSA4⟩
    · have sb := hsb.out wvdab Ab nb cb _ Yb.out rfl
      go_simp
      refine hK.out _ _ (hSA2) (fun hSA3 => ?_)
      clear hK K
      refine wpAnyH_ready (rs := [2]) (by kernel_rfl) (by simp) ?_
      refine AllReadyH.cons rfl (fun K hK => ?_) AllReadyH.nil
      have sa := hsa.out wvdab Aa na ca _ Yawvdab.out rfl
      go_simp
      refine hK.out _ _ (hSA3) (fun hSA4 => ?_)
      clear hK K
      (refine wpAnyH_take (i := 6) (oi := ⟨some 11, .binOp .eql 9 (.tmp 7) (.tmp 10) 9, 4, "ref.go:127", #[⟨2, .data⟩, ⟨5, .data⟩], none⟩) (v := ?_) rfl (by kernel_rfl) (by kernel_rfl) (by kernel_rfl) (fun _ _ _ h => h) (Or.inl ⟨by rfl, fun w' hSw => ?_⟩) hSA4 ?_; rotate_left; focus (go_simp; try with_reducible rfl))
      simp only [Act.put, List.setIfInBounds_toArray, List.set_cons_zero, List.set_cons_succ]
      (refine wpAnyH_take (i := 7) (oi := ⟨some 4, .assign (.tmp 11), 4, "ref.go:127", #[⟨6, .data⟩, ⟨4, .chain⟩, ⟨0, .phase⟩, ⟨1, .phase⟩, ⟨2, .phase⟩, ⟨3, .phase⟩, ⟨4, .phase⟩, ⟨5, .phase⟩, ⟨6, .phase⟩], none⟩) (v := ?_) rfl (by kernel_rfl) (by kernel_rfl) (by kernel_rfl) (fun _ _ _ h => h) (Or.inl ⟨by rfl, fun w' hSw => ?_⟩) hSA4 ?_; rotate_left; focus (go_simp; try with_reducible rfl))
      simp only [Act.put, List.setIfInBounds_toArray, List.set_cons_zero, List.set_cons_succ]
      refine wpAnyH_done (by kernel_rfl) ?_ _
      go_wp2_with fail
      go_ret
      exact ⟨by rw [← E.out]; rfl, Below.then_ HB0.out hSA4⟩
end Go.Proofs.Ytbpmcnfmgaolnaa
