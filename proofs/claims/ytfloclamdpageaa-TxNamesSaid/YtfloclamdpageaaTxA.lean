/-
  tx: transactions as bytes.
-/
import Derived.Test.YtfloclamdpageaaPure10
namespace Go.Proofs.Ytfloclamdpageaa
open Go.RowKit

/-- An append to bytes of one's own: what was made since the world wo, in which they stood so, is left alone too. -/
theorem wpList_app3 {w : World} {ops : Array Oper} {rest : List Oper} {o : Oper} {a : Act} {Q : Exit → Act → World → Prop} (hgd : o.guard = none) (s x : Operand)
    (ho : o.op = .call { callee := .builtin .append, args := #[s, x], argTypes := #[22, 22] })
    (w0 wo : World) (A : Option Addr) (n c : Nat) (bs : List Int) (hs : a.eval s = .slice A n c) (h : Mine 5 w0 wo A n c bs) (hbo : Below wo.heap.size wo w) (B : Option Addr) (m c' : Nat) (cs : List Int) (hx : a.eval x = .slice B m c') (hB : Bys w B m cs) (hlen : n + m ≤ 140737488355328)
    (hK : ∀ A' n' c' w', Mine 5 w0 w' A' n' c' (bs ++ cs) → Only (fun i => w0.heap.size ≤ i ∧ i < wo.heap.size) w w' → wpList Try.prog ops Q rest (a.put o.dst (.slice A' n' c')) w') : wpList Try.prog ops Q (o :: rest) a w := by
  obtain ⟨i, z, hi, hz, hs1, hby, hzs⟩ := u8_info
  obtain ⟨h0, rfl, G, h1, h2⟩ := h
  have hlt := h1.lt
  refine wpList_append_tail hgd s x 22 ho 5 i z Try.underlying22 hi hz hs1 hby hzs _ bs G hs (h1.below hbo) B m c' cs hx hB hlen fun A' c2 G' w' t' o' g' k' => ?_
  have hb : Below w0.heap.size w0 w := Below.then_ h0 hbo
  have hG : ∀ i, G' i → w0.heap.size ≤ i := fun i hi => by
    rcases g' i hi with h | h
    · exact h2 i h
    · exact Nat.le_trans hb.size h
  exact hK A' _ c2 w' ⟨hb.trans (o'.below hb.size (fun i hi hg => by have := h2 i hg; omega)), by rw [List.length_append, hB.1], G', t', hG⟩ (o'.mono (fun i _ hg => ⟨h2 i hg, hlt i hg⟩))
def zeroI : InV := ⟨zeroR, none, 0, 0, [], 0⟩
set_option maxRecDepth 100000 in
theorem zeroIn_info : (Try.prog.info? 68).map (·.zero) = some (some (.agg zeroI.cells.toArray)) := by kernel_rfl
set_option maxRecDepth 100000 in
theorem isIn : (Try.prog.info? 68).map (·.size) = some 35 := by kernel_rfl
def loadIn (a : Addr) : Sem Value := loadVar 68 a
theorem loadIn_fold (a : Addr) : loadVar 68 a = loadIn a := rfl
theorem loadIn_run (w : World) (b o : Nat) (a : InV) (h : w.rangeAt b o a.cells) (hf : a.ref.Fine) : (loadIn ⟨b, o, none⟩).run Try.prog w = .ok (.agg a.cells.toArray) w :=
  run_loadVar_mid w b o _ a.cells _ h Try.underlying68 rfl (by rw [isIn, InV.cells_len hf])
attribute [local go_sem ↓] loadIn_fold loadRef_fold
theorem InV.range_ref {w : World} {b o : Nat} {a : InV} (h : w.rangeAt b o a.cells) : w.rangeAt b o a.ref.cells := fun j v hv => h j v (by
  rw [InV.cells, List.getElem?_append_left (List.getElem?_eq_some_iff.1 hv).1]; exact hv)
theorem InV.c33 {w : World} {b : Nat} {a : InV} (h : w.rangeAt b 0 a.cells) (hf : a.ref.Fine) : w.cell? ⟨b, 33, none⟩ = some (.slice a.A a.n a.c) := by
  have := h 33 (.slice a.A a.n a.c) (by rw [InV.cells, List.getElem?_append_right (by rw [RefD.cells_len hf]; exact Nat.le_refl _), RefD.cells_len hf]; rfl)
  simpa using this
theorem InV.c34 {w : World} {b : Nat} {a : InV} (h : w.rangeAt b 0 a.cells) (hf : a.ref.Fine) : w.cell? ⟨b, 34, none⟩ = some (.int .u32 a.order) := by
  have := h 34 (.int .u32 a.order) (by rw [InV.cells, List.getElem?_append_right (by rw [RefD.cells_len hf]; decide), RefD.cells_len hf]; rfl)
  simpa using this
theorem u64_small (n : Int) (h0 : 0 ≤ n) (h1 : n ≤ 4294967295) : IntKind.u64.wrap n = n := by rw [IntKind.wrap_u64]; omega
set_option maxHeartbeats 4000000 in
set_option maxRecDepth 100000 in
theorem TBytes_any (w : World) (t : TxV) (hf : t.Fine w) (hs : t.Small) :
    Calls Try.prog 41 #[.agg t.cells.toArray] w (MinePost 5 w none t.d.bytes) := by
  have E := hide (TxD.bytes_eq t)
  obtain ⟨version, iA, iN, iC, ins, oA, oN, oC, outs, until_⟩ := t
  obtain ⟨hv, hu, hins, houts, hic, hoc⟩ := hf
  obtain ⟨hs1, hs2, hs3, hs4⟩ := hs
  simp only at hv hu hins houts hic hoc hs1 hs2 hs3 hs4 E
  have HV := hide hv
  have HU := hide hu
  have HN := hide hs1
  have HM := hide hs2
  have HUL := hide hs3
  have HLK := hide hs4
  have vv := u64_small version hv.1 hv.2
  have vu := u64_small until_ hu.1 hu.2
  have vn := u64_small (iN : Int) (by omega) (by omega)
  have vm := u64_small (oN : Int) (by omega) (by omega)
  have B0 := Blk.new w 65 [.int .u32 version, .slice iA iN iC, .slice oA oN oC, .int .u32 until_]
  have hb0 := hide (show Below w.heap.size w (w.alloc (.cells #[.int .u32 version, .slice iA iN iC, .slice oA oN oC, .int .u32 until_] 65)) from below_alloc (Below.refl _ _) _)
  have HI := hide (hins.below' hb0.out)
  have HO1 := hide (houts.below' hb0.out)
  clear hins houts hs1 hs2 hs3 hs4 hv hu hic hoc
  show Calls _ _ #[.agg #[.int .u32 version, .slice iA iN iC, .slice oA oN oC, .int .u32 until_]] _ _
  go_enter Try.func41, Try.ntmps41
  go_wp2_with fail
  obtain ⟨w1, hw1⟩ : ∃ w1, w1 = w.alloc (.cells #[.int .u32 version, .slice iA iN iC, .slice oA oN oC, .int .u32 until_] 65) := ⟨_, rfl⟩
  rw [← hw1] at B0 hb0 HI HO1 ⊢
  clear hw1
  have x0 := B0.c0
  have x1 := B0.c1
  have x2 := B0.c2
  have x3 := B0.c3
  refine wp_region_held_drew (S := fun w' => Below w1.heap.size w1 w') (by kernel_rfl) (by exact (Below.refl _ _).drew) (fun hSA0 => ?_)
  obtain ⟨w1d, hwA⟩ : ∃ x, x = w1.drew := ⟨_, rfl⟩
  rw [← hwA] at hSA0 ⊢
  have hDA : Below w1.heap.size w1 w1d := by rw [hwA]; exact (Below.refl _ _).drew
  clear hwA
  (refine wpAnyH_take (i := 0) (oi := { dst := Option.some 8, op := Go.Op.fieldAddr 65 (Go.Operand.tmp 1) 0, type := 0, pos := "tx.go:28", after := #[], guard := Option.none }) (v := ?_) rfl (by kernel_rfl) (by kernel_rfl) (by kernel_rfl) (fun _ _ _ h => h) (Or.inl ⟨by rfl, fun w' hSw => ?_⟩) hSA0 ?_; rotate_left; focus (go_simp; try with_reducible rfl))
  simp only [Act.put, List.setIfInBounds_toArray, List.set_cons_zero, List.set_cons_succ]
  (refine wpAnyH_take (i := 1) (oi := { dst := Option.some 9, op := Go.Op.load 45 (Go.Operand.tmp 8), type := 45, pos := "tx.go:28", after := #[{ on := 0, ground := Go.Ground.data }], guard := Option.none }) (v := ?_) rfl (by kernel_rfl) (by kernel_rfl) (by kernel_rfl) (fun _ _ _ h => h) (Or.inl ⟨by rfl, fun w' hSw => ?_⟩) hSA0 ?_; rotate_left; focus (have l0 := cell_under hSw x0; go_simp; try with_reducible rfl))
  simp only [Act.put, List.setIfInBounds_toArray, List.set_cons_zero, List.set_cons_succ]
  (refine wpAnyH_take (i := 2) (oi := { dst := Option.some 10, op := Go.Op.convert 45 87 (Go.Operand.tmp 9), type := 87, pos := "tx.go:28", after := #[{ on := 1, ground := Go.Ground.data }], guard := Option.none }) (v := ?_) rfl (by kernel_rfl) (by kernel_rfl) (by kernel_rfl) (fun _ _ _ h => h) (Or.inl ⟨by rfl, fun w' hSw => ?_⟩) hSA0 ?_; rotate_left; focus (go_simp; try with_reducible rfl))
  simp only [Act.put, List.setIfInBounds_toArray, List.set_cons_zero, List.set_cons_succ]
  (refine wpAnyH_take (i := 4) (oi := { dst := Option.some 12, op := Go.Op.fieldAddr 65 (Go.Operand.tmp 1) 1, type := 0, pos := "tx.go:28", after := #[], guard := Option.none }) (v := ?_) rfl (by kernel_rfl) (by kernel_rfl) (by kernel_rfl) (fun _ _ _ h => h) (Or.inl ⟨by rfl, fun w' hSw => ?_⟩) hSA0 ?_; rotate_left; focus (go_simp; try with_reducible rfl))
  simp only [Act.put, List.setIfInBounds_toArray, List.set_cons_zero, List.set_cons_succ]
  (refine wpAnyH_take (i := 5) (oi := { dst := Option.some 13, op := Go.Op.load 63 (Go.Operand.tmp 12), type := 63, pos := "tx.go:28", after := #[{ on := 4, ground := Go.Ground.data }], guard := Option.none }) (v := ?_) rfl (by kernel_rfl) (by kernel_rfl) (by kernel_rfl) (fun _ _ _ h => h) (Or.inl ⟨by rfl, fun w' hSw => ?_⟩) hSA0 ?_; rotate_left; focus (have l1 := cell_under hSw x1; go_simp; try with_reducible rfl))
  simp only [Act.put, List.setIfInBounds_toArray, List.set_cons_zero, List.set_cons_succ]
  (refine wpAnyH_take (i := 6) (oi := { dst := Option.some 14, op := Go.Op.call { callee := Go.Callee.builtin Go.Builtin.len, args := #[Go.Operand.tmp 13], argTypes := #[63] }, type := 3, pos := "tx.go:28", after := #[{ on := 5, ground := Go.Ground.data }], guard := Option.none }) (v := ?_) rfl (by kernel_rfl) (by kernel_rfl) (by kernel_rfl) (fun _ _ _ h => h) (Or.inl ⟨by rfl, fun w' hSw => ?_⟩) hSA0 ?_; rotate_left; focus (go_simp; try with_reducible rfl))
  simp only [Act.put, List.setIfInBounds_toArray, List.set_cons_zero, List.set_cons_succ]
  (refine wpAnyH_take (i := 7) (oi := { dst := Option.some 15, op := Go.Op.convert 3 87 (Go.Operand.tmp 14), type := 87, pos := "tx.go:28", after := #[{ on := 6, ground := Go.Ground.data }], guard := Option.none }) (v := ?_) rfl (by kernel_rfl) (by kernel_rfl) (by kernel_rfl) (fun _ _ _ h => h) (Or.inl ⟨by rfl, fun w' hSw => ?_⟩) hSA0 ?_; rotate_left; focus (go_simp; try with_reducible rfl))
  simp only [Act.put, List.setIfInBounds_toArray, List.set_cons_zero, List.set_cons_succ]
  refine wpAnyH_ready (rs := [3]) (by kernel_rfl) (by simp) ?_
  refine AllReadyH.cons rfl (fun K hK => ?_) AllReadyH.nil
  go_simp
  go_wp2_with (go_at_call 63; refine (Fixed_any w1d w1d none 0 0 [] version 4 (Below.refl _ _) (Bys.nil _ _) HV.out.1 (by have := HV.out.2; omega) (by decide)).mono ?_; rintro e w2 ⟨A2, n2, c2, rfl, t2, f2⟩)
  refine hK.out _ _ (Below.then_ hSA0 t2.below) (fun hSA1 => ?_)
  clear hK K
  refine wpAnyH_ready (rs := [8]) (by kernel_rfl) (by simp) ?_
  refine AllReadyH.cons rfl (fun K hK => ?_) AllReadyH.nil
  go_simp
  go_wp2_with (go_at_call 62; refine (Count_any w2 w2 A2 n2 c2 _ (iN : Int) (Below.refl _ _) t2.bys t2.cap (by omega) (by have := HN.out; omega) (by have := t2.len; rw [List.nil_append, dig_length] at this; have : (Rd.within 4).toNat = 4 := rfl; omega)).mono ?_; rintro e w3 ⟨A3, n3, c3, rfl, t3, f3⟩)
  refine hK.out _ _ (Below.then_ hSA1 t3.below) (fun hSA2 => ?_)
  clear hK K
  (refine wpAnyH_take (i := 9) (oi := { dst := Option.some 3, op := Go.Op.assign (Go.Operand.tmp 16), type := 22, pos := "tx.go:28", after := #[{ on := 8, ground := Go.Ground.data }, { on := 8, ground := Go.Ground.chain }, { on := 0, ground := Go.Ground.phase }, { on := 1, ground := Go.Ground.phase }, { on := 2, ground := Go.Ground.phase }, { on := 3, ground := Go.Ground.phase }, { on := 4, ground := Go.Ground.phase }, { on := 5, ground := Go.Ground.phase }, { on := 6, ground := Go.Ground.phase }, { on := 7, ground := Go.Ground.phase }, { on := 8, ground := Go.Ground.phase }], guard := Option.none }) (v := ?_) rfl (by kernel_rfl) (by kernel_rfl) (by kernel_rfl) (fun _ _ _ h => h) (Or.inl ⟨by rfl, fun w' hSw => ?_⟩) hSA2 ?_; rotate_left; focus (go_simp; try with_reducible rfl))
  simp only [Act.put, List.setIfInBounds_toArray, List.set_cons_zero, List.set_cons_succ]
  refine wpAnyH_done (by kernel_rfl) ?_ _
  obtain ⟨p0, hp0⟩ : ∃ p0, p0 = dig version.toNat 4 ++ cnt iN := ⟨_, rfl⟩
  have T3 := hide (show Mine 5 w1 w3 A3 n3 c3 p0 from by rw [hp0]; exact t3.older hSA1)
  have HP0 := hide hp0
  have hl0 : p0.length ≤ 13 := by rw [hp0, List.length_append, dig_length]; have := (cnt_length iN).2; omega
  have HL0 := hide hl0
  have hilen := hide HI.out.1
  clear hp0 hl0 t2 t3 f2 f3 hSA0 hDA
  have y1 := cell_under hSA2 x1
  go_wp2_with fail
  go_loopw [3, 20] (fun b i ws => ∃ (j : Nat) (A' : Option Addr) (m' c' : Nat), j ≤ iN ∧ i = .int .i64 j ∧ b = .slice A' m' c' ∧ Mine 5 w1 ws A' m' c' (p0 ++ (ins.take j).flatMap fun a => a.d.bytes)) (fun _ i _ => iN - (intOf i).toNat)
  case atStart => exact ⟨0, A3, n3, c3, by omega, rfl, rfl, by simpa using T3.out⟩
  case round =>
    obtain ⟨j, A4, n4, c4, hj, rfl, rfl, ht⟩ := hrel
    have HT := hide ht
    have hlen4 : n4 ≤ 13 + 10100 * j := by
      have h1 := ht.len
      have h2 := flatMap_len (fun a : InV => a.d.bytes) (ins.take j) 10100 (fun a ha => (HI.out.2.1 a (List.mem_of_mem_take ha)).ref |> fun hr => InV.bytes_len a hr (by have h3 := (HI.out.2.1 a (List.mem_of_mem_take ha)).bys.1; have h4 := HUL.out a (List.mem_of_mem_take ha); omega))
      rw [List.length_append] at h1
      rw [List.length_take] at h2
      have h5 := HL0.out
      have h6 : 10100 * min j ins.length ≤ 10100 * j := Nat.mul_le_mul_left _ (Nat.min_le_left _ _)
      omega
    have HLEN4 := hide hlen4
    by_cases hlt : j < iN
    · obtain ⟨a, ha⟩ : ∃ a, ins[j]? = some a := ⟨_, List.getElem?_eq_getElem (by have := hilen.out; omega)⟩
      have haf := (HI.out.2.1 a (List.mem_of_getElem? ha))
      have haW := haf.below ht.below
      obtain ⟨b, off, rfl, hrow⟩ := HI.out.2.2 (by omega)
      have hld := loadIn_run wr b (off + j * 35) a (range_under (hrow j a ha) ht.below) haf.ref
      have HA0 := hide haW
      have HAB := hide haf.bys
      have HC := hide haf.cap
      have HO := hide haf.order
      have vo := u64_small a.order haf.order.1 haf.order.2
      have hta := flatMap_take (fun a : InV => a.d.bytes) ins j a ha
      have HTA := hide hta
      have lz : zeroI.cells.length = 35 := rfl
      have la : a.cells.length = 35 := InV.cells_len haf.ref
      have hla : a.bs.length ≤ 10000 := by have h3 := haf.bys.1; have h4 := HUL.out a (List.mem_of_getElem? ha); omega
      have HLA := hide hla
      have KZ := hide (Blk.new wr 68 zeroI.cells)
      have hI := isIn
      have i0 : (0 : Int) ≤ (j : Int) := by omega
      have i1 : (j : Int) < (iN : Int) := by omega
      clear ht haf haW hrow hta hla hlen4 ha
      go_wp2_with (first
        | (refine wpList_alloc_agg rfl 68 rfl zeroI.cells zeroIn_info ?_; simp only [Act.put, List.setIfInBounds_toArray, List.set_cons_zero, List.set_cons_succ])
        | (refine wpList_store_blk rfl 68 _ _ rfl wr.heap.size 0 68 zeroI.cells a.cells (by rfl) (by rfl) KZ.out (by rw [lz, la]; decide) (by rw [hI, la]) (InV.one a) ?_; intro w5 o5 z5 b5; rw [lay_all zeroI.cells _ (by rw [lz, la])] at b5; have hlr := loadRef_run w5 wr.heap.size 0 a.ref (InV.range_ref b5.whole) HA0.out.ref; simp only [Act.put]))
      have hb5 : Below wr.heap.size wr w5 := Below.trans ((Below.refl _ wr).alloc (Nat.le_refl _) _) (o5.below (by simp) (fun i hi e => by have h9 : i = wr.heap.size := e; omega))
      have HB5 := hide hb5
      have B5 := hide b5
      clear o5 z5 b5 hld KZ
      refine (RefBytes_any w5 a.ref HA0.out.ref).mono ?_
      rintro e wq ⟨Aq, nq, cq, rfl, tq, fq⟩
      have hbq := Below.then_ HB5.out tq.below
      have HBQ := hide hbq
      have HBq := hide tq.bys
      have B6q := hide (B5.out.under tq.below)
      have HLq := hide tq.len
      clear tq fq hlr hbq
      go_wp2_with (at_builtin; refine wpList_app3 rfl _ _ rfl w1 wr A4 n4 c4 _ (by rfl) HT.out HBQ.out Aq nq cq _ (by rfl) HBq.out (by have := HLq.out; have h1 := HLEN4.out; have h2 := HN.out; simp only [RefD.bytes, List.length_append, dig_length, HA0.out.ref.len] at this; omega) ?_; intro A5 n5 c5 w6 t5 o6; simp only [Act.put, List.setIfInBounds_toArray, List.set_cons_zero, List.set_cons_succ])
      have B6 := hide (o6.blk B6q.out (fun e => by have := e.2; omega))
      have T5 := hide t5
      have HA := hide (HAB.out.below t5.below)
      have y33 := InV.c33 B6.out.whole HA0.out.ref
      have y34 := InV.c34 B6.out.whole HA0.out.ref
      have hl5 : n5 ≤ 20000000 := by
        have h0 := t5.len
        have h1 := HT.out.len
        have h2 := HLEN4.out
        have h3 := HN.out
        rw [List.length_append, h1] at h0
        simp only [RefD.bytes, List.length_append, dig_length, HA0.out.ref.len] at h0
        omega
      have HL5 := hide hl5
      clear t5 o6 hl5 B6q HBq HLq
      go_wp2_with fail
      refine wp_region_held_drew (S := fun w' => Below w6.heap.size w6 w') (by kernel_rfl) (by exact (Below.refl _ _).drew) (fun hSB0 => ?_)
      obtain ⟨w6d, hwB⟩ : ∃ x, x = w6.drew := ⟨_, rfl⟩
      rw [← hwB] at hSB0 ⊢
      have hDB : Below w6.heap.size w6 w6d := by rw [hwB]; exact (Below.refl _ _).drew
      clear hwB
      (refine wpAnyH_take (i := 0) (oi := { dst := Option.some 29, op := Go.Op.move (Go.Operand.tmp 3), type := 22, pos := "tx.go:31", after := #[], guard := Option.none }) (v := ?_) rfl (by kernel_rfl) (by kernel_rfl) (by kernel_rfl) (fun _ _ _ h => h) (Or.inl ⟨by rfl, fun w' hSw => ?_⟩) hSB0 ?_; rotate_left; focus (go_simp; try with_reducible rfl))
      simp only [Act.put, List.setIfInBounds_toArray, List.set_cons_zero, List.set_cons_succ]
      (refine wpAnyH_take (i := 1) (oi := { dst := Option.some 30, op := Go.Op.fieldAddr 68 (Go.Operand.tmp 5) 1, type := 0, pos := "tx.go:31", after := #[], guard := Option.none }) (v := ?_) rfl (by kernel_rfl) (by kernel_rfl) (by kernel_rfl) (fun _ _ _ h => h) (Or.inl ⟨by rfl, fun w' hSw => ?_⟩) hSB0 ?_; rotate_left; focus (go_simp; try with_reducible rfl))
      simp only [Act.put, List.setIfInBounds_toArray, List.set_cons_zero, List.set_cons_succ]
      (refine wpAnyH_take (i := 2) (oi := { dst := Option.some 31, op := Go.Op.load 22 (Go.Operand.tmp 30), type := 22, pos := "tx.go:31", after := #[{ on := 1, ground := Go.Ground.data }], guard := Option.none }) (v := ?_) rfl (by kernel_rfl) (by kernel_rfl) (by kernel_rfl) (fun _ _ _ h => h) (Or.inl ⟨by rfl, fun w' hSw => ?_⟩) hSB0 ?_; rotate_left; focus (have l33 := cell_under hSw y33; go_simp; try with_reducible rfl))
      simp only [Act.put, List.setIfInBounds_toArray, List.set_cons_zero, List.set_cons_succ]
      (refine wpAnyH_take (i := 5) (oi := { dst := Option.some 34, op := Go.Op.fieldAddr 68 (Go.Operand.tmp 5) 2, type := 0, pos := "tx.go:31", after := #[], guard := Option.none }) (v := ?_) rfl (by kernel_rfl) (by kernel_rfl) (by kernel_rfl) (fun _ _ _ h => h) (Or.inl ⟨by rfl, fun w' hSw => ?_⟩) hSB0 ?_; rotate_left; focus (go_simp; try with_reducible rfl))
      simp only [Act.put, List.setIfInBounds_toArray, List.set_cons_zero, List.set_cons_succ]
      (refine wpAnyH_take (i := 6) (oi := { dst := Option.some 35, op := Go.Op.load 45 (Go.Operand.tmp 34), type := 45, pos := "tx.go:31", after := #[{ on := 5, ground := Go.Ground.data }], guard := Option.none }) (v := ?_) rfl (by kernel_rfl) (by kernel_rfl) (by kernel_rfl) (fun _ _ _ h => h) (Or.inl ⟨by rfl, fun w' hSw => ?_⟩) hSB0 ?_; rotate_left; focus (have l34 := cell_under hSw y34; go_simp; try with_reducible rfl))
      simp only [Act.put, List.setIfInBounds_toArray, List.set_cons_zero, List.set_cons_succ]
      (refine wpAnyH_take (i := 7) (oi := { dst := Option.some 36, op := Go.Op.convert 45 87 (Go.Operand.tmp 35), type := 87, pos := "tx.go:31", after := #[{ on := 6, ground := Go.Ground.data }], guard := Option.none }) (v := ?_) rfl (by kernel_rfl) (by kernel_rfl) (by kernel_rfl) (fun _ _ _ h => h) (Or.inl ⟨by rfl, fun w' hSw => ?_⟩) hSB0 ?_; rotate_left; focus (go_simp; try with_reducible rfl))
      simp only [Act.put, List.setIfInBounds_toArray, List.set_cons_zero, List.set_cons_succ]
      refine wpAnyH_ready (rs := [3]) (by kernel_rfl) (by simp) ?_
      refine AllReadyH.cons rfl (fun K hK => ?_) AllReadyH.nil
      go_simp
      skip
      refine hK.out _ _ (below_alloc hSB0 _) (fun hSB1 => ?_)
      clear hK K
      refine wpAnyH_ready (rs := [4]) (by kernel_rfl) (by simp) ?_
      refine AllReadyH.cons rfl (fun K hK => ?_) AllReadyH.nil
      go_simp
      go_wp2_with (go_at_call 64; refine (Text_any _ _ A5 n5 c5 _ (some ⟨w6d.heap.size, 0, none⟩) 1 1 [a.bs] (Below.refl _ _) ((T5.out.bys.below hDB).alloc _) (Byss.one w6 w6d 22 a.A a.n a.c a.bs HA.out HC.out hDB) (by have := HL5.out; omega) (by decide) (by intro x hx; simp at hx; subst hx; have := HLA.out; omega)).mono ?_; rintro e w7 ⟨A7, n7, c7, rfl, t7, f7⟩)
      refine hK.out _ _ (Below.then_ hSB1 t7.below) (fun hSB2 => ?_)
      clear hK K
      refine wpAnyH_ready (rs := [8]) (by kernel_rfl) (by simp) ?_
      refine AllReadyH.cons rfl (fun K hK => ?_) AllReadyH.nil
      go_simp
      go_wp2_with (go_at_call 63; refine (Fixed_any w7 w7 A7 n7 c7 _ a.order 4 (Below.refl _ _) t7.bys HO.out.1 (by have := HO.out.2; omega) (by have := t7.len; have h1 := HL5.out; have h2 := T5.out.len; have h3 := HLA.out; have h4 := txt_len a.bs; simp only [List.flatMap_cons, List.flatMap_nil, List.append_nil, List.length_append] at this h2; omega)).mono ?_; rintro e w8 ⟨A8, n8, c8, rfl, t8, f8⟩)
      refine hK.out _ _ (Below.then_ hSB2 t8.below) (fun hSB3 => ?_)
      clear hK K
      (refine wpAnyH_take (i := 9) (oi := { dst := Option.some 3, op := Go.Op.assign (Go.Operand.tmp 37), type := 22, pos := "tx.go:31", after := #[{ on := 8, ground := Go.Ground.data }, { on := 8, ground := Go.Ground.chain }, { on := 0, ground := Go.Ground.phase }, { on := 1, ground := Go.Ground.phase }, { on := 2, ground := Go.Ground.phase }, { on := 3, ground := Go.Ground.phase }, { on := 4, ground := Go.Ground.phase }, { on := 5, ground := Go.Ground.phase }, { on := 6, ground := Go.Ground.phase }, { on := 7, ground := Go.Ground.phase }, { on := 8, ground := Go.Ground.phase }], guard := Option.none }) (v := ?_) rfl (by kernel_rfl) (by kernel_rfl) (by kernel_rfl) (fun _ _ _ h => h) (Or.inl ⟨by rfl, fun w' hSw => ?_⟩) hSB3 ?_; rotate_left; focus (go_simp; try with_reducible rfl))
      simp only [Act.put, List.setIfInBounds_toArray, List.set_cons_zero, List.set_cons_succ]
      refine wpAnyH_done (by kernel_rfl) ?_ _
      have T8 := hide (show Mine 5 w1 w8 A8 n8 c8 _ from t8.older (Below.then_ T5.out.below hSB2))
      have hj9 : (j : Int) ≤ 1000 := by have := HN.out; omega
      go_wp2_with fail
      refine ⟨⟨j + 1, A8, n8, c8, by omega, by simp, rfl, ?_⟩, by simp [intOf]; omega⟩
      rw [HTA.out]
      have e : p0 ++ ((ins.take j).flatMap (fun a => a.d.bytes) ++ a.d.bytes) = p0 ++ (ins.take j).flatMap (fun a => a.d.bytes) ++ a.ref.bytes ++ [a.bs].flatMap txt ++ dig a.order.toNat (Rd.within 4).toNat := by
        rw [show (Rd.within 4).toNat = 4 from rfl]
        simp [InV.d, InD.bytes]
      rw [e]
      exact T8.out
    · obtain rfl : iN = j := by omega
      have hall : ins.take iN = ins := List.take_of_length_le (by have := hilen.out; omega)
      rw [hall] at HT
      have z2 := cell_under HT.out.below x2
      have z3 := cell_under HT.out.below x3
      clear ht hall hlen4 hlt hj
      have hl4 : n4 ≤ 20000000 := by have := HLEN4.out; have := HN.out; omega
      go_wp2_with fail
      refine (Count_any wr wr A4 n4 c4 _ (oN : Int) (Below.refl _ _) HT.out.bys HT.out.cap (by omega) (by have := HM.out; omega) (by omega)).mono ?_
      rintro e wb ⟨Ab, nb, cb, rfl, tb, fb⟩
      have Tb := hide (show Mine 5 w1 wb Ab nb cb _ from tb.older HT.out.below)
      have z2 := cell_under Tb.out.below x2
      obtain ⟨p1, hp1⟩ : ∃ p1, p1 = p0 ++ ins.flatMap (fun a => a.d.bytes) ++ cnt oN := ⟨_, rfl⟩
      have e1 : ((oN : Int)).toNat = oN := by omega
      rw [e1, ← hp1] at Tb
      have HP1 := hide hp1
      have hl1 : p1.length ≤ 30000000 := by
        have h1 := HT.out.len
        rw [hp1, List.length_append, h1]
        have := (cnt_length oN).2
        omega
      have HL1 := hide hl1
      have holen := hide HO1.out.1
      clear tb fb hp1 e1 hl1
      go_wp2_with fail
      go_loopw [3, 48] (fun b i ws => ∃ (j : Nat) (A' : Option Addr) (m' c' : Nat), j ≤ oN ∧ i = .int .i64 j ∧ b = .slice A' m' c' ∧ Mine 5 w1 ws A' m' c' (p1 ++ (outs.take j).flatMap fun a => a.d.bytes)) (fun _ i _ => oN - (intOf i).toNat)
      case atStart => exact ⟨0, Ab, nb, cb, by omega, rfl, rfl, by simpa using Tb.out⟩
      case round =>
        obtain ⟨j, A6, n6, c6, hj, rfl, rfl, ht⟩ := hrel
        have HT2 := hide ht
        have hlen6 : n6 ≤ 30000000 + 10100 * j := by
          have h1 := ht.len
          have h2 := flatMap_len (fun a : OutV => a.d.bytes) (outs.take j) 10100 (fun a ha => OutV.bytes_len a (by have h3 := (HO1.out.2.1 a (List.mem_of_mem_take ha)).bys.1; have h4 := HLK.out a (List.mem_of_mem_take ha); omega))
          rw [List.length_append] at h1
          rw [List.length_take] at h2
          have h5 := HL1.out
          have h6 : 10100 * min j outs.length ≤ 10100 * j := Nat.mul_le_mul_left _ (Nat.min_le_left _ _)
          omega
        have HLEN6 := hide hlen6
        by_cases hlt : j < oN
        · obtain ⟨a, ha⟩ : ∃ a, outs[j]? = some a := ⟨_, List.getElem?_eq_getElem (by have := holen.out; omega)⟩
          have haf := HO1.out.2.1 a (List.mem_of_getElem? ha)
          obtain ⟨b, off, rfl, hrow⟩ := HO1.out.2.2 (by omega)
          have hr := range_under (hrow j a ha) ht.below
          have k0 := rangeAt_c0 hr
          have k1 := rangeAt_c1 hr
          have HTA := hide (flatMap_take (fun a : OutV => a.d.bytes) outs j a ha)
          have HAF := hide (haf.below ht.below)
          have hln : a.n ≤ 10000 := HLK.out a (List.mem_of_getElem? ha)
          have HLN := hide hln
          have i0 : (0 : Int) ≤ (j : Int) := by omega
          have i1 : (j : Int) < (oN : Int) := by omega
          have hj9 : (j : Int) ≤ 1000 := by have := HM.out; omega
          clear ht haf hrow hr hln hlen6 ha
          go_wp2_with fail
          refine (OutBytes_any _ a (HAF.out.below (below_alloc (Below.refl _ _) _)) (by have := HLN.out; omega)).mono ?_
          rintro e wq ⟨Aq, nq, cq, rfl, tq, fq⟩
          have hbq : Below wr.heap.size wr wq := Below.then_ (below_alloc (Below.refl _ wr) (.cells #[.int .i64 a.v, .slice a.A a.n a.c] 24)) tq.below
          have HBQ := hide hbq
          have HBq := hide tq.bys
          have hlq : nq ≤ 10100 := by rw [← tq.len]; exact OutV.bytes_len a (by rw [HAF.out.bys.1]; exact HLN.out)
          clear tq fq hbq
          go_wp2_with (at_builtin; refine wpList_app3 rfl _ _ rfl w1 wr A6 n6 c6 _ (by rfl) HT2.out HBQ.out Aq nq cq _ (by rfl) HBq.out (by have h1 := HLEN6.out; have h2 := HM.out; omega) ?_; intro A5 n5 c5 w6 t5 o6; simp only [Act.put, List.setIfInBounds_toArray, List.set_cons_zero, List.set_cons_succ])
          refine ⟨⟨j + 1, A5, n5, c5, by omega, by simp, rfl, ?_⟩, by simp [intOf]; omega⟩
          rw [HTA.out, ← List.append_assoc]
          exact t5
        · obtain rfl : oN = j := by omega
          have hall : outs.take oN = outs := List.take_of_length_le (by have := holen.out; omega)
          rw [hall] at HT2
          have z3 := cell_under HT2.out.below x3
          have hl6 : n6 ≤ 50000000 := by have := HLEN6.out; have := HM.out; omega
          clear ht hall hlen6 hlt hj
          go_wp2_with fail
          refine (Fixed_any wr wr A6 n6 c6 _ until_ 4 (Below.refl _ _) HT2.out.bys HU.out.1 (by have := HU.out.2; omega) (by omega)).mono ?_
          rintro e w9 ⟨A9, n9, c9, rfl, t9, f9⟩
          have T9 := hide (t9.older (Below.then_ hb0.out HT2.out.below))
          have F9 := hide ((f9 (Fr.none _)).older (Below.then_ hb0.out HT2.out.below))
          clear t9 f9
          go_wp2_with fail
          go_ret
          have e : ({ version := version, iA := iA, iN := iN, iC := iC, ins := ins, oA := oA, oN := oN, oC := oC, outs := outs, until_ := until_ } : TxV).d.bytes = p1 ++ outs.flatMap (fun a => a.d.bytes) ++ dig until_.toNat (Rd.within 4).toNat := by
            rw [E.out, HP1.out, HP0.out, hilen.out, holen.out]
            rfl
          rw [e]
          exact MinePost.mk T9.out F9.out
end Go.Proofs.Ytfloclamdpageaa
