/- Lemmas and walks for TableRuns, packed. -/
import Derived.Test.YtjnpkcabkccaoaaGreatQ39
import Derived.Test.YtjnpkcabkccaoaaGreatQ38
set_option maxRecDepth 100000
set_option maxHeartbeats 16000000
namespace Go.Proofs.YtjnpkcabkccaoaaGreat
open Go.RowKit
section
def MineF (w0 w : World) (A : Option Addr) (n c : Nat) (bs : List Int) : Prop := Mine 5 w0 w A n c bs ∧ Fr w0 A
def MineQ (w0 w : World) (A : Option Addr) (n c : Nat) (bs : List Int) (v : Nat) : Prop :=
 Below w0.heap.size w0 w ∧ n = bs.length ∧ (∃ G, Tail w 5 (.slice A n c) bs G ∧ (∀ i, G i → w0.heap.size ≤ i) ∧ ¬ G v) ∧ Fr w0 A
theorem MineQ.mine {w0 w : World} {A : Option Addr} {n c : Nat} {bs : List Int} {v : Nat} (h : MineQ w0 w A n c bs v) : MineF w0 w A n c bs := by
 obtain ⟨h0, h1, ⟨G, h2, h3, _⟩, hf⟩ := h
 exact ⟨⟨h0, h1, G, h2, h3⟩, hf⟩
theorem MineQ.of {w0 wo w : World} {A : Option Addr} {n c : Nat} {bs : List Int} {v : Nat} (h : MineF w0 wo A n c bs) (hv : wo.heap.size ≤ v) (hb : Below wo.heap.size wo w) : MineQ w0 w A n c bs v := by
 obtain ⟨⟨h0, h1, G, h2, h3⟩, hf⟩ := h
 exact ⟨Below.then_ h0 hb, h1, ⟨G, h2.below hb, h3, fun e => by have := h2.lt v e; omega⟩, hf⟩
theorem MineQ.under {w0 w w' : World} {A : Option Addr} {n c : Nat} {bs : List Int} {v : Nat} (h : MineQ w0 w A n c bs v) (hb : Below w.heap.size w w') : MineQ w0 w' A n c bs v := by
 obtain ⟨h0, h1, ⟨G, h2, h3, h4⟩, hf⟩ := h
 exact ⟨Below.then_ h0 hb, h1, ⟨G, h2.below hb, h3, h4⟩, hf⟩
theorem wpList_appQ {w : World} {ops : Array Oper} {rest : List Oper} {o : Oper} {a : Act} {Q : Exit → Act → World → Prop} (hgd : o.guard = none) (s x : Operand)
  (ho : o.op = .call { callee := .builtin .append, args := #[s, x], argTypes := #[23, 23] })
  (w0 : World) (v : Nat) (A : Option Addr) (n c : Nat) (bs : List Int) (hs : a.eval s = .slice A n c) (h : MineQ w0 w A n c bs v) (hv : v < w.heap.size) (B : Option Addr) (m c' : Nat) (cs : List Int) (hx : a.eval x = .slice B m c') (hB : Bys w B m cs) (hlen : n + m ≤ 140737488355328)
  (hK : ∀ A' n' c' w', MineQ w0 w' A' n' c' (bs ++ cs) v → Only (fun i => i ≠ v) w w' → wpList Tryz.prog ops Q rest (a.put o.dst (.slice A' n' c')) w') : wpList Tryz.prog ops Q (o :: rest) a w := by
 obtain ⟨i, z, hi, hz, hs1, hby, hzs⟩ := u8_info
 obtain ⟨h0, rfl, ⟨G, h1, h2, h3⟩, hf⟩ := h
 refine wpList_append_tail hgd s x 23 ho 5 i z Tryz.underlying23 hi hz hs1 hby hzs _ bs G hs h1 B m c' cs hx hB hlen fun A' c2 G' w' t' o' g' k' => ?_
 have hG : ∀ i, G' i → w0.heap.size ≤ i := fun i hi => by
  rcases g' i hi with h | h
  ·exact h2 i h
  ·exact Nat.le_trans h0.size h
 exact hK A' _ c2 w' ⟨h0.trans (o'.below h0.size (fun i hi hg => by have := h2 i hg; omega)), by rw [List.length_append, hB.1], ⟨G', t', hG, fun e => by
  rcases g' v e with h | h
  ·exact h3 h
  ·omega⟩, by
  rcases k' with ⟨_, e1⟩ | hk
  ·injection e1 with e1 _ _
   subst e1
   exact hf
  ·intro ad e1
   subst e1
   exact hG _ (hk ad.block rfl)⟩ (o'.mono (fun i _ hg e => h3 (by rw [← e]; exact hg)))
attribute [local go_sem ↓] loadPr_fold
theorem refPBytes_fr (w : World) (A : Option Addr) (n c : Nat) (xs : List PairV) (hX : PairsIn w A n xs) (hn : n ≤ 10000000) (hm : ∀ p ∈ xs, SmallP p) (hs : psize (xs.map PairV.d) ≤ 100000000) :
  Calls Tryz.prog 28 #[.slice A n c] w fun e w' => ∃ (A' : Option Addr) (m c' : Nat), e = .returned (.tuple #[.slice A' m c', .int .i64 (tbytes (xs.map PairV.d)).2]) ∧ MineF w w' A' m c' (tbytes (xs.map PairV.d)).1 := by
 have HX := hide hX
 have n9 : (n : Int) ≤ 10000000 := by omega
 obtain ⟨L, hL⟩ : ∃ L, L = xs.map PairV.d := ⟨_, rfl⟩
 have HL := hide hL
 have HRA := hide (refRight_any w A n c xs hX (by omega) hm)
 rw [← hL] at HRA hs ⊢
 have HLN := hide (show L.length = n by rw [hL, List.length_map, hX.1])
 have HLEN := hide (fun j : Nat => (by
  have h1 := pflat_take L j
  have h2 := flat_len L
  have h3 := (cnt_length L.length).2
  have h4 := HLN.out
  rw [List.length_append]
  omega : (cnt L.length ++ (L.take j).flatMap PairD.bytes).length ≤ 300000010))
 clear hX hn hs hm hL
 cases hr : rightB L with
 | false =>
  have HE := hide (show tbytes L = ([], 151) by rw [tbytes, hr]; rfl)
  rw [hr] at HRA
  clear hr
  go_enter Tryz.func28, Tryz.ntmps28
  go_wp2_with fail
  refine HRA.out.mono ?_
  rintro e w1 ⟨rfl, b1⟩
  have B1 := hide b1
  clear b1
  go_wp2_with fail
  go_ret2
  rw [HE.out]
  exact ⟨none, 0, 0, rfl, Mine.nil B1.out none, Fr.none _⟩
 | true =>
  have HE := hide (show tbytes L = (bytesP L, 0) by rw [tbytes, hr]; rfl)
  have HOK := hide (right_ok hr)
  rw [hr] at HRA
  clear hr
  go_enter Tryz.func28, Tryz.ntmps28
  go_wp2_with fail
  refine HRA.out.mono ?_
  rintro e w1 ⟨rfl, b1⟩
  have B1 := hide b1
  have n8 : (0 : Int) ≤ (n : Int) := by omega
  have hw : IntKind.u64.wrap (n : Int) = (n : Int) := by rw [IntKind.wrap_u64]; omega
  clear b1 HRA
  go_wp2_with fail
  refine (refcount_any w w1 (n : Int) B1.out n8 (by omega)).mono ?_
  rintro e w2 hp
  obtain ⟨A2, n2, c2, rfl, t2, f2⟩ := hp.fresh
  have T2 := hide (show MineF w w2 A2 n2 c2 _ from ⟨t2, f2⟩)
  have B2 := hide t2.below
  clear hp t2 f2
  go_wp2_with fail
  go_loopw [4, 16] (fun b i wr => ∃ (j : Nat) (A' : Option Addr) (n' c' : Nat), j ≤ n ∧ i = .int .i64 (j : Int) ∧ b = .slice A' n' c' ∧ MineF w wr A' n' c' (cnt L.length ++ (L.take j).flatMap PairD.bytes)) (fun _ i _ => n - (intOf i).toNat)
  case atStart => exact ⟨0, A2, n2, c2, by omega, rfl, rfl, by have := T2.out; rw [HLN.out]; simpa using this⟩
  case round =>
   obtain ⟨j, A4, n4, c4, hj, rfl, rfl, ht⟩ := hrel
   have HT := hide ht
   have XR := hide (HX.out.below' ht.1.below)
   have HN4 := hide (show n4 ≤ 300000010 by rw [← ht.1.len]; exact HLEN.out j)
   by_cases hlt : j < n
   ·obtain ⟨pb, off, hpa, hrow⟩ := XR.out.2.2 (by omega)
    subst hpa
    obtain ⟨x, hx⟩ : ∃ x, xs[j]? = some x := ⟨_, List.getElem?_eq_getElem (by rw [XR.out.1]; exact hlt)⟩
    have XF := hide (HX.out.2.1 x (List.mem_of_getElem? hx))
    have hld := loadPr_run wr pb (off + j * 3) x (hrow j x hx)
    have HLT := hide hlt
    have HXL := hide (show L[j]? = some x.d by rw [HL.out]; exact pmap_get hx)
    have HXO := hide ((okB_iff _).1 (HOK.out x.d (List.mem_of_getElem? HXL.out)))
    have HKN := hide (show x.kN ≤ 200 ∧ x.vN ≤ 20000 by have h1 := HXO.out.2.1; have h2 := HXO.out.2.2.1; have h3 := XF.out.key.1; have h4 := XF.out.value.1; simp only [PairV.d] at h1 h2; omega)
    have i0 : (0 : Int) ≤ (j : Int) := by omega
    have i1 : (j : Int) < (n : Int) := by omega
    have HST := hide (pflat_step HXL.out)
    clear ht hx hlt hrow hj
    have tokA : True := trivial
    have tokB : True := trivial
    go_wp2_with (first
     | (have _t := tokA; clear _t tokA; refine wpList_alloc_agg rfl 59 rfl zeroPr zeroPr_info ?_; simp only [pU])
     | (have _t := tokB; clear _t tokB; refine pr_store rfl _ _ rfl wr rfl (by rfl) x (by rfl) ?_; intro w5 b5 s5 k5; have B5 := hide b5; have K5 := hide k5; have y0 := k5.c0; have S5 := hide s5; clear b5 s5 k5 hld; simp only [Act.put]))
    obtain ⟨gp, hgp⟩ : ∃ z, z = wr.heap.size := ⟨_, rfl⟩
    have HG := hide (show wr.heap.size ≤ gp by omega)
    rw [← hgp] at K5 y0 ⊢
    clear hgp y0
    refine (reftext_any w5 w5 x.kA x.kN x.kC x.key (Below.refl _ _) (XF.out.key.below (Below.then_ HT.out.1.below B5.out)) (by have := HKN.out; omega)).mono ?_
    rintro e w6 hp
    obtain ⟨A6, n6, c6, rfl, t6, _⟩ := hp.fresh
    have T6 := hide t6
    have K6 := hide (K5.out.under t6.below)
    have Q6 := hide (MineQ.of HT.out HG.out (Below.then_ B5.out t6.below))
    have HN6 := hide (show n6 ≤ 400 by
     have h1 := t6.len
     have h2 := (cnt_length x.key.length).2
     have h3 := XF.out.key.1
     have h4 := HKN.out
     simp only [List.length_append, txt] at h1
     omega)
    clear hp t6
    have tokC : True := trivial
    have tokD : True := trivial
    cases hg : x.gone with
    | true =>
     have HGN := hide hg
     clear hg
     go_wp2_with (first
      | (have _t := tokC; clear _t tokC; at_builtin; refine wpList_appQ rfl _ _ rfl w gp A4 n4 c4 (cnt L.length ++ (L.take j).flatMap PairD.bytes) (by rfl) Q6.out K6.out.lt A6 n6 c6 (txt x.key) (by rfl) T6.out.bys (by have := HN6.out; have := HN4.out; omega) ?_; intro A7 n7 c7 w7 q7 o7; have Q7 := hide q7; have K7 := hide (o7.blk K6.out (fun e => e rfl)); have y2 := K7.out.c2; rw [HGN.out] at y2; have HN7 := hide (show n7 ≤ 300000500 by have h1 := q7.2.1; have h2 := Q6.out.2.1; have h3 := T6.out.len; have h4 := HN6.out; have h5 := HN4.out; rw [List.length_append] at h1; omega); clear q7 o7; simp only [pU])
      | (have _t := tokD; clear _t tokD; at_builtin; refine wpList_appQ rfl _ _ rfl w gp A7 n7 c7 _ (by rfl) (Q7.out.under (below_alloc (Below.refl _ _) _)) (by have h9 := K7.out.lt; simp; omega) (some ⟨w7.heap.size, 0, none⟩) 1 1 [0] (by rfl) (Bys.one w7 5 0 (by decide) (by decide)) (by have := HN7.out; omega) ?_; intro A8 n8 c8 w8 q8 o8; have Q8 := hide q8; clear q8 o8 y2; simp only [pU]))
     refine ⟨⟨j + 1, A8, n8, c8, by have := HLT.out; omega, by go_num, rfl, ?_⟩, by have := HLT.out; simp [intOf]; omega⟩
     have h9 := Q8.out.mine
     rw [HST.out]
     have e : (cnt L.length ++ ((L.take j).flatMap PairD.bytes ++ x.d.bytes)) = cnt L.length ++ (L.take j).flatMap PairD.bytes ++ txt x.key ++ [0] := by simp [PairD.bytes, PairV.d, HGN.out]
     rw [e]
     exact h9
    | false =>
     have HGN := hide hg
     clear hg
     go_wp2_with (first
      | (have _t := tokC; clear _t tokC; at_builtin; refine wpList_appQ rfl _ _ rfl w gp A4 n4 c4 (cnt L.length ++ (L.take j).flatMap PairD.bytes) (by rfl) Q6.out K6.out.lt A6 n6 c6 (txt x.key) (by rfl) T6.out.bys (by have := HN6.out; have := HN4.out; omega) ?_; intro A7 n7 c7 w7 q7 o7; have Q7 := hide q7; have K7 := hide (o7.blk K6.out (fun e => e rfl)); have y2 := K7.out.c2; rw [HGN.out] at y2; have HN7 := hide (show n7 ≤ 300000500 by have h1 := q7.2.1; have h2 := Q6.out.2.1; have h3 := T6.out.len; have h4 := HN6.out; have h5 := HN4.out; rw [List.length_append] at h1; omega); clear q7 o7; simp only [pU])
      | (have _t := tokD; clear _t tokD; at_builtin; refine wpList_appQ rfl _ _ rfl w gp A7 n7 c7 _ (by rfl) (Q7.out.under (below_alloc (Below.refl _ _) _)) (by have h9 := K7.out.lt; simp; omega) (some ⟨w7.heap.size, 0, none⟩) 1 1 [1] (by rfl) (Bys.one w7 5 1 (by decide) (by decide)) (by have := HN7.out; omega) ?_; intro A8 n8 c8 w8 q8 o8; have Q8 := hide q8; have K8 := hide (o8.blk (K7.out.under (below_alloc (Below.refl _ _) _)) (fun e => e rfl)); have y1 := K8.out.c1; have HN8 := hide (show n8 ≤ 300000501 by have h1 := q8.2.1; have h2 := Q7.out.2.1; have h5 := HN7.out; rw [List.length_append, List.length_singleton] at h1; omega); clear q8 o8 y2; simp only [pU]))
     clear y1
     refine (reftext_any w8 w8 x.vA x.vN x.vC x.value (Below.refl _ _) (XF.out.value.below Q8.out.1) (by have := HKN.out; omega)).mono ?_
     rintro e w9 hp
     obtain ⟨A9, n9, c9, rfl, t9, _⟩ := hp.fresh
     have T9 := hide t9
     have HN9 := hide (show n9 ≤ 21000 by
      have h1 := t9.len
      have h2 := (cnt_length x.value.length).2
      have h3 := XF.out.value.1
      have h4 := HKN.out
      simp only [List.length_append, txt] at h1
      omega)
     clear hp t9
     go_wp2_with (at_builtin; refine wpList_appQ rfl _ _ rfl w gp A8 n8 c8 _ (by rfl) (Q8.out.under T9.out.below) (K8.out.under T9.out.below).lt A9 n9 c9 (txt x.value) (by rfl) T9.out.bys (by have := HN9.out; have := HN8.out; omega) ?_; intro A10 n10 c10 w10 q10 o10; have Q10 := hide q10; clear q10 o10; simp only [pU])
     refine ⟨⟨j + 1, A10, n10, c10, by have := HLT.out; omega, by go_num, rfl, ?_⟩, by have := HLT.out; simp [intOf]; omega⟩
     have h9 := Q10.out.mine
     rw [HST.out]
     have e : (cnt L.length ++ ((L.take j).flatMap PairD.bytes ++ x.d.bytes)) = cnt L.length ++ (L.take j).flatMap PairD.bytes ++ txt x.key ++ [1] ++ txt x.value := by simp [PairD.bytes, PairV.d, HGN.out]
     rw [e]
     exact h9
   ·have hjn : j = n := by omega
    subst hjn
    clear hlt hj ht
    go_wp2_with fail
    go_ret2
    rw [HE.out]
    refine ⟨A4, n4, c4, rfl, ?_⟩
    have h9 := HT.out
    rw [← HLN.out, List.take_length] at h9
    exact h9
theorem refPBytes_any (w : World) (A : Option Addr) (n c : Nat) (xs : List PairV) (hX : PairsIn w A n xs) (hn : n ≤ 10000000) (hm : ∀ p ∈ xs, SmallP p) (hs : psize (xs.map PairV.d) ≤ 100000000) :
  Calls Tryz.prog 28 #[.slice A n c] w fun e w' => ∃ (A' : Option Addr) (m c' : Nat), e = .returned (.tuple #[.slice A' m c', .int .i64 (tbytes (xs.map PairV.d)).2]) ∧ Mine 5 w w' A' m c' (tbytes (xs.map PairV.d)).1 :=
 (refPBytes_fr w A n c xs hX hn hm hs).mono fun _ _ ⟨A', m, c', h1, h2⟩ => ⟨A', m, c', h1, h2.1⟩
end
section
structure RRow (w0 w : World) (g n c : Nat) (zs : List PairV) : Prop where
 len : zs.length = n
 cap : n ≤ c
 row : w.ownsRow w0.heap.size 59 3 (.slice (some ⟨g, 0, none⟩) n c) n (zs.flatMap PairV.cells)
 below : Below w0.heap.size w0 w
namespace RRow
variable {w0 w w' : World} {g n c : Nat} {zs : List PairV}
theorem under (h : RRow w0 w g n c zs) (hb : Below w.heap.size w w') : RRow w0 w' g n c zs :=
 ⟨h.len, h.cap, (Only.of_below hb fun _ => False).own h.row (fun _ _ hf => hf), Below.then_ h.below hb⟩
theorem rows (h : RRow w0 w g n c zs) : RowsIn PairV.cells 3 (fun _ _ => True) w (some ⟨g, 0, none⟩) n zs := rowsOf h.len (fun _ _ => rfl) h.row fun _ _ => trivial
theorem at_ (h : RRow w0 w g n c zs) {i : Nat} {z : PairV} (hz : zs[i]? = some z) : w.rangeAt g (i * 3) z.cells := by
 have hl := (List.getElem?_eq_some_iff.1 hz).1
 have hln := h.len
 obtain ⟨b, off, e, hr⟩ := h.rows.2.2 (by omega)
 injection e with e
 injection e with e1 e2
 subst e1; subst e2
 have := hr i z hz
 rwa [Nat.zero_add] at this
theorem in_ (h : RRow w0 w g n c zs) (hf : ∀ z ∈ zs, z.Fine w) : PairsIn w (some ⟨g, 0, none⟩) n zs := rowsOf h.len (fun _ _ => rfl) h.row hf
end RRow
theorem flat_cells_len : ∀ zs : List PairV, (zs.flatMap PairV.cells).length = zs.length * 3
 | [] => rfl
 | z :: zs => by rw [List.flatMap_cons, List.length_append, flat_cells_len zs, List.length_cons]; show 3 + _ = _; omega
theorem flat_cells_get : ∀ (zs : List PairV) (i : Nat) (z : PairV), zs[i]? = some z → ∀ j, j < 3 → (zs.flatMap PairV.cells)[i * 3 + j]? = z.cells[j]?
 | [], i, z, h, _, _ => by simp at h
 | a :: zs, i, z, h, j, hj => by
  have hl : a.cells.length = 3 := rfl
  rw [List.flatMap_cons]
  rcases i with _ | i
  ·simp at h; subst h
   rw [List.getElem?_append_left (by omega), show 0 * 3 + j = j by omega]
  ·rw [List.getElem?_append_right (by omega), hl, show (i + 1) * 3 + j - 3 = i * 3 + j by omega]
   exact flat_cells_get zs i z (by simpa using h) j hj
theorem flat_cells_one (zs : List PairV) : ∀ u ∈ zs.flatMap PairV.cells, u.oneCell' = true := fun u hu => by
 obtain ⟨z, _, hz⟩ := List.mem_flatMap.1 hu
 exact PairV.one z u hz
theorem range_flat {w : World} {g off : Nat} {zs : List PairV} (h : ∀ i z, zs[i]? = some z → w.rangeAt g (off + i * 3) z.cells) : w.rangeAt g off (zs.flatMap PairV.cells) := fun j v hv => by
 have hj := (List.getElem?_eq_some_iff.1 hv).1
 rw [flat_cells_len] at hj
 have hq : j / 3 < zs.length := by omega
 have e := flat_cells_get zs (j / 3) zs[j / 3] (List.getElem?_eq_getElem hq) (j % 3) (Nat.mod_lt _ (by decide))
 rw [show j / 3 * 3 + j % 3 = j by omega, hv] at e
 have := h (j / 3) zs[j / 3] (List.getElem?_eq_getElem hq) (j % 3) v e.symm
 rwa [show off + j / 3 * 3 + j % 3 = off + j by omega] at this
theorem RRow.from_ {w0 w : World} {g n c : Nat} {zs : List PairV} (h : RRow w0 w g n c zs) (a : Nat) (ha : a ≤ n) : ∃ off : Nat,
  (∀ W : World, (Instr.slice 37 (.slice (some ⟨g, 0, none⟩) n c) (some (.int .i64 (a : Int))) none none).run Tryz.prog W = .ok (.slice (some ⟨g, off, none⟩) (n - a) (c - a)) W) ∧
  (∀ W : World, (Instr.sliceAt 37 (.slice (some ⟨g, 0, none⟩) n c) (some (.int .i64 (a : Int))) none none).run Tryz.prog W = .ok (.slice (some ⟨g, off, none⟩) (n - a) (c - a)) W) ∧
  w.rangeAt g off ((zs.drop a).flatMap PairV.cells) := by
 have hel : Tryz.prog.elem 37 = 59 := by kernel_rfl
 have hu : Tryz.prog.underlying 37 = some (.slice (Tryz.prog.elem 37)) := by rw [hel]; exact Tryz.underlying37
 have hsz : (Tryz.prog.info? 59).map (·.size) = some 3 := isPr
 have h1 : ∀ W : World, (Instr.slice 37 (.slice (some ⟨g, 0, none⟩) n c) (some (.int .i64 (a : Int))) none none).run Tryz.prog W = .ok (.slice (some ⟨g, if c = a then 0 else a * 3, none⟩) (n - a) (c - a)) W := fun W => by
  have := run_slice_l (P := Tryz.prog) W 37 (some ⟨g, 0, none⟩) n c hu .i64 a (by omega) (by omega)
  rw [hel, run_size hsz W] at this
  rw [this]
  by_cases h9 : c = a
  ·simp [Result.andThen, sliced, h9]
  ·simp [Result.andThen, sliced, h9, Addr.add_mid]
 refine ⟨_, h1, fun W => by rw [run_sliceAt_slice W _ _ _ _ _ hu]; exact h1 W, ?_⟩
 by_cases h9 : c = a
 ·have hn : n = a := by have := h.cap; omega
  have e : zs.drop a = [] := List.drop_of_length_le (by rw [h.len, hn]; exact Nat.le_refl _)
  rw [e]
  intro j v hv
  simp at hv
 ·rw [if_neg h9]
  refine range_flat fun i z hz => ?_
  have := h.at_ (i := a + i) (by rw [← hz, List.getElem?_drop])
  rwa [show (a + i) * 3 = a * 3 + i * 3 by omega] at this
theorem RRow.upto {w0 w : World} {g n c : Nat} {zs : List PairV} (h : RRow w0 w g n c zs) (a : Nat) (ha : a ≤ n) :
  (∀ W : World, (Instr.slice 37 (.slice (some ⟨g, 0, none⟩) n c) none (some (.int .i64 (a : Int))) (some (.int .i64 (a : Int)))).run Tryz.prog W = .ok (.slice (some ⟨g, 0, none⟩) a a) W) ∧
  (∀ W : World, (Instr.sliceAt 37 (.slice (some ⟨g, 0, none⟩) n c) none (some (.int .i64 (a : Int))) (some (.int .i64 (a : Int)))).run Tryz.prog W = .ok (.slice (some ⟨g, 0, none⟩) a a) W) ∧
  w.rangeAt g 0 ((zs.take a).flatMap PairV.cells) := by
 have hel : Tryz.prog.elem 37 = 59 := by kernel_rfl
 have hu : Tryz.prog.underlying 37 = some (.slice (Tryz.prog.elem 37)) := by rw [hel]; exact Tryz.underlying37
 have hsz : (Tryz.prog.info? 59).map (·.size) = some 3 := isPr
 have hc := h.cap
 have h1 : ∀ W : World, (Instr.slice 37 (.slice (some ⟨g, 0, none⟩) n c) none (some (.int .i64 (a : Int))) (some (.int .i64 (a : Int)))).run Tryz.prog W = .ok (.slice (some ⟨g, 0, none⟩) a a) W := fun W => by
  have := run_slice_hm (P := Tryz.prog) W 37 (some ⟨g, 0, none⟩) n c hu .i64 .i64 a a (by omega) (by omega) (by omega)
  rw [hel, run_size hsz W] at this
  rw [this]
  by_cases h9 : a = 0
  ·simp [Result.andThen, sliced, h9]
  ·simp [Result.andThen, sliced, h9, Addr.add_mid]
 refine ⟨h1, fun W => by rw [run_sliceAt_slice W _ _ _ _ _ hu]; exact h1 W, range_flat fun i z hz => ?_⟩
 rw [List.getElem?_take] at hz
 split at hz
 ·have := h.at_ hz; rwa [Nat.zero_add]
 ·cases hz
theorem ins_at {Z : List PairD} {c : PairD} {a : Nat} (h1 : ∀ p ∈ Z.take a, lex p.key c.key < 0) (ha : a ≤ Z.length) (h2 : a = Z.length ∨ ∃ p, Z[a]? = some p ∧ ¬ lex p.key c.key < 0) : insD Z c = Z.take a ++ c :: Z.drop a := by
 have hl : (Z.take a).length = a := by rw [List.length_take]; omega
 have e : Z.takeWhile (fun p => decide (lex p.key c.key < 0)) = Z.take a ∧ Z.dropWhile (fun p => decide (lex p.key c.key < 0)) = Z.drop a := by
  have hd : (Z.drop a).takeWhile (fun p => decide (lex p.key c.key < 0)) = [] ∧ (Z.drop a).dropWhile (fun p => decide (lex p.key c.key < 0)) = Z.drop a := by
   rcases h2 with h2 | ⟨p, hp, hn⟩
   ·rw [List.drop_of_length_le (by omega)]; exact ⟨rfl, rfl⟩
   ·obtain ⟨hlt, he⟩ := List.getElem?_eq_some_iff.1 hp
    rw [List.drop_eq_getElem_cons hlt, he]
    simp [hn]
  have h3 : ∀ p ∈ Z.take a, (fun p : PairD => decide (lex p.key c.key < 0)) p = true := fun p hp => by simpa using h1 p hp
  constructor
  ·conv => lhs; rw [← List.take_append_drop a Z]
   rw [List.takeWhile_append_of_pos h3, hd.1, List.append_nil]
  ·conv => lhs; rw [← List.take_append_drop a Z]
   rw [List.dropWhile_append_of_pos h3, hd.2]
 rw [insD, e.1, e.2]
theorem kept_step {L C : List PairD} {j : Nat} {x : PairD} (hx : L[j]? = some x) : keptD (L.take (j + 1)) C = keptD (L.take j) C ++ (if (C.all fun c => decide (c.key ≠ x.key)) = true then [x] else []) := by
 rw [List.take_add_one, hx, keptD, List.filter_append]
 congr 1
 simp only [Option.toList_some, List.filter_cons, List.filter_nil]
theorem fold_step {C : List PairD} {j : Nat} {c : PairD} (out : List PairD) (hc : C[j]? = some c) : (C.take (j + 1)).foldl addD out = addD ((C.take j).foldl addD out) c := by
 rw [List.take_add_one, hc, List.foldl_append]; rfl
section
theorem step_full {w : World} {ops : Array Oper} {o : Oper} {a : Act} {K : Act → World → Prop} {Q : Exit → Act → World → Prop} {E : Prop} (hgd : o.guard = none) (d : Nat) (hd : o.dst = some d) (s x : Operand)
  (ho : o.op = .call { callee := .builtin .append, args := #[s, x], argTypes := #[37, 37] })
  (g n : Nat) (olds : List Value) (hs : a.eval s = .slice (some ⟨g, 0, none⟩) n n) (hl : olds.length = n * 3) (hold : w.rangeAt g 0 olds)
  (b c : Nat) (p : PairV) (hx : a.eval x = .slice (some ⟨b, 0, none⟩) 1 c) (hnew : w.rangeAt b 0 p.cells) (hn : n ≤ 1000000000000)
  (hK : ∀ g' c' w', w'.ownsRow w.heap.size 59 3 (.slice (some ⟨g', 0, none⟩) (n + 1) c') (n + 1) (olds ++ p.cells) → n + 1 ≤ c' → Below w.heap.size w w' → K (a.put (some d) (.slice (some ⟨g', 0, none⟩) (n + 1) c')) w') :
  if Region.wanted o (yielded ops a.tmps) = true then Oper.wp Tryz.prog o a w K Q else E := by
 have hw : Region.wanted o (yielded ops a.tmps) = true := by simp [Region.wanted, hgd]
 rw [if_pos hw]
 rw [← hd] at hK
 have hi := pr_infoR
 obtain ⟨i, z, hi1, hz, hsz, hbb, hzs⟩ : ∃ i z, Tryz.prog.info? 59 = some i ∧ i.zero = some z ∧ i.size = 3 ∧ i.bytes = 56 ∧ z.cells.size = 3 := by
  cases hq : Tryz.prog.info? 59 with
  | none => simp [hq] at hi
  | some i =>
   cases hz : i.zero with
   | none => simp [hq, hz] at hi
   | some z =>
    simp [hq, hz] at hi
    exact ⟨i, z, rfl, hz, hi.1, hi.2.1, hi.2.2⟩
 obtain ⟨v', w', hrun, o1, g1⟩ := run_append_arg_grows (P := Tryz.prog) w 37 o.type 59 i z 3 56 Tryz.underlying37 hi1 hz hsz hbb hzs (by decide) ⟨g, 0, none⟩ n n olds hl (fun j u hu => by rw [Addr.add_mid]; exact hold j u hu) ⟨b, 0, none⟩ 1 c p.cells rfl (fun j u hu => by rw [Addr.add_mid]; exact hnew j u hu) (by omega) (by simp only [maxLen]; omega) (by omega)
 obtain ⟨g', c', rfl, hc⟩ : ∃ g' c', v' = .slice (some ⟨g', 0, none⟩) (n + 1) c' ∧ n + 1 ≤ c' := by
  rcases o1.2 with ⟨_, h0⟩ | ⟨g9, cap, cur, rfl, _, _, hnc, _⟩
  ·omega
  ·exact ⟨g9, cap, rfl, hnc⟩
 unfold Oper.wp execOp
 simp only [ho, resolve, invoke, builtin, Sem.run_bind, Sem.run_pure, Result.andThen_ok, List.map_toArray, List.map_cons, List.map_nil, hs, hx, hrun]
 refine hK g' c' w' o1 hc ((Only.refl (fun _ => False) w).grown g1 (fun g hg => by cases hg) |>.below (Nat.le_refl _) fun _ _ h => h)
end
end
end Go.Proofs.YtjnpkcabkccaoaaGreat
