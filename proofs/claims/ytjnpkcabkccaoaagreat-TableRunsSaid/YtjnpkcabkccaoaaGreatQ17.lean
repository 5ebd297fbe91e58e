/- Lemmas and walks for TableRuns, packed. -/
import Derived.Test.YtjnpkcabkccaoaaGreatQ13
import Derived.Test.YtjnpkcabkccaoaaGreatQ15
import Derived.Test.YtjnpkcabkccaoaaGreatQ16
import Derived.Lib.SmallJoins
set_option maxRecDepth 100000
set_option maxHeartbeats 16000000
namespace Go.Proofs.YtjnpkcabkccaoaaGreat
open Go.RowKit
section
theorem results_tmp_cell_blk {P : Program} {fn : Func} {p u : Tmp} {ty : TypeId} (h : fn.results = #[.tmp u, .cell p ty]) (tmps : Array Value) (w : World) (g : Nat) (t : TypeId) (cs : List Value) (d : TypeDesc)
  (hp : tmps.getD p undef = .pointer (some ⟨g, 0, none⟩)) (hb : Blk w g t cs) (hu : P.underlying ty = some d) (hd : d.isRow = true) (hi : (P.info? ty).map (·.size) = some cs.length) :
  (results fn tmps).run P w = .ok (.tuple #[tmps.getD u undef, .agg cs.toArray]) w := by
 have hp' : tmps[p]?.getD undef = .pointer (some ⟨g, 0, none⟩) := by simpa using hp
 simp [results, h, hp', asAddr, run_loadVar_mid w g 0 ty cs d hb.whole hu hd hi]
theorem results_tmp_cell_tmp_blk {P : Program} {fn : Func} {p u v : Tmp} {ty : TypeId} (h : fn.results = #[.tmp u, .cell p ty, .tmp v]) (tmps : Array Value) (w : World) (g : Nat) (t : TypeId) (cs : List Value) (d : TypeDesc)
  (hp : tmps.getD p undef = .pointer (some ⟨g, 0, none⟩)) (hb : Blk w g t cs) (hu : P.underlying ty = some d) (hd : d.isRow = true) (hi : (P.info? ty).map (·.size) = some cs.length) :
  (results fn tmps).run P w = .ok (.tuple #[tmps.getD u undef, .agg cs.toArray, tmps.getD v undef]) w := by
 have hp' : tmps[p]?.getD undef = .pointer (some ⟨g, 0, none⟩) := by simpa using hp
 simp [results, h, hp', asAddr, run_loadVar_mid w g 0 ty cs d hb.whole hu hd hi]
theorem step_allocA {P : Program} {ops : Array Oper} {o : Oper} {a : Act} {w : World} {K : Act → World → Prop} {Q : Exit → Act → World → Prop} {E : Prop} (hgd : o.guard = none) (d : Nat) (hd : o.dst = some d) (t : TypeId) (ho : o.op = .alloc t) (z : List Value)
  (hz : (P.info? t).map (·.zero) = some (some (.agg z.toArray))) (h : K (a.put (some d) (.pointer (some ⟨w.heap.size, 0, none⟩))) (w.alloc (.cells z.toArray t))) :
  if Region.wanted o (yielded ops a.tmps) = true then Oper.wp P o a w K Q else E := by
 have hw : Region.wanted o (yielded ops a.tmps) = true := by simp [Region.wanted, hgd]
 rw [if_pos hw]
 rw [← hd] at h
 exact wp_alloc_agg t ho z hz h
theorem step_storeB {P : Program} {ops : Array Oper} {op : Oper} {a : Act} {w : World} {K : Act → World → Prop} {Q : Exit → Act → World → Prop} {E : Prop} (hgd : op.guard = none) (ty : TypeId) (x y : Operand) (ho : op.op = .store ty x y)
  (g o : Nat) (t : TypeId) (cs vs : List Value) (hx : a.eval x = .pointer (some ⟨g, o, none⟩)) (hy : a.eval y = .agg vs.toArray) (hb : Blk w g t cs) (hl : o + vs.length ≤ cs.length)
  (hi : (P.info? ty).map (·.size) = some vs.length) (h1 : ∀ v ∈ vs, v.oneCell' = true)
  (h : ∀ w', Only (fun i => i = g) w w' → w'.heap.size = w.heap.size → Blk w' g t (lay cs o vs) → K (a.put op.dst undef) w') :
  if Region.wanted op (yielded ops a.tmps) = true then Oper.wp P op a w K Q else E := by
 have hw : Region.wanted op (yielded ops a.tmps) = true := by simp [Region.wanted, hgd]
 rw [if_pos hw]
 refine wp_store_mid ty x y ho g o vs.toArray hx hy (by simpa using hb.there o vs.length hl) (by simpa using hi) (all_oneCell_toArray h1) ?_
 exact h _ (Only.setCells (F := fun i => i = g) (.inr rfl) _ _ _ (Only.refl _ w)) (by rw [setCells_size]) (by simpa using hb.cells vs o w cs)
theorem Byss.two (w w1 : World) (e : TypeId) (A B : Option Addr) (n m c d : Nat) (x y : List Int) (hx : Bys w A n x) (hy : Bys w B m y) (hc : n ≤ c) (hd : m ≤ d) (hb : Below w.heap.size w w1) : Byss (w1.alloc (.cells #[.slice A n c, .slice B m d] e)) (some ⟨w1.heap.size, 0, none⟩) 2 [x, y] := by
 have hb2 : Below w.heap.size w (w1.alloc (.cells #[.slice A n c, .slice B m d] e)) := below_alloc hb _
 have hB := Blk.new w1 e [.slice A n c, .slice B m d]
 refine ⟨rfl, fun _ => ⟨w1.heap.size, 0, rfl, fun j xs hj => ?_⟩⟩
 match j, hj with
 | 0, hj => injection hj with hj; subst hj; exact ⟨A, n, c, hB.c0, hx.below hb2, hc⟩
 | 1, hj => injection hj with hj; subst hj; exact ⟨B, m, d, hB.c1, hy.below hb2, hd⟩
 | j + 2, hj => simp at hj
theorem Blk.bys {w : World} {g : Nat} {t : TypeId} {bs : List Int} (h : Blk w g t (bcs bs)) (hb : Byt bs) (o n : Nat) (hn : o + n ≤ bs.length) : Bys w (some ⟨g, o, none⟩) n ((bs.drop o).take n) := by
 refine ⟨by rw [List.length_take, List.length_drop]; omega, fun x hx => hb x (List.mem_of_mem_drop (List.mem_of_mem_take hx)), fun _ => ⟨g, o, rfl, fun j v hv => ?_⟩⟩
 have hj : j < n := by
  have := (List.getElem?_eq_some_iff.1 hv).1
  rw [List.length_take, List.length_drop] at this
  omega
 rw [List.getElem?_take, if_pos hj, List.getElem?_drop] at hv
 rw [h.cell, bcs, List.getElem?_map, hv]; rfl
theorem fixed_all (b : List Int) (k : Nat) (hk : b.length = k) (h0 : 1 ≤ k) (h8 : k ≤ 8) : Rd.fixed ⟨b, 0⟩ (k : Int) = (num b, ⟨[], 0⟩) := by
 have hw : Rd.within (k : Int) = (k : Int) := by unfold Rd.within; omega
 unfold Rd.fixed
 rw [hw]
 unfold Rd.raw
 rw [if_neg (by simp; omega), if_neg (by simp [hk])]
 simp only [Int.toNat_natCast]
 rw [List.take_of_length_le (by omega), List.drop_of_length_le (by omega)]
theorem marked_any (w : World) (s : Slb) (hl : s.length = 128) (hb : Byt s) :
  Calls Tryz.prog 83 #[.agg (enc s).toArray] w fun e w' => e = .returned (.int .u64 (marked s : Int)) ∧ Below w.heap.size w w' := by
 have B1 := hide (show Below w.heap.size w (w.alloc (.cells (enc s).toArray 94)) from below_alloc (Below.refl _ _) _)
 have K1 := hide (show Blk (w.alloc (.cells (enc s).toArray 94)) w.heap.size 94 (bcs s) from Blk.new w 94 (bcs s))
 have HY := hide (K1.out.bys hb 120 8 (by omega))
 have HF := hide (fixed_all (s.drop 120) 8 (by rw [List.length_drop, hl]) (by decide) (by decide))
 have HD := hide (show (s.drop 120).take 8 = s.drop 120 from List.take_of_length_le (by rw [List.length_drop, hl]; decide))
 have hll := hide (show (enc s).length = 128 by rw [enc_length, hl])
 clear hl hb
 go_enter Tryz.func83, Tryz.ntmps83
 go_wp2_with fail
 refine (New_any _ _ _ _ _ HY.out (by decide)).mono ?_
 rintro e w2 ⟨g, h, rfl, r2, hg, hh, b2⟩
 rw [HD.out] at r2
 have R2 := hide r2
 have B2 := hide (Below.then_ B1.out b2)
 have HG := hide (show w.heap.size ≤ g by simp at hg; omega)
 clear r2 hg hh b2
 go_wp2_with fail
 refine (RFixed_any w2 g h _ 8 R2.out).mono ?_
 rintro e w3 ⟨rfl, r3, o3⟩
 rw [show Rd.fixed ⟨s.drop 120, 0⟩ 8 = (num (s.drop 120), ⟨[], 0⟩) from HF.out]
 have B3 := hide (o3.under B2.out fun i hi => by have h9 : i = g := hi; have := HG.out; omega)
 clear r3 o3
 go_wp2_with fail
 go_ret
 exact ⟨rfl, B3.out⟩
def loadH (a : Addr) : Sem Value := loadVar 104 a
theorem loadH_fold (a : Addr) : loadVar 104 a = loadH a := rfl
theorem isH32 : (Tryz.prog.info? 104).map (·.size) = some 32 := by kernel_rfl
theorem loadH_run (w : World) (b o : Nat) (bs : List Int) (h : w.rangeAt b o (bcs bs)) (hl : bs.length = 32) : (loadH ⟨b, o, none⟩).run Tryz.prog w = .ok (.agg (bcs bs).toArray) w :=
 run_loadVar_mid w b o _ (bcs bs) _ h Tryz.underlying104 rfl (by rw [isH32, bcs_length, hl])
attribute [local go_sem ↓] loadH_fold
theorem wpList_app4 {w : World} {ops : Array Oper} {rest : List Oper} {o : Oper} {a : Act} {Q : Exit → Act → World → Prop} (hgd : o.guard = none) (s x : Operand)
  (ho : o.op = .call { callee := .builtin .append, args := #[s, x], argTypes := #[23, 23] })
  (w0 wo : World) (A : Option Addr) (n c : Nat) (bs : List Int) (hs : a.eval s = .slice A n c) (h : Mine 5 w0 wo A n c bs) (hbo : Below wo.heap.size wo w) (B : Option Addr) (m c' : Nat) (cs : List Int) (hx : a.eval x = .slice B m c') (hB : Bys w B m cs) (hlen : n + m ≤ 140737488355328)
  (hK : ∀ A' n' c' w', Mine 5 w0 w' A' n' c' (bs ++ cs) → Only (fun i => w0.heap.size ≤ i ∧ i < wo.heap.size) w w' → (0 < m → Fr w0 A') → wpList Tryz.prog ops Q rest (a.put o.dst (.slice A' n' c')) w') : wpList Tryz.prog ops Q (o :: rest) a w := by
 obtain ⟨i, z, hi, hz, hs1, hby, hzs⟩ := u8_info
 obtain ⟨h0, rfl, G, h1, h2⟩ := h
 have hlt := h1.lt
 refine wpList_append_tail hgd s x 23 ho 5 i z Tryz.underlying23 hi hz hs1 hby hzs _ bs G hs (h1.below hbo) B m c' cs hx hB hlen fun A' c2 G' w' t' o' g' k' => ?_
 have hb : Below w0.heap.size w0 w := Below.then_ h0 hbo
 have hG : ∀ i, G' i → w0.heap.size ≤ i := fun i hi => by
  rcases g' i hi with h | h
  ·exact h2 i h
  ·exact Nat.le_trans hb.size h
 exact hK A' _ c2 w' ⟨hb.trans (o'.below hb.size (fun i hi hg => by have := h2 i hg; omega)), by rw [List.length_append, hB.1], G', t', hG⟩ (o'.mono (fun i _ hg => ⟨h2 i hg, hlt i hg⟩)) (fun hm => by
  rcases k' with ⟨hm0, _⟩ | hk
  ·omega
  ·intro ad e1
   subst e1
   exact hG _ (hk ad.block rfl))
theorem step_app3 {w : World} {ops : Array Oper} {o : Oper} {a : Act} {K : Act → World → Prop} {Q : Exit → Act → World → Prop} {E : Prop} (hgd : o.guard = none) (d : Nat) (hd : o.dst = some d) (s x : Operand)
  (ho : o.op = .call { callee := .builtin .append, args := #[s, x], argTypes := #[23, 23] })
  (w0 wo : World) (A : Option Addr) (n c : Nat) (bs : List Int) (hs : a.eval s = .slice A n c) (h : Mine 5 w0 wo A n c bs) (hbo : Below wo.heap.size wo w) (B : Option Addr) (m c' : Nat) (cs : List Int) (hx : a.eval x = .slice B m c') (hB : Bys w B m cs) (hlen : n + m ≤ 140737488355328)
  (hK : ∀ A' n' c' w', Mine 5 w0 w' A' n' c' (bs ++ cs) → Only (fun i => w0.heap.size ≤ i ∧ i < wo.heap.size) w w' → (0 < m → Fr w0 A') → K (a.put (some d) (.slice A' n' c')) w') :
  if Region.wanted o (yielded ops a.tmps) = true then Oper.wp Tryz.prog o a w K Q else E := by
 rw [← hd] at hK
 obtain ⟨i, z, hi, hz, hs1, hby, hzs⟩ := u8_info
 obtain ⟨h0, rfl, G, h1, h2⟩ := h
 have hlt := h1.lt
 refine step_append_tail hgd s x 23 ho 5 i z Tryz.underlying23 hi hz hs1 hby hzs _ bs G hs (h1.below hbo) B m c' cs hx hB hlen fun A' c2 G' w' t' o' g' k' => ?_
 have hb : Below w0.heap.size w0 w := Below.then_ h0 hbo
 have hG : ∀ i, G' i → w0.heap.size ≤ i := fun i hi => by
  rcases g' i hi with h | h
  ·exact h2 i h
  ·exact Nat.le_trans hb.size h
 exact hK A' _ c2 w' ⟨hb.trans (o'.below hb.size (fun i hi hg => by have := h2 i hg; omega)), by rw [List.length_append, hB.1], G', t', hG⟩ (o'.mono (fun i _ hg => ⟨h2 i hg, hlt i hg⟩)) (fun hm => by
  rcases k' with ⟨hm0, _⟩ | hk
  ·omega
  ·intro ad e1
   subst e1
   exact hG _ (hk ad.block rfl))
theorem Mine.turn {e : TypeId} {w0 w1 w w' : World} {A : Option Addr} {n c : Nat} {bs : List Int} {F : Nat → Prop} (h : Mine e w1 w A n c bs) (hf : Fr w1 A) (hb : Below w0.heap.size w0 w1) (ho : Only F w w') (hF : ∀ i, F i → w0.heap.size ≤ i ∧ i < w1.heap.size) : Mine e w0 w' A n c bs := by
 obtain ⟨h0, hn, G, h1, h2⟩ := h
 have hb2 := Below.then_ hb h0
 refine ⟨hb2.trans (ho.below hb2.size fun i hi hf => by have := (hF i hf).1; omega), hn, G, h1.keep ho (fun A' c' e _ ad hA hf9 => ?_) (fun i hg hf => by have := (hF i hf).2; have := h2 i hg; omega), fun i hi => Nat.le_trans hb.size (h2 i hi)⟩
 injection e with e1 _ _
 have h8 := hf ad (e1.trans hA)
 have h7 := (hF _ hf9).2
 omega
def TwoPost (w : World) (bs H : List Int) (e : Ending) (w' : World) : Prop :=
 ∃ A n c, e = .returned (.tuple #[.slice A n c, .agg (bcs H).toArray]) ∧ Mine 5 w w' A n c bs ∧ Fr w A
theorem sealed_any (w : World) (gen : Nat) (hg : gen < 18446744073709551616) :
  Calls Tryz.prog 49 #[.int .u64 (gen : Int)] w (TwoPost w (sealedB gen) (sealB gen)) := by
 have hIH : (Tryz.prog.info? 104).map (·.size) = some 32 := by kernel_rfl
 have HIH := hide hIH
 obtain ⟨w1, hw1⟩ : ∃ z, z = w.alloc (.cells (bcs zero32).toArray 104) := ⟨_, rfl⟩
 have B1 := hide (show Below w.heap.size w w1 by rw [hw1]; exact below_alloc (Below.refl _ _) _)
 have K1 := hide (show Blk w1 w.heap.size 104 (bcs zero32) by rw [hw1]; exact Blk.new w _ _)
 have HSZ := hide (show w1.heap.size = w.heap.size + 1 by rw [hw1]; simp)
 have g0 : (0 : Int) ≤ (gen : Int) := by omega
 have g1 := hide (show (gen : Int) < 18446744073709551616 by omega)
 clear hg hIH
 go_enter Tryz.func49, Tryz.ntmps49
 have hcv := Joins.run_convert_bytes_const_at (P := Tryz.prog) (w.alloc (.cells (bcs zero32).toArray 104)) 23 5 #[.int .u8 66, .int .u8 89, .int .u8 78, .int .u8 65, .int .u8 77, .int .u8 69, .int .u8 48, .int .u8 49] 8 8 (w.heap.size + 1) (by simp) Tryz.underlying23 Tryz.underlying5
 go_wp2_with (refine wpList_alloc_agg rfl 104 rfl (bcs zero32) zero32_info ?_; simp only [pU])
 rw [← hw1]
 obtain ⟨w2, hw2⟩ : ∃ z, z = w1.alloc (.cells #[.int .u8 66, .int .u8 89, .int .u8 78, .int .u8 65, .int .u8 77, .int .u8 69, .int .u8 48, .int .u8 49] 5 (8, 9)) := ⟨_, rfl⟩
 have B2 := hide (show Below w1.heap.size w1 w2 by rw [hw2]; exact below_alloc (Below.refl _ _) _)
 have Y2 := hide (show Bys w2 (some ⟨w.heap.size + 1, 0, none⟩) 8 magicB from ⟨rfl, magicB_byt, fun _ => ⟨w.heap.size + 1, 0, rfl, fun j v hv => by
  rw [hw2, Nat.zero_add, Joins.cell_alloc_mark_at _ _ _ _ _ _ HSZ.out.symm]
  show ((bcs magicB).toArray)[j]? = _
  rw [List.getElem?_toArray, bcs, List.getElem?_map, hv]; rfl⟩⟩)
 rw [← hw2]
 clear hw1 hw2 hcv
 refine (Fixed_any w1 w2 _ 8 8 magicB gen 8 B2.out Y2.out g0 g1.out (by decide)).mono ?_
 rintro e w3 h3
 obtain ⟨A3, n3, c3, rfl, m3, f3⟩ := h3.fresh
 have M3 := hide (show Mine 5 w1 w3 A3 n3 c3 (headB16 gen) from m3)
 have N3 := hide (show n3 = 16 by rw [← M3.out.len, headB16_len])
 have HBY := hide (Byss.one w3 w3 23 A3 n3 c3 (headB16 gen) M3.out.bys M3.out.cap (Below.refl _ _))
 have B34 := hide (below_alloc (Below.refl _ w3) (.cells #[.slice A3 n3 c3] 23))
 clear h3 m3 f3
 go_wp2_with fail
 refine (DSum_any _ _ 1 1 [headB16 gen] HBY.out (by simp) (by simp [headB16_len]) (by decide)).mono ?_
 rintro e w5 ⟨rfl, b5⟩
 rw [show [headB16 gen].flatten = headB16 gen by simp]
 obtain ⟨S, hS⟩ : ∃ S, S = sealB gen := ⟨_, rfl⟩
 rw [show sha (headB16 gen) = S from hS.symm]
 have HSL := hide (show S.length = 32 by rw [hS]; exact sha_len _)
 have HSB := hide (show Byt S by rw [hS]; exact sha_byt _)
 have HSE := hide hS
 have B35 := hide (Below.then_ B34.out b5)
 have K5 := hide (Blk.new w5 104 (bcs zero32))
 clear hS b5 HBY
 go_wp2_with (first
  | (refine wpList_alloc_agg rfl 104 rfl (bcs zero32) zero32_info ?_; simp only [pU])
  | (refine wpList_store_blk rfl 104 _ _ rfl w5.heap.size 0 104 (bcs zero32) (bcs S) (by rfl) (by rfl) K5.out (by rw [bcs_length, bcs_length, HSL.out]; decide) (by rw [bcs_length, HSL.out]; exact isH32) (bcs_one _) ?_; intro w6 o9 z9 b9; rw [lay_all _ _ (by rw [bcs_length, bcs_length, HSL.out]; rfl)] at b9; simp only [Act.put]; have KI := hide b9; have B36 := hide (Below.then_ B35.out (Below.trans ((Below.refl _ w5).alloc (Nat.le_refl _) _) (o9.below (by simp) (fun i hi e => by have h9 : i = w5.heap.size := e; omega)))); clear b9 o9 z9))
 refine wp_region_held_drew (S := fun w' => w'.rangeAt w5.heap.size 0 (bcs S)) (by kernel_rfl) (range_under KI.out.whole (Below.refl _ w6).drew) (fun hSA0 => ?_)
 obtain ⟨w6d, hwA⟩ : ∃ x, x = w6.drew := ⟨_, rfl⟩
 have Bd := hide (show Below w6.heap.size w6 w6d by rw [hwA]; exact (Below.refl _ w6).drew)
 rw [← hwA] at hSA0 ⊢
 clear hwA
 refine tq 0 rfl hSA0 ?_
 refine tq 1 rfl hSA0 ?_
 (refine tq 3 rfl hSA0 ?_ (fun w' hSw => by have z1 := loadH_run w' w5.heap.size 0 S hSw HSL.out; go_simp; try with_reducible rfl))
 refine ry 2 rfl fun K hK => ?_
 refine step_app3 rfl 15 rfl _ _ rfl w1 w3 A3 n3 c3 (headB16 gen) (by rfl) M3.out (Below.then_ B36.out Bd.out) (some ⟨w5.heap.size, 0, none⟩) 32 32 S (by rfl) (by have h9 := (KI.out.under Bd.out).bys HSB.out 0 32 (by rw [HSL.out]; decide); rwa [List.drop_zero, List.take_of_length_le (by rw [HSL.out]; decide)] at h9) (by have := N3.out; omega) ?_
 intro A9 n9 c9 w9 m9 o9 f9
 have hr9 := range_only hSA0 o9 (fun h => by have := B35.out.size; omega)
 have M9 := hide m9
 have F9 := hide (f9 (by decide))
 clear m9 o9 f9
 simp only [pU]
 refine hK.out _ _ (hr9) (fun hSA1 => ?_)
 clear hK K
 refine tq 4 rfl hSA1 ?_
 refine ry 5 rfl fun K hK => ?_
 refine step_storeB rfl 104 _ _ rfl w.heap.size 0 104 (bcs zero32) (bcs S) (by rfl) (by rfl) (K1.out.under M9.out.below) (by rw [bcs_length, bcs_length, HSL.out]; decide) (by rw [bcs_length, HSL.out]; exact isH32) (bcs_one _) ?_
 intro wz oz zz bz
 rw [lay_all _ _ (by rw [bcs_length, bcs_length, HSL.out]; rfl)] at bz
 have hrz := range_only hSA1 oz (fun h => by have h9 : w5.heap.size = w.heap.size := h; have := K1.out.lt; have := B35.out.size; have := M3.out.below.size; omega)
 simp only [Act.put]
 refine hK.out _ _ (hrz) (fun hSA2 => ?_)
 clear hK K
 refine wpAnyH_done (by kernel_rfl) ?_ _
 have OZ := hide oz
 have BZ := hide bz
 clear hr9 hrz zz oz bz hSA0 hSA1 hSA2 g0 g1
 go_wp2_with fail
 obtain ⟨D, hD⟩ : ∃ D, D = sealedB gen := ⟨_, rfl⟩
 rw [← hD, ← HSE.out]
 have hm := M9.out.turn F9.out B1.out OZ.out (fun i hi => by have h9 : i = w.heap.size := hi; have := HSZ.out; omega)
 rw [show headB16 gen ++ S = D by rw [HSE.out, hD]; rfl] at hm
 refine bodyPost_ret (results_tmp_cell_blk rfl _ _ w.heap.size 104 _ _ (by rfl) BZ.out Tryz.underlying104 rfl (by rw [bcs_length, HSL.out]; exact isH32)) rfl ⟨A9, n9, c9, rfl, hm, F9.out.older B1.out⟩
theorem bound_any (w : World) (kind : Int) (hk : 0 ≤ kind ∧ kind ≤ 255) (A : Option Addr) (n c : Nat) (body ahead : List Int) (hB : Bys w A n body) (hn : n ≤ 100000) (hl : ahead.length = 32) (hab : Byt ahead) :
  Calls Tryz.prog 50 #[.int .u8 kind, .slice A n c, .agg (bcs ahead).toArray] w (TwoPost w (boundB kind body ahead) (sha (ahead ++ recB kind body))) := by
 obtain ⟨w1, hw1⟩ : ∃ z, z = (w.alloc (.cells (bcs ahead).toArray 104)).alloc (.cells (bcs zero32).toArray 104) := ⟨_, rfl⟩
 have B1 := hide (show Below w.heap.size w w1 by rw [hw1]; exact below_alloc (below_alloc (Below.refl _ _) _) _)
 have KA := hide (show Blk w1 w.heap.size 104 (bcs ahead) by rw [hw1]; exact (Blk.new w _ _).alloc _)
 have K1 := hide (show Blk w1 (w.heap.size + 1) 104 (bcs zero32) by rw [hw1]; exact Blk.new1 w _ _ _)
 have HSZ := hide (show w1.heap.size = w.heap.size + 2 by rw [hw1]; simp)
 have HB := hide (hB.below B1.out)
 have HN := hide hn
 have HNL := hide hB.1
 have HL := hide hl
 have HAB := hide hab
 have k0 := hk.1
 have HK := hide hk
 have n0 : (0 : Int) ≤ (n : Int) := by omega
 have n9 : (n : Int) ≤ 100000 := by omega
 clear hB hn hl hab hk
 go_enter Tryz.func50, Tryz.ntmps50
 go_wp2_with (refine wpList_alloc_agg rfl 104 rfl (bcs zero32) zero32_info ?_; simp only [Act.put, List.setIfInBounds_toArray, List.set_cons_zero, List.set_cons_succ, World.size_alloc])
 rw [← hw1]
 clear hw1
 refine (Fixed_any w1 w1 none 0 0 [] (n : Int) 4 (Below.refl _ _) (Bys.nil _ _) n0 (by omega) (by decide)).mono ?_
 rintro e wf h3
 obtain ⟨Af, nf, cf, rfl, mf, _⟩ := h3.fresh
 have MF := hide (show Mine 5 w1 wf Af nf cf (dig body.length 4) by rw [HNL.out]; exact mf)
 have NF := hide (show nf = 4 by rw [← MF.out.len, dig_length])
 have K1a := hide (Bys.one wf 5 kind HK.out.1 HK.out.2)
 clear h3 mf
 go_wp2_with (at_builtin; first
  | (refine wpList_app4 rfl _ _ rfl w1 wf Af nf cf (dig body.length 4) (by rfl) MF.out (below_alloc (Below.refl _ wf) (.cells #[.int .u8 kind] 5)) (some ⟨wf.heap.size, 0, none⟩) 1 1 [kind] (by rfl) K1a.out (by have := NF.out; omega) ?_; intro A2 n2 c2 w2 m2 o2 _; have M2 := hide m2; have N2 := hide (show n2 = 5 by rw [← M2.out.len, List.length_append, dig_length]; rfl); clear m2 o2; simp only [pU])
  | (refine wpList_app4 rfl _ _ rfl w1 w2 A2 n2 c2 (dig body.length 4 ++ [kind]) (by rfl) M2.out (Below.refl _ w2) A n c body (by rfl) (HB.out.below M2.out.below) (by have := N2.out; have := HN.out; omega) ?_; intro A3 n3 c3 w3 m3 o3 _; have M3 := hide (show Mine 5 w1 w3 A3 n3 c3 (recB kind body) from m3); have N3 := hide (show n3 ≤ 100005 by rw [← M3.out.len, recB_len, HNL.out]; have := HN.out; omega); have KA3 := hide (KA.out.under M3.out.below); have HBY := hide (Byss.two w3 w3 23 (some ⟨w.heap.size, 0, none⟩) A3 32 n3 32 c3 ahead (recB kind body) (by have h9 := KA3.out.bys HAB.out 0 32 (by rw [HL.out]; decide); rwa [List.drop_zero, List.take_of_length_le (by rw [HL.out]; decide)] at h9) M3.out.bys (Nat.le_refl _) M3.out.cap (Below.refl _ _)); have B34 := hide (below_alloc (Below.refl _ w3) (.cells #[.slice (some ⟨w.heap.size, 0, none⟩) 32 32, .slice A3 n3 c3] 23)); clear m3 o3; simp only [pU]))
 refine (DSum_any _ _ 2 2 [ahead, recB kind body] HBY.out (by simp [HL.out]) (by simp [HL.out, recB_len, HNL.out]; have := HN.out; omega) (by decide)).mono ?_
 rintro e w5 ⟨rfl, b5⟩
 rw [show [ahead, recB kind body].flatten = ahead ++ recB kind body by simp]
 obtain ⟨S, hS⟩ : ∃ S, S = sha (ahead ++ recB kind body) := ⟨_, rfl⟩
 rw [← hS]
 have HSL := hide (show S.length = 32 by rw [hS]; exact sha_len _)
 have HSB := hide (show Byt S by rw [hS]; exact sha_byt _)
 have HSE := hide hS
 have B35 := hide (Below.then_ B34.out b5)
 have K5 := hide (Blk.new w5 104 (bcs zero32))
 clear hS b5 HBY
 go_wp2_with (first
  | (refine wpList_alloc_agg rfl 104 rfl (bcs zero32) zero32_info ?_; simp only [pU])
  | (refine wpList_store_blk rfl 104 _ _ rfl w5.heap.size 0 104 (bcs zero32) (bcs S) (by rfl) (by rfl) K5.out (by rw [bcs_length, bcs_length, HSL.out]; decide) (by rw [bcs_length, HSL.out]; exact isH32) (bcs_one _) ?_; intro w6 o9 z9 b9; rw [lay_all _ _ (by rw [bcs_length, bcs_length, HSL.out]; rfl)] at b9; simp only [Act.put]; have KI := hide b9; have B36 := hide (Below.then_ B35.out (Below.trans ((Below.refl _ w5).alloc (Nat.le_refl _) _) (o9.below (by simp) (fun i hi e => by have h9 : i = w5.heap.size := e; omega)))); clear b9 o9 z9))
 refine wp_region_held_drew (S := fun w' => w'.rangeAt w5.heap.size 0 (bcs S)) (by kernel_rfl) (range_under KI.out.whole (Below.refl _ w6).drew) (fun hSA0 => ?_)
 obtain ⟨w6d, hwA⟩ : ∃ x, x = w6.drew := ⟨_, rfl⟩
 have Bd := hide (show Below w6.heap.size w6 w6d by rw [hwA]; exact (Below.refl _ w6).drew)
 rw [← hwA] at hSA0 ⊢
 clear hwA
 refine tq 0 rfl hSA0 ?_
 refine tq 1 rfl hSA0 ?_
 (refine tq 3 rfl hSA0 ?_ (fun w' hSw => by have z1 := loadH_run w' w5.heap.size 0 S hSw HSL.out; go_simp; try with_reducible rfl))
 refine ry 2 rfl fun K hK => ?_
 refine step_app3 rfl 26 rfl _ _ rfl w1 w3 A3 n3 c3 (recB kind body) (by rfl) M3.out (Below.then_ B36.out Bd.out) (some ⟨w5.heap.size, 0, none⟩) 32 32 S (by rfl) (by have h9 := (KI.out.under Bd.out).bys HSB.out 0 32 (by rw [HSL.out]; decide); rwa [List.drop_zero, List.take_of_length_le (by rw [HSL.out]; decide)] at h9) (by have := N3.out; omega) ?_
 intro A9 n9 c9 w9 m9 o9 f9
 have hr9 := range_only hSA0 o9 (fun h => by have := B35.out.size; omega)
 have M9 := hide m9
 have F9 := hide (f9 (by decide))
 clear m9 o9 f9
 simp only [pU]
 refine hK.out _ _ (hr9) (fun hSA1 => ?_)
 clear hK K
 refine tq 4 rfl hSA1 ?_
 refine ry 5 rfl fun K hK => ?_
 refine step_storeB rfl 104 _ _ rfl (w.heap.size + 1) 0 104 (bcs zero32) (bcs S) (by rfl) (by rfl) (K1.out.under M9.out.below) (by rw [bcs_length, bcs_length, HSL.out]; decide) (by rw [bcs_length, HSL.out]; exact isH32) (bcs_one _) ?_
 intro wz oz zz bz
 rw [lay_all _ _ (by rw [bcs_length, bcs_length, HSL.out]; rfl)] at bz
 have hrz := range_only hSA1 oz (fun h => by have h9 : w5.heap.size = (w.heap.size + 1) := h; have := K1.out.lt; have := B35.out.size; have := M3.out.below.size; omega)
 simp only [Act.put]
 refine hK.out _ _ (hrz) (fun hSA2 => ?_)
 clear hK K
 refine wpAnyH_done (by kernel_rfl) ?_ _
 have OZ := hide oz
 have BZ := hide bz
 clear hr9 hrz zz oz bz hSA0 hSA1 hSA2
 go_wp2_with fail
 have oz := OZ.out
 have bz := BZ.out
 obtain ⟨D, hD⟩ : ∃ D, D = boundB kind body ahead := ⟨_, rfl⟩
 rw [← hD, ← HSE.out]
 have hm := M9.out.turn F9.out B1.out oz (fun i hi => by have h9 : i = w.heap.size + 1 := hi; have := HSZ.out; omega)
 rw [show recB kind body ++ S = D by rw [HSE.out, hD]; rfl] at hm
 clear hD
 refine bodyPost_ret (results_tmp_cell_blk rfl _ _ (w.heap.size + 1) 104 _ _ (by rfl) bz Tryz.underlying104 rfl (by rw [bcs_length, HSL.out]; exact isH32)) rfl ⟨A9, n9, c9, rfl, hm, F9.out.older B1.out⟩
end
end Go.Proofs.YtjnpkcabkccaoaaGreat
