import Derived.Test.YtbpmcnfmgaolnaaPk8
import Derived.Test.YtbpmcnfmgaolnaaPk7
import Derived.Test.YtbpmcnfmgaolnaaPk4
import Derived.Maps.OwnSet
import Derived.Maps.Views
import Derived.DeepKeys4
/-
  tx: Parse, Id.
-/
namespace Go.Proofs.Ytbpmcnfmgaolnaa
open Go.RowKit

def parseT (b : List Int) : TxD × Int :=
  if (Rd.tx ⟨b, 0⟩).2.err ≠ 0 then (zeroT, (Rd.tx ⟨b, 0⟩).2.err) else if 0 < (Rd.tx ⟨b, 0⟩).2.rest.length then (zeroT, 62) else ((Rd.tx ⟨b, 0⟩).1, 0)
theorem parseT_eq (b : List Int) (d : TxD) (r : Rd) (h : Rd.tx ⟨b, 0⟩ = (d, r)) : parseT b = if r.err ≠ 0 then (zeroT, r.err) else if 0 < r.rest.length then (zeroT, 62) else (d, 0) := by
  unfold parseT; rw [h]
theorem TxV.one (t : TxV) : ∀ v ∈ t.cells, v.oneCell' = true := by
  intro v hv
  simp only [TxV.cells, List.mem_cons, List.mem_nil_iff, or_false] at hv
  rcases hv with rfl | rfl | rfl | rfl <;> rfl
def zeroV : TxV := ⟨0, none, 0, 0, [], none, 0, 0, [], 0⟩
theorem zeroV_fine (w : World) : zeroV.Fine w := ⟨by decide, by decide, RowsIn.nil _ _ _ _ _, RowsIn.nil _ _ _ _ _, Nat.le_refl _, Nat.le_refl _⟩
theorem zeroV_small : zeroV.Small := ⟨by decide, by decide, by simp [zeroV], by simp [zeroV]⟩
theorem zeroTx_info : (Try.prog.info? 37).map (·.zero) = some (some (.agg zeroV.cells.toArray)) := by kernel_rfl
theorem isTx : (Try.prog.info? 37).map (·.size) = some 4 := by kernel_rfl
def mkTx (parts : Array (Nat × Value)) : Sem Value := Instr.build 37 parts
theorem mkTx_fold (parts : Array (Nat × Value)) : Instr.build 37 parts = mkTx parts := rfl
theorem mkTx_zero (w : World) : (mkTx #[]).run Try.prog w = .ok (.agg zeroV.cells.toArray) w := by kernel_rfl
def loadTx (a : Addr) : Sem Value := loadVar 37 a
theorem loadTx_fold (a : Addr) : loadVar 37 a = loadTx a := rfl
theorem loadTx_run (w : World) (b o : Nat) (t : TxV) (h : w.rangeAt b o t.cells) : (loadTx ⟨b, o, none⟩).run Try.prog w = .ok (.agg t.cells.toArray) w :=
  run_loadVar_mid w b o _ t.cells _ h Try.underlying37 rfl (by rw [isTx]; rfl)
attribute [local go_sem ↓] mkTx_fold loadTx_fold
attribute [local go_sem] mkTx_zero
theorem TxV.Fine.only {w w' : World} {t : TxV} (h : t.Fine w) {F : Nat → Prop} (ho : Only F w w') (hF : ∀ i, i < w.heap.size → ¬ F i) : t.Fine w' := h.below (ho.below (Nat.le_refl _) hF)
set_option maxHeartbeats 4000000 in
set_option maxRecDepth 100000 in
theorem TParse_any (w : World) (A : Option Addr) (n c : Nat) (bs : List Int) (hB : Bys w A n bs) (hn : n ≤ 1000000000) :
    Calls Try.prog 55 #[.slice A n c] w fun e w' => ∃ V : TxV, e = .returned (.tuple #[.agg V.cells.toArray, .int .i64 (parseT bs).2]) ∧ V.d = (parseT bs).1 ∧ V.Fine w' ∧ V.Small ∧ Below w.heap.size w w' := by
  have HB := hide hB
  have HN := hide hn
  have BZ := hide (Blk.new w 37 zeroV.cells)
  have b0 := hide (show Below w.heap.size w (w.alloc (.cells zeroV.cells.toArray 37)) from (Below.refl _ w).alloc (Nat.le_refl _) _)
  have HU := hide Try.underlying37
  have hI := isTx
  clear hB hn
  go_enter Try.func55, Try.ntmps55
  go_wp2_with (refine wpList_alloc_agg rfl 37 rfl zeroV.cells zeroTx_info ?_; simp only [Act.put, List.setIfInBounds_toArray, List.set_cons_zero, List.set_cons_succ])
  refine (New_any _ A n c bs (HB.out.below b0.out) HN.out).mono ?_
  rintro e w1 ⟨g, h, rfl, hR1, hg, hh, hb1⟩
  have hsz : (w.alloc (.cells zeroV.cells.toArray 37)).heap.size = w.heap.size + 1 := by simp
  rw [hsz] at hg hh
  have B1 := hide (BZ.out.under hb1)
  have hw1 := hide (Below.then_ b0.out hb1)
  have hgv := hide (show ¬ w.heap.size = g by omega)
  have hG := hide hg
  clear hsz hg hb1 BZ
  go_wp2_with fail
  refine (TRead_any w1 g h _ hR1).mono ?_
  rintro e w2 ⟨V, rfl, hd, hf, hs, hR2, o2⟩
  obtain ⟨d, r, hdr⟩ : ∃ d r, Rd.tx ⟨bs, 0⟩ = (d, r) := ⟨_, _, rfl⟩
  have HP := hide (parseT_eq bs d r hdr)
  rw [hdr] at hd hR2
  simp only at hd hR2
  have B2 := hide ((o2.blk B1.out hgv.out).alloc (.cells zeroV.cells.toArray 37))
  have T2 := hide (Blk.new w2 37 zeroV.cells)
  have hw2 := hide (show Below w.heap.size w (w2.alloc (.cells zeroV.cells.toArray 37)) from (hw1.out.trans (o2.below hw1.out.size (fun i hi e => by have h9 : i = g := e; have := hG.out; omega))).alloc (Nat.le_trans hw1.out.size o2.size) _)
  have hR2a := hide (hR2.below ((Below.refl _ w2).alloc (Nat.le_refl _) (.cells zeroV.cells.toArray 37)))
  have hwv := hide (show w.heap.size < w1.heap.size from B1.out.lt)
  have hgl := hide hR2.lt
  have hsz2 := hide (show w.heap.size < w2.heap.size from (o2.blk B1.out hgv.out).lt)
  have HF := hide hf
  clear hR1 hR2 o2 B1 hf hdr
  go_wp2_with (first
    | (refine wpList_alloc_agg rfl 37 rfl zeroV.cells zeroTx_info ?_; simp only [Act.put, List.setIfInBounds_toArray, List.set_cons_zero, List.set_cons_succ])
    | (refine wpList_store_blk rfl 37 _ _ rfl w2.heap.size 0 37 zeroV.cells V.cells (by rfl) (by rfl) T2.out (Nat.le_refl _) (by exact hI) (TxV.one V) ?_; intro w3 o3 z3 b3; simp only [Act.put]))
  rw [lay_all zeroV.cells V.cells (by rfl)] at b3
  have hR3 := hR2a.out.keep o3 (fun e => by have h9 : g = w2.heap.size := e; have := hgl.out.1; omega) (fun e => by have h9 : h = w2.heap.size := e; have := hgl.out.2; omega)
  have B3 := hide (o3.blk B2.out (by have := hsz2.out; omega))
  have T3 := hide b3
  have hw3 := hide (hw2.out.trans (o3.below hw2.out.size (fun i hi e => by have h9 : i = w2.heap.size := e; have := hsz2.out; omega)))
  have hF3 := hide (show ∀ w', Only (fun i => i < w1.heap.size) w3 w' → V.Fine w' from fun w' hw' => HF.out w' ((Only.of_below (Below.trans ((Below.refl _ w2).alloc (Nat.le_refl _) (.cells zeroV.cells.toArray 37)) (o3.below (by simp) (fun i hi e => by have h9 : i = w2.heap.size := e; omega))) _).trans hw' (fun _ _ h => h)))
  have hsz3 := hide (show w.heap.size < w3.heap.size from B3.out.lt)
  clear b3 o3 z3 B2 T2 hw2 hR2a HF
  refine (Err_any _ g h _ hR3).mono ?_
  rintro e w4 ⟨rfl, rfl⟩
  by_cases he : r.err = 0
  · have he' : (r.err == 0) = true := by simpa using he
    have hP := HP.out
    rw [if_neg (fun h => h he)] at hP
    have HP1 := hide hP
    clear hP
    go_wp2_with fail
    refine (Left_any _ g h _ hR3).mono ?_
    rintro e w4 ⟨rfl, rfl⟩
    by_cases hl : 0 < r.rest.length
    · have hl' : (0 : Int) < (r.rest.length : Int) := by omega
      have hP := HP1.out
      rw [if_pos hl] at hP
      have HP2 := hide hP
      clear hP hl
      go_wp2_with (refine wpList_store_blk rfl 37 _ _ rfl w.heap.size 0 37 zeroV.cells zeroV.cells (by rfl) (by rfl) B3.out (Nat.le_refl _) (by exact hI) (TxV.one zeroV) ?_; intro w9 o9 z9 b9; simp only [Act.put])
      rw [lay_all zeroV.cells zeroV.cells (by rfl)] at b9
      refine bodyPost_ret (results_cell_tmp_blk rfl _ _ w.heap.size 37 _ _ (by rfl) b9 HU.out rfl (by exact hI)) rfl ⟨zeroV, ?_, ?_, ?_, zeroV_small, ?_⟩
      · rw [HP2.out]; rfl
      · rw [HP2.out]; exact rfl
      · exact zeroV_fine _
      · exact hw3.out.trans (o9.below hw3.out.size (fun i hi e => by have h9 : i = w.heap.size := e; omega))
    · have hl' : ¬ (0 : Int) < (r.rest.length : Int) := by omega
      have hP := HP1.out
      rw [if_neg hl] at hP
      have HP2 := hide hP
      have HD := hide hd
      clear hP hl hd
      go_wp2_with (first
        | (refine wpList_load_blk rfl 37 _ rfl w2.heap.size 0 37 V.cells V.cells _ (by rfl) T3.out (fun i v hv => by rw [Nat.zero_add]; exact hv) HU.out rfl (by exact hI) ?_; simp only [Act.put, List.setIfInBounds_toArray, List.set_cons_zero, List.set_cons_succ])
        | (refine wpList_store_blk rfl 37 _ _ rfl w.heap.size 0 37 zeroV.cells V.cells (by rfl) (by rfl) B3.out (Nat.le_refl _) (by exact hI) (TxV.one V) ?_; intro w9 o9 z9 b9; simp only [Act.put]))
      rw [lay_all zeroV.cells V.cells (by rfl)] at b9
      refine bodyPost_ret (results_cell_tmp_blk rfl _ _ w.heap.size 37 _ _ (by rfl) b9 HU.out rfl (by exact hI)) rfl ⟨V, ?_, ?_, ?_, hs, ?_⟩
      · rw [HP2.out]; rfl
      · rw [HP2.out]; exact HD.out
      · exact hF3.out w9 (o9.mono (fun i _ h => by have h9 : i = w.heap.size := h; have := hwv.out; omega))
      · exact hw3.out.trans (o9.below hw3.out.size (fun i hi e => by have h9 : i = w.heap.size := e; omega))
  · have he' : (r.err == 0) = false := by simpa using he
    have hP := HP.out
    rw [if_pos he] at hP
    have HP2 := hide hP
    clear hP
    go_wp2_with fail
    refine (Err_any _ g h _ hR3).mono ?_
    rintro e w4 ⟨rfl, rfl⟩
    go_wp2_with (refine wpList_store_blk rfl 37 _ _ rfl w.heap.size 0 37 zeroV.cells zeroV.cells (by rfl) (by rfl) B3.out (Nat.le_refl _) (by exact hI) (TxV.one zeroV) ?_; intro w9 o9 z9 b9; simp only [Act.put])
    rw [lay_all zeroV.cells zeroV.cells (by rfl)] at b9
    refine bodyPost_ret (results_cell_tmp_blk rfl _ _ w.heap.size 37 _ _ (by rfl) b9 HU.out rfl (by exact hI)) rfl ⟨zeroV, ?_, ?_, ?_, zeroV_small, ?_⟩
    · rw [HP2.out]; rfl
    · rw [HP2.out]; exact rfl
    · exact zeroV_fine _
    · exact hw3.out.trans (o9.below hw3.out.size (fun i hi e => by have h9 : i = w.heap.size := e; omega))
theorem TxV.bytes_len {w : World} {t : TxV} (hf : t.Fine w) (hs : t.Small) : t.d.bytes.length ≤ 100000000 := by
  rw [TxD.bytes_eq]
  have h1 := flatMap_len (fun a : InV => a.d.bytes) t.ins 10100 (fun a ha => InV.bytes_len a (hf.ins.2.1 a ha).ref (by have h3 := (hf.ins.2.1 a ha).bys.1; have h4 := hs.unlock a ha; omega))
  have h2 := flatMap_len (fun a : OutV => a.d.bytes) t.outs 10100 (fun a ha => OutV.bytes_len a (by have h3 := (hf.outs.2.1 a ha).bys.1; have h4 := hs.lock a ha; omega))
  have h3 := hf.ins.1
  have h4 := hf.outs.1
  have h5 := hs.ins
  have h6 := hs.outs
  have h7 := (cnt_length t.ins.length).2
  have h8 := (cnt_length t.outs.length).2
  simp only [List.length_append, dig_length]
  have h9 : 10100 * t.ins.length ≤ 10100 * 1000 := Nat.mul_le_mul_left _ (by omega)
  have h10 : 10100 * t.outs.length ≤ 10100 * 1000 := Nat.mul_le_mul_left _ (by omega)
  omega
set_option maxHeartbeats 4000000 in
set_option maxRecDepth 100000 in
theorem TId_any (w : World) (t : TxV) (hf : t.Fine w) (hs : t.Small) :
    Calls Try.prog 59 #[.agg t.cells.toArray] w fun e w' => e = .returned (.agg (bcs (sha2 t.d.bytes)).toArray) ∧ Below w.heap.size w w' := by
  have hHH := hide Try.underlying31
  have hIH : (Try.prog.info? 31).map (·.size) = some 32 := by kernel_rfl
  have lz32 : (bcs zero32).length = 32 := rfl
  have lsh2 : (bcs (sha2 t.d.bytes)).length = 32 := by rw [bcs_length, sha2_len]
  have b1 : Below w.heap.size w ((w.alloc (.cells t.cells.toArray 37)).alloc (.cells (bcs zero32).toArray 31)) := Below.then_ ((Below.refl _ w).alloc (Nat.le_refl _) _) ((Below.refl _ _).alloc (Nat.le_refl _) _)
  have T0 := (Blk.new w 37 t.cells).alloc (.cells (bcs zero32).toArray 31)
  have K0 := hide (Blk.new1 w (.cells t.cells.toArray 37) 31 (bcs zero32))
  have hld := loadTx_run _ w.heap.size 0 t T0.whole
  have hF := hide (hf.below b1)
  have B1 := hide b1
  have hlen := hide (TxV.bytes_len hf hs)
  have hsz := hide (show ((w.alloc (.cells t.cells.toArray 37)).alloc (.cells (bcs zero32).toArray 31)).heap.size = w.heap.size + 2 by simp)
  clear T0 b1 hf
  go_enter Try.func59, Try.ntmps59
  go_wp2_with (refine wpList_alloc_agg rfl 31 rfl (bcs zero32) zero32_info ?_; simp only [Act.put, List.setIfInBounds_toArray, List.set_cons_zero, List.set_cons_succ, World.size_alloc])
  refine (TBytes_any _ t hF.out hs).mono ?_
  rintro e w2 ⟨A2, n2, c2, rfl, t2, f2⟩
  have hb2 := hide (Below.then_ B1.out t2.below)
  have K2 := hide (K0.out.under t2.below)
  have hn2 := t2.len
  have HBY := hide (Byss.one w2 w2 56 A2 n2 c2 t.d.bytes t2.bys t2.cap (Below.refl _ _))
  have hb23 : Below w2.heap.size w2 (w2.alloc (.cells #[.slice A2 n2 c2] 56)) := (Below.refl _ w2).alloc (Nat.le_refl _) _
  have HB23 := hide hb23
  clear hld t2 f2 hn2 hb23
  go_wp2_with fail
  refine (Twice_any _ _ 1 1 [t.d.bytes] HBY.out (by simp) (by simpa using hlen.out) (by decide)).mono ?_
  rintro e w5 ⟨rfl, hb5⟩
  have hf1 : [t.d.bytes].flatten = t.d.bytes := by simp
  rw [hf1]
  have hb25 := hide (Below.then_ HB23.out hb5)
  have K5 := hide (K2.out.under hb25.out)
  have hbw := hide (Below.then_ hb2.out hb25.out)
  go_wp2_with (refine wpList_store_blk rfl 31 _ _ rfl (w.heap.size + 1) 0 31 (bcs zero32) (bcs (sha2 t.d.bytes)) (by rfl) (by rfl) K5.out (by rw [lz32, lsh2]; decide) (by rw [hIH, lsh2]) (bcs_one _) ?_; intro w9 o9 z9 b9; simp only [Act.put])
  rw [lay_all (bcs zero32) _ (by rw [lz32, lsh2])] at b9
  refine bodyPost_ret (results_cell_blk rfl _ _ (w.heap.size + 1) 31 _ _ (by rfl) b9 hHH.out rfl (by rw [hIH, lsh2])) rfl ⟨rfl, ?_⟩
  exact hbw.out.trans (o9.below hbw.out.size (fun i hi e => by have h9 : i = w.heap.size + 1 := e; omega))
end Go.Proofs.Ytbpmcnfmgaolnaa
/-
  tx: the same transaction.
-/
namespace Go.Proofs.Ytbpmcnfmgaolnaa
open Go.RowKit

def InD.same (a b : InD) : Bool := decide (a.ref.id = b.ref.id ∧ a.ref.at_ = b.ref.at_) && (decide (a.unlock = b.unlock) && decide (a.order = b.order))
attribute [local go_sem ↓] loadIn_fold loadRef_fold loadTx_fold eqlRef_fold neqRef_fold
theorem wp_in_facts {w : World} {b : Nat} {a : InV} (h : Blk w b 60 a.cells) (hf : a.ref.Fine) : (loadRef ⟨b, 0, none⟩).run Try.prog w = .ok (.agg a.ref.cells.toArray) w ∧ w.cell? ⟨b, 33, none⟩ = some (.slice a.A a.n a.c) ∧ w.cell? ⟨b, 34, none⟩ = some (.int .u32 a.order) :=
  ⟨loadRef_run w b 0 a.ref (InV.range_ref h.whole) hf, InV.c33 h.whole hf, InV.c34 h.whole hf⟩
set_option maxHeartbeats 4000000 in
set_option maxRecDepth 100000 in
theorem sameIn_any (w : World) (a b : InV) (ha : a.Fine w) (hb : b.Fine w) :
    Calls Try.prog 103 #[.agg a.cells.toArray, .agg b.cells.toArray] w fun e w' => e = .returned (.bool (a.d.same b.d)) ∧ Below w.heap.size w w' := by
  have A0 := (Blk.new w 60 a.cells).alloc (.cells b.cells.toArray 60)
  have B0 := Blk.new1 w (.cells a.cells.toArray 60) 60 b.cells
  have hbl : Below w.heap.size w ((w.alloc (.cells a.cells.toArray 60)).alloc (.cells b.cells.toArray 60)) := Below.then_ ((Below.refl _ w).alloc (Nat.le_refl _) _) ((Below.refl _ _).alloc (Nat.le_refl _) _)
  obtain ⟨a1, a2, a3⟩ := wp_in_facts A0 ha.ref
  obtain ⟨b1, b2, b3⟩ := wp_in_facts B0 hb.ref
  have q1 := fun w => eqlRef_run a.ref b.ref ha.ref hb.ref w
  have HAB := hide (ha.bys.below hbl)
  have HBB := hide (hb.bys.below hbl)
  have HBL := hide hbl
  clear A0 B0 hbl
  go_enter Try.func103, Try.ntmps103
  by_cases h1 : a.ref.id = b.ref.id ∧ a.ref.at_ = b.ref.at_
  · have d1 : decide (a.ref.id = b.ref.id ∧ a.ref.at_ = b.ref.at_) = true := by simp [h1]
    have HS : Hid (a.d.same b.d = (decide (a.bs = b.bs) && decide (a.order = b.order))) := hide (by show (decide (a.ref.id = b.ref.id ∧ a.ref.at_ = b.ref.at_) && _) = _; rw [d1]; rfl)
    rw [d1] at q1
    clear h1 d1
    go_wp2_with fail
    refine (Equal_any _ a.A b.A a.n a.c b.n b.c a.bs b.bs HAB.out HBB.out).mono ?_
    rintro e w2 ⟨rfl, rfl⟩
    by_cases h2 : a.bs = b.bs
    · have d2 : decide (a.bs = b.bs) = true := by simp [h2]
      rw [d2] at HS ⊢
      clear h2 d2
      by_cases h3 : a.order = b.order
      · have d3 : (a.order == b.order) = true := by simp [h3]
        have d4 : decide (a.order = b.order) = true := by simp [h3]
        rw [d4] at HS
        go_wp2_with fail
        go_ret
        exact ⟨by rw [HS.out]; rfl, HBL.out⟩
      · have d3 : (a.order == b.order) = false := by simp [h3]
        have d4 : decide (a.order = b.order) = false := by simp [h3]
        rw [d4] at HS
        go_wp2_with fail
        go_ret
        exact ⟨by rw [HS.out]; rfl, HBL.out⟩
    · have d2 : decide (a.bs = b.bs) = false := by simp [h2]
      rw [d2] at HS ⊢
      go_wp2_with fail
      go_ret
      exact ⟨by rw [HS.out]; rfl, HBL.out⟩
  · have d1 : decide (a.ref.id = b.ref.id ∧ a.ref.at_ = b.ref.at_) = false := by simpa using h1
    have HS : Hid (a.d.same b.d = false) := hide (by show (decide (a.ref.id = b.ref.id ∧ a.ref.at_ = b.ref.at_) && _) = _; rw [d1]; rfl)
    rw [d1] at q1
    clear h1 d1
    go_wp2_with fail
    go_ret
    exact ⟨by rw [HS.out]; rfl, HBL.out⟩
def sameL {α : Type} (f : α → α → Bool) : List α → List α → Bool
  | [], [] => true
  | a :: l, b :: m => f a b && sameL f l m
  | _, _ => false
theorem sameL_len {α : Type} (f : α → α → Bool) : ∀ (l m : List α), l.length ≠ m.length → sameL f l m = false
  | [], [], h => absurd rfl h
  | [], _ :: _, _ => rfl
  | _ :: _, [], _ => rfl
  | a :: l, b :: m, h => by rw [sameL, sameL_len f l m (by simpa using h)]; simp
theorem sameL_drop {α : Type} (f : α → α → Bool) (l m : List α) (j : Nat) (a b : α) (ha : l[j]? = some a) (hb : m[j]? = some b) : sameL f (l.drop j) (m.drop j) = (f a b && sameL f (l.drop (j + 1)) (m.drop (j + 1))) := by
  obtain ⟨h1, h2⟩ := List.getElem?_eq_some_iff.1 ha
  obtain ⟨h3, h4⟩ := List.getElem?_eq_some_iff.1 hb
  rw [List.drop_eq_getElem_cons h1, List.drop_eq_getElem_cons h3, h2, h4, sameL]
set_option maxHeartbeats 4000000 in
set_option maxRecDepth 100000 in
theorem EqIn_any (w : World) (A B : Option Addr) (n c m d : Nat) (xs ys : List InV) (hX : InsIn w A n xs) (hY : InsIn w B m ys) (hn : n ≤ 1000) (_hm : m ≤ 1000) :
    Calls Try.prog 102 #[.slice A n c, .slice B m d, .func (.func 103) #[] #[]] w fun e w' => e = .returned (.bool (sameL InD.same (xs.map InV.d) (ys.map InV.d))) ∧ Below w.heap.size w w' := by
  have HX := hide hX
  have HY := hide hY
  have HN := hide hn
  have hI := isIn
  have lz : zeroI.cells.length = 35 := rfl
  by_cases hnm : n = m
  · subst hnm
    have heq : ((n : Int) == (n : Int)) = true := by simp
    clear hX hY hn
    go_enter Try.func102, Try.ntmps102
    go_wp2_with fail
    go_loopw [17] (fun i wr => ∃ j : Nat, j ≤ n ∧ i = .int .i64 j ∧ Below w.heap.size w wr ∧ sameL InD.same (xs.map InV.d) (ys.map InV.d) = sameL InD.same ((xs.map InV.d).drop j) ((ys.map InV.d).drop j)) (fun i _ => n - (intOf i).toNat)
    case atStart => exact ⟨0, by omega, rfl, Below.refl _ _, rfl⟩
    case round =>
      obtain ⟨j, hj, rfl, hb, hs⟩ := hrel
      have HS := hide hs
      have HB := hide hb
      by_cases hlt : j < n
      · obtain ⟨a, ha⟩ : ∃ a, xs[j]? = some a := ⟨_, List.getElem?_eq_getElem (by have := HX.out.1; omega)⟩
        obtain ⟨b, hbb⟩ : ∃ b, ys[j]? = some b := ⟨_, List.getElem?_eq_getElem (by have := HY.out.1; omega)⟩
        have haf := HX.out.2.1 a (List.mem_of_getElem? ha)
        have hbf := HY.out.2.1 b (List.mem_of_getElem? hbb)
        obtain ⟨pa, oa, rfl, hra⟩ := HX.out.2.2 (by omega)
        obtain ⟨pb, ob, rfl, hrb⟩ := HY.out.2.2 (by omega)
        have hld := loadIn_run wr pa (oa + j * 35) a (range_under (hra j a ha) hb) haf.ref
        have hrb2 := hide (range_under (hrb j b hbb) hb)
        have hdr := hide (sameL_drop InD.same (xs.map InV.d) (ys.map InV.d) j a.d b.d (by simp [ha]) (by simp [hbb]))
        have la : a.cells.length = 35 := InV.cells_len haf.ref
        have lb : b.cells.length = 35 := InV.cells_len hbf.ref
        have HAF := hide (haf.below hb)
        have HBF := hide (hbf.below hb)
        have KZ := hide (Blk.new wr 60 zeroI.cells)
        have i0 : (0 : Int) ≤ (j : Int) := by omega
        have i1 : (j : Int) < (n : Int) := by omega
        have hj9 : (j : Int) ≤ 1000 := by have := HN.out; omega
        clear ha hbb haf hbf hra hrb hs hb
        go_wp2_with (first
          | (refine wpList_alloc_agg rfl 60 rfl zeroI.cells zeroIn_info ?_; simp only [Act.put, List.setIfInBounds_toArray, List.set_cons_zero, List.set_cons_succ])
          | (refine wpList_store_blk rfl 60 _ _ rfl wr.heap.size 0 60 zeroI.cells a.cells (by rfl) (by rfl) KZ.out (by rw [lz, la]; decide) (by rw [hI, la]) (InV.one a) ?_; intro w5 o5 z5 b5; rw [lay_all zeroI.cells _ (by rw [lz, la])] at b5; have hb5 : Below wr.heap.size wr w5 := Below.trans ((Below.refl _ wr).alloc (Nat.le_refl _) _) (o5.below (by simp) (fun i hi e => by have h9 : i = wr.heap.size := e; omega)); have hld2 := loadIn_run w5 pb (ob + j * 35) b (range_under hrb2.out hb5) HBF.out.ref; have KZ2 := hide (Blk.new w5 60 zeroI.cells); have B5 := hide b5; have HB5 := hide hb5; clear o5 z5 b5 hb5; simp only [Act.put])
          | (refine wpList_store_blk rfl 60 _ _ rfl w5.heap.size 0 60 zeroI.cells b.cells (by rfl) (by rfl) KZ2.out (by rw [lz, lb]; decide) (by rw [hI, lb]) (InV.one b) ?_; intro w6 o6 z6 b6; rw [lay_all zeroI.cells _ (by rw [lz, lb])] at b6; have hb6 : Below w5.heap.size w5 w6 := Below.trans ((Below.refl _ w5).alloc (Nat.le_refl _) _) (o6.below (by simp) (fun i hi e => by have h9 : i = w5.heap.size := e; omega)); have l1 := loadIn_run w6 wr.heap.size 0 a (B5.out.under hb6).whole HAF.out.ref; have l2 := loadIn_run w6 w5.heap.size 0 b b6.whole HBF.out.ref; have HB6 := hide (Below.then_ HB5.out hb6); clear o6 z6 b6 hb6; simp only [Act.put]))
        refine (sameIn_any w6 a b (HAF.out.below HB6.out) (HBF.out.below HB6.out)).mono ?_
        rintro e w7 ⟨rfl, hb7⟩
        have HB7 := hide (Below.then_ HB.out (Below.then_ HB6.out hb7))
        clear l1 l2 hb7
        by_cases hab : a.d.same b.d = true
        · rw [hab] at hdr ⊢
          go_wp2_with fail
          exact ⟨⟨j + 1, by omega, by simp, HB7.out, by rw [HS.out, hdr.out]; rfl⟩, by simp [intOf]; omega⟩
        · have hab' : a.d.same b.d = false := by simpa using hab
          rw [hab'] at hdr ⊢
          go_wp2_with fail
          go_ret
          exact ⟨by rw [HS.out, hdr.out]; rfl, HB7.out⟩
      · obtain rfl : n = j := by omega
        have hjn : ¬ (n : Int) < (n : Int) := by omega
        have hx : (xs.map InV.d).drop n = [] := List.drop_of_length_le (by rw [List.length_map, HX.out.1]; exact Nat.le_refl _)
        have hy : (ys.map InV.d).drop n = [] := List.drop_of_length_le (by rw [List.length_map, HY.out.1]; exact Nat.le_refl _)
        clear hs hb
        go_wp2_with fail
        go_ret
        exact ⟨by rw [HS.out, hx, hy]; rfl, HB.out⟩
  · have heq : ((n : Int) == (m : Int)) = false := by simp; omega
    have hne : sameL InD.same (xs.map InV.d) (ys.map InV.d) = false := sameL_len _ _ _ (by rw [List.length_map, List.length_map, hX.1, hY.1]; exact hnm)
    have HNE := hide hne
    clear hX hY hn hne
    go_enter Try.func102, Try.ntmps102
    go_wp2_with fail
    go_ret
    exact ⟨by rw [HNE.out]; rfl, Below.refl _ _⟩
set_option maxHeartbeats 4000000 in
set_option maxRecDepth 100000 in
theorem EqOut_any (w : World) (A B : Option Addr) (n c m d : Nat) (xs ys : List OutV) (hX : OutsIn w A n xs) (hY : OutsIn w B m ys) (hn : n ≤ 1000) (_hm : m ≤ 1000) :
    Calls Try.prog 104 #[.slice A n c, .slice B m d, .func (.func 105) #[] #[]] w fun e w' => e = .returned (.bool (sameL OutD.same (xs.map OutV.d) (ys.map OutV.d))) ∧ Below w.heap.size w w' := by
  have HX := hide hX
  have HY := hide hY
  have HN := hide hn
  by_cases hnm : n = m
  · subst hnm
    have heq : ((n : Int) == (n : Int)) = true := by simp
    clear hX hY hn
    go_enter Try.func104, Try.ntmps104
    go_wp2_with fail
    go_loopw [17] (fun i wr => ∃ j : Nat, j ≤ n ∧ i = .int .i64 j ∧ Below w.heap.size w wr ∧ sameL OutD.same (xs.map OutV.d) (ys.map OutV.d) = sameL OutD.same ((xs.map OutV.d).drop j) ((ys.map OutV.d).drop j)) (fun i _ => n - (intOf i).toNat)
    case atStart => exact ⟨0, by omega, rfl, Below.refl _ _, rfl⟩
    case round =>
      obtain ⟨j, hj, rfl, hb, hs⟩ := hrel
      have HS := hide hs
      have HB := hide hb
      by_cases hlt : j < n
      · obtain ⟨a, ha⟩ : ∃ a, xs[j]? = some a := ⟨_, List.getElem?_eq_getElem (by have := HX.out.1; omega)⟩
        obtain ⟨b, hbb⟩ : ∃ b, ys[j]? = some b := ⟨_, List.getElem?_eq_getElem (by have := HY.out.1; omega)⟩
        have haf := HX.out.2.1 a (List.mem_of_getElem? ha)
        have hbf := HY.out.2.1 b (List.mem_of_getElem? hbb)
        obtain ⟨pa, oa, rfl, hra⟩ := HX.out.2.2 (by omega)
        obtain ⟨pb, ob, rfl, hrb⟩ := HY.out.2.2 (by omega)
        have ra := range_under (hra j a ha) hb
        have rb := range_under (hrb j b hbb) hb
        have ka0 := rangeAt_c0 ra
        have ka1 := rangeAt_c1 ra
        have hw5 : Below wr.heap.size wr (wr.alloc (.cells #[.int .i64 a.v, .slice a.A a.n a.c] 62)) := (Below.refl _ wr).alloc (Nat.le_refl _) _
        have kb0 := cell_under hw5 (rangeAt_c0 rb)
        have kb1 := cell_under hw5 (rangeAt_c1 rb)
        have hdr := hide (sameL_drop OutD.same (xs.map OutV.d) (ys.map OutV.d) j a.d b.d (by simp [ha]) (by simp [hbb]))
        have HAF := hide (haf.below hb)
        have HBF := hide (hbf.below hb)
        have HB6 := hide (show Below wr.heap.size wr ((wr.alloc (.cells #[.int .i64 a.v, .slice a.A a.n a.c] 62)).alloc (.cells #[.int .i64 b.v, .slice b.A b.n b.c] 62)) from Below.then_ hw5 ((Below.refl _ _).alloc (Nat.le_refl _) _))
        clear hw5 ra rb
        have i0 : (0 : Int) ≤ (j : Int) := by omega
        have i1 : (j : Int) < (n : Int) := by omega
        have hj9 : (j : Int) ≤ 1000 := by have := HN.out; omega
        clear ha hbb haf hbf hra hrb hs hb
        go_wp2_with fail
        refine (Same_any _ a b (HAF.out.below HB6.out) (HBF.out.below HB6.out)).mono ?_
        rintro e w7 ⟨rfl, hb7⟩
        have HB7 := hide (Below.then_ HB.out (Below.then_ HB6.out hb7))
        clear hb7
        by_cases hab : a.d.same b.d = true
        · rw [hab] at hdr ⊢
          go_wp2_with fail
          exact ⟨⟨j + 1, by omega, by simp, HB7.out, by rw [HS.out, hdr.out]; rfl⟩, by simp [intOf]; omega⟩
        · have hab' : a.d.same b.d = false := by simpa using hab
          rw [hab'] at hdr ⊢
          go_wp2_with fail
          go_ret
          exact ⟨by rw [HS.out, hdr.out]; rfl, HB7.out⟩
      · obtain rfl : n = j := by omega
        have hjn : ¬ (n : Int) < (n : Int) := by omega
        have hx : (xs.map OutV.d).drop n = [] := List.drop_of_length_le (by rw [List.length_map, HX.out.1]; exact Nat.le_refl _)
        have hy : (ys.map OutV.d).drop n = [] := List.drop_of_length_le (by rw [List.length_map, HY.out.1]; exact Nat.le_refl _)
        clear hs hb
        go_wp2_with fail
        go_ret
        exact ⟨by rw [HS.out, hx, hy]; rfl, HB.out⟩
  · have heq : ((n : Int) == (m : Int)) = false := by simp; omega
    have hne : sameL OutD.same (xs.map OutV.d) (ys.map OutV.d) = false := sameL_len _ _ _ (by rw [List.length_map, List.length_map, hX.1, hY.1]; exact hnm)
    have HNE := hide hne
    clear hX hY hn hne
    go_enter Try.func104, Try.ntmps104
    go_wp2_with fail
    go_ret
    exact ⟨by rw [HNE.out]; rfl, Below.refl _ _⟩
def TxD.same (a b : TxD) : Bool := decide (a.version = b.version) && (sameL InD.same a.ins b.ins && (sameL OutD.same a.outs b.outs && decide (a.until_ = b.until_)))
set_option maxHeartbeats 4000000 in
set_option maxRecDepth 100000 in
theorem TSame_any (w : World) (a b : TxV) (ha : a.Fine w) (hb : b.Fine w) (sa : a.Small) (sb : b.Small) :
    Calls Try.prog 57 #[.agg a.cells.toArray, .agg b.cells.toArray] w fun e w' => e = .returned (.bool (a.d.same b.d)) ∧ Below w.heap.size w w' := by
  have A0 := (Blk.new w 37 a.cells).alloc (.cells b.cells.toArray 37)
  have B0 := Blk.new1 w (.cells a.cells.toArray 37) 37 b.cells
  have hw : Below w.heap.size w ((w.alloc (.cells a.cells.toArray 37)).alloc (.cells b.cells.toArray 37)) := Below.then_ ((Below.refl _ w).alloc (Nat.le_refl _) _) ((Below.refl _ _).alloc (Nat.le_refl _) _)
  have HA := hide (ha.below hw)
  have HB := hide (hb.below hw)
  have HW := hide hw
  have a0 := A0.c0
  have a1 := A0.c1
  have b0 := B0.c0
  have b1 := B0.c1
  have HA0 := hide A0
  have HB0 := hide B0
  have HS : Hid (a.d.same b.d = (decide (a.version = b.version) && (sameL InD.same (a.ins.map InV.d) (b.ins.map InV.d) && (sameL OutD.same (a.outs.map OutV.d) (b.outs.map OutV.d) && decide (a.until_ = b.until_))))) := hide rfl
  have SA := hide sa
  have SB := hide sb
  clear A0 B0 hw ha hb sa sb
  by_cases h1 : a.version = b.version
  · have d1 : (a.version == b.version) = true := by simp [h1]
    have d1' : decide (a.version = b.version) = true := by simp [h1]
    rw [d1'] at HS
    clear h1 d1'
    go_enter Try.func57, Try.ntmps57
    go_wp2_with fail
    refine (EqIn_any _ a.iA b.iA a.iN a.iC b.iN b.iC a.ins b.ins HA.out.ins HB.out.ins SA.out.ins SB.out.ins).mono ?_
    rintro e w2 ⟨rfl, hb2⟩
    obtain ⟨x, hx⟩ : ∃ x, x = sameL InD.same (a.ins.map InV.d) (b.ins.map InV.d) := ⟨_, rfl⟩
    rw [← hx] at HS ⊢
    have a2 := (HA0.out.under hb2).c2
    have b2 := (HB0.out.under hb2).c2
    have HB2 := hide hb2
    clear hx hb2 a0 a1 b0 b1 d1
    cases x with
    | true =>
      go_wp2_with fail
      refine (EqOut_any _ a.oA b.oA a.oN a.oC b.oN b.oC a.outs b.outs (HA.out.outs.below' HB2.out) (HB.out.outs.below' HB2.out) SA.out.outs SB.out.outs).mono ?_
      rintro e w3 ⟨rfl, hb3⟩
      obtain ⟨y, hy⟩ : ∃ y, y = sameL OutD.same (a.outs.map OutV.d) (b.outs.map OutV.d) := ⟨_, rfl⟩
      rw [← hy] at HS ⊢
      have a3 := (HA0.out.under (Below.then_ HB2.out hb3)).c3
      have b3 := (HB0.out.under (Below.then_ HB2.out hb3)).c3
      have HB3 := hide (Below.then_ HW.out (Below.then_ HB2.out hb3))
      clear hy hb3 a2 b2
      cases y with
      | true =>
        by_cases h4 : a.until_ = b.until_
        · have d4 : (a.until_ == b.until_) = true := by simp [h4]
          have d4' : decide (a.until_ = b.until_) = true := by simp [h4]
          rw [d4'] at HS
          clear h4 d4'
          go_wp2_with fail
          go_ret
          exact ⟨by rw [HS.out]; rfl, HB3.out⟩
        · have d4 : (a.until_ == b.until_) = false := by simp [h4]
          have d4' : decide (a.until_ = b.until_) = false := by simp [h4]
          rw [d4'] at HS
          clear h4 d4'
          go_wp2_with fail
          go_ret
          exact ⟨by rw [HS.out]; rfl, HB3.out⟩
      | false =>
        go_wp2_with fail
        go_ret
        exact ⟨by rw [HS.out]; rfl, HB3.out⟩
    | false =>
      go_wp2_with fail
      go_ret
      exact ⟨by rw [HS.out]; rfl, Below.then_ HW.out HB2.out⟩
  · have d1 : (a.version == b.version) = false := by simp [h1]
    have d1' : decide (a.version = b.version) = false := by simp [h1]
    rw [d1'] at HS
    clear h1 d1'
    go_enter Try.func57, Try.ntmps57
    go_wp2_with fail
    go_ret
    exact ⟨by rw [HS.out]; rfl, HW.out⟩
end Go.Proofs.Ytbpmcnfmgaolnaa
/-
  tx: null, Base.
-/
namespace Go.Proofs.Ytbpmcnfmgaolnaa
open Go.RowKit

def nullR : RefD := ⟨List.replicate 32 0, 4294967295⟩
theorem nullR_fine : nullR.Fine := ⟨by simp [nullR], fun x hx => by have := List.eq_of_mem_replicate hx; omega, by decide, by decide⟩
def RefD.eqb (a b : RefD) : Bool := decide (a.id = b.id ∧ a.at_ = b.at_)
theorem mkRef_null (w : World) : (mkRef #[(1, .int .u32 4294967295)]).run Try.prog w = .ok (.agg nullR.cells.toArray) w := by kernel_rfl
def baseT (l : List InD) : Bool := match l with
  | [a] => a.ref.eqb nullR
  | _ => false
theorem baseT_one (a : InD) : baseT [a] = a.ref.eqb nullR := rfl
theorem baseT_not (l : List InD) (h : l.length ≠ 1) : baseT l = false := by
  rcases l with _ | ⟨a, _ | ⟨b, l⟩⟩
  · rfl
  · exact absurd rfl h
  · rfl
attribute [local go_sem ↓] loadIn_fold loadRef_fold loadTx_fold eqlRef_fold neqRef_fold mkRef_fold mkTx_fold
attribute [local go_sem] mkRef_null
set_option maxHeartbeats 1000000 in
set_option maxRecDepth 100000 in
theorem null_any (w : World) : Calls Try.prog 107 #[] w fun e w' => e = .returned (.agg nullR.cells.toArray) ∧ Below w.heap.size w w' := by
  have B0 := hide (Blk.new w 58 zeroR.cells)
  have HU := hide Try.underlying58
  have lz : zeroR.cells.length = 33 := rfl
  have ln : nullR.cells.length = 33 := rfl
  have hb : Below w.heap.size w (w.alloc (.cells zeroR.cells.toArray 58)) := (Below.refl _ w).alloc (Nat.le_refl _) _
  go_enter Try.func107, Try.ntmps107
  go_wp2_with (first
    | (refine wpList_alloc_agg rfl 58 rfl zeroR.cells zeroRef ?_; simp only [Act.put, List.setIfInBounds_toArray, List.set_cons_zero])
    | (refine wpList_store_blk rfl 58 _ _ rfl w.heap.size 0 58 zeroR.cells nullR.cells (by rfl) (by rfl) B0.out (by rw [lz, ln]; decide) (by rw [ln]; exact isRef) (RefD.one _) ?_; intro w9 o9 z9 b9; simp only [Act.put]))
  rw [lay_all zeroR.cells _ (by rw [lz, ln])] at b9
  refine bodyPost_ret (results_cell_blk rfl _ _ w.heap.size 58 _ _ (by rfl) b9 HU.out rfl (by rw [ln]; exact isRef)) rfl ⟨rfl, ?_⟩
  exact hb.trans (o9.below (by simp) (fun i hi e => by have h9 : i = w.heap.size := e; omega))
set_option maxHeartbeats 4000000 in
set_option maxRecDepth 100000 in
theorem TBase_any (w : World) (t : TxV) (hf : t.Fine w) (hs : t.Small) :
    Calls Try.prog 63 #[.agg t.cells.toArray] w fun e w' => e = .returned (.bool (baseT (t.ins.map InV.d))) ∧ Below w.heap.size w w' := by
  obtain ⟨version, iA, iN, iC, ins, oA, oN, oC, outs, until_⟩ := t
  obtain ⟨_, _, hins, _, _, _⟩ := hf
  have hn := hs.ins
  simp only at hins hn
  have B0 := Blk.new w 37 [.int .u32 version, .slice iA iN iC, .slice oA oN oC, .int .u32 until_]
  have hb0 := hide (show Below w.heap.size w (w.alloc (.cells #[.int .u32 version, .slice iA iN iC, .slice oA oN oC, .int .u32 until_] 37)) from below_alloc (Below.refl _ _) _)
  show Calls _ _ #[.agg #[.int .u32 version, .slice iA iN iC, .slice oA oN oC, .int .u32 until_]] _ _
  have HI := hide (hins.below' hb0.out)
  clear hins
  go_enter Try.func63, Try.ntmps63
  go_wp2_with fail
  obtain ⟨w1, hw1⟩ : ∃ w1, w1 = w.alloc (.cells #[.int .u32 version, .slice iA iN iC, .slice oA oN oC, .int .u32 until_] 37) := ⟨_, rfl⟩
  rw [← hw1] at B0 hb0 HI ⊢
  clear hw1
  have x1 := B0.c1
  by_cases h1 : iN = 1
  · subst h1
    obtain ⟨a, ha⟩ : ∃ a, ins[0]? = some a := ⟨_, List.getElem?_eq_getElem (by have := HI.out.1; omega)⟩
    have haf := hide (HI.out.2.1 a (List.mem_of_getElem? ha)).ref
    obtain ⟨b, off, rfl, hrow⟩ := HI.out.2.2 (by omega)
    have hra := hide (show w1.rangeAt b off a.ref.cells by have := InV.range_ref (hrow 0 a ha); simpa using this)
    have hone : ins = [a] := by
      have hl := HI.out.1
      rcases ins with _ | ⟨c, _ | ⟨d, l⟩⟩
      · simp at hl
      · simp at ha; rw [ha]
      · simp at hl
    have heq := fun w => eqlRef_run a.ref nullR haf.out nullR_fine w
    have hres := hide (show baseT ((ins).map InV.d) = decide (a.ref.id = nullR.id ∧ a.ref.at_ = nullR.at_) by rw [hone]; rfl)
    have hc1 : (((1 : Nat) : Int) == 1) = true := by decide
    clear hone ha hrow
    refine wp_region_held_drew (S := fun w' => Below w1.heap.size w1 w') (by kernel_rfl) (by exact (Below.refl _ _).drew) (fun hSA0 => ?_)
    obtain ⟨w1d, hwA⟩ : ∃ x, x = w1.drew := ⟨_, rfl⟩
    rw [← hwA] at hSA0 ⊢
    have hDA : Below w1.heap.size w1 w1d := by rw [hwA]; exact (Below.refl _ _).drew
    clear hwA
    (refine wpAnyH_take (i := 0) (oi := ⟨some 3, .fieldAddr 37 (.tmp 1) 1, 0, "tx.go:86", #[], none⟩) (v := ?_) rfl (by kernel_rfl) (by kernel_rfl) (by kernel_rfl) (fun _ _ _ h => h) (Or.inl ⟨by rfl, fun w' hSw => ?_⟩) hSA0 ?_; rotate_left; focus (go_simp; try with_reducible rfl))
    simp only [Act.put, List.setIfInBounds_toArray, List.set_cons_zero, List.set_cons_succ]
    (refine wpAnyH_take (i := 1) (oi := ⟨some 4, .load 34 (.tmp 3), 34, "tx.go:86", #[⟨0, .data⟩], none⟩) (v := ?_) rfl (by kernel_rfl) (by kernel_rfl) (by kernel_rfl) (fun _ _ _ h => h) (Or.inl ⟨by rfl, fun w' hSw => ?_⟩) hSA0 ?_; rotate_left; focus (have l1 := cell_under hSw x1; go_simp; try with_reducible rfl))
    simp only [Act.put, List.setIfInBounds_toArray, List.set_cons_zero, List.set_cons_succ]
    (refine wpAnyH_take (i := 2) (oi := ⟨some 5, .call { callee := .builtin .len, args := #[.tmp 4], argTypes := #[34] }, 3, "tx.go:86", #[⟨1, .data⟩], none⟩) (v := ?_) rfl (by kernel_rfl) (by kernel_rfl) (by kernel_rfl) (fun _ _ _ h => h) (Or.inl ⟨by rfl, fun w' hSw => ?_⟩) hSA0 ?_; rotate_left; focus (go_simp; try with_reducible rfl))
    simp only [Act.put, List.setIfInBounds_toArray, List.set_cons_zero, List.set_cons_succ]
    (refine wpAnyH_take (i := 3) (oi := ⟨some 6, .binOp .eql 3 (.tmp 5) (.const (.int .i64 1)) 3, 4, "tx.go:86", #[⟨2, .data⟩], none⟩) (v := ?_) rfl (by kernel_rfl) (by kernel_rfl) (by kernel_rfl) (fun _ _ _ h => h) (Or.inl ⟨by rfl, fun w' hSw => ?_⟩) hSA0 ?_; rotate_left; focus (go_simp; try with_reducible rfl))
    simp only [Act.put, List.setIfInBounds_toArray, List.set_cons_zero, List.set_cons_succ]
    (refine wpAnyH_take (i := 4) (oi := ⟨some 7, .move (.tmp 6), 4, "tx.go:86", #[⟨3, .data⟩], none⟩) (v := ?_) rfl (by kernel_rfl) (by kernel_rfl) (by kernel_rfl) (fun _ _ _ h => h) (Or.inl ⟨by rfl, fun w' hSw => ?_⟩) hSA0 ?_; rotate_left; focus (go_simp; try with_reducible rfl))
    simp only [Act.put, List.setIfInBounds_toArray, List.set_cons_zero, List.set_cons_succ]
    (refine wpAnyH_take (i := 5) (oi := ⟨some 8, .fieldAddr 37 (.tmp 1) 1, 0, "tx.go:86", #[⟨4, .guard⟩], some (4, true)⟩) (v := ?_) rfl (by kernel_rfl) (by kernel_rfl) (by kernel_rfl) (fun _ _ _ h => h) (Or.inl ⟨by rfl, fun w' hSw => ?_⟩) hSA0 ?_; rotate_left; focus (go_simp; try with_reducible rfl))
    simp only [Act.put, List.setIfInBounds_toArray, List.set_cons_zero, List.set_cons_succ]
    (refine wpAnyH_take (i := 6) (oi := ⟨some 9, .load 34 (.tmp 8), 34, "tx.go:86", #[⟨5, .data⟩, ⟨4, .guard⟩], some (4, true)⟩) (v := ?_) rfl (by kernel_rfl) (by kernel_rfl) (by kernel_rfl) (fun _ _ _ h => h) (Or.inl ⟨by rfl, fun w' hSw => ?_⟩) hSA0 ?_; rotate_left; focus (have l1 := cell_under hSw x1; go_simp; try with_reducible rfl))
    simp only [Act.put, List.setIfInBounds_toArray, List.set_cons_zero, List.set_cons_succ]
    (refine wpAnyH_take (i := 7) (oi := ⟨some 10, .indexAddr 34 (.tmp 9) (.const (.int .i64 0)), 0, "tx.go:86", #[⟨6, .data⟩, ⟨4, .guard⟩], some (4, true)⟩) (v := ?_) rfl (by kernel_rfl) (by kernel_rfl) (by kernel_rfl) (fun _ _ _ h => h) (Or.inl ⟨by rfl, fun w' hSw => ?_⟩) hSA0 ?_; rotate_left; focus (go_simp; try with_reducible rfl))
    simp only [Act.put, List.setIfInBounds_toArray, List.set_cons_zero, List.set_cons_succ]
    (refine wpAnyH_take (i := 8) (oi := ⟨some 11, .fieldAddr 60 (.tmp 10) 0, 0, "tx.go:86", #[⟨7, .data⟩, ⟨4, .guard⟩], some (4, true)⟩) (v := ?_) rfl (by kernel_rfl) (by kernel_rfl) (by kernel_rfl) (fun _ _ _ h => h) (Or.inl ⟨by rfl, fun w' hSw => ?_⟩) hSA0 ?_; rotate_left; focus (go_simp; try with_reducible rfl))
    simp only [Act.put, List.setIfInBounds_toArray, List.set_cons_zero, List.set_cons_succ]
    (refine wpAnyH_take (i := 9) (oi := ⟨some 12, .load 58 (.tmp 11), 58, "tx.go:86", #[⟨8, .data⟩, ⟨4, .guard⟩], some (4, true)⟩) (v := ?_) rfl (by kernel_rfl) (by kernel_rfl) (by kernel_rfl) (fun _ _ _ h => h) (Or.inl ⟨by rfl, fun w' hSw => ?_⟩) hSA0 ?_; rotate_left; focus (have lr := loadRef_run w' b off a.ref (range_under hra.out hSw) haf.out; go_simp; try with_reducible rfl))
    simp only [Act.put, List.setIfInBounds_toArray, List.set_cons_zero, List.set_cons_succ]
    refine wpAnyH_ready (rs := [10]) (by kernel_rfl) (by simp) ?_
    refine AllReadyH.cons rfl (fun K hK => ?_) AllReadyH.nil
    go_simp
    go_wp2_with (go_at_call 107; refine (null_any w1d).mono ?_; rintro e w2 ⟨rfl, b2⟩)
    refine hK.out _ _ (Below.then_ hSA0 b2) (fun hSA1 => ?_)
    clear hK K
    (refine wpAnyH_take (i := 11) (oi := ⟨some 14, .binOp .eql 58 (.tmp 12) (.tmp 13) 58, 4, "tx.go:86", #[⟨9, .data⟩, ⟨10, .data⟩, ⟨4, .guard⟩], some (4, true)⟩) (v := ?_) rfl (by kernel_rfl) (by kernel_rfl) (by kernel_rfl) (fun _ _ _ h => h) (Or.inl ⟨by rfl, fun w' hSw => ?_⟩) hSA1 ?_; rotate_left; focus (go_simp; try with_reducible rfl))
    simp only [Act.put, List.setIfInBounds_toArray, List.set_cons_zero, List.set_cons_succ]
    (refine wpAnyH_take (i := 12) (oi := ⟨some 15, .pick (.tmp 7) (.tmp 14) (.const (.bool Bool.false)), 4, "tx.go:86", #[⟨4, .data⟩, ⟨11, .data⟩], none⟩) (v := ?_) rfl (by kernel_rfl) (by kernel_rfl) (by kernel_rfl) (fun _ _ _ h => h) (Or.inl ⟨by rfl, fun w' hSw => ?_⟩) hSA1 ?_; rotate_left; focus (go_simp; try with_reducible rfl))
    simp only [Act.put, List.setIfInBounds_toArray, List.set_cons_zero, List.set_cons_succ]
    (refine wpAnyH_take (i := 13) (oi := ⟨some 2, .assign (.tmp 15), 4, "tx.go:86", #[⟨12, .data⟩, ⟨10, .chain⟩, ⟨0, .phase⟩, ⟨1, .phase⟩, ⟨2, .phase⟩, ⟨3, .phase⟩, ⟨4, .phase⟩, ⟨5, .phase⟩, ⟨6, .phase⟩, ⟨7, .phase⟩, ⟨8, .phase⟩, ⟨9, .phase⟩, ⟨10, .phase⟩, ⟨11, .phase⟩, ⟨12, .phase⟩], none⟩) (v := ?_) rfl (by kernel_rfl) (by kernel_rfl) (by kernel_rfl) (fun _ _ _ h => h) (Or.inl ⟨by rfl, fun w' hSw => ?_⟩) hSA1 ?_; rotate_left; focus (go_simp; try with_reducible rfl))
    simp only [Act.put, List.setIfInBounds_toArray, List.set_cons_zero, List.set_cons_succ]
    refine wpAnyH_done (by kernel_rfl) ?_ _
    go_wp2_with fail
    go_ret
    exact ⟨by rw [hres.out]; simp [Bool.decide_and], Below.then_ hb0.out hSA1⟩
  · have hc1 : ((iN : Int) == 1) = false := by simp; omega
    have hres := hide (baseT_not (ins.map InV.d) (by rw [List.length_map, HI.out.1]; exact h1))
    refine wp_region_held_drew (S := fun w' => Below w1.heap.size w1 w') (by kernel_rfl) (by exact (Below.refl _ _).drew) (fun hSB0 => ?_)
    obtain ⟨w1d, hwB⟩ : ∃ x, x = w1.drew := ⟨_, rfl⟩
    rw [← hwB] at hSB0 ⊢
    have hDB : Below w1.heap.size w1 w1d := by rw [hwB]; exact (Below.refl _ _).drew
    clear hwB
    (refine wpAnyH_take (i := 0) (oi := ⟨some 3, .fieldAddr 37 (.tmp 1) 1, 0, "tx.go:86", #[], none⟩) (v := ?_) rfl (by kernel_rfl) (by kernel_rfl) (by kernel_rfl) (fun _ _ _ h => h) (Or.inl ⟨by rfl, fun w' hSw => ?_⟩) hSB0 ?_; rotate_left; focus (go_simp; try with_reducible rfl))
    simp only [Act.put, List.setIfInBounds_toArray, List.set_cons_zero, List.set_cons_succ]
    (refine wpAnyH_take (i := 1) (oi := ⟨some 4, .load 34 (.tmp 3), 34, "tx.go:86", #[⟨0, .data⟩], none⟩) (v := ?_) rfl (by kernel_rfl) (by kernel_rfl) (by kernel_rfl) (fun _ _ _ h => h) (Or.inl ⟨by rfl, fun w' hSw => ?_⟩) hSB0 ?_; rotate_left; focus (have l1 := cell_under hSw x1; go_simp; try with_reducible rfl))
    simp only [Act.put, List.setIfInBounds_toArray, List.set_cons_zero, List.set_cons_succ]
    (refine wpAnyH_take (i := 2) (oi := ⟨some 5, .call { callee := .builtin .len, args := #[.tmp 4], argTypes := #[34] }, 3, "tx.go:86", #[⟨1, .data⟩], none⟩) (v := ?_) rfl (by kernel_rfl) (by kernel_rfl) (by kernel_rfl) (fun _ _ _ h => h) (Or.inl ⟨by rfl, fun w' hSw => ?_⟩) hSB0 ?_; rotate_left; focus (go_simp; try with_reducible rfl))
    simp only [Act.put, List.setIfInBounds_toArray, List.set_cons_zero, List.set_cons_succ]
    (refine wpAnyH_take (i := 3) (oi := ⟨some 6, .binOp .eql 3 (.tmp 5) (.const (.int .i64 1)) 3, 4, "tx.go:86", #[⟨2, .data⟩], none⟩) (v := ?_) rfl (by kernel_rfl) (by kernel_rfl) (by kernel_rfl) (fun _ _ _ h => h) (Or.inl ⟨by rfl, fun w' hSw => ?_⟩) hSB0 ?_; rotate_left; focus (go_simp; try with_reducible rfl))
    simp only [Act.put, List.setIfInBounds_toArray, List.set_cons_zero, List.set_cons_succ]
    (refine wpAnyH_take (i := 4) (oi := ⟨some 7, .move (.tmp 6), 4, "tx.go:86", #[⟨3, .data⟩], none⟩) (v := ?_) rfl (by kernel_rfl) (by kernel_rfl) (by kernel_rfl) (fun _ _ _ h => h) (Or.inl ⟨by rfl, fun w' hSw => ?_⟩) hSB0 ?_; rotate_left; focus (go_simp; try with_reducible rfl))
    simp only [Act.put, List.setIfInBounds_toArray, List.set_cons_zero, List.set_cons_succ]
    refine wpAnyH_take (i := 5) (oi := ⟨some 8, .fieldAddr 37 (.tmp 1) 1, 0, "tx.go:86", #[⟨4, .guard⟩], some (4, true)⟩) (v := undef) rfl (by kernel_rfl) (by kernel_rfl) (by kernel_rfl) (fun _ _ _ h => h) (Or.inr ⟨by rfl, rfl⟩) hSB0 ?_
    simp only [Act.put, List.setIfInBounds_toArray, List.set_cons_zero, List.set_cons_succ]
    refine wpAnyH_take (i := 6) (oi := ⟨some 9, .load 34 (.tmp 8), 34, "tx.go:86", #[⟨5, .data⟩, ⟨4, .guard⟩], some (4, true)⟩) (v := undef) rfl (by kernel_rfl) (by kernel_rfl) (by kernel_rfl) (fun _ _ _ h => h) (Or.inr ⟨by rfl, rfl⟩) hSB0 ?_
    simp only [Act.put, List.setIfInBounds_toArray, List.set_cons_zero, List.set_cons_succ]
    refine wpAnyH_take (i := 7) (oi := ⟨some 10, .indexAddr 34 (.tmp 9) (.const (.int .i64 0)), 0, "tx.go:86", #[⟨6, .data⟩, ⟨4, .guard⟩], some (4, true)⟩) (v := undef) rfl (by kernel_rfl) (by kernel_rfl) (by kernel_rfl) (fun _ _ _ h => h) (Or.inr ⟨by rfl, rfl⟩) hSB0 ?_
    simp only [Act.put, List.setIfInBounds_toArray, List.set_cons_zero, List.set_cons_succ]
    refine wpAnyH_take (i := 8) (oi := ⟨some 11, .fieldAddr 60 (.tmp 10) 0, 0, "tx.go:86", #[⟨7, .data⟩, ⟨4, .guard⟩], some (4, true)⟩) (v := undef) rfl (by kernel_rfl) (by kernel_rfl) (by kernel_rfl) (fun _ _ _ h => h) (Or.inr ⟨by rfl, rfl⟩) hSB0 ?_
    simp only [Act.put, List.setIfInBounds_toArray, List.set_cons_zero, List.set_cons_succ]
    refine wpAnyH_take (i := 9) (oi := ⟨some 12, .load 58 (.tmp 11), 58, "tx.go:86", #[⟨8, .data⟩, ⟨4, .guard⟩], some (4, true)⟩) (v := undef) rfl (by kernel_rfl) (by kernel_rfl) (by kernel_rfl) (fun _ _ _ h => h) (Or.inr ⟨by rfl, rfl⟩) hSB0 ?_
    simp only [Act.put, List.setIfInBounds_toArray, List.set_cons_zero, List.set_cons_succ]
    refine wpAnyH_take (i := 10) (oi := ⟨some 13, .call { callee := .value (.func 107), args := #[], argTypes := #[] }, 58, "tx.go:86", #[⟨4, .chain⟩, ⟨4, .guard⟩], some (4, true)⟩) (v := undef) rfl (by kernel_rfl) (by kernel_rfl) (by kernel_rfl) (fun _ _ _ h => h) (Or.inr ⟨by rfl, rfl⟩) hSB0 ?_
    simp only [Act.put, List.setIfInBounds_toArray, List.set_cons_zero, List.set_cons_succ]
    refine wpAnyH_take (i := 11) (oi := ⟨some 14, .binOp .eql 58 (.tmp 12) (.tmp 13) 58, 4, "tx.go:86", #[⟨9, .data⟩, ⟨10, .data⟩, ⟨4, .guard⟩], some (4, true)⟩) (v := undef) rfl (by kernel_rfl) (by kernel_rfl) (by kernel_rfl) (fun _ _ _ h => h) (Or.inr ⟨by rfl, rfl⟩) hSB0 ?_
    simp only [Act.put, List.setIfInBounds_toArray, List.set_cons_zero, List.set_cons_succ]
    (refine wpAnyH_take (i := 12) (oi := ⟨some 15, .pick (.tmp 7) (.tmp 14) (.const (.bool Bool.false)), 4, "tx.go:86", #[⟨4, .data⟩, ⟨11, .data⟩], none⟩) (v := ?_) rfl (by kernel_rfl) (by kernel_rfl) (by kernel_rfl) (fun _ _ _ h => h) (Or.inl ⟨by rfl, fun w' hSw => ?_⟩) hSB0 ?_; rotate_left; focus (go_simp; try with_reducible rfl))
    simp only [Act.put, List.setIfInBounds_toArray, List.set_cons_zero, List.set_cons_succ]
    (refine wpAnyH_take (i := 13) (oi := ⟨some 2, .assign (.tmp 15), 4, "tx.go:86", #[⟨12, .data⟩, ⟨10, .chain⟩, ⟨0, .phase⟩, ⟨1, .phase⟩, ⟨2, .phase⟩, ⟨3, .phase⟩, ⟨4, .phase⟩, ⟨5, .phase⟩, ⟨6, .phase⟩, ⟨7, .phase⟩, ⟨8, .phase⟩, ⟨9, .phase⟩, ⟨10, .phase⟩, ⟨11, .phase⟩, ⟨12, .phase⟩], none⟩) (v := ?_) rfl (by kernel_rfl) (by kernel_rfl) (by kernel_rfl) (fun _ _ _ h => h) (Or.inl ⟨by rfl, fun w' hSw => ?_⟩) hSB0 ?_; rotate_left; focus (go_simp; try with_reducible rfl))
    simp only [Act.put, List.setIfInBounds_toArray, List.set_cons_zero, List.set_cons_succ]
    refine wpAnyH_done (by kernel_rfl) ?_ _
    go_wp2_with fail
    go_ret
    exact ⟨by rw [hres.out]; rfl, Below.then_ hb0.out hSB0⟩
end Go.Proofs.Ytbpmcnfmgaolnaa
/-
  A map of references, made by the call itself: what is in it.
-/
namespace Go.Proofs.Ytbpmcnfmgaolnaa
open Go.RowKit
open Go.Maps (Keyed)

theorem mapM_all {α β : Type} (f : α → Option β) (g : α → β) : ∀ l : List α, (∀ a ∈ l, f a = some (g a)) → l.mapM f = some (l.map g)
  | [], _ => rfl
  | a :: l, h => by
    rw [List.mapM_cons, h a (by simp), mapM_all f g l (fun b hb => h b (by simp [hb]))]
    rfl
theorem key_u8 (d : Nat) (x : Int) (h0 : 0 ≤ x) (h1 : x ≤ 255) : Try.prog.keyLits (d + 1) 5 [.int .u8 x] = some [.int .u8 x] := by
  have hu : Try.prog.underlying 5 = some (.int .u8) := by kernel_rfl
  have hw : (Lit.int .u8 x).wf = true := by simp [Lit.wf, IntKind.min, IntKind.max, IntKind.signed, IntKind.bits]; omega
  unfold Program.keyLits
  simp [hu, hw]
theorem key_u32 (d : Nat) (x : Int) (h0 : 0 ≤ x) (h1 : x < 4294967296) : Try.prog.keyLits (d + 1) 27 [.int .u32 x] = some [.int .u32 x] := by
  have hu : Try.prog.underlying 27 = some (.int .u32) := by kernel_rfl
  have hw : (Lit.int .u32 x).wf = true := by simp [Lit.wf, IntKind.min, IntKind.max, IntKind.signed, IntKind.bits]; omega
  unfold Program.keyLits
  simp [hu, hw]
theorem flat_one {α : Type} : ∀ l : List α, (l.map (fun x => [x])).flatten = l
  | [] => rfl
  | x :: l => by simp [flat_one l]
theorem range_lits (l : List Int) : ((List.range l.length).map (fun i => [Lit.int .u8 (l.getD i 0)])).flatten = l.map (Lit.int .u8) := by
  have e : (List.range l.length).map (fun i => [Lit.int IntKind.u8 (l.getD i 0)]) = (l.map (Lit.int .u8)).map (fun x => [x]) := by
    apply List.ext_getElem
    · simp
    · intro i h1 h2
      simp at h1
      simp [List.getD_eq_getElem?_getD, h1]
  rw [e, flat_one]
theorem key_size : Try.prog.types.size + 1 = Try.prog.types.size - 2 + 3 := by
  have : 2 ≤ Try.prog.types.size := by decide +kernel
  omega
theorem keyRef (r : RefD) (h : r.Fine) : ∃ s, keyOf Try.prog 58 (.agg r.cells.toArray) = some (.string s) := by
  have hu := Try.underlying58
  have huH := Try.underlying31
  have hk : Try.prog.keyType 58 = true := by kernel_rfl
  have hc : Try.prog.cellsOf 58 = 33 := by kernel_rfl
  have hcH : Try.prog.cellsOf 31 = 32 := by kernel_rfl
  have hc8 : Try.prog.cellsOf 5 = 1 := by kernel_rfl
  have hc32 : Try.prog.cellsOf 27 = 1 := by kernel_rfl
  obtain ⟨m, hm⟩ : ∃ m, Try.prog.types.size + 1 = m + 3 := ⟨Try.prog.types.size - 2, key_size⟩
  have hlen : r.cells.length = 33 := RefD.cells_len h
  have hf : (Value.agg r.cells.toArray).formed Try.prog 58 = true := by
    rw [Value.formed, hu]
    simp [hc, hlen]
  have h32 : Try.prog.keyLits (m + 2) 31 (r.id.map (Value.int .u8)) = some ((r.id.map (Lit.int .u8))) := by
    unfold Program.keyLits
    simp only [huH, hcH, hc8, List.length_map, h.len, if_true]
    rw [mapM_all _ (fun i => [Lit.int .u8 (r.id.getD i 0)]) _ (fun i hi => ?_)]
    · rw [Option.map_some]
      refine congrArg some ?_
      rw [← h.len]
      exact range_lits r.id
    · have hi' : i < 32 := by simpa using hi
      obtain ⟨x, hx⟩ : ∃ x, r.id[i]? = some x := ⟨_, List.getElem?_eq_getElem (by rw [h.len]; exact hi')⟩
      have e : ((r.id.map (Value.int .u8)).drop (i * 1)).take 1 = [.int .u8 x] := by
        rw [Nat.mul_one, List.take_one, List.head?_drop, List.getElem?_map, hx]
        rfl
      have hr := h.byt x (List.mem_of_getElem? hx)
      rw [e, key_u8 _ x hr.1 hr.2]
      simp [List.getD_eq_getElem?_getD, hx]
  refine ⟨keyBytes (r.id.map (Lit.int .u8) ++ [.int .u32 r.at_]), ?_⟩
  rw [keyOf, hu]
  simp only [hk, hf, Bool.and_self, if_true]
  rw [hm]
  unfold Program.keyLits
  simp only [hu]
  have e1 : (r.cells.drop 0).take 32 = r.id.map (Value.int .u8) := by rw [List.drop_zero, RefD.cells, List.take_append_of_le_length (by simp [h.len]), List.take_of_length_le (by simp [h.len])]
  have e2 : (r.cells.drop 32).take 1 = [.int .u32 r.at_] := by rw [RefD.cells, List.drop_append_of_le_length (by simp [h.len]), List.drop_of_length_le (by simp [h.len])]; rfl
  have hk32 := key_u32 (m + 1) r.at_ h.at0 h.at1
  simp only [Value.cells, hlen, hc, List.mapM_cons, List.mapM_nil, hcH, hc32, e1, e2, h32, hk32]
  simp
theorem refKeyed : Keyed Try.prog 58 :=
  Keyed.of_law (deep_law_laid (m := 4) (by kernel_rfl) (by decide) (by decide +kernel) (by kernel_rfl) (by kernel_rfl))
theorem RefD.eqb_iff {a b : RefD} : a.eqb b = true ↔ a = b := by
  unfold RefD.eqb
  rcases a with ⟨i, n⟩
  rcases b with ⟨j, m⟩
  simp
/-- Block b is a map whose keys are these references. -/
def Seen (w : World) (b n : Nat) (seen : List RefD) : Prop :=
  ∃ D : DataW Unit, w.ownsMap Try.prog 58 (plainElem Try.prog 3) b n D ∧ Maps.IsMap D ∧
    ∀ r : RefD, r.Fine → ∀ s, keyOf Try.prog 58 (.agg r.cells.toArray) = some (.string s) → Maps.has D (.string s) = seen.any (fun q => q.eqb r)
theorem Seen.made (w : World) : Seen (w.alloc (.map #[] 0)) w.heap.size 0 [] :=
  ⟨.map [], World.ownsMap_made w _ _ _, Maps.isMap_empty, fun _ _ _ _ => rfl⟩
theorem Seen.only {w w' : World} {b n : Nat} {seen : List RefD} {F : Nat → Prop} (h : Seen w b n seen) (ho : Only F w w') (hb : ¬ F b) : Seen w' b n seen := by
  obtain ⟨D, ⟨es, clock, hm, r⟩, h2⟩ := h
  exact ⟨D, ⟨es, clock, (ho.block b (Array.getElem?_eq_some_iff.1 hm).1 hb).trans hm, r⟩, h2⟩
theorem Seen.lt {w : World} {b n : Nat} {seen : List RefD} (h : Seen w b n seen) : b < w.heap.size := by
  obtain ⟨D, h1, _⟩ := h
  exact h1.lt
theorem zero_int (w : World) : (zeroValue 3).run Try.prog w = .ok (.int .i64 0) w := by kernel_rfl
theorem wpList_seen_look (w : World) {ops : Array Oper} {rest : List Oper} {o : Oper} {a : Act} {Q : Exit → Act → World → Prop} (hg : o.guard = none) (m x : Operand) (hop : o.op = Op.lookup 153 m x true)
    (b n : Nat) (seen : List RefD) (hm : a.eval m = .map (some b)) (h : Seen w b n seen) (r : RefD) (hr : r.Fine) (hx : a.eval x = .agg r.cells.toArray)
    (hK : ∀ c : Int, wpList Try.prog ops Q rest (a.put o.dst (.tuple #[.int .i64 c, .bool (seen.any (fun q => q.eqb r))])) w) : wpList Try.prog ops Q (o :: rest) a w := by
  obtain ⟨D, h1, _, h3⟩ := h
  obtain ⟨s, hs⟩ := keyRef r hr
  refine wpList_lookup_own_ok_int w hg m x _ hop 58 3 .i64 refKeyed Try.underlying153 Try.underlying3 (zero_int w) b n D hm h1 _ _ hx hs (fun c _ _ => ?_)
  rw [h3 r hr s hs]
  exact hK c
theorem wpList_seen_put (w : World) {ops : Array Oper} {rest : List Oper} {o : Oper} {a : Act} {Q : Exit → Act → World → Prop} (hg : o.guard = none) (m x v : Operand) (hop : o.op = Op.mapUpdate 153 m x v)
    (b n : Nat) (seen : List RefD) (hm : a.eval m = .map (some b)) (h : Seen w b n seen) (hn : n ≤ 1000000) (r : RefD) (hr : r.Fine) (hx : a.eval x = .agg r.cells.toArray) (c : Int) (hv : a.eval v = .int .i64 c) (hc : (Lit.int .i64 c).wf = true)
    (hK : ∀ w', Seen w' b (n + 1) (seen ++ [r]) → Only (fun i => i = b) w w' → wpList Try.prog ops Q rest (a.put o.dst undef) w') : wpList Try.prog ops Q (o :: rest) a w := by
  obtain ⟨D, h1, h2, h3⟩ := h
  obtain ⟨s, hs⟩ := keyRef r hr
  refine wpList_mapUpdate_own w hg m x v _ hop 58 3 refKeyed Try.underlying153 (plainElem Try.prog 3) b n D hm h1 (by simp only [maxLen]; omega) _ _ _ hx hv hs _ _ (plainElem_int Try.underlying3 hc) (fun w' q1 q2 => ?_)
  refine hK w' ⟨_, q1, h2.put _ _, fun r' hr' s' hs' => ?_⟩ ((Only.refl _ w).grown q2 (fun g hg => .inr (Option.some.inj hg).symm))
  rw [List.any_append]
  by_cases e : r = r'
  · subst e
    have : Lit.string s' = Lit.string s := (Option.some.inj (hs.symm.trans hs')).symm
    rw [this, Maps.has_put_same h2 (refKeyed.key hs)]
    have : r.eqb r = true := RefD.eqb_iff.2 rfl
    simp [this]
  · have hne : Lit.string s' ≠ Lit.string s := fun e2 => by
      rw [e2] at hs'
      have h9 : (Value.agg r.cells.toArray).cells = (Value.agg r'.cells.toArray).cells := congrArg Value.cells (refKeyed.inj hs hs')
      exact e (RefD.cells_inj hr hr' (by simpa [Value.cells] using h9))
    rw [Maps.has_put_other hne, h3 r' hr' s' hs']
    have : r.eqb r' = false := by
      cases hq : r.eqb r' with
      | false => rfl
      | true => exact absurd (RefD.eqb_iff.1 hq) e
    simp [this]
end Go.Proofs.Ytbpmcnfmgaolnaa
