/-
  tx: the same transaction.
-/
import Derived.Test.YtfloclamdpageaaTxC
import Derived.Test.YtfloclamdpageaaCoinD
import Derived.Test.YtfloclamdpageaaRefSeal
namespace Go.Proofs.Ytfloclamdpageaa
open Go.RowKit

def InD.same (a b : InD) : Bool := decide (a.ref.id = b.ref.id ∧ a.ref.at_ = b.ref.at_) && (decide (a.unlock = b.unlock) && decide (a.order = b.order))
attribute [local go_sem ↓] loadIn_fold loadRef_fold loadTx_fold eqlRef_fold neqRef_fold
theorem wp_in_facts {w : World} {b : Nat} {a : InV} (h : Blk w b 68 a.cells) (hf : a.ref.Fine) : (loadRef ⟨b, 0, none⟩).run Try.prog w = .ok (.agg a.ref.cells.toArray) w ∧ w.cell? ⟨b, 33, none⟩ = some (.slice a.A a.n a.c) ∧ w.cell? ⟨b, 34, none⟩ = some (.int .u32 a.order) :=
  ⟨loadRef_run w b 0 a.ref (InV.range_ref h.whole) hf, InV.c33 h.whole hf, InV.c34 h.whole hf⟩
set_option maxHeartbeats 4000000 in
set_option maxRecDepth 100000 in
theorem sameIn_any (w : World) (a b : InV) (ha : a.Fine w) (hb : b.Fine w) :
    Calls Try.prog 77 #[.agg a.cells.toArray, .agg b.cells.toArray] w fun e w' => e = .returned (.bool (a.d.same b.d)) ∧ Below w.heap.size w w' := by
  have A0 := (Blk.new w 68 a.cells).alloc (.cells b.cells.toArray 68)
  have B0 := Blk.new1 w (.cells a.cells.toArray 68) 68 b.cells
  have hbl : Below w.heap.size w ((w.alloc (.cells a.cells.toArray 68)).alloc (.cells b.cells.toArray 68)) := Below.then_ ((Below.refl _ w).alloc (Nat.le_refl _) _) ((Below.refl _ _).alloc (Nat.le_refl _) _)
  obtain ⟨a1, a2, a3⟩ := wp_in_facts A0 ha.ref
  obtain ⟨b1, b2, b3⟩ := wp_in_facts B0 hb.ref
  have q1 := fun w => eqlRef_run a.ref b.ref ha.ref hb.ref w
  have HAB := hide (ha.bys.below hbl)
  have HBB := hide (hb.bys.below hbl)
  have HBL := hide hbl
  clear A0 B0 hbl
  go_enter Try.func77, Try.ntmps77
  by_cases h1 : a.ref.id = b.ref.id ∧ a.ref.at_ = b.ref.at_
  · have d1 : decide (a.ref.id = b.ref.id ∧ a.ref.at_ = b.ref.at_) = true := by simp [h1]
    have HS : Hid (a.d.same b.d = (decide (a.bs = b.bs) && decide (a.order = b.order))) := hide (by show (decide (a.ref.id = b.ref.id ∧ a.ref.at_ = b.ref.at_) && _) = _; rw [d1]; rfl)
    rw [d1] at q1
    clear h1 d1
    go_wp2_with fail
    refine (Equal_any _ a.A b.A a.n a.c b.n b.c a.bs b.bs HAB.out HBB.out).mono ?_
    rintro e w2 ⟨rfl, rfl⟩
    by_cases h2 : a.bs = b.bs
    · have d2 : decide (a.bs = b.bs) = true := by simp [h2]
      rw [d2] at HS ⊢
      clear h2 d2
      by_cases h3 : a.order = b.order
      · have d3 : (a.order == b.order) = true := by simp [h3]
        have d4 : decide (a.order = b.order) = true := by simp [h3]
        rw [d4] at HS
        go_wp2_with fail
        go_ret
        exact ⟨by rw [HS.out]; rfl, HBL.out⟩
      · have d3 : (a.order == b.order) = false := by simp [h3]
        have d4 : decide (a.order = b.order) = false := by simp [h3]
        rw [d4] at HS
        go_wp2_with fail
        go_ret
        exact ⟨by rw [HS.out]; rfl, HBL.out⟩
    · have d2 : decide (a.bs = b.bs) = false := by simp [h2]
      rw [d2] at HS ⊢
      go_wp2_with fail
      go_ret
      exact ⟨by rw [HS.out]; rfl, HBL.out⟩
  · have d1 : decide (a.ref.id = b.ref.id ∧ a.ref.at_ = b.ref.at_) = false := by simpa using h1
    have HS : Hid (a.d.same b.d = false) := hide (by show (decide (a.ref.id = b.ref.id ∧ a.ref.at_ = b.ref.at_) && _) = _; rw [d1]; rfl)
    rw [d1] at q1
    clear h1 d1
    go_wp2_with fail
    go_ret
    exact ⟨by rw [HS.out]; rfl, HBL.out⟩
def sameL {α : Type} (f : α → α → Bool) : List α → List α → Bool
  | [], [] => true
  | a :: l, b :: m => f a b && sameL f l m
  | _, _ => false
theorem sameL_len {α : Type} (f : α → α → Bool) : ∀ (l m : List α), l.length ≠ m.length → sameL f l m = false
  | [], [], h => absurd rfl h
  | [], _ :: _, _ => rfl
  | _ :: _, [], _ => rfl
  | a :: l, b :: m, h => by rw [sameL, sameL_len f l m (by simpa using h)]; simp
theorem sameL_drop {α : Type} (f : α → α → Bool) (l m : List α) (j : Nat) (a b : α) (ha : l[j]? = some a) (hb : m[j]? = some b) : sameL f (l.drop j) (m.drop j) = (f a b && sameL f (l.drop (j + 1)) (m.drop (j + 1))) := by
  obtain ⟨h1, h2⟩ := List.getElem?_eq_some_iff.1 ha
  obtain ⟨h3, h4⟩ := List.getElem?_eq_some_iff.1 hb
  rw [List.drop_eq_getElem_cons h1, List.drop_eq_getElem_cons h3, h2, h4, sameL]
set_option maxHeartbeats 4000000 in
set_option maxRecDepth 100000 in
theorem EqIn_any (w : World) (A B : Option Addr) (n c m d : Nat) (xs ys : List InV) (hX : InsIn w A n xs) (hY : InsIn w B m ys) (hn : n ≤ 1000) (_hm : m ≤ 1000) :
    Calls Try.prog 76 #[.slice A n c, .slice B m d, .func (.func 77) #[] #[]] w fun e w' => e = .returned (.bool (sameL InD.same (xs.map InV.d) (ys.map InV.d))) ∧ Below w.heap.size w w' := by
  have HX := hide hX
  have HY := hide hY
  have HN := hide hn
  have hI := isIn
  have lz : zeroI.cells.length = 35 := rfl
  by_cases hnm : n = m
  · subst hnm
    have heq : ((n : Int) == (n : Int)) = true := by simp
    clear hX hY hn
    go_enter Try.func76, Try.ntmps76
    go_wp2_with fail
    go_loopw [17] (fun i wr => ∃ j : Nat, j ≤ n ∧ i = .int .i64 j ∧ Below w.heap.size w wr ∧ sameL InD.same (xs.map InV.d) (ys.map InV.d) = sameL InD.same ((xs.map InV.d).drop j) ((ys.map InV.d).drop j)) (fun i _ => n - (intOf i).toNat)
    case atStart => exact ⟨0, by omega, rfl, Below.refl _ _, rfl⟩
    case round =>
      obtain ⟨j, hj, rfl, hb, hs⟩ := hrel
      have HS := hide hs
      have HB := hide hb
      by_cases hlt : j < n
      · obtain ⟨a, ha⟩ : ∃ a, xs[j]? = some a := ⟨_, List.getElem?_eq_getElem (by have := HX.out.1; omega)⟩
        obtain ⟨b, hbb⟩ : ∃ b, ys[j]? = some b := ⟨_, List.getElem?_eq_getElem (by have := HY.out.1; omega)⟩
        have haf := HX.out.2.1 a (List.mem_of_getElem? ha)
        have hbf := HY.out.2.1 b (List.mem_of_getElem? hbb)
        obtain ⟨pa, oa, rfl, hra⟩ := HX.out.2.2 (by omega)
        obtain ⟨pb, ob, rfl, hrb⟩ := HY.out.2.2 (by omega)
        have hld := loadIn_run wr pa (oa + j * 35) a (range_under (hra j a ha) hb) haf.ref
        have hrb2 := hide (range_under (hrb j b hbb) hb)
        have hdr := hide (sameL_drop InD.same (xs.map InV.d) (ys.map InV.d) j a.d b.d (by simp [ha]) (by simp [hbb]))
        have la : a.cells.length = 35 := InV.cells_len haf.ref
        have lb : b.cells.length = 35 := InV.cells_len hbf.ref
        have HAF := hide (haf.below hb)
        have HBF := hide (hbf.below hb)
        have KZ := hide (Blk.new wr 68 zeroI.cells)
        have i0 : (0 : Int) ≤ (j : Int) := by omega
        have i1 : (j : Int) < (n : Int) := by omega
        have hj9 : (j : Int) ≤ 1000 := by have := HN.out; omega
        clear ha hbb haf hbf hra hrb hs hb
        go_wp2_with (first
          | (refine wpList_alloc_agg rfl 68 rfl zeroI.cells zeroIn_info ?_; simp only [Act.put, List.setIfInBounds_toArray, List.set_cons_zero, List.set_cons_succ])
          | (refine wpList_store_blk rfl 68 _ _ rfl wr.heap.size 0 68 zeroI.cells a.cells (by rfl) (by rfl) KZ.out (by rw [lz, la]; decide) (by rw [hI, la]) (InV.one a) ?_; intro w5 o5 z5 b5; rw [lay_all zeroI.cells _ (by rw [lz, la])] at b5; have hb5 : Below wr.heap.size wr w5 := Below.trans ((Below.refl _ wr).alloc (Nat.le_refl _) _) (o5.below (by simp) (fun i hi e => by have h9 : i = wr.heap.size := e; omega)); have hld2 := loadIn_run w5 pb (ob + j * 35) b (range_under hrb2.out hb5) HBF.out.ref; have KZ2 := hide (Blk.new w5 68 zeroI.cells); have B5 := hide b5; have HB5 := hide hb5; clear o5 z5 b5 hb5; simp only [Act.put])
          | (refine wpList_store_blk rfl 68 _ _ rfl w5.heap.size 0 68 zeroI.cells b.cells (by rfl) (by rfl) KZ2.out (by rw [lz, lb]; decide) (by rw [hI, lb]) (InV.one b) ?_; intro w6 o6 z6 b6; rw [lay_all zeroI.cells _ (by rw [lz, lb])] at b6; have hb6 : Below w5.heap.size w5 w6 := Below.trans ((Below.refl _ w5).alloc (Nat.le_refl _) _) (o6.below (by simp) (fun i hi e => by have h9 : i = w5.heap.size := e; omega)); have l1 := loadIn_run w6 wr.heap.size 0 a (B5.out.under hb6).whole HAF.out.ref; have l2 := loadIn_run w6 w5.heap.size 0 b b6.whole HBF.out.ref; have HB6 := hide (Below.then_ HB5.out hb6); clear o6 z6 b6 hb6; simp only [Act.put]))
        refine (sameIn_any w6 a b (HAF.out.below HB6.out) (HBF.out.below HB6.out)).mono ?_
        rintro e w7 ⟨rfl, hb7⟩
        have HB7 := hide (Below.then_ HB.out (Below.then_ HB6.out hb7))
        clear l1 l2 hb7
        by_cases hab : a.d.same b.d = true
        · rw [hab] at hdr ⊢
          go_wp2_with fail
          exact ⟨⟨j + 1, by omega, by simp, HB7.out, by rw [HS.out, hdr.out]; rfl⟩, by simp [intOf]; omega⟩
        · have hab' : a.d.same b.d = false := by simpa using hab
          rw [hab'] at hdr ⊢
          go_wp2_with fail
          go_ret
          exact ⟨by rw [HS.out, hdr.out]; rfl, HB7.out⟩
      · obtain rfl : n = j := by omega
        have hjn : ¬ (n : Int) < (n : Int) := by omega
        have hx : (xs.map InV.d).drop n = [] := List.drop_of_length_le (by rw [List.length_map, HX.out.1]; exact Nat.le_refl _)
        have hy : (ys.map InV.d).drop n = [] := List.drop_of_length_le (by rw [List.length_map, HY.out.1]; exact Nat.le_refl _)
        clear hs hb
        go_wp2_with fail
        go_ret
        exact ⟨by rw [HS.out, hx, hy]; rfl, HB.out⟩
  · have heq : ((n : Int) == (m : Int)) = false := by simp; omega
    have hne : sameL InD.same (xs.map InV.d) (ys.map InV.d) = false := sameL_len _ _ _ (by rw [List.length_map, List.length_map, hX.1, hY.1]; exact hnm)
    have HNE := hide hne
    clear hX hY hn hne
    go_enter Try.func76, Try.ntmps76
    go_wp2_with fail
    go_ret
    exact ⟨by rw [HNE.out]; rfl, Below.refl _ _⟩
set_option maxHeartbeats 4000000 in
set_option maxRecDepth 100000 in
theorem EqOut_any (w : World) (A B : Option Addr) (n c m d : Nat) (xs ys : List OutV) (hX : OutsIn w A n xs) (hY : OutsIn w B m ys) (hn : n ≤ 1000) (_hm : m ≤ 1000) :
    Calls Try.prog 78 #[.slice A n c, .slice B m d, .func (.func 30) #[] #[]] w fun e w' => e = .returned (.bool (sameL OutD.same (xs.map OutV.d) (ys.map OutV.d))) ∧ Below w.heap.size w w' := by
  have HX := hide hX
  have HY := hide hY
  have HN := hide hn
  by_cases hnm : n = m
  · subst hnm
    have heq : ((n : Int) == (n : Int)) = true := by simp
    clear hX hY hn
    go_enter Try.func78, Try.ntmps78
    go_wp2_with fail
    go_loopw [17] (fun i wr => ∃ j : Nat, j ≤ n ∧ i = .int .i64 j ∧ Below w.heap.size w wr ∧ sameL OutD.same (xs.map OutV.d) (ys.map OutV.d) = sameL OutD.same ((xs.map OutV.d).drop j) ((ys.map OutV.d).drop j)) (fun i _ => n - (intOf i).toNat)
    case atStart => exact ⟨0, by omega, rfl, Below.refl _ _, rfl⟩
    case round =>
      obtain ⟨j, hj, rfl, hb, hs⟩ := hrel
      have HS := hide hs
      have HB := hide hb
      by_cases hlt : j < n
      · obtain ⟨a, ha⟩ : ∃ a, xs[j]? = some a := ⟨_, List.getElem?_eq_getElem (by have := HX.out.1; omega)⟩
        obtain ⟨b, hbb⟩ : ∃ b, ys[j]? = some b := ⟨_, List.getElem?_eq_getElem (by have := HY.out.1; omega)⟩
        have haf := HX.out.2.1 a (List.mem_of_getElem? ha)
        have hbf := HY.out.2.1 b (List.mem_of_getElem? hbb)
        obtain ⟨pa, oa, rfl, hra⟩ := HX.out.2.2 (by omega)
        obtain ⟨pb, ob, rfl, hrb⟩ := HY.out.2.2 (by omega)
        have ra := range_under (hra j a ha) hb
        have rb := range_under (hrb j b hbb) hb
        have ka0 := rangeAt_c0 ra
        have ka1 := rangeAt_c1 ra
        have hw5 : Below wr.heap.size wr (wr.alloc (.cells #[.int .i64 a.v, .slice a.A a.n a.c] 24)) := (Below.refl _ wr).alloc (Nat.le_refl _) _
        have kb0 := cell_under hw5 (rangeAt_c0 rb)
        have kb1 := cell_under hw5 (rangeAt_c1 rb)
        have hdr := hide (sameL_drop OutD.same (xs.map OutV.d) (ys.map OutV.d) j a.d b.d (by simp [ha]) (by simp [hbb]))
        have HAF := hide (haf.below hb)
        have HBF := hide (hbf.below hb)
        have HB6 := hide (show Below wr.heap.size wr ((wr.alloc (.cells #[.int .i64 a.v, .slice a.A a.n a.c] 24)).alloc (.cells #[.int .i64 b.v, .slice b.A b.n b.c] 24)) from Below.then_ hw5 ((Below.refl _ _).alloc (Nat.le_refl _) _))
        clear hw5 ra rb
        have i0 : (0 : Int) ≤ (j : Int) := by omega
        have i1 : (j : Int) < (n : Int) := by omega
        have hj9 : (j : Int) ≤ 1000 := by have := HN.out; omega
        clear ha hbb haf hbf hra hrb hs hb
        go_wp2_with fail
        refine (Same_any _ a b (HAF.out.below HB6.out) (HBF.out.below HB6.out)).mono ?_
        rintro e w7 ⟨rfl, hb7⟩
        have HB7 := hide (Below.then_ HB.out (Below.then_ HB6.out hb7))
        clear hb7
        by_cases hab : a.d.same b.d = true
        · rw [hab] at hdr ⊢
          go_wp2_with fail
          exact ⟨⟨j + 1, by omega, by simp, HB7.out, by rw [HS.out, hdr.out]; rfl⟩, by simp [intOf]; omega⟩
        · have hab' : a.d.same b.d = false := by simpa using hab
          rw [hab'] at hdr ⊢
          go_wp2_with fail
          go_ret
          exact ⟨by rw [HS.out, hdr.out]; rfl, HB7.out⟩
      · obtain rfl : n = j := by omega
        have hjn : ¬ (n : Int) < (n : Int) := by omega
        have hx : (xs.map OutV.d).drop n = [] := List.drop_of_length_le (by rw [List.length_map, HX.out.1]; exact Nat.le_refl _)
        have hy : (ys.map OutV.d).drop n = [] := List.drop_of_length_le (by rw [List.length_map, HY.out.1]; exact Nat.le_refl _)
        clear hs hb
        go_wp2_with fail
        go_ret
        exact ⟨by rw [HS.out, hx, hy]; rfl, HB.out⟩
  · have heq : ((n : Int) == (m : Int)) = false := by simp; omega
    have hne : sameL OutD.same (xs.map OutV.d) (ys.map OutV.d) = false := sameL_len _ _ _ (by rw [List.length_map, List.length_map, hX.1, hY.1]; exact hnm)
    have HNE := hide hne
    clear hX hY hn hne
    go_enter Try.func78, Try.ntmps78
    go_wp2_with fail
    go_ret
    exact ⟨by rw [HNE.out]; rfl, Below.refl _ _⟩
def TxD.same (a b : TxD) : Bool := decide (a.version = b.version) && (sameL InD.same a.ins b.ins && (sameL OutD.same a.outs b.outs && decide (a.until_ = b.until_)))
set_option maxHeartbeats 4000000 in
set_option maxRecDepth 100000 in
theorem TSame_any (w : World) (a b : TxV) (ha : a.Fine w) (hb : b.Fine w) (sa : a.Small) (sb : b.Small) :
    Calls Try.prog 51 #[.agg a.cells.toArray, .agg b.cells.toArray] w fun e w' => e = .returned (.bool (a.d.same b.d)) ∧ Below w.heap.size w w' := by
  have A0 := (Blk.new w 65 a.cells).alloc (.cells b.cells.toArray 65)
  have B0 := Blk.new1 w (.cells a.cells.toArray 65) 65 b.cells
  have hw : Below w.heap.size w ((w.alloc (.cells a.cells.toArray 65)).alloc (.cells b.cells.toArray 65)) := Below.then_ ((Below.refl _ w).alloc (Nat.le_refl _) _) ((Below.refl _ _).alloc (Nat.le_refl _) _)
  have HA := hide (ha.below hw)
  have HB := hide (hb.below hw)
  have HW := hide hw
  have a0 := A0.c0
  have a1 := A0.c1
  have b0 := B0.c0
  have b1 := B0.c1
  have HA0 := hide A0
  have HB0 := hide B0
  have HS : Hid (a.d.same b.d = (decide (a.version = b.version) && (sameL InD.same (a.ins.map InV.d) (b.ins.map InV.d) && (sameL OutD.same (a.outs.map OutV.d) (b.outs.map OutV.d) && decide (a.until_ = b.until_))))) := hide rfl
  have SA := hide sa
  have SB := hide sb
  clear A0 B0 hw ha hb sa sb
  by_cases h1 : a.version = b.version
  · have d1 : (a.version == b.version) = true := by simp [h1]
    have d1' : decide (a.version = b.version) = true := by simp [h1]
    rw [d1'] at HS
    clear h1 d1'
    go_enter Try.func51, Try.ntmps51
    go_wp2_with fail
    refine (EqIn_any _ a.iA b.iA a.iN a.iC b.iN b.iC a.ins b.ins HA.out.ins HB.out.ins SA.out.ins SB.out.ins).mono ?_
    rintro e w2 ⟨rfl, hb2⟩
    obtain ⟨x, hx⟩ : ∃ x, x = sameL InD.same (a.ins.map InV.d) (b.ins.map InV.d) := ⟨_, rfl⟩
    rw [← hx] at HS ⊢
    have a2 := (HA0.out.under hb2).c2
    have b2 := (HB0.out.under hb2).c2
    have HB2 := hide hb2
    clear hx hb2 a0 a1 b0 b1 d1
    cases x with
    | true =>
      go_wp2_with fail
      refine (EqOut_any _ a.oA b.oA a.oN a.oC b.oN b.oC a.outs b.outs (HA.out.outs.below' HB2.out) (HB.out.outs.below' HB2.out) SA.out.outs SB.out.outs).mono ?_
      rintro e w3 ⟨rfl, hb3⟩
      obtain ⟨y, hy⟩ : ∃ y, y = sameL OutD.same (a.outs.map OutV.d) (b.outs.map OutV.d) := ⟨_, rfl⟩
      rw [← hy] at HS ⊢
      have a3 := (HA0.out.under (Below.then_ HB2.out hb3)).c3
      have b3 := (HB0.out.under (Below.then_ HB2.out hb3)).c3
      have HB3 := hide (Below.then_ HW.out (Below.then_ HB2.out hb3))
      clear hy hb3 a2 b2
      cases y with
      | true =>
        by_cases h4 : a.until_ = b.until_
        · have d4 : (a.until_ == b.until_) = true := by simp [h4]
          have d4' : decide (a.until_ = b.until_) = true := by simp [h4]
          rw [d4'] at HS
          clear h4 d4'
          go_wp2_with fail
          go_ret
          exact ⟨by rw [HS.out]; rfl, HB3.out⟩
        · have d4 : (a.until_ == b.until_) = false := by simp [h4]
          have d4' : decide (a.until_ = b.until_) = false := by simp [h4]
          rw [d4'] at HS
          clear h4 d4'
          go_wp2_with fail
          go_ret
          exact ⟨by rw [HS.out]; rfl, HB3.out⟩
      | false =>
        go_wp2_with fail
        go_ret
        exact ⟨by rw [HS.out]; rfl, HB3.out⟩
    | false =>
      go_wp2_with fail
      go_ret
      exact ⟨by rw [HS.out]; rfl, Below.then_ HW.out HB2.out⟩
  · have d1 : (a.version == b.version) = false := by simp [h1]
    have d1' : decide (a.version = b.version) = false := by simp [h1]
    rw [d1'] at HS
    clear h1 d1'
    go_enter Try.func51, Try.ntmps51
    go_wp2_with fail
    go_ret
    exact ⟨by rw [HS.out]; rfl, HW.out⟩
end Go.Proofs.Ytfloclamdpageaa
