import Derived.Test.YtbpmcnfmgaolnaaPk25
/-
  Waiting: those upon one are taken.
-/
namespace Go.Proofs.Ytbpmcnfmgaolnaa
open Go.RowKit

theorem BRow.lower {base lo : Nat} {w : World} {A : Option Addr} {n c : Nat} {xs : List BlkV} (h : BRow base w A n c xs) (hl : lo ≤ base) : BRow lo w A n c xs := by
  refine ⟨h.len, h.cap, Nat.le_trans hl h.low, ⟨h.row.1, ?_⟩, fun x hx => (h.keep x hx).mono fun i _ hf => hf.imp (fun h => by omega) id, h.good⟩
  rcases h.row.2 with h1 | ⟨g, cap, cur, h1, h2, h3⟩
  · exact .inl h1
  · exact .inr ⟨g, cap, cur, h1, Nat.le_trans hl h2, h3⟩
theorem blk_prev {w : World} {g : Nat} {t : TypeId} {b : BlkV} (hb : Blk w g t b.cells) (hf : b.head.Fine) : w.rangeAt g 1 (bcs b.head.prev) := by
  obtain ⟨b9, o9, h1, h2⟩ := (head_prev (l := [.slice b.A b.n b.c]) hb hf).2.2 (by decide)
  injection h1 with h1
  injection h1 with h1 h3 _
  subst h1; subst h3
  intro j v hv
  rw [bcs, List.getElem?_map] at hv
  obtain ⟨a, ha, rfl⟩ := Option.map_eq_some_iff.1 hv
  exact h2 j a ha
/-- No two have one name. -/
def Sole (L : List BlkD) : Prop := (L.map fun b => sha2 b.head.bytes).Nodup
theorem hasD_iff (L : List BlkD) (H : List Int) : hasD L H = true ↔ H ∈ L.map fun b => sha2 b.head.bytes := by
  rw [hasD, List.any_eq_true, List.mem_map]
  constructor
  · rintro ⟨x, hx, h⟩; exact ⟨x, hx, by simpa using h⟩
  · rintro ⟨x, hx, h⟩; exact ⟨x, hx, by simpa using h⟩
theorem addD_sole {L : List BlkD} {b : BlkD} (h : Sole L) : Sole (addD L b).1 := by
  unfold addD
  by_cases hq : hasD L (sha2 b.head.bytes) = true
  · rw [if_pos hq]; exact h
  · rw [if_neg hq]
    have hn : sha2 b.head.bytes ∉ L.map fun b => sha2 b.head.bytes := fun h9 => hq ((hasD_iff _ _).2 h9)
    have hs : ∀ K : List BlkD, K.Sublist L → Sole (K ++ [b]) := fun K hK => by
      rw [Sole, List.map_append, List.nodup_append]
      refine ⟨h.sublist (hK.map _), by simp, fun x hx y hy => ?_⟩
      rw [List.map_singleton, List.mem_singleton] at hy
      rw [hy]
      rintro rfl
      exact hn ((hK.map _).subset hx)
    by_cases h8 : L.length = 8
    · rw [if_pos h8]; exact hs _ (List.tail_sublist L)
    · rw [if_neg h8]; exact hs _ (List.Sublist.refl L)
theorem sole_nil : Sole [] := List.nodup_nil
theorem Sole.sublist {K L : List BlkD} (h : Sole L) (hK : K.Sublist L) : Sole K := List.Nodup.sublist (hK.map _) h
/-- One that is not there, where there is room. -/
theorem addD_new {K : List BlkD} {b : BlkD} (h : Sole (K ++ [b])) (hl : K.length < 8) : addD K b = (K ++ [b], true) := by
  have hn : ¬ hasD K (sha2 b.head.bytes) = true := fun h9 => by
    rw [hasD_iff] at h9
    rw [Sole, List.map_append, List.nodup_append] at h
    exact h.2.2 _ h9 _ (by simp) rfl
  rw [addD, if_neg hn, if_neg (by omega)]
def upon (prev : List Int) (b : BlkD) : Bool := b.head.prev == prev
def takeD (L : List BlkD) (prev : List Int) : List BlkD × List BlkD := (L.filter (upon prev), L.filter fun b => !upon prev b)
theorem filter_next {α : Type} (p : α → Bool) (L : List α) (j : Nat) (x : α) (h : L[j]? = some x) : (L.take (j + 1)).filter p = (L.take j).filter p ++ if p x then [x] else [] := by
  rw [List.take_add_one, h, List.filter_append]
  by_cases hp : p x <;> simp [hp]
theorem filter_room {α : Type} (p : α → Bool) (L : List α) (j : Nat) (hL : L.length ≤ 8) (hj : j < L.length) : ((L.take j).filter p).length < 8 := by
  have h1 := List.length_filter_le p (L.take j)
  have h2 := List.length_take_le j L
  omega
def loadW (a : Addr) : Sem Value := loadVar 107 a
theorem loadW_fold (a : Addr) : loadVar 107 a = loadW a := rfl
theorem isW : (Try.prog.info? 107).map (·.size) = some 554 := by kernel_rfl
theorem loadW_run (w : World) (g : Nat) (cs : List Value) (h : Blk w g 107 cs) (hl : cs.length = 554) : (loadW ⟨g, 0, none⟩).run Try.prog w = .ok (.agg cs.toArray) w :=
  run_loadVar_mid w g 0 _ cs _ h.whole Try.underlying107 rfl (by rw [isW, hl])
theorem ring_one (its : List BlkV) (f m : Nat) : ∀ v ∈ ringCells its f m, v.oneCell' = true := by
  intro v hv
  rcases List.mem_append.1 hv with h | h
  · obtain ⟨b, _, hb⟩ := List.mem_flatMap.1 h
    exact b.one v hb
  · simp only [List.mem_cons, List.mem_nil_iff, or_false] at h
    rcases h with rfl | rfl <;> rfl
theorem RingIs.turn {w w' : World} {g : Nat} {P Q : Nat → Prop} {L : List BlkD} (h : RingIs w g P L) {F : Nat → Prop} (ho : Only F w w') (hF : ∀ i, i < w.heap.size → F i → P i) (hg : ¬ F g) (hQ : ∀ i, i < w.heap.size → Q i → P i) : RingIs w' g Q L := by
  obtain ⟨its, f, m, h, hL⟩ := h
  exact ⟨its, f, m, ⟨ho.blk h.blk hg, h.len, h.fl, h.ml, fun b hb => (h.keep b hb).step (ho.mono fun i hi hf => .inr (hF i hi hf)) (fun i hi hf => hf.imp id (hQ i hi)), h.good⟩, hL⟩
attribute [local go_sem ↓] loadBlk_fold loadHash_fold eqlHash_fold mkBs1_fold loadW_fold
def TakePost (w : World) (g : Nat) (P : Nat → Prop) (L : List BlkD) (prev : List Int) (e : Ending) (w' : World) : Prop :=
  ∃ (A : Option Addr) (n c : Nat) (ys : List BlkV), e = .returned (.slice A n c) ∧ BRow w.heap.size w' A n c ys ∧ ys.map BlkV.d = (takeD L prev).1 ∧ RingIs w' g P (takeD L prev).2 ∧ Only (fun i => i = g) w w'
set_option maxHeartbeats 4000000 in
set_option maxRecDepth 100000 in
theorem Take_any (w : World) (g : Nat) (P : Nat → Prop) (L : List BlkD) (prev : List Int) (hR : RingIs w g P L) (hS : Sole L) (hl : prev.length = 32) (hP : ∀ i, P i → i < w.heap.size) :
    Calls Try.prog 20 #[.pointer (some ⟨g, 0, none⟩), .agg (bcs prev).toArray] w (TakePost w g P L prev) := by
  have b1 : Below w.heap.size w (w.alloc (.cells (bcs prev).toArray 31)) := below_alloc (Below.refl _ _) _
  have R1 := hide (hR.under b1)
  have B1 := hide b1
  have K1 := hide (Blk.new w 31 (bcs prev))
  have HLT := hide hR.lt
  have HS := hide hS
  have HL := hide hl
  have HPP := hide hP
  have H8 := hide hR.len
  have CG := hide (show ∃ cs : List Value, cs.length = 554 ∧ Blk w g 107 cs by obtain ⟨its, f, m, h1, _⟩ := hR; exact ⟨_, h1.cells_len, h1.blk⟩)
  clear hR hS hl hP b1
  go_enter Try.func20, Try.ntmps20
  go_wp2_with fail
  refine (WNewD_any _).mono ?_
  rintro e w2 ⟨g2, rfl, hg2, b2, hr2⟩
  have B2 := hide (Below.then_ B1.out b2)
  have R2 := hide (R1.out.under b2)
  have K2 := hide (K1.out.under b2)
  have HG2 := hide (show w.heap.size < g2 by simp at hg2; omega)
  have N2 := hide (hr2 (fun i => i = g ∨ P i))
  clear hg2 b2 hr2 R1 K1
  go_wp2_with fail
  refine (All_any w2 g P L R2.out).mono ?_
  rintro e w3 ⟨A, c, xs, rfl, hx, hd, b3⟩
  have X3 := hide hx
  have XD := hide hd
  have K3 := hide (K2.out.under b3)
  have N3 := hide (N2.out.under b3)
  have B3 := hide (Below.then_ B2.out b3)
  have B23 := hide b3
  have G2 := hide N2.out.lt
  clear hx hd b3 K2 R2
  obtain ⟨n, hn⟩ : ∃ n, n = L.length := ⟨_, rfl⟩
  rw [← hn] at X3 ⊢
  have HN := hide hn
  have n9 : (n : Int) ≤ 8 := by have := H8.out; omega
  clear hn
  go_wp2_with fail
  go_loopw [5, 13] (fun v i ws => ∃ (j : Nat) (A4 : Option Addr) (k c4 : Nat) (ys : List BlkV), j ≤ n ∧ i = .int .i64 (j : Int) ∧ v = .slice A4 k c4 ∧ BRow w2.heap.size ws A4 k c4 ys ∧ (∀ q, (Value.slice A4 k c4).ownBlock = some q → w3.heap.size ≤ q) ∧ ys.map BlkV.d = (L.take j).filter (upon prev) ∧
    RingIs ws g2 (fun i => i = g ∨ P i ∨ (Value.slice A4 k c4).ownBlock = some i) ((L.take j).filter fun b => !upon prev b) ∧ Only (fun i => i = g2) w3 ws) (fun _ i _ => n - (intOf i).toNat)
  case atStart => exact ⟨0, none, 0, 0, [], by omega, rfl, rfl, BRow.nil B23.out.size, (fun q h => by cases h), rfl, N3.out.mono (fun i _ h => by rcases h with h | h | h; exact .inl h; exact .inr h; cases h), Only.refl _ _⟩
  case round =>
    obtain ⟨j, A4, k, c4, ys, hj, rfl, rfl, hb, hown, hyd, hri, ho⟩ := hrel
    have HB := hide hb
    have HOWN := hide hown
    have HYD := hide hyd
    have HRI := hide hri
    have HO := hide ho
    have HX := hide (X3.out.step ho (fun i _ h => by have h9 : i = g2 := h; have := G2.out; omega))
    have KR := hide (ho.blk K3.out (fun e => by have := HG2.out; omega))
    have BR := hide (B3.out.trans (ho.below B3.out.size fun i hi e => by have h9 : i = g2 := e; have := HG2.out; omega))
    clear hb hown hyd hri ho
    by_cases hlt : j < n
    · obtain ⟨pb, off, hA, hrow⟩ := HX.out.in_.2.2 (by omega)
      subst hA
      obtain ⟨x, hx⟩ : ∃ x, xs[j]? = some x := ⟨_, List.getElem?_eq_getElem (by have := X3.out.len; omega)⟩
      have HXL := hide (show L[j]? = some x.d by rw [← XD.out, List.getElem?_map, hx]; rfl)
      have XF := hide (HX.out.fine x (List.mem_of_getElem? hx))
      have XG := hide (X3.out.good x (List.mem_of_getElem? hx))
      have XK := hide (X3.out.keep x (List.mem_of_getElem? hx))
      have i0 : (0 : Int) ≤ (j : Int) := by omega
      have i1 : (j : Int) < (n : Int) := by omega
      have hj9 := hide (show j < n from hlt)
      have hld := loadBlk_run wr pb (off + j * 69) x (hrow j x hx) XF.out.head
      have KZ := hide (Blk.new wr 40 zeroB.cells)
      obtain ⟨Y, hY⟩ : ∃ Y, Y = x.head.prev := ⟨_, rfl⟩
      have HY := hide hY
      have YL := hide (show Y.length = 32 by rw [hY]; exact XF.out.head.plen)
      have HPV := hide (show upon prev x.d = (Y == prev) by rw [hY]; rfl)
      have hF1 := filter_next (upon prev) L j x.d HXL.out
      have hF2 := filter_next (fun b => !upon prev b) L j x.d HXL.out
      simp only [HPV.out] at hF1 hF2
      have HF1 := hide hF1
      have HF2 := hide hF2
      have HK8 := hide (show k < 8 by have h1 := HB.out.len; have h2 := congrArg List.length HYD.out; have h3 := filter_room (upon prev) L j H8.out (by have := HN.out; omega); rw [List.length_map] at h2; omega)
      clear hx hrow hlt hY hF1 hF2
      go_wp2_with (first
        | (refine wpList_alloc_agg rfl 40 rfl zeroB.cells zeroBlk_info ?_; simp only [Act.put, List.setIfInBounds_toArray, List.set_cons_zero, List.set_cons_succ])
        | (refine wpList_store_bk rfl _ _ rfl wr.heap.size zeroB x zeroH_fine XF.out.head (by rfl) (by rfl) KZ.out ?_; intro w5 o5 z5 b5; have K5 := hide b5; have B5 := hide (show Below wr.heap.size wr w5 from Below.trans ((Below.refl _ wr).alloc (Nat.le_refl _) _) (o5.below (by simp) (fun i hi e => by have h9 : i = wr.heap.size := e; omega))); have hl1 := loadHashW_run w5 wr.heap.size 1 Y (by rw [HY.out]; exact blk_prev b5 XF.out.head) YL.out; have hl2 := loadHashW_run w5 w.heap.size 0 prev (range_under KR.out.whole B5.out) HL.out; have heq := eqlHash_run Y prev YL.out HL.out w5; have hl3 := loadBlk_run w5 wr.heap.size 0 x b5.whole XF.out.head; have hmk := mkBs1_run w5 x XF.out.head; have RC := hide (HB.out.under (Below.then_ B5.out (below_alloc (Below.refl _ w5) (.cells x.cells.toArray 40)))); have NB := hide (Blk.new w5 40 x.cells).whole; have OC := hide (HO.out.trans (Only.of_below (Below.then_ B5.out (below_alloc (Below.refl _ w5) (.cells x.cells.toArray 40))) (fun i => i = g2)) fun _ _ h => h); have KC := hide (show KeepB (w5.alloc (.cells x.cells.toArray 40)) x (fun i => i < w2.heap.size ∨ (Value.slice A4 k c4).ownBlock = some i) from XK.out.step (OC.out.mono fun i _ h => .inl (by have h9 : i = g2 := h; have := G2.out; omega)) fun i hi hf => (by rcases hf with hf | hf; exact .inl hf; have := HOWN.out i hf; omega)); clear o5 z5 b5; simp only [Act.put])
        | (at_builtin; refine wpList_rowO rfl 25 rfl _ _ 26 rfl 40 69 104 Try.underlying26 blk_infoR (by decide) w2.heap.size (.slice A4 k c4) k _ (by rfl) RC.out.row RC.out.low w5.heap.size 0 1 1 x.cells (by rfl) (by rw [BlkV.cells_len XF.out.head]) NB.out (BlkV.one x) (by have := HK8.out; omega) (by decide) ?_; intro A9 c9 w9 q1 q2 q3 q4; have R9 := hide (RC.out.app KC.out XG.out q1 q2 q3 q4); have O9 := hide q4; have Q9 := hide q3; clear q1 q2 q3 q4; simp only [Act.put, List.setIfInBounds_toArray, List.set_cons_zero, List.set_cons_succ]))
      · have hq : (Y == prev) = true := by assumption
        have hs3 := HO.out.size
        have hs5 := OC.out.size
        have hs9 := O9.out.size
        have HOW9 := hide (show ∀ q, (Value.slice A9 (k + 1) c9).ownBlock = some q → w3.heap.size ≤ q from fun q e => by rcases Q9.out q e with h | h; exact HOWN.out q h; omega)
        have HR9 := hide ((HRI.out.under (Below.then_ B5.out (below_alloc (Below.refl _ w5) (.cells x.cells.toArray 40)))).turn (Q := fun i => i = g ∨ P i ∨ (Value.slice A9 (k + 1) c9).ownBlock = some i) O9.out (fun i _ h => .inr (.inr h)) (fun e => by have := HOWN.out _ e; have := G2.out; have := B23.out.size; omega) (fun i hi h => by
          rcases h with h | h | h
          · exact .inl h
          · exact .inr (.inl h)
          · rcases Q9.out i h with h1 | h1
            · exact .inr (.inr h1)
            · omega))
        exact ⟨⟨j + 1, A9, k + 1, c9, ys ++ [x], by have := hj9.out; omega, by simp, rfl, R9.out, HOW9.out, by rw [List.map_append, HYD.out, HF1.out, hq]; rfl, by rw [HF2.out, hq]; simpa using HR9.out, OC.out.trans O9.out fun i hi e => absurd hi (by have := HOWN.out i e; omega)⟩, by have := hj9.out; simp [intOf]; omega⟩
      · have hq : (Y == prev) = false := by assumption
        have hf2 := HF2.out
        rw [hq] at hf2
        simp only [Bool.not_false, if_true] at hf2
        have hadd := addD_new (K := (L.take j).filter fun b => !upon prev b) (b := x.d) (HS.out.sublist (by rw [← hf2]; exact List.filter_sublist.trans (List.take_sublist _ _))) (filter_room _ L j H8.out (by have := HN.out; have := hj9.out; omega))
        have hs5 := OC.out.size
        refine (Add_any w5 g2 _ _ x (HRI.out.under B5.out) (XF.out.below B5.out) XG.out (fun i h => by
          have h1 := BR.out.size
          have h2 := B5.out.size
          rcases h with h | h | h
          · have := HLT.out; omega
          · have := HPP.out i h; omega
          · have := (HB.out.row.lt i h).2; omega)).mono ?_
        rintro e w6 ⟨rfl, r6, o6⟩
        rw [hadd] at r6 ⊢
        have R6 := hide r6
        have O6 := hide o6
        have HF3 := hide hf2
        clear r6 o6 hadd hf2
        go_wp2_with fail
        exact ⟨⟨j + 1, A4, k, c4, ys, by have := hj9.out; omega, by simp, rfl, (HB.out.under B5.out).step O6.out (fun i _ h => by have h9 : i = g2 := h; have := G2.out; omega), HOWN.out, by rw [HYD.out, HF1.out, hq]; simp, by rw [HF3.out]; exact R6.out, (HO.out.trans (Only.of_below B5.out fun i => i = g2) fun _ _ h => h).trans O6.out fun _ _ h => h⟩, by have := hj9.out; simp [intOf]; omega⟩
    · have i1 : ¬ (j : Int) < (n : Int) := by omega
      have HJ := hide (show L.length ≤ j by rw [← HN.out]; omega)
      obtain ⟨its, f, m, r2, hL2⟩ := HRI.out
      obtain ⟨cs, hcs, hcb⟩ := CG.out
      have RR := hide r2
      have HL2 := hide hL2
      have hlw := loadW_run wr g2 _ r2.blk r2.cells_len
      have hone := ring_one its f m
      obtain ⟨ds, hds⟩ : ∃ ds, ds = ringCells its f m := ⟨_, rfl⟩
      have HDL := hide (show ds.length = 554 by rw [hds]; exact r2.cells_len)
      rw [← hds] at hlw hone
      have HONE := hide hone
      have HDS := hide hds
      have HCS := hide hcs
      have CB := hide (hcb.under BR.out)
      clear r2 hL2 hcs hcb hone hds
      go_wp2_with (refine wpList_store_blk rfl 107 _ _ rfl g 0 107 cs ds (by rfl) (by rfl) CB.out (by rw [HCS.out, HDL.out]; decide) (by rw [HDL.out]; exact isW) HONE.out ?_; intro w9 o9 z9 b9; rw [lay_all _ _ (by rw [HCS.out, HDL.out])] at b9; have O9 := hide o9; have K9 := hide b9; clear o9 z9 b9; simp only [Act.put])
      have hB2 := B2.out.size
      have htk : L.take j = L := List.take_of_length_le HJ.out
      go_ret
      refine ⟨A4, k, c4, ys, rfl, (HB.out.step O9.out (fun i _ h => by have h9 : i = g := h; have := HLT.out; omega)).lower hB2, by rw [HYD.out, htk]; rfl, ⟨its, f, m, ⟨by rw [← HDS.out]; exact K9.out, RR.out.len, RR.out.fl, RR.out.ml, fun b hb => ?_, RR.out.good⟩, by rw [HL2.out, htk]; rfl⟩, (Only.of_below BR.out fun i => i = g).trans O9.out fun _ _ h => h⟩
      exact (RR.out.keep b hb).step (O9.out.mono fun i _ h => .inr (.inl h)) fun i _ h => by
        rcases h with h | h
        · exact .inr (.inl h)
        · exact .inr (.inr (.inl h))
end Go.Proofs.Ytbpmcnfmgaolnaa
/-
  Waiting: the document's functions.
-/
namespace Go.Proofs.Ytbpmcnfmgaolnaa
open Go.RowKit

/-- A row of blocks that stays, whatever turns ahead of base. -/
structure LRow (base : Nat) (w : World) (A : Option Addr) (n : Nat) (xs : List BlkV) : Prop where
  low : base ≤ w.heap.size
  keep : ∀ w', Only (fun i => i < base) w w' → BlksIn w' A n xs
  good : ∀ x ∈ xs, x.Good
namespace LRow
variable {base : Nat} {w w' : World} {A : Option Addr} {n : Nat} {xs : List BlkV}
theorem in_ (h : LRow base w A n xs) : BlksIn w A n xs := h.keep w (Only.refl _ _)
theorem step (h : LRow base w A n xs) {F : Nat → Prop} (ho : Only F w w') (hF : ∀ i, i < w.heap.size → F i → i < base) : LRow base w' A n xs :=
  ⟨Nat.le_trans h.low ho.size, fun w'' h2 => h.keep w'' ((ho.mono hF).trans h2 fun _ _ h => h), h.good⟩
theorem under (h : LRow base w A n xs) (hb : Below w.heap.size w w') : LRow base w' A n xs := h.step (Only.of_below hb fun _ => False) fun _ _ h => h.elim
theorem lower (h : LRow base w A n xs) {lo : Nat} (hl : lo ≤ base) : LRow lo w A n xs :=
  ⟨Nat.le_trans hl h.low, fun w'' h2 => h.keep w'' (h2.mono fun _ _ h => Nat.lt_of_lt_of_le h hl), h.good⟩
theorem len (h : LRow base w A n xs) : xs.length = n := h.in_.1
theorem keepB (h : LRow base w A n xs) {x : BlkV} (hx : x ∈ xs) : KeepB w x (fun i => i < base) := fun w' ho => (h.keep w' ho).2.1 x hx
theorem nil (w : World) (A : Option Addr) (hl : base ≤ w.heap.size) : LRow base w A 0 [] := ⟨hl, fun w' _ => RowsIn.nil _ _ _ _ _, by simp⟩
end LRow
theorem BRow.lrow {base : Nat} {w : World} {A : Option Addr} {n c : Nat} {xs : List BlkV} (h : BRow base w A n c xs) : LRow base w A n xs :=
  ⟨h.low, fun _ ho => (h.step ho fun _ _ h => h).in_, h.good⟩
theorem BlksIn.tail {w : World} {b off n : Nat} {xs : List BlkV} (h : BlksIn w (some ⟨b, off, none⟩) (n + 1) xs) : BlksIn w (some ⟨b, off + 69, none⟩) n xs.tail := by
  obtain ⟨h1, h2, h3⟩ := h
  obtain ⟨b', off', e, hr⟩ := h3 (by omega)
  injection e with e
  injection e with e1 e2 _
  subst e1; subst e2
  refine ⟨by rw [List.length_tail, h1]; rfl, fun a ha => h2 a (List.mem_of_mem_tail ha), fun _ => ⟨b, off + 69, rfl, fun i a ha => ?_⟩⟩
  have := hr (i + 1) a (by rw [← ha, List.getElem?_tail])
  rwa [show off + (i + 1) * 69 = off + 69 + i * 69 by omega] at this
theorem LRow.tail {base : Nat} {w : World} {b off n : Nat} {xs : List BlkV} (h : LRow base w (some ⟨b, off, none⟩) (n + 1) xs) : LRow base w (some ⟨b, off + 69, none⟩) n xs.tail :=
  ⟨h.low, fun w' ho => (h.keep w' ho).tail, fun x hx => h.good x (List.mem_of_mem_tail hx)⟩
attribute [local go_sem ↓] loadBlk_fold loadHead_fold loadHash_fold eqlHash_fold blkHead_fold mkBs1_fold
set_option maxHeartbeats 2000000 in
set_option maxRecDepth 100000 in
theorem refWHas_any (w : World) (A : Option Addr) (n c : Nat) (xs : List BlkV) (H : List Int) (hX : BlksIn w A n xs) (hn : n ≤ 1000) (hl : H.length = 32) :
    Calls Try.prog 25 #[.slice A n c, .agg (bcs H).toArray] w fun e w' => e = .returned (.bool (hasL xs H)) ∧ Below w.heap.size w w' := by
  have b1 : Below w.heap.size w (w.alloc (.cells (bcs H).toArray 31)) := below_alloc (Below.refl _ _) _
  have X1 := hide (hX.below' b1)
  have B1 := hide b1
  have K1 := hide (Blk.new w 31 (bcs H))
  have HL := hide hl
  have n9 : (n : Int) ≤ 1000 := by omega
  clear hX hl b1 hn
  go_enter Try.func25, Try.ntmps25
  go_wp2_with fail
  obtain ⟨w1, hw1⟩ : ∃ z, z = w.alloc (.cells (bcs H).toArray 31) := ⟨_, rfl⟩
  rw [← hw1] at X1 B1 K1 ⊢
  clear hw1
  go_loopw [9] (fun i ws => ∃ j : Nat, j ≤ n ∧ i = .int .i64 (j : Int) ∧ (∀ k x, k < j → xs[k]? = some x → (sha2 x.head.bytes == H) = false) ∧ Below w1.heap.size w1 ws) (fun i _ => n - (intOf i).toNat)
  case atStart => exact ⟨0, by omega, rfl, fun k x h => by omega, Below.refl _ _⟩
  case round =>
    obtain ⟨j, hj, rfl, hno, hb⟩ := hrel
    have HX := hide (X1.out.below' hb)
    have HKr := hide (K1.out.under hb)
    have HB := hide hb
    have HNO := hide hno
    clear hno hb
    by_cases hlt : j < n
    · obtain ⟨pb, off, hA, hrow⟩ := HX.out.2.2 (by omega)
      subst hA
      obtain ⟨x, hx⟩ : ∃ x, xs[j]? = some x := ⟨_, List.getElem?_eq_getElem (by rw [HX.out.1]; exact hlt)⟩
      have i1 : (j : Int) < (n : Int) := by omega
      have i0 : (0 : Int) ≤ (j : Int) := by omega
      have hjm := hide hlt
      have XF := hide (HX.out.2.1 x (List.mem_of_getElem? hx))
      have HIX := hide hx
      obtain ⟨X, hX⟩ : ∃ X, X = sha2 x.head.bytes := ⟨_, rfl⟩
      have HXL := hide (show X.length = 32 by rw [hX]; exact sha2_len _)
      have HXH := hide hX.symm
      have KZ := hide (Blk.new wr 40 zeroB.cells)
      have hld := loadBlk_run wr pb (off + j * 69) x (hrow j x hx) XF.out.head
      have hld2 := loadBlk_run _ pb (off + j * 69) x (range_under (hrow j x hx) (below_alloc (Below.refl _ wr) (.cells zeroB.cells.toArray 40))) XF.out.head
      clear hx hlt hX hrow
      go_wp2_with (first
        | (refine wpList_alloc_agg rfl 40 rfl zeroB.cells zeroBlk_info ?_; simp only [Act.put, List.setIfInBounds_toArray, List.set_cons_zero, List.set_cons_succ])
        | (refine wpList_store_bk rfl _ _ rfl wr.heap.size zeroB x zeroH_fine XF.out.head (by rfl) (by rfl) KZ.out ?_; intro w5 o5 z5 b5; have K5 := hide b5; have B5 := hide (show Below wr.heap.size wr w5 from Below.trans ((Below.refl _ wr).alloc (Nat.le_refl _) _) (o5.below (by simp) (fun i hi e => by have h9 : i = wr.heap.size := e; omega))); have Kw5 := hide (HKr.out.under B5.out); clear o5 z5 b5; simp only [Act.put]))
      clear hld hld2
      refine wp_region_held_drew (S := fun w' => Below w5.heap.size w5 w') (by kernel_rfl) ((Below.refl _ w5).drew) (fun hSA0 => ?_)
      obtain ⟨w5d, hwA⟩ : ∃ x, x = w5.drew := ⟨_, rfl⟩
      rw [← hwA] at hSA0 ⊢
      clear hwA
      (refine wpAnyH_take (i := 0) (oi := ⟨some 13, .fieldAddr 40 (.tmp 6) 0, 0, "ref.go:12", #[], none⟩) (v := ?_) rfl (by kernel_rfl) (by kernel_rfl) (by kernel_rfl) (fun _ _ _ h => h) (Or.inl ⟨by rfl, fun w' hSw => ?_⟩) hSA0 ?_; rotate_left; focus (go_simp; try with_reducible rfl))
      simp only [Act.put, List.setIfInBounds_toArray, List.set_cons_zero, List.set_cons_succ]
      (refine wpAnyH_take (i := 1) (oi := ⟨some 14, .load 33 (.tmp 13), 33, "ref.go:12", #[⟨0, .data⟩], none⟩) (v := ?_) rfl (by kernel_rfl) (by kernel_rfl) (by kernel_rfl) (fun _ _ _ h => h) (Or.inl ⟨by rfl, fun w' hSw => ?_⟩) hSA0 ?_; rotate_left; focus (have z1 := loadHead_run w' wr.heap.size 0 x.head (range_under (blk_head K5.out) hSw) XF.out.head; go_simp; try with_reducible rfl))
      simp only [Act.put, List.setIfInBounds_toArray, List.set_cons_zero, List.set_cons_succ]
      (refine wpAnyH_take (i := 3) (oi := ⟨some 16, .load 31 (.tmp 3), 31, "ref.go:12", #[], none⟩) (v := ?_) rfl (by kernel_rfl) (by kernel_rfl) (by kernel_rfl) (fun _ _ _ h => h) (Or.inl ⟨by rfl, fun w' hSw => ?_⟩) hSA0 ?_; rotate_left; focus (have z1 := loadHashW_run w' w.heap.size 0 H (range_under Kw5.out.whole hSw) HL.out; go_simp; try with_reducible rfl))
      simp only [Act.put, List.setIfInBounds_toArray, List.set_cons_zero, List.set_cons_succ]
      refine wpAnyH_ready (rs := [2]) (by kernel_rfl) (by simp) ?_
      refine AllReadyH.cons rfl (fun K hK => ?_) AllReadyH.nil
      go_simp
      go_simp
      go_wp2_with (go_at_call 17; refine (refBId_any w5d x.head XF.out.head).mono ?_; rintro e wi ⟨rfl, b9⟩)
      have Bi := hide (Below.then_ hSA0 b9)
      clear b9
      rw [HXH.out]
      refine hK.out _ _ (Bi.out) (fun hSA1 => ?_)
      clear hK K
      (refine wpAnyH_take (i := 4) (oi := ⟨some 17, .binOp .eql 31 (.tmp 15) (.tmp 16) 31, 4, "ref.go:12", #[⟨2, .data⟩, ⟨3, .data⟩], none⟩) (v := ?_) rfl (by kernel_rfl) (by kernel_rfl) (by kernel_rfl) (fun _ _ _ h => h) (Or.inl ⟨by rfl, fun w' hSw => ?_⟩) hSA1 ?_; rotate_left; focus (have z1 := eqlHash_run X H HXL.out HL.out w'; go_simp; try with_reducible rfl))
      simp only [Act.put, List.setIfInBounds_toArray, List.set_cons_zero, List.set_cons_succ]
      refine wpAnyH_done (by kernel_rfl) ?_ _
      go_wp2_with fail
      · have hq : (X == H) = true := by assumption
        go_ret
        refine ⟨?_, Below.then_ B1.out (Below.then_ HB.out (Below.then_ B5.out Bi.out))⟩
        rw [show hasL xs H = true from List.any_eq_true.2 ⟨x, List.mem_of_getElem? HIX.out, by rw [HXH.out]; exact hq⟩]
        rfl
      · have hq : (X == H) = false := by assumption
        have HN2 : Hid (∀ k y, k < j + 1 → xs[k]? = some y → (sha2 y.head.bytes == H) = false) := hide fun k y hk hy => by
          by_cases h9 : k < j
          · exact HNO.out k y h9 hy
          · obtain rfl : k = j := by omega
            rw [HIX.out] at hy
            injection hy with hy
            rw [← hy, HXH.out]
            exact hq
        exact ⟨⟨j + 1, by have := hjm.out; omega, by simp, HN2.out, Below.then_ HB.out (Below.then_ B5.out Bi.out)⟩, by have := hjm.out; simp [intOf]; omega⟩
    · have i1 : ¬ (j : Int) < (n : Int) := by omega
      have HJ := hide (show j = n by omega)
      go_wp2_with fail
      go_ret
      refine ⟨?_, Below.then_ B1.out HB.out⟩
      rw [show hasL xs H = false from List.any_eq_false.2 fun x hx => by
        obtain ⟨k, hk⟩ := List.mem_iff_getElem?.1 hx
        have hkm := (List.getElem?_eq_some_iff.1 hk).1
        rw [HX.out.1] at hkm
        rw [HNO.out k x (by rw [HJ.out]; exact hkm) hk]; decide]
      rfl
end Go.Proofs.Ytbpmcnfmgaolnaa
/-
  Waiting: the document's taking.
-/
namespace Go.Proofs.Ytbpmcnfmgaolnaa
open Go.RowKit

theorem LRow.of_mine {base : Nat} {w w' : World} {ys : List BlkV} {A : Option Addr} {n c : Nat} (hlo : base ≤ w.heap.size) (hm : MineR 40 69 w w' (.slice A n c) n (ys.flatMap BlkV.cells)) (hl : ys.length = n) (hy : ∀ x ∈ ys, KeepB w x (fun i => i < base) ∧ x.Good) : LRow base w' A n ys := by
  have hs := hm.below.size
  have hk : ∀ w'', Only (fun i => i < base) w' w'' → ∀ x ∈ ys, x.Fine w'' := fun w'' ho x hx => (hy x hx).1 w'' ((Only.of_below hm.below (fun i => i < base)).trans ho fun _ _ h => h)
  refine ⟨by omega, fun w'' ho => ?_, fun x hx => (hy x hx).2⟩
  exact rows_of hl (fun x hx => BlkV.cells_len (hk w'' ho x hx).head) (ho.own hm.2 (fun g hg hf => by have := (hm.block g hg).1; omega)) (hk w'' ho)
section
variable {P : Program}
/-- As wpList_mineR, with what is known of the blocks. -/
theorem wpList_mineR2 {w : World} {ops : Array Oper} {rest : List Oper} {o : Oper} {a : Act} {Q : Exit → Act → World → Prop} (hgd : o.guard = none) (d : Nat) (hd : o.dst = some d) (s x : Operand) (t : TypeId)
    (ho : o.op = .call { callee := .builtin .append, args := #[s, x], argTypes := #[t, t] })
    (e : TypeId) (k by_ : Nat) (ht : P.underlying t = some (.slice e)) (hi : (P.info? e).map (fun i => (i.size, i.bytes, i.zero.map (fun z => z.cells.size))) = some (k, by_, some k)) (hk : 0 < k)
    (w0 : World) (v : Value) (n : Nat) (cs : List Value) (hs : a.eval s = v) (h : MineR e k w0 w v n cs)
    (b off m c : Nat) (news : List Value) (hx : a.eval x = .slice (some ⟨b, off, none⟩) m c) (hl : news.length = m * k) (hnews : w.rangeAt b off news) (h1 : ∀ u ∈ news, u.oneCell' = true)
    (hbytes : (n + m) * by_ ≤ 140737488355328) (hby : 0 < by_)
    (hK : ∀ A' c' w', MineR e k w0 w' (.slice A' (n + m) c') (n + m) (cs ++ news) → n + m ≤ c' → (∀ g, (Value.slice A' (n + m) c').ownBlock = some g → v.ownBlock = some g ∨ w.heap.size ≤ g) → Only (fun i => v.ownBlock = some i) w w' → wpList P ops Q rest (a.put (some d) (.slice A' (n + m) c')) w') : wpList P ops Q (o :: rest) a w :=
  wpList_rowO hgd d hd s x t ho e k by_ ht hi hk w0.heap.size v n cs hs h.2 h.1.size b off m c news hx hl hnews h1 hbytes hby fun A' c' w' q1 q2 q3 q4 =>
    hK A' c' w' ⟨q4.under h.1 (fun i e => (h.block i e).1), q1⟩ q2 q3 q4
end
attribute [local go_sem ↓] loadBlk_fold loadHash_fold eqlHash_fold mkBs1_fold
def RTakePost (base : Nat) (w : World) (xs : List BlkV) (prev : List Int) (e : Ending) (w' : World) : Prop :=
  ∃ (A1 : Option Addr) (n1 c1 : Nat) (ys : List BlkV) (A2 : Option Addr) (n2 c2 : Nat) (zs : List BlkV), e = .returned (.tuple #[.slice A1 n1 c1, .slice A2 n2 c2]) ∧ LRow base w' A1 n1 ys ∧ LRow base w' A2 n2 zs ∧ ys.map BlkV.d = (takeD (xs.map BlkV.d) prev).1 ∧ zs.map BlkV.d = (takeD (xs.map BlkV.d) prev).2 ∧ Below w.heap.size w w'
def uponV (prev : List Int) (x : BlkV) : Bool := x.head.prev == prev
theorem takeD_maps (xs : List BlkV) (prev : List Int) : (xs.filter (uponV prev)).map BlkV.d = (takeD (xs.map BlkV.d) prev).1 ∧ (xs.filter fun x => !uponV prev x).map BlkV.d = (takeD (xs.map BlkV.d) prev).2 := by
  refine ⟨?_, ?_⟩
  · rw [takeD, List.filter_map]; rfl
  · rw [takeD]; dsimp only; rw [List.filter_map]; rfl
set_option maxHeartbeats 4000000 in
set_option maxRecDepth 100000 in
theorem refTake_any (base : Nat) (w : World) (A : Option Addr) (n c : Nat) (xs : List BlkV) (prev : List Int) (hX : LRow base w A n xs) (hn : n ≤ 1000) (hl : prev.length = 32) :
    Calls Try.prog 18 #[.slice A n c, .agg (bcs prev).toArray] w (RTakePost base w xs prev) := by
  obtain ⟨w1, hw1⟩ : ∃ z, z = w.alloc (.cells (bcs prev).toArray 31) := ⟨_, rfl⟩
  have B1 := hide (show Below w.heap.size w w1 by rw [hw1]; exact below_alloc (Below.refl _ _) _)
  have K1 := hide (show Blk w1 w.heap.size 31 (bcs prev) by rw [hw1]; exact Blk.new w 31 (bcs prev))
  have hsz0 := hide (show w1.heap.size = w.heap.size + 1 by rw [hw1]; simp)
  have HL := hide hl
  have HX := hide hX
  have n9 : (n : Int) ≤ 1000 := by omega
  clear hX hl hn
  go_enter Try.func18, Try.ntmps18
  go_wp2_with fail
  rw [← hw1]
  clear hw1
  have hsz : w1.heap.size = w.heap.size + 1 := hsz0.out
  have M2 := ((MineR.empty (w := w1) (e := 40) (k := 69) [] rfl).older B1.out).alloc (.cells #[] 40)
  have M3 := (MineR.empty (w := w1.alloc (.cells #[] 40)) (e := 40) (k := 69) [] rfl).older (Below.then_ B1.out (below_alloc (Below.refl _ _) _))
  rw [show (w1.alloc (.cells #[] 40)).heap.size = w.heap.size + 1 + 1 by simp [hsz]] at M3
  rw [hsz] at M2
  have M2 := hide M2
  have M3 := hide M3
  obtain ⟨w3, hw3⟩ : ∃ z, z = (w1.alloc (.cells #[] 40)).alloc (.cells #[] 40) := ⟨_, rfl⟩
  have B3 := hide (show Below w1.heap.size w1 w3 by rw [hw3]; exact below_alloc (below_alloc (Below.refl _ _) _) _)
  have M2 := hide (show MineR 40 69 w w3 (.slice (some ⟨w.heap.size + 1, 0, none⟩) 0 0) 0 [] by rw [hw3]; exact M2.out)
  have M3 := hide (show MineR 40 69 w w3 (.slice (some ⟨w.heap.size + 1 + 1, 0, none⟩) 0 0) 0 [] by rw [hw3]; exact M3.out)
  rw [← hw3]
  clear hw3 hsz
  go_loopw [6, 7, 14] (fun v u i ws => ∃ (j : Nat) (A1 : Option Addr) (n1 c1 : Nat) (A2 : Option Addr) (n2 c2 : Nat), j ≤ n ∧ i = .int .i64 (j : Int) ∧ v = .slice A1 n1 c1 ∧ u = .slice A2 n2 c2 ∧
    n1 = ((xs.take j).filter (uponV prev)).length ∧ n2 = ((xs.take j).filter fun x => !uponV prev x).length ∧ MineR 40 69 w ws (.slice A1 n1 c1) n1 (((xs.take j).filter (uponV prev)).flatMap BlkV.cells) ∧ MineR 40 69 w ws (.slice A2 n2 c2) n2 (((xs.take j).filter fun x => !uponV prev x).flatMap BlkV.cells) ∧
    (∀ q, (Value.slice A1 n1 c1).ownBlock = some q → (Value.slice A2 n2 c2).ownBlock = some q → False) ∧ (∀ q, (Value.slice A1 n1 c1).ownBlock = some q → w.heap.size + 1 ≤ q) ∧ (∀ q, (Value.slice A2 n2 c2).ownBlock = some q → w.heap.size + 1 ≤ q) ∧ Below (w.heap.size + 1) w1 ws) (fun _ _ i _ => n - (intOf i).toNat)
  case atStart => exact ⟨0, _, 0, 0, _, 0, 0, by omega, rfl, rfl, rfl, rfl, rfl, M2.out, M3.out, fun q h1 h2 => by simp [Value.ownBlock] at h1 h2; omega, fun q h => by simp [Value.ownBlock] at h; omega, fun q h => by simp [Value.ownBlock] at h; omega, by rw [← hsz0.out]; exact B3.out⟩
  case round =>
    obtain ⟨j, A1, n1, c1, A2, n2, c2, hj, rfl, rfl, rfl, hn1, hn2, hm1, hm2, hne, ho1, ho2, hb⟩ := hrel
    have HM1 := hide hm1
    have HM2 := hide hm2
    have HNE := hide hne
    have HO1 := hide ho1
    have HO2 := hide ho2
    have HN1 := hide hn1
    have HN2 := hide hn2
    have HB := hide (show Below w1.heap.size w1 wr by rw [hsz0.out]; exact hb)
    have HBW := hide (Below.then_ B1.out HB.out)
    clear hm1 hm2 hne ho1 ho2 hn1 hn2 hb
    by_cases hlt : j < n
    · obtain ⟨pb, off, hA, hrow⟩ := (HX.out.in_.below' HBW.out).2.2 (by omega)
      subst hA
      obtain ⟨x, hx⟩ : ∃ x, xs[j]? = some x := ⟨_, List.getElem?_eq_getElem (by rw [HX.out.len]; exact hlt)⟩
      have HIX := hide hx
      have XF := hide ((HX.out.in_.2.1 x (List.mem_of_getElem? hx)).below HBW.out)
      have i0 : (0 : Int) ≤ (j : Int) := by omega
      have i1 : (j : Int) < (n : Int) := by omega
      have hjm := hide (show j < n from hlt)
      have KR := hide (K1.out.under HB.out)
      have hld := loadBlk_run wr pb (off + j * 69) x (hrow j x hx) XF.out.head
      have KZ := hide (Blk.new wr 40 zeroB.cells)
      obtain ⟨Y, hY⟩ : ∃ Y, Y = x.head.prev := ⟨_, rfl⟩
      have HY := hide hY
      have YL := hide (show Y.length = 32 by rw [hY]; exact XF.out.head.plen)
      have HPV := hide (show uponV prev x = (Y == prev) by rw [hY]; rfl)
      have hF1 := filter_next (uponV prev) xs j x HIX.out
      have hF2 := filter_next (fun b => !uponV prev b) xs j x HIX.out
      simp only [HPV.out] at hF1 hF2
      have HF1 := hide hF1
      have HF2 := hide hF2
      have hle1 := hide (show n1 ≤ 1000 by have h1 := HN1.out; have h2 := List.length_filter_le (uponV prev) (xs.take j); have h3 := List.length_take_le j xs; omega)
      have hle2 := hide (show n2 ≤ 1000 by have h1 := HN2.out; have h2 := List.length_filter_le (fun x => !uponV prev x) (xs.take j); have h3 := List.length_take_le j xs; omega)
      clear hx hrow hlt hY hF1 hF2
      go_wp2_with (first
        | (refine wpList_alloc_agg rfl 40 rfl zeroB.cells zeroBlk_info ?_; simp only [Act.put, List.setIfInBounds_toArray, List.set_cons_zero, List.set_cons_succ])
        | (refine wpList_store_bk rfl _ _ rfl wr.heap.size zeroB x zeroH_fine XF.out.head (by rfl) (by rfl) KZ.out ?_; intro w5 o5 z5 b5; have K5 := hide b5; have B5 := hide (show Below wr.heap.size wr w5 from Below.trans ((Below.refl _ wr).alloc (Nat.le_refl _) _) (o5.below (by simp) (fun i hi e => by have h9 : i = wr.heap.size := e; omega))); have hl1 := loadHashW_run w5 wr.heap.size 1 Y (by rw [HY.out]; exact blk_prev b5 XF.out.head) YL.out; have hl2 := loadHashW_run w5 w.heap.size 0 prev (range_under KR.out.whole B5.out) HL.out; have heq := eqlHash_run Y prev YL.out HL.out w5; have hl3 := loadBlk_run w5 wr.heap.size 0 x b5.whole XF.out.head; have hmk := mkBs1_run w5 x XF.out.head; have B6 := hide (Below.then_ B5.out (below_alloc (Below.refl _ w5) (.cells x.cells.toArray 40))); have R1 := hide (HM1.out.keep B6.out); have R2 := hide (HM2.out.keep B6.out); have NB := hide (Blk.new w5 40 x.cells).whole; clear o5 z5 b5; simp only [Act.put])
        | (at_builtin; refine wpList_mineR2 rfl 26 rfl _ _ 26 rfl 40 69 104 Try.underlying26 blk_infoR (by decide) w (.slice A1 n1 c1) n1 _ (by rfl) R1.out w5.heap.size 0 1 1 x.cells (by rfl) (by rw [BlkV.cells_len XF.out.head]) NB.out (BlkV.one x) (by have := hle1.out; omega) (by decide) ?_; intro A9 c9 w9 q1 q2 q3 q4; have R9 := hide q1; have Q9 := hide q3; have O9 := hide q4; clear q1 q2 q3 q4; simp only [Act.put, List.setIfInBounds_toArray, List.set_cons_zero, List.set_cons_succ])
        | (at_builtin; refine wpList_mineR2 rfl 30 rfl _ _ 26 rfl 40 69 104 Try.underlying26 blk_infoR (by decide) w (.slice A2 n2 c2) n2 _ (by rfl) R2.out w5.heap.size 0 1 1 x.cells (by rfl) (by rw [BlkV.cells_len XF.out.head]) NB.out (BlkV.one x) (by have := hle2.out; omega) (by decide) ?_; intro A9 c9 w9 q1 q2 q3 q4; have R9 := hide q1; have Q9 := hide q3; have O9 := hide q4; clear q1 q2 q3 q4; simp only [Act.put, List.setIfInBounds_toArray, List.set_cons_zero, List.set_cons_succ]))
      · have hq : (Y == prev) = true := by assumption
        have hs6 := B6.out.size
        have hb9 : Below (w.heap.size + 1) w1 w9 := (HB.out.mono (by rw [hsz0.out]; exact Nat.le_refl _)).trans ((B6.out.mono (by have := HB.out.size; rw [hsz0.out] at this; exact this)).trans (O9.out.below (by have := HB.out.size; have := hsz0.out; omega) fun i hi e => by have := HO1.out i e; omega))
        refine ⟨⟨j + 1, A9, n1 + 1, c9, A2, n2, c2, by have := hjm.out; omega, by simp, rfl, rfl, by rw [HF1.out, hq, HN1.out]; simp, by rw [HF2.out, hq, HN2.out]; simp, by rw [HF1.out, hq]; simpa using R9.out, by rw [HF2.out, hq]; simpa using R2.out.only O9.out (fun i e => by have := HO1.out i e; omega) (fun q h1 h2 => HNE.out q h2 h1), fun q h1 h2 => ?_, fun q h1 => ?_, HO2.out, hb9⟩, by have := hjm.out; simp [intOf]; omega⟩
        · rcases Q9.out q h1 with h | h
          · exact HNE.out q h h2
          · have := (HM2.out.block q h2).2; omega
        · rcases Q9.out q h1 with h | h
          · exact HO1.out q h
          · have := HB.out.size; have := hsz0.out; omega
      · have hq : (Y == prev) = false := by assumption
        have hs6 := B6.out.size
        have hb9 : Below (w.heap.size + 1) w1 w9 := (HB.out.mono (by rw [hsz0.out]; exact Nat.le_refl _)).trans ((B6.out.mono (by have := HB.out.size; rw [hsz0.out] at this; exact this)).trans (O9.out.below (by have := HB.out.size; have := hsz0.out; omega) fun i hi e => by have := HO2.out i e; omega))
        refine ⟨⟨j + 1, A1, n1, c1, A9, n2 + 1, c9, by have := hjm.out; omega, by simp, rfl, rfl, by rw [HF1.out, hq, HN1.out]; simp, by rw [HF2.out, hq, HN2.out]; simp, by rw [HF1.out, hq]; simpa using R1.out.only O9.out (fun i e => by have := HO2.out i e; omega) (fun q h1 h2 => HNE.out q h1 h2), by rw [HF2.out, hq]; simpa using R9.out, fun q h1 h2 => ?_, HO1.out, fun q h1 => ?_, hb9⟩, by have := hjm.out; simp [intOf]; omega⟩
        · rcases Q9.out q h2 with h | h
          · exact HNE.out q h1 h
          · have := (HM1.out.block q h1).2; omega
        · rcases Q9.out q h1 with h | h
          · exact HO2.out q h
          · have := HB.out.size; have := hsz0.out; omega
    · have i1 : ¬ (j : Int) < (n : Int) := by omega
      have HJ := hide (show j = n by omega)
      have htk := hide (show xs.take j = xs from List.take_of_length_le (by rw [HX.out.len, HJ.out]; exact Nat.le_refl _))
      go_wp2_with fail
      go_ret2
      have hmem : ∀ (p : BlkV → Bool) (x : BlkV), x ∈ xs.filter p → KeepB w x (fun i => i < base) ∧ x.Good := fun p x hx => ⟨HX.out.keepB (List.mem_filter.1 hx).1, HX.out.good x (List.mem_filter.1 hx).1⟩
      have hn1 := HN1.out
      have hn2 := HN2.out
      have hm1 := HM1.out
      have hm2 := HM2.out
      rw [htk.out] at hn1 hn2 hm1 hm2
      exact ⟨A1, n1, c1, _, A2, n2, c2, _, rfl, LRow.of_mine HX.out.low hm1 hn1.symm (hmem _), LRow.of_mine HX.out.low hm2 hn2.symm (hmem _), (takeD_maps xs prev).1, (takeD_maps xs prev).2, HBW.out⟩
end Go.Proofs.Ytbpmcnfmgaolnaa
