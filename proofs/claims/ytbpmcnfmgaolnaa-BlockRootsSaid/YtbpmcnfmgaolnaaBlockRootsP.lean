import Derived.Test.YtbpmcnfmgaolnaaPk23
/-
  BlockRoots: the law's walk.
-/
namespace Go.Proofs.Ytbpmcnfmgaolnaa
open Go.RowKit

theorem neqHash_self (a : List Int) (ha : a.length = 32) (w : World) : (neqHash (.agg (bcs a).toArray) (.agg (bcs a).toArray)).run Try.prog w = .ok (.bool false) w := by
  rw [neqHash_run a a ha ha]; simp
theorem hash_store2 {w : World} {ops : Array Oper} {rest : List Oper} {op : Oper} {a : Act} {Q : Exit → Act → World → Prop} (hgd : op.guard = none) (x y : Operand) (ho : op.op = .store 31 x y)
    (g : Nat) (cs : List Value) (d : List Int) (hc : cs.length = 32) (hd : d.length = 32) (hx : a.eval x = .pointer (some ⟨g, 0, none⟩)) (hy : a.eval y = .agg (bcs d).toArray) (hb : Blk w g 31 cs)
    (h : ∀ w', Only (fun i => i = g) w w' → Blk w' g 31 (bcs d) → wpList Try.prog ops Q rest (a.put op.dst undef) w') : wpList Try.prog ops Q (op :: rest) a w := by
  refine wpList_store_blk hgd 31 x y ho g 0 31 cs (bcs d) hx hy hb (by rw [bcs_length, hd, hc]; exact Nat.le_refl _) (by rw [bcs_length, hd]; exact isHash32) (bcs_one d) ?_
  intro w' o z b
  rw [lay_all _ _ (by rw [bcs_length, hd, hc])] at b
  exact h w' o b
theorem MineR.capR {e : TypeId} {k : Nat} {w0 w : World} {A : Option Addr} {n c : Nat} {cs : List Value} (h : MineR e k w0 w (.slice A n c) n cs) (hn : 0 < n) : n ≤ c := by
  rcases h.2.2 with ⟨e1, h0⟩ | ⟨g9, cap, cur, e1, _, _, hnc, _⟩
  · omega
  · injection e1 with _ _ e3; omega
theorem flat_rangeH {α : Type} {cells : α → List Value} {k : Nat} {w : World} {b : Nat} : ∀ (xs : List α) (off : Nat), (∀ a ∈ xs, (cells a).length = k) → (∀ (i : Nat) (a : α), xs[i]? = some a → w.rangeAt b (off + i * k) (cells a)) → w.rangeAt b off (xs.flatMap cells)
  | [], _, _, _ => fun j v hv => by simp at hv
  | a :: l, off, hl, h => fun j v hv => by
    have ha := hl a (by simp)
    rw [List.flatMap_cons, List.getElem?_append] at hv
    split at hv
    · have := h 0 a rfl j v hv
      simpa using this
    · rename_i hj
      have ih := flat_rangeH l (off + k) (fun x hx => hl x (by simp [hx])) (fun i x hx => by
        have := h (i + 1) x (by simpa using hx)
        rwa [show off + (i + 1) * k = off + k + i * k by rw [Nat.add_mul]; omega] at this) (j - (cells a).length) v hv
      rwa [show off + k + (j - (cells a).length) = off + j by omega] at ih
theorem flat_lenH {α : Type} {cells : α → List Value} : ∀ (xs : List α) (k : Nat), (∀ a ∈ xs, (cells a).length = k) → (xs.flatMap cells).length = xs.length * k
  | [], _, _ => by simp
  | a :: l, k, h => by
    rw [List.flatMap_cons, List.length_append, h a (by simp), flat_lenH l k (fun x hx => h x (by simp [hx])), List.length_cons, Nat.add_mul]
    omega
theorem flat_oneH (l : List (List Int)) : ∀ v ∈ l.flatMap bcs, v.oneCell' = true := fun v hv => by
  obtain ⟨x, _, hx⟩ := List.mem_flatMap.1 hv
  exact bcs_one x v hx
attribute [local go_sem ↓] loadHash_fold eqlHash_fold neqHash_fold
attribute [local go_sem] guardHash
set_option maxHeartbeats 2000000 in
set_option maxRecDepth 100000 in
theorem blockroots_any (w : World) (A : Option Addr) (n c : Nat) (l : List (List Int)) (hX : HashesIn w A n l) :
    Calls Try.prog 6 #[.slice A n c] w fun e w' => e = .returned (.bool true) ∧ Below w.heap.size w w' := by
  have HX := hide hX
  clear hX
  go_enter Try.func6, Try.ntmps6
  go_wp2_with fail
  refine (blockAlive_any _).mono ?_
  rintro e w1 ⟨rfl, b1⟩
  have B1 := hide b1
  clear b1
  by_cases hn : 60 < n
  · have hn1 : (60 : Int) < (n : Int) := by omega
    clear hn
    go_wp2_with fail
    go_ret
    exact ⟨rfl, B1.out⟩
  · have hn1 : ¬ (60 : Int) < (n : Int) := by omega
    have HN := hide (show n ≤ 60 by omega)
    clear hn
    by_cases h0 : n = 0
    · subst h0
      have hl0 : l = [] := List.eq_nil_of_length_eq_zero HX.out.1
      have HOa := hide (show HashesIn (w1.alloc (.cells #[] 31)) (some ⟨w1.heap.size, 0, none⟩) 0 l by rw [hl0]; exact RowsIn.nil _ _ _ _ _)
      have HB3 := hide (Below.then_ B1.out (below_alloc (Below.refl _ w1) (.cells #[] 31)))
      have HLa := hide (HX.out.below' HB3.out)
      have hc3 := hide (Nat.le_refl 0)
      clear hl0
      cases A <;>
      (go_wp2_with fail
       obtain ⟨g3, hg3⟩ : ∃ x, x = w1.heap.size := ⟨_, rfl⟩
       obtain ⟨w3, hw3⟩ : ∃ x, x = w1.alloc (.cells #[] 31) := ⟨_, rfl⟩
       have HO := hide (show HashesIn w3 (some ⟨g3, 0, none⟩) 0 l by rw [hw3, hg3]; exact HOa.out)
       rw [← hw3] at HB3 HLa
       rw [← hg3, ← hw3]
       have HL := hide HLa.out
       clear hg3 hw3 HOa HLa
       refine (Root_any w3 (some ⟨g3, 0, none⟩) 0 0 l HO.out (by have := HN.out; omega) hc3.out).mono ?_
       rintro e w4 ⟨rfl, b4⟩
       have HB4 := hide (Below.then_ HB3.out b4)
       have HL4 := hide (HL.out.below' b4)
       have HO4 := hide (HO.out.below' b4)
       obtain ⟨H, hH⟩ : ∃ H, H = (rootL l).1 := ⟨_, rfl⟩
       obtain ⟨s, hs⟩ : ∃ s, s = (rootL l).2 := ⟨_, rfl⟩
       have HHL := hide (show H.length = 32 by rw [hH]; exact (rootL_len l HL.out.2.1).1)
       have HH := hide hH
       have HS := hide hs
       rw [← hH, ← hs]
       clear hH hs b4
       have KZ4 := hide (Blk.new w4 31 (bcs zero32))
       go_wp2_with (first
         | (refine wpList_alloc_agg rfl 31 rfl (bcs zero32) zeroHash_info ?_; simp only [Act.put, List.setIfInBounds_toArray, List.set_cons_zero, List.set_cons_succ])
         | (refine hash_store2 rfl _ _ rfl w4.heap.size (bcs zero32) H rfl HHL.out (by rfl) (by rfl) KZ4.out ?_; intro w5 o4 b4; have K4 := hide b4; have B4 := hide (show Below w4.heap.size w4 w5 from Below.trans ((Below.refl _ w4).alloc (Nat.le_refl _) _) (o4.below (by simp) (fun i hi e => by have h9 : i = w4.heap.size := e; omega))); clear o4 b4; simp only [Act.put]))
       have HL5 := hide (HL4.out.below' B4.out)
       have HO5 := hide (HO4.out.below' B4.out)
       refine (refRoot_any (l.length + 1) w5 _ 0 c l (Nat.lt_succ_self _) HL5.out (by have := HN.out; omega)).mono ?_
       rintro e w6 ⟨rfl, b6⟩
       rw [← HH.out, ← HS.out]
       have HB6 := hide (Below.then_ (Below.then_ HB4.out B4.out) b6)
       have HL6 := hide (HL5.out.below' b6)
       have HO6 := hide (HO5.out.below' b6)
       have K46 := hide (K4.out.under b6)
       clear b6
       have hnq := fun w => neqHash_self H HHL.out w
       have KZ6 := hide (Blk.new w6 31 (bcs zero32))
       cases s <;>
       (go_wp2_with (first
         | (refine wpList_alloc_agg rfl 31 rfl (bcs zero32) zeroHash_info ?_; simp only [Act.put, List.setIfInBounds_toArray, List.set_cons_zero, List.set_cons_succ])
         | (refine hash_store2 rfl _ _ rfl w6.heap.size (bcs zero32) H rfl HHL.out (by rfl) (by rfl) KZ6.out ?_; intro w7 o6 b6; have B6 := hide (show Below w6.heap.size w6 w7 from Below.trans ((Below.refl _ w6).alloc (Nat.le_refl _) _) (o6.below (by simp) (fun i hi e => by have h9 : i = w6.heap.size := e; omega))); have hl6 := loadHashB_run w7 w6.heap.size 0 H b6.whole HHL.out; have hl4 := loadHashB_run w7 w4.heap.size 0 H (K46.out.under B6.out).whole HHL.out; clear o6 b6; simp only [Act.put]))
        have HB7 := hide (Below.then_ HB6.out B6.out)
        have HL7 := hide (HL6.out.below' B6.out)
        have HO7 := hide (HO6.out.below' B6.out)
        clear hl6 hl4 hnq
        have hn9 : (0 : Int) ≤ 60 := by have := HN.out; omega
        go_loopw [37] (fun i ws => ∃ j : Nat, j ≤ 0 ∧ i = .int .i64 (j : Int) ∧ Below w7.heap.size w7 ws) (fun i _ => 0 - (intOf i).toNat)
        case atStart => exact ⟨0, by omega, rfl, Below.refl _ _⟩
        case round =>
          obtain ⟨j, hj, rfl, hbr⟩ := hrel
          have HBR := hide hbr
          clear hbr
          by_cases hlt : j < 0
          · exact absurd hlt (by omega)
          · have i1 : ¬ (j : Int) < (0 : Int) := by omega
            clear hlt hj
            go_wp2_with fail
            go_ret
            exact ⟨rfl, Below.then_ HB7.out HBR.out⟩))
    · have h0' := hide (show 0 < n by omega)
      clear h0
      obtain ⟨b9, o9, hA, hrow⟩ := HX.out.2.2 h0'.out
      subst hA
      have M0 := hide (show MineR 31 32 w1 (w1.alloc (.cells #[] 31)) (.slice (some ⟨w1.heap.size, 0, none⟩) 0 0) 0 [] from MineR.empty [] rfl)
      have HX1 := hide (HX.out.below' (Below.then_ B1.out (below_alloc (Below.refl _ w1) (.cells #[] 31))))
      have HR := hide (show (w1.alloc (.cells #[] 31)).rangeAt b9 o9 (l.flatMap bcs) from by obtain ⟨b', o', e, hr⟩ := HX1.out.2.2 h0'.out; injection e with e; injection e with e1 e2 _; subst e1; subst e2; exact flat_rangeH l _ (fun x hx => by rw [bcs_length, (HX1.out.2.1 x hx).1]) hr)
      have hfl := hide (show (l.flatMap bcs).length = n * 32 by rw [flat_lenH l 32 (fun x hx => by rw [bcs_length, (HX.out.2.1 x hx).1]), HX.out.1])
      clear hrow
      go_wp2_with (at_builtin; refine wpList_mineR rfl _ _ 65 rfl 31 32 32 Try.underlying65 hash_infoR (by decide) w1 (.slice (some ⟨w1.heap.size, 0, none⟩) 0 0) 0 [] (by rfl) M0.out b9 o9 n c (l.flatMap bcs) (by rfl) hfl.out HR.out (flat_oneH l) (by have := HN.out; omega) (by decide) ?_; intro A3 c3 w3 q1 q2 q3; have T3 := hide q1; clear q1 q2 q3; simp only [Act.put, List.setIfInBounds_toArray, List.set_cons_zero, List.set_cons_succ])
      have HB3 := hide (Below.then_ B1.out T3.out.below)
      have HL := hide (HX.out.below' HB3.out)
      have HO := hide (show HashesIn w3 A3 n l from rows_of HX.out.1 (fun a ha => by rw [bcs_length, (HX.out.2.1 a ha).1]) (by have h9 := T3.out.2; rw [Nat.zero_add, List.nil_append] at h9; exact h9) HX.out.2.1)
      have hc3 := hide (show n ≤ c3 by have h9 := MineR.capR T3.out (by rw [Nat.zero_add]; exact h0'.out); omega)
      clear T3 HR hfl M0 HX1
      try simp only [Nat.zero_add]
      go_wp2_with fail
      refine (Root_any w3 A3 n c3 l HO.out (by have := HN.out; omega) hc3.out).mono ?_
      rintro e w4 ⟨rfl, b4⟩
      have HB4 := hide (Below.then_ HB3.out b4)
      have HL4 := hide (HL.out.below' b4)
      have HO4 := hide (HO.out.below' b4)
      obtain ⟨H, hH⟩ : ∃ H, H = (rootL l).1 := ⟨_, rfl⟩
      obtain ⟨s, hs⟩ : ∃ s, s = (rootL l).2 := ⟨_, rfl⟩
      have HHL := hide (show H.length = 32 by rw [hH]; exact (rootL_len l HL.out.2.1).1)
      have HH := hide hH
      have HS := hide hs
      rw [← hH, ← hs]
      clear hH hs b4
      have KZ4 := hide (Blk.new w4 31 (bcs zero32))
      go_wp2_with (first
        | (refine wpList_alloc_agg rfl 31 rfl (bcs zero32) zeroHash_info ?_; simp only [Act.put, List.setIfInBounds_toArray, List.set_cons_zero, List.set_cons_succ])
        | (refine hash_store2 rfl _ _ rfl w4.heap.size (bcs zero32) H rfl HHL.out (by rfl) (by rfl) KZ4.out ?_; intro w5 o4 b4; have K4 := hide b4; have B4 := hide (show Below w4.heap.size w4 w5 from Below.trans ((Below.refl _ w4).alloc (Nat.le_refl _) _) (o4.below (by simp) (fun i hi e => by have h9 : i = w4.heap.size := e; omega))); clear o4 b4; simp only [Act.put]))
      have HL5 := hide (HL4.out.below' B4.out)
      have HO5 := hide (HO4.out.below' B4.out)
      refine (refRoot_any (l.length + 1) w5 _ n c l (Nat.lt_succ_self _) HL5.out (by have := HN.out; omega)).mono ?_
      rintro e w6 ⟨rfl, b6⟩
      rw [← HH.out, ← HS.out]
      have HB6 := hide (Below.then_ (Below.then_ HB4.out B4.out) b6)
      have HL6 := hide (HL5.out.below' b6)
      have HO6 := hide (HO5.out.below' b6)
      have K46 := hide (K4.out.under b6)
      clear b6
      have hnq := fun w => neqHash_self H HHL.out w
      have KZ6 := hide (Blk.new w6 31 (bcs zero32))
      cases s <;>
      (go_wp2_with (first
        | (refine wpList_alloc_agg rfl 31 rfl (bcs zero32) zeroHash_info ?_; simp only [Act.put, List.setIfInBounds_toArray, List.set_cons_zero, List.set_cons_succ])
        | (refine hash_store2 rfl _ _ rfl w6.heap.size (bcs zero32) H rfl HHL.out (by rfl) (by rfl) KZ6.out ?_; intro w7 o6 b6; have B6 := hide (show Below w6.heap.size w6 w7 from Below.trans ((Below.refl _ w6).alloc (Nat.le_refl _) _) (o6.below (by simp) (fun i hi e => by have h9 : i = w6.heap.size := e; omega))); have hl6 := loadHashB_run w7 w6.heap.size 0 H b6.whole HHL.out; have hl4 := loadHashB_run w7 w4.heap.size 0 H (K46.out.under B6.out).whole HHL.out; clear o6 b6; simp only [Act.put]))
       have HB7 := hide (Below.then_ HB6.out B6.out)
       have HL7 := hide (HL6.out.below' B6.out)
       have HO7 := hide (HO6.out.below' B6.out)
       clear hl6 hl4 hnq
       have hn9 : (n : Int) ≤ 60 := by have := HN.out; omega
       go_loopw [37] (fun i ws => ∃ j : Nat, j ≤ n ∧ i = .int .i64 (j : Int) ∧ Below w7.heap.size w7 ws) (fun i _ => n - (intOf i).toNat)
       case atStart => exact ⟨0, by omega, rfl, Below.refl _ _⟩
       case round =>
         obtain ⟨j, hj, rfl, hbr⟩ := hrel
         have HBR := hide hbr
         clear hbr
         by_cases hlt : j < n
         · obtain ⟨x, hx⟩ : ∃ x, l[j]? = some x := ⟨_, List.getElem?_eq_getElem (by have := HL7.out.1; omega)⟩
           obtain ⟨b0, o0, ea, ra⟩ := HL7.out.2.2 (by omega)
           obtain ⟨b3, o3, eb, rb⟩ := HO7.out.2.2 (by omega)
           have hxf := hide (HL7.out.2.1 x (List.mem_of_getElem? hx))
           have HX0 := hide (range_under (ra j x hx) HBR.out)
           have HX3 := hide (range_under (rb j x hx) HBR.out)
           have hnx := hide (fun w => neqHash_self x hxf.out.1 w)
           have i0 : (0 : Int) ≤ (j : Int) := by omega
           have i1 : (j : Int) < (n : Int) := by omega
           clear hx ra rb
           rw [ea, eb]
           go_wp2_with fail
           refine wp_region_held_drew (S := fun w' => Below wr.heap.size wr w') (by kernel_rfl) (by exact (Below.refl _ _).drew) (fun hSA0 => ?_)
           obtain ⟨wrd, hwA⟩ : ∃ x, x = wr.drew := ⟨_, rfl⟩
           rw [← hwA] at hSA0 ⊢
           clear hwA
           (refine wpAnyH_take (i := 0) (oi := ⟨some 40, .move (.tmp 3), 65, "law.go:60", #[], none⟩) (v := ?_) rfl (by kernel_rfl) (by kernel_rfl) (by kernel_rfl) (fun _ _ _ h => h) (Or.inl ⟨by rfl, fun w' hSw => ?_⟩) hSA0 ?_; rotate_left; focus (go_simp; try with_reducible rfl))
           simp only [Act.put, List.setIfInBounds_toArray, List.set_cons_zero, List.set_cons_succ]
           (refine wpAnyH_take (i := 1) (oi := ⟨some 41, .move (.tmp 8), 3, "law.go:60", #[], none⟩) (v := ?_) rfl (by kernel_rfl) (by kernel_rfl) (by kernel_rfl) (fun _ _ _ h => h) (Or.inl ⟨by rfl, fun w' hSw => ?_⟩) hSA0 ?_; rotate_left; focus (go_simp; try with_reducible rfl))
           simp only [Act.put, List.setIfInBounds_toArray, List.set_cons_zero, List.set_cons_succ]
           (refine wpAnyH_take (i := 2) (oi := ⟨some 42, .indexAddr 65 (.tmp 40) (.tmp 41), 0, "law.go:60", #[⟨0, .data⟩, ⟨1, .data⟩], none⟩) (v := ?_) rfl (by kernel_rfl) (by kernel_rfl) (by kernel_rfl) (fun _ _ _ h => h) (Or.inl ⟨by rfl, fun w' hSw => ?_⟩) hSA0 ?_; rotate_left; focus (go_simp; try with_reducible rfl))
           simp only [Act.put, List.setIfInBounds_toArray, List.set_cons_zero, List.set_cons_succ]
           (refine wpAnyH_take (i := 3) (oi := ⟨some 43, .load 31 (.tmp 42), 31, "law.go:60", #[⟨2, .data⟩], none⟩) (v := ?_) rfl (by kernel_rfl) (by kernel_rfl) (by kernel_rfl) (fun _ _ _ h => h) (Or.inl ⟨by rfl, fun w' hSw => ?_⟩) hSA0 ?_; rotate_left; focus (have h1 := loadHashB_run w' b3 (o3 + j * 32) x (range_under HX3.out hSw) hxf.out.1; go_simp; try with_reducible rfl))
           simp only [Act.put, List.setIfInBounds_toArray, List.set_cons_zero, List.set_cons_succ]
           (refine wpAnyH_take (i := 4) (oi := ⟨some 44, .move (.tmp 0), 65, "law.go:60", #[], none⟩) (v := ?_) rfl (by kernel_rfl) (by kernel_rfl) (by kernel_rfl) (fun _ _ _ h => h) (Or.inl ⟨by rfl, fun w' hSw => ?_⟩) hSA0 ?_; rotate_left; focus (go_simp; try with_reducible rfl))
           simp only [Act.put, List.setIfInBounds_toArray, List.set_cons_zero, List.set_cons_succ]
           (refine wpAnyH_take (i := 5) (oi := ⟨some 45, .move (.tmp 8), 3, "law.go:60", #[], none⟩) (v := ?_) rfl (by kernel_rfl) (by kernel_rfl) (by kernel_rfl) (fun _ _ _ h => h) (Or.inl ⟨by rfl, fun w' hSw => ?_⟩) hSA0 ?_; rotate_left; focus (go_simp; try with_reducible rfl))
           simp only [Act.put, List.setIfInBounds_toArray, List.set_cons_zero, List.set_cons_succ]
           (refine wpAnyH_take (i := 6) (oi := ⟨some 46, .indexAddr 65 (.tmp 44) (.tmp 45), 0, "law.go:60", #[⟨4, .data⟩, ⟨5, .data⟩], none⟩) (v := ?_) rfl (by kernel_rfl) (by kernel_rfl) (by kernel_rfl) (fun _ _ _ h => h) (Or.inl ⟨by rfl, fun w' hSw => ?_⟩) hSA0 ?_; rotate_left; focus (go_simp; try with_reducible rfl))
           simp only [Act.put, List.setIfInBounds_toArray, List.set_cons_zero, List.set_cons_succ]
           (refine wpAnyH_take (i := 7) (oi := ⟨some 47, .load 31 (.tmp 46), 31, "law.go:60", #[⟨6, .data⟩], none⟩) (v := ?_) rfl (by kernel_rfl) (by kernel_rfl) (by kernel_rfl) (fun _ _ _ h => h) (Or.inl ⟨by rfl, fun w' hSw => ?_⟩) hSA0 ?_; rotate_left; focus (have h2 := loadHashB_run w' b0 (o0 + j * 32) x (range_under HX0.out hSw) hxf.out.1; go_simp; try with_reducible rfl))
           simp only [Act.put, List.setIfInBounds_toArray, List.set_cons_zero, List.set_cons_succ]
           (refine wpAnyH_take (i := 8) (oi := ⟨some 48, .binOp .neq 31 (.tmp 43) (.tmp 47) 31, 4, "law.go:60", #[⟨3, .data⟩, ⟨7, .data⟩], none⟩) (v := ?_) rfl (by kernel_rfl) (by kernel_rfl) (by kernel_rfl) (fun _ _ _ h => h) (Or.inl ⟨by rfl, fun w' hSw => ?_⟩) hSA0 ?_; rotate_left; focus (have h3 := hnx.out w'; go_simp; try with_reducible rfl))
           simp only [Act.put, List.setIfInBounds_toArray, List.set_cons_zero, List.set_cons_succ]
           refine wpAnyH_done (by kernel_rfl) ?_ _
           go_wp2_with fail
           exact ⟨⟨j + 1, by omega, by simp, Below.then_ HBR.out hSA0⟩, by simp [intOf]; omega⟩
         · have i1 : ¬ (j : Int) < (n : Int) := by omega
           clear hlt hj
           go_wp2_with fail
           go_ret
           exact ⟨rfl, Below.then_ HB7.out HBR.out⟩)
end Go.Proofs.Ytbpmcnfmgaolnaa
