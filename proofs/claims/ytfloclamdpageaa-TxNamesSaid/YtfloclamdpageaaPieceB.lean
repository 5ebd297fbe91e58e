/-
  piece: count, Fixed, Count.
-/
import Derived.Test.YtfloclamdpageaaPieceA
namespace Go.Proofs.Ytfloclamdpageaa
open Go.RowKit

theorem cnt1 (n : Int) (h0 : 0 ≤ n) (h : n < 253) : cnt n.toNat = [n] := by
  have : n.toNat < 253 := by omega
  simp [cnt, this]; omega
theorem cnt2 (n : Int) (h : 253 ≤ n) (h2 : n < 65536) : cnt n.toNat = 253 :: dig n.toNat 2 := by
  have a : ¬ n.toNat < 253 := by omega
  have b : n.toNat < 65536 := by omega
  simp [cnt, a, b]
theorem cnt4 (n : Int) (h : 65536 ≤ n) (h2 : n < 4294967296) : cnt n.toNat = 254 :: dig n.toNat 4 := by
  have a : ¬ n.toNat < 253 := by omega
  have b : ¬ n.toNat < 65536 := by omega
  have c : n.toNat < 4294967296 := by omega
  simp [cnt, a, b, c]
theorem cnt8 (n : Int) (h : 4294967296 ≤ n) : cnt n.toNat = 255 :: dig n.toNat 8 := by
  have a : ¬ n.toNat < 253 := by omega
  have b : ¬ n.toNat < 65536 := by omega
  have c : ¬ n.toNat < 4294967296 := by omega
  simp [cnt, a, b, c]
set_option maxHeartbeats 1000000 in
set_option maxRecDepth 100000 in
theorem count_any (w0 w : World) (A : Option Addr) (l c : Nat) (bs : List Int) (n : Int) (hM : Mine 5 w0 w A l c bs) (hn : 0 ≤ n) (hn2 : n < 18446744073709551616) (hl : l ≤ 50000000000) :
    Calls Try.prog 86 #[.slice A l c, .int .u64 n] w (MinePost 5 w0 none (bs ++ cnt n.toNat)) := by
  have HN2 := hide hn2
  clear hn2
  have hL := hide hM.len
  by_cases h1 : n < 253
  · have E := hide (cnt1 n hn h1)
    have hw : IntKind.u8.wrap n = n := by rw [u8_wrap]; omega
    have b1 := Bys.one w 5 n (by omega) (by omega)
    go_enter Try.func86, Try.ntmps86
    go_wp2_with (at_builtin; refine wpList_app rfl _ _ rfl w0 A l c bs (by rfl) (hM.alloc _) (some ⟨w.heap.size, 0, none⟩) 1 1 [n] (by rfl) b1 (by omega) ?_; intro A2 n2 c2 w2 t2 f2)
    go_wp2
    go_ret
    rw [E.out]
    exact MinePost.mk t2 (f2 (.inr (by decide)))
  · by_cases h2 : n < 65536
    · have E := hide (cnt2 n (by omega) h2)
      have t1 : decide (n < 253) = false := by simp; omega
      have t2 : decide (n < 65536) = true := by simp; omega
      have b1 := Bys.one w 5 253 (by omega) (by omega)
      clear h1 h2
      go_enter Try.func86, Try.ntmps86
      go_wp2_with (at_builtin; refine wpList_app rfl _ _ rfl w0 A l c bs (by rfl) (hM.alloc _) (some ⟨w.heap.size, 0, none⟩) 1 1 [253] (by rfl) b1 (by omega) ?_; intro A2 n2 c2 w2 t2 f2)
      have hl2 : n2 = l + 1 := by rw [← t2.len]; simp [hL.out]
      refine (fixed_any w0 w2 A2 n2 c2 _ n 2 t2 hn HN2.out (by decide) (by decide) (by omega)).mono ?_
      rintro e w3 ⟨A3, n3, c3, rfl, t3, f3⟩
      have T := hide hl2
      clear hl2
      go_wp2
      go_ret
      refine ⟨A3, n3, c3, rfl, by rw [E.out]; simpa using t3, fun _ => f3 (f2 (.inr (by decide)))⟩
    · by_cases h3 : n < 4294967296
      · have E := hide (cnt4 n (by omega) h3)
        have t1 : decide (n < 253) = false := by simp; omega
        have t2 : decide (n < 65536) = false := by simp; omega
        have t3 : decide (n < 4294967296) = true := by simp; omega
        have b1 := Bys.one w 5 254 (by omega) (by omega)
        clear h1 h2 h3
        go_enter Try.func86, Try.ntmps86
        go_wp2_with (at_builtin; refine wpList_app rfl _ _ rfl w0 A l c bs (by rfl) (hM.alloc _) (some ⟨w.heap.size, 0, none⟩) 1 1 [254] (by rfl) b1 (by omega) ?_; intro A2 n2 c2 w2 t2 f2)
        have hl2 : n2 = l + 1 := by rw [← t2.len]; simp [hL.out]
        refine (fixed_any w0 w2 A2 n2 c2 _ n 4 t2 hn HN2.out (by decide) (by decide) (by omega)).mono ?_
        rintro e w3 ⟨A3, n3, c3, rfl, t3, f3⟩
        have T := hide hl2
        clear hl2
        go_wp2
        go_ret
        refine ⟨A3, n3, c3, rfl, by rw [E.out]; simpa using t3, fun _ => f3 (f2 (.inr (by decide)))⟩
      · have E := hide (cnt8 n (by omega))
        have t1 : decide (n < 253) = false := by simp; omega
        have t2 : decide (n < 65536) = false := by simp; omega
        have t3 : decide (n < 4294967296) = false := by simp; omega
        have b1 := Bys.one w 5 255 (by omega) (by omega)
        clear h1 h2 h3
        go_enter Try.func86, Try.ntmps86
        go_wp2_with (at_builtin; refine wpList_app rfl _ _ rfl w0 A l c bs (by rfl) (hM.alloc _) (some ⟨w.heap.size, 0, none⟩) 1 1 [255] (by rfl) b1 (by omega) ?_; intro A2 n2 c2 w2 t2 f2)
        have hl2 : n2 = l + 1 := by rw [← t2.len]; simp [hL.out]
        refine (fixed_any w0 w2 A2 n2 c2 _ n 8 t2 hn HN2.out (by decide) (by decide) (by omega)).mono ?_
        rintro e w3 ⟨A3, n3, c3, rfl, t3, f3⟩
        have T := hide hl2
        clear hl2
        go_wp2
        go_ret
        refine ⟨A3, n3, c3, rfl, by rw [E.out]; simpa using t3, fun _ => f3 (f2 (.inr (by decide)))⟩
theorem within_range (n : Int) : 0 ≤ Rd.within n ∧ Rd.within n ≤ 8 := by unfold Rd.within; omega
set_option maxHeartbeats 1000000 in
set_option maxRecDepth 100000 in
theorem Fixed_any (w0 w : World) (A : Option Addr) (l c : Nat) (bs : List Int) (n k : Int) (hb : Below w0.heap.size w0 w) (hB : Bys w A l bs) (hn : 0 ≤ n) (hn2 : n < 18446744073709551616) (hl : l ≤ 50000000000) :
    Calls Try.prog 63 #[.slice A l c, .int .u64 n, .int .i64 k] w (MinePost 5 w0 none (bs ++ dig n.toNat (Rd.within k).toNat)) := by
  have HN2 := hide hn2
  have hr := within_range k
  have HL := hide hB.1
  clear hn2
  go_enter Try.func63, Try.ntmps63
  go_wp2_with (go_at_call 68; refine (clone_any w0 w A l c bs hb hB (by omega)).mono ?_; rintro e w1 ⟨A1, n1, c1, rfl, t1, f1⟩)
  go_wp2_with (go_at_call 85; refine (within_any _ _).mono ?_; rintro e w2 ⟨rfl, rfl⟩)
  have h1 : n1 = l := by rw [← t1.len, HL.out]
  refine (fixed_any w0 w1 A1 n1 c1 _ n _ t1 hn HN2.out hr.1 hr.2 (by omega)).mono ?_
  rintro e w3 ⟨A3, n3, c3, rfl, t3, f3⟩
  clear h1
  go_wp2
  go_ret
  exact ⟨A3, n3, c3, rfl, t3, fun h => f3 (f1 h)⟩
set_option maxHeartbeats 1000000 in
set_option maxRecDepth 100000 in
theorem Count_any (w0 w : World) (A : Option Addr) (l c : Nat) (bs : List Int) (n : Int) (hb : Below w0.heap.size w0 w) (hB : Bys w A l bs) (hc : l ≤ c) (hn : 0 ≤ n) (hn2 : n < 18446744073709551616) (hl : l ≤ 50000000000) :
    Calls Try.prog 62 #[.slice A l c, .int .u64 n] w (MinePost 5 w0 none (bs ++ cnt n.toNat)) := by
  have HN2 := hide hn2
  clear hn2
  go_enter Try.func62, Try.ntmps62
  go_wp2_with fail
  refine (count_any w0 w A l l bs n (Mine.full hb hB) hn HN2.out hl).mono ?_
  rintro e w3 ⟨A3, n3, c3, rfl, t3, f3⟩
  go_wp2
  go_ret
  exact ⟨A3, n3, c3, rfl, t3, f3⟩
set_option maxHeartbeats 1000000 in
set_option maxRecDepth 100000 in
theorem Text_any (w0 w : World) (A : Option Addr) (l c : Nat) (bs : List Int) (B : Option Addr) (m cB : Nat) (xss : List (List Int)) (hb : Below w0.heap.size w0 w) (hB : Bys w A l bs) (hX : Byss w B m xss) (hl : l ≤ 1000000000) (hm : m ≤ 10000) (hx : ∀ x ∈ xss, x.length ≤ 1000000) :
    Calls Try.prog 64 #[.slice A l c, .slice B m cB] w (MinePost 5 w0 none (bs ++ xss.flatMap txt)) := by
  have HX := hide hx
  have HL := hide hB.1
  have HM := hide hX.1
  clear hx
  go_enter Try.func64, Try.ntmps64
  go_wp2_with (go_at_call 68; refine (clone_any w w A l c bs (Below.refl _ _) hB (by omega)).mono ?_; rintro e w1 ⟨A1, n1, c1, rfl, t1, f1⟩)
  go_loopw [5, 12] (fun o i wr => ∃ (j : Nat) (A' : Option Addr) (n' c' : Nat), j ≤ m ∧ o = .slice A' n' c' ∧ i = .int .i64 j ∧ n' ≤ 1000000000 + j * 1000009 ∧ Mine 5 w wr A' n' c' (bs ++ (xss.take j).flatMap txt) ∧ Fr w A') (fun _ i _ => m - (intOf i).toNat)
  case atStart => exact ⟨0, A1, n1, c1, by omega, rfl, rfl, by have := t1.len; have := HL.out; omega, by simpa using t1, f1 (Fr.none _)⟩
  case round =>
    obtain ⟨j, A', n', c', hj, rfl, rfl, hn', ht, hf⟩ := hrel
    by_cases hlt : j < m
    · obtain ⟨b, off, rfl, hrow⟩ := hX.2 (by omega)
      obtain ⟨x, hx⟩ : ∃ x, xss[j]? = some x := ⟨_, List.getElem?_eq_getElem (by rw [HM.out]; exact hlt)⟩
      obtain ⟨A2, n2, c2, hcell, hBx, hcx⟩ := hrow j x hx
      have hxl := HX.out x (List.mem_of_getElem? hx)
      have HBL := hide hBx.1
      have hcell2 := cell_under ht.below hcell
      have hs : xss.take (j + 1) = xss.take j ++ [x] := by rw [List.take_add_one, hx]; rfl
      have e : bs ++ (xss.take (j + 1)).flatMap txt = bs ++ (xss.take j).flatMap txt ++ cnt x.length ++ x := by
        rw [hs, List.flatMap_append]; simp [txt, List.append_assoc]
      have E := hide e
      have HR := hide hrow
      have i0 : (0 : Int) ≤ (j : Int) := by omega
      have i1 : (j : Int) < (m : Int) := by omega
      have q0 := hBx.1
      have n20 : n2 ≤ 1000000 := by omega
      have hu : IntKind.u64.wrap (n2 : Int) = (n2 : Int) := by rw [IntKind.wrap_u64]; omega
      clear e hs hx hcell hrow hX q0 hxl
      go_wp2_with fail
      refine (count_any w wr A' n' c' _ n2 ht (by omega) (by omega) (by omega)).mono ?_
      rintro e w3 ⟨A3, n3, c3, rfl, t3, f3⟩
      have h3 : n3 ≤ n' + 9 := by
        have e1 := t3.len
        have e2 := ht.len
        have e3 := (cnt_length ((n2 : Int)).toNat).2
        rw [List.length_append] at e1
        omega
      go_wp2_with (at_builtin; refine wpList_app rfl _ _ rfl w A3 n3 c3 _ (by rfl) t3 A2 n2 c2 x (by rfl) (t3.old hBx) (by omega) ?_; intro A4 n4 c4 w4 t4 f4)
      have h4 : n4 = n3 + n2 := by
        have e1 := t4.len
        have e2 := t3.len
        have e3 := hBx.1
        rw [List.length_append] at e1
        omega
      have H4 := hide h4
      clear h4
      go_wp2
      refine ⟨⟨j + 1, A4, n4, c4, by omega, rfl, by simp, by have := H4.out; omega, ?_, f4 (.inl (f3 (Fr.none _)))⟩, by simp [intOf]; omega⟩
      rw [E.out]
      simpa [HBL.out] using t4
    · obtain rfl : j = m := by omega
      have e : bs ++ (xss.take j).flatMap txt = bs ++ xss.flatMap txt := by rw [List.take_of_length_le (by rw [HM.out]; exact Nat.le_refl _)]
      rw [e] at ht
      have T := hide ht
      clear ht e
      go_wp2
      go_ret
      exact MinePost.mk (T.out.older hb) (hf.older hb)
end Go.Proofs.Ytfloclamdpageaa
