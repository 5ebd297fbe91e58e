/-
  The chapter's example.
-/
import Derived.Test.YtfloclamdpageaaCoinE
import Derived.Test.YtfloclamdpageaaCoinB
namespace Go.Proofs.Ytfloclamdpageaa
open Go.RowKit

def exC : CoinD := ⟨⟨7, [81]⟩, 3, true⟩
theorem exC_bytes : exC.bytes64 = [7, 7, 0, 0, 0, 0, 0, 0, 0, 1, 81] := by kernel_rfl
theorem exC_parse : parse [7, 7, 0, 0, 0, 0, 0, 0, 0, 1, 81] = (exC, 0) := by kernel_rfl
theorem exC_same : exC.same exC = true := by kernel_rfl
theorem exC_str : ba [7, 7, 0, 0, 0, 0, 0, 0, 0, 1, 81] = ⟨#[7, 7, 0, 0, 0, 0, 0, 0, 0, 1, 81]⟩ := by kernel_rfl
set_option maxHeartbeats 4000000 in
set_option maxRecDepth 100000 in
theorem coinalive_any (w : World) : Calls Try.prog 14 #[] w fun e w' => e = .returned (.bool true) ∧ Below w.heap.size w w' := by
  have hs1 : subsidy 149 = 5000000000 := by kernel_rfl
  have hs2 : subsidy 150 = 2500000000 := by kernel_rfl
  have hb1 : Below w.heap.size w ((w.alloc (.cells #[.int .u8 81] 5)).alloc (.cells #[.int .i64 7, .slice (some ⟨w.heap.size, 0, none⟩) 1 1, .int .i64 3, .bool true] 26)) := below_alloc (below_alloc (Below.refl _ _) _) _
  have F1 := hide (show CoinV.Fine ((w.alloc (.cells #[.int .u8 81] 5)).alloc (.cells #[.int .i64 7, .slice (some ⟨w.heap.size, 0, none⟩) 1 1, .int .i64 3, .bool true] 26)) ⟨⟨7, some ⟨w.heap.size, 0, none⟩, 1, 1, [81]⟩, 3, true⟩ from
    ⟨⟨(show (-9223372036854775808 : Int) ≤ 7 ∧ (7 : Int) ≤ 9223372036854775807 by decide), (Bys.one w 5 81 (by decide) (by decide)).alloc _, Nat.le_refl _⟩, (show (-9223372036854775808 : Int) ≤ 3 ∧ (3 : Int) ≤ 9223372036854775807 by decide)⟩)
  have B1 := hide (Blk.new (w.alloc (.cells #[.int .u8 81] 5)) 26 [.int .i64 7, .slice (some ⟨w.heap.size, 0, none⟩) 1 1, .int .i64 3, .bool true])
  rw [World.size_alloc] at B1
  have HB1 := hide hb1
  clear hb1
  go_enter Try.func14, Try.ntmps14
  go_wp2_with fail
  refine (CoinBytes_any _ ⟨⟨7, some ⟨w.heap.size, 0, none⟩, 1, 1, [81]⟩, 3, true⟩ F1.out (show (1 : Nat) ≤ 1000000 by decide)).mono ?_
  rintro e w2 ⟨A2, n2, c2, rfl, t2, f2⟩
  rw [show CoinD.bytes64 (CoinV.d ⟨⟨7, some ⟨w.heap.size, 0, none⟩, 1, 1, [81]⟩, 3, true⟩) = [7, 7, 0, 0, 0, 0, 0, 0, 0, 1, 81] from exC_bytes] at t2
  have hn2 := t2.len
  have F2 := hide (F1.out.out.below t2.below)
  have B2 := hide (Blk.under B1.out t2.below)
  have hb2 := hide (Below.then_ HB1.out t2.below)
  have Y2 := hide t2.bys
  clear t2 f2 HB1 F1 B1
  go_wp2_with fail
  refine (Parse_any w2 A2 n2 c2 _ Y2.out (by simp at hn2; omega)).mono ?_
  rintro e w3 ⟨⟨⟨v, A3, n3, c3, xs⟩, h, p⟩, rfl, hd, F3, hb3⟩
  rw [exC_parse] at hd ⊢
  simp only [CoinV.d, OutV.d, exC, CoinD.mk.injEq, OutD.mk.injEq] at hd
  obtain ⟨⟨rfl, rfl⟩, rfl, rfl⟩ := hd
  have B3 := hide (Blk.under B2.out hb3)
  have F3a := hide (F2.out.below hb3)
  have Y3 := hide (Y2.out.below hb3)
  have hb4 := hide (Below.then_ hb2.out hb3)
  simp only [CoinV.val]
  have hb5 := hide (below_alloc hb4.out (.cells #[.int .i64 7, .slice A3 n3 c3, .int .i64 3, .bool true] 26))
  have hbx : Below w3.heap.size w3 (w3.alloc (.cells #[.int .i64 7, .slice A3 n3 c3, .int .i64 3, .bool true] 26)) := below_alloc (Below.refl _ _) _
  have F4 := hide (show CoinV.Fine (w3.alloc (.cells #[.int .i64 7, .slice A3 n3 c3, .int .i64 3, .bool true] 26)) ⟨⟨7, A3, n3, c3, [81]⟩, 3, true⟩ from ⟨F3.out.below hbx, F3.h⟩)
  have F5 := hide (show CoinV.Fine (w3.alloc (.cells #[.int .i64 7, .slice A3 n3 c3, .int .i64 3, .bool true] 26)) ⟨⟨7, some ⟨w.heap.size, 0, none⟩, 1, 1, [81]⟩, 3, true⟩ from ⟨F3a.out.below hbx, F3.h⟩)
  have Y4 := hide (Y3.out.below hbx)
  have B4 := B3.out.alloc (.cells #[.int .i64 7, .slice A3 n3 c3, .int .i64 3, .bool true] 26)
  have B5 := Blk.new w3 26 [.int .i64 7, .slice A3 n3 c3, .int .i64 3, .bool true]
  have k0 := B4.c0
  have k1 := B4.c1
  have k2 := B4.c2
  have k3 := B4.c3
  have j0 := B5.c0
  have j1 := B5.c1
  have j2 := B5.c2
  have j3 := B5.c3
  clear B4 B5 F3 hb3 hbx
  go_wp2_with fail
  refine (Subsidy_any _ 149 (by decide)).mono ?_
  rintro e w5 ⟨rfl, rfl⟩
  rw [hs1]
  go_wp2_with fail
  refine (Subsidy_any _ 150 (by decide)).mono ?_
  rintro e w5 ⟨rfl, rfl⟩
  rw [hs2]
  go_wp2_with fail
  refine (SameCoin_any _ ⟨⟨7, some ⟨w.heap.size, 0, none⟩, 1, 1, [81]⟩, 3, true⟩ ⟨⟨7, A3, n3, c3, [81]⟩, 3, true⟩ F5.out F4.out).mono ?_
  rintro e w6 ⟨rfl, hb6⟩
  rw [show CoinD.same (CoinV.d ⟨⟨7, some ⟨w.heap.size, 0, none⟩, 1, 1, [81]⟩, 3, true⟩) (CoinV.d ⟨⟨7, A3, n3, c3, [81]⟩, 3, true⟩) = true from exC_same]
  have s6 := run_str w6 A2 n2 c2 _ (Y4.out.below hb6)
  rw [exC_str] at s6
  have hb7 := hide (Below.then_ hb5.out hb6)
  clear k0 k1 k2 k3 j0 j1 j2 j3 hb6
  go_wp2_with fail
  go_ret
  exact ⟨by simp, hb7.out⟩
end Go.Proofs.Ytfloclamdpageaa
