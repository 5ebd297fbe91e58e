/- Lemmas and walks for TableRuns, packed. -/
import Derived.Test.YtjnpkcabkccaoaaGreatQ37
import Derived.Test.YtjnpkcabkccaoaaGreatQ33
import Derived.Test.YtjnpkcabkccaoaaGreatQ22
set_option maxRecDepth 100000
set_option maxHeartbeats 16000000
namespace Go.Proofs.YtjnpkcabkccaoaaGreat
open Go.RowKit
section
theorem str_infoR : (Tryz.prog.info? 9).map (fun i => (i.size, i.bytes, i.zero.map (fun z => z.cells.size))) = some (1, 16, some 1) := by kernel_rfl
def strV (s : List Int) : Value := .string (ba s)
structure SsRow (base : Nat) (w : World) (A : Option Addr) (n c : Nat) (ss : List (List Int)) : Prop where
 len : ss.length = n
 cap : n ≤ c
 low : base ≤ w.heap.size
 row : w.ownsRow base 9 1 (.slice A n c) n (ss.map strV)
 byt : ∀ s ∈ ss, Byt s
namespace SsRow
variable {base : Nat} {w w' : World} {A : Option Addr} {n c : Nat} {ss : List (List Int)}
theorem empty (w : World) (h : base ≤ w.heap.size) : SsRow base (w.alloc (.cells #[] 9)) (some ⟨w.heap.size, 0, none⟩) 0 0 [] :=
 ⟨rfl, Nat.le_refl _, by simp; omega, World.ownsRow_made w #[] 0 h (by unfold maxLen; omega) rfl, by simp⟩
theorem only (h : SsRow base w A n c ss) {F : Nat → Prop} (ho : Only F w w') (hF : ∀ g, (Value.slice A n c).ownBlock = some g → ¬ F g) : SsRow base w' A n c ss :=
 ⟨h.len, h.cap, Nat.le_trans h.low ho.size, ho.own h.row hF, h.byt⟩
theorem under (h : SsRow base w A n c ss) (hb : Below w.heap.size w w') : SsRow base w' A n c ss := h.only (Only.of_below hb fun _ => False) fun _ _ hf => hf
theorem rows (h : SsRow base w A n c ss) : RowsIn (fun s => [strV s]) 1 (fun _ _ => True) w A n ss :=
 rowsOf h.len (fun _ _ => rfl) (by have := h.row; rwa [List.map_eq_flatMap] at this) fun _ _ => trivial
theorem at_ (h : SsRow base w A n c ss) (hn : 0 < n) : ∃ b off : Nat, A = some ⟨b, off, none⟩ ∧ ∀ (i : Nat) (s : List Int), ss[i]? = some s → w.cell? ⟨b, off + i, none⟩ = some (.string (ba s)) := by
 obtain ⟨b, off, e, hr⟩ := h.rows.2.2 hn
 refine ⟨b, off, e, fun i s hs => ?_⟩
 have := hr i s hs 0 (strV s) rfl
 simpa [strV] using this
theorem app (h : SsRow base w A n c ss) {s : List Int} (hs : Byt s) {A' : Option Addr} {c' : Nat}
  (q1 : w'.ownsRow base 9 1 (.slice A' (n + 1) c') (n + 1) (ss.map strV ++ [strV s])) (q2 : n + 1 ≤ c') (q4 : w.heap.size ≤ w'.heap.size) : SsRow base w' A' (n + 1) c' (ss ++ [s]) :=
 ⟨by rw [List.length_append, h.len]; rfl, q2, Nat.le_trans h.low q4, by rw [List.map_append]; exact q1, fun x hx => by
  rcases List.mem_append.1 hx with hx | hx
  ·exact h.byt x hx
  ·rw [List.mem_singleton.1 hx]; exact hs⟩
end SsRow
def RStandsPost (w : World) (g : Nat × List (List Int)) (e : Ending) (w' : World) : Prop :=
 ∃ (A : Option Addr) (n c : Nat), e = .returned (.tuple #[.int .u64 (g.1 : Int), .slice A n c]) ∧ SsRow w.heap.size w' A n c g.2 ∧ Below w.heap.size w w' ∧ n ≤ 3000
theorem head16 (g : Nat) : (headB16 g).length = 16 := by rw [headB16, List.length_append, dig_length]; rfl
theorem sealed_drop (g : Nat) : (sealedB g).drop 16 = sealB g := by rw [sealedB, List.drop_left' (head16 g)]
theorem header_ward (d : Dev) (half : Nat) (h : (header d half).1 ≠ 0) : (header d half).2 = sealB (header d half).1 := by
 unfold header at h ⊢
 split
 ·rename_i h1; rw [if_pos h1] at h; exact absurd rfl h
 ·rename_i h1
  rw [if_neg h1] at h
  split
  ·rename_i h2; rw [if_pos h2] at h; exact absurd rfl h
  ·rfl
theorem areaFrom_byt {d : Dev} (h : d.Bytes) (half mark : Nat) : ∀ k i, Byt (areaFrom d half mark k i)
 | 0, _ => Byt.nil
 | k + 1, i => by
  rw [areaFrom]
  split
  ·exact byt_append (fun x hx => h.slab _ x (List.mem_of_mem_take hx)) (areaFrom_byt h half mark k (i + 1))
  ·exact Byt.nil
theorem area_byt {d : Dev} (h : d.Bytes) (half mark : Nat) : Byt (area d half mark) := areaFrom_byt h half mark _ _
def kindOf (ss : List (List Int)) : Int := if ss.length = 0 then 1 else 2
theorem rStands_any (w : World) (b : Nat) (F : Nat → Prop) (d : Dev) (half : Nat) (hh : half ≤ 1) (h : DocRep w b F d) (hd : DocOk d) :
  Calls Tryz.prog 54 #[.pointer (some ⟨b, 0, none⟩), .int .i64 (half : Int)] w (RStandsPost w (stands d half)) := by
 have D0 := hide h
 have HDO := hide hd
 have HH := hide hh
 have hgen := hide (rGen_any w b F d half hh h hd)
 have HE := stands_eq d half
 have hwd := header_ward d half
 have hlt := header_lt (d := d) half
 have HAL := area_len h.good half
 have HAF := h.good.few
 obtain ⟨G, hG⟩ : ∃ G, G = (header d half).1 := ⟨_, rfl⟩
 rw [← hG] at HE hgen hwd hlt
 have HG9 := hide hlt
 have HWD := hide hwd
 have HEE := hide HE
 clear h hd hh HE hwd hlt
 by_cases hG0 : G = 0
 ·subst hG0
  have HZ := hide (show stands d half = (0, []) by rw [HEE.out, if_pos rfl])
  clear HEE hG HAL HAF
  go_enter Tryz.func54, Tryz.ntmps54
  go_wp2_with fail
  refine hgen.out.mono ?_
  rintro e w1 ⟨rfl, b1⟩
  have B1 := hide b1
  obtain ⟨w2, hw2⟩ : ∃ z, z = w1.alloc (.cells #[] 9) := ⟨_, rfl⟩
  have R2 := hide (show SsRow w.heap.size w2 (some ⟨w1.heap.size, 0, none⟩) 0 0 [] by rw [hw2]; exact SsRow.empty w1 b1.size)
  have B2 := hide (show Below w.heap.size w w2 by rw [hw2]; exact below_alloc b1 _)
  clear b1 hgen
  go_wp2_with fail
  rw [← hw2]
  go_ret2
  rw [HZ.out]
  exact ⟨_, 0, 0, rfl, R2.out, B2.out, by decide⟩
 ·have HZ := hide (show stands d half = (G, tell (area d half G) 1 (sealB G)) by rw [HEE.out, if_neg hG0, HWD.out hG0])
  have g1 : ((G : Int) == 0) = false := by simp; omega
  obtain ⟨AR, hAR⟩ : ∃ L, L = area d half G := ⟨_, rfl⟩
  have HAR := hide hAR
  rw [← hAR] at HZ
  obtain ⟨M, hM⟩ : ∃ M, M = AR.length := ⟨_, rfl⟩
  have HM := hide hM
  have HM2 := hide (show ∃ m, M = 120 * m ∧ m ≤ 2048 by
   obtain ⟨m, h1, h2⟩ := HAL G
   exact ⟨m, by rw [hM, hAR]; exact h2, by unfold Dev.room at h1; omega⟩)
  have HAB := hide (show Byt AR by rw [hAR]; exact area_byt HDO.out.bytes half G)
  have m9 : (M : Int) ≤ 300000 := by obtain ⟨m, h1, h2⟩ := HM2.out; omega
  obtain ⟨SX, hSX⟩ : ∃ S, S = ba AR := ⟨_, rfl⟩
  have xs : SX.size = M := by rw [hSX, ba_size, hM]
  have HSX := hide hSX
  clear HEE HWD hG hG0 HAL HAF hM hAR hSX
  go_enter Tryz.func54, Tryz.ntmps54
  go_wp2_with fail
  refine hgen.out.mono ?_
  rintro e w1 ⟨rfl, b1⟩
  have B1 := hide b1
  obtain ⟨w2, hw2⟩ : ∃ z, z = w1.alloc (.cells #[] 9) := ⟨_, rfl⟩
  have R2 := hide (show SsRow w.heap.size w2 (some ⟨w1.heap.size, 0, none⟩) 0 0 [] by rw [hw2]; exact SsRow.empty w1 b1.size)
  have B2 := hide (show Below w.heap.size w w2 by rw [hw2]; exact below_alloc b1 _)
  clear b1 hgen
  go_wp2_with fail
  rw [← hw2]
  clear hw2
  refine (rarea_any w2 b F d half G HH.out HG9.out (D0.out.under (B2.out.mono (Nat.le_of_eq rfl))) HDO.out).mono ?_
  rintro e w3 ⟨rfl, b3⟩
  rw [← HAR.out, ← HSX.out]
  have B3 := hide (Below.then_ B2.out b3)
  have R3 := hide (R2.out.under b3)
  clear b3
  go_wp2_with fail
  refine (rHeader_any w3 G (by have := HG9.out; omega)).mono ?_
  rintro e w4 ⟨rfl, b4⟩
  have B4 := hide (Below.then_ B3.out b4)
  have R4 := hide (R3.out.under b4)
  have hsl := str_from (sealedB G) 16 (by rw [sealedB, List.length_append, head16]; omega) w4
  rw [sealed_drop] at hsl
  have HWB := hide (show Byt (sealB G) ∧ (sealB G).length ≤ 1000 from ⟨sha_byt _, by rw [sealB, sha_len]; decide⟩)
  obtain ⟨W0, hW0⟩ : ∃ W, W = sealB G := ⟨_, rfl⟩
  rw [← hW0] at hsl HWB HZ
  have hsl2 : (Instr.slice 9 (.string (ba (sealedB G))) (some (.int .i64 16)) none none).run Tryz.prog w4 = .ok (.string (ba W0)) w4 := hsl
  clear b4 hsl hW0
  go_wp2_with fail
  clear hsl2
  go_loopw [7, 9, 10] (fun ov sv iv ws => ∃ (p : Nat) (A : Option Addr) (n c : Nat) (ss : List (List Int)) (ward : List Int), iv = .int .i64 (p : Int) ∧ ov = .slice A n c ∧ sv = .string (ba ward) ∧ SsRow w.heap.size ws A n c ss ∧ (∃ m, M = p + 120 * m ∧ m ≤ 2048) ∧ 120 * n ≤ p ∧ Byt ward ∧ ward.length ≤ 1000 ∧ tell AR 1 W0 = ss ++ tell (AR.drop p) (kindOf ss) ward ∧ Below w.heap.size w ws) (fun _ _ iv _ => M + 1 - (intOf iv).toNat)
  case atStart =>
   obtain ⟨m, h1, h2⟩ := HM2.out
   exact ⟨0, _, 0, 0, [], W0, rfl, rfl, rfl, R4.out, ⟨m, by omega, h2⟩, by omega, HWB.out.1, HWB.out.2, rfl, B4.out⟩
  case round =>
   obtain ⟨p, A, n, c, ss, ward, rfl, rfl, rfl, hrow, hpm, hnp, hwb, hwl, htell, hbw⟩ := hrel
   have HROW := hide hrow
   have HPM := hide hpm
   have HNP := hide hnp
   have HWW := hide (And.intro hwb hwl)
   have HTL := hide htell
   have HBW := hide hbw
   obtain ⟨q, hq⟩ : ∃ q : Int, q = (p : Int) := ⟨_, rfl⟩
   have HQ := hide hq
   rw [← hq]
   have p0 : (0 : Int) ≤ q := by omega
   have p9 : q ≤ 300000 := by obtain ⟨m, h1, h2⟩ := hpm; omega
   obtain ⟨WS, hWS⟩ : ∃ S, S = ba ward := ⟨_, rfl⟩
   have HWS := hide hWS
   rw [← hWS]
   clear R2 R3 R4 B2 B3 B4 hrow hpm hnp hwb hwl htell hbw hWS
   by_cases hend : M < p + 37
   ·have i1 : ¬ q + 37 ≤ (M : Int) := by omega
    have HN := hide (show tell AR 1 W0 = ss by rw [HTL.out, tell_end (by rw [← HM.out]; exact hend), List.append_nil])
    clear hend hq
    go_wp2_with fail
    go_ret2
    rw [HZ.out]
    refine ⟨A, n, c, rfl, ?_, HBW.out, by have := HNP.out; have := HQ.out; omega⟩
    show SsRow w.heap.size wr A n c (tell AR 1 W0)
    rw [HN.out]
    exact HROW.out
   ·have i1 : q + 37 ≤ (M : Int) := by omega
    have HPM1 := hide (show p + 37 ≤ M by omega)
    have z4 := str_part AR p (p + 4) (by omega) (by rw [← HM.out]; omega) wr
    rw [Nat.add_sub_cancel_left, ← HSX.out, show ((p + 4 : Nat) : Int) = q + 4 by rw [hq]; simp, ← hq] at z4
    clear hend hq
    go_wp2_with fail
    clear z4
    refine (rnumber_any wr ((AR.drop p).take 4) (fun x hx => HAB.out x (List.mem_of_mem_drop (List.mem_of_mem_take hx))) (by rw [List.length_take]; omega)).mono ?_
    rintro e wz ⟨rfl, hwz⟩
    rw [hwz]
    clear hwz
    obtain ⟨N, hN⟩ : ∃ N, num ((AR.drop p).take 4) = N := ⟨_, rfl⟩
    have HN := hide hN
    have HN4 := hide (show N < 4294967296 by
     have h1 := num_lt ((AR.drop p).take 4) (fun y hy => HAB.out y (List.mem_of_mem_drop (List.mem_of_mem_take hy)))
     rw [List.length_take, List.length_drop, ← HM.out, Nat.min_eq_left (by have := HPM1.out; omega), hN] at h1
     exact h1)
    obtain ⟨v, hv⟩ : ∃ v : Int, v = (N : Int) := ⟨_, rfl⟩
    have HV := hide hv
    have n0 : (0 : Int) ≤ v := by omega
    have n9 : v ≤ 4294967296 := by have := HN4.out; omega
    have wN : IntKind.i64.wrap v = v := by rw [IntKind.wrap_i64]; omega
    rw [hN, ← hv]
    clear hN hv
    obtain ⟨kd, hkd⟩ : ∃ k, k = kindOf ss := ⟨_, rfl⟩
    have HKD := hide hkd
    have HKK := hide (show 0 ≤ kd ∧ kd ≤ 255 by rw [hkd]; unfold kindOf; split <;> decide)
    go_upto_if 41 with fail
    go_cut [12] (fun k w' => w' = wr ∧ k = .int .u8 kd)
    case first =>
     by_cases hn : n = 0
     ·have e1 : kd = 1 := by rw [hkd, kindOf, if_pos (by rw [HROW.out.len]; exact hn)]
      subst hn
      clear hkd
      go_wp2_with fail
      go_meet
      case rel => exact ⟨rfl, by rw [e1]⟩
     ·have e1 : kd = 2 := by rw [hkd, kindOf, if_neg (by rw [HROW.out.len]; exact hn)]
      have e2 : ((n : Int) == 0) = false := by simp; omega
      clear hkd hn
      go_wp2_with fail
      go_meet
      case rel => exact ⟨rfl, by rw [e1]⟩
    case rest =>
     obtain ⟨hw1, rfl⟩ := hcut
     rw [hw1]
     clear hw1 hkd wc
     obtain ⟨body, hbody⟩ : ∃ l, l = (AR.drop (p + 5)).take N := ⟨_, rfl⟩
     have HBODY := hide hbody
     have HBB := hide (show Byt body by rw [hbody]; exact fun x hx => HAB.out x (List.mem_of_mem_drop (List.mem_of_mem_take hx)))
     obtain ⟨rec_, hrec⟩ : ∃ l, l = (AR.drop p).take (37 + N) := ⟨_, rfl⟩
     have HREC := hide hrec
     have HRB := hide (show Byt rec_ by rw [hrec]; exact fun x hx => HAB.out x (List.mem_of_mem_drop (List.mem_of_mem_take hx)))
     obtain ⟨BO, hBO⟩ : ∃ S, S = ba body := ⟨_, rfl⟩
     have HBO := hide hBO
     have wq5 : IntKind.i64.wrap (q + 5) = q + 5 := by rw [IntKind.wrap_i64]; omega
     have wq5v : IntKind.i64.wrap (q + 5 + v) = q + 5 + v := by rw [IntKind.wrap_i64]; omega
     have wq37 : IntKind.i64.wrap (q + 37) = q + 37 := by rw [IntKind.wrap_i64]; omega
     have wq37v : IntKind.i64.wrap (q + 37 + v) = q + 37 + v := by rw [IntKind.wrap_i64]; omega
     have hs1 := hide (fun (h : p + 37 + N ≤ M) (w : World) => show (Instr.slice 9 (.string SX) (some (.int .i64 (q + 5))) (some (.int .i64 (q + 5 + v))) none).run Tryz.prog w = .ok (.string BO) w by
      have h9 := str_part AR (p + 5) (p + 5 + N) (by omega) (by rw [← HM.out]; omega) w
      rw [Nat.add_sub_cancel_left, ← HSX.out, ← hbody, ← hBO, show ((p + 5 + N : Nat) : Int) = q + 5 + v by rw [HQ.out, HV.out]; simp, show ((p + 5 : Nat) : Int) = q + 5 by rw [HQ.out]; simp] at h9
      exact h9)
     have hs2 := hide (fun (h : p + 37 + N ≤ M) (w : World) => show (Instr.slice 9 (.string SX) (some (.int .i64 q)) (some (.int .i64 (q + 37 + v))) none).run Tryz.prog w = .ok (.string (ba rec_)) w by
      have h9 := str_part AR p (p + 37 + N) (by omega) (by rw [← HM.out]; omega) w
      rw [show p + 37 + N - p = 37 + N by omega, ← HSX.out, ← hrec, show ((p + 37 + N : Nat) : Int) = q + 37 + v by rw [HQ.out, HV.out]; simp, show (p : Int) = q by rw [HQ.out]] at h9
      exact h9)
     have hs3 := hide (fun (h : p + 37 + N ≤ M) (w : World) => show (Instr.slice 9 (.string SX) (some (.int .i64 (q + 5 + v))) (some (.int .i64 (q + 37 + v))) none).run Tryz.prog w = .ok (.string (ba ((AR.drop (p + 5 + N)).take 32))) w by
      have h9 := str_part AR (p + 5 + N) (p + 37 + N) (by omega) (by rw [← HM.out]; omega) w
      rw [show p + 37 + N - (p + 5 + N) = 32 by omega, ← HSX.out, show ((p + 37 + N : Nat) : Int) = q + 37 + v by rw [HQ.out, HV.out]; simp, show ((p + 5 + N : Nat) : Int) = q + 5 + v by rw [HQ.out, HV.out]; simp] at h9
      exact h9)
     obtain ⟨B, hB⟩ : ∃ B : Bool, B = !decide (N ≤ 100000 ∧ p + 37 + N ≤ M ∧ boundB kd body ward = rec_) := ⟨_, rfl⟩
     have HB := hide hB
     clear hbody hrec hBO
     go_upto_region 13 with fail
     go_cut [73] (fun t w' => Below wr.heap.size wr w' ∧ t = .bool B)
     case first =>
      by_cases h1 : 100000 < N
      ·have q1 : decide ((100000 : Int) < v) = true := decide_eq_true (by have := HV.out; omega)
       have e : B = true := by rw [hB, decide_eq_false (by omega)]; rfl
       clear h1 hB
       refine wp_region_held_drew (S := fun w' => Below wr.heap.size wr w') (by kernel_rfl) (by exact (Below.refl _ _).drew) (fun hSS10 => ?_)
       obtain ⟨wrd, hwS1⟩ : ∃ x, x = wr.drew := ⟨_, rfl⟩
       rw [← hwS1] at hSS10 ⊢
       clear hwS1
       refine tq 0 rfl hSS10 ?_
       refine tq 1 rfl hSS10 ?_
       refine tq 2 rfl hSS10 ?_
       refine tm 3 rfl hSS10 ?_
       refine tm 4 rfl hSS10 ?_
       refine tm 5 rfl hSS10 ?_
       refine tm 6 rfl hSS10 ?_
       refine tm 7 rfl hSS10 ?_
       refine tm 8 rfl hSS10 ?_
       refine tm 9 rfl hSS10 ?_
       refine tq 10 rfl hSS10 ?_
       refine tq 11 rfl hSS10 ?_
       refine tm 12 rfl hSS10 ?_
       refine tm 13 rfl hSS10 ?_
       refine tm 14 rfl hSS10 ?_
       refine tm 15 rfl hSS10 ?_
       refine tm 16 rfl hSS10 ?_
       refine tm 17 rfl hSS10 ?_
       refine tm 18 rfl hSS10 ?_
       refine tm 19 rfl hSS10 ?_
       refine tm 20 rfl hSS10 ?_
       refine tm 21 rfl hSS10 ?_
       refine tm 22 rfl hSS10 ?_
       refine tm 23 rfl hSS10 ?_
       refine tm 24 rfl hSS10 ?_
       refine tm 25 rfl hSS10 ?_
       refine tm 26 rfl hSS10 ?_
       refine tm 27 rfl hSS10 ?_
       refine tm 28 rfl hSS10 ?_
       refine tm 29 rfl hSS10 ?_
       refine tm 30 rfl hSS10 ?_
       refine tq 31 rfl hSS10 ?_
       refine wpAnyH_done (by kernel_rfl) ?_ _
       go_wp2_with fail
       go_meet
       case rel => exact ⟨hSS10, by rw [e]⟩
      ·have q1 : decide ((100000 : Int) < v) = false := decide_eq_false (by have := HV.out; omega)
       by_cases h2 : M < p + 37 + N
       ·have q2 : decide ((M : Int) < q + 37 + v) = true := decide_eq_true (by have := HV.out; have := HQ.out; omega)
        have e : B = true := by rw [hB, decide_eq_false (by omega)]; rfl
        clear h1 h2 hB
        refine wp_region_held_drew (S := fun w' => Below wr.heap.size wr w') (by kernel_rfl) (by exact (Below.refl _ _).drew) (fun hSS20 => ?_)
        obtain ⟨wrd, hwS2⟩ : ∃ x, x = wr.drew := ⟨_, rfl⟩
        rw [← hwS2] at hSS20 ⊢
        clear hwS2
        refine tq 0 rfl hSS20 ?_
        refine tq 1 rfl hSS20 ?_
        refine tq 2 rfl hSS20 ?_
        refine tq 3 rfl hSS20 ?_
        refine tq 4 rfl hSS20 ?_
        refine tq 5 rfl hSS20 ?_
        refine tq 6 rfl hSS20 ?_
        refine tq 7 rfl hSS20 ?_
        refine tq 8 rfl hSS20 ?_
        refine tq 9 rfl hSS20 ?_
        refine tq 10 rfl hSS20 ?_
        refine tq 11 rfl hSS20 ?_
        refine tm 12 rfl hSS20 ?_
        refine tm 13 rfl hSS20 ?_
        refine tm 14 rfl hSS20 ?_
        refine tm 15 rfl hSS20 ?_
        refine tm 16 rfl hSS20 ?_
        refine tm 17 rfl hSS20 ?_
        refine tm 18 rfl hSS20 ?_
        refine tm 19 rfl hSS20 ?_
        refine tm 20 rfl hSS20 ?_
        refine tm 21 rfl hSS20 ?_
        refine tm 22 rfl hSS20 ?_
        refine tm 23 rfl hSS20 ?_
        refine tm 24 rfl hSS20 ?_
        refine tm 25 rfl hSS20 ?_
        refine tm 26 rfl hSS20 ?_
        refine tm 27 rfl hSS20 ?_
        refine tm 28 rfl hSS20 ?_
        refine tm 29 rfl hSS20 ?_
        refine tm 30 rfl hSS20 ?_
        refine tq 31 rfl hSS20 ?_
        refine wpAnyH_done (by kernel_rfl) ?_ _
        go_wp2_with fail
        go_meet
        case rel => exact ⟨hSS20, by rw [e]⟩
       ·have q2 : decide ((M : Int) < q + 37 + v) = false := decide_eq_false (by have := HV.out; have := HQ.out; omega)
        have hs1' := hs1.out (by omega)
        have hs2' := hs2.out (by omega)
        have HNL := hide (show N ≤ 100000 ∧ body.length ≤ 100000 by rw [HBODY.out, List.length_take]; omega)
        obtain ⟨RO, hRO⟩ : ∃ S, S = ba rec_ := ⟨_, rfl⟩
        rw [← hRO] at hs2'
        by_cases h3 : boundB kd body ward = rec_
        ·have HY := hide (show ba (boundB kd body ward) = RO by rw [h3, hRO])
         have e : B = false := by rw [hB, decide_eq_true ⟨by omega, by omega, h3⟩]; rfl
         clear h1 h2 h3 hB hRO
         refine wp_region_held_drew (S := fun w' => Below wr.heap.size wr w') (by kernel_rfl) (by exact (Below.refl _ _).drew) (fun hSS30 => ?_)
         obtain ⟨wrd, hwS3⟩ : ∃ x, x = wr.drew := ⟨_, rfl⟩
         rw [← hwS3] at hSS30 ⊢
         clear hwS3
         refine tq 0 rfl hSS30 ?_
         refine tq 1 rfl hSS30 ?_
         refine tq 2 rfl hSS30 ?_
         refine tq 3 rfl hSS30 ?_
         refine tq 4 rfl hSS30 ?_
         refine tq 5 rfl hSS30 ?_
         refine tq 6 rfl hSS30 ?_
         refine tq 7 rfl hSS30 ?_
         refine tq 8 rfl hSS30 ?_
         refine tq 9 rfl hSS30 ?_
         refine tq 10 rfl hSS30 ?_
         refine tq 11 rfl hSS30 ?_
         refine tq 12 rfl hSS30 ?_
         refine tq 13 rfl hSS30 ?_
         refine tq 14 rfl hSS30 ?_
         refine tq 15 rfl hSS30 ?_
         refine tq 16 rfl hSS30 ?_
         refine tq 17 rfl hSS30 ?_
         refine tq 18 rfl hSS30 ?_
         refine tq 19 rfl hSS30 ?_
         (refine tq 20 rfl hSS30 ?_ (fun w' hSw => by have z20 := hs1' w'; go_simp; try with_reducible rfl))
         refine tq 21 rfl hSS30 ?_
         refine tq 23 rfl hSS30 ?_
         refine tq 24 rfl hSS30 ?_
         refine tq 25 rfl hSS30 ?_
         refine tq 26 rfl hSS30 ?_
         refine tq 27 rfl hSS30 ?_
         refine tq 28 rfl hSS30 ?_
         (refine tq 29 rfl hSS30 ?_ (fun w' hSw => by have z29 := hs2' w'; go_simp; try with_reducible rfl))
         refine ry 22 rfl fun K hK => ?_
         go_simp
         have hrr := rRecord_any wrd kd body ward HKK.out HBB.out HWW.out.1 HNL.out.2 HWW.out.2
         rw [← HBO.out, ← HWS.out, HY.out] at hrr
         refine hrr.mono ?_
         clear hrr
         rintro e wR ⟨rfl, bR⟩
         have BR := hide (Below.then_ (hSS30) bR)
         clear bR
         go_simp
         refine hK.out _ _ (BR.out) (fun hSS31 => ?_)
         clear hK K
         refine tq 30 rfl hSS31 ?_
         refine tq 31 rfl hSS31 ?_
         refine wpAnyH_done (by kernel_rfl) ?_ _
         go_wp2_with fail
         go_meet
         case rel => exact ⟨hSS31, by rw [e]⟩
        ·obtain ⟨Y, hY⟩ : ∃ Y, ba (boundB kd body ward) = Y := ⟨_, rfl⟩
         have HY := hide hY
         have hne : Y.toList ≠ RO.toList := by
          rw [hRO, ← hY]
          exact str_ne (boundB_byt HKK.out HBB.out) HRB.out h3
         have hbe : (Y.toList == RO.toList) = false := by simpa using hne
         have e : B = true := by rw [hB, decide_eq_false (fun h => h3 h.2.2)]; rfl
         clear h1 h2 h3 hB hRO hY hne
         refine wp_region_held_drew (S := fun w' => Below wr.heap.size wr w') (by kernel_rfl) (by exact (Below.refl _ _).drew) (fun hSS40 => ?_)
         obtain ⟨wrd, hwS4⟩ : ∃ x, x = wr.drew := ⟨_, rfl⟩
         rw [← hwS4] at hSS40 ⊢
         clear hwS4
         refine tq 0 rfl hSS40 ?_
         refine tq 1 rfl hSS40 ?_
         refine tq 2 rfl hSS40 ?_
         refine tq 3 rfl hSS40 ?_
         refine tq 4 rfl hSS40 ?_
         refine tq 5 rfl hSS40 ?_
         refine tq 6 rfl hSS40 ?_
         refine tq 7 rfl hSS40 ?_
         refine tq 8 rfl hSS40 ?_
         refine tq 9 rfl hSS40 ?_
         refine tq 10 rfl hSS40 ?_
         refine tq 11 rfl hSS40 ?_
         refine tq 12 rfl hSS40 ?_
         refine tq 13 rfl hSS40 ?_
         refine tq 14 rfl hSS40 ?_
         refine tq 15 rfl hSS40 ?_
         refine tq 16 rfl hSS40 ?_
         refine tq 17 rfl hSS40 ?_
         refine tq 18 rfl hSS40 ?_
         refine tq 19 rfl hSS40 ?_
         (refine tq 20 rfl hSS40 ?_ (fun w' hSw => by have z20 := hs1' w'; go_simp; try with_reducible rfl))
         refine tq 21 rfl hSS40 ?_
         refine tq 23 rfl hSS40 ?_
         refine tq 24 rfl hSS40 ?_
         refine tq 25 rfl hSS40 ?_
         refine tq 26 rfl hSS40 ?_
         refine tq 27 rfl hSS40 ?_
         refine tq 28 rfl hSS40 ?_
         (refine tq 29 rfl hSS40 ?_ (fun w' hSw => by have z29 := hs2' w'; go_simp; try with_reducible rfl))
         refine ry 22 rfl fun K hK => ?_
         go_simp
         have hrr := rRecord_any wrd kd body ward HKK.out HBB.out HWW.out.1 HNL.out.2 HWW.out.2
         rw [← HBO.out, ← HWS.out, HY.out] at hrr
         refine hrr.mono ?_
         clear hrr
         rintro e wR ⟨rfl, bR⟩
         have BR := hide (Below.then_ (hSS40) bR)
         clear bR
         go_simp
         refine hK.out _ _ (BR.out) (fun hSS41 => ?_)
         clear hK K
         refine tq 30 rfl hSS41 ?_
         refine tq 31 rfl hSS41 ?_
         refine wpAnyH_done (by kernel_rfl) ?_ _
         go_wp2_with fail
         go_meet
         case rel => exact ⟨hSS41, by rw [e]⟩
     case rest =>
      obtain ⟨hbc, rfl⟩ := hcut
      have BC := hide hbc
      clear hbc hB
      cases hB : B with
      | true =>
       have HNN := hide (show tell AR 1 W0 = ss by
        have h9 : ¬ (N ≤ 100000 ∧ p + 37 + N ≤ M ∧ boundB kd body ward = rec_) := fun hh => by
         have := HB.out
         rw [hB, decide_eq_true hh] at this
         cases this
        rw [HTL.out, show tell (AR.drop p) (kindOf ss) ward = [] from ?_, List.append_nil]
        by_cases h1 : N ≤ 100000 ∧ p + 37 + N ≤ M
        ·refine tell_not HAB.out HN.out h1.1 (by rw [← HM.out]; exact h1.2) ?_
         rw [← HBODY.out, ← HREC.out, ← HKD.out]
         exact fun h => h9 ⟨h1.1, h1.2, h⟩
        ·exact tell_no HN.out (by rw [← HM.out]; omega))
       clear hB
       go_wp2_with fail
       go_ret2
       rw [HZ.out]
       refine ⟨A, n, c, rfl, ?_, Below.then_ HBW.out BC.out, by have := HNP.out; have := HQ.out; omega⟩
       show SsRow w.heap.size wc A n c (tell AR 1 W0)
       rw [HNN.out]
       exact HROW.out.under BC.out
      | false =>
       have HOK := hide (show N ≤ 100000 ∧ p + 37 + N ≤ M ∧ boundB kd body ward = rec_ by
        have := HB.out
        rw [hB] at this
        simpa using this)
       have hs1' := hs1.out HOK.out.2.1 wc
       have hs3' := hs3.out HOK.out.2.1
       obtain ⟨ward2, hw2⟩ : ∃ l, l = (AR.drop (p + 5 + N)).take 32 := ⟨_, rfl⟩
       have HW2 := hide (show Byt ward2 ∧ ward2.length ≤ 1000 from ⟨by rw [hw2]; exact fun x hx => HAB.out x (List.mem_of_mem_drop (List.mem_of_mem_take hx)), by rw [hw2, List.length_take]; omega⟩)
       have HTL2 := hide (show tell AR 1 W0 = (ss ++ [body]) ++ tell (AR.drop (p + 120 * slabsN (N : Int))) 2 ward2 by
        rw [HTL.out, tell_yes HAB.out HN.out HOK.out.1 (by rw [← HM.out]; exact HOK.out.2.1) (by rw [← HBODY.out, ← HREC.out, ← HKD.out]; exact HOK.out.2.2), ← HBODY.out, ← hw2]
        simp)
       rw [← hw2] at hs3'
       obtain ⟨U, hU⟩ : ∃ U, U = slabsN (N : Int) := ⟨_, rfl⟩
       have HFIT := hide (show 120 * U ≤ M - p ∧ 1 ≤ U ∧ U ≤ 1000 by
        obtain ⟨m, h1, _⟩ := HPM.out
        have h9 := slabs_fit (n := M - p) (l := N) (m := m) (by have := HOK.out.2.1; omega) HOK.out.1 (by omega)
        rw [← hU] at h9
        omega)
       have HUU := hide hU
       have BH := hide (Below.then_ HBW.out BC.out)
       have RC := hide (HROW.out.under BC.out)
       obtain ⟨wb, hwb⟩ : ∃ z, z = wc.alloc (.cells #[.string BO] 9) := ⟨_, rfl⟩
       have BB := hide (show Below wc.heap.size wc wb by rw [hwb]; exact below_alloc (Below.refl _ _) _)
       have RB := hide (RC.out.under BB.out)
       have NB := hide (show wb.rangeAt wc.heap.size 0 [strV body] by rw [hwb, strV, ← HBO.out]; exact (Blk.new wc 9 [.string BO]).whole)
       have wuv : IntKind.i64.wrap (120 * (U : Int)) = 120 * (U : Int) := by rw [IntKind.wrap_i64]; have := HFIT.out; omega
       have wqu : IntKind.i64.wrap (q + 120 * (U : Int)) = q + 120 * (U : Int) := by rw [IntKind.wrap_i64]; have := HFIT.out; omega
       clear hB hw2 hU
       go_wp2_with (at_builtin; rw [← hwb]; clear hwb; refine wpListRow rfl 84 rfl _ _ 81 rfl 9 1 16 Tryz.underlying81 str_infoR (by decide) w.heap.size (.slice A n c) n _ (by rfl) RB.out.row RB.out.low wc.heap.size 0 1 1 [strV body] (by rfl) rfl NB.out (fun u hu => by rw [List.mem_singleton.1 hu]; rfl) (by have := HNP.out; have := HQ.out; omega) (by decide) ?_; intro A7 c7 w7 q1 q2 q3 q4; have R7 := hide (RB.out.app HBB.out q1 q2 q4.size); have B7 := hide (show Below w.heap.size w w7 from (Below.then_ BH.out BB.out).trans (q4.below (by have := BH.out.size; have := BB.out.size; omega) (fun i hi e => by have := (RB.out.row.lt i e).1; omega))); have hs3w := hs3' w7; clear q1 q2 q3 q4; simp only [pU])
       refine (rSlabs_any w7 v n0 (by have := HOK.out.1; have := HV.out; omega)).mono ?_
       rintro e wz ⟨rfl, hwz⟩
       rw [hwz, show (slabsN v : Int) = (U : Int) by rw [HUU.out, HV.out]]
       clear hwz
       go_wp2_with fail
       exact ⟨⟨p + 120 * U, A7, n + 1, c7, ss ++ [body], ward2, by rw [HQ.out]; first | rfl | (congr 1; omega), rfl, rfl, R7.out, by obtain ⟨m, h1, h2⟩ := HPM.out; have := HFIT.out; exact ⟨m - U, by omega, by omega⟩, by have := HNP.out; have := HFIT.out; omega, HW2.out.1, HW2.out.2, by rw [HTL2.out, HUU.out, show kindOf (ss ++ [body]) = 2 by rw [kindOf, if_neg (by simp)]], B7.out⟩, by have h1 := HQ.out; have h2 := HFIT.out; have h3 := HPM1.out; simp [intOf]; omega⟩
end
end Go.Proofs.YtjnpkcabkccaoaaGreat
