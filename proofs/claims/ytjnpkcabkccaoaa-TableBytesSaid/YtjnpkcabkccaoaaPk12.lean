import Derived.Test.YtjnpkcabkccaoaaPk11
import Derived.Test.YtjnpkcabkccaoaaPk8
import Derived.Test.YtjnpkcabkccaoaaPk3
/-
  chainlog: the greatest mark; whether a log is ready; what is left; Sync.
-/
namespace Go.Proofs.Ytjnpkcabkccaoaa
open Go.RowKit

theorem half_two (R : Nat) (h : R ≤ 2048) : wrap64 (2 * (R : Int)) = 2 * (R : Int) := by rw [← IntWalk.i64_left, IntKind.wrap_i64]; omega
attribute [local go_sem ↓] loadSlab_fold
set_option maxHeartbeats 4000000 in
set_option maxRecDepth 100000 in
theorem top_any (w : World) (g b : Nat) (F : Nat → Prop) (d : Dev) (l : LogD) (hL : LogAt w g b l) (h : DevRep w b F d) (hb : d.Bytes) :
    Calls Try.prog 114 #[.pointer (some ⟨g, 0, none⟩)] w fun e w' => e = .returned (.int .u64 (topL d : Int)) ∧ Below w.heap.size w w' := by
  have D0 := hide h
  have L0 := hide hL
  have HG := hide h.good
  have HB := hide hb
  have hR : d.room ≤ 2048 := by have := h.good.few; unfold Dev.room; omega
  obtain ⟨R, hRR⟩ : ∃ R, R = d.room := ⟨_, rfl⟩
  have HRR := hide hRR
  rw [← hRR] at hR
  have r0 : (0 : Int) ≤ (R : Int) := by omega
  have r9 : (R : Int) ≤ 2048 := by omega
  have hPw := half_two R hR
  have hPw2 : IntKind.i64.wrap (2 * (R : Int)) = 2 * (R : Int) := by rw [IntKind.wrap_i64]; omega
  have HR := hide hR
  have c0 := hL.cd
  clear hRR h hb hR hL
  go_enter Try.func114, Try.ntmps114
  go_wp2_with (go_at_call 116; refine (room_any w b F d D0.out).mono ?_; rintro e wx ⟨rfl, rfl⟩; rw [← HRR.out])
  clear c0
  go_loopw [3, 13] (fun v i ws => ∃ j : Nat, j ≤ 2 * R ∧ i = .int .i64 (j : Int) ∧ v = .int .u64 (topTo d j : Int) ∧ Below w.heap.size w ws) (fun _ i _ => 2 * R - (intOf i).toNat)
  case atStart => exact ⟨0, by omega, rfl, rfl, Below.refl _ _⟩
  case round =>
    obtain ⟨j, hj, rfl, rfl, hbw⟩ := hrel
    have BW := hide hbw
    have DR := hide (D0.out.under hbw)
    have cR := (L0.out.under hbw).cd
    obtain ⟨T, hT⟩ : ∃ T, T = topTo d j := ⟨_, rfl⟩
    rw [← hT]
    have HT := hide hT
    have j0 : (0 : Int) ≤ (j : Int) := by omega
    have j9 : (j : Int) ≤ 4096 := by omega
    have t0 : (0 : Int) ≤ (T : Int) := by omega
    have HJ := hide hj
    clear hbw hT hj
    by_cases hlt : j < 2 * R
    · have i1 : (j : Int) < 2 * (R : Int) := by omega
      obtain ⟨s, hs⟩ : ∃ s, s = d.slab j := ⟨_, rfl⟩
      have HSL := hide (show s.length = 128 by rw [hs]; exact HG.out.slab _)
      have HSB := hide (show Byt s by rw [hs]; exact HB.out.slab _)
      have HLT := hide hlt
      have HS := hide hs
      clear hlt hs
      go_wp2_with fail
      refine (read_any wr b F d _ DR.out).mono ?_
      rintro e w2 ⟨rfl, b2⟩
      rw [show (d.read (j : Int)).1 = s from (slab_read d j _ (by simp)).trans HS.out.symm]
      obtain ⟨E, hE⟩ : ∃ E, E = (d.read (j : Int)).2 := ⟨_, rfl⟩
      rw [← hE]
      have B2 := hide b2
      have KZ2 := hide (Blk.new w2 34 (enc zeroS))
      have hI := hide (isz33' s HSL.out)
      clear hE b2 cR
      go_wp2_with (first
        | (refine wpList_alloc_agg rfl 34 rfl (enc zeroS) zero33 ?_; simp only [Act.put, List.setIfInBounds_toArray, List.set_cons_zero, List.set_cons_succ])
        | (refine wpList_store_blk rfl 34 _ _ rfl w2.heap.size 0 34 (enc zeroS) (enc s) (by rfl) (by rfl) KZ2.out (Nat.le_of_eq (by rw [enc_length, enc_length, HSL.out, zeroS_length])) hI.out (enc_one _) ?_; intro w3 o3 z3 b3; rw [lay_all _ _ (by rw [enc_length, enc_length, HSL.out, zeroS_length])] at b3; have K3 := hide b3; have B23 := hide (show Below w2.heap.size w2 w3 from Below.trans ((Below.refl _ w2).alloc (Nat.le_refl _) _) (o3.below (by simp) (fun i hi e => by have h9 : i = w2.heap.size := e; omega))); have hld := loadSlabR w3 w2.heap.size 0 s b3.whole HSL.out; clear o3 z3 b3; simp only [Act.put]))
      refine (marked_any w3 s HSL.out HSB.out).mono ?_
      rintro e w4 ⟨rfl, b4⟩
      obtain ⟨G, hG⟩ : ∃ G, G = marked s := ⟨_, rfl⟩
      have HGG := hide hG
      rw [← hG]
      have g0 : (0 : Int) ≤ (G : Int) := by omega
      have B24 := hide (Below.then_ B23.out b4)
      have B04 := hide (Below.then_ B2.out B24.out)
      clear hld hG b4
      go_wp2_with fail
      refine ⟨⟨j + 1, by have := HLT.out; omega, by go_num, ?_, Below.then_ BW.out B04.out⟩, by have := HLT.out; simp [intOf]; omega⟩
      have he : topTo d (j + 1) = if T < G then G else T := by
        rw [topTo, ← HT.out, ← HS.out, ← HGG.out]; split <;> omega
      rw [he]
      by_cases hc : T < G
      · rw [if_pos hc, if_pos hc]
      · rw [if_neg hc, if_neg hc]
    · have i1 : ¬ (j : Int) < 2 * (R : Int) := by omega
      have hjr : j = 2 * R := by have := HJ.out; omega
      have HE := hide hjr
      clear hlt hjr
      go_wp2_with fail
      go_ret
      refine ⟨?_, BW.out⟩
      rw [HT.out, HE.out, HRR.out]; rfl
set_option maxHeartbeats 1000000 in
theorem Ready_any (w : World) (g b : Nat) (l : LogD) (hL : LogAt w g b l) :
    Calls Try.prog 109 #[.pointer (some ⟨g, 0, none⟩)] w fun e w' => e = .returned (.bool l.ready) ∧ w = w' := by
  have c0 := hL.cready
  generalize l.ready = v at c0 ⊢
  clear hL
  go_enter Try.func109, Try.ntmps109
  go_wp2
  go_ret
  exact ⟨rfl, rfl⟩
/-- What a call on a log does: the device, the log, the answer. -/
def LogPost (w : World) (g b : Nat) (F : Nat → Prop) (r : Dev × LogD × Int) (e : Ending) (w' : World) : Prop :=
  e = .returned (.int .i64 r.2.2) ∧ ∃ F', DevRep w' b F' r.1 ∧ LogAt w' g b r.2.1 ∧ Only (fun i => F i ∨ i = g) w w' ∧ ∀ i, F' i → F i ∨ w.heap.size ≤ i
theorem LogAt.setReady {w : World} {g b : Nat} {l : LogD} (h : LogAt w g b l) (v : Bool) : LogAt (w.setCell ⟨g, 36, none⟩ (.bool v)) g b { l with ready := v } :=
  ⟨by rw [← log_setReady h.len]; exact h.blk.set_ 36 _, h.len, h.byt, h.half, h.mark⟩
set_option maxHeartbeats 1000000 in
theorem Sync_any (w : World) (g b : Nat) (F : Nat → Prop) (d : Dev) (l : LogD) (hL : LogAt w g b l) (h : DevRep w b F d) (hgF : ¬ F g) (hw : d.written.length ≤ 1000000) :
    Calls Try.prog 58 #[.pointer (some ⟨g, 0, none⟩)] w (LogPost w g b F (syncL d l)) := by
  have c0 := hL.cready
  have c1 := hL.cd
  obtain ⟨v, hv⟩ : ∃ v, v = l.ready := ⟨_, rfl⟩
  rw [← hv] at c0
  by_cases hr : v = false
  · subst hr
    have hs : syncL d l = (d, l, 141) := by rw [syncL, if_pos hv.symm]
    rw [hs]
    have L0 := hide hL
    have D0 := hide h
    clear hL h hs hw hv
    go_enter Try.func58, Try.ntmps58
    go_wp2
    go_ret
    exact ⟨rfl, F, D0.out, L0.out, Only.refl _ _, fun _ h => .inl h⟩
  · have hr2 : v = true := by simpa using hr
    subst hr2
    have hs : syncL d l = (d.sync.1, { l with ready := decide (d.sync.2 = 0) }, d.sync.2) := by rw [syncL, if_neg (by rw [← hv]; decide)]
    rw [hs]
    have HS := sync_any w b F d h hw
    have L0 := hide hL
    have D0 := hide h
    have hlt := h.lt
    obtain ⟨V, hV⟩ : ∃ V, V = d.sync.2 := ⟨_, rfl⟩
    obtain ⟨d', hd'⟩ : ∃ d', d' = d.sync.1 := ⟨_, rfl⟩
    rw [← hV, ← hd'] at HS ⊢
    have hgl := hL.blk.lt
    clear hL h hs hw hv hV hd'
    go_enter Try.func58, Try.ntmps58
    go_wp2_with (go_at_call 18; refine HS.mono ?_; rintro e w9 ⟨rfl, F9, h9, o9, f9⟩; have L9 := hide (L0.out.keep o9 hgF); have cr := L9.out.cready; have fr := L9.out.blk.frozen 36)
    go_ret
    refine ⟨rfl, F9, h9.keep (Only.cell1 w9 g 36 _) (fun i hi e => ?_), L9.out.setReady _, (o9.mono (fun i _ h => .inl h)).trans (Only.cell1 w9 g 36 _) (fun i _ h => .inr h), f9⟩
    have e9 : i = g := e
    subst e9
    rcases f9 _ hi with h | h
    · exact hgF h
    · omega
/-- What Left answers has room in an int. -/
theorem wrap_left (R : Nat) (p : Int) (hr : R ≤ 2048) (h0 : 0 ≤ p) (h1 : p ≤ 10000) : IntKind.i64.wrap ((R : Int) - p) = (R : Int) - p := by rw [IntKind.wrap_i64]; omega
set_option maxHeartbeats 1000000 in
set_option maxRecDepth 100000 in
theorem LLeft_any (w : World) (g b : Nat) (F : Nat → Prop) (d : Dev) (l : LogD) (hL : LogAt w g b l) (h : DevRep w b F d) (h0 : 0 ≤ l.at_) (h1 : l.at_ ≤ 10000) :
    Calls Try.prog 110 #[.pointer (some ⟨g, 0, none⟩)] w fun e w' => e = .returned (.int .i64 (leftL d l)) ∧ Below w.heap.size w w' := by
  have c0 := hL.cready
  obtain ⟨v, hv⟩ : ∃ v, v = l.ready := ⟨_, rfl⟩
  rw [← hv] at c0
  have hR : d.room ≤ 2048 := by have := h.good.few; unfold Dev.room; omega
  have HW := hide (wrap_left d.room l.at_ hR h0 h1)
  have L0 := hide hL
  have D0 := hide h
  by_cases hr : v = false
  · subst hr
    have hs : leftL d l = 0 := by rw [leftL, ← hv]; rfl
    rw [hs]
    clear hL h hs hv hR h0 h1
    go_enter Try.func110, Try.ntmps110
    go_wp2
    go_ret
    exact ⟨rfl, Below.refl _ _⟩
  · have hr2 : v = true := by simpa using hr
    subst hr2
    have hs : leftL d l = (d.room : Int) - l.at_ := by rw [leftL, ← hv]; rfl
    rw [hs]
    obtain ⟨p, hp⟩ : ∃ p, p = l.at_ := ⟨_, rfl⟩
    have HC := hide (show ∀ w', Below w.heap.size w w' → w'.cell? ⟨g, 2, none⟩ = some (.int .i64 p) from fun w' hb => by rw [hp]; exact (L0.out.under hb).cat)
    rw [← hp] at HW h0 h1 ⊢
    obtain ⟨R, hRR⟩ : ∃ R, R = d.room := ⟨_, rfl⟩
    rw [← hRR] at HW hR ⊢
    have HRR := hide hRR
    have hR9 : (R : Int) ≤ 2048 := by omega
    have hR0 : (0 : Int) ≤ (R : Int) := by omega
    clear hL h hs hv hp hRR hr
    go_enter Try.func110, Try.ntmps110
    go_wp2_with fail
    refine wp_region_held_drew (S := fun w' => Below w.heap.size w w') (by kernel_rfl) ((Below.refl _ w).drew) (fun hSA0 => ?_)
    obtain ⟨wd, hwA⟩ : ∃ x, x = w.drew := ⟨_, rfl⟩
    rw [← hwA] at hSA0 ⊢
    clear hwA
    (refine wpAnyH_take (i := 0) (oi := ⟨some 8, .move (.tmp 0), 86, "chainlog.go:225", #[], none⟩) (v := ?_) rfl (by kernel_rfl) (by kernel_rfl) (by kernel_rfl) (fun _ _ _ h => h) (Or.inl ⟨by rfl, fun w' hSw => ?_⟩) hSA0 ?_; rotate_left; focus (go_simp; try with_reducible rfl))
    simp only [Act.put, List.setIfInBounds_toArray, List.set_cons_zero, List.set_cons_succ]
    (refine wpAnyH_take (i := 1) (oi := ⟨some 9, .nilCheck (.tmp 8), 0, "chainlog.go:225", #[⟨0, .data⟩], none⟩) (v := ?_) rfl (by kernel_rfl) (by kernel_rfl) (by kernel_rfl) (fun _ _ _ h => h) (Or.inl ⟨by rfl, fun w' hSw => ?_⟩) hSA0 ?_; rotate_left; focus (go_simp; try with_reducible rfl))
    simp only [Act.put, List.setIfInBounds_toArray, List.set_cons_zero, List.set_cons_succ]
    (refine wpAnyH_take (i := 2) (oi := ⟨some 10, .fieldAddr 166 (.tmp 9) 0, 0, "chainlog.go:225", #[⟨1, .data⟩], none⟩) (v := ?_) rfl (by kernel_rfl) (by kernel_rfl) (by kernel_rfl) (fun _ _ _ h => h) (Or.inl ⟨by rfl, fun w' hSw => ?_⟩) hSA0 ?_; rotate_left; focus (go_simp; try with_reducible rfl))
    simp only [Act.put, List.setIfInBounds_toArray, List.set_cons_zero, List.set_cons_succ]
    (refine wpAnyH_take (i := 3) (oi := ⟨some 11, .load 24 (.tmp 10), 24, "chainlog.go:225", #[⟨2, .data⟩], none⟩) (v := ?_) rfl (by kernel_rfl) (by kernel_rfl) (by kernel_rfl) (fun _ _ _ h => h) (Or.inl ⟨by rfl, fun w' hSw => ?_⟩) hSA0 ?_; rotate_left; focus (have z := (L0.out.under hSw).cd; go_simp; try with_reducible rfl))
    simp only [Act.put, List.setIfInBounds_toArray, List.set_cons_zero, List.set_cons_succ]
    (refine wpAnyH_take (i := 5) (oi := ⟨some 13, .move (.tmp 0), 86, "chainlog.go:225", #[], none⟩) (v := ?_) rfl (by kernel_rfl) (by kernel_rfl) (by kernel_rfl) (fun _ _ _ h => h) (Or.inl ⟨by rfl, fun w' hSw => ?_⟩) hSA0 ?_; rotate_left; focus (go_simp; try with_reducible rfl))
    simp only [Act.put, List.setIfInBounds_toArray, List.set_cons_zero, List.set_cons_succ]
    (refine wpAnyH_take (i := 6) (oi := ⟨some 14, .nilCheck (.tmp 13), 0, "chainlog.go:225", #[⟨5, .data⟩], none⟩) (v := ?_) rfl (by kernel_rfl) (by kernel_rfl) (by kernel_rfl) (fun _ _ _ h => h) (Or.inl ⟨by rfl, fun w' hSw => ?_⟩) hSA0 ?_; rotate_left; focus (go_simp; try with_reducible rfl))
    simp only [Act.put, List.setIfInBounds_toArray, List.set_cons_zero, List.set_cons_succ]
    (refine wpAnyH_take (i := 7) (oi := ⟨some 15, .fieldAddr 166 (.tmp 14) 2, 0, "chainlog.go:225", #[⟨6, .data⟩], none⟩) (v := ?_) rfl (by kernel_rfl) (by kernel_rfl) (by kernel_rfl) (fun _ _ _ h => h) (Or.inl ⟨by rfl, fun w' hSw => ?_⟩) hSA0 ?_; rotate_left; focus (go_simp; try with_reducible rfl))
    simp only [Act.put, List.setIfInBounds_toArray, List.set_cons_zero, List.set_cons_succ]
    (refine wpAnyH_take (i := 8) (oi := ⟨some 16, .load 3 (.tmp 15), 3, "chainlog.go:225", #[⟨7, .data⟩], none⟩) (v := ?_) rfl (by kernel_rfl) (by kernel_rfl) (by kernel_rfl) (fun _ _ _ h => h) (Or.inl ⟨by rfl, fun w' hSw => ?_⟩) hSA0 ?_; rotate_left; focus (have z := HC.out w' hSw; go_simp; try with_reducible rfl))
    simp only [Act.put, List.setIfInBounds_toArray, List.set_cons_zero, List.set_cons_succ]
    refine wpAnyH_ready (rs := [4]) (by kernel_rfl) (by simp) ?_
    refine AllReadyH.cons rfl (fun K hK => ?_) AllReadyH.nil
    go_simp
    go_simp
    go_wp2_with (go_at_call 116; refine (room_any wd b F d (D0.out.under hSA0)).mono ?_; rintro e wz ⟨rfl, hwz⟩; rw [← hwz]; clear hwz; rw [← HRR.out])
    refine hK.out _ _ (hSA0) (fun hSA1 => ?_)
    clear hK K
    (refine wpAnyH_take (i := 9) (oi := ⟨some 17, .binOp .sub 3 (.tmp 12) (.tmp 16) 3, 3, "chainlog.go:225", #[⟨4, .data⟩, ⟨8, .data⟩], none⟩) (v := ?_) rfl (by kernel_rfl) (by kernel_rfl) (by kernel_rfl) (fun _ _ _ h => h) (Or.inl ⟨by rfl, fun w' hSw => ?_⟩) hSA1 ?_; rotate_left; focus (have z := HW.out; go_simp; try with_reducible rfl))
    simp only [Act.put, List.setIfInBounds_toArray, List.set_cons_zero, List.set_cons_succ]
    (refine wpAnyH_take (i := 10) (oi := ⟨some 2, .assign (.tmp 17), 3, "chainlog.go:225", #[⟨9, .data⟩, ⟨4, .chain⟩, ⟨0, .phase⟩, ⟨1, .phase⟩, ⟨2, .phase⟩, ⟨3, .phase⟩, ⟨4, .phase⟩, ⟨5, .phase⟩, ⟨6, .phase⟩, ⟨7, .phase⟩, ⟨8, .phase⟩, ⟨9, .phase⟩], none⟩) (v := ?_) rfl (by kernel_rfl) (by kernel_rfl) (by kernel_rfl) (fun _ _ _ h => h) (Or.inl ⟨by rfl, fun w' hSw => ?_⟩) hSA1 ?_; rotate_left; focus (go_simp; try with_reducible rfl))
    simp only [Act.put, List.setIfInBounds_toArray, List.set_cons_zero, List.set_cons_succ]
    refine wpAnyH_done (by kernel_rfl) ?_ _
    go_wp2_with fail
    go_ret
    exact ⟨rfl, hSA1⟩
end Go.Proofs.Ytjnpkcabkccaoaa
/-
  chainlog: a record put behind the others.
-/
namespace Go.Proofs.Ytjnpkcabkccaoaa
open Go.RowKit

theorem log_setAt {b : Nat} {l : LogD} (v : Int) : (logCells b l).set 2 (.int .i64 v) = logCells b { l with at_ := v } := rfl
theorem log_setWard {b : Nat} {l : LogD} (h : l.ward.length = 32) (x : List Int) (hx : x.length = 32) : lay (logCells b l) 4 (bcs x) = logCells b { l with ward := x } := by
  rw [lay_eq _ _ _ (by rw [logCells_len h, bcs_length, hx]; decide), bcs_length, hx, logCells, logCells]
  show _ :: _ :: _ :: _ :: ([] ++ bcs x ++ (bcs l.ward ++ [Value.bool l.ready]).drop 32) = _ :: _ :: _ :: _ :: (bcs x ++ [Value.bool l.ready])
  rw [List.drop_append, List.drop_of_length_le (by rw [bcs_length, h]; exact Nat.le_refl _), bcs_length, h]; rfl
theorem LogAt.setAt {w : World} {g b : Nat} {l : LogD} (h : LogAt w g b l) (v : Int) : LogAt (w.setCell ⟨g, 2, none⟩ (.int .i64 v)) g b { l with at_ := v } :=
  ⟨by rw [← log_setAt]; exact h.blk.set_ 2 _, h.len, h.byt, h.half, h.mark⟩
theorem wrap_next (p : Int) (S : Nat) (h0 : 0 ≤ p) (h1 : p ≤ 10000) (hs : S ≤ 1000) : IntKind.i64.wrap (p + (S : Int)) = p + (S : Int) := by rw [IntKind.wrap_i64]; omega
theorem slabsN_small (n : Nat) (h : n ≤ 100000) : slabsN (n : Int) ≤ 1000 := by unfold slabsN; rw [if_neg (by omega)]; omega
attribute [local go_sem ↓] loadH_fold
set_option maxHeartbeats 8000000 in
set_option maxRecDepth 100000 in
theorem Add_any (w : World) (g b : Nat) (F : Nat → Prop) (d : Dev) (l : LogD) (A : Option Addr) (n c : Nat) (body : List Int) (hL : LogAt w g b l) (h : DevRep w b F d) (hdb : d.Bytes) (hgF : ¬ F g) (hB : Bys w A n body) (hn : n ≤ 140737488355328) (h0 : 0 ≤ l.at_) (h1 : l.at_ ≤ 10000) (hw : d.written.length ≤ 800000) :
    Calls Try.prog 57 #[.pointer (some ⟨g, 0, none⟩), .slice A n c] w (LogPost w g b F (addL d l body)) := by
  have c0 := hL.cready
  obtain ⟨v, hv⟩ : ∃ v, v = l.ready := ⟨_, rfl⟩
  rw [← hv] at c0
  have L0 := hide hL
  have D0 := hide h
  have HB := hide hB
  have n0 : (0 : Int) ≤ (n : Int) := by omega
  by_cases hr : v = false
  · subst hr
    have hs : addL d l body = (d, l, 141) := by rw [addL, if_pos hv.symm]
    rw [hs]
    clear hL h hs hw hv hB hdb
    go_enter Try.func57, Try.ntmps57
    go_wp2
    go_ret
    exact ⟨rfl, F, D0.out, L0.out, Only.refl _ _, fun _ h => .inl h⟩
  have hr2 : v = true := by simpa using hr
  subst hr2
  clear hr
  by_cases hbig : 100000 < n
  · have hs : addL d l body = (d, l, 142) := by rw [addL, if_neg (by rw [← hv]; decide), if_pos (.inl (by rw [hB.1]; exact hbig))]
    rw [hs]
    have i1 : (100000 : Int) < (n : Int) := by omega
    clear hL h hs hw hv hB hdb hbig
    go_enter Try.func57, Try.ntmps57
    go_wp2
    go_ret
    exact ⟨rfl, F, D0.out, L0.out, Only.refl _ _, fun _ h => .inl h⟩
  have i1 : ¬ (100000 : Int) < (n : Int) := by omega
  obtain ⟨S, hS⟩ : ∃ S, S = slabsN (n : Int) := ⟨_, rfl⟩
  have hS9 : S ≤ 1000 := by rw [hS]; exact slabsN_small n (by omega)
  have hsl := Slabs_any w (n : Int) (by omega)
  rw [← hS] at hsl
  obtain ⟨E, hE⟩ : ∃ E, E = leftL d l := ⟨_, rfl⟩
  have hlf := LLeft_any w g b F d l hL h h0 h1
  rw [← hE] at hlf
  by_cases hlt : E < (S : Int)
  · have hs : addL d l body = (d, l, 142) := by rw [addL, if_neg (by rw [← hv]; decide), if_pos (.inr (by rw [hB.1, ← hE, ← hS]; exact hlt))]
    rw [hs]
    clear hL h hs hw hv hB hdb hbig hE hS
    go_enter Try.func57, Try.ntmps57
    go_wp2_with (first
      | (go_at_call 60; refine hsl.mono ?_; rintro e w' ⟨rfl, rfl⟩)
      | (go_at_call 110; refine hlf.mono ?_; rintro e w1 ⟨rfl, b1⟩))
    go_ret
    exact ⟨rfl, F, D0.out.under b1, L0.out.under b1, Only.of_below b1 _, fun _ h => .inl h⟩
  obtain ⟨p, hp⟩ : ∃ p, p = l.at_ := ⟨_, rfl⟩
  obtain ⟨hf, hhf⟩ : ∃ x, x = l.half := ⟨_, rfl⟩
  obtain ⟨mk, hmk⟩ : ∃ x, x = l.mark := ⟨_, rfl⟩
  obtain ⟨wd, hwd⟩ : ∃ x, x = l.ward := ⟨_, rfl⟩
  obtain ⟨X, hX⟩ : ∃ X, X = boundB 2 body wd := ⟨_, rfl⟩
  obtain ⟨T, hT⟩ : ∃ T, T = sha (wd ++ recB 2 body) := ⟨_, rfl⟩
  obtain ⟨D', hD'⟩ : ∃ z, z = (writeL d hf p X mk).1 := ⟨_, rfl⟩
  obtain ⟨V, hV⟩ : ∃ z, z = (writeL d hf p X mk).2 := ⟨_, rfl⟩
  have hs : addL d l body = if V ≠ 0 then (D', { l with ready := false }, V) else (D', { l with at_ := p + (S : Int), ward := T }, 0) := by
    rw [addL, if_neg (by rw [← hv]; decide), if_neg (by rw [hB.1, ← hE, ← hS]; rintro (h | h); exact hbig h; exact hlt h), hD', hV, hX, hT, hS, hwd, hp, hhf, hmk, hB.1]
  have HS := hide hs
  have hbd := bound_any
  have HP := hide hp
  have HWD := hide hwd
  have HHF := hide hhf
  have HMK := hide hmk
  have HX := hide hX
  have HXL := hide (show X.length = n + 37 by rw [hX, boundB_len, hB.1])
  have HT := hide hT
  have HTL := hide (show T.length = 32 by rw [hT]; exact sha_len _)
  have HTB := hide (show Byt T by rw [hT]; exact sha_byt _)
  have HWL := hide (show wd.length = 32 by rw [hwd]; exact hL.len)
  have HWB := hide (show Byt wd by rw [hwd]; exact hL.byt)
  have HDD := hide hD'
  have HV := hide hV
  have HN := hide (show n ≤ 100000 by omega)
  have HGF := hide hgF
  have HDB := hide hdb
  have HW := hide hw
  have HG := hide hL.blk.lt
  have HFL := hide h.lt
  have hwr := wrap_next p S (by omega) (by omega) hS9
  have HP0 := hide (show 0 ≤ p ∧ p ≤ 10000 by omega)
  have HC4 := hide (show ∀ w', Below w.heap.size w w' → w'.rangeAt g 4 (bcs wd) from fun w' hb => by rw [hwd]; exact (L0.out.under hb).ward)
  have HH := hide (show hf ≤ 1 by rw [hhf]; exact hL.half)
  have HM := hide (show mk < 18446744073709551616 by rw [hmk]; exact hL.mark)
  have HSN := hide hS
  clear hL h hs hw hv hB hdb hbig hE hS hp hwd hhf hmk hX hT hD' hV hbd hgF
  go_enter Try.func57, Try.ntmps57
  go_wp2_with (first
    | (go_at_call 60; refine hsl.mono ?_; rintro e w' ⟨rfl, rfl⟩)
    | (go_at_call 110; refine hlf.mono ?_; rintro e w1 ⟨rfl, b1⟩; have B1 := hide b1; have z1 := loadH_run w1 g 4 wd (HC4.out w1 b1) HWL.out; clear b1))
  refine (bound_any w1 2 (by decide) A n c body wd (HB.out.below B1.out) HN.out HWL.out HWB.out).mono ?_
  rintro e w2 ⟨A2, n2, c2, rfl, m2, f2⟩
  rw [← HX.out] at m2
  rw [← HT.out]
  have M2 := hide m2
  have F2 := hide f2
  have N2 := hide (show n2 = n + 37 by rw [← m2.len]; exact HXL.out)
  have B2 := hide (Below.then_ B1.out m2.below)
  have KZ := hide (Blk.new w2 80 (bcs zero32))
  clear m2 f2
  go_wp2_with (first
    | (refine wpList_alloc_agg rfl 80 rfl (bcs zero32) zero32_info ?_; simp only [Act.put, List.setIfInBounds_toArray, List.set_cons_zero, List.set_cons_succ])
    | (refine wpList_store_blk rfl 80 _ _ rfl w2.heap.size 0 80 (bcs zero32) (bcs T) (by rfl) (by rfl) KZ.out (by rw [bcs_length, bcs_length, HTL.out]; decide) (by rw [bcs_length, HTL.out]; exact isH32) (bcs_one _) ?_; intro w3 o9 z9 b9; rw [lay_all _ _ (by rw [bcs_length, bcs_length, HTL.out]; rfl)] at b9; simp only [Act.put]; have K6 := hide b9; have B23 := hide (show Below w2.heap.size w2 w3 from Below.trans ((Below.refl _ w2).alloc (Nat.le_refl _) _) (o9.below (by simp) (fun i hi e => by have h9 : i = w2.heap.size := e; omega))); clear b9 o9 z9))
  have B03 := hide (Below.then_ B2.out B23.out)
  refine wp_region_held_drew (S := fun w' => Only F w3 w') (by kernel_rfl) ((Only.of_below (Below.refl _ w3).drew _)) (fun hSA0 => ?_)
  obtain ⟨w3d, hwA⟩ : ∃ x, x = w3.drew := ⟨_, rfl⟩
  have BdA := hide (show Below w3.heap.size w3 w3d by rw [hwA]; exact (Below.refl _ _).drew)
  rw [← hwA] at hSA0 ⊢
  clear hwA
  (refine wpAnyH_take (i := 0) (oi := ⟨some 33, .move (.tmp 0), 86, "chainlog.go:199", #[], none⟩) (v := ?_) rfl (by kernel_rfl) (by kernel_rfl) (by kernel_rfl) (fun _ _ _ h => h) (Or.inl ⟨by rfl, fun w' hSw => ?_⟩) hSA0 ?_; rotate_left; focus (go_simp; try with_reducible rfl))
  simp only [Act.put, List.setIfInBounds_toArray, List.set_cons_zero, List.set_cons_succ]
  (refine wpAnyH_take (i := 1) (oi := ⟨some 34, .move (.tmp 0), 86, "chainlog.go:199", #[], none⟩) (v := ?_) rfl (by kernel_rfl) (by kernel_rfl) (by kernel_rfl) (fun _ _ _ h => h) (Or.inl ⟨by rfl, fun w' hSw => ?_⟩) hSA0 ?_; rotate_left; focus (go_simp; try with_reducible rfl))
  simp only [Act.put, List.setIfInBounds_toArray, List.set_cons_zero, List.set_cons_succ]
  (refine wpAnyH_take (i := 2) (oi := ⟨some 35, .nilCheck (.tmp 34), 0, "chainlog.go:199", #[⟨1, .data⟩], none⟩) (v := ?_) rfl (by kernel_rfl) (by kernel_rfl) (by kernel_rfl) (fun _ _ _ h => h) (Or.inl ⟨by rfl, fun w' hSw => ?_⟩) hSA0 ?_; rotate_left; focus (go_simp; try with_reducible rfl))
  simp only [Act.put, List.setIfInBounds_toArray, List.set_cons_zero, List.set_cons_succ]
  (refine wpAnyH_take (i := 3) (oi := ⟨some 36, .fieldAddr 166 (.tmp 35) 1, 0, "chainlog.go:199", #[⟨2, .data⟩], none⟩) (v := ?_) rfl (by kernel_rfl) (by kernel_rfl) (by kernel_rfl) (fun _ _ _ h => h) (Or.inl ⟨by rfl, fun w' hSw => ?_⟩) hSA0 ?_; rotate_left; focus (go_simp; try with_reducible rfl))
  simp only [Act.put, List.setIfInBounds_toArray, List.set_cons_zero, List.set_cons_succ]
  (refine wpAnyH_take (i := 4) (oi := ⟨some 37, .load 3 (.tmp 36), 3, "chainlog.go:199", #[⟨3, .data⟩], none⟩) (v := ?_) rfl (by kernel_rfl) (by kernel_rfl) (by kernel_rfl) (fun _ _ _ h => h) (Or.inl ⟨by rfl, fun w' hSw => ?_⟩) hSA0 ?_; rotate_left; focus (have z : w'.cell? ⟨g, 1, none⟩ = some (.int .i64 (hf : Int)) := (by rw [HHF.out]; exact ((L0.out.under B03.out).keep hSw HGF.out).chalf); go_simp; try with_reducible rfl))
  simp only [Act.put, List.setIfInBounds_toArray, List.set_cons_zero, List.set_cons_succ]
  (refine wpAnyH_take (i := 5) (oi := ⟨some 38, .move (.tmp 0), 86, "chainlog.go:199", #[], none⟩) (v := ?_) rfl (by kernel_rfl) (by kernel_rfl) (by kernel_rfl) (fun _ _ _ h => h) (Or.inl ⟨by rfl, fun w' hSw => ?_⟩) hSA0 ?_; rotate_left; focus (go_simp; try with_reducible rfl))
  simp only [Act.put, List.setIfInBounds_toArray, List.set_cons_zero, List.set_cons_succ]
  (refine wpAnyH_take (i := 6) (oi := ⟨some 39, .nilCheck (.tmp 38), 0, "chainlog.go:199", #[⟨5, .data⟩], none⟩) (v := ?_) rfl (by kernel_rfl) (by kernel_rfl) (by kernel_rfl) (fun _ _ _ h => h) (Or.inl ⟨by rfl, fun w' hSw => ?_⟩) hSA0 ?_; rotate_left; focus (go_simp; try with_reducible rfl))
  simp only [Act.put, List.setIfInBounds_toArray, List.set_cons_zero, List.set_cons_succ]
  (refine wpAnyH_take (i := 7) (oi := ⟨some 40, .fieldAddr 166 (.tmp 39) 2, 0, "chainlog.go:199", #[⟨6, .data⟩], none⟩) (v := ?_) rfl (by kernel_rfl) (by kernel_rfl) (by kernel_rfl) (fun _ _ _ h => h) (Or.inl ⟨by rfl, fun w' hSw => ?_⟩) hSA0 ?_; rotate_left; focus (go_simp; try with_reducible rfl))
  simp only [Act.put, List.setIfInBounds_toArray, List.set_cons_zero, List.set_cons_succ]
  (refine wpAnyH_take (i := 8) (oi := ⟨some 41, .load 3 (.tmp 40), 3, "chainlog.go:199", #[⟨7, .data⟩], none⟩) (v := ?_) rfl (by kernel_rfl) (by kernel_rfl) (by kernel_rfl) (fun _ _ _ h => h) (Or.inl ⟨by rfl, fun w' hSw => ?_⟩) hSA0 ?_; rotate_left; focus (have z : w'.cell? ⟨g, 2, none⟩ = some (.int .i64 p) := (by rw [HP.out]; exact ((L0.out.under B03.out).keep hSw HGF.out).cat); go_simp; try with_reducible rfl))
  simp only [Act.put, List.setIfInBounds_toArray, List.set_cons_zero, List.set_cons_succ]
  (refine wpAnyH_take (i := 9) (oi := ⟨some 42, .move (.tmp 5), 28, "chainlog.go:199", #[], none⟩) (v := ?_) rfl (by kernel_rfl) (by kernel_rfl) (by kernel_rfl) (fun _ _ _ h => h) (Or.inl ⟨by rfl, fun w' hSw => ?_⟩) hSA0 ?_; rotate_left; focus (go_simp; try with_reducible rfl))
  simp only [Act.put, List.setIfInBounds_toArray, List.set_cons_zero, List.set_cons_succ]
  (refine wpAnyH_take (i := 10) (oi := ⟨some 43, .move (.tmp 0), 86, "chainlog.go:199", #[], none⟩) (v := ?_) rfl (by kernel_rfl) (by kernel_rfl) (by kernel_rfl) (fun _ _ _ h => h) (Or.inl ⟨by rfl, fun w' hSw => ?_⟩) hSA0 ?_; rotate_left; focus (go_simp; try with_reducible rfl))
  simp only [Act.put, List.setIfInBounds_toArray, List.set_cons_zero, List.set_cons_succ]
  (refine wpAnyH_take (i := 11) (oi := ⟨some 44, .nilCheck (.tmp 43), 0, "chainlog.go:199", #[⟨10, .data⟩], none⟩) (v := ?_) rfl (by kernel_rfl) (by kernel_rfl) (by kernel_rfl) (fun _ _ _ h => h) (Or.inl ⟨by rfl, fun w' hSw => ?_⟩) hSA0 ?_; rotate_left; focus (go_simp; try with_reducible rfl))
  simp only [Act.put, List.setIfInBounds_toArray, List.set_cons_zero, List.set_cons_succ]
  (refine wpAnyH_take (i := 12) (oi := ⟨some 45, .fieldAddr 166 (.tmp 44) 3, 0, "chainlog.go:199", #[⟨11, .data⟩], none⟩) (v := ?_) rfl (by kernel_rfl) (by kernel_rfl) (by kernel_rfl) (fun _ _ _ h => h) (Or.inl ⟨by rfl, fun w' hSw => ?_⟩) hSA0 ?_; rotate_left; focus (go_simp; try with_reducible rfl))
  simp only [Act.put, List.setIfInBounds_toArray, List.set_cons_zero, List.set_cons_succ]
  (refine wpAnyH_take (i := 13) (oi := ⟨some 46, .load 59 (.tmp 45), 59, "chainlog.go:199", #[⟨12, .data⟩], none⟩) (v := ?_) rfl (by kernel_rfl) (by kernel_rfl) (by kernel_rfl) (fun _ _ _ h => h) (Or.inl ⟨by rfl, fun w' hSw => ?_⟩) hSA0 ?_; rotate_left; focus (have z : w'.cell? ⟨g, 3, none⟩ = some (.int .u64 (mk : Int)) := (by rw [HMK.out]; exact ((L0.out.under B03.out).keep hSw HGF.out).cmark); go_simp; try with_reducible rfl))
  simp only [Act.put, List.setIfInBounds_toArray, List.set_cons_zero, List.set_cons_succ]
  refine wpAnyH_ready (rs := [14]) (by kernel_rfl) (by simp) ?_
  refine AllReadyH.cons rfl (fun K hK => ?_) AllReadyH.nil
  go_simp
  go_simp
  go_wp2_with (go_at_call 113; refine (lwrite_any w3d g b F d l hf p A2 n2 c2 X mk (L0.out.under (Below.then_ B03.out BdA.out)) (D0.out.under (Below.then_ B03.out BdA.out)) HDB.out HGF.out (M2.out.bys.below (Below.then_ B23.out BdA.out)) (fun _ ad e hf => by have h1 := F2.out ad e; have h2 := HFL.out _ hf; have h3 := B1.out.size; omega) (by have := N2.out; have := HN.out; omega) (by have := N2.out; omega) M2.out.cap HH.out HP0.out.1 HP0.out.2 HM.out HW.out).mono ?_; rintro e w9 ⟨rfl, F9, h9, o9, f9⟩; rw [← HDD.out] at h9; rw [← HV.out]; have H9 := hide h9; have O9 := hide o9; have G9 := hide f9; have hS9 := hSA0.trans o9 (fun _ _ h => h); clear h9 o9 f9)
  refine hK.out _ _ (hS9) (fun hSA1 => ?_)
  clear hK K
  (refine wpAnyH_take (i := 15) (oi := ⟨some 7, .assign (.tmp 47), 31, "chainlog.go:199", #[⟨14, .data⟩, ⟨14, .chain⟩, ⟨0, .phase⟩, ⟨1, .phase⟩, ⟨2, .phase⟩, ⟨3, .phase⟩, ⟨4, .phase⟩, ⟨5, .phase⟩, ⟨6, .phase⟩, ⟨7, .phase⟩, ⟨8, .phase⟩, ⟨9, .phase⟩, ⟨10, .phase⟩, ⟨11, .phase⟩, ⟨12, .phase⟩, ⟨13, .phase⟩, ⟨14, .phase⟩], none⟩) (v := ?_) rfl (by kernel_rfl) (by kernel_rfl) (by kernel_rfl) (fun _ _ _ h => h) (Or.inl ⟨by rfl, fun w' hSw => ?_⟩) hSA1 ?_; rotate_left; focus (go_simp; try with_reducible rfl))
  simp only [Act.put, List.setIfInBounds_toArray, List.set_cons_zero, List.set_cons_succ]
  refine wpAnyH_done (by kernel_rfl) ?_ _
  clear hSA0 hS9
  have L9 := hide ((L0.out.under (Below.then_ B03.out BdA.out)).keep O9.out HGF.out)
  have OA := hide (show Only (fun i => F i ∨ i = g) w w9 from ((Only.of_below (Below.then_ B03.out BdA.out) (fun i => F i ∨ i = g)).trans O9.out (fun i _ h => .inl h)))
  have GA := hide (show ∀ i, F9 i → F i ∨ w.heap.size ≤ i from fun i hi => (G9.out i hi).imp id (fun h => by have := B03.out.size; have := BdA.out.size; omega))
  have NG := hide (show ¬ F9 g from fun h => by rcases GA.out g h with h | h; exact HGF.out h; have := HG.out; omega)
  by_cases hv0 : V = 0
  · subst hv0
    have K9 := hide (O9.out.blk (K6.out.under BdA.out) (fun h => by have := HFL.out _ h; have := B2.out.size; omega))
    go_wp2_with fail
    refine wp_region_held_drew (S := fun w' => w'.rangeAt w2.heap.size 0 (bcs T)) (by kernel_rfl) (range_under K9.out.whole (Below.refl _ w9).drew) (fun hSB0 => ?_)
    obtain ⟨w9d, hwB⟩ : ∃ x, x = w9.drew := ⟨_, rfl⟩
    have BdB := hide (show Below w9.heap.size w9 w9d by rw [hwB]; exact (Below.refl _ _).drew)
    rw [← hwB] at hSB0 ⊢
    clear hwB
    (refine wpAnyH_take (i := 0) (oi := ⟨some 54, .move (.tmp 0), 86, "chainlog.go:203", #[], none⟩) (v := ?_) rfl (by kernel_rfl) (by kernel_rfl) (by kernel_rfl) (fun _ _ _ h => h) (Or.inl ⟨by rfl, fun w' hSw => ?_⟩) hSB0 ?_; rotate_left; focus (go_simp; try with_reducible rfl))
    simp only [Act.put, List.setIfInBounds_toArray, List.set_cons_zero, List.set_cons_succ]
    (refine wpAnyH_take (i := 1) (oi := ⟨some 55, .move (.tmp 0), 86, "chainlog.go:203", #[⟨13, .gcOnly .lateStores⟩], none⟩) (v := ?_) rfl (by kernel_rfl) (by kernel_rfl) (by kernel_rfl) (fun _ _ _ h => h) (Or.inl ⟨by rfl, fun w' hSw => ?_⟩) hSB0 ?_; rotate_left; focus (go_simp; try with_reducible rfl))
    simp only [Act.put, List.setIfInBounds_toArray, List.set_cons_zero, List.set_cons_succ]
    (refine wpAnyH_take (i := 2) (oi := ⟨some 56, .move (.tmp 0), 86, "chainlog.go:203", #[], none⟩) (v := ?_) rfl (by kernel_rfl) (by kernel_rfl) (by kernel_rfl) (fun _ _ _ h => h) (Or.inl ⟨by rfl, fun w' hSw => ?_⟩) hSB0 ?_; rotate_left; focus (go_simp; try with_reducible rfl))
    simp only [Act.put, List.setIfInBounds_toArray, List.set_cons_zero, List.set_cons_succ]
    (refine wpAnyH_take (i := 3) (oi := ⟨some 57, .nilCheck (.tmp 56), 0, "chainlog.go:203", #[⟨2, .data⟩], none⟩) (v := ?_) rfl (by kernel_rfl) (by kernel_rfl) (by kernel_rfl) (fun _ _ _ h => h) (Or.inl ⟨by rfl, fun w' hSw => ?_⟩) hSB0 ?_; rotate_left; focus (go_simp; try with_reducible rfl))
    simp only [Act.put, List.setIfInBounds_toArray, List.set_cons_zero, List.set_cons_succ]
    (refine wpAnyH_take (i := 4) (oi := ⟨some 58, .fieldAddr 166 (.tmp 57) 2, 0, "chainlog.go:203", #[⟨3, .data⟩], none⟩) (v := ?_) rfl (by kernel_rfl) (by kernel_rfl) (by kernel_rfl) (fun _ _ _ h => h) (Or.inl ⟨by rfl, fun w' hSw => ?_⟩) hSB0 ?_; rotate_left; focus (go_simp; try with_reducible rfl))
    simp only [Act.put, List.setIfInBounds_toArray, List.set_cons_zero, List.set_cons_succ]
    (refine wpAnyH_take (i := 6) (oi := ⟨some 60, .move (.tmp 1), 28, "chainlog.go:203", #[], none⟩) (v := ?_) rfl (by kernel_rfl) (by kernel_rfl) (by kernel_rfl) (fun _ _ _ h => h) (Or.inl ⟨by rfl, fun w' hSw => ?_⟩) hSB0 ?_; rotate_left; focus (go_simp; try with_reducible rfl))
    simp only [Act.put, List.setIfInBounds_toArray, List.set_cons_zero, List.set_cons_succ]
    (refine wpAnyH_take (i := 7) (oi := ⟨some 61, .call { callee := .builtin .len, args := #[.tmp 60], argTypes := #[28] }, 3, "chainlog.go:203", #[⟨6, .data⟩], none⟩) (v := ?_) rfl (by kernel_rfl) (by kernel_rfl) (by kernel_rfl) (fun _ _ _ h => h) (Or.inl ⟨by rfl, fun w' hSw => ?_⟩) hSB0 ?_; rotate_left; focus (go_simp; try with_reducible rfl))
    simp only [Act.put, List.setIfInBounds_toArray, List.set_cons_zero, List.set_cons_succ]
    (refine wpAnyH_take (i := 10) (oi := ⟨some 64, .load 80 (.tmp 6), 80, "chainlog.go:203", #[⟨13, .gcOnly .lateStores⟩], none⟩) (v := ?_) rfl (by kernel_rfl) (by kernel_rfl) (by kernel_rfl) (fun _ _ _ h => h) (Or.inl ⟨by rfl, fun w' hSw => ?_⟩) hSB0 ?_; rotate_left; focus (have z := loadH_run w' w2.heap.size 0 T hSw HTL.out; go_simp; try with_reducible rfl))
    simp only [Act.put, List.setIfInBounds_toArray, List.set_cons_zero, List.set_cons_succ]
    refine wpAnyH_ready (rs := [5, 8]) (by kernel_rfl) (by simp) ?_
    refine AllReadyH.cons rfl (fun K hK => ?_) (AllReadyH.cons rfl (fun K hK => ?_) AllReadyH.nil)
    · have z5 : w9d.cell? ⟨g, 2, none⟩ = some (.int .i64 p) := by rw [HP.out]; exact (L9.out.under BdB.out).cat
      go_simp
      refine hK.out _ _ (hSB0) (fun hSB1 => ?_)
      clear hK K
      refine wpAnyH_ready (rs := [8]) (by kernel_rfl) (by simp) ?_
      refine AllReadyH.cons rfl (fun K hK => ?_) AllReadyH.nil
      go_simp
      go_simp
      go_wp2_with (go_at_call 60; refine (Slabs_any w9d (n : Int) (by have := HN.out; omega)).mono ?_; rintro e wx ⟨rfl, rfl⟩; rw [← HSN.out])
      refine hK.out _ _ (hSB1) (fun hSB2 => ?_)
      clear hK K
      (refine wpAnyH_take (i := 9) (oi := ⟨some 63, .binOp .add 3 (.tmp 59) (.tmp 62) 3, 3, "chainlog.go:203", #[⟨5, .data⟩, ⟨8, .data⟩], none⟩) (v := ?_) rfl (by kernel_rfl) (by kernel_rfl) (by kernel_rfl) (fun _ _ _ h => h) (Or.inl ⟨by rfl, fun w' hSw => ?_⟩) hSB2 ?_; rotate_left; focus (go_simp; try with_reducible rfl))
      simp only [Act.put, List.setIfInBounds_toArray, List.set_cons_zero, List.set_cons_succ]
      (refine wpAnyH_take (i := 11) (oi := ⟨some 65, .nilCheck (.tmp 54), 0, "chainlog.go:203", #[⟨0, .data⟩, ⟨0, .phase⟩, { on := 1, ground := Go.Ground.textOnly Go.Departure.lateStores }, ⟨2, .phase⟩, ⟨3, .phase⟩, ⟨4, .phase⟩, ⟨5, .phase⟩, ⟨6, .phase⟩, ⟨7, .phase⟩, ⟨8, .phase⟩, ⟨9, .phase⟩, { on := 10, ground := Go.Ground.textOnly Go.Departure.lateStores }], none⟩) (v := ?_) rfl (by kernel_rfl) (by kernel_rfl) (by kernel_rfl) (fun _ _ _ h => h) (Or.inl ⟨by rfl, fun w' hSw => ?_⟩) hSB2 ?_; rotate_left; focus (go_simp; try with_reducible rfl))
      simp only [Act.put, List.setIfInBounds_toArray, List.set_cons_zero, List.set_cons_succ]
      (refine wpAnyH_take (i := 12) (oi := ⟨some 66, .fieldAddr 166 (.tmp 65) 2, 0, "chainlog.go:203", #[⟨11, .data⟩, ⟨0, .phase⟩, { on := 1, ground := Go.Ground.textOnly Go.Departure.lateStores }, ⟨2, .phase⟩, ⟨3, .phase⟩, ⟨4, .phase⟩, ⟨5, .phase⟩, ⟨6, .phase⟩, ⟨7, .phase⟩, ⟨8, .phase⟩, ⟨9, .phase⟩, { on := 10, ground := Go.Ground.textOnly Go.Departure.lateStores }], none⟩) (v := ?_) rfl (by kernel_rfl) (by kernel_rfl) (by kernel_rfl) (fun _ _ _ h => h) (Or.inl ⟨by rfl, fun w' hSw => ?_⟩) hSB2 ?_; rotate_left; focus (go_simp; try with_reducible rfl))
      simp only [Act.put, List.setIfInBounds_toArray, List.set_cons_zero, List.set_cons_succ]
      refine wpAnyH_ready (rs := [13]) (by kernel_rfl) (by simp) ?_
      refine AllReadyH.cons rfl (fun K hK => ?_) AllReadyH.nil
      have z13 : w9d.cell? ⟨g, 2, none⟩ = some (.int .i64 p) := by rw [HP.out]; exact (L9.out.under BdB.out).cat
      have f13 := (L9.out.under BdB.out).blk.frozen 2
      go_simp
      obtain ⟨wt, hwt⟩ : ∃ z, z = w9d.setCell ⟨g, 2, none⟩ (.int .i64 (p + (S : Int))) := ⟨_, rfl⟩
      rw [← hwt]
      have LT := hide (show LogAt wt g b { l with at_ := p + (S : Int) } by rw [hwt]; exact (L9.out.under BdB.out).setAt _)
      have OT := hide (show Only (fun i => i = g) w9d wt by rw [hwt]; exact Only.cell1 w9d g 2 _)
      have hST := range_only hSB2 OT.out (fun h => by have h9 : w2.heap.size = g := h; have := HG.out; have := B2.out.size; omega)
      clear hwt
      refine hK.out _ _ (hST) (fun hSB3 => ?_)
      clear hK K
      (refine wpAnyH_take (i := 14) (oi := ⟨some 67, .nilCheck (.tmp 55), 0, "chainlog.go:203", #[⟨1, .data⟩, ⟨0, .phase⟩, ⟨1, .phase⟩, ⟨2, .phase⟩, ⟨3, .phase⟩, ⟨4, .phase⟩, ⟨5, .phase⟩, ⟨6, .phase⟩, ⟨7, .phase⟩, ⟨8, .phase⟩, ⟨9, .phase⟩, ⟨10, .phase⟩, ⟨11, .phase⟩, ⟨12, .phase⟩, ⟨13, .phase⟩], none⟩) (v := ?_) rfl (by kernel_rfl) (by kernel_rfl) (by kernel_rfl) (fun _ _ _ h => h) (Or.inl ⟨by rfl, fun w' hSw => ?_⟩) hSB3 ?_; rotate_left; focus (go_simp; try with_reducible rfl))
      simp only [Act.put, List.setIfInBounds_toArray, List.set_cons_zero, List.set_cons_succ]
      (refine wpAnyH_take (i := 15) (oi := ⟨some 68, .fieldAddr 166 (.tmp 67) 4, 0, "chainlog.go:203", #[⟨14, .data⟩, ⟨0, .phase⟩, ⟨1, .phase⟩, ⟨2, .phase⟩, ⟨3, .phase⟩, ⟨4, .phase⟩, ⟨5, .phase⟩, ⟨6, .phase⟩, ⟨7, .phase⟩, ⟨8, .phase⟩, ⟨9, .phase⟩, ⟨10, .phase⟩, ⟨11, .phase⟩, ⟨12, .phase⟩, ⟨13, .phase⟩], none⟩) (v := ?_) rfl (by kernel_rfl) (by kernel_rfl) (by kernel_rfl) (fun _ _ _ h => h) (Or.inl ⟨by rfl, fun w' hSw => ?_⟩) hSB3 ?_; rotate_left; focus (go_simp; try with_reducible rfl))
      simp only [Act.put, List.setIfInBounds_toArray, List.set_cons_zero, List.set_cons_succ]
      refine wpAnyH_ready (rs := [16]) (by kernel_rfl) (by simp) ?_
      refine AllReadyH.cons rfl (fun K hK => ?_) AllReadyH.nil
      refine step_storeB rfl 80 _ _ rfl g 4 166 (logCells b { l with at_ := p + (S : Int) }) (bcs T) (by rfl) (by rfl) LT.out.blk (by rw [logCells_len LT.out.len, bcs_length, HTL.out]; decide) (by rw [bcs_length, HTL.out]; exact isH32) (bcs_one _) ?_
      intro wz oz zz bz
      rw [log_setWard LT.out.len T HTL.out] at bz
      have hSZ := range_only hSB3 oz (fun h => by have h9 : w2.heap.size = g := h; have := HG.out; have := B2.out.size; omega)
      have OZ := hide oz
      have BZ := hide bz
      clear oz zz bz
      simp only [Act.put, List.setIfInBounds_toArray]
      refine hK.out _ _ (hSZ) (fun hSB4 => ?_)
      clear hK K
      refine wpAnyH_done (by kernel_rfl) ?_ _
      go_wp2_with fail
      go_ret
      rw [HS.out, if_neg (fun h => h rfl)]
      have OG := (OT.out.trans OZ.out (fun _ _ h => h))
      exact ⟨rfl, F9, (H9.out.under BdB.out).keep OG (fun i hi e => by have e9 : i = g := e; subst e9; exact NG.out hi), ⟨BZ.out, HTL.out, HTB.out, LT.out.half, LT.out.mark⟩, (OA.out.trans (Only.of_below BdB.out (fun _ => False)) (fun _ _ h => h.elim)).trans OG (fun i _ h => .inr h), GA.out⟩
    · go_simp
      go_simp
      go_wp2_with (go_at_call 60; refine (Slabs_any w9d (n : Int) (by have := HN.out; omega)).mono ?_; rintro e wx ⟨rfl, rfl⟩; rw [← HSN.out])
      refine hK.out _ _ (hSB0) (fun hSB1 => ?_)
      clear hK K
      refine wpAnyH_ready (rs := [5]) (by kernel_rfl) (by simp) ?_
      refine AllReadyH.cons rfl (fun K hK => ?_) AllReadyH.nil
      have z5 : w9d.cell? ⟨g, 2, none⟩ = some (.int .i64 p) := by rw [HP.out]; exact (L9.out.under BdB.out).cat
      go_simp
      refine hK.out _ _ (hSB1) (fun hSB2 => ?_)
      clear hK K
      (refine wpAnyH_take (i := 9) (oi := ⟨some 63, .binOp .add 3 (.tmp 59) (.tmp 62) 3, 3, "chainlog.go:203", #[⟨5, .data⟩, ⟨8, .data⟩], none⟩) (v := ?_) rfl (by kernel_rfl) (by kernel_rfl) (by kernel_rfl) (fun _ _ _ h => h) (Or.inl ⟨by rfl, fun w' hSw => ?_⟩) hSB2 ?_; rotate_left; focus (go_simp; try with_reducible rfl))
      simp only [Act.put, List.setIfInBounds_toArray, List.set_cons_zero, List.set_cons_succ]
      (refine wpAnyH_take (i := 11) (oi := ⟨some 65, .nilCheck (.tmp 54), 0, "chainlog.go:203", #[⟨0, .data⟩, ⟨0, .phase⟩, { on := 1, ground := Go.Ground.textOnly Go.Departure.lateStores }, ⟨2, .phase⟩, ⟨3, .phase⟩, ⟨4, .phase⟩, ⟨5, .phase⟩, ⟨6, .phase⟩, ⟨7, .phase⟩, ⟨8, .phase⟩, ⟨9, .phase⟩, { on := 10, ground := Go.Ground.textOnly Go.Departure.lateStores }], none⟩) (v := ?_) rfl (by kernel_rfl) (by kernel_rfl) (by kernel_rfl) (fun _ _ _ h => h) (Or.inl ⟨by rfl, fun w' hSw => ?_⟩) hSB2 ?_; rotate_left; focus (go_simp; try with_reducible rfl))
      simp only [Act.put, List.setIfInBounds_toArray, List.set_cons_zero, List.set_cons_succ]
      (refine wpAnyH_take (i := 12) (oi := ⟨some 66, .fieldAddr 166 (.tmp 65) 2, 0, "chainlog.go:203", #[⟨11, .data⟩, ⟨0, .phase⟩, { on := 1, ground := Go.Ground.textOnly Go.Departure.lateStores }, ⟨2, .phase⟩, ⟨3, .phase⟩, ⟨4, .phase⟩, ⟨5, .phase⟩, ⟨6, .phase⟩, ⟨7, .phase⟩, ⟨8, .phase⟩, ⟨9, .phase⟩, { on := 10, ground := Go.Ground.textOnly Go.Departure.lateStores }], none⟩) (v := ?_) rfl (by kernel_rfl) (by kernel_rfl) (by kernel_rfl) (fun _ _ _ h => h) (Or.inl ⟨by rfl, fun w' hSw => ?_⟩) hSB2 ?_; rotate_left; focus (go_simp; try with_reducible rfl))
      simp only [Act.put, List.setIfInBounds_toArray, List.set_cons_zero, List.set_cons_succ]
      refine wpAnyH_ready (rs := [13]) (by kernel_rfl) (by simp) ?_
      refine AllReadyH.cons rfl (fun K hK => ?_) AllReadyH.nil
      have z13 : w9d.cell? ⟨g, 2, none⟩ = some (.int .i64 p) := by rw [HP.out]; exact (L9.out.under BdB.out).cat
      have f13 := (L9.out.under BdB.out).blk.frozen 2
      go_simp
      obtain ⟨wt, hwt⟩ : ∃ z, z = w9d.setCell ⟨g, 2, none⟩ (.int .i64 (p + (S : Int))) := ⟨_, rfl⟩
      rw [← hwt]
      have LT := hide (show LogAt wt g b { l with at_ := p + (S : Int) } by rw [hwt]; exact (L9.out.under BdB.out).setAt _)
      have OT := hide (show Only (fun i => i = g) w9d wt by rw [hwt]; exact Only.cell1 w9d g 2 _)
      have hST := range_only hSB2 OT.out (fun h => by have h9 : w2.heap.size = g := h; have := HG.out; have := B2.out.size; omega)
      clear hwt
      refine hK.out _ _ (hST) (fun hSB3 => ?_)
      clear hK K
      (refine wpAnyH_take (i := 14) (oi := ⟨some 67, .nilCheck (.tmp 55), 0, "chainlog.go:203", #[⟨1, .data⟩, ⟨0, .phase⟩, ⟨1, .phase⟩, ⟨2, .phase⟩, ⟨3, .phase⟩, ⟨4, .phase⟩, ⟨5, .phase⟩, ⟨6, .phase⟩, ⟨7, .phase⟩, ⟨8, .phase⟩, ⟨9, .phase⟩, ⟨10, .phase⟩, ⟨11, .phase⟩, ⟨12, .phase⟩, ⟨13, .phase⟩], none⟩) (v := ?_) rfl (by kernel_rfl) (by kernel_rfl) (by kernel_rfl) (fun _ _ _ h => h) (Or.inl ⟨by rfl, fun w' hSw => ?_⟩) hSB3 ?_; rotate_left; focus (go_simp; try with_reducible rfl))
      simp only [Act.put, List.setIfInBounds_toArray, List.set_cons_zero, List.set_cons_succ]
      (refine wpAnyH_take (i := 15) (oi := ⟨some 68, .fieldAddr 166 (.tmp 67) 4, 0, "chainlog.go:203", #[⟨14, .data⟩, ⟨0, .phase⟩, ⟨1, .phase⟩, ⟨2, .phase⟩, ⟨3, .phase⟩, ⟨4, .phase⟩, ⟨5, .phase⟩, ⟨6, .phase⟩, ⟨7, .phase⟩, ⟨8, .phase⟩, ⟨9, .phase⟩, ⟨10, .phase⟩, ⟨11, .phase⟩, ⟨12, .phase⟩, ⟨13, .phase⟩], none⟩) (v := ?_) rfl (by kernel_rfl) (by kernel_rfl) (by kernel_rfl) (fun _ _ _ h => h) (Or.inl ⟨by rfl, fun w' hSw => ?_⟩) hSB3 ?_; rotate_left; focus (go_simp; try with_reducible rfl))
      simp only [Act.put, List.setIfInBounds_toArray, List.set_cons_zero, List.set_cons_succ]
      refine wpAnyH_ready (rs := [16]) (by kernel_rfl) (by simp) ?_
      refine AllReadyH.cons rfl (fun K hK => ?_) AllReadyH.nil
      refine step_storeB rfl 80 _ _ rfl g 4 166 (logCells b { l with at_ := p + (S : Int) }) (bcs T) (by rfl) (by rfl) LT.out.blk (by rw [logCells_len LT.out.len, bcs_length, HTL.out]; decide) (by rw [bcs_length, HTL.out]; exact isH32) (bcs_one _) ?_
      intro wz oz zz bz
      rw [log_setWard LT.out.len T HTL.out] at bz
      have hSZ := range_only hSB3 oz (fun h => by have h9 : w2.heap.size = g := h; have := HG.out; have := B2.out.size; omega)
      have OZ := hide oz
      have BZ := hide bz
      clear oz zz bz
      simp only [Act.put, List.setIfInBounds_toArray]
      refine hK.out _ _ (hSZ) (fun hSB4 => ?_)
      clear hK K
      refine wpAnyH_done (by kernel_rfl) ?_ _
      go_wp2_with fail
      go_ret
      rw [HS.out, if_neg (fun h => h rfl)]
      have OG := (OT.out.trans OZ.out (fun _ _ h => h))
      exact ⟨rfl, F9, (H9.out.under BdB.out).keep OG (fun i hi e => by have e9 : i = g := e; subst e9; exact NG.out hi), ⟨BZ.out, HTL.out, HTB.out, LT.out.half, LT.out.mark⟩, (OA.out.trans (Only.of_below BdB.out (fun _ => False)) (fun _ _ h => h.elim)).trans OG (fun i _ h => .inr h), GA.out⟩
  · have cr := L9.out.cready
    have fr := L9.out.blk.frozen 36
    go_wp2_with fail
    go_ret
    rw [HS.out, if_pos hv0]
    exact ⟨rfl, F9, H9.out.keep (Only.cell1 w9 g 36 _) (fun i hi e => by have e9 : i = g := e; subst e9; exact NG.out hi), L9.out.setReady _, OA.out.trans (Only.cell1 w9 g 36 _) (fun i _ h => .inr h), GA.out⟩
end Go.Proofs.Ytjnpkcabkccaoaa
/-
  chainlog: a half begun anew.
-/
namespace Go.Proofs.Ytjnpkcabkccaoaa
open Go.RowKit

theorem LogAt.setHalf {w : World} {g b : Nat} {l : LogD} (h : LogAt w g b l) (v : Nat) (hv : v ≤ 1) : LogAt (w.setCell ⟨g, 1, none⟩ (.int .i64 (v : Int))) g b { l with half := v } :=
  ⟨h.blk.set_ 1 _, h.len, h.byt, hv, h.mark⟩
theorem LogAt.setMark {w : World} {g b : Nat} {l : LogD} (h : LogAt w g b l) (v : Nat) (hv : v < 18446744073709551616) : LogAt (w.setCell ⟨g, 3, none⟩ (.int .u64 (v : Int))) g b { l with mark := v } :=
  ⟨h.blk.set_ 3 _, h.len, h.byt, h.half, hv⟩
theorem LogAt.setWard {w w' : World} {g b : Nat} {l : LogD} (h : LogAt w g b l) {x : List Int} (hx : x.length = 32) (hb : Byt x) (bz : Blk w' g 166 (logCells b { l with ward := x })) : LogAt w' g b { l with ward := x } := ⟨bz, hx, hb, h.half, h.mark⟩
theorem wrap_other (hf h1 : Nat) (hh : hf ≤ 1) (e : h1 = 1 - hf) : IntKind.i64.wrap (1 - (hf : Int)) = (h1 : Int) := by rw [IntKind.wrap_i64]; omega
theorem bys_lt {w : World} {A : Option Addr} {n : Nat} {bs : List Int} (h : Bys w A n bs) (hn : 1 ≤ n) : ∀ ad, A = some ad → ad.block < w.heap.size := by
  intro ad e
  obtain ⟨b, off, e2, hr⟩ := h.2.2 (by omega)
  rw [e] at e2
  injection e2 with e2
  subst e2
  obtain ⟨x, hx⟩ : ∃ x, bs[0]? = some x := ⟨_, List.getElem?_eq_getElem (by rw [h.1]; omega)⟩
  exact World.block_lt_of_cell? w _ (hr 0 x hx)
theorem writeL_bytes {d : Dev} (h : d.Bytes) (half : Nat) (at_ : Int) {b : List Int} (hb : Byt b) (mark : Nat) : (writeL d half at_ b mark).1.Bytes := writeC_bytes mark _ d _ h (chunks_byt hb)
theorem writeL_many (d : Dev) (half : Nat) (at_ : Int) (b : List Int) (mark : Nat) : (writeL d half at_ b mark).1.written.length ≤ d.written.length + (b.length + 119) / 120 := by
  have := writeC_many mark (chunks b) d ((half : Int) * (d.room : Int) + at_)
  rwa [chunks_count] at this
attribute [local go_sem ↓] loadH_fold
set_option maxHeartbeats 8000000 in
set_option maxRecDepth 100000 in
theorem Begin_any (w : World) (g b : Nat) (F : Nat → Prop) (d : Dev) (l : LogD) (A : Option Addr) (n c : Nat) (body : List Int) (hL : LogAt w g b l) (h : DevRep w b F d) (hdb : d.Bytes) (hgF : ¬ F g) (hB : Bys w A n body) (hap : Apart A n (fun i => i = g)) (hn : n ≤ 140737488355328) (hw : d.written.length ≤ 700000) :
    Calls Try.prog 59 #[.pointer (some ⟨g, 0, none⟩), .slice A n c] w (LogPost w g b F (beginL d l body)) := by
  have L0 := hide hL
  have D0 := hide h
  have HB := hide hB
  have n0 : (0 : Int) ≤ (n : Int) := by omega
  have htop := top_any w g b F d l hL h hdb
  obtain ⟨M, hM⟩ : ∃ M : Int, M = (topL d : Int) := ⟨_, rfl⟩
  rw [← hM] at htop
  have c0 := hide (show ∀ w', Below w.heap.size w w' → w'.cell? ⟨g, 0, none⟩ = some (.pointer (some ⟨b, 0, none⟩)) from fun w' hb => (L0.out.under hb).cd)
  have hfit := fun w1 (hb : Below w.heap.size w w1) => Fits_any w1 b F d (h.under hb) (n : Int) (by omega)
  have HFIT := hide hfit
  by_cases hc : fitsB d body.length = false ∨ mostGen ≤ topL d
  · have hs : beginL d l body = (d, l, 142) := by unfold beginL; rw [if_pos hc]
    rw [hs]
    obtain ⟨f, hf⟩ : ∃ f, f = fitsB d (n : Int) := ⟨_, rfl⟩
    rw [← hf] at HFIT
    have hc2 : f = false ∨ 4611686018427387904 ≤ M := by
      rcases hc with hc | hc
      · exact .inl (by rw [hf, ← hB.1]; exact hc)
      · exact .inr (by rw [hM]; unfold mostGen at hc; omega)
    clear hL h hs hw hB hdb hfit hf hc hM hn
    cases f
    · clear hc2
      go_enter Try.func59, Try.ntmps59
      go_wp2_with (first
        | (go_at_call 114; refine htop.mono ?_; rintro e w1 ⟨rfl, b1⟩; have z1 := c0.out w1 b1)
        | (go_at_call 61; refine (HFIT.out w1 b1).mono ?_; rintro e w' ⟨rfl, rfl⟩))
      all_goals (go_ret; exact ⟨rfl, F, D0.out.under b1, L0.out.under b1, Only.of_below b1 _, fun _ h => .inl h⟩)
    · have hM9 : 4611686018427387904 ≤ M := by simpa using hc2
      clear hc2
      go_enter Try.func59, Try.ntmps59
      go_wp2_with (first
        | (go_at_call 114; refine htop.mono ?_; rintro e w1 ⟨rfl, b1⟩; have z1 := c0.out w1 b1)
        | (go_at_call 61; refine (HFIT.out w1 b1).mono ?_; rintro e w' ⟨rfl, rfl⟩))
      all_goals (go_ret; exact ⟨rfl, F, D0.out.under b1, L0.out.under b1, Only.of_below b1 _, fun _ h => .inl h⟩)
  have hfy : fitsB d (n : Int) = true := by rw [← hB.1]; cases hx : fitsB d (body.length : Int) with | true => rfl | false => exact absurd (.inl hx) hc
  have hn5 : n ≤ 100000 := by
    rw [fitsB] at hfy
    simp only [Bool.and_eq_true, decide_eq_true_eq] at hfy
    omega
  have hM9 : M < 4611686018427387904 := by
    have : ¬ mostGen ≤ topL d := fun h => hc (.inr h)
    unfold mostGen at this
    omega
  have hM0 : 0 ≤ M := by omega
  obtain ⟨G, hG⟩ : ∃ G, G = topL d + 1 := ⟨_, rfl⟩
  have HMG := hide (show M + 1 = (G : Int) by rw [hM, hG]; omega)
  have HMW := hide (show IntKind.u64.wrap (M + 1) = (G : Int) by rw [IntKind.wrap_u64]; have := HMG.out; omega)
  have HG9 := hide (show G < 18446744073709551616 by have := HMG.out; omega)
  obtain ⟨S, hS⟩ : ∃ S, S = slabsN (body.length : Int) := ⟨_, rfl⟩
  have HS9 := hide (show S ≤ 1000 by rw [hS, hB.1]; exact slabsN_small n hn5)
  obtain ⟨hf, hhf⟩ : ∃ x, x = l.half := ⟨_, rfl⟩
  obtain ⟨h1, hh1⟩ : ∃ x, x = 1 - hf := ⟨_, rfl⟩
  have HWO := hide (wrap_other hf h1 (by rw [hhf]; exact hL.half) hh1)
  have HH1 := hide (show h1 ≤ 1 by omega)
  obtain ⟨l1, hl1⟩ : ∃ x : LogD, x = { l with ready := false } := ⟨_, rfl⟩
  obtain ⟨S1, hS1⟩ : ∃ x, x = sealB G := ⟨_, rfl⟩
  obtain ⟨X3, hX3⟩ : ∃ x, x = sealedB G := ⟨_, rfl⟩
  obtain ⟨X5, hX5⟩ : ∃ x, x = boundB 1 body S1 := ⟨_, rfl⟩
  obtain ⟨T2, hT2⟩ : ∃ x, x = sha (S1 ++ recB 1 body) := ⟨_, rfl⟩
  obtain ⟨D1, hD1⟩ : ∃ z, z = (writeL d h1 0 X3 G).1 := ⟨_, rfl⟩
  obtain ⟨V1, hV1⟩ : ∃ z, z = (writeL d h1 0 X3 G).2 := ⟨_, rfl⟩
  obtain ⟨D2, hD2⟩ : ∃ z, z = (writeL D1 h1 1 X5 G).1 := ⟨_, rfl⟩
  obtain ⟨V2, hV2⟩ : ∃ z, z = (writeL D1 h1 1 X5 G).2 := ⟨_, rfl⟩
  obtain ⟨D3, hD3⟩ : ∃ z, z = D2.sync.1 := ⟨_, rfl⟩
  obtain ⟨V3, hV3⟩ : ∃ z, z = D2.sync.2 := ⟨_, rfl⟩
  have HS := hide (show beginL d l body = if V1 ≠ 0 then (D1, l1, V1) else if V2 ≠ 0 then (D2, l1, V2) else if V3 ≠ 0 then (D3, l1, V3) else (D3, ⟨h1, 1 + (S : Int), G, T2, true⟩, 0) by
    unfold beginL
    rw [if_neg hc]
    subst hV3 hD3 hV2 hD2 hV1 hD1 hT2 hX5 hX3 hS1 hl1 hh1 hhf hS hG
    rfl)
  have HX3L := hide (show X3.length = 48 by rw [hX3]; exact sealedB_len _)
  have HX3B := hide (show Byt X3 by rw [hX3]; exact sealedB_byt _)
  have HX5L := hide (show X5.length = n + 37 by rw [hX5, boundB_len, hB.1])
  have HX5B := hide (show Byt X5 by rw [hX5]; exact boundB_byt (by decide) hB.2.1)
  have HS1L := hide (show S1.length = 32 by rw [hS1]; exact sha_len _)
  have HS1B := hide (show Byt S1 by rw [hS1]; exact sha_byt _)
  have HT2L := hide (show T2.length = 32 by rw [hT2]; exact sha_len _)
  have HT2B := hide (show Byt T2 by rw [hT2]; exact sha_byt _)
  have HD1B := hide (show D1.Bytes by rw [hD1]; exact writeL_bytes hdb _ _ HX3B.out _)
  have HD1W := hide (show D1.written.length ≤ 700001 by rw [hD1]; have h9 := writeL_many d h1 0 X3 G; rw [HX3L.out] at h9; omega)
  have HD2W := hide (show D2.written.length ≤ 800000 by rw [hD2]; have h9 := writeL_many D1 h1 1 X5 G; rw [HX5L.out] at h9; have := HD1W.out; omega)
  have HX3 := hide hX3
  have HX5 := hide hX5
  have HS1 := hide hS1
  have HT2 := hide hT2
  have HD1 := hide hD1
  have HV1 := hide hV1
  have HD2 := hide hD2
  have HV2 := hide hV2
  have HD3 := hide hD3
  have HV3 := hide hV3
  have HHF := hide hhf
  have HL1 := hide hl1
  have HSN := hide (show S = slabsN (n : Int) by rw [hS, hB.1])
  have HN := hide hn5
  have HGF := hide hgF
  have HDB := hide hdb
  have HW := hide hw
  have HGL := hide hL.blk.lt
  have HFL := hide h.lt
  have HAP := hide hap
  have h1n := HH1.out
  rw [hfy] at HFIT
  clear hL h hw hB hdb hfit hfy hc hn hn5 hG hS hhf hh1 hl1 hS1 hX3 hX5 hT2 hD1 hV1 hD2 hV2 hD3 hV3 hgF hap hM h1n
  go_enter Try.func59, Try.ntmps59
  go_wp2_with (first
    | (go_at_call 114; refine htop.mono ?_; rintro e w1 ⟨rfl, b1⟩; have z1 := c0.out w1 b1; have B1 := hide b1; have cr := (L0.out.under b1).cready; have fr := (L0.out.under b1).blk.frozen 36)
    | (go_at_call 61; refine (HFIT.out w1 b1).mono ?_; rintro e w' ⟨rfl, rfl⟩))
  rw [HMG.out]
  obtain ⟨w2, hw2⟩ : ∃ z, z = w1.setCell ⟨g, 36, none⟩ (.bool false) := ⟨_, rfl⟩
  have o2 : Only (fun i => i = g) w1 w2 := by rw [hw2]; exact Only.cell1 w1 g 36 _
  have L2 := hide (show LogAt w2 g b l1 by rw [hw2, HL1.out]; exact (L0.out.under B1.out).setReady false)
  have O2 := hide (show Only (fun i => F i ∨ i = g) w w2 from (Only.of_below B1.out (fun i => F i ∨ i = g)).trans o2 (fun _ _ h => .inr h))
  have DR2 := hide ((D0.out.under B1.out).keep o2 (fun i hf e => HGF.out (by have h9 : i = g := e; exact h9 ▸ hf)))
  have Y2 := hide ((HB.out.below B1.out).keep o2 HAP.out)
  rw [← hw2]
  clear hw2 o2 z1 cr fr
  refine (sealed_any w2 G HG9.out).mono ?_
  rintro e w3 ⟨A3, n3, c3, rfl, m3, f3⟩
  rw [← HX3.out] at m3
  rw [← HS1.out]
  have M3 := hide m3
  have F3 := hide f3
  have N3 := hide (show n3 = 48 by rw [← m3.len]; exact HX3L.out)
  have KZ3 := hide (Blk.new w3 80 (bcs zero32))
  clear m3 f3
  go_wp2_with (first
    | (refine wpList_alloc_agg rfl 80 rfl (bcs zero32) zero32_info ?_; simp only [Act.put, List.setIfInBounds_toArray, List.set_cons_zero, List.set_cons_succ])
    | (refine wpList_store_blk rfl 80 _ _ rfl w3.heap.size 0 80 (bcs zero32) (bcs S1) (by rfl) (by rfl) KZ3.out (by rw [bcs_length, bcs_length, HS1L.out]; decide) (by rw [bcs_length, HS1L.out]; exact isH32) (bcs_one _) ?_; intro w4 o9 z9 b9; rw [lay_all _ _ (by rw [bcs_length, bcs_length, HS1L.out]; rfl)] at b9; simp only [Act.put]; have z4 := loadH_run w4 w3.heap.size 0 S1 b9.whole HS1L.out; have B34 := hide (show Below w3.heap.size w3 w4 from Below.trans ((Below.refl _ w3).alloc (Nat.le_refl _) _) (o9.below (by simp) (fun i hi e => by have h9 : i = w3.heap.size := e; omega))); clear b9 o9 z9))
  refine (bound_any w4 1 (by decide) A n c body S1 (Y2.out.below (Below.then_ M3.out.below B34.out)) HN.out HS1L.out HS1B.out).mono ?_
  rintro e w5 ⟨A5, n5, c5, rfl, m5, f5⟩
  rw [← HX5.out] at m5
  rw [← HT2.out]
  have M5 := hide m5
  have F5 := hide f5
  have N5 := hide (show n5 = n + 37 by rw [← m5.len]; exact HX5L.out)
  have KZ5 := hide (Blk.new w5 80 (bcs zero32))
  have B25 := hide (Below.then_ (Below.then_ M3.out.below B34.out) m5.below)
  clear m5 f5 z4
  go_wp2_with (first
    | (refine wpList_alloc_agg rfl 80 rfl (bcs zero32) zero32_info ?_; simp only [Act.put, List.setIfInBounds_toArray, List.set_cons_zero, List.set_cons_succ])
    | (refine wpList_store_blk rfl 80 _ _ rfl w5.heap.size 0 80 (bcs zero32) (bcs T2) (by rfl) (by rfl) KZ5.out (by rw [bcs_length, bcs_length, HT2L.out]; decide) (by rw [bcs_length, HT2L.out]; exact isH32) (bcs_one _) ?_; intro w6 o9 z9 b9; rw [lay_all _ _ (by rw [bcs_length, bcs_length, HT2L.out]; rfl)] at b9; simp only [Act.put]; have K9 := hide b9; have B56 := hide (show Below w5.heap.size w5 w6 from Below.trans ((Below.refl _ w5).alloc (Nat.le_refl _) _) (o9.below (by simp) (fun i hi e => by have h9 : i = w5.heap.size := e; omega))); have B26 := hide (Below.then_ B25.out B56.out); have L6 := hide (L2.out.under B26.out); have z6 : w6.cell? ⟨g, 1, none⟩ = some (.int .i64 (hf : Int)) := (by rw [HHF.out]; have h9 := L6.out.chalf; rw [HL1.out] at h9; exact h9); have z7 := HWO.out; clear b9 o9 z9))
  rw [HMG.out]
  have W26 := hide (show w.heap.size ≤ w6.heap.size ∧ w.heap.size ≤ w4.heap.size from ⟨by have := O2.out.size; have := B26.out.size; omega, by have := O2.out.size; have := M3.out.below.size; have := B34.out.size; omega⟩)
  have W23 := hide (show w.heap.size ≤ w2.heap.size from O2.out.size)
  have NGG := hide (show ∀ Fk : Nat → Prop, (∀ i, Fk i → F i ∨ w6.heap.size ≤ i) → ¬ Fk g from fun Fk hk h => by rcases hk g h with h | h; exact HGF.out h; have := HGL.out; have := W26.out.1; omega)
  have NKK := hide (show ∀ Fk : Nat → Prop, (∀ i, Fk i → F i ∨ w6.heap.size ≤ i) → ¬ Fk w5.heap.size from fun Fk hk h => by rcases hk _ h with h | h; have := HFL.out _ h; have := W26.out.2; have := M5.out.below.size; omega; have := K9.out.lt; omega)
  have OA6 := hide (show Only (fun i => F i ∨ i = g) w w6 from O2.out.trans (Only.of_below B26.out (fun _ => False)) (fun _ _ h => h.elim))
  refine (lwrite_any w6 g b F d l1 h1 0 A3 n3 c3 X3 G L6.out (DR2.out.under B26.out) HDB.out HGF.out (M3.out.bys.below (Below.then_ B34.out (Below.then_ M5.out.below B56.out))) (fun _ ad e hf => by have h1 := F3.out ad e; have h2 := HFL.out _ hf; have h3 := W23.out; omega) (by have := N3.out; omega) (by have := N3.out; omega) M3.out.cap HH1.out (by decide) (by decide) HG9.out (by have := HW.out; omega)).mono ?_
  rintro e w7 ⟨rfl, F7, h7, o7, g7⟩
  rw [← HD1.out] at h7
  rw [← HV1.out]
  have H7 := hide h7
  have O7 := hide o7
  have GB7 := hide g7
  have OA7 := hide (OA6.out.trans o7 (fun i _ h => .inl h))
  have L7 := hide (L6.out.keep o7 HGF.out)
  have K97 := hide (o7.blk K9.out (NKK.out F (fun _ h => .inl h)))
  have W67 := hide o7.size
  have Y5 := hide ((M5.out.bys.below B56.out).keep o7 (fun _ ad e hf => by have h1 := F5.out ad e; have h2 := HFL.out _ hf; have h3 := W26.out.2; omega))
  have Y5L := hide (bys_lt M5.out.bys (by have := N5.out; omega))
  clear h7 o7 g7
  by_cases hv1 : V1 ≠ 0
  · have hv0 : ¬ V1 = 0 := hv1
    go_wp2_with fail
    go_ret
    rw [HS.out, if_pos hv1]
    exact ⟨rfl, F7, H7.out, L7.out, OA7.out, fun i hi => (GB7.out i hi).imp id (fun h => by have := W26.out.1; omega)⟩
  have hv0 : V1 = 0 := Decidable.not_not.1 hv1
  clear hv1
  subst hv0
  go_wp2_with fail
  rw [HMG.out]
  refine (lwrite_any w7 g b F7 D1 l1 h1 1 A5 n5 c5 X5 G L7.out H7.out HD1B.out (NGG.out F7 GB7.out) Y5.out (fun _ ad e hf => by
    have h1 := F5.out ad e
    have h2 := Y5L.out ad e
    have h4 := W26.out.2
    have h5 := B56.out.size
    rcases GB7.out _ hf with h | h
    · have h3 := HFL.out _ h; omega
    · omega) (by have := N5.out; have := HN.out; omega) (by have := N5.out; omega) M5.out.cap HH1.out (by decide) (by decide) HG9.out (by have := HD1W.out; omega)).mono ?_
  rintro e w8 ⟨rfl, F8, h8, o8, g8⟩
  rw [← HD2.out] at h8
  rw [← HV2.out]
  have H8 := hide h8
  have GB8 := hide (show ∀ i, F8 i → F i ∨ w6.heap.size ≤ i from fun i hi => by
    rcases g8 i hi with h | h
    · exact GB7.out i h
    · exact .inr (by have := W67.out; omega))
  have OA8 := hide (OA7.out.trans o8 (fun i hi h => by rcases GB7.out i h with h | h; exact .inl h; have := W26.out.1; omega))
  have L8 := hide (L7.out.keep o8 (NGG.out F7 GB7.out))
  have K98 := hide (o8.blk K97.out (NKK.out F7 GB7.out))
  have W68 := hide (Nat.le_trans W67.out o8.size)
  clear h8 o8 g8
  by_cases hv2 : V2 ≠ 0
  · have hv0 : ¬ V2 = 0 := hv2
    go_wp2_with fail
    go_ret
    rw [HS.out, if_neg (fun h => h rfl), if_pos hv2]
    exact ⟨rfl, F8, H8.out, L8.out, OA8.out, fun i hi => (GB8.out i hi).imp id (fun h => by have := W26.out.1; omega)⟩
  have hv0 : V2 = 0 := Decidable.not_not.1 hv2
  clear hv2
  subst hv0
  have z8 := L8.out.cd
  go_wp2_with fail
  refine (sync_any w8 b F8 D2 H8.out (by have := HD2W.out; omega)).mono ?_
  rintro e w9 ⟨rfl, F9, h9, o9, g9⟩
  rw [← HD3.out] at h9
  rw [← HV3.out]
  have H9 := hide h9
  have GB9 := hide (show ∀ i, F9 i → F i ∨ w6.heap.size ≤ i from fun i hi => by
    rcases g9 i hi with h | h
    · exact GB8.out i h
    · exact .inr (by have := W68.out; omega))
  have OA9 := hide (OA8.out.trans o9 (fun i hi h => by rcases GB8.out i h with h | h; exact .inl h; have := W26.out.1; omega))
  have L9 := hide (L8.out.keep o9 (NGG.out F8 GB8.out))
  have K99 := hide (o9.blk K98.out (NKK.out F8 GB8.out))
  clear h9 o9 g9 z8
  by_cases hv3 : V3 ≠ 0
  · have hv0 : ¬ V3 = 0 := hv3
    go_wp2_with fail
    go_ret
    rw [HS.out, if_neg (fun h => h rfl), if_neg (fun h => h rfl), if_pos hv3]
    exact ⟨rfl, F9, H9.out, L9.out, OA9.out, fun i hi => (GB9.out i hi).imp id (fun h => by have := W26.out.1; omega)⟩
  have hv0 : V3 = 0 := Decidable.not_not.1 hv3
  clear hv3
  subst hv0
  go_wp2_with fail
  refine wp_region_held_drew (S := fun w' => w'.rangeAt w5.heap.size 0 (bcs T2)) (by kernel_rfl) (range_under K99.out.whole (Below.refl _ w9).drew) (fun hSA0 => ?_)
  obtain ⟨w9d, hwA⟩ : ∃ x, x = w9.drew := ⟨_, rfl⟩
  have BdA := hide (show Below w9.heap.size w9 w9d by rw [hwA]; exact (Below.refl _ _).drew)
  have LA := hide (L9.out.under BdA.out)
  rw [← hwA] at hSA0 ⊢
  clear hwA
  (refine wpAnyH_take (i := 0) (oi := ⟨some 74, .move (.tmp 0), 86, "chainlog.go:186", #[], none⟩) (v := ?_) rfl (by kernel_rfl) (by kernel_rfl) (by kernel_rfl) (fun _ _ _ h => h) (Or.inl ⟨by rfl, fun w' hSw => ?_⟩) hSA0 ?_; rotate_left; focus (go_simp; try with_reducible rfl))
  simp only [Act.put, List.setIfInBounds_toArray, List.set_cons_zero, List.set_cons_succ]
  (refine wpAnyH_take (i := 1) (oi := ⟨some 75, .move (.tmp 0), 86, "chainlog.go:186", #[⟨15, .gcOnly .lateStores⟩], none⟩) (v := ?_) rfl (by kernel_rfl) (by kernel_rfl) (by kernel_rfl) (fun _ _ _ h => h) (Or.inl ⟨by rfl, fun w' hSw => ?_⟩) hSA0 ?_; rotate_left; focus (go_simp; try with_reducible rfl))
  simp only [Act.put, List.setIfInBounds_toArray, List.set_cons_zero, List.set_cons_succ]
  (refine wpAnyH_take (i := 2) (oi := ⟨some 76, .move (.tmp 0), 86, "chainlog.go:186", #[⟨18, .gcOnly .lateStores⟩], none⟩) (v := ?_) rfl (by kernel_rfl) (by kernel_rfl) (by kernel_rfl) (fun _ _ _ h => h) (Or.inl ⟨by rfl, fun w' hSw => ?_⟩) hSA0 ?_; rotate_left; focus (go_simp; try with_reducible rfl))
  simp only [Act.put, List.setIfInBounds_toArray, List.set_cons_zero, List.set_cons_succ]
  (refine wpAnyH_take (i := 3) (oi := ⟨some 77, .move (.tmp 0), 86, "chainlog.go:186", #[⟨21, .gcOnly .lateStores⟩], none⟩) (v := ?_) rfl (by kernel_rfl) (by kernel_rfl) (by kernel_rfl) (fun _ _ _ h => h) (Or.inl ⟨by rfl, fun w' hSw => ?_⟩) hSA0 ?_; rotate_left; focus (go_simp; try with_reducible rfl))
  simp only [Act.put, List.setIfInBounds_toArray, List.set_cons_zero, List.set_cons_succ]
  (refine wpAnyH_take (i := 4) (oi := ⟨some 78, .move (.tmp 0), 86, "chainlog.go:186", #[⟨24, .gcOnly .lateStores⟩], none⟩) (v := ?_) rfl (by kernel_rfl) (by kernel_rfl) (by kernel_rfl) (fun _ _ _ h => h) (Or.inl ⟨by rfl, fun w' hSw => ?_⟩) hSA0 ?_; rotate_left; focus (go_simp; try with_reducible rfl))
  simp only [Act.put, List.setIfInBounds_toArray, List.set_cons_zero, List.set_cons_succ]
  (refine wpAnyH_take (i := 5) (oi := ⟨some 79, .move (.tmp 10), 3, "chainlog.go:186", #[], none⟩) (v := ?_) rfl (by kernel_rfl) (by kernel_rfl) (by kernel_rfl) (fun _ _ _ h => h) (Or.inl ⟨by rfl, fun w' hSw => ?_⟩) hSA0 ?_; rotate_left; focus (go_simp; try with_reducible rfl))
  simp only [Act.put, List.setIfInBounds_toArray, List.set_cons_zero, List.set_cons_succ]
  (refine wpAnyH_take (i := 6) (oi := ⟨some 80, .move (.tmp 1), 28, "chainlog.go:186", #[], none⟩) (v := ?_) rfl (by kernel_rfl) (by kernel_rfl) (by kernel_rfl) (fun _ _ _ h => h) (Or.inl ⟨by rfl, fun w' hSw => ?_⟩) hSA0 ?_; rotate_left; focus (go_simp; try with_reducible rfl))
  simp only [Act.put, List.setIfInBounds_toArray, List.set_cons_zero, List.set_cons_succ]
  (refine wpAnyH_take (i := 7) (oi := ⟨some 81, .call { callee := .builtin .len, args := #[.tmp 80], argTypes := #[28] }, 3, "chainlog.go:186", #[⟨6, .data⟩], none⟩) (v := ?_) rfl (by kernel_rfl) (by kernel_rfl) (by kernel_rfl) (fun _ _ _ h => h) (Or.inl ⟨by rfl, fun w' hSw => ?_⟩) hSA0 ?_; rotate_left; focus (go_simp; try with_reducible rfl))
  simp only [Act.put, List.setIfInBounds_toArray, List.set_cons_zero, List.set_cons_succ]
  (refine wpAnyH_take (i := 10) (oi := ⟨some 84, .move (.tmp 5), 59, "chainlog.go:186", #[⟨18, .gcOnly .lateStores⟩], none⟩) (v := ?_) rfl (by kernel_rfl) (by kernel_rfl) (by kernel_rfl) (fun _ _ _ h => h) (Or.inl ⟨by rfl, fun w' hSw => ?_⟩) hSA0 ?_; rotate_left; focus (go_simp; try with_reducible rfl))
  simp only [Act.put, List.setIfInBounds_toArray, List.set_cons_zero, List.set_cons_succ]
  (refine wpAnyH_take (i := 11) (oi := ⟨some 85, .binOp .add 59 (.tmp 84) (.const (.int .u64 1)) 59, 59, "chainlog.go:186", #[⟨10, .data⟩, ⟨18, .gcOnly .lateStores⟩], none⟩) (v := ?_) rfl (by kernel_rfl) (by kernel_rfl) (by kernel_rfl) (fun _ _ _ h => h) (Or.inl ⟨by rfl, fun w' hSw => ?_⟩) hSA0 ?_; rotate_left; focus (have z := HMW.out; go_simp; try with_reducible rfl))
  simp only [Act.put, List.setIfInBounds_toArray, List.set_cons_zero, List.set_cons_succ]
  (refine wpAnyH_take (i := 12) (oi := ⟨some 86, .load 80 (.tmp 9), 80, "chainlog.go:186", #[⟨21, .gcOnly .lateStores⟩], none⟩) (v := ?_) rfl (by kernel_rfl) (by kernel_rfl) (by kernel_rfl) (fun _ _ _ h => h) (Or.inl ⟨by rfl, fun w' hSw => ?_⟩) hSA0 ?_; rotate_left; focus (have z := loadH_run w' w5.heap.size 0 T2 hSw HT2L.out; go_simp; try with_reducible rfl))
  simp only [Act.put, List.setIfInBounds_toArray, List.set_cons_zero, List.set_cons_succ]
  refine wpAnyH_ready (rs := [8]) (by kernel_rfl) (by simp) ?_
  refine AllReadyH.cons rfl (fun K hK => ?_) AllReadyH.nil
  go_simp
  go_simp
  go_wp2_with (go_at_call 60; refine (Slabs_any w9d (n : Int) (by have := HN.out; omega)).mono ?_; rintro e wx ⟨rfl, rfl⟩; rw [← HSN.out])
  refine hK.out _ _ (hSA0) (fun hSA1 => ?_)
  clear hK K
  (refine wpAnyH_take (i := 9) (oi := ⟨some 83, .binOp .add 3 (.const (.int .i64 1)) (.tmp 82) 3, 3, "chainlog.go:186", #[⟨8, .data⟩, ⟨15, .gcOnly .lateStores⟩], none⟩) (v := ?_) rfl (by kernel_rfl) (by kernel_rfl) (by kernel_rfl) (fun _ _ _ h => h) (Or.inl ⟨by rfl, fun w' hSw => ?_⟩) hSA1 ?_; rotate_left; focus (have z : IntKind.i64.wrap (1 + (S : Int)) = 1 + (S : Int) := (by rw [IntKind.wrap_i64]; have := HS9.out; omega); go_simp; try with_reducible rfl))
  simp only [Act.put, List.setIfInBounds_toArray, List.set_cons_zero, List.set_cons_succ]
  (refine wpAnyH_take (i := 13) (oi := ⟨some 87, .nilCheck (.tmp 74), 0, "chainlog.go:186", #[⟨0, .data⟩, ⟨0, .phase⟩, { on := 1, ground := Go.Ground.textOnly Go.Departure.lateStores }, { on := 2, ground := Go.Ground.textOnly Go.Departure.lateStores }, { on := 3, ground := Go.Ground.textOnly Go.Departure.lateStores }, { on := 4, ground := Go.Ground.textOnly Go.Departure.lateStores }, ⟨5, .phase⟩, { on := 6, ground := Go.Ground.textOnly Go.Departure.lateStores }, { on := 7, ground := Go.Ground.textOnly Go.Departure.lateStoresUnsure }, ⟨8, .phase⟩, { on := 9, ground := Go.Ground.textOnly Go.Departure.lateStores }, { on := 10, ground := Go.Ground.textOnly Go.Departure.lateStores }, { on := 11, ground := Go.Ground.textOnly Go.Departure.lateStores }, { on := 12, ground := Go.Ground.textOnly Go.Departure.lateStores }], none⟩) (v := ?_) rfl (by kernel_rfl) (by kernel_rfl) (by kernel_rfl) (fun _ _ _ h => h) (Or.inl ⟨by rfl, fun w' hSw => ?_⟩) hSA1 ?_; rotate_left; focus (go_simp; try with_reducible rfl))
  simp only [Act.put, List.setIfInBounds_toArray, List.set_cons_zero, List.set_cons_succ]
  (refine wpAnyH_take (i := 14) (oi := ⟨some 88, .fieldAddr 166 (.tmp 87) 1, 0, "chainlog.go:186", #[⟨13, .data⟩, ⟨0, .phase⟩, { on := 1, ground := Go.Ground.textOnly Go.Departure.lateStores }, { on := 2, ground := Go.Ground.textOnly Go.Departure.lateStores }, { on := 3, ground := Go.Ground.textOnly Go.Departure.lateStores }, { on := 4, ground := Go.Ground.textOnly Go.Departure.lateStores }, ⟨5, .phase⟩, { on := 6, ground := Go.Ground.textOnly Go.Departure.lateStores }, { on := 7, ground := Go.Ground.textOnly Go.Departure.lateStoresUnsure }, ⟨8, .phase⟩, { on := 9, ground := Go.Ground.textOnly Go.Departure.lateStores }, { on := 10, ground := Go.Ground.textOnly Go.Departure.lateStores }, { on := 11, ground := Go.Ground.textOnly Go.Departure.lateStores }, { on := 12, ground := Go.Ground.textOnly Go.Departure.lateStores }], none⟩) (v := ?_) rfl (by kernel_rfl) (by kernel_rfl) (by kernel_rfl) (fun _ _ _ h => h) (Or.inl ⟨by rfl, fun w' hSw => ?_⟩) hSA1 ?_; rotate_left; focus (go_simp; try with_reducible rfl))
  simp only [Act.put, List.setIfInBounds_toArray, List.set_cons_zero, List.set_cons_succ]
  refine wpAnyH_ready (rs := [15]) (by kernel_rfl) (by simp) ?_
  refine AllReadyH.cons rfl (fun K hK => ?_) AllReadyH.nil
  have c15 := LA.out.chalf
  have f15 := LA.out.blk.frozen 1
  go_simp
  obtain ⟨wt15, hwt15⟩ : ∃ z, z = w9d.setCell ⟨g, 1, none⟩ (.int .i64 (h1 : Int)) := ⟨_, rfl⟩
  rw [← hwt15]
  have hl15 := LA.out.setHalf h1 HH1.out
  rw [← hwt15] at hl15
  have L15 := hide hl15
  have OT15 := hide (show Only (fun i => i = g) w9d wt15 by rw [hwt15]; exact Only.cell1 w9d g 1 _)
  have hS15 := range_only hSA1 OT15.out (fun h => by have h9 : w5.heap.size = g := h; have := HGL.out; have := W26.out.2; have := M5.out.below.size; omega)
  clear hwt15 hl15 c15 f15
  refine hK.out _ _ (hS15) (fun hSA2 => ?_)
  clear hK K
  (refine wpAnyH_take (i := 16) (oi := ⟨some 89, .nilCheck (.tmp 75), 0, "chainlog.go:186", #[⟨1, .data⟩, ⟨0, .phase⟩, ⟨1, .phase⟩, { on := 2, ground := Go.Ground.textOnly Go.Departure.lateStores }, { on := 3, ground := Go.Ground.textOnly Go.Departure.lateStores }, { on := 4, ground := Go.Ground.textOnly Go.Departure.lateStores }, ⟨5, .phase⟩, ⟨6, .phase⟩, ⟨7, .phase⟩, ⟨8, .phase⟩, ⟨9, .phase⟩, { on := 10, ground := Go.Ground.textOnly Go.Departure.lateStores }, { on := 11, ground := Go.Ground.textOnly Go.Departure.lateStores }, { on := 12, ground := Go.Ground.textOnly Go.Departure.lateStores }, ⟨13, .phase⟩, ⟨14, .phase⟩, ⟨15, .phase⟩], none⟩) (v := ?_) rfl (by kernel_rfl) (by kernel_rfl) (by kernel_rfl) (fun _ _ _ h => h) (Or.inl ⟨by rfl, fun w' hSw => ?_⟩) hSA2 ?_; rotate_left; focus (go_simp; try with_reducible rfl))
  simp only [Act.put, List.setIfInBounds_toArray, List.set_cons_zero, List.set_cons_succ]
  (refine wpAnyH_take (i := 17) (oi := ⟨some 90, .fieldAddr 166 (.tmp 89) 2, 0, "chainlog.go:186", #[⟨16, .data⟩, ⟨0, .phase⟩, ⟨1, .phase⟩, { on := 2, ground := Go.Ground.textOnly Go.Departure.lateStores }, { on := 3, ground := Go.Ground.textOnly Go.Departure.lateStores }, { on := 4, ground := Go.Ground.textOnly Go.Departure.lateStores }, ⟨5, .phase⟩, ⟨6, .phase⟩, ⟨7, .phase⟩, ⟨8, .phase⟩, ⟨9, .phase⟩, { on := 10, ground := Go.Ground.textOnly Go.Departure.lateStores }, { on := 11, ground := Go.Ground.textOnly Go.Departure.lateStores }, { on := 12, ground := Go.Ground.textOnly Go.Departure.lateStores }, ⟨13, .phase⟩, ⟨14, .phase⟩, ⟨15, .phase⟩], none⟩) (v := ?_) rfl (by kernel_rfl) (by kernel_rfl) (by kernel_rfl) (fun _ _ _ h => h) (Or.inl ⟨by rfl, fun w' hSw => ?_⟩) hSA2 ?_; rotate_left; focus (go_simp; try with_reducible rfl))
  simp only [Act.put, List.setIfInBounds_toArray, List.set_cons_zero, List.set_cons_succ]
  refine wpAnyH_ready (rs := [18]) (by kernel_rfl) (by simp) ?_
  refine AllReadyH.cons rfl (fun K hK => ?_) AllReadyH.nil
  have c18 := L15.out.cat
  have f18 := L15.out.blk.frozen 2
  go_simp
  obtain ⟨wt18, hwt18⟩ : ∃ z, z = wt15.setCell ⟨g, 2, none⟩ (.int .i64 (1 + (S : Int))) := ⟨_, rfl⟩
  rw [← hwt18]
  have hl18 := L15.out.setAt (1 + (S : Int))
  rw [← hwt18] at hl18
  have L18 := hide hl18
  have OT18 := hide (show Only (fun i => i = g) wt15 wt18 by rw [hwt18]; exact Only.cell1 wt15 g 2 _)
  have hS18 := range_only hSA2 OT18.out (fun h => by have h9 : w5.heap.size = g := h; have := HGL.out; have := W26.out.2; have := M5.out.below.size; omega)
  clear hwt18 hl18 c18 f18
  refine hK.out _ _ (hS18) (fun hSA3 => ?_)
  clear hK K
  (refine wpAnyH_take (i := 19) (oi := ⟨some 91, .nilCheck (.tmp 76), 0, "chainlog.go:186", #[⟨2, .data⟩, ⟨0, .phase⟩, ⟨1, .phase⟩, ⟨2, .phase⟩, { on := 3, ground := Go.Ground.textOnly Go.Departure.lateStores }, { on := 4, ground := Go.Ground.textOnly Go.Departure.lateStores }, ⟨5, .phase⟩, ⟨6, .phase⟩, ⟨7, .phase⟩, ⟨8, .phase⟩, ⟨9, .phase⟩, ⟨10, .phase⟩, ⟨11, .phase⟩, { on := 12, ground := Go.Ground.textOnly Go.Departure.lateStores }, ⟨13, .phase⟩, ⟨14, .phase⟩, ⟨15, .phase⟩, ⟨16, .phase⟩, ⟨17, .phase⟩, ⟨18, .phase⟩], none⟩) (v := ?_) rfl (by kernel_rfl) (by kernel_rfl) (by kernel_rfl) (fun _ _ _ h => h) (Or.inl ⟨by rfl, fun w' hSw => ?_⟩) hSA3 ?_; rotate_left; focus (go_simp; try with_reducible rfl))
  simp only [Act.put, List.setIfInBounds_toArray, List.set_cons_zero, List.set_cons_succ]
  (refine wpAnyH_take (i := 20) (oi := ⟨some 92, .fieldAddr 166 (.tmp 91) 3, 0, "chainlog.go:186", #[⟨19, .data⟩, ⟨0, .phase⟩, ⟨1, .phase⟩, ⟨2, .phase⟩, { on := 3, ground := Go.Ground.textOnly Go.Departure.lateStores }, { on := 4, ground := Go.Ground.textOnly Go.Departure.lateStores }, ⟨5, .phase⟩, ⟨6, .phase⟩, ⟨7, .phase⟩, ⟨8, .phase⟩, ⟨9, .phase⟩, ⟨10, .phase⟩, ⟨11, .phase⟩, { on := 12, ground := Go.Ground.textOnly Go.Departure.lateStores }, ⟨13, .phase⟩, ⟨14, .phase⟩, ⟨15, .phase⟩, ⟨16, .phase⟩, ⟨17, .phase⟩, ⟨18, .phase⟩], none⟩) (v := ?_) rfl (by kernel_rfl) (by kernel_rfl) (by kernel_rfl) (fun _ _ _ h => h) (Or.inl ⟨by rfl, fun w' hSw => ?_⟩) hSA3 ?_; rotate_left; focus (go_simp; try with_reducible rfl))
  simp only [Act.put, List.setIfInBounds_toArray, List.set_cons_zero, List.set_cons_succ]
  refine wpAnyH_ready (rs := [21]) (by kernel_rfl) (by simp) ?_
  refine AllReadyH.cons rfl (fun K hK => ?_) AllReadyH.nil
  have c21 := L18.out.cmark
  have f21 := L18.out.blk.frozen 3
  go_simp
  obtain ⟨wt21, hwt21⟩ : ∃ z, z = wt18.setCell ⟨g, 3, none⟩ (.int .u64 (G : Int)) := ⟨_, rfl⟩
  rw [← hwt21]
  have hl21 := L18.out.setMark G HG9.out
  rw [← hwt21] at hl21
  have L21 := hide hl21
  have OT21 := hide (show Only (fun i => i = g) wt18 wt21 by rw [hwt21]; exact Only.cell1 wt18 g 3 _)
  have hS21 := range_only hSA3 OT21.out (fun h => by have h9 : w5.heap.size = g := h; have := HGL.out; have := W26.out.2; have := M5.out.below.size; omega)
  clear hwt21 hl21 c21 f21
  refine hK.out _ _ (hS21) (fun hSA4 => ?_)
  clear hK K
  (refine wpAnyH_take (i := 22) (oi := ⟨some 93, .nilCheck (.tmp 77), 0, "chainlog.go:186", #[⟨3, .data⟩, ⟨0, .phase⟩, ⟨1, .phase⟩, ⟨2, .phase⟩, ⟨3, .phase⟩, { on := 4, ground := Go.Ground.textOnly Go.Departure.lateStores }, ⟨5, .phase⟩, ⟨6, .phase⟩, ⟨7, .phase⟩, ⟨8, .phase⟩, ⟨9, .phase⟩, ⟨10, .phase⟩, ⟨11, .phase⟩, ⟨12, .phase⟩, ⟨13, .phase⟩, ⟨14, .phase⟩, ⟨15, .phase⟩, ⟨16, .phase⟩, ⟨17, .phase⟩, ⟨18, .phase⟩, ⟨19, .phase⟩, ⟨20, .phase⟩, ⟨21, .phase⟩], none⟩) (v := ?_) rfl (by kernel_rfl) (by kernel_rfl) (by kernel_rfl) (fun _ _ _ h => h) (Or.inl ⟨by rfl, fun w' hSw => ?_⟩) hSA4 ?_; rotate_left; focus (go_simp; try with_reducible rfl))
  simp only [Act.put, List.setIfInBounds_toArray, List.set_cons_zero, List.set_cons_succ]
  (refine wpAnyH_take (i := 23) (oi := ⟨some 94, .fieldAddr 166 (.tmp 93) 4, 0, "chainlog.go:186", #[⟨22, .data⟩, ⟨0, .phase⟩, ⟨1, .phase⟩, ⟨2, .phase⟩, ⟨3, .phase⟩, { on := 4, ground := Go.Ground.textOnly Go.Departure.lateStores }, ⟨5, .phase⟩, ⟨6, .phase⟩, ⟨7, .phase⟩, ⟨8, .phase⟩, ⟨9, .phase⟩, ⟨10, .phase⟩, ⟨11, .phase⟩, ⟨12, .phase⟩, ⟨13, .phase⟩, ⟨14, .phase⟩, ⟨15, .phase⟩, ⟨16, .phase⟩, ⟨17, .phase⟩, ⟨18, .phase⟩, ⟨19, .phase⟩, ⟨20, .phase⟩, ⟨21, .phase⟩], none⟩) (v := ?_) rfl (by kernel_rfl) (by kernel_rfl) (by kernel_rfl) (fun _ _ _ h => h) (Or.inl ⟨by rfl, fun w' hSw => ?_⟩) hSA4 ?_; rotate_left; focus (go_simp; try with_reducible rfl))
  simp only [Act.put, List.setIfInBounds_toArray, List.set_cons_zero, List.set_cons_succ]
  refine wpAnyH_ready (rs := [24]) (by kernel_rfl) (by simp) ?_
  refine AllReadyH.cons rfl (fun K hK => ?_) AllReadyH.nil
  refine step_storeB rfl 80 _ _ rfl g 4 166 _ (bcs T2) (by rfl) (by rfl) L21.out.blk (by rw [logCells_len L21.out.len, bcs_length, HT2L.out]; decide) (by rw [bcs_length, HT2L.out]; exact isH32) (bcs_one _) ?_
  intro wt24 oz zz bz
  rw [log_setWard L21.out.len T2 HT2L.out] at bz
  have L24 := hide (L21.out.setWard HT2L.out HT2B.out bz)
  have OT24 := hide oz
  have hS24 := range_only hSA4 oz (fun h => by have h9 : w5.heap.size = g := h; have := HGL.out; have := W26.out.2; have := M5.out.below.size; omega)
  clear oz zz bz
  simp only [Act.put, List.setIfInBounds_toArray]
  refine hK.out _ _ (hS24) (fun hSA5 => ?_)
  clear hK K
  (refine wpAnyH_take (i := 25) (oi := ⟨some 95, .nilCheck (.tmp 78), 0, "chainlog.go:186", #[⟨4, .data⟩, ⟨0, .phase⟩, ⟨1, .phase⟩, ⟨2, .phase⟩, ⟨3, .phase⟩, ⟨4, .phase⟩, ⟨5, .phase⟩, ⟨6, .phase⟩, ⟨7, .phase⟩, ⟨8, .phase⟩, ⟨9, .phase⟩, ⟨10, .phase⟩, ⟨11, .phase⟩, ⟨12, .phase⟩, ⟨13, .phase⟩, ⟨14, .phase⟩, ⟨15, .phase⟩, ⟨16, .phase⟩, ⟨17, .phase⟩, ⟨18, .phase⟩, ⟨19, .phase⟩, ⟨20, .phase⟩, ⟨21, .phase⟩, ⟨22, .phase⟩, ⟨23, .phase⟩, ⟨24, .phase⟩], none⟩) (v := ?_) rfl (by kernel_rfl) (by kernel_rfl) (by kernel_rfl) (fun _ _ _ h => h) (Or.inl ⟨by rfl, fun w' hSw => ?_⟩) hSA5 ?_; rotate_left; focus (go_simp; try with_reducible rfl))
  simp only [Act.put]
  (refine wpAnyH_take (i := 26) (oi := ⟨some 96, .fieldAddr 166 (.tmp 95) 5, 0, "chainlog.go:186", #[⟨25, .data⟩, ⟨0, .phase⟩, ⟨1, .phase⟩, ⟨2, .phase⟩, ⟨3, .phase⟩, ⟨4, .phase⟩, ⟨5, .phase⟩, ⟨6, .phase⟩, ⟨7, .phase⟩, ⟨8, .phase⟩, ⟨9, .phase⟩, ⟨10, .phase⟩, ⟨11, .phase⟩, ⟨12, .phase⟩, ⟨13, .phase⟩, ⟨14, .phase⟩, ⟨15, .phase⟩, ⟨16, .phase⟩, ⟨17, .phase⟩, ⟨18, .phase⟩, ⟨19, .phase⟩, ⟨20, .phase⟩, ⟨21, .phase⟩, ⟨22, .phase⟩, ⟨23, .phase⟩, ⟨24, .phase⟩], none⟩) (v := ?_) rfl (by kernel_rfl) (by kernel_rfl) (by kernel_rfl) (fun _ _ _ h => h) (Or.inl ⟨by rfl, fun w' hSw => ?_⟩) hSA5 ?_; rotate_left; focus (go_simp; try with_reducible rfl))
  simp only [Act.put]
  refine wpAnyH_ready (rs := [27]) (by kernel_rfl) (by simp) ?_
  refine AllReadyH.cons rfl (fun K hK => ?_) AllReadyH.nil
  have c27 := L24.out.cready
  have f27 := L24.out.blk.frozen 36
  go_simp
  obtain ⟨wt27, hwt27⟩ : ∃ z, z = wt24.setCell ⟨g, 36, none⟩ (.bool true) := ⟨_, rfl⟩
  rw [← hwt27]
  have hl27 := L24.out.setReady true
  rw [← hwt27] at hl27
  have L27 := hide hl27
  have OT27 := hide (show Only (fun i => i = g) wt24 wt27 by rw [hwt27]; exact Only.cell1 wt24 g 36 _)
  have hS27 := range_only hSA5 OT27.out (fun h => by have h9 : w5.heap.size = g := h; have := HGL.out; have := W26.out.2; have := M5.out.below.size; omega)
  clear hwt27 hl27 c27 f27
  refine hK.out _ _ (hS27) (fun hSA6 => ?_)
  clear hK K
  refine wpAnyH_done (by kernel_rfl) ?_ _
  go_wp2_with fail
  go_ret
  rw [HS.out, if_neg (fun h => h rfl), if_neg (fun h => h rfl), if_neg (fun h => h rfl)]
  have OG := (((OT15.out.trans OT18.out (fun _ _ h => h)).trans OT21.out (fun _ _ h => h)).trans OT24.out (fun _ _ h => h)).trans OT27.out (fun _ _ h => h)
  exact ⟨rfl, F9, (H9.out.under BdA.out).keep OG (fun i hi e => by have e9 : i = g := e; subst e9; exact NGG.out F9 GB9.out hi), L27.out, (OA9.out.trans (Only.of_below BdA.out (fun _ => False)) (fun _ _ h => h.elim)).trans OG (fun i _ h => .inr h), fun i hi => (GB9.out i hi).imp id (fun h => by have := W26.out.1; omega)⟩
end Go.Proofs.Ytjnpkcabkccaoaa
/-
  chainlog: a log that is alive.
-/
namespace Go.Proofs.Ytjnpkcabkccaoaa
open Go.RowKit

theorem zeroS_mark : marked zeroS = 0 := by decide
theorem new_slab (n : Int) (i : Nat) : (newDev n).slab i = zeroS := by
  rw [slab_eq]
  split
  · rename_i h
    have : (newDev n).seen[i]? = some zeroS := by
      have h9 : i < newN n := by simpa [newDev] using h
      simp [newDev, h9]
    rw [this]; rfl
  · rfl
theorem new_top (n : Int) : topL (newDev n) = 0 := Nat.le_zero.1 (topTo_le _ 0 _ fun i _ => by rw [new_slab, zeroS_mark]; exact Nat.le_refl _)
theorem new_stands (n : Int) (h : Nat) : stands (newDev n) h = (0, []) := by
  have hh : (header (newDev n) h).1 = 0 := by
    unfold header
    split
    · rfl
    · rw [new_slab, zeroS_mark, if_pos (.inl (by decide))]
  unfold stands
  rw [if_pos hh]
theorem new_open (n : Int) : openL (newDev n) = (1, []) := by
  rw [openL, new_stands, new_stands, if_neg (by rintro ⟨h, _⟩; simp at h)]
theorem new_calm {n : Int} (h : (newDev n).Good) : (newDev n).Calm := ⟨h, rfl, rfl⟩
theorem new_bytes (n : Int) : (newDev n).Bytes :=
  ⟨fun s hs => by rw [List.eq_of_mem_replicate hs]; exact zeroS_byt, fun s hs => by rw [List.eq_of_mem_replicate hs]; exact zeroS_byt, fun p hp => by cases hp⟩
theorem new_room (n : Int) : (newDev n).room = newN n / 2 := by simp [newDev, Dev.room]
/-- What a call on a log leaves, where it stands. -/
theorem LogPost.out {w : World} {g b : Nat} {F : Nat → Prop} {r : Dev × LogD × Int} {e : Ending} {w' : World} (h : LogPost w g b F r e w') (hg : g < w.heap.size) (hgF : ¬ F g) {w0 : World} (hb : Below w0.heap.size w0 w) (hF : ∀ i, F i → w0.heap.size ≤ i) (hg0 : w0.heap.size ≤ g) :
    e = .returned (.int .i64 r.2.2) ∧ ∃ F', DevRep w' b F' r.1 ∧ LogAt w' g b r.2.1 ∧ ¬ F' g ∧ g < w'.heap.size ∧ Below w0.heap.size w0 w' ∧ (∀ i, F' i → w0.heap.size ≤ i) ∧ (∀ i, F' i → F i ∨ w.heap.size ≤ i) ∧ Only (fun i => F i ∨ i = g) w w' := by
  obtain ⟨h1, F', h2, h3, h4, h5⟩ := h
  refine ⟨h1, F', h2, h3, fun hf => ?_, Nat.lt_of_lt_of_le hg h4.size, h4.under hb (fun i hi => by rcases hi with hi | hi; exact hF i hi; omega), fun i hi => ?_, h5, h4⟩
  · rcases h5 g hf with h | h
    · exact hgF h
    · omega
  · rcases h5 i hi with h | h
    · exact hF i h
    · have := hb.size; omega
theorem one_mark (w : World) (x : Int) (h0 : 0 ≤ x) (h1 : x ≤ 255) : Bys (w.alloc (.cells #[.int .u8 x] 5 (1, 2))) (some ⟨w.heap.size, 0, none⟩) 1 [x] :=
  ⟨rfl, fun y hy => by obtain rfl : y = x := (by simpa using hy); exact ⟨h0, h1⟩, fun _ => ⟨w.heap.size, 0, rfl, fun j v hv => by
    rw [Nat.zero_add, Joins.cell_alloc_mark_at _ _ _ _ _ _ rfl]
    cases j with
    | zero => injection hv with hv; subst hv; rfl
    | succ j => simp at hv⟩⟩
set_option maxHeartbeats 4000000 in
set_option maxRecDepth 100000 in
theorem alive_any (w : World) : Calls Try.prog 55 #[] w fun e w' => e = .returned (.bool true) ∧ Below w.heap.size w w' := by
  go_enter Try.func55, Try.ntmps55
  go_wp2_with fail
  refine (new_any w 8).mono ?_
  rintro e w1 ⟨b, F0, rfl, h1, b1, f1⟩
  have D1 := hide h1
  have C0 := hide (new_calm h1.good)
  have B1 := hide b1
  have FR := hide f1
  clear h1 b1 f1
  go_wp2_with fail
  refine (Open_any w1 b F0 _ D1.out (new_bytes 8)).mono ?_
  rintro e w2 h
  rw [new_open] at h
  obtain ⟨g, B0, img, recs, rfl, hl, hg1, hg2, hg3, b2, hc⟩ := h
  obtain ⟨rfl, rfl⟩ : img = .slice none 0 0 ∧ recs = .slice none 0 0 := by
    rcases hc with ⟨_, h1, h2⟩ | ⟨A, n, c, R, m, d, x, xs, _, _, h3, _⟩
    · exact ⟨h1, h2⟩
    · cases h3
  rw [show decide ((1, ([] : List (List Int))).snd ≠ []) = false from rfl]
  have D2 := hide (D1.out.under b2)
  have L2 := hide hl
  have NG := hide (show ¬ F0 g from fun h => by have := D1.out.lt g h; omega)
  have GL := hide hl.blk.lt
  have G0 := hide (show w.heap.size ≤ g by have := B1.out.size; omega)
  have B2 := hide (Below.then_ B1.out b2)
  have HR := hide (show Calls Try.prog 109 #[.pointer (some ⟨g, 0, none⟩)] w2 fun e w' => e = .returned (.bool false) ∧ w2 = w' from Ready_any w2 g b _ hl)
  obtain ⟨d4, l4, e4, hd4, hw4, st4, hk4, hh4, hm4, ha4⟩ := begin_stand (d := newDev 8) (l := openAt 1) (b := [97]) C0.out (by decide) (by decide) (by rw [new_top]; decide)
  have hr4 : d4.room = 4 := by rw [room_of hk4]; rfl
  obtain ⟨d5, l5, e5, hd5, st5, hk5, hh5, hm5, ha5⟩ := st4.add [98] (by decide) (by rw [ha4, hr4]; decide)
  obtain ⟨d6, e6, hd6, st6, hk6⟩ := st5.sync
  have E4 := hide e4
  have E5 := hide e5
  have E6 := hide e6
  have HB4 := hide (show d4.Bytes by rw [hd4]; exact (writeL_bytes (writeL_bytes (new_bytes 8) _ _ (sealedB_byt _) _) _ _ (boundB_byt (by decide) (by intro x hx; simp at hx; omega)) _).sync)
  have HB5 := hide (show d5.Bytes by rw [hd5]; exact writeL_bytes HB4.out _ _ (boundB_byt (by decide) (by intro x hx; simp at hx; omega)) _)
  have HB6 := hide (show d6.Bytes by rw [hd6]; exact HB5.out.sync)
  have HW4 := hide (show d4.written.length ≤ 800000 by rw [hw4]; decide)
  have HW5 := hide (show d5.written.length ≤ 1000000 by rw [hd5]; have h9 := writeL_many d4 l4.half l4.at_ (boundB 2 [98] l4.ward) l4.mark; rw [boundB_len, hw4] at h9; simp at h9; omega)
  have HA4 := hide (show l4.at_ = 2 by rw [ha4]; rfl)
  have hr5 : d5.room = 4 := by rw [room_of hk5, hr4]
  have hr6 : d6.room = 4 := by rw [room_of hk6, hr5]
  have HO := hide (show openL d6 = (0, [[97], [98]]) by rw [st6.opens, hh5, hh4]; rfl)
  have HA5 := hide (show l5.at_ = 3 by rw [ha5, ha4]; rfl)
  have HL := hide (show leftL d6 l5 = 1 by rw [leftL, st6.ready, hr6, HA5.out]; rfl)
  clear hd4 hw4 st4 hk4 hh4 hm4 ha4 hr4 hd5 st5 hk5 hh5 hm5 ha5 hd6 st6 hk6 hr5 hr6 hc hl hg1 hg2 hg3 e4 e5 e6 b2
  have hcv := Joins.run_convert_bytes_const_at (P := Try.prog) w2 28 5 #[.int .u8 97] 1 1 w2.heap.size rfl Try.underlying28 Try.underlying5
  go_wp2_with (first
    | (go_at_call 109; refine HR.out.mono ?_; rintro e w' ⟨rfl, rfl⟩))
  obtain ⟨w3, hw3⟩ : ∃ z, z = w2.alloc (.cells #[.int .u8 97] 5 (1, 2)) := ⟨_, rfl⟩
  rw [← hw3]
  have b3 : Below w2.heap.size w2 w3 := by rw [hw3]; exact below_alloc (Below.refl _ _) _
  have y3 : Bys w3 (some ⟨w2.heap.size, 0, none⟩) 1 [97] := by rw [hw3]; exact one_mark w2 97 (by decide) (by decide)
  clear hcv hw3
  refine (Begin_any w3 g b F0 _ (openAt 1) _ 1 1 [97] (L2.out.under b3) (D2.out.under b3) (new_bytes 8) NG.out y3 (fun _ ad e h => by injection e with e; subst e; have h9 : w2.heap.size = g := h; have := GL.out; omega) (by decide) (by decide)).mono ?_
  intro e w4 h4
  rw [E4.out] at h4
  obtain ⟨rfl, F4, h4a, h4b, h4c, h4d, h4e, h4f, _, _⟩ := h4.out (Nat.lt_of_lt_of_le GL.out b3.size) NG.out (Below.then_ B2.out b3) (fun i hi => by have := FR.out i hi; exact this) G0.out
  have D4 := hide h4a
  have L4 := hide h4b
  have NG4 := hide h4c
  have GL4 := hide h4d
  have B4 := hide h4e
  have FR4 := hide h4f
  clear h4 h4a h4b h4c h4d h4e h4f b3 y3
  have hcv := Joins.run_convert_bytes_const_at (P := Try.prog) w4 28 5 #[.int .u8 98] 1 1 w4.heap.size rfl Try.underlying28 Try.underlying5
  go_wp2_with fail
  obtain ⟨w5, hw5⟩ : ∃ z, z = w4.alloc (.cells #[.int .u8 98] 5 (1, 2)) := ⟨_, rfl⟩
  rw [← hw5]
  have b5 : Below w4.heap.size w4 w5 := by rw [hw5]; exact below_alloc (Below.refl _ _) _
  have y5 : Bys w5 (some ⟨w4.heap.size, 0, none⟩) 1 [98] := by rw [hw5]; exact one_mark w4 98 (by decide) (by decide)
  clear hcv hw5
  refine (Add_any w5 g b F4 d4 l4 _ 1 1 [98] (L4.out.under b5) (D4.out.under b5) HB4.out NG4.out y5 (by decide) (by rw [HA4.out]; decide) (by rw [HA4.out]; decide) HW4.out).mono ?_
  intro e w6 h4
  rw [E5.out] at h4
  obtain ⟨rfl, F6, h4a, h4b, h4c, h4d, h4e, h4f, _, _⟩ := h4.out (Nat.lt_of_lt_of_le GL4.out b5.size) NG4.out (Below.then_ B4.out b5) (fun i hi => FR4.out i hi) G0.out
  have D6 := hide h4a
  have L6 := hide h4b
  have NG6 := hide h4c
  have GL6 := hide h4d
  have B6 := hide h4e
  have FR6 := hide h4f
  clear h4 h4a h4b h4c h4d h4e h4f b5 y5
  go_wp2_with fail
  refine (Sync_any w6 g b F6 d5 l5 L6.out D6.out NG6.out HW5.out).mono ?_
  intro e w7 h4
  rw [E6.out] at h4
  obtain ⟨rfl, F7, h4a, h4b, h4c, h4d, h4e, h4f, _, _⟩ := h4.out GL6.out NG6.out B6.out (fun i hi => FR6.out i hi) G0.out
  have D7 := hide h4a
  have L7 := hide h4b
  have B7 := hide h4e
  clear h4 h4a h4b h4c h4d h4e h4f
  go_wp2_with fail
  refine (Open_any w7 b F7 d6 D7.out HB6.out).mono ?_
  rintro e w8 h
  rw [HO.out] at h
  obtain ⟨g8, B8, img, recs, rfl, _, _, _, _, b8, hc⟩ := h
  rcases hc with ⟨h9, _, _⟩ | ⟨A, n, c, R, m, dd, x, xs, rfl, rfl, hx, hnc, hmd, hm3, hb⟩
  · cases h9
  obtain ⟨rfl, rfl⟩ : [97] = x ∧ [[98]] = xs := by
    have h9 : ([[97], [98]] : List (List Int)) = x :: xs := hx
    injection h9 with h1 h2
    exact ⟨h1, h2⟩
  obtain ⟨hy, hyy⟩ := hb w8 (Only.refl _ _)
  rw [show decide (((0 : Nat), ([[97], [98]] : List (List Int))).snd ≠ []) = true from rfl]
  have z1 := run_str w8 A n c [97] hy
  rw [show ba [97] = ⟨#[97]⟩ from rfl] at z1
  obtain rfl : m = 1 := hyy.1.symm
  obtain ⟨rb, ro, rfl, hrow⟩ := hyy.2 (by decide)
  obtain ⟨A9, n9, c9, hcell, hy9, _⟩ := hrow 0 [98] rfl
  rw [Nat.add_zero] at hcell
  have z2 := run_str w8 A9 n9 c9 [98] hy9
  rw [show ba [98] = ⟨#[98]⟩ from rfl] at z2
  have HLF := hide (show Calls Try.prog 110 #[.pointer (some ⟨g, 0, none⟩)] w8 fun e w' => e = .returned (.int .i64 1) ∧ Below w8.heap.size w8 w' by
    have h9 := LLeft_any w8 g b F7 d6 l5 (L7.out.under b8) (D7.out.under b8) (by rw [HA5.out]; decide) (by rw [HA5.out]; decide)
    rw [HL.out] at h9; exact h9)
  have B8 := hide (Below.then_ B7.out b8)
  clear b8 hx hnc hm3 hb hy hyy hrow hy9
  go_wp2_with (go_at_call 110; refine HLF.out.mono ?_; rintro e w9 ⟨rfl, b9⟩)
  go_ret
  exact ⟨rfl, Below.then_ B8.out b9⟩
end Go.Proofs.Ytjnpkcabkccaoaa
/-
  chainlog: a log on a device, both made by the call.
-/
namespace Go.Proofs.Ytjnpkcabkccaoaa
open Go.RowKit

/-- A log on a device, both new since w0. -/
structure LogW (w0 W : World) (g b : Nat) (F : Nat → Prop) (d : Dev) (l : LogD) : Prop where
  dev : DevRep W b F d
  log : LogAt W g b l
  ng : ¬ F g
  gl : g < W.heap.size
  g0 : w0.heap.size ≤ g
  below : Below w0.heap.size w0 W
  fresh : ∀ i, F i → w0.heap.size ≤ i
theorem LogW.under {w0 W W' : World} {g b : Nat} {F : Nat → Prop} {d : Dev} {l : LogD} (h : LogW w0 W g b F d l) (hb : Below W.heap.size W W') : LogW w0 W' g b F d l :=
  ⟨h.dev.under hb, h.log.under hb, h.ng, Nat.lt_of_lt_of_le h.gl hb.size, h.g0, Below.then_ h.below hb, h.fresh⟩
theorem LogW.post {w0 W W' : World} {g b : Nat} {F : Nat → Prop} {d : Dev} {l : LogD} {r : Dev × LogD × Int} {e : Ending} (h : LogW w0 W g b F d l) (hp : LogPost W g b F r e W') :
    e = .returned (.int .i64 r.2.2) ∧ ∃ F', LogW w0 W' g b F' r.1 r.2.1 ∧ (∀ i, F' i → F i ∨ W.heap.size ≤ i) ∧ Only (fun i => F i ∨ i = g) W W' := by
  obtain ⟨h1, F', h2, h3, h4, h5, h6, h7, h8, h9⟩ := hp.out h.gl h.ng h.below h.fresh h.g0
  exact ⟨h1, F', ⟨h2, h3, h4, h5, h.g0, h6, h7⟩, h8, h9⟩
end Go.Proofs.Ytjnpkcabkccaoaa
