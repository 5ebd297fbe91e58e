/-
  The document's device: New, Write, Sync.
-/
import Derived.Test.YtjipgimnhkliaaaSlabH
namespace Go.Proofs.Ytjipgimnhkliaaa
open Go.RowKit

/-! ### New -/
def DocNewPost (w : World) (n : Int) (e : Ending) (w' : World) : Prop :=
  ∃ b F, e = .returned (.pointer (some ⟨b, 0, none⟩)) ∧ DocRep w' b F (newDev n) ∧ Below w.heap.size w w' ∧ ∀ i, F i → w.heap.size ≤ i
theorem docnew_fin (w : World) (n : Int) (m : Nat) (hm : newN n = m) :
    DocNewPost w n (.returned (.pointer (some ⟨w.heap.size + 1, 0, none⟩))) ((w.alloc (.cells (rows (List.replicate m zeroS)).toArray 33)).alloc
      (.cells [Value.slice (some ⟨w.heap.size, 0, none⟩) m m, .slice none 0 0, .int .i64 0, .bool false, .bool false].toArray 56)) := by
  subst hm
  have hl : (newDev n).kept.length = newN n := by simp [newDev]
  have b0 : Blk ((w.alloc (.cells (rows (List.replicate (newN n) zeroS)).toArray 33)).alloc
      (.cells [Value.slice (some ⟨w.heap.size, 0, none⟩) (newN n) (newN n), .slice none 0 0, .int .i64 0, .bool false, .bool false].toArray 56)) w.heap.size 33 (rows (List.replicate (newN n) zeroS)) :=
    (Blk.new w _ _).alloc _
  refine ⟨_, _, rfl, ⟨w.heap.size, .slice none 0 0, 0, ⟨?_, b0, World.ownsRow_nil _ _ _ _, fun h => absurd h (by simp [newDev])⟩, newDev_good n, rfl⟩, ?_, ?_⟩
  · rw [hl]; exact Blk.new1 w _ _ _
  · exact ((Below.refl _ _).alloc (Nat.le_refl _) _).alloc (by simp) _
  · rintro i (h | h | h)
    · omega
    · omega
    · simp [Value.ownBlock] at h
set_option maxHeartbeats 1000000 in
set_option maxRecDepth 100000 in
theorem docnew_mid (w : World) (m : Nat) (h0 : 0 < m) (h1 : m ≤ 4096) : Calls Try.prog 24 #[.int .i64 (m : Int)] w (DocNewPost w m) := by
  have hm := make33 m (by omega)
  have hN : Hid (newN (m : Int) = m) := by show _ = _; simp [newN]; omega
  go_enter Try.func24, Try.ntmps24
  go_wp2
  all_goals
    go_ret
    exact docnew_fin w m m hN.out
set_option maxHeartbeats 1000000 in
set_option maxRecDepth 100000 in
theorem docnew_low (w : World) (n : Int) (h0 : n ≤ 0) : Calls Try.prog 24 #[.int .i64 n] w (DocNewPost w n) := by
  have hm : ∀ w, (Instr.makeSlice 53 (.int .i64 0) (.int .i64 0)).run Try.prog w =
    .ok (.slice (some ⟨w.heap.size, 0, none⟩) 0 0) (w.alloc (.cells (rows (List.replicate 0 zeroS)).toArray 33)) := fun w => make33 0 (by omega) w
  have hN : Hid (newN n = 0) := by show _ = _; simp [newN]; omega
  by_cases hz : n = 0
  · subst hz
    go_enter Try.func24, Try.ntmps24
    go_wp2
    all_goals
      go_ret
      exact docnew_fin w 0 0 hN.out
  · have hneg : n < 0 := by omega
    go_enter Try.func24, Try.ntmps24
    go_wp2
    all_goals
      go_ret
      exact docnew_fin w n 0 hN.out
set_option maxHeartbeats 1000000 in
set_option maxRecDepth 100000 in
theorem docnew_high (w : World) (n : Int) (h0 : 4096 < n) : Calls Try.prog 24 #[.int .i64 n] w (DocNewPost w n) := by
  have hm : ∀ w, (Instr.makeSlice 53 (.int .i64 4096) (.int .i64 4096)).run Try.prog w =
    .ok (.slice (some ⟨w.heap.size, 0, none⟩) big big) (w.alloc (.cells (rows (List.replicate big zeroS)).toArray 33)) := fun w => make33 big (by decide) w
  have hN : Hid (newN n = big) := by show _ = _; simp [newN, big]; omega
  go_enter Try.func24, Try.ntmps24
  go_wp2
  all_goals
    go_ret
    exact docnew_fin w n big hN.out
theorem docnew_any (w : World) (n : Int) : Calls Try.prog 24 #[.int .i64 n] w (DocNewPost w n) := by
  by_cases h0 : n ≤ 0
  · exact docnew_low w n h0
  · by_cases h1 : 4096 < n
    · exact docnew_high w n h1
    · obtain ⟨m, rfl⟩ : ∃ m : Nat, n = m := ⟨n.toNat, by omega⟩
      exact docnew_mid w m (by omega) (by omega)

/-! ### Write -/
theorem infoStep : (Try.prog.info? 94).map (fun i => i.zero.map (fun z => z.cells.size)) = some (some 129) := by kernel_rfl
theorem moreStep : (Try.prog.info? 94).map (fun i => (i.size, i.bytes)) = some (129, 136) := by kernel_rfl
theorem iszStep : (Try.prog.info? 94).map (·.size) = some 129 := by kernel_rfl
theorem step_info : ∃ i, Try.prog.info? 94 = some i ∧ (∃ z, i.zero = some z ∧ z.cells.size = 129) ∧ i.size = 129 ∧ i.bytes = 136 := by
  obtain ⟨i, z, h1, h2, zs, h3, h4⟩ := zero_parts infoStep
  have := moreStep
  rw [h1] at this
  simp at this
  exact ⟨i, h1, ⟨z, h2, by rw [h3]; simpa using h4⟩, this.1, this.2⟩
def mkStep (parts : Array (Nat × Value)) : Sem Value := Instr.build 94 parts
theorem mkStep_fold (parts : Array (Nat × Value)) : Instr.build 94 parts = mkStep parts := rfl
theorem mkStep_run (k : IntKind) (n : Int) (s : Slb) (hs : s.length = 128) (w : World) : (mkStep #[(0, .int k n), (1, .agg (enc s).toArray)]).run Try.prog w = .ok (.agg (.int k n :: enc s).toArray) w :=
  run_build_pair 94 _ _ 128 Try.underlying94 rfl rfl iszInt isz33 infoStep (.int k n) rfl (enc s) (by simp [enc_length, hs]) w
def mkSteps (parts : Array (Nat × Value)) : Sem Value := Instr.buildSlice 54 1 parts
theorem mkSteps_fold (parts : Array (Nat × Value)) : Instr.buildSlice 54 1 parts = mkSteps parts := rfl
theorem mkSteps_run (v : Value) (s : Slb) (hs : s.length = 128) (w : World) : (mkSteps #[(0, .agg (v :: enc s).toArray)]).run Try.prog w = .ok (.slice (some ⟨w.heap.size, 0, none⟩) 1 1) (w.alloc (.cells (v :: enc s).toArray 94)) :=
  run_buildSlice_one 54 94 129 Try.underlying54 iszStep infoStep (by decide) (by decide) (v :: enc s) (by simp [enc_length, hs]) w
attribute [local go_sem ↓] mkStep_fold mkSteps_fold loadSlab_fold
attribute [local go_sem] mkStep_run mkSteps_run

theorem docwrite_fin (w w1 w3 : World) (b k i g cap : Nat) (wv : Value) (m : Int) (F : Nat → Prop) (d : Dev) (sl : Slb)
    (hG : d.Good) (hh : d.has i = true) (hs : sl.length = 128) (hF : F = fun j => j = b ∨ j = k ∨ wv.ownBlock = some j)
    (o : Obj)
    (ho1 : Only F (w.alloc o) w1) (hi : DocIn w1 b k wv m d.after)
    (own3 : w3.ownsRow 0 94 129 (.slice (some ⟨g, 0, none⟩) (d.written.length + 1) cap) (d.written.length + 1) (wcells d.written ++ (Value.int .i64 (i : Int) :: enc sl)))
    (o3 : Only (fun j => wv.ownBlock = some j) w1 w3) (hat : wv.ownBlock = some g ∨ w1.heap.size ≤ g) (hm : d.stops = false) :
    DocPost w b F (d.write i sl).1 (.int .i64 (d.write i sl).2) (.returned (.int .i64 0)) (w3.setCell ⟨b, 1, none⟩ (.slice (some ⟨g, 0, none⟩) (d.written.length + 1) cap)) := by
  have hwr : (d.write i sl).1 = { d.after with seen := d.seen.set i sl, written := d.written ++ [(i, sl)] } ∧ (d.write i sl).2 = 0 := by simp [Dev.write, hh, hm]
  obtain ⟨n1, n2, n3⟩ := hi.ne
  have hlt1 := hi.lt
  have o4 : Only (fun j => j = b) w3 (w3.setCell ⟨b, 1, none⟩ (.slice (some ⟨g, 0, none⟩) (d.written.length + 1) cap)) := (Only.refl (fun j => j = b) w3).setCell (p := ⟨b, 1, none⟩) (.inr rfl) _
  have hgb : g ≠ b := by
    rintro rfl
    rcases hat with h | h
    · exact n2 h
    · have := hlt1 g (.inl rfl); omega
  have hgood := hG.write (i : Int) sl hs
  refine ⟨by rw [hwr.2], fun j => j = b ∨ j = k ∨ Value.ownBlock (.slice (some ⟨g, 0, none⟩) (d.written.length + 1) cap) = some j, ⟨k, _, m, ?_, hgood, rfl⟩, ?_, ?_⟩
  · rw [hwr.1]
    refine ⟨?_, ?_, ?_, hi.2.2.2⟩
    · have := (o3.blk hi.1 n2).set_ 1 (.slice (some ⟨g, 0, none⟩) (d.written.length + 1) cap)
      simpa [Dev.after] using this
    · exact o4.blk (o3.blk hi.2.1 n3) (Ne.symm n1)
    · have := o4.own own3 (fun g' hg' e => by
        have : g = g' := by simpa [Value.ownBlock] using hg'
        exact hgb (this.trans e))
      have e : wcells (d.written ++ [(i, sl)]) = wcells d.written ++ (Value.int .i64 (i : Int) :: enc sl) := by rw [wcells_append]; simp [wcells]
      rw [show (({ d.after with seen := d.seen.set i sl, written := d.written ++ [(i, sl)] } : Dev)).written = d.written ++ [(i, sl)] from rfl, e, List.length_append]
      exact this
  · have h1 : Only F w w1 := ((Only.refl F w).alloc o).trans ho1 (fun _ _ h => h)
    have h3 : Only F w w3 := h1.trans o3 (fun j _ e => by rw [hF]; exact .inr (.inr e))
    exact h3.trans o4 (fun j _ e => by rw [hF]; exact .inl e)
  · have hz : w.heap.size ≤ w1.heap.size := by
      have := ho1.size; simp at this; omega
    rintro j (rfl | rfl | hj)
    · left; rw [hF]; exact .inl rfl
    · left; rw [hF]; exact .inr (.inl rfl)
    · have : g = j := by simpa [Value.ownBlock] using hj
      subst this
      rcases hat with h | h
      · left; rw [hF]; exact .inr (.inr h)
      · right; omega
set_option maxHeartbeats 400000 in
set_option maxRecDepth 100000 in
theorem docwrite_yes (w : World) (b : Nat) (F : Nat → Prop) (d : Dev) (i : Nat) (sl : Slb) (h : DocRep w b F d) (hs : sl.length = 128) (hwl : d.written.length ≤ 1000000)
    (hh : d.has i = true) (hm : d.stops = false) :
    Calls Try.prog 25 #[.pointer (some ⟨b, 0, none⟩), .int .i64 i, .agg (enc sl).toArray] w (DocPost w b F (d.write i sl).1 (.int .i64 (d.write i sl).2)) := by
  have hlt := h.lt
  have hG := h.good
  have hb : i < d.kept.length := by simp only [Dev.has, Bool.and_eq_true, decide_eq_true_eq] at hh; omega
  have i0 : (0 : Int) ≤ (i : Int) := by omega
  have i1 : (i : Int) < (d.kept.length : Int) := by omega
  have h0 := h
  obtain ⟨k0, wv0, m0, hi0, _, hF0⟩ := h0
  have ca : ∀ o, (w.alloc o).cell? ⟨b, 0, none⟩ = some (.slice (some ⟨k0, 0, none⟩) d.kept.length d.kept.length) := fun o => ((hi0.1.alloc o).cell 0).trans rfl
  have HC := hide ca
  have HI0 := hide hi0
  have c0 := ca (.cells (enc sl).toArray 33)
  clear ca hi0 hF0
  go_enter Try.func25, Try.ntmps25
  go_wp2_with (go_at_call 50; refine (spend_any _ b F d (h.alloc _)).mono ?_; rintro e w1 ⟨rfl, hr1, ho1⟩)
  obtain ⟨k, wv, m, hi, hg1, hF⟩ := hr1
  have hbox : Blk w1 w.heap.size 33 (enc sl) := ho1.blk (Blk.new w _ _) (fun hf => absurd (hlt _ hf) (by omega))
  have c1 : w1.cell? ⟨b, 1, none⟩ = some wv := (hi.1.cell 1).trans rfl
  have c1a : ∀ o, (w1.alloc o).cell? ⟨b, 1, none⟩ = some wv := fun o => ((hi.1.alloc o).cell 1).trans rfl
  have l1 : (loadSlab ⟨w.heap.size, 0, none⟩).run Try.prog w1 = .ok (.agg (enc sl).toArray) w1 := loadSlab_run _ _ _ sl hbox.whole hs
  have l1' : (loadSlab ⟨w.heap.size, 0, none⟩).run Try.prog w1.drew = .ok (.agg (enc sl).toArray) w1.drew := loadSlab_run _ _ _ sl hbox.whole hs
  obtain ⟨i91, hi91, hz0, hz1, hz2⟩ : ∃ i, Try.prog.info? 94 = some i ∧ (∃ z, i.zero = some z ∧ z.cells.size = 129) ∧ i.size = 129 ∧ i.bytes = 136 := step_info
  obtain ⟨z91, hz91, hzs91⟩ := hz0
  have own2 : w1.ownsRow 0 94 129 wv d.written.length (wcells d.written) := hi.2.2.1
  have hn4 := hi.ne.2.1
  have HI := hide hi
  clear hi hbox c0
  go_wp2
  go_region_law ((refine step_append_lies _ (by rfl) _ _ _ (by rfl) 0 94 i91 z91 129 136 Try.underlying54 hi91 hz91 hz1 hz2 hzs91 (by omega) wv d.written.length (wcells d.written) (by rfl) ((own_drew own2).alloc _) ⟨w1.heap.size, 0, none⟩ 1 1 (Value.int .i64 (i : Int) :: enc sl) (by rfl) (by simp [enc_length, hs]) (World.news_of_block (heap_alloc_new w1.drew _)) (cons_one _ sl) (by omega) (by simp only [maxLen]; omega) (by omega) (Nat.zero_le _) (w1.heap.size + 1) (by simp) ?_; intro g cap w3 own3 hgrow hat hlt3; have o3 : Only (fun j => wv.ownBlock = some j) w1 w3 := (((Only.refl _ w1).drew).alloc _).grown hgrow (fun _ e => .inr e); have c3 : w3.cell? ⟨b, 1, none⟩ = some wv := ((o3.blk HI.out.1 hn4).cell 1).trans rfl; have f3 : w3.frozen? ⟨b, 1, none⟩ = false := (o3.blk HI.out.1 hn4).frozen 1))
  all_goals
    go_wp2
    go_ret
    exact docwrite_fin w w1 w3 b k i g cap wv m _ d sl hG hh hs hF _ ho1 HI.out own3 o3 (hat.imp id (fun e => by omega)) hm
set_option maxHeartbeats 400000 in
theorem docwrite_off (w : World) (b : Nat) (F : Nat → Prop) (d : Dev) (i : Nat) (sl : Slb) (h : DocRep w b F d) (hh : d.has i = true) (hm : d.stops = true) :
    Calls Try.prog 25 #[.pointer (some ⟨b, 0, none⟩), .int .i64 i, .agg (enc sl).toArray] w (DocPost w b F (d.write i sl).1 (.int .i64 (d.write i sl).2)) := by
  have hwr : (d.write i sl).1 = d.after ∧ (d.write i sl).2 = 132 := by simp [Dev.write, hh, hm]
  rw [hwr.1, hwr.2]
  clear hwr
  have hb : i < d.kept.length := by simp only [Dev.has, Bool.and_eq_true, decide_eq_true_eq] at hh; omega
  have i0 : (0 : Int) ≤ (i : Int) := by omega
  have i1 : (i : Int) < (d.kept.length : Int) := by omega
  have h0 := h
  obtain ⟨k0, wv0, m0, hi0, _, hF0⟩ := h0
  have ca : ∀ o, (w.alloc o).cell? ⟨b, 0, none⟩ = some (.slice (some ⟨k0, 0, none⟩) d.kept.length d.kept.length) := fun o => ((hi0.1.alloc o).cell 0).trans rfl
  have c0 := ca (.cells (enc sl).toArray 33)
  clear ca hi0 hF0
  go_enter Try.func25, Try.ntmps25
  go_wp2_with (go_at_call 50; refine (spend_any _ b F d (h.alloc _)).mono ?_; rintro e w1 ⟨rfl, hr1, ho1⟩)
  go_ret
  exact ⟨rfl, F, hr1, ((Only.refl F w).alloc _).trans ho1 (fun _ _ h => h), fun _ h => .inl h⟩
set_option maxHeartbeats 400000 in
theorem docwrite_no (w : World) (b : Nat) (F : Nat → Prop) (d : Dev) (at_ : Int) (sl : Slb) (h : DocRep w b F d) (hh : d.has at_ = false) :
    Calls Try.prog 25 #[.pointer (some ⟨b, 0, none⟩), .int .i64 at_, .agg (enc sl).toArray] w (DocPost w b F (d.write at_ sl).1 (.int .i64 (d.write at_ sl).2)) := by
  have hwr : (d.write at_ sl).1 = d ∧ (d.write at_ sl).2 = 131 := by simp [Dev.write, hh]
  rw [hwr.1, hwr.2]
  clear hwr
  have h0 := h
  obtain ⟨k0, wv0, m0, hi0, _, hF0⟩ := h0
  have ca : ∀ o, (w.alloc o).cell? ⟨b, 0, none⟩ = some (.slice (some ⟨k0, 0, none⟩) d.kept.length d.kept.length) := fun o => ((hi0.1.alloc o).cell 0).trans rfl
  have c0 := ca (.cells (enc sl).toArray 33)
  clear ca hi0 hF0
  by_cases hneg : at_ < 0
  · go_enter Try.func25, Try.ntmps25
    go_wp2
    go_ret
    exact ⟨rfl, F, h.alloc _, (Only.refl F w).alloc _, fun _ h => .inl h⟩
  · have hge : (d.kept.length : Int) ≤ at_ := by
      simp only [Dev.has, Bool.and_eq_false_iff, decide_eq_false_iff_not] at hh
      omega
    go_enter Try.func25, Try.ntmps25
    go_wp2
    go_ret
    exact ⟨rfl, F, h.alloc _, (Only.refl F w).alloc _, fun _ h => .inl h⟩
theorem docwrite_any (w : World) (b : Nat) (F : Nat → Prop) (d : Dev) (at_ : Int) (sl : Slb) (h : DocRep w b F d) (hs : sl.length = 128) (hwl : d.written.length ≤ 1000000) :
    Calls Try.prog 25 #[.pointer (some ⟨b, 0, none⟩), .int .i64 at_, .agg (enc sl).toArray] w (DocPost w b F (d.write at_ sl).1 (.int .i64 (d.write at_ sl).2)) := by
  cases hh : d.has at_ with
  | false => exact docwrite_no w b F d at_ sl h hh
  | true =>
    obtain ⟨i, rfl⟩ : ∃ i : Nat, at_ = i := by
      simp only [Dev.has, Bool.and_eq_true, decide_eq_true_eq] at hh
      exact ⟨at_.toNat, by omega⟩
    cases hm : d.stops with
    | true => exact docwrite_off w b F d i sl h hh hm
    | false => exact docwrite_yes w b F d i sl h hs hwl hh hm
end Go.Proofs.Ytjipgimnhkliaaa
