/- Lemmas and walks for TableRuns, packed. -/
import Derived.Test.YtjnpkcabkccaoaaGreatQ16
import Derived.Test.YtjnpkcabkccaoaaGreatQ18
set_option maxRecDepth 100000
set_option maxHeartbeats 16000000
namespace Go.Proofs.YtjnpkcabkccaoaaGreat
open Go.RowKit
section
def DocNewPost (w : World) (n : Int) (e : Ending) (w' : World) : Prop :=
 ∃ b F, e = .returned (.pointer (some ⟨b, 0, none⟩)) ∧ DocRep w' b F (newDev n) ∧ Below w.heap.size w w' ∧ ∀ i, F i → w.heap.size ≤ i
theorem docnew_fin (w : World) (n : Int) (m : Nat) (hm : newN n = m) :
  DocNewPost w n (.returned (.pointer (some ⟨w.heap.size + 1, 0, none⟩))) ((w.alloc (.cells (rows (List.replicate m zeroS)).toArray 94)).alloc
   (.cells [Value.slice (some ⟨w.heap.size, 0, none⟩) m m, .slice none 0 0, .int .i64 0, .bool false, .bool false].toArray 75)) := by
 subst hm
 have hl : (newDev n).kept.length = newN n := by simp [newDev]
 have b0 : Blk ((w.alloc (.cells (rows (List.replicate (newN n) zeroS)).toArray 94)).alloc
   (.cells [Value.slice (some ⟨w.heap.size, 0, none⟩) (newN n) (newN n), .slice none 0 0, .int .i64 0, .bool false, .bool false].toArray 75)) w.heap.size 94 (rows (List.replicate (newN n) zeroS)) :=
  (Blk.new w _ _).alloc _
 refine ⟨_, _, rfl, ⟨w.heap.size, .slice none 0 0, 0, ⟨?_, b0, World.ownsRow_nil _ _ _ _, fun h => absurd h (by simp [newDev])⟩, newDev_good n, rfl⟩, ?_, ?_⟩
 ·rw [hl]; exact Blk.new1 w _ _ _
 ·exact ((Below.refl _ _).alloc (Nat.le_refl _) _).alloc (by simp) _
 ·rintro i (h | h | h)
  ·omega
  ·omega
  ·simp [Value.ownBlock] at h
theorem docnew_mid (w : World) (m : Nat) (h0 : 0 < m) (h1 : m ≤ 4096) : Calls Tryz.prog 6 #[.int .i64 (m : Int)] w (DocNewPost w m) := by
 have hm := make33 m (by omega)
 have hN : Hid (newN (m : Int) = m) := by show _ = _; simp [newN]; omega
 go_enter Tryz.func6, Tryz.ntmps6
 go_wp2
 all_goals
  go_ret
  exact docnew_fin w m m hN.out
theorem docnew_low (w : World) (n : Int) (h0 : n ≤ 0) : Calls Tryz.prog 6 #[.int .i64 n] w (DocNewPost w n) := by
 have hm : ∀ w, (Instr.makeSlice 69 (.int .i64 0) (.int .i64 0)).run Tryz.prog w =
  .ok (.slice (some ⟨w.heap.size, 0, none⟩) 0 0) (w.alloc (.cells (rows (List.replicate 0 zeroS)).toArray 94)) := fun w => make33 0 (by omega) w
 have hN : Hid (newN n = 0) := by show _ = _; simp [newN]; omega
 by_cases hz : n = 0
 ·subst hz
  go_enter Tryz.func6, Tryz.ntmps6
  go_wp2
  all_goals
   go_ret
   exact docnew_fin w 0 0 hN.out
 ·have hneg : n < 0 := by omega
  go_enter Tryz.func6, Tryz.ntmps6
  go_wp2
  all_goals
   go_ret
   exact docnew_fin w n 0 hN.out
theorem docnew_high (w : World) (n : Int) (h0 : 4096 < n) : Calls Tryz.prog 6 #[.int .i64 n] w (DocNewPost w n) := by
 have hm : ∀ w, (Instr.makeSlice 69 (.int .i64 4096) (.int .i64 4096)).run Tryz.prog w =
  .ok (.slice (some ⟨w.heap.size, 0, none⟩) big big) (w.alloc (.cells (rows (List.replicate big zeroS)).toArray 94)) := fun w => make33 big (by decide) w
 have hN : Hid (newN n = big) := by show _ = _; simp [newN, big]; omega
 go_enter Tryz.func6, Tryz.ntmps6
 go_wp2
 all_goals
  go_ret
  exact docnew_fin w n big hN.out
theorem docnew_any (w : World) (n : Int) : Calls Tryz.prog 6 #[.int .i64 n] w (DocNewPost w n) := by
 by_cases h0 : n ≤ 0
 ·exact docnew_low w n h0
 ·by_cases h1 : 4096 < n
  ·exact docnew_high w n h1
  ·obtain ⟨m, rfl⟩ : ∃ m : Nat, n = m := ⟨n.toNat, by omega⟩
   exact docnew_mid w m (by omega) (by omega)

theorem infoStep : (Tryz.prog.info? 98).map (fun i => i.zero.map (fun z => z.cells.size)) = some (some 129) := by kernel_rfl
theorem moreStep : (Tryz.prog.info? 98).map (fun i => (i.size, i.bytes)) = some (129, 136) := by kernel_rfl
theorem iszStep : (Tryz.prog.info? 98).map (·.size) = some 129 := by kernel_rfl
theorem step_info : ∃ i, Tryz.prog.info? 98 = some i ∧ (∃ z, i.zero = some z ∧ z.cells.size = 129) ∧ i.size = 129 ∧ i.bytes = 136 := by
 obtain ⟨i, z, h1, h2, zs, h3, h4⟩ := zero_parts infoStep
 have := moreStep
 rw [h1] at this
 simp at this
 exact ⟨i, h1, ⟨z, h2, by rw [h3]; simpa using h4⟩, this.1, this.2⟩
def mkStep (parts : Array (Nat × Value)) : Sem Value := Instr.build 98 parts
theorem mkStep_fold (parts : Array (Nat × Value)) : Instr.build 98 parts = mkStep parts := rfl
theorem mkStep_run (k : IntKind) (n : Int) (s : Slb) (hs : s.length = 128) (w : World) : (mkStep #[(0, .int k n), (1, .agg (enc s).toArray)]).run Tryz.prog w = .ok (.agg (.int k n :: enc s).toArray) w :=
 run_build_pair 98 _ _ 128 Tryz.underlying98 rfl rfl iszInt isz33 infoStep (.int k n) rfl (enc s) (by simp [enc_length, hs]) w
def mkSteps (parts : Array (Nat × Value)) : Sem Value := Instr.buildSlice 73 1 parts
theorem mkSteps_fold (parts : Array (Nat × Value)) : Instr.buildSlice 73 1 parts = mkSteps parts := rfl
theorem mkSteps_run (v : Value) (s : Slb) (hs : s.length = 128) (w : World) : (mkSteps #[(0, .agg (v :: enc s).toArray)]).run Tryz.prog w = .ok (.slice (some ⟨w.heap.size, 0, none⟩) 1 1) (w.alloc (.cells (v :: enc s).toArray 98)) :=
 run_buildSlice_one 73 98 129 Tryz.underlying73 iszStep infoStep (by decide) (by decide) (v :: enc s) (by simp [enc_length, hs]) w
attribute [local go_sem ↓] mkStep_fold mkSteps_fold loadSlab_fold
attribute [local go_sem] mkStep_run mkSteps_run
theorem docwrite_fin (w w1 w3 : World) (b k i g cap : Nat) (wv : Value) (m : Int) (F : Nat → Prop) (d : Dev) (sl : Slb)
  (hG : d.Good) (hh : d.has i = true) (hs : sl.length = 128) (hF : F = fun j => j = b ∨ j = k ∨ wv.ownBlock = some j)
  (o : Obj)
  (ho1 : Only F (w.alloc o) w1) (hi : DocIn w1 b k wv m d.after)
  (own3 : w3.ownsRow 0 98 129 (.slice (some ⟨g, 0, none⟩) (d.written.length + 1) cap) (d.written.length + 1) (wcells d.written ++ (Value.int .i64 (i : Int) :: enc sl)))
  (o3 : Only (fun j => wv.ownBlock = some j) w1 w3) (hat : wv.ownBlock = some g ∨ w1.heap.size ≤ g) (hm : d.stops = false) :
  DocPost w b F (d.write i sl).1 (.int .i64 (d.write i sl).2) (.returned (.int .i64 0)) (w3.setCell ⟨b, 1, none⟩ (.slice (some ⟨g, 0, none⟩) (d.written.length + 1) cap)) := by
 have hwr : (d.write i sl).1 = { d.after with seen := d.seen.set i sl, written := d.written ++ [(i, sl)] } ∧ (d.write i sl).2 = 0 := by simp [Dev.write, hh, hm]
 obtain ⟨n1, n2, n3⟩ := hi.ne
 have hlt1 := hi.lt
 have o4 : Only (fun j => j = b) w3 (w3.setCell ⟨b, 1, none⟩ (.slice (some ⟨g, 0, none⟩) (d.written.length + 1) cap)) := (Only.refl (fun j => j = b) w3).setCell (p := ⟨b, 1, none⟩) (.inr rfl) _
 have hgb : g ≠ b := by
  rintro rfl
  rcases hat with h | h
  ·exact n2 h
  ·have := hlt1 g (.inl rfl); omega
 have hgood := hG.write (i : Int) sl hs
 refine ⟨by rw [hwr.2], fun j => j = b ∨ j = k ∨ Value.ownBlock (.slice (some ⟨g, 0, none⟩) (d.written.length + 1) cap) = some j, ⟨k, _, m, ?_, hgood, rfl⟩, ?_, ?_⟩
 ·rw [hwr.1]
  refine ⟨?_, ?_, ?_, hi.2.2.2⟩
  ·have := (o3.blk hi.1 n2).set_ 1 (.slice (some ⟨g, 0, none⟩) (d.written.length + 1) cap)
   simpa [Dev.after] using this
  ·exact o4.blk (o3.blk hi.2.1 n3) (Ne.symm n1)
  ·have := o4.own own3 (fun g' hg' e => by
    have : g = g' := by simpa [Value.ownBlock] using hg'
    exact hgb (this.trans e))
   have e : wcells (d.written ++ [(i, sl)]) = wcells d.written ++ (Value.int .i64 (i : Int) :: enc sl) := by rw [wcells_append]; simp [wcells]
   rw [show (({ d.after with seen := d.seen.set i sl, written := d.written ++ [(i, sl)] } : Dev)).written = d.written ++ [(i, sl)] from rfl, e, List.length_append]
   exact this
 ·have h1 : Only F w w1 := ((Only.refl F w).alloc o).trans ho1 (fun _ _ h => h)
  have h3 : Only F w w3 := h1.trans o3 (fun j _ e => by rw [hF]; exact .inr (.inr e))
  exact h3.trans o4 (fun j _ e => by rw [hF]; exact .inl e)
 ·have hz : w.heap.size ≤ w1.heap.size := by
   have := ho1.size; simp at this; omega
  rintro j (rfl | rfl | hj)
  ·left; rw [hF]; exact .inl rfl
  ·left; rw [hF]; exact .inr (.inl rfl)
  ·have : g = j := by simpa [Value.ownBlock] using hj
   subst this
   rcases hat with h | h
   ·left; rw [hF]; exact .inr (.inr h)
   ·right; omega
theorem docwrite_yes (w : World) (b : Nat) (F : Nat → Prop) (d : Dev) (i : Nat) (sl : Slb) (h : DocRep w b F d) (hs : sl.length = 128) (hwl : d.written.length ≤ 1000000)
  (hh : d.has i = true) (hm : d.stops = false) :
  Calls Tryz.prog 96 #[.pointer (some ⟨b, 0, none⟩), .int .i64 i, .agg (enc sl).toArray] w (DocPost w b F (d.write i sl).1 (.int .i64 (d.write i sl).2)) := by
 have hlt := h.lt
 have hG := h.good
 have hb : i < d.kept.length := by simp only [Dev.has, Bool.and_eq_true, decide_eq_true_eq] at hh; omega
 have i0 : (0 : Int) ≤ (i : Int) := by omega
 have i1 : (i : Int) < (d.kept.length : Int) := by omega
 have h0 := h
 obtain ⟨k0, wv0, m0, hi0, _, hF0⟩ := h0
 have ca : ∀ o, (w.alloc o).cell? ⟨b, 0, none⟩ = some (.slice (some ⟨k0, 0, none⟩) d.kept.length d.kept.length) := fun o => ((hi0.1.alloc o).cell 0).trans rfl
 have HC := hide ca
 have HI0 := hide hi0
 have c0 := ca (.cells (enc sl).toArray 94)
 clear ca hi0 hF0
 go_enter Tryz.func96, Tryz.ntmps96
 go_wp2_with (go_at_call 98; refine (spend_any _ b F d (h.alloc _)).mono ?_; rintro e w1 ⟨rfl, hr1, ho1⟩)
 obtain ⟨k, wv, m, hi, hg1, hF⟩ := hr1
 have hbox : Blk w1 w.heap.size 94 (enc sl) := ho1.blk (Blk.new w _ _) (fun hf => absurd (hlt _ hf) (by omega))
 have c1 : w1.cell? ⟨b, 1, none⟩ = some wv := (hi.1.cell 1).trans rfl
 have c1a : ∀ o, (w1.alloc o).cell? ⟨b, 1, none⟩ = some wv := fun o => ((hi.1.alloc o).cell 1).trans rfl
 have l1 : (loadSlab ⟨w.heap.size, 0, none⟩).run Tryz.prog w1 = .ok (.agg (enc sl).toArray) w1 := loadSlab_run _ _ _ sl hbox.whole hs
 have l1' : (loadSlab ⟨w.heap.size, 0, none⟩).run Tryz.prog w1.drew = .ok (.agg (enc sl).toArray) w1.drew := loadSlab_run _ _ _ sl hbox.whole hs
 obtain ⟨i91, hi91, hz0, hz1, hz2⟩ : ∃ i, Tryz.prog.info? 98 = some i ∧ (∃ z, i.zero = some z ∧ z.cells.size = 129) ∧ i.size = 129 ∧ i.bytes = 136 := step_info
 obtain ⟨z91, hz91, hzs91⟩ := hz0
 have own2 : w1.ownsRow 0 98 129 wv d.written.length (wcells d.written) := hi.2.2.1
 have hn4 := hi.ne.2.1
 have HI := hide hi
 clear hi hbox c0
 go_wp2
 go_region_law ((refine step_append_lies _ (by rfl) _ _ _ (by rfl) 0 98 i91 z91 129 136 Tryz.underlying73 hi91 hz91 hz1 hz2 hzs91 (by omega) wv d.written.length (wcells d.written) (by rfl) ((own_drew own2).alloc _) ⟨w1.heap.size, 0, none⟩ 1 1 (Value.int .i64 (i : Int) :: enc sl) (by rfl) (by simp [enc_length, hs]) (World.news_of_block (heap_alloc_new w1.drew _)) (cons_one _ sl) (by omega) (by simp only [maxLen]; omega) (by omega) (Nat.zero_le _) (w1.heap.size + 1) (by simp) ?_; intro g cap w3 own3 hgrow hat hlt3; have o3 : Only (fun j => wv.ownBlock = some j) w1 w3 := (((Only.refl _ w1).drew).alloc _).grown hgrow (fun _ e => .inr e); have c3 : w3.cell? ⟨b, 1, none⟩ = some wv := ((o3.blk HI.out.1 hn4).cell 1).trans rfl; have f3 : w3.frozen? ⟨b, 1, none⟩ = false := (o3.blk HI.out.1 hn4).frozen 1))
 all_goals
  go_wp2
  go_ret
  exact docwrite_fin w w1 w3 b k i g cap wv m _ d sl hG hh hs hF _ ho1 HI.out own3 o3 (hat.imp id (fun e => by omega)) hm
theorem docwrite_off (w : World) (b : Nat) (F : Nat → Prop) (d : Dev) (i : Nat) (sl : Slb) (h : DocRep w b F d) (hh : d.has i = true) (hm : d.stops = true) :
  Calls Tryz.prog 96 #[.pointer (some ⟨b, 0, none⟩), .int .i64 i, .agg (enc sl).toArray] w (DocPost w b F (d.write i sl).1 (.int .i64 (d.write i sl).2)) := by
 have hwr : (d.write i sl).1 = d.after ∧ (d.write i sl).2 = 132 := by simp [Dev.write, hh, hm]
 rw [hwr.1, hwr.2]
 clear hwr
 have hb : i < d.kept.length := by simp only [Dev.has, Bool.and_eq_true, decide_eq_true_eq] at hh; omega
 have i0 : (0 : Int) ≤ (i : Int) := by omega
 have i1 : (i : Int) < (d.kept.length : Int) := by omega
 have h0 := h
 obtain ⟨k0, wv0, m0, hi0, _, hF0⟩ := h0
 have ca : ∀ o, (w.alloc o).cell? ⟨b, 0, none⟩ = some (.slice (some ⟨k0, 0, none⟩) d.kept.length d.kept.length) := fun o => ((hi0.1.alloc o).cell 0).trans rfl
 have c0 := ca (.cells (enc sl).toArray 94)
 clear ca hi0 hF0
 go_enter Tryz.func96, Tryz.ntmps96
 go_wp2_with (go_at_call 98; refine (spend_any _ b F d (h.alloc _)).mono ?_; rintro e w1 ⟨rfl, hr1, ho1⟩)
 go_ret
 exact ⟨rfl, F, hr1, ((Only.refl F w).alloc _).trans ho1 (fun _ _ h => h), fun _ h => .inl h⟩
theorem docwrite_no (w : World) (b : Nat) (F : Nat → Prop) (d : Dev) (at_ : Int) (sl : Slb) (h : DocRep w b F d) (hh : d.has at_ = false) :
  Calls Tryz.prog 96 #[.pointer (some ⟨b, 0, none⟩), .int .i64 at_, .agg (enc sl).toArray] w (DocPost w b F (d.write at_ sl).1 (.int .i64 (d.write at_ sl).2)) := by
 have hwr : (d.write at_ sl).1 = d ∧ (d.write at_ sl).2 = 131 := by simp [Dev.write, hh]
 rw [hwr.1, hwr.2]
 clear hwr
 have h0 := h
 obtain ⟨k0, wv0, m0, hi0, _, hF0⟩ := h0
 have ca : ∀ o, (w.alloc o).cell? ⟨b, 0, none⟩ = some (.slice (some ⟨k0, 0, none⟩) d.kept.length d.kept.length) := fun o => ((hi0.1.alloc o).cell 0).trans rfl
 have c0 := ca (.cells (enc sl).toArray 94)
 clear ca hi0 hF0
 by_cases hneg : at_ < 0
 ·go_enter Tryz.func96, Tryz.ntmps96
  go_wp2
  go_ret
  exact ⟨rfl, F, h.alloc _, (Only.refl F w).alloc _, fun _ h => .inl h⟩
 ·have hge : (d.kept.length : Int) ≤ at_ := by
   simp only [Dev.has, Bool.and_eq_false_iff, decide_eq_false_iff_not] at hh
   omega
  go_enter Tryz.func96, Tryz.ntmps96
  go_wp2
  go_ret
  exact ⟨rfl, F, h.alloc _, (Only.refl F w).alloc _, fun _ h => .inl h⟩
theorem docwrite_any (w : World) (b : Nat) (F : Nat → Prop) (d : Dev) (at_ : Int) (sl : Slb) (h : DocRep w b F d) (hs : sl.length = 128) (hwl : d.written.length ≤ 1000000) :
  Calls Tryz.prog 96 #[.pointer (some ⟨b, 0, none⟩), .int .i64 at_, .agg (enc sl).toArray] w (DocPost w b F (d.write at_ sl).1 (.int .i64 (d.write at_ sl).2)) := by
 cases hh : d.has at_ with
 | false => exact docwrite_no w b F d at_ sl h hh
 | true =>
  obtain ⟨i, rfl⟩ : ∃ i : Nat, at_ = i := by
   simp only [Dev.has, Bool.and_eq_true, decide_eq_true_eq] at hh
   exact ⟨at_.toNat, by omega⟩
  cases hm : d.stops with
  | true => exact docwrite_off w b F d i sl h hh hm
  | false => exact docwrite_yes w b F d i sl h hs hwl hh hm
end
theorem okB_iff (p : PairD) : p.okB = true ↔ 1 ≤ p.key.length ∧ p.key.length ≤ 200 ∧ p.value.length ≤ 20000 ∧ (p.gone = true → p.value = []) := by
 unfold PairD.okB
 cases p.gone <;> simp [List.length_eq_zero_iff]
def Sorted (l : List PairD) : Prop := l.Pairwise fun a b => lex a.key b.key < 0
theorem rightFrom_iff : ∀ (l : List PairD) (o : Option (List Int)), rightFrom o l = true ↔ (∀ p ∈ l, p.okB = true) ∧ Sorted l ∧ ∀ p ∈ l, aheadB o p.key = true
 | [], o => by simp [rightFrom, Sorted]
 | p :: l, o => by
  have ih := rightFrom_iff l (some p.key)
  unfold rightFrom
  simp only [Bool.and_eq_true, ih, Sorted, List.pairwise_cons, List.mem_cons, forall_eq_or_imp]
  constructor
  ·rintro ⟨⟨h1, h2⟩, h3, h4, h5⟩
   refine ⟨⟨h1, h3⟩, ⟨fun q hq => by have := h5 q hq; simpa [aheadB] using this, h4⟩, h2, fun q hq => ?_⟩
   cases o with
   | none => rfl
   | some k =>
    have a1 : lex k p.key < 0 := by simpa [aheadB] using h2
    have a2 : lex p.key q.key < 0 := by have := h5 q hq; simpa [aheadB] using this
    simpa [aheadB] using lex_trans _ _ _ a1 a2
  ·rintro ⟨⟨h1, h3⟩, ⟨h5, h4⟩, h2, _⟩
   exact ⟨⟨h1, h2⟩, h3, h4, fun q hq => by simpa [aheadB] using h5 q hq⟩
theorem rightB_iff (l : List PairD) : rightB l = true ↔ (∀ p ∈ l, p.okB = true) ∧ Sorted l := by
 rw [rightB, rightFrom_iff]
 exact ⟨fun h => ⟨h.1, h.2.1⟩, fun h => ⟨h.1, h.2, fun _ _ => rfl⟩⟩
theorem right_sorted {l : List PairD} (h : rightB l = true) : Sorted l := ((rightB_iff l).1 h).2
theorem right_ok {l : List PairD} (h : rightB l = true) : ∀ p ∈ l, p.okB = true := ((rightB_iff l).1 h).1
theorem lt_ne {a b : List Int} (h : lex a b < 0) : a ≠ b := fun e => by rw [e, lex_self] at h; omega
theorem lt_not {a b : List Int} (h : lex a b < 0) : ¬ lex b a < 0 := fun k => by have := lex_swap a b; omega
theorem ge_cases {a b : List Int} (h : ¬ lex a b < 0) : a = b ∨ lex b a < 0 := by
 by_cases h0 : lex a b = 0
 ·exact .inl (lex_zero _ _ h0)
 ·right; have := lex_swap a b; omega
theorem mem_or : ∀ (l c : List PairD) (x : PairD), x ∈ mergeD l c → x ∈ l ∨ (x ∈ c ∧ x.gone = false) := by
 intro l c
 induction l, c using mergeD.induct with
 | case1 l => intro x h; rw [mergeD] at h; exact .inl h
 | case2 c cs ih =>
  intro x h
  rw [mergeD] at h
  rcases List.mem_append.1 h with h | h
  ·cases hg : c.gone
   ·rw [hg] at h; simp at h; right; rw [h]; exact ⟨by simp, hg⟩
   ·rw [hg] at h; simp at h
  ·rcases ih x h with h | h
   ·exact .inl h
   ·exact .inr ⟨List.mem_cons_of_mem _ h.1, h.2⟩
 | case3 p l c cs hlt ih =>
  intro x h
  rw [mergeD, if_pos hlt] at h
  rcases List.mem_cons.1 h with h | h
  ·left; rw [h]; simp
  ·rcases ih x h with h | h
   ·exact .inl (List.mem_cons_of_mem _ h)
   ·exact .inr h
 | case4 p l c cs hlt ih =>
  intro x h
  rw [mergeD, if_neg hlt] at h
  rcases List.mem_append.1 h with h | h
  ·cases hg : c.gone
   ·rw [hg] at h; simp at h; right; rw [h]; exact ⟨by simp, hg⟩
   ·rw [hg] at h; simp at h
  ·rcases ih x h with h | h
   ·left
    unfold restP at h
    split at h
    ·exact List.mem_cons_of_mem _ h
    ·exact h
   ·exact .inr ⟨List.mem_cons_of_mem _ h.1, h.2⟩
theorem Sorted.tail {p : PairD} {l : List PairD} (h : Sorted (p :: l)) : Sorted l := (List.pairwise_cons.1 h).2
theorem Sorted.head {p : PairD} {l : List PairD} (h : Sorted (p :: l)) : ∀ q ∈ l, lex p.key q.key < 0 := (List.pairwise_cons.1 h).1
theorem Sorted.cons {p : PairD} {l : List PairD} (h : ∀ q ∈ l, lex p.key q.key < 0) (k : Sorted l) : Sorted (p :: l) := List.pairwise_cons.2 ⟨h, k⟩
theorem sorted_rest {p : PairD} {l : List PairD} (h : Sorted (p :: l)) (c : PairD) : Sorted (restP p l c) := by
 unfold restP
 split
 ·exact h.tail
 ·exact h
theorem rest_above {p c : PairD} {l : List PairD} (h : Sorted (p :: l)) (hlt : ¬ lex p.key c.key < 0) : ∀ q ∈ restP p l c, lex c.key q.key < 0 := by
 intro q hq
 unfold restP at hq
 split at hq
 ·rename_i h0
  rw [← lex_zero _ _ h0]
  exact h.head q hq
 ·rename_i h0
  have h1 : lex c.key p.key < 0 := by have := lex_swap p.key c.key; omega
  rcases List.mem_cons.1 hq with hq | hq
  ·rw [hq]; exact h1
  ·exact lex_trans _ _ _ h1 (h.head q hq)
theorem Sorted.pre {c : PairD} {m : List PairD} (h : ∀ q ∈ m, lex c.key q.key < 0) (k : Sorted m) : Sorted ((if c.gone then [] else [c]) ++ m) := by
 cases c.gone
 ·exact Sorted.cons h k
 ·exact k
theorem mergeD_sorted : ∀ (l c : List PairD), Sorted l → Sorted c → Sorted (mergeD l c) := by
 intro l c
 induction l, c using mergeD.induct with
 | case1 l => intro h _; rw [mergeD]; exact h
 | case2 c cs ih =>
  intro h k
  rw [mergeD]
  refine Sorted.pre (fun q hq => ?_) (ih h k.tail)
  rcases mem_or _ _ _ hq with hq | hq
  ·cases hq
  ·exact k.head q hq.1
 | case3 p l c cs hlt ih =>
  intro h k
  rw [mergeD, if_pos hlt]
  refine Sorted.cons (fun q hq => ?_) (ih h.tail k)
  rcases mem_or _ _ _ hq with hq | hq
  ·exact h.head q hq
  ·rcases List.mem_cons.1 hq.1 with e | hq
   ·rw [e]; exact hlt
   ·exact lex_trans _ _ _ hlt (k.head q hq)
 | case4 p l c cs hlt ih =>
  intro h k
  rw [mergeD, if_neg hlt]
  refine Sorted.pre (fun q hq => ?_) (ih (sorted_rest h c) k.tail)
  rcases mem_or _ _ _ hq with hq | hq
  ·exact rest_above h hlt q hq
  ·exact k.head q hq.1
theorem mergeD_mem : ∀ (l c : List PairD), Sorted l → Sorted c → ∀ x, x ∈ mergeD l c ↔ (x ∈ l ∧ ∀ y ∈ c, y.key ≠ x.key) ∨ (x ∈ c ∧ x.gone = false) := by
 intro l c
 induction l, c using mergeD.induct with
 | case1 l => intro _ _ x; rw [mergeD]; simp
 | case2 c cs ih =>
  intro h k x
  rw [mergeD, List.mem_append, ih h k.tail x]
  cases hg : c.gone
  ·simp only [Bool.false_eq_true, if_false, List.not_mem_nil, false_and, false_or]
   rw [List.mem_cons, List.mem_cons]
   constructor
   ·rintro ((e | e) | e)
    ·rw [e]; exact ⟨.inl rfl, hg⟩
    ·cases e
    ·exact ⟨.inr e.1, e.2⟩
   ·rintro ⟨e | e, e2⟩
    ·exact .inl (.inl e)
    ·exact .inr ⟨e, e2⟩
  ·simp only [if_true, List.not_mem_nil, false_and, false_or, List.mem_cons]
   constructor
   ·rintro e; exact ⟨.inr e.1, e.2⟩
   ·rintro ⟨e | e, e2⟩
    ·rw [e, hg] at e2; cases e2
    ·exact ⟨e, e2⟩
 | case3 p l c cs hlt ih =>
  intro h k x
  rw [mergeD, if_pos hlt, List.mem_cons, ih h.tail k x]
  have hp : ∀ y ∈ c :: cs, y.key ≠ p.key := fun y hy => by
   rcases List.mem_cons.1 hy with e | hy
   ·rw [e]; exact (lt_ne hlt).symm
   ·exact (lt_ne (lex_trans _ _ _ hlt (k.head y hy))).symm
  constructor
  ·rintro (e | e | e)
   ·left; rw [e]; exact ⟨by simp, hp⟩
   ·exact .inl ⟨List.mem_cons_of_mem _ e.1, e.2⟩
   ·exact .inr e
  ·rintro (⟨e, e2⟩ | e)
   ·rcases List.mem_cons.1 e with e | e
    ·exact .inl e
    ·exact .inr (.inl ⟨e, e2⟩)
   ·exact .inr (.inr e)
 | case4 p l c cs hlt ih =>
  intro h k x
  rw [mergeD, if_neg hlt, List.mem_append, ih (sorted_rest h c) k.tail x]
  have hab := rest_above h hlt
  have hin : x ∈ restP p l c ↔ x ∈ p :: l ∧ c.key ≠ x.key := by
   constructor
   ·intro hx
    refine ⟨?_, lt_ne (hab x hx)⟩
    unfold restP at hx
    split at hx
    ·exact List.mem_cons_of_mem _ hx
    ·exact hx
   ·rintro ⟨hx, hne⟩
    unfold restP
    split
    ·rename_i h0
     rcases List.mem_cons.1 hx with e | hx
     ·exfalso; apply hne; rw [e, lex_zero _ _ h0]
     ·exact hx
    ·exact hx
  rw [hin]
  cases hg : c.gone
  ·simp only [Bool.false_eq_true, if_false, List.mem_cons, forall_eq_or_imp]
   constructor
   ·rintro ((e | e) | ⟨⟨e, e1⟩, e2⟩ | e)
    ·right; rw [e]; exact ⟨.inl rfl, hg⟩
    ·cases e
    ·exact .inl ⟨e, e1, e2⟩
    ·exact .inr ⟨.inr e.1, e.2⟩
   ·rintro (⟨e, e1, e2⟩ | ⟨e | e, e2⟩)
    ·exact .inr (.inl ⟨⟨e, e1⟩, e2⟩)
    ·exact .inl (.inl e)
    ·exact .inr (.inr ⟨e, e2⟩)
  ·simp only [if_true, List.not_mem_nil, false_or, List.mem_cons, forall_eq_or_imp]
   constructor
   ·rintro (⟨⟨e, e1⟩, e2⟩ | e)
    ·exact .inl ⟨e, e1, e2⟩
    ·exact .inr ⟨.inr e.1, e.2⟩
   ·rintro (⟨e, e1, e2⟩ | ⟨e | e, e2⟩)
    ·exact .inl ⟨⟨e, e1⟩, e2⟩
    ·rw [e, hg] at e2; cases e2
    ·exact .inr ⟨e, e2⟩
theorem mergeD_nil (l : List PairD) : mergeD l [] = l := by rw [mergeD]
theorem mergeD_right {l c : List PairD} (h : rightB l = true) (k : rightB c = true) : rightB (mergeD l c) = true := by
 rw [rightB_iff]
 refine ⟨fun p hp => ?_, mergeD_sorted l c (right_sorted h) (right_sorted k)⟩
 rcases mem_or _ _ _ hp with hp | hp
 ·exact right_ok h p hp
 ·exact right_ok k p hp.1
theorem mergeD_here {l : List PairD} (c : List PairD) (h : goneIn l = false) : goneIn (mergeD l c) = false := by
 rw [goneIn, List.any_eq_false] at h ⊢
 intro p hp
 rcases mem_or _ _ _ hp with hp | hp
 ·exact h p hp
 ·rw [hp.2]; decide
theorem sorted_ext : ∀ (l m : List PairD), Sorted l → Sorted m → (∀ x, x ∈ l ↔ x ∈ m) → l = m
 | [], [], _, _, _ => rfl
 | [], b :: m, _, _, h => by have := (h b).2 (by simp); cases this
 | a :: l, [], _, _, h => by have := (h a).1 (by simp); cases this
 | a :: l, b :: m, hl, hm, h => by
  have hab : a = b := by
   rcases List.mem_cons.1 ((h a).1 (by simp)) with e | e
   ·exact e
   ·rcases List.mem_cons.1 ((h b).2 (by simp)) with e2 | e2
    ·exact e2.symm
    ·exact absurd (hl.head b e2) (lt_not (hm.head a e))
  subst hab
  rw [sorted_ext l m hl.tail hm.tail fun x => ?_]
  constructor
  ·intro hx
   rcases List.mem_cons.1 ((h x).1 (List.mem_cons_of_mem _ hx)) with e | e
   ·have h9 := hl.head x hx
    rw [e, lex_self] at h9
    omega
   ·exact e
  ·intro hx
   rcases List.mem_cons.1 ((h x).2 (List.mem_cons_of_mem _ hx)) with e | e
   ·have h9 := hm.head x hx
    rw [e, lex_self] at h9
    omega
   ·exact e
def insD (out : List PairD) (c : PairD) : List PairD := out.takeWhile (fun p => decide (lex p.key c.key < 0)) ++ c :: out.dropWhile (fun p => decide (lex p.key c.key < 0))
def keptD (l ch : List PairD) : List PairD := l.filter fun p => ch.all fun c => decide (c.key ≠ p.key)
def addD (out : List PairD) (c : PairD) : List PairD := if c.gone then out else insD out c
def refMergeD (l ch : List PairD) : List PairD := ch.foldl addD (keptD l ch)
theorem insD_mem (out : List PairD) (c x : PairD) : x ∈ insD out c ↔ x = c ∨ x ∈ out := by
 have h := List.takeWhile_append_dropWhile (p := fun p : PairD => decide (lex p.key c.key < 0)) (l := out)
 have k : x ∈ out ↔ x ∈ out.takeWhile (fun p => decide (lex p.key c.key < 0)) ∨ x ∈ out.dropWhile (fun p => decide (lex p.key c.key < 0)) := by
  rw [← List.mem_append, h]
 rw [insD, List.mem_append, List.mem_cons, k]
 constructor
 ·rintro (h | h | h)
  ·exact .inr (.inl h)
  ·exact .inl h
  ·exact .inr (.inr h)
 ·rintro (h | h | h)
  ·exact .inr (.inl h)
  ·exact .inl h
  ·exact .inr (.inr h)
theorem insD_sorted : ∀ (out : List PairD) (c : PairD), Sorted out → (∀ x ∈ out, c.key ≠ x.key) → Sorted (insD out c)
 | [], c, _, _ => by simp [insD, Sorted]
 | a :: out, c, h, k => by
  by_cases hlt : lex a.key c.key < 0
  ·have e : insD (a :: out) c = a :: insD out c := by simp [insD, hlt]
   rw [e]
   refine Sorted.cons (fun q hq => ?_) (insD_sorted out c h.tail fun x hx => k x (List.mem_cons_of_mem _ hx))
   rcases (insD_mem out c q).1 hq with e | hq
   ·rw [e]; exact hlt
   ·exact h.head q hq
  ·have e : insD (a :: out) c = c :: a :: out := by simp [insD, hlt]
   rw [e]
   have hca : lex c.key a.key < 0 := by
    rcases ge_cases hlt with e | e
    ·exact absurd e.symm (k a (by simp))
    ·exact e
   refine Sorted.cons (fun q hq => ?_) h
   rcases List.mem_cons.1 hq with e | hq
   ·rw [e]; exact hca
   ·exact lex_trans _ _ _ hca (h.head q hq)
theorem addD_all : ∀ (cs out : List PairD), Sorted out → Sorted cs → (∀ x ∈ out, ∀ c ∈ cs, c.key ≠ x.key) → Sorted (cs.foldl addD out) ∧ ∀ x, x ∈ cs.foldl addD out ↔ x ∈ out ∨ (x ∈ cs ∧ x.gone = false)
 | [], out, h, _, _ => ⟨h, fun x => by simp⟩
 | c :: cs, out, h, hc, k => by
  rw [List.foldl_cons]
  cases hg : c.gone
  ·have e : addD out c = insD out c := by simp [addD, hg]
   rw [e]
   obtain ⟨i1, i2⟩ := addD_all cs (insD out c) (insD_sorted out c h fun x hx => k x hx c (by simp)) hc.tail (fun x hx d hd => by
    rcases (insD_mem out c x).1 hx with e | hx
    ·rw [e]; exact (lt_ne (hc.head d hd)).symm
    ·exact k x hx d (List.mem_cons_of_mem _ hd))
   refine ⟨i1, fun x => ?_⟩
   rw [i2 x, insD_mem, List.mem_cons]
   constructor
   ·rintro ((e | e) | e)
    ·right; rw [e]; exact ⟨.inl rfl, hg⟩
    ·exact .inl e
    ·exact .inr ⟨.inr e.1, e.2⟩
   ·rintro (e | ⟨e | e, e2⟩)
    ·exact .inl (.inr e)
    ·exact .inl (.inl e)
    ·exact .inr ⟨e, e2⟩
  ·have e : addD out c = out := by simp [addD, hg]
   rw [e]
   obtain ⟨i1, i2⟩ := addD_all cs out h hc.tail (fun x hx d hd => k x hx d (List.mem_cons_of_mem _ hd))
   refine ⟨i1, fun x => ?_⟩
   rw [i2 x, List.mem_cons]
   constructor
   ·rintro (e | e)
    ·exact .inl e
    ·exact .inr ⟨.inr e.1, e.2⟩
   ·rintro (e | ⟨e | e, e2⟩)
    ·exact .inl e
    ·rw [e, hg] at e2; cases e2
    ·exact .inr ⟨e, e2⟩
theorem keptD_mem (l ch : List PairD) (x : PairD) : x ∈ keptD l ch ↔ x ∈ l ∧ ∀ y ∈ ch, y.key ≠ x.key := by
 rw [keptD, List.mem_filter]
 simp only [List.all_eq_true, decide_eq_true_eq]
theorem merge_eq {l c : List PairD} (h : Sorted l) (k : Sorted c) : refMergeD l c = mergeD l c := by
 obtain ⟨i1, i2⟩ := addD_all c (keptD l c) (List.Pairwise.filter _ h) k (fun x hx d hd => ((keptD_mem l c x).1 hx).2 d hd)
 refine sorted_ext _ _ i1 (mergeD_sorted l c h k) fun x => ?_
 rw [refMergeD, i2 x, mergeD_mem l c h k x, keptD_mem]
theorem place_drop : ∀ (l : List PairD) (f : List Int), Sorted l → l.drop (placeP l f) = l.filter fun p => !decide (lex p.key f < 0)
 | [], _, _ => rfl
 | a :: l, f, h => by
  by_cases hlt : lex a.key f < 0
  ·have e : placeP (a :: l) f = placeP l f + 1 := by simp [placeP, hlt]
   rw [e, List.drop_succ_cons, List.filter_cons, place_drop l f h.tail]
   simp [hlt]
  ·have hall : ∀ q ∈ l, ¬ lex q.key f < 0 := fun q hq k => hlt (lex_trans _ _ _ (h.head q hq) k)
   have e : placeP (a :: l) f = 0 := by
    rw [placeP, List.countP_eq_zero]
    intro q hq
    rcases List.mem_cons.1 hq with e | hq
    ·rw [e]; simpa using hlt
    ·simpa using hall q hq
   rw [e, List.drop_zero, eq_comm, List.filter_eq_self]
   intro q hq
   rcases List.mem_cons.1 hq with e | hq
   ·rw [e]; simpa using hlt
   ·simpa using hall q hq
theorem placeP_le (l : List PairD) (f : List Int) : placeP l f ≤ l.length := List.countP_le_length
theorem placeP_lt {l : List PairD} {f : List Int} (h : Sorted l) (j : Nat) (p : PairD) (hp : l[j]? = some p) : lex p.key f < 0 ↔ j < placeP l f := by
 induction l generalizing j with
 | nil => simp at hp
 | cons a l ih =>
  by_cases hlt : lex a.key f < 0
  ·have e : placeP (a :: l) f = placeP l f + 1 := by simp [placeP, hlt]
   rw [e]
   rcases j with _ | j
   ·simp at hp; subst hp; simp [hlt]
   ·simp at hp
    rw [ih h.tail j hp]; omega
  ·have hall : ∀ q ∈ a :: l, ¬ lex q.key f < 0 := fun q hq k => by
    rcases List.mem_cons.1 hq with e | hq
    ·rw [e] at k; exact hlt k
    ·exact hlt (lex_trans _ _ _ (h.head q hq) k)
   have e : placeP (a :: l) f = 0 := by
    rw [placeP, List.countP_eq_zero]
    intro q hq
    simpa using hall q hq
   rw [e]
   have := hall p (List.mem_of_getElem? hp)
   omega
theorem preB_iff (pre k : List Int) : preB pre k = true ↔ ∃ s, k = pre ++ s := by
 unfold preB
 simp only [Bool.and_eq_true, decide_eq_true_eq]
 constructor
 ·rintro ⟨_, h2⟩
  exact ⟨k.drop pre.length, by have h9 := List.take_append_drop pre.length k; rw [h2] at h9; exact h9.symm⟩
 ·rintro ⟨s, rfl⟩
  simp
theorem pre_ge : ∀ (pre s : List Int), ¬ lex (pre ++ s) pre < 0
 | [], s => by cases s <;> simp [lex]
 | a :: pre, s => by simpa [lex] using pre_ge pre s
theorem pre_gap : ∀ (pre s k : List Int), lex k (pre ++ s) < 0 → ¬ lex k pre < 0 → ∃ t, k = pre ++ t
 | [], _, k, _, _ => ⟨k, rfl⟩
 | a :: pre, s, [], _, h => by simp [lex] at h
 | a :: pre, s, b :: k, h, h2 => by
  simp only [List.cons_append, lex] at h h2
  by_cases c1 : b < a
  ·rw [if_pos c1] at h2; omega
  ·rw [if_neg c1] at h h2
   by_cases c2 : a < b
   ·rw [if_pos c2] at h; omega
   ·rw [if_neg c2] at h h2
    obtain ⟨t, ht⟩ := pre_gap pre s k h h2
    exact ⟨t, by rw [ht, show b = a by omega]; rfl⟩
theorem pre_while : ∀ (l : List PairD) (pre : List Int), Sorted l → (∀ p ∈ l, ¬ lex p.key pre < 0) → l.takeWhile (fun p => preB pre p.key) = l.filter fun p => preB pre p.key
 | [], _, _, _ => rfl
 | a :: l, pre, h, k => by
  by_cases hp : preB pre a.key = true
  ·rw [List.takeWhile_cons, List.filter_cons, if_pos hp, if_pos hp, pre_while l pre h.tail fun p hp => k p (List.mem_cons_of_mem _ hp)]
  ·rw [List.takeWhile_cons, List.filter_cons, if_neg hp, if_neg hp, eq_comm, List.filter_eq_nil_iff]
   intro q hq hpq
   obtain ⟨s, hs⟩ := (preB_iff _ _).1 hpq
   have h1 := h.head q hq
   rw [hs] at h1
   exact hp ((preB_iff _ _).2 (pre_gap pre s a.key h1 (k a (by simp))))
def inRange (pre from_ : List Int) (p : PairD) : Bool := preB pre p.key && !decide (lex p.key from_ < 0)
theorem range_eq {l : List PairD} (h : Sorted l) (pre from_ : List Int) (most : Int) : rangeP l pre from_ most = (l.filter (inRange pre from_)).take most.toNat := by
 unfold rangeP
 rw [place_drop l _ h, pre_while _ _ (List.Pairwise.filter _ h), List.filter_filter]
 ·congr 1
  apply List.filter_congr
  intro p _
  unfold inRange
  by_cases hp : preB pre p.key = true
  ·rw [hp, Bool.true_and, Bool.true_and]
   obtain ⟨s, hs⟩ := (preB_iff _ _).1 hp
   have hge : ¬ lex p.key pre < 0 := by rw [hs]; exact pre_ge pre s
   by_cases hf : lex from_ pre < 0
   ·rw [if_pos hf]
    have h2 : ¬ lex p.key from_ < 0 := fun h9 => hge (lex_trans _ _ _ h9 hf)
    simp [hge, h2]
   ·rw [if_neg hf]
  ·rw [Bool.not_eq_true] at hp
   rw [hp]; rfl
 ·intro p hp hlt
  have h2 := (List.mem_filter.1 hp).2
  simp only [Bool.not_eq_true', decide_eq_false_iff_not] at h2
  by_cases hf : lex from_ pre < 0
  ·rw [if_pos hf] at h2; exact h2 hlt
  ·rw [if_neg hf] at h2
   rcases ge_cases hf with e | e
   ·rw [e] at h2; exact h2 hlt
   ·exact h2 (lex_trans _ _ _ hlt e)
theorem found_eq {l : List PairD} (h : Sorted l) (key : List Int) :
  (foundP l key = true ∧ ∃ p, l[placeP l key]? = some p ∧ p.key = key ∧ (l.filter (inRange key key)).take 1 = [p]) ∨
  (foundP l key = false ∧ ∀ p, (l.filter (inRange key key)).take 1 = [p] → p.key ≠ key) := by
 have hr := range_eq h key key 1
 have hif : (if lex key key < 0 then key else key) = key := by split <;> rfl
 rw [rangeP, hif] at hr
 have ht : (1 : Int).toNat = 1 := rfl
 rw [ht] at hr
 rw [← hr]
 unfold foundP
 cases hg : l[placeP l key]? with
 | none =>
  right
  refine ⟨rfl, fun p hp => ?_⟩
  rw [List.drop_of_length_le (by simpa using hg)] at hp
  simp at hp
 | some p =>
  obtain ⟨hlt, he⟩ := List.getElem?_eq_some_iff.1 hg
  have hd : l.drop (placeP l key) = p :: l.drop (placeP l key + 1) := by rw [List.drop_eq_getElem_cons hlt, he]
  rw [hd, List.takeWhile_cons]
  by_cases hk : lex p.key key = 0
  ·left
   have hpk := lex_zero _ _ hk
   have hpre : preB key p.key = true := (preB_iff _ _).2 ⟨[], by simp [hpk]⟩
   exact ⟨by simp [hk], p, rfl, hpk, by rw [if_pos hpre]; rfl⟩
  ·right
   refine ⟨by simp [hk], fun q hq => ?_⟩
   split at hq
   ·simp at hq
    rw [← hq]
    intro e
    rw [e, lex_self] at hk
    exact hk rfl
   ·simp at hq
end Go.Proofs.YtjnpkcabkccaoaaGreat
