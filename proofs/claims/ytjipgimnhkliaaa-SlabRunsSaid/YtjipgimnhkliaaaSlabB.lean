/-
  The device: Write.
-/
import Derived.Test.YtjipgimnhkliaaaSlabA
namespace Go.Proofs.Ytjipgimnhkliaaa
open Go.RowKit

/-! ### Rows of slabs as cells -/
theorem enc_length (s : Slb) : (enc s).length = s.length := by simp [enc]
theorem enc_one (s : Slb) : ∀ v ∈ enc s, v.oneCell' = true := by
  intro v hv
  simp only [enc, List.mem_map] at hv
  obtain ⟨x, _, rfl⟩ := hv
  rfl
theorem cons_one (n : Int) (s : Slb) : ∀ v ∈ Value.int .i64 n :: enc s, v.oneCell' = true := by
  intro v hv
  rcases List.mem_cons.1 hv with rfl | h
  · rfl
  · exact enc_one s v h
theorem rows_length : ∀ (l : List Slb), (∀ s ∈ l, s.length = 128) → (rows l).length = l.length * 128
  | [], _ => rfl
  | s :: l, h => by
    have h1 := h s (by simp)
    have h2 := rows_length l (fun t ht => h t (by simp [ht]))
    have : rows (s :: l) = enc s ++ rows l := rfl
    rw [this, List.length_append, enc_length, h1, h2]; simp; omega
theorem rows_get : ∀ (l : List Slb) (k : Nat) (s : Slb), (∀ s ∈ l, s.length = 128) → l[k]? = some s → ∀ (j : Nat) (v : Value), (enc s)[j]? = some v → (rows l)[k * 128 + j]? = some v
  | [], _, _, _, h => by simp at h
  | t :: l, 0, s, _, h => by
    intro j v hv
    simp at h; subst h
    have : rows (t :: l) = enc t ++ rows l := rfl
    rw [this, Nat.zero_mul, Nat.zero_add, List.getElem?_append_left (List.getElem?_eq_some_iff.1 hv).1, hv]
  | t :: l, k + 1, s, h128, h => by
    intro j v hv
    have h1 := h128 t (by simp)
    have : rows (t :: l) = enc t ++ rows l := rfl
    rw [this, List.getElem?_append_right (by rw [enc_length, h1]; omega), enc_length, h1]
    rw [show (k + 1) * 128 + j - 128 = k * 128 + j by omega]
    exact rows_get l k s (fun t ht => h128 t (by simp [ht])) (by simpa using h) j v hv
theorem rows_take : ∀ (l : List Slb) (k : Nat), (∀ s ∈ l, s.length = 128) → k ≤ l.length → (rows l).take (k * 128) = rows (l.take k)
  | _, 0, _, _ => by simp [rows]
  | [], _ + 1, _, h => by simp at h
  | t :: l, k + 1, h128, h => by
    have h1 := h128 t (by simp)
    have e : rows (t :: l) = enc t ++ rows l := rfl
    have e2 : rows ((t :: l).take (k + 1)) = enc t ++ rows (l.take k) := rfl
    rw [e, e2, List.take_append, enc_length, h1, List.take_of_length_le (by rw [enc_length, h1]; omega), show (k + 1) * 128 - 128 = k * 128 by omega,
      rows_take l k (fun t ht => h128 t (by simp [ht])) (by simpa using h)]
theorem rows_drop : ∀ (l : List Slb) (k : Nat), (∀ s ∈ l, s.length = 128) → k ≤ l.length → (rows l).drop (k * 128) = rows (l.drop k)
  | _, 0, _, _ => by simp
  | [], _ + 1, _, h => by simp at h
  | t :: l, k + 1, h128, h => by
    have h1 := h128 t (by simp)
    have e : rows (t :: l) = enc t ++ rows l := rfl
    have e2 : rows ((t :: l).drop (k + 1)) = rows (l.drop k) := rfl
    rw [e, e2, List.drop_append, enc_length, h1, List.drop_of_length_le (by rw [enc_length, h1]; omega), show (k + 1) * 128 - 128 = k * 128 by omega, List.nil_append,
      rows_drop l k (fun t ht => h128 t (by simp [ht])) (by simpa using h)]
theorem rows_append (a b : List Slb) : rows (a ++ b) = rows a ++ rows b := by simp [rows]
theorem rows_set (l : List Slb) (k : Nat) (s : Slb) (h128 : ∀ s ∈ l, s.length = 128) (hs : s.length = 128) (hk : k < l.length) : lay (rows l) (k * 128) (enc s) = rows (l.set k s) := by
  have hl := rows_length l h128
  rw [lay_eq _ _ _ (by rw [hl, enc_length, hs]; omega), rows_take l k h128 (by omega), enc_length, hs, show k * 128 + 128 = (k + 1) * 128 by omega, rows_drop l (k + 1) h128 (by omega)]
  rw [List.set_eq_take_append_cons_drop, if_pos hk, rows_append, List.append_assoc]
  rfl

theorem wcells_append (a b : List (Nat × Slb)) : wcells (a ++ b) = wcells a ++ wcells b := by simp [wcells]

def Dev.write (d : Dev) (at_ : Int) (s : Slb) : Dev × Int :=
  if d.has at_ then
    if d.stops then (d.after, 132)
    else ({ d.after with seen := d.seen.set at_.toNat s, written := d.written ++ [(at_.toNat, s)] }, 0)
  else (d, 131)
theorem Dev.Good.write {d : Dev} (h : d.Good) (at_ : Int) (s : Slb) (hs : s.length = 128) : (d.write at_ s).1.Good := by
  unfold Dev.write
  split
  · rename_i hh
    simp only [Dev.has, Bool.and_eq_true, decide_eq_true_eq] at hh
    split
    · exact h.after
    · refine ⟨by simpa [Dev.after] using h.seen, h.few, h.k128, ?_, ?_, h.after.lo, h.after.hi⟩
      · intro t ht
        rcases List.mem_or_eq_of_mem_set ht with h1 | h1
        · exact h.s128 t h1
        · subst h1; exact hs
      · intro p hp
        simp only [List.mem_append, List.mem_singleton] at hp
        rcases hp with hp | rfl
        · exact h.wat p hp
        · exact ⟨by show at_.toNat < d.kept.length; omega, hs⟩
  · exact h

theorem info91 : (Try.prog.info? 91).map (fun i => i.zero.map (fun z => z.cells.size)) = some (some 129) := by kernel_rfl
theorem more91 : (Try.prog.info? 91).map (fun i => (i.size, i.bytes)) = some (129, 136) := by kernel_rfl
theorem isz91 : (Try.prog.info? 91).map (·.size) = some 129 := by kernel_rfl
theorem isz33 : (Try.prog.info? 33).map (·.size) = some 128 := by kernel_rfl
theorem iszInt : (Try.prog.info? 3).map (·.size) = some 1 := by kernel_rfl
theorem chg_info : ∃ i, Try.prog.info? 91 = some i ∧ (∃ z, i.zero = some z ∧ z.cells.size = 129) ∧ i.size = 129 ∧ i.bytes = 136 := by
  obtain ⟨i, z, h1, h2, zs, h3, h4⟩ := zero_parts info91
  have := more91
  rw [h1] at this
  simp at this
  exact ⟨i, h1, ⟨z, h2, by rw [h3]; simpa using h4⟩, this.1, this.2⟩
/-- A change, built; a row of one. -/
def mkChange (parts : Array (Nat × Value)) : Sem Value := Instr.build 91 parts
theorem mkChange_fold (parts : Array (Nat × Value)) : Instr.build 91 parts = mkChange parts := rfl
theorem mkChange_run (k : IntKind) (n : Int) (s : Slb) (hs : s.length = 128) (w : World) : (mkChange #[(0, .int k n), (1, .agg (enc s).toArray)]).run Try.prog w = .ok (.agg (.int k n :: enc s).toArray) w :=
  run_build_pair 91 _ _ 128 Try.underlying91 rfl rfl iszInt isz33 info91 (.int k n) rfl (enc s) (by simp [enc_length, hs]) w
def mkRow (parts : Array (Nat × Value)) : Sem Value := Instr.buildSlice 86 1 parts
theorem mkRow_fold (parts : Array (Nat × Value)) : Instr.buildSlice 86 1 parts = mkRow parts := rfl
theorem mkRow_run (v : Value) (s : Slb) (hs : s.length = 128) (w : World) : (mkRow #[(0, .agg (v :: enc s).toArray)]).run Try.prog w = .ok (.slice (some ⟨w.heap.size, 0, none⟩) 1 1) (w.alloc (.cells (v :: enc s).toArray 91)) :=
  run_buildSlice_one 86 91 129 Try.underlying86 isz91 info91 (by decide) (by decide) (v :: enc s) (by simp [enc_length, hs]) w
def loadSlab (a : Addr) : Sem Value := loadVar 33 a
theorem loadSlab_fold (a : Addr) : loadVar 33 a = loadSlab a := rfl
theorem loadSlab_run (w : World) (b o : Nat) (s : Slb) (h : w.rangeAt b o (enc s)) (hs : s.length = 128) : (loadSlab ⟨b, o, none⟩).run Try.prog w = .ok (.agg (enc s).toArray) w :=
  run_loadVar_mid w b o _ (enc s) _ h Try.underlying33 rfl (by rw [isz33, enc_length, hs])
attribute [local go_sem ↓] mkChange_fold mkRow_fold loadSlab_fold
attribute [local go_sem] mkChange_run mkRow_run

/-- What stands behind the append. -/
theorem write_fin (w w1 w2 w3 : World) (b k s i g cap : Nat) (wv : Value) (F : Nat → Prop) (d : Dev) (sl : Slb) (o : Obj)
    (hG : d.Good) (hh : d.has i = true) (hs : sl.length = 128)
    (hF : F = fun j => j = b ∨ j = k ∨ j = s ∨ wv.ownBlock = some j)
    (ho1 : Only F (w.alloc o) w1) (hi : DevIn w1 b k s wv d.after) (o2 : Only (fun j => j = s) w1 w2)
    (s2 : Blk w2 s 33 (rows (d.seen.set i sl)))
    (own3 : w3.ownsRow 0 91 129 (.slice (some ⟨g, 0, none⟩) (d.written.length + 1) cap) (d.written.length + 1) (wcells d.written ++ (Value.int .i64 (i : Int) :: enc sl)))
    (o3 : Only (fun j => wv.ownBlock = some j) w2 w3) (hat : wv.ownBlock = some g ∨ g = w2.heap.size + 1)
    (hm : d.stops = false) :
    DevPost w b F (d.write i sl).1 (.int .i64 (d.write i sl).2) (.returned (.int .i64 0)) (w3.setCell ⟨b, 2, none⟩ (.slice (some ⟨g, 0, none⟩) (d.written.length + 1) cap)) := by
  have hwr : (d.write i sl).1 = { d.after with seen := d.seen.set i sl, written := d.written ++ [(i, sl)] } ∧ (d.write i sl).2 = 0 := by simp [Dev.write, hh, hm]
  obtain ⟨n1, n2, n3, n4, n5, n6⟩ := hi.ne
  have hlt1 := hi.lt
  have sz2 := o2.size
  have o4 : Only (fun j => j = b) w3 (w3.setCell ⟨b, 2, none⟩ (.slice (some ⟨g, 0, none⟩) (d.written.length + 1) cap)) := (Only.refl (fun j => j = b) w3).setCell (p := ⟨b, 2, none⟩) (.inr rfl) _
  have hgb : g ≠ b := by
    rintro rfl
    rcases hat with h | h
    · exact n4 h
    · have := hlt1 g (.inl rfl); omega
  have hgood := hG.write (i : Int) sl hs
  refine ⟨by rw [hwr.2], fun j => j = b ∨ j = k ∨ j = s ∨ Value.ownBlock (.slice (some ⟨g, 0, none⟩) (d.written.length + 1) cap) = some j, ⟨k, s, _, ?_, hgood, rfl⟩, ?_, ?_⟩
  · rw [hwr.1]
    refine ⟨?_, ?_, ?_, ?_, n1⟩
    · exact (o3.blk (o2.blk hi.1 n3) n4).set_ 2 _ |> fun h => by simpa [Dev.after] using h
    · exact o4.blk (o3.blk (o2.blk hi.2.1 n1) n5) (Ne.symm n2)
    · exact o4.blk (o3.blk s2 n6) (Ne.symm n3)
    · have := o4.own own3 (fun g' hg' e => by
        have : g = g' := by simpa [Value.ownBlock] using hg'
        exact hgb (this.trans e))
      have e : wcells (d.written ++ [(i, sl)]) = wcells d.written ++ (Value.int .i64 (i : Int) :: enc sl) := by rw [wcells_append]; simp [wcells]
      rw [show (({ d.after with seen := d.seen.set i sl, written := d.written ++ [(i, sl)] } : Dev)).written = d.written ++ [(i, sl)] from rfl, e, List.length_append]
      exact this
  · have h1 : Only F w w1 := ((Only.refl F w).alloc o).trans ho1 (fun _ _ h => h)
    have h2 : Only F w w2 := h1.trans o2 (fun j _ e => by rw [hF]; exact .inr (.inr (.inl e)))
    have h3 : Only F w w3 := h2.trans o3 (fun j _ e => by rw [hF]; exact .inr (.inr (.inr e)))
    exact h3.trans o4 (fun j _ e => by rw [hF]; exact .inl e)
  · have hz : w.heap.size ≤ w2.heap.size := by
      have := ho1.size; simp at this; omega
    rintro j (rfl | rfl | rfl | hj)
    · left; rw [hF]; exact .inl rfl
    · left; rw [hF]; exact .inr (.inl rfl)
    · left; rw [hF]; exact .inr (.inr (.inl rfl))
    · have : g = j := by simpa [Value.ownBlock] using hj
      subst this
      rcases hat with h | h
      · left; rw [hF]; exact .inr (.inr (.inr h))
      · right; omega

set_option maxHeartbeats 400000 in
set_option maxRecDepth 100000 in
theorem write_yes (w : World) (b : Nat) (F : Nat → Prop) (d : Dev) (i : Nat) (sl : Slb) (h : DevRep w b F d) (hs : sl.length = 128) (hwl : d.written.length ≤ 1000000)
    (hh : d.has i = true) (hm : d.stops = false) :
    Calls Try.prog 16 #[.pointer (some ⟨b, 0, none⟩), .int .i64 i, .agg (enc sl).toArray] w (DevPost w b F (d.write i sl).1 (.int .i64 (d.write i sl).2)) := by
  have hlt := h.lt
  have hG := h.good
  have hb : i < d.kept.length := by simp only [Dev.has, Bool.and_eq_true, decide_eq_true_eq] at hh; omega
  have hwr : (d.write i sl).1 = { d.after with seen := d.seen.set i sl, written := d.written ++ [(i, sl)] } ∧ (d.write i sl).2 = 0 := by simp [Dev.write, hh, hm]
  have i0 : (0 : Int) ≤ (i : Int) := by omega
  have i1 : (i : Int) < (d.kept.length : Int) := by omega
  have HW := hide hwr
  clear hwr
  go_enter Try.func16, Try.ntmps16
  go_wp2_with (first
    | (go_at_call 48; refine (has_any _ b F d _ (h.alloc _)).mono ?_; rintro e w' ⟨rfl, rfl⟩)
    | (go_at_call 49; refine (may_any _ b F d (h.alloc _)).mono ?_; rintro e w1 ⟨rfl, hr1, ho1⟩))
  obtain ⟨k, s, wv, hi, hg1, hF⟩ := hr1
  have hbox : Blk w1 w.heap.size 33 (enc sl) := ho1.blk (Blk.new w _ _) (fun hf => absurd (hlt _ hf) (by omega))
  have c1 : w1.cell? ⟨b, 1, none⟩ = some (.slice (some ⟨s, 0, none⟩) d.kept.length d.kept.length) := by rw [hi.1.cell]; rfl
  have hrange := hbox.whole
  have hthere : w1.there s (i * 128) 128 := hi.2.2.1.there _ _ (by rw [rows_length _ hg1.s128, hg1.seen]; show i * 128 + 128 ≤ d.kept.length * 128; omega)
  have hu := Try.underlying33
  have hsz : (Try.prog.info? 33).map (·.size) = some (enc sl).length := by rw [isz33, enc_length, hs]
  have hone := enc_one sl
  have hlen : (enc sl).length = 128 := by rw [enc_length, hs]
  have hne := hi.ne
  have hbs : b ≠ s := hne.2.2.1
  have hws : w.heap.size ≠ s := fun e => by have := hlt s (by rw [hF]; exact .inr (.inr (.inl rfl))); omega
  have HI := hide hi
  clear hne
  have hbox' := hide hbox
  clear hi hbox
  go_region_held3 (fun w' => w'.cell? ⟨b, 1, none⟩ = some (.slice (some ⟨s, 0, none⟩) d.kept.length d.kept.length) ∧ w'.rangeAt w.heap.size 0 (enc sl) ∧ w'.there s (i * 128) 128) (first | go_keep_ranges | (go_split_ands; exact ⟨keep_cell (by assumption) hbs, World.rangeAt_setCells_apart (by assumption) _ _ _ (.inl hws), World.there_setCells (by assumption) _ _ _⟩)) (fail)
  generalize hw2 : w1.drew.setCells s (i * 128) (enc sl) = w2
  have HW2 := hide hw2
  clear hw2 c1 hrange hthere
  have o2 : Only (fun j => j = s) w1 w2 := by rw [← HW2.out]; exact Only.setCells (F := fun j => j = s) (.inr rfl) _ _ _ (Only.refl _ w1).drew
  have b2 : Blk w2 b 88 [.slice (some ⟨k, 0, none⟩) d.kept.length d.kept.length, .slice (some ⟨s, 0, none⟩) d.kept.length d.kept.length, wv, .int .i64 d.after.budget, .bool d.after.down] := o2.blk HI.out.1 hbs
  have s2 : Blk w2 s 33 (rows (d.seen.set i sl)) := by
    have := Blk.cells (enc sl) (i * 128) _ _ (show Blk w1.drew s _ _ from HI.out.2.2.1)
    rw [HW2.out] at this
    rwa [show rows d.after.seen = rows d.seen from rfl, rows_set d.seen i sl hG.s128 hs (by rw [hG.seen]; exact hb)] at this
  have c2 : w2.cell? ⟨b, 2, none⟩ = some wv := by rw [b2.cell]; rfl
  have c2a : ∀ o, (w2.alloc o).cell? ⟨b, 2, none⟩ = some wv := fun o => ((b2.alloc o).cell 2).trans rfl
  have r2 : Blk w2 w.heap.size 33 (enc sl) := o2.blk hbox'.out hws
  have l2 : (loadSlab ⟨w.heap.size, 0, none⟩).run Try.prog w2.drew = .ok (.agg (enc sl).toArray) w2.drew := loadSlab_run _ _ _ sl r2.whole hs
  obtain ⟨i91, hi91, hz0, hz1, hz2⟩ : ∃ i, Try.prog.info? 91 = some i ∧ (∃ z, i.zero = some z ∧ z.cells.size = 129) ∧ i.size = 129 ∧ i.bytes = 136 := chg_info
  obtain ⟨z91, hz91, hzs91⟩ := hz0
  have n4 := HI.out.ne.2.2.2.1
  have own2 : w2.ownsRow 0 91 129 wv d.written.length (wcells d.written) := o2.own HI.out.2.2.2.1 (fun g hg e => HI.out.ne.2.2.2.2.2 (e ▸ hg))
  clear hu hsz hone hlen
  go_wp2
  go_region_law ((refine step_append_lies _ (by rfl) _ _ _ (by rfl) 0 91 i91 z91 129 136 Try.underlying86 hi91 hz91 hz1 hz2 hzs91 (by omega) wv d.written.length (wcells d.written) (by rfl) ((own_drew own2).alloc _) ⟨w2.heap.size, 0, none⟩ 1 1 (Value.int .i64 (i : Int) :: enc sl) (by rfl) (by simp [enc_length, hs]) (World.news_of_block (heap_alloc_new w2.drew _)) (cons_one _ sl) (by omega) (by simp only [maxLen]; omega) (by omega) (Nat.zero_le _) (w2.heap.size + 1) (by simp) ?_; intro g cap w3 own3 hgrow hat hlt3; have o3 : Only (fun j => wv.ownBlock = some j) w2 w3 := (((Only.refl _ w2).drew).alloc _).grown hgrow (fun _ e => .inr e); have c3 : w3.cell? ⟨b, 2, none⟩ = some wv := ((o3.blk b2 n4).cell 2).trans rfl; have f3 : w3.frozen? ⟨b, 2, none⟩ = false := (o3.blk b2 n4).frozen 2))
  all_goals
    go_wp2
    go_ret
    exact write_fin w w1 w2 w3 b k s i g cap wv _ d sl _ hG hh hs hF ho1 HI.out o2 s2 own3 o3 hat hm

set_option maxHeartbeats 400000 in
theorem write_off (w : World) (b : Nat) (F : Nat → Prop) (d : Dev) (at_ : Int) (sl : Slb) (h : DevRep w b F d) (hh : d.has at_ = true) (hm : d.stops = true) :
    Calls Try.prog 16 #[.pointer (some ⟨b, 0, none⟩), .int .i64 at_, .agg (enc sl).toArray] w (DevPost w b F (d.write at_ sl).1 (.int .i64 (d.write at_ sl).2)) := by
  have hwr : (d.write at_ sl).1 = d.after ∧ (d.write at_ sl).2 = 132 := by simp [Dev.write, hh, hm]
  rw [hwr.1, hwr.2]
  clear hwr
  go_enter Try.func16, Try.ntmps16
  go_wp2_with (first
    | (go_at_call 48; refine (has_any _ b F d _ (h.alloc _)).mono ?_; rintro e w' ⟨rfl, rfl⟩)
    | (go_at_call 49; refine (may_any _ b F d (h.alloc _)).mono ?_; rintro e w1 ⟨rfl, hr1, ho1⟩))
  go_ret
  exact ⟨rfl, F, hr1, ((Only.refl F w).alloc _).trans ho1 (fun _ _ h => h), fun _ h => .inl h⟩
set_option maxHeartbeats 400000 in
theorem write_no (w : World) (b : Nat) (F : Nat → Prop) (d : Dev) (at_ : Int) (sl : Slb) (h : DevRep w b F d) (hh : d.has at_ = false) :
    Calls Try.prog 16 #[.pointer (some ⟨b, 0, none⟩), .int .i64 at_, .agg (enc sl).toArray] w (DevPost w b F (d.write at_ sl).1 (.int .i64 (d.write at_ sl).2)) := by
  have hwr : (d.write at_ sl).1 = d ∧ (d.write at_ sl).2 = 131 := by simp [Dev.write, hh]
  rw [hwr.1, hwr.2]
  clear hwr
  go_enter Try.func16, Try.ntmps16
  go_wp2_with (go_at_call 48; refine (has_any _ b F d _ (h.alloc _)).mono ?_; rintro e w' ⟨rfl, rfl⟩)
  go_ret
  exact ⟨rfl, F, h.alloc _, (Only.refl F w).alloc _, fun _ h => .inl h⟩
theorem write_any (w : World) (b : Nat) (F : Nat → Prop) (d : Dev) (at_ : Int) (sl : Slb) (h : DevRep w b F d) (hs : sl.length = 128) (hwl : d.written.length ≤ 1000000) :
    Calls Try.prog 16 #[.pointer (some ⟨b, 0, none⟩), .int .i64 at_, .agg (enc sl).toArray] w (DevPost w b F (d.write at_ sl).1 (.int .i64 (d.write at_ sl).2)) := by
  cases hh : d.has at_ with
  | false => exact write_no w b F d at_ sl h hh
  | true =>
    cases hm : d.stops with
    | true => exact write_off w b F d at_ sl h hh hm
    | false =>
      obtain ⟨i, rfl⟩ : ∃ i : Nat, at_ = i := by
        simp only [Dev.has, Bool.and_eq_true, decide_eq_true_eq] at hh
        exact ⟨at_.toNat, by omega⟩
      exact write_yes w b F d i sl h hs hwl hh hm
end Go.Proofs.Ytjipgimnhkliaaa
