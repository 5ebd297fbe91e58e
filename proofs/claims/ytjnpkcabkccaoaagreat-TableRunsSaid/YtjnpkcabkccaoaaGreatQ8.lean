/- Lemmas and walks for TableRuns, packed. -/
import Derived.Test.YtjnpkcabkccaoaaGreatQ6
set_option maxRecDepth 100000
set_option maxHeartbeats 16000000
namespace Go.Proofs.YtjnpkcabkccaoaaGreat
open Go.RowKit
section
attribute [local go_sem ↓] mkSlab_fold
attribute [local go_sem] mkSlab_run
def Dev.read (d : Dev) (at_ : Int) : Slb × Int := if d.has at_ then (d.seen[at_.toNat]?.getD zeroS, 0) else (zeroS, 131)
theorem isz33' (s : Slb) (hs : s.length = 128) : (Tryz.prog.info? 94).map (·.size) = some (enc s).length := by rw [isz33, enc_length, hs]

theorem read_no (w : World) (b : Nat) (F : Nat → Prop) (d : Dev) (at_ : Int) (h : DevRep w b F d) (hh : d.has at_ = false) :
  Calls Tryz.prog 82 #[.pointer (some ⟨b, 0, none⟩), .int .i64 at_] w fun e w' => e = .returned (.tuple #[.agg (enc (d.read at_).1).toArray, .int .i64 (d.read at_).2]) ∧ Below w.heap.size w w' := by
 have hr : d.read at_ = (zeroS, 131) := by simp [Dev.read, hh]
 rw [hr]
 have hI := hide (isz33' zeroS zeroS_length)
 have hu := hide Tryz.underlying94
 go_enter Tryz.func82, Tryz.ntmps82
 go_wp2_with (first
  | (go_at_call 115; refine (has_any _ b F d _ (h.alloc _)).mono ?_; rintro e w' ⟨rfl, rfl⟩)
  | (refine wpList_alloc_agg rfl 94 rfl (enc zeroS) zero33 ?_; simp only [pU])
  | (refine wpList_store_blk rfl 94 _ _ rfl w.heap.size 0 94 (enc zeroS) (enc zeroS) (by rfl) (by rfl) (Blk.new w _ _) (Nat.le_of_eq (Nat.zero_add _)) hI.out (enc_one _) ?_; intro w2 o2 z2 b2; simp only [Act.put]))
 rw [lay_all _ _ rfl] at b2
 refine bodyPost_ret (results_cell_tmp_blk rfl _ _ w.heap.size 94 _ _ (by rfl) b2 hu.out rfl hI.out) rfl ⟨rfl, ?_⟩
 exact ((Below.refl _ _).alloc (Nat.le_refl _) _).trans (o2.below (by simp) (fun i hi => by omega))
theorem read_yes (w : World) (b : Nat) (F : Nat → Prop) (d : Dev) (i : Nat) (h : DevRep w b F d) (hh : d.has i = true) :
  Calls Tryz.prog 82 #[.pointer (some ⟨b, 0, none⟩), .int .i64 i] w fun e w' => e = .returned (.tuple #[.agg (enc (d.read i).1).toArray, .int .i64 (d.read i).2]) ∧ Below w.heap.size w w' := by
 have hG := h.good
 have hb : i < d.kept.length := by simp only [Dev.has, Bool.and_eq_true, decide_eq_true_eq] at hh; omega
 have hbs : i < d.seen.length := by rw [hG.seen]; exact hb
 obtain ⟨sl, hsl⟩ : ∃ sl, d.seen[i]? = some sl := ⟨_, List.getElem?_eq_getElem hbs⟩
 have h128 : sl.length = 128 := hG.s128 sl (List.mem_of_getElem? hsl)
 have hr : d.read i = (sl, 0) := by simp [Dev.read, hh, hsl]
 rw [hr]
 have hI := hide (isz33' sl h128)
 have hu := hide Tryz.underlying94
 obtain ⟨k, s, wv, hi, _, hF⟩ := h.alloc (.cells (enc zeroS).toArray 94)
 have c1 : (w.alloc (.cells (enc zeroS).toArray 94)).cell? ⟨b, 1, none⟩ = some (.slice (some ⟨s, 0, none⟩) d.kept.length d.kept.length) := by rw [hi.1.cell]; rfl
 have hs := hi.2.2.1
 have HS := hide hs
 have i0 : (0 : Int) ≤ (i : Int) := by omega
 have i1 : (i : Int) < (d.kept.length : Int) := by omega
 clear hs hi hF hr
 go_enter Tryz.func82, Tryz.ntmps82
 go_wp2_with (first
  | (go_at_call 115; refine (has_any _ b F d _ (h.alloc _)).mono ?_; rintro e w' ⟨rfl, rfl⟩)
  | (refine wpList_alloc_agg rfl 94 rfl (enc zeroS) zero33 ?_; simp only [pU])
  | (refine wpList_load_blk rfl 94 _ rfl s (i * 128) 94 (rows d.seen) (enc sl) _ (by rfl) HS.out (rows_get d.seen i sl hG.s128 hsl) hu.out rfl hI.out ?_; simp only [pU])
  | (refine wpList_store_blk rfl 94 _ _ rfl w.heap.size 0 94 (enc zeroS) (enc sl) (by rfl) (by rfl) (Blk.new w _ _) (Nat.le_of_eq (by rw [enc_length, enc_length, h128, zeroS_length])) hI.out (enc_one _) ?_; intro w2 o2 z2 b2; simp only [Act.put]))
 rw [lay_all _ _ (by rw [enc_length, enc_length, h128, zeroS_length])] at b2
 refine bodyPost_ret (results_cell_tmp_blk rfl _ _ w.heap.size 94 _ _ (by rfl) b2 hu.out rfl hI.out) rfl ⟨rfl, ?_⟩
 exact ((Below.refl _ _).alloc (Nat.le_refl _) _).trans (o2.below (by simp) (fun i hi => by omega))
theorem read_any (w : World) (b : Nat) (F : Nat → Prop) (d : Dev) (at_ : Int) (h : DevRep w b F d) :
  Calls Tryz.prog 82 #[.pointer (some ⟨b, 0, none⟩), .int .i64 at_] w fun e w' => e = .returned (.tuple #[.agg (enc (d.read at_).1).toArray, .int .i64 (d.read at_).2]) ∧ Below w.heap.size w w' := by
 cases hh : d.has at_ with
 | false => exact read_no w b F d at_ h hh
 | true =>
  obtain ⟨i, rfl⟩ : ∃ i : Nat, at_ = i := by
   simp only [Dev.has, Bool.and_eq_true, decide_eq_true_eq] at hh
   exact ⟨at_.toNat, by omega⟩
  exact read_yes w b F d i h hh

def newN (n : Int) : Nat := (max 0 (min n 4096)).toNat
def newDev (n : Int) : Dev := { kept := List.replicate (newN n) zeroS, seen := List.replicate (newN n) zeroS, written := [], budget := -1, down := false }
theorem newDev_good (n : Int) : (newDev n).Good := by
 refine ⟨by simp [newDev], by simp [newDev, newN]; omega, ?_, ?_, by simp [newDev], by simp [newDev], by simp [newDev]⟩
 all_goals (intro s hs; rw [(List.mem_replicate.1 hs).2]; exact zeroS_length)
theorem rows_zero (n : Nat) : rows (List.replicate n zeroS) = List.replicate (n * 128) (.int .u8 0) := by
 induction n with
 | zero => simp [rows]
 | succ n ih =>
  rw [List.replicate_succ]
  have : rows (zeroS :: List.replicate n zeroS) = enc zeroS ++ rows (List.replicate n zeroS) := rfl
  rw [this, ih, show (n + 1) * 128 = 128 + n * 128 by omega, ← List.replicate_append_replicate]
  simp [enc, zeroS]
theorem make33 (n : Nat) (hn : n ≤ 4096) (w : World) : (Instr.makeSlice 69 (.int .i64 (n : Int)) (.int .i64 (n : Int))).run Tryz.prog w =
  .ok (.slice (some ⟨w.heap.size, 0, none⟩) n n) (w.alloc (.cells (rows (List.replicate n zeroS)).toArray 94)) := by
 have hx : (Tryz.prog.info? 94).map (fun i => (i.zero, i.size, i.bytes)) = some (some (.agg (List.replicate 128 (.int .u8 0)).toArray), 128, 128) := by kernel_rfl
 obtain ⟨i, hi, hz, hs, hby⟩ := info_parts hx
 have := run_make_rowN (P := Tryz.prog) 69 94 i _ Tryz.underlying69 hi hz .i64 .i64 n n (Nat.le_refl _) (by rw [hby]; omega) (by omega) w
 rw [this, hs, rows_zero, ← madeCells_replicate (.int .u8 0) 128 (n * 128) (by decide)]
 rfl
def big : Nat := 4096
def NewPost (w : World) (n : Int) (e : Ending) (w' : World) : Prop :=
 ∃ b F, e = .returned (.pointer (some ⟨b, 0, none⟩)) ∧ DevRep w' b F (newDev n) ∧ Below w.heap.size w w' ∧ ∀ i, F i → w.heap.size ≤ i
theorem new_fin (w : World) (n : Int) (m k s : Nat) (hm : newN n = m) (hks : k = w.heap.size ∧ s = w.heap.size + 1 ∨ s = w.heap.size ∧ k = w.heap.size + 1) :
  NewPost w n (.returned (.pointer (some ⟨w.heap.size + 2, 0, none⟩))) (((w.alloc (.cells (rows (List.replicate m zeroS)).toArray 94)).alloc (.cells (rows (List.replicate m zeroS)).toArray 94)).alloc
   (.cells [Value.slice (some ⟨k, 0, none⟩) m m, .slice (some ⟨s, 0, none⟩) m m, .slice none 0 0, .int .i64 (-1), .bool false].toArray 72)).drew := by
 subst hm
 have hl : (newDev n).kept.length = newN n := by simp [newDev]
 have b0 : Blk (((w.alloc (.cells (rows (List.replicate (newN n) zeroS)).toArray 94)).alloc (.cells (rows (List.replicate (newN n) zeroS)).toArray 94)).alloc
   (.cells [Value.slice (some ⟨k, 0, none⟩) (newN n) (newN n), .slice (some ⟨s, 0, none⟩) (newN n) (newN n), .slice none 0 0, .int .i64 (-1), .bool false].toArray 72)).drew w.heap.size 94 (rows (List.replicate (newN n) zeroS)) :=
  ((Blk.new w _ _).alloc _).alloc _
 have b1 : Blk (((w.alloc (.cells (rows (List.replicate (newN n) zeroS)).toArray 94)).alloc (.cells (rows (List.replicate (newN n) zeroS)).toArray 94)).alloc
   (.cells [Value.slice (some ⟨k, 0, none⟩) (newN n) (newN n), .slice (some ⟨s, 0, none⟩) (newN n) (newN n), .slice none 0 0, .int .i64 (-1), .bool false].toArray 72)).drew (w.heap.size + 1) 94 (rows (List.replicate (newN n) zeroS)) :=
  (Blk.new1 w _ _ _).alloc _
 have b2 : Blk (((w.alloc (.cells (rows (List.replicate (newN n) zeroS)).toArray 94)).alloc (.cells (rows (List.replicate (newN n) zeroS)).toArray 94)).alloc
   (.cells [Value.slice (some ⟨k, 0, none⟩) (newN n) (newN n), .slice (some ⟨s, 0, none⟩) (newN n) (newN n), .slice none 0 0, .int .i64 (-1), .bool false].toArray 72)).drew (w.heap.size + 2) 72
   [Value.slice (some ⟨k, 0, none⟩) (newN n) (newN n), .slice (some ⟨s, 0, none⟩) (newN n) (newN n), .slice none 0 0, .int .i64 (-1), .bool false] := by
  have := Blk.new1 (w.alloc (.cells (rows (List.replicate (newN n) zeroS)).toArray 94)) (.cells (rows (List.replicate (newN n) zeroS)).toArray 94) 72
   [Value.slice (some ⟨k, 0, none⟩) (newN n) (newN n), .slice (some ⟨s, 0, none⟩) (newN n) (newN n), .slice none 0 0, .int .i64 (-1), .bool false]
  rw [World.size_alloc] at this
  exact this
 refine ⟨_, _, rfl, repOf (k := k) (s := s) (wv := .slice none 0 0) ⟨?_, ?_, ?_, ?_, ?_⟩ (newDev_good n), ?_, ?_⟩
 ·rw [hl]; exact b2
 ·rcases hks with ⟨rfl, rfl⟩ | ⟨rfl, rfl⟩
  ·exact b0
  ·exact b1
 ·rcases hks with ⟨rfl, rfl⟩ | ⟨rfl, rfl⟩
  ·exact b1
  ·exact b0
 ·exact World.ownsRow_nil _ _ _ _
 ·omega
 ·exact ((((Below.refl _ _).alloc (Nat.le_refl _) _).alloc (by simp) _).alloc (by simp; omega) _).drew
 ·rintro i (h | h | h | h)
  ·omega
  ·rcases hks with h' | h' <;> omega
  ·rcases hks with h' | h' <;> omega
  ·simp [Value.ownBlock] at h
theorem new_mid (w : World) (m : Nat) (h0 : 0 < m) (h1 : m ≤ 4096) : Calls Tryz.prog 5 #[.int .i64 (m : Int)] w (NewPost w m) := by
 have hm := make33 m (by omega)
 have hN : Hid (newN (m : Int) = m) := by show _ = _; simp [newN]; omega
 go_enter Tryz.func5, Tryz.ntmps5
 go_wp2
 go_region_law (fail)
 all_goals
  go_wp2
  go_ret
  first
   | exact new_fin w m m w.heap.size (w.heap.size + 1) hN.out (by omega)
   | exact new_fin w m m (w.heap.size + 1) w.heap.size hN.out (by omega)
theorem new_low (w : World) (n : Int) (h0 : n ≤ 0) : Calls Tryz.prog 5 #[.int .i64 n] w (NewPost w n) := by
 have hm : ∀ w, (Instr.makeSlice 69 (.int .i64 0) (.int .i64 0)).run Tryz.prog w =
  .ok (.slice (some ⟨w.heap.size, 0, none⟩) 0 0) (w.alloc (.cells (rows (List.replicate 0 zeroS)).toArray 94)) := fun w => make33 0 (by omega) w
 have hN : Hid (newN n = 0) := by show _ = _; simp [newN]; omega
 go_enter Tryz.func5, Tryz.ntmps5
 go_wp2
 all_goals
  go_region_law (fail)
  all_goals
   go_wp2
   go_ret
   first
    | exact new_fin w n 0 w.heap.size (w.heap.size + 1) hN.out (by omega)
    | exact new_fin w n 0 (w.heap.size + 1) w.heap.size hN.out (by omega)
theorem new_high (w : World) (n : Int) (h0 : 4096 < n) : Calls Tryz.prog 5 #[.int .i64 n] w (NewPost w n) := by
 have hm : ∀ w, (Instr.makeSlice 69 (.int .i64 4096) (.int .i64 4096)).run Tryz.prog w =
  .ok (.slice (some ⟨w.heap.size, 0, none⟩) big big) (w.alloc (.cells (rows (List.replicate big zeroS)).toArray 94)) := fun w => make33 big (by decide) w
 have hN : Hid (newN n = big) := by show _ = _; simp [newN, big]; omega
 go_enter Tryz.func5, Tryz.ntmps5
 go_wp2
 all_goals
  go_region_law (fail)
  all_goals
   go_wp2
   go_ret
   first
    | exact new_fin w n big w.heap.size (w.heap.size + 1) hN.out (by omega)
    | exact new_fin w n big (w.heap.size + 1) w.heap.size hN.out (by omega)
theorem new_any (w : World) (n : Int) : Calls Tryz.prog 5 #[.int .i64 n] w (NewPost w n) := by
 by_cases h0 : n ≤ 0
 ·exact new_low w n h0
 ·by_cases h1 : 4096 < n
  ·exact new_high w n h1
  ·obtain ⟨m, rfl⟩ : ∃ m : Nat, n = m := ⟨n.toNat, by omega⟩
   exact new_mid w m (by omega) (by omega)
end
def over (l : List Slb) (ws : List (Nat × Slb)) : List Slb := ws.foldl (fun l p => l.set p.1 p.2) l
theorem over_length (l : List Slb) (ws : List (Nat × Slb)) : (over l ws).length = l.length := by
 unfold over
 induction ws generalizing l with
 | nil => rfl
 | cons p ws ih => rw [List.foldl_cons, ih]; simp
theorem over_128 (l : List Slb) (ws : List (Nat × Slb)) (h : ∀ s ∈ l, s.length = 128) (hw : ∀ p ∈ ws, p.2.length = 128) : ∀ s ∈ over l ws, s.length = 128 := by
 unfold over
 induction ws generalizing l with
 | nil => exact h
 | cons p ws ih =>
  rw [List.foldl_cons]
  refine ih _ (fun s hs => ?_) (fun q hq => hw q (by simp [hq]))
  rcases List.mem_or_eq_of_mem_set hs with h1 | h1
  ·exact h s h1
  ·subst h1; exact hw p (by simp)
theorem over_snoc (l : List Slb) (ws : List (Nat × Slb)) (p : Nat × Slb) : over l (ws ++ [p]) = (over l ws).set p.1 p.2 := by simp [over, List.foldl_append]
theorem over_take_succ (l : List Slb) (ws : List (Nat × Slb)) (j : Nat) (p : Nat × Slb) (h : ws[j]? = some p) : over l (ws.take (j + 1)) = (over l (ws.take j)).set p.1 p.2 := by
 have hj : j < ws.length := (List.getElem?_eq_some_iff.1 h).1
 have : ws.take (j + 1) = ws.take j ++ [p] := by
  rw [List.take_succ_eq_append_getElem hj]
  congr 2
  rw [List.getElem?_eq_getElem hj] at h
  exact Option.some.inj h
 rw [this, over_snoc]
theorem wcells_get : ∀ (ws : List (Nat × Slb)) (k : Nat) (p : Nat × Slb), (∀ p ∈ ws, p.2.length = 128) → ws[k]? = some p → ∀ (j : Nat) (v : Value), (Value.int .i64 (p.1 : Int) :: enc p.2)[j]? = some v → (wcells ws)[k * 129 + j]? = some v
 | [], _, _, _, h => by simp at h
 | q :: ws, 0, p, _, h => by
  intro j v hv
  simp at h; subst h
  have : wcells (q :: ws) = (Value.int .i64 (q.1 : Int) :: enc q.2) ++ wcells ws := rfl
  rw [this, Nat.zero_mul, Nat.zero_add, List.getElem?_append_left (List.getElem?_eq_some_iff.1 hv).1, hv]
 | q :: ws, k + 1, p, h128, h => by
  intro j v hv
  have h1 := h128 q (by simp)
  have : wcells (q :: ws) = (Value.int .i64 (q.1 : Int) :: enc q.2) ++ wcells ws := rfl
  have hl : (Value.int .i64 (q.1 : Int) :: enc q.2).length = 129 := by rw [List.length_cons, enc_length, h1]
  rw [this, List.getElem?_append_right (by rw [hl]; omega), hl]
  rw [show (k + 1) * 129 + j - 129 = k * 129 + j by omega]
  exact wcells_get ws k p (fun t ht => h128 t (by simp [ht])) (by simpa using h) j v hv

def Dev.sync (d : Dev) : Dev × Int := if d.stops then (d.after, 132) else ({ d.after with kept := over d.kept d.written, written := [] }, 0)

theorem own_cases {w : World} {base : Nat} {e : TypeId} {size : Nat} {v : Value} {n : Nat} {xs : List Value} (h : w.ownsRow base e size v n xs) :
  ∃ (A : Option Addr) (c : Nat), v = .slice A n c ∧ (0 < n → ∃ g : Nat, A = some ⟨g, 0, none⟩ ∧ ∃ cs : List Value, Blk w g e cs ∧ ∀ (j : Nat) (u : Value), xs[j]? = some u → cs[j]? = some u) := by
 rcases h.2 with ⟨rfl, rfl⟩ | ⟨g, cap, cur, rfl, _, hh, _, _, _, htake⟩
 ·exact ⟨none, 0, rfl, fun h => absurd h (by omega)⟩
 ·refine ⟨some ⟨g, 0, none⟩, cap, rfl, fun _ => ⟨g, rfl, cur.toList, by simpa [Blk] using hh, fun j u hu => ?_⟩⟩
  rw [← htake] at hu
  obtain ⟨hj, rfl⟩ := List.getElem?_eq_some_iff.1 hu
  simp only [List.length_take] at hj
  rw [List.getElem_take]
  exact List.getElem?_eq_getElem (by omega)

theorem zero91 : (Tryz.prog.info? 96).map (·.zero) = some (some (.agg (Value.int .i64 0 :: enc zeroS).toArray)) := by kernel_rfl
theorem chg_length (n : Int) (s : Slb) (h : s.length = 128) : (Value.int .i64 n :: enc s).length = 129 := by rw [List.length_cons, enc_length, h]
theorem isz91' (n : Int) (s : Slb) (h : s.length = 128) : (Tryz.prog.info? 96).map (·.size) = some (Value.int .i64 n :: enc s).length := by rw [isz91, chg_length n s h]

theorem DevIn.lay {w w' : World} {b k s : Nat} {wv : Value} {d : Dev} (hi : DevIn w b k s wv d) (ho : Only (fun i => i = k) w w') (kept' : List Slb) (hl : kept'.length = d.kept.length) (hb : Blk w' k 94 (rows kept')) :
  DevIn w' b k s wv { d with kept := kept' } := by
 have hn := hi.ne
 refine ⟨?_, hb, ho.blk hi.2.2.1 (Ne.symm hn.1), ho.own hi.2.2.2.1 (fun g e hg => hn.2.2.2.2.1 (hg ▸ e)), hi.2.2.2.2⟩
 have := ho.blk hi.1 hn.2.1
 simpa [hl] using this
theorem DevIn.keep1 {w w' : World} {b k s : Nat} {wv : Value} {d : Dev} (hi : DevIn w b k s wv d) {H : Nat} (ho : Only (fun i => i = H) w w') (hH : w.heap.size ≤ H) : DevIn w' b k s wv d :=
 hi.keep ho (fun i h e => by have := hi.lt i h; omega)

theorem Dev.Good.synced {d : Dev} (h : d.Good) : ({ d with kept := over d.kept d.written, written := [] } : Dev).Good :=
 ⟨by rw [over_length]; exact h.seen, by rw [over_length]; exact h.few, over_128 _ _ h.k128 (fun q hq => (h.wat q hq).2), h.s128, fun p hp => by simp at hp, h.lo, h.hi⟩
theorem DevIn.keep1' {w0 w w' : World} {b k s : Nat} {wv : Value} {d d0 : Dev} (hi : DevIn w b k s wv d) {H : Nat} (ho : Only (fun i => i = H) w w') (h0 : DevIn w0 b k s wv d0) (hH : w0.heap.size ≤ H := by exact Nat.le_refl _) : DevIn w' b k s wv d :=
 hi.keep ho (fun i h e => by have := h0.lt i h; omega)
theorem sync_yes (w : World) (b : Nat) (F : Nat → Prop) (d : Dev) (h : DevRep w b F d) (hwl : d.written.length ≤ 1000000) (hm : d.stops = false) :
  Calls Tryz.prog 52 #[.pointer (some ⟨b, 0, none⟩)] w (DevPost w b F d.sync.1 (.int .i64 d.sync.2)) := by
 have hlt := h.lt
 have hG := h.good
 have HS : Hid (d.sync = ({ d.after with kept := over d.kept d.written, written := [] }, 0)) := by show _ = _; simp [Dev.sync, hm]
 go_enter Tryz.func52, Tryz.ntmps52
 go_wp2_with (go_at_call 88; refine (may_any _ b F d h).mono ?_; rintro e w1 ⟨rfl, hr1, ho1⟩; obtain ⟨k, s, wv, hi, hg1, rfl⟩ := hr1; obtain ⟨A, c, hA, hrow⟩ := own_cases hi.2.2.2.1; subst hA; have c2 : w1.cell? ⟨b, 2, none⟩ = some (.slice A d.after.written.length c) := (hi.1.cell 2).trans rfl; have HI := hide hi; clear hi)
 have hwn : d.after.written.length = d.written.length := rfl
 have HWN := hide hwn
 have hwl' : d.after.written.length ≤ 1000000 := hwl
 clear hwn
 go_loopw [13] (fun i wr => ∃ j : Nat, j ≤ d.after.written.length ∧ i = .int .i64 j ∧ DevIn wr b k s (.slice A d.after.written.length c) { d.after with kept := over d.kept (d.written.take j) } ∧ Only (fun x => x = k) w1 wr) (fun i _ => d.after.written.length - (intOf i).toNat)
 case atStart => exact ⟨0, by omega, rfl, HI.out, Only.refl _ _⟩
 case round =>
  obtain ⟨j, hj, rfl, hi, ho⟩ := hrel
  by_cases hlt : j < d.after.written.length
  ·obtain ⟨g, hAg, cs, hcs, hget⟩ := hrow (by omega)
   obtain ⟨p, hp⟩ : ∃ p, d.written[j]? = some p := ⟨_, List.getElem?_eq_getElem hlt⟩
   have hpw := hG.wat p (List.mem_of_getElem? hp)
   subst hAg
   obtain ⟨at_, sl⟩ := p
   simp only at hpw
   have hgk : ¬ g = k := by
    have := HI.out.ne.2.2.2.2.1
    intro e; exact this (by simp [Value.ownBlock, e])
   have hcr : Blk wr g 96 cs := ho.blk hcs hgk
   have hget' : ∀ (i : Nat) (v : Value), (Value.int .i64 (at_ : Int) :: enc sl)[i]? = some v → cs[j * 129 + i]? = some v :=
    fun i v hv => hget _ _ (wcells_get d.written j (at_, sl) (fun q hq => (hG.wat q hq).2) hp i v hv)
   have I91 := hide (isz91' at_ sl hpw.2)
   have I33 := hide (isz33' sl hpw.2)
   have u91 := hide Tryz.underlying96
   have j0 : (0 : Int) ≤ (j : Int) := by omega
   have j1 : (j : Int) < (d.after.written.length : Int) := by omega
   have HR := hide hi
   have HC := hide hcr
   have HO := hide ho
   have HP := hide hp
   clear hi hcr ho hcs hget hrow c2 hp
   go_wp2_with (first
    | (refine wpList_load_blk rfl 96 _ rfl g (j * 129) 96 cs (Value.int .i64 (at_ : Int) :: enc sl) _ (by rfl) HC.out hget' u91.out rfl I91.out ?_; simp only [pU])
    | (refine wpList_alloc_agg rfl 96 rfl (Value.int .i64 0 :: enc zeroS) zero91 ?_; simp only [pU])
    | (refine wpList_store_blk rfl 96 _ _ rfl wr.heap.size 0 96 (Value.int .i64 0 :: enc zeroS) (Value.int .i64 (at_ : Int) :: enc sl) (by rfl) (by rfl) (Blk.new wr _ _) (Nat.le_of_eq (by rw [chg_length _ _ hpw.2, chg_length _ _ zeroS_length])) I91.out (cons_one _ _) ?_; intro w2 o2 z2 b2; simp only [Act.put]))
   rw [lay_all _ _ (by rw [chg_length _ _ hpw.2, chg_length _ _ zeroS_length])] at b2
   have hi2 : DevIn w2 b k s (.slice (some ⟨g, 0, none⟩) d.after.written.length c) { d.after with kept := over d.kept (d.written.take j) } :=
    (HR.out.keep1 ((Only.refl (fun i => i = wr.heap.size) wr).alloc _) (Nat.le_refl _)).keep1' o2 HR.out
   have hk128 : ∀ t ∈ over d.kept (d.written.take j), t.length = 128 := over_128 _ _ hG.k128 (fun q hq => (hG.wat q (List.mem_of_mem_take hq)).2)
   have hlen : (over d.kept (d.written.take j)).length = d.kept.length := over_length _ _
   have c0 : w2.cell? ⟨b, 0, none⟩ = some (.slice (some ⟨k, 0, none⟩) d.kept.length d.kept.length) := by rw [hi2.1.cell]; simp [hlen]
   have cH : w2.cell? ⟨wr.heap.size, 0, none⟩ = some (.int .i64 (at_ : Int)) := by rw [b2.cell]; rfl
   have rH : w2.rangeAt wr.heap.size 1 (enc sl) := b2.range 1 _ (fun i v hv => by rw [Nat.add_comm, List.getElem?_cons_succ]; exact hv)
   have tK : w2.there k (at_ * 128) 128 := hi2.2.1.there _ _ (by show _ ≤ (rows (over d.kept (d.written.take j))).length; rw [rows_length _ hk128, hlen]; omega)
   have hbk : b ≠ k := hi2.ne.2.1
   have hHk : wr.heap.size ≠ k := fun e => by have := HR.out.lt k (.inr (.inl rfl)); omega
   have i0 : (0 : Int) ≤ (at_ : Int) := by omega
   have i1 : (at_ : Int) < (d.kept.length : Int) := by omega
   have hu := Tryz.underlying94
   have hsz := I33.out
   have hone := enc_one sl
   have hlen2 : (enc sl).length = 128 := by rw [enc_length, hpw.2]
   have H2 := hide hi2
   have B2 := hide b2
   clear hi2 b2 hlen hk128
   go_region_held3 (fun w' => w'.cell? ⟨b, 0, none⟩ = some (.slice (some ⟨k, 0, none⟩) d.kept.length d.kept.length) ∧ w'.cell? ⟨wr.heap.size, 0, none⟩ = some (.int .i64 (at_ : Int)) ∧ w'.rangeAt wr.heap.size 1 (enc sl) ∧ w'.there k (at_ * 128) 128)
    (first | go_keep_ranges | (go_split_ands; exact ⟨keep_cell (by assumption) hbk, keep_cell (by assumption) hHk, World.rangeAt_setCells_apart (by assumption) _ _ _ (.inl hHk), World.there_setCells (by assumption) _ _ _⟩)) (fail)
   clear hu hsz hone hlen2 c0 cH rH tK
   go_wp2
   go_roundw
   case rel =>
    have hk128 : ∀ t ∈ over d.kept (d.written.take j), t.length = 128 := over_128 _ _ hG.k128 (fun q hq => (hG.wat q (List.mem_of_mem_take hq)).2)
    have oS : Only (fun i => i = k) w2 (w2.drew.setCells k (at_ * 128) (enc sl)) := Only.setCells (F := fun i => i = k) (.inr rfl) _ _ _ (Only.refl _ w2).drew
    have bS : Blk (w2.drew.setCells k (at_ * 128) (enc sl)) k 94 (rows (over d.kept (d.written.take (j + 1)))) := by
     have := Blk.cells (enc sl) (at_ * 128) w2.drew _ (show Blk w2.drew k _ _ from H2.out.2.1)
     rw [show (({ d.after with kept := over d.kept (d.written.take j) } : Dev)).kept = over d.kept (d.written.take j) from rfl,
      rows_set _ at_ sl hk128 hpw.2 (by rw [over_length]; exact hpw.1)] at this
     rw [over_take_succ _ _ _ _ HP.out]
     exact this
    refine ⟨j + 1, by omega, by go_num, ?_, ?_⟩
    ·exact H2.out.lay oS _ (by rw [over_length]; exact (over_length _ _).symm) bS
    ·have o1 : Only (fun x => x = k) w1 w2 := HO.out.trans ((((Only.refl (fun i => i = wr.heap.size) wr).alloc _).trans o2 (fun _ _ h => h))) (fun i hi e => by have := HO.out.size; omega)
     exact o1.trans oS (fun _ _ h => h)
   case measure => simp [intOf]; omega
  ·have hj' : j = d.after.written.length := by omega
   have c2' : wr.cell? ⟨b, 2, none⟩ = some (.slice A d.after.written.length c) := by rw [hi.1.cell]; rfl
   have f2 := hi.1.frozen 2
   have HR := hide hi
   clear hi hrow c2
   go_wp2
   go_ret
   have hi := HR.out
   have ho1' := ho1.trans ho (fun i _ e => .inr (.inl e))
   have oL : Only (fun i => i = b) wr (wr.setCell ⟨b, 2, none⟩ (.slice none 0 0)) := (Only.refl (fun i => i = b) wr).setCell (p := ⟨b, 2, none⟩) (.inr rfl) _
   have hn := hi.ne
   have htk : d.written.take j = d.written := by rw [hj']; exact List.take_length
   refine ⟨by rw [HS.out]; rfl, fun i => i = b ∨ i = k ∨ i = s ∨ Value.ownBlock (.slice none 0 0) = some i, ⟨k, s, _, ?_, ?_, rfl⟩, ho1'.trans oL (fun i _ e => .inl e), ?_⟩
   ·rw [HS.out]
    rw [htk] at hi
    refine ⟨?_, oL.blk hi.2.1 (Ne.symm hn.2.1), oL.blk hi.2.2.1 (Ne.symm hn.2.2.1), World.ownsRow_nil _ _ _ _, hi.2.2.2.2⟩
    exact hi.1.set_ 2 _
   ·rw [HS.out]
    exact hG.after.synced
   ·rintro i (rfl | rfl | rfl | h)
    ·left; exact .inl rfl
    ·left; exact .inr (.inl rfl)
    ·left; exact .inr (.inr (.inl rfl))
    ·simp [Value.ownBlock] at h
theorem sync_any (w : World) (b : Nat) (F : Nat → Prop) (d : Dev) (h : DevRep w b F d) (hwl : d.written.length ≤ 1000000) :
  Calls Tryz.prog 52 #[.pointer (some ⟨b, 0, none⟩)] w (DevPost w b F d.sync.1 (.int .i64 d.sync.2)) := by
 cases hm : d.stops with
 | false => exact sync_yes w b F d h hwl hm
 | true =>
  have HS : d.sync = (d.after, 132) := by simp [Dev.sync, hm]
  rw [HS]
  clear HS
  go_enter Tryz.func52, Tryz.ntmps52
  go_wp2_with (go_at_call 88; refine (may_any _ b F d h).mono ?_; rintro e w1 ⟨rfl, hr1, ho1⟩)
  go_ret
  exact ⟨rfl, F, hr1, ho1, fun _ h => .inl h⟩
end Go.Proofs.YtjnpkcabkccaoaaGreat
