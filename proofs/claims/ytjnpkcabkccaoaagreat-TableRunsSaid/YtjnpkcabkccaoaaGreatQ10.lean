/- Lemmas and walks for TableRuns, packed. -/
import Derived.Test.YtjnpkcabkccaoaaGreatQ8
set_option maxRecDepth 100000
set_option maxHeartbeats 16000000
namespace Go.Proofs.YtjnpkcabkccaoaaGreat
open Go.RowKit
def tear (sl old : Slb) (n : Int) : Slb := sl.take (min n 128).toNat ++ old.drop (min n 128).toNat
def lossy (l : List Slb) (ws : List (Nat × Slb)) (bs : List Int) : Nat → List Slb
 | 0 => l
 | j + 1 => match ws[j]?, bs[j]? with
  | some p, some n => (lossy l ws bs j).set p.1 (tear p.2 ((lossy l ws bs j)[p.1]?.getD []) n)
  | _, _ => lossy l ws bs j
def back (seen kept : List Slb) (ws : List (Nat × Slb)) : Nat → List Slb
 | 0 => seen
 | j + 1 => match ws[j]? with
  | some p => (back seen kept ws j).set p.1 (kept[p.1]?.getD [])
  | none => back seen kept ws j
def Dev.restart (d : Dev) (bs : List Int) : Dev :=
 { kept := lossy d.kept d.written bs d.written.length, seen := back d.seen (lossy d.kept d.written bs d.written.length) d.written d.written.length, written := [], budget := -1, down := false }
theorem lossy_length (l : List Slb) (ws : List (Nat × Slb)) (bs : List Int) (j : Nat) : (lossy l ws bs j).length = l.length := by
 induction j with
 | zero => rfl
 | succ j ih => unfold lossy; split <;> simp [ih]
theorem back_length (l k : List Slb) (ws : List (Nat × Slb)) (j : Nat) : (back l k ws j).length = l.length := by
 induction j with
 | zero => rfl
 | succ j ih => unfold back; split <;> simp [ih]
theorem tear_length (sl old : Slb) (n : Int) (h1 : sl.length = 128) (h2 : old.length = 128) : (tear sl old n).length = 128 := by
 simp [tear, h1, h2]; omega
theorem lossy_128 (l : List Slb) (ws : List (Nat × Slb)) (bs : List Int) (h : ∀ s ∈ l, s.length = 128) (hw : ∀ p ∈ ws, p.1 < l.length ∧ p.2.length = 128) (j : Nat) : ∀ s ∈ lossy l ws bs j, s.length = 128 := by
 induction j with
 | zero => exact h
 | succ j ih =>
  unfold lossy
  split
  ·rename_i p n hp hn
   intro s hs
   rcases List.mem_or_eq_of_mem_set hs with h1 | h1
   ·exact ih s h1
   ·subst h1
    have h2 := hw p (List.mem_of_getElem? hp)
    refine tear_length _ _ _ h2.2 ?_
    have hl : p.1 < (lossy l ws bs j).length := by rw [lossy_length]; exact h2.1
    rw [List.getElem?_eq_getElem hl]
    exact ih _ (List.getElem_mem hl)
  ·exact ih
theorem back_128 (l k : List Slb) (ws : List (Nat × Slb)) (h : ∀ s ∈ l, s.length = 128) (hk : ∀ s ∈ k, s.length = 128) (hw : ∀ p ∈ ws, p.1 < k.length) (j : Nat) : ∀ s ∈ back l k ws j, s.length = 128 := by
 induction j with
 | zero => exact h
 | succ j ih =>
  unfold back
  split
  ·rename_i p hp
   intro s hs
   rcases List.mem_or_eq_of_mem_set hs with h1 | h1
   ·exact ih s h1
   ·subst h1
    have hl := hw p (List.mem_of_getElem? hp)
    rw [List.getElem?_eq_getElem hl]
    exact hk _ (List.getElem_mem hl)
  ·exact ih
theorem Dev.Good.restart {d : Dev} (h : d.Good) (bs : List Int) : (d.restart bs).Good := by
 have hk := lossy_128 d.kept d.written bs h.k128 h.wat d.written.length
 have hkl := lossy_length d.kept d.written bs d.written.length
 refine ⟨by simp only [Dev.restart]; rw [back_length, hkl]; exact h.seen, by simp only [Dev.restart]; rw [hkl]; exact h.few, hk, ?_, fun p hp => by simp [Dev.restart] at hp, by simp [Dev.restart], by simp [Dev.restart]⟩
 exact back_128 _ _ _ h.s128 hk (fun p hp => by rw [hkl]; exact (h.wat p hp).1) _
theorem tear_lay (l : List Slb) (at_ : Nat) (sl : Slb) (n : Int) (h128 : ∀ s ∈ l, s.length = 128) (hs : sl.length = 128) (hk : at_ < l.length) :
  Go.Proofs.YtjnpkcabkccaoaaGreat.lay (rows l) (at_ * 128) (enc (sl.take (min n 128).toNat)) = rows (l.set at_ (tear sl (l[at_]?.getD []) n)) := by
 have hl := rows_length l h128
 have hold : (l[at_]?.getD []).length = 128 := by rw [List.getElem?_eq_getElem hk]; exact h128 _ (List.getElem_mem hk)
 rw [← rows_set l at_ _ h128 (tear_length _ _ n hs hold) hk]
 have hml : (tear sl (l[at_]?.getD []) n).length = 128 := tear_length _ _ n hs hold
 refine List.ext_getElem? fun j => ?_
 rw [lay_get _ _ _ _ (by rw [hl, enc_length, List.length_take, hs]; omega), lay_get _ _ _ _ (by rw [hl, enc_length, hml]; omega)]
 simp only [enc_length, List.length_take, hs, hml]
 by_cases h1 : at_ * 128 ≤ j ∧ j < at_ * 128 + 128
 ·rw [if_pos h1]
  by_cases h2 : j < at_ * 128 + min (min n 128).toNat 128
  ·rw [if_pos ⟨h1.1, h2⟩]
   simp only [enc, tear, List.getElem?_map]
   rw [List.getElem?_append_left (by simp; omega)]
  ·rw [if_neg (by omega)]
   simp only [enc, tear, List.getElem?_map]
   rw [List.getElem?_append_right (by simp; omega), List.getElem?_drop]
   have e : (min n 128).toNat + (j - at_ * 128 - (sl.take (min n 128).toNat).length) = j - at_ * 128 := by simp; omega
   rw [e]
   have hj : j - at_ * 128 < (l[at_]?.getD []).length := by rw [hold]; omega
   have hg := rows_get l at_ (l[at_]?.getD []) h128 (by rw [List.getElem?_eq_getElem hk]; rfl) (j - at_ * 128) (.int .u8 ((l[at_]?.getD [])[j - at_ * 128]))
    (by simp [enc, List.getElem?_eq_getElem hj])
   rw [show at_ * 128 + (j - at_ * 128) = j by omega] at hg
   rw [hg, List.getElem?_eq_getElem hj]
   rfl
 ·rw [if_neg h1, if_neg (by omega)]

theorem DevIn.lays {w w' : World} {b k s : Nat} {wv : Value} {d : Dev} (hi : DevIn w b k s wv d) (ho : Only (fun i => i = s) w w') (seen' : List Slb) (hb : Blk w' s 94 (rows seen')) :
  DevIn w' b k s wv { d with seen := seen' } := by
 have hn := hi.ne
 exact ⟨ho.blk hi.1 hn.2.2.1, ho.blk hi.2.1 hn.1, hb, ho.own hi.2.2.2.1 (fun g e hg => hn.2.2.2.2.2 (hg ▸ e)), hi.2.2.2.2⟩
theorem restart_fin (w w5 wr : World) (b k s : Nat) (A : Option Addr) (cw : Nat) (d : Dev) (bs : List Int) (L : List Slb) (hG : d.Good) (HL : lossy d.kept d.written bs d.written.length = L)
  (h1 : Only (fun x => x = k) w w5) (h2 : Only (fun x => x = s) w5 wr) (hi : DevIn wr b k s (.slice A d.written.length cw) { d with kept := L, seen := back d.seen L d.written d.written.length }) :
  DevPost w b (fun i => i = b ∨ i = k ∨ i = s ∨ Value.ownBlock (.slice A d.written.length cw) = some i) (d.restart bs) (.tuple #[]) (.returned (.tuple #[]))
   (((wr.setCell ⟨b, 2, none⟩ (.slice none 0 0)).setCell ⟨b, 3, none⟩ (.int .i64 (-1))).setCell ⟨b, 4, none⟩ (.bool false)) := by
 have hn := hi.ne
 have oL : Only (fun i => i = b) wr (((wr.setCell ⟨b, 2, none⟩ (.slice none 0 0)).setCell ⟨b, 3, none⟩ (.int .i64 (-1))).setCell ⟨b, 4, none⟩ (.bool false)) :=
  (((Only.refl (fun i => i = b) wr).setCell (p := ⟨b, 2, none⟩) (.inr rfl) _).setCell (p := ⟨b, 3, none⟩) (.inr rfl) _).setCell (p := ⟨b, 4, none⟩) (.inr rfl) _
 have hr : d.restart bs = { kept := L, seen := back d.seen L d.written d.written.length, written := [], budget := -1, down := false } := by simp [Dev.restart, HL]
 refine ⟨rfl, fun i => i = b ∨ i = k ∨ i = s ∨ Value.ownBlock (.slice none 0 0) = some i, ⟨k, s, _, ?_, hG.restart bs, rfl⟩, ?_, ?_⟩
 ·rw [hr]
  refine ⟨?_, oL.blk hi.2.1 (Ne.symm hn.2.1), oL.blk hi.2.2.1 (Ne.symm hn.2.2.1), World.ownsRow_nil _ _ _ _, hi.2.2.2.2⟩
  exact ((hi.1.set_ 2 _).set_ 3 _).set_ 4 _
 ·have h3 := (h1.mono (G := fun i => i = b ∨ i = k ∨ i = s ∨ Value.ownBlock (.slice A d.written.length cw) = some i) (fun i _ h => .inr (.inl h))).trans h2 (fun i _ h => .inr (.inr (.inl h)))
  exact h3.trans oL (fun i _ h => .inl h)
 ·rintro i (rfl | rfl | rfl | h)
  ·left; exact .inl rfl
  ·left; exact .inr (.inl rfl)
  ·left; exact .inr (.inr (.inl rfl))
  ·simp [Value.ownBlock] at h
theorem iszByte : (Tryz.prog.info? 5).map (·.size) = some 1 := by kernel_rfl
theorem restart_any (w : World) (b : Nat) (F : Nat → Prop) (d : Dev) (B : Option Addr) (m c : Nat) (bs : List Int) (h : DevRep w b F d) (hwl : d.written.length ≤ 1000000) (hB : Bys w B m bs) (hap : Apart B m F) (hm : m ≤ 1000000) :
  Calls Tryz.prog 14 #[.pointer (some ⟨b, 0, none⟩), .slice B m c] w (DevPost w b F (d.restart bs) (.tuple #[])) := by
 have hlt := h.lt
 have hG := h.good
 obtain ⟨k, s, wv, hi, _, rfl⟩ := h
 obtain ⟨A, cw, rfl, hrow⟩ := own_cases hi.2.2.2.1
 have c2 : w.cell? ⟨b, 2, none⟩ = some (.slice A d.written.length cw) := (hi.1.cell 2).trans rfl
 have HI := hide hi
 clear hi
 go_enter Tryz.func14, Tryz.ntmps14
 go_wp2
 go_loopw [14] (fun i wr => ∃ j : Nat, j ≤ d.written.length ∧ i = .int .i64 j ∧ DevIn wr b k s (.slice A d.written.length cw) { d with kept := lossy d.kept d.written bs j } ∧ Only (fun x => x = k) w wr) (fun i _ => d.written.length - (intOf i).toNat)
 case atStart => exact ⟨0, by omega, rfl, HI.out, Only.refl _ _⟩
 case round =>
  obtain ⟨j, hj, rfl, hi, ho⟩ := hrel
  by_cases hlt : j < d.written.length
  ·obtain ⟨g, hAg, cs, hcs, hget⟩ := hrow (by omega)
   obtain ⟨p, hp⟩ : ∃ p, d.written[j]? = some p := ⟨_, List.getElem?_eq_getElem hlt⟩
   have hpw := hG.wat p (List.mem_of_getElem? hp)
   subst hAg
   obtain ⟨at_, sl⟩ := p
   simp only at hpw
   have hgk : ¬ g = k := by
    have := HI.out.ne.2.2.2.2.1
    intro e; exact this (by simp [Value.ownBlock, e])
   have hcr : Blk wr g 96 cs := ho.blk hcs hgk
   have hget' : ∀ (i : Nat) (v : Value), (Value.int .i64 (at_ : Int) :: enc sl)[i]? = some v → cs[j * 129 + i]? = some v :=
    fun i v hv => hget _ _ (wcells_get d.written j (at_, sl) (fun q hq => (hG.wat q hq).2) hp i v hv)
   have I91 := hide (isz91' at_ sl hpw.2)
   have u91 := hide Tryz.underlying96
   have j0 : (0 : Int) ≤ (j : Int) := by omega
   have j1 : (j : Int) < (d.written.length : Int) := by omega
   have hBr : Bys wr B m bs := hB.keep ho (fun hm0 ad e he => hap hm0 ad e (.inr (.inl he)))
   have HR := hide hi
   have HC := hide hcr
   have HO := hide ho
   have HP := hide hp
   have HBr := hide hBr
   clear hi hcr ho hcs hget hrow c2 hp hBr
   by_cases hk : j < m
   ·obtain ⟨n, hn⟩ : ∃ n, bs[j]? = some n := ⟨_, List.getElem?_eq_getElem (by rw [hB.1]; exact hk)⟩
    have hn2 := hB.2.1 n (List.mem_of_getElem? hn)
    obtain ⟨bB, oB, hBA, hBc⟩ := HBr.out.2.2 (by omega)
    subst hBA
    have cB := hBc j n hn
    have HN := hide hn
    clear hBc hn
    have hk128 := lossy_128 d.kept d.written bs hG.k128 hG.wat j
    have hkl := lossy_length d.kept d.written bs j
    have k0 : (j : Int) < (m : Int) := by omega
    have hbk : b ≠ k := HI.out.ne.2.1
    have hHk : wr.heap.size ≠ k := fun e => by have := HR.out.lt k (.inr (.inl rfl)); omega
    have i0 : (0 : Int) ≤ (at_ : Int) := by omega
    have i1 : (at_ : Int) < (d.kept.length : Int) := by omega
    obtain ⟨nn, rfl⟩ : ∃ nn : Nat, n = nn := ⟨n.toNat, by omega⟩
    have n0 : (0 : Int) ≤ (nn : Int) := by omega
    have n1 : (nn : Int) ≤ 255 := hn2.2
    clear hn2
    have cBk : ∀ w2, Only (fun i => i = wr.heap.size) (wr.alloc (.cells (Value.int .i64 0 :: enc zeroS).toArray 96)) w2 → w2.cell? ⟨bB, oB + j, none⟩ = some (.int .u8 (nn : Int)) := fun w2 o => by
     have hl : bB < wr.heap.size := World.block_lt_of_cell? wr _ cB
     have h1 : w2.cell? ⟨bB, oB + j, none⟩ = (wr.alloc (.cells (Value.int .i64 0 :: enc zeroS).toArray 96)).cell? ⟨bB, oB + j, none⟩ := World.cell?_of_block (o.block bB (by rw [World.size_alloc]; omega) (by omega))
     rw [h1, World.cell?_alloc_lt _ _ _ (World.block_lt_of_cell? wr _ cB)]
     exact cB
    have HK := hide cBk
    clear cBk
    go_wp2_with (first
    | (refine wpList_load_blk rfl 96 _ rfl g (j * 129) 96 cs (Value.int .i64 (at_ : Int) :: enc sl) _ (by rfl) HC.out hget' u91.out rfl I91.out ?_; simp only [pU])
    | (refine wpList_alloc_agg rfl 96 rfl (Value.int .i64 0 :: enc zeroS) zero91 ?_; simp only [pU])
    | (refine wpList_store_blk rfl 96 _ _ rfl wr.heap.size 0 96 (Value.int .i64 0 :: enc zeroS) (Value.int .i64 (at_ : Int) :: enc sl) (by rfl) (by rfl) (Blk.new wr _ _) (Nat.le_of_eq (by rw [chg_length _ _ hpw.2, chg_length _ _ zeroS_length])) I91.out (cons_one _ _) ?_; intro w2 o2 z2 b2; simp only [Act.put]; have cB2 := HK.out _ o2))
    ·have hNn : (min (nn : Int) 128).toNat = 128 := by omega
     have HNn := hide hNn
     clear hNn
     rw [lay_all _ _ (by rw [chg_length _ _ hpw.2, chg_length _ _ zeroS_length])] at b2
     have hi2 : DevIn w2 b k s (.slice (some ⟨g, 0, none⟩) d.written.length cw) { d with kept := lossy d.kept d.written bs j } :=
      (HR.out.keep1 ((Only.refl (fun i => i = wr.heap.size) wr).alloc _) (Nat.le_refl _)).keep1' o2 HR.out
     have c0 : w2.cell? ⟨b, 0, none⟩ = some (.slice (some ⟨k, 0, none⟩) d.kept.length d.kept.length) := by rw [hi2.1.cell]; simp [hkl]
     have cH : w2.cell? ⟨wr.heap.size, 0, none⟩ = some (.int .i64 (at_ : Int)) := by rw [b2.cell]; rfl
     have rH : ∀ (i : Nat) (v : Value), (enc (sl.take 128))[i]? = some v → w2.cell? ((⟨wr.heap.size, 1, none⟩ : Addr).add i) = some v := by
      have := b2.range 1 (enc sl) (fun i v hv => by rw [Nat.add_comm, List.getElem?_cons_succ]; exact hv)
      intro i v hv
      rw [Addr.add_mid]
      refine this i v ?_
      have e : enc (sl.take 128) = (enc sl).take 128 := by simp [enc, List.map_take]
      rw [e, List.getElem?_take] at hv
      split at hv
      ·exact hv
      ·cases hv
     have hmid : lay (rows (lossy d.kept d.written bs j)) (at_ * 128) (enc (sl.take 128)) = rows (lossy d.kept d.written bs (j + 1)) := by
      have := tear_lay (lossy d.kept d.written bs j) at_ sl nn hk128 hpw.2 (by rw [hkl]; exact hpw.1)
      rw [HNn.out] at this
      rw [this]
      simp [lossy, HP.out, HN.out]
     have HM := hide hmid
     have HRH := hide rH
     have bK : Hid (Blk w2 k 94 (rows (lossy d.kept d.written bs j))) := hi2.2.1
     have hfit : Hid (at_ * 128 + (enc (sl.take 128)).length ≤ (rows (lossy d.kept d.written bs j)).length) := by
      show _ ≤ _
      rw [rows_length _ hk128, hkl, enc_length, List.length_take, hpw.2]; omega
     have hmin : Hid ((enc (sl.take 128)).length = Nat.min 128 128) := by
      have e1 : (enc (sl.take 128)).length = min 128 128 := by rw [enc_length, List.length_take, hpw.2]
      have e2 : min 128 128 = 128 := by omega
      exact e1.trans (e2.trans (Nat.min_self 128).symm)
     have H2 := hide hi2
     have B2 := hide b2
     clear hi2 b2 hkl hk128 hmid rH
     go_region_held3 (fun w' => w'.cell? ⟨b, 0, none⟩ = some (.slice (some ⟨k, 0, none⟩) d.kept.length d.kept.length) ∧ w'.cell? ⟨wr.heap.size, 0, none⟩ = some (.int .i64 (at_ : Int)))
      (first | exact ⟨c0, cH⟩ | (go_split_ands; exact ⟨(World.cell?_of_block (w := w2) (o3.block b H2.out.1.lt hbk)).trans (by assumption), (World.cell?_of_block (w := w2) (o3.block wr.heap.size B2.out.lt hHk)).trans (by assumption)⟩))
      ((refine step_copy_blk (by rfl) _ _ _ _ (by rfl) 5 Tryz.underlying23 iszByte k (at_ * 128) 128 128 ⟨wr.heap.size, 1, none⟩ 128 128 (by rfl) (by rfl) (rows (lossy d.kept d.written bs j)) 94 bK.out (enc (sl.take 128)) hmin.out HRH.out hfit.out (enc_one _) ?_; intro w3 o3 z3 b3; have o3' : Only (fun i => i = k) w2 w3 := ⟨o3.os, o3.tape, o3.output, o3.size, o3.block⟩))
     rw [HM.out] at b3
     go_wp2
     go_roundw
     case rel =>
      refine ⟨j + 1, by omega, by go_num, ?_, ?_⟩
      ·exact H2.out.lay o3' _ (by rw [lossy_length]; exact (lossy_length _ _ _ _).symm) b3
      ·have o1 : Only (fun x => x = k) w w2 := HO.out.trans ((((Only.refl (fun i => i = wr.heap.size) wr).alloc _).trans o2 (fun _ _ h => h))) (fun i hi e => by have := HO.out.size; omega)
       exact o1.trans o3' (fun _ _ h => h)
     case measure => simp [intOf]; omega
    ·have hNn : (min (nn : Int) 128).toNat = nn := by omega
     have HNn := hide hNn
     clear hNn
     rw [lay_all _ _ (by rw [chg_length _ _ hpw.2, chg_length _ _ zeroS_length])] at b2
     have hi2 : DevIn w2 b k s (.slice (some ⟨g, 0, none⟩) d.written.length cw) { d with kept := lossy d.kept d.written bs j } :=
      (HR.out.keep1 ((Only.refl (fun i => i = wr.heap.size) wr).alloc _) (Nat.le_refl _)).keep1' o2 HR.out
     have c0 : w2.cell? ⟨b, 0, none⟩ = some (.slice (some ⟨k, 0, none⟩) d.kept.length d.kept.length) := by rw [hi2.1.cell]; simp [hkl]
     have cH : w2.cell? ⟨wr.heap.size, 0, none⟩ = some (.int .i64 (at_ : Int)) := by rw [b2.cell]; rfl
     have rH : ∀ (i : Nat) (v : Value), (enc (sl.take nn))[i]? = some v → w2.cell? ((⟨wr.heap.size, 1, none⟩ : Addr).add i) = some v := by
      have := b2.range 1 (enc sl) (fun i v hv => by rw [Nat.add_comm, List.getElem?_cons_succ]; exact hv)
      intro i v hv
      rw [Addr.add_mid]
      refine this i v ?_
      have e : enc (sl.take nn) = (enc sl).take nn := by simp [enc, List.map_take]
      rw [e, List.getElem?_take] at hv
      split at hv
      ·exact hv
      ·cases hv
     have hmid : lay (rows (lossy d.kept d.written bs j)) (at_ * 128) (enc (sl.take nn)) = rows (lossy d.kept d.written bs (j + 1)) := by
      have := tear_lay (lossy d.kept d.written bs j) at_ sl nn hk128 hpw.2 (by rw [hkl]; exact hpw.1)
      rw [HNn.out] at this
      rw [this]
      simp [lossy, HP.out, HN.out]
     have HM := hide hmid
     have HRH := hide rH
     have bK : Hid (Blk w2 k 94 (rows (lossy d.kept d.written bs j))) := hi2.2.1
     have hfit : Hid (at_ * 128 + (enc (sl.take nn)).length ≤ (rows (lossy d.kept d.written bs j)).length) := by
      show _ ≤ _
      rw [rows_length _ hk128, hkl, enc_length, List.length_take, hpw.2]; omega
     have hmin : Hid ((enc (sl.take nn)).length = Nat.min nn nn) := by
      have e1 : (enc (sl.take nn)).length = min nn 128 := by rw [enc_length, List.length_take, hpw.2]
      have e2 : min nn 128 = nn := by omega
      exact e1.trans (e2.trans (Nat.min_self nn).symm)
     have H2 := hide hi2
     have B2 := hide b2
     clear hi2 b2 hkl hk128 hmid rH
     go_region_held3 (fun w' => w'.cell? ⟨b, 0, none⟩ = some (.slice (some ⟨k, 0, none⟩) d.kept.length d.kept.length) ∧ w'.cell? ⟨wr.heap.size, 0, none⟩ = some (.int .i64 (at_ : Int)))
      (first | exact ⟨c0, cH⟩ | (go_split_ands; exact ⟨(World.cell?_of_block (w := w2) (o3.block b H2.out.1.lt hbk)).trans (by assumption), (World.cell?_of_block (w := w2) (o3.block wr.heap.size B2.out.lt hHk)).trans (by assumption)⟩))
      ((refine step_copy_blk (by rfl) _ _ _ _ (by rfl) 5 Tryz.underlying23 iszByte k (at_ * 128) nn 128 ⟨wr.heap.size, 1, none⟩ nn 128 (by rfl) (by rfl) (rows (lossy d.kept d.written bs j)) 94 bK.out (enc (sl.take nn)) hmin.out HRH.out hfit.out (enc_one _) ?_; intro w3 o3 z3 b3; have o3' : Only (fun i => i = k) w2 w3 := ⟨o3.os, o3.tape, o3.output, o3.size, o3.block⟩))
     rw [HM.out] at b3
     go_wp2
     go_roundw
     case rel =>
      refine ⟨j + 1, by omega, by go_num, ?_, ?_⟩
      ·exact H2.out.lay o3' _ (by rw [lossy_length]; exact (lossy_length _ _ _ _).symm) b3
      ·have o1 : Only (fun x => x = k) w w2 := HO.out.trans ((((Only.refl (fun i => i = wr.heap.size) wr).alloc _).trans o2 (fun _ _ h => h))) (fun i hi e => by have := HO.out.size; omega)
       exact o1.trans o3' (fun _ _ h => h)
     case measure => simp [intOf]; omega
   ·have hln : lossy d.kept d.written bs (j + 1) = lossy d.kept d.written bs j := by
     have : bs[j]? = none := List.getElem?_eq_none (by rw [hB.1]; omega)
     simp [lossy, HP.out, this]
    have k0 : (m : Int) ≤ (j : Int) := by omega
    have HL := hide hln
    clear hln
    go_wp2_with (first
    | (refine wpList_load_blk rfl 96 _ rfl g (j * 129) 96 cs (Value.int .i64 (at_ : Int) :: enc sl) _ (by rfl) HC.out hget' u91.out rfl I91.out ?_; simp only [pU])
    | (refine wpList_alloc_agg rfl 96 rfl (Value.int .i64 0 :: enc zeroS) zero91 ?_; simp only [pU])
    | (refine wpList_store_blk rfl 96 _ _ rfl wr.heap.size 0 96 (Value.int .i64 0 :: enc zeroS) (Value.int .i64 (at_ : Int) :: enc sl) (by rfl) (by rfl) (Blk.new wr _ _) (Nat.le_of_eq (by rw [chg_length _ _ hpw.2, chg_length _ _ zeroS_length])) I91.out (cons_one _ _) ?_; intro w2 o2 z2 b2; simp only [Act.put]))
    go_roundw
    case rel =>
     refine ⟨j + 1, by omega, by go_num, ?_, ?_⟩
     ·rw [HL.out]
      exact (HR.out.keep1 ((Only.refl (fun i => i = wr.heap.size) wr).alloc _) (Nat.le_refl _)).keep1' o2 HR.out
     ·exact HO.out.trans ((((Only.refl (fun i => i = wr.heap.size) wr).alloc _).trans o2 (fun _ _ h => h))) (fun i hi e => by have := HO.out.size; omega)
    case measure => simp [intOf]; omega
  ·have hj' : j = d.written.length := by omega
   subst hj'
   have c2' : wr.cell? ⟨b, 2, none⟩ = some (.slice A d.written.length cw) := by rw [hi.1.cell]; rfl
   have hrowr : Hid (0 < d.written.length → ∃ g : Nat, A = some ⟨g, 0, none⟩ ∧ ∃ cs : List Value, Blk wr g 96 cs ∧ ∀ (j : Nat) (u : Value), (wcells d.written)[j]? = some u → cs[j]? = some u) := by
    intro h0
    obtain ⟨g, hAg, cs, hcs, hget⟩ := hrow h0
    refine ⟨g, hAg, cs, ho.blk hcs ?_, hget⟩
    have := HI.out.ne.2.2.2.2.1
    intro e; exact this (by simp [Value.ownBlock, hAg, e])
   have HR := hide hi
   have HO := hide ho
   clear hi hrow c2 ho
   obtain ⟨w5, hw5⟩ : ∃ w5, w5 = wr := ⟨_, rfl⟩
   subst hw5
   go_wp2
   go_loopw [48] (fun i wr => ∃ q : Nat, q ≤ d.written.length ∧ i = .int .i64 q ∧ DevIn wr b k s (.slice A d.written.length cw) { d with kept := lossy d.kept d.written bs d.written.length, seen := back d.seen (lossy d.kept d.written bs d.written.length) d.written q } ∧ Only (fun x => x = s) w5 wr) (fun i _ => d.written.length - (intOf i).toNat)
   case atStart => exact ⟨0, by omega, rfl, HR.out, Only.refl _ _⟩
   case round =>
    obtain ⟨q, hq, rfl, hi, ho⟩ := hrel
    have hkl := lossy_length d.kept d.written bs d.written.length
    have hk128 := lossy_128 d.kept d.written bs hG.k128 hG.wat d.written.length
    generalize hL : lossy d.kept d.written bs d.written.length = L at *
    have HL := hide hL
    clear hL
    by_cases hlt : q < d.written.length
    ·obtain ⟨g, hAg, cs, hcs, hget⟩ := hrowr.out (by omega)
     obtain ⟨p, hp⟩ : ∃ p, d.written[q]? = some p := ⟨_, List.getElem?_eq_getElem hlt⟩
     have hpw := hG.wat p (List.mem_of_getElem? hp)
     subst hAg
     obtain ⟨at_, sl⟩ := p
     simp only at hpw
     have hgs : ¬ g = s := by
      have := HI.out.ne.2.2.2.2.2
      intro e; exact this (by simp [Value.ownBlock, e])
     have hcr : Blk wr g 96 cs := ho.blk hcs hgs
     have hget' : ∀ (i : Nat) (v : Value), (Value.int .i64 (at_ : Int) :: enc sl)[i]? = some v → cs[q * 129 + i]? = some v :=
      fun i v hv => hget _ _ (wcells_get d.written q (at_, sl) (fun q hq => (hG.wat q hq).2) hp i v hv)
     have I91 := hide (isz91' at_ sl hpw.2)
     have u91 := hide Tryz.underlying96
     have j0 : (0 : Int) ≤ (q : Int) := by omega
     have j1 : (q : Int) < (d.written.length : Int) := by omega
     have HR2 := hide hi
     have HC := hide hcr
     have HO2 := hide ho
     have HP := hide hp
     clear hi hcr ho hcs hget hp
     go_wp2_with (first
      | (refine wpList_load_blk rfl 96 _ rfl g (q * 129) 96 cs (Value.int .i64 (at_ : Int) :: enc sl) _ (by rfl) HC.out hget' u91.out rfl I91.out ?_; simp only [pU])
      | (refine wpList_alloc_agg rfl 96 rfl (Value.int .i64 0 :: enc zeroS) zero91 ?_; simp only [pU])
      | (refine wpList_store_blk rfl 96 _ _ rfl wr.heap.size 0 96 (Value.int .i64 0 :: enc zeroS) (Value.int .i64 (at_ : Int) :: enc sl) (by rfl) (by rfl) (Blk.new wr _ _) (Nat.le_of_eq (by rw [chg_length _ _ hpw.2, chg_length _ _ zeroS_length])) I91.out (cons_one _ _) ?_; intro w2 o2 z2 b2; simp only [Act.put]))
     rw [lay_all _ _ (by rw [chg_length _ _ hpw.2, chg_length _ _ zeroS_length])] at b2
     have hi2 : DevIn w2 b k s (.slice (some ⟨g, 0, none⟩) d.written.length cw) { d with kept := L, seen := back d.seen L d.written q } :=
      (HR2.out.keep1 ((Only.refl (fun i => i = wr.heap.size) wr).alloc _) (Nat.le_refl _)).keep1' o2 HR2.out
     have hbl := back_length d.seen L d.written q
     have hs128 := back_128 d.seen L d.written hG.s128 hk128 (fun p hp => by rw [hkl]; exact (hG.wat p hp).1) q
     obtain ⟨old, hold⟩ : ∃ old, L[at_]? = some old := ⟨_, List.getElem?_eq_getElem (by rw [hkl]; exact hpw.1)⟩
     have hold128 : old.length = 128 := hk128 old (List.mem_of_getElem? hold)
     have c0 : w2.cell? ⟨b, 0, none⟩ = some (.slice (some ⟨k, 0, none⟩) d.kept.length d.kept.length) := by rw [hi2.1.cell]; simp [hkl]
     have c1 : w2.cell? ⟨b, 1, none⟩ = some (.slice (some ⟨s, 0, none⟩) d.kept.length d.kept.length) := by rw [hi2.1.cell]; simp [hkl]
     have cH : w2.cell? ⟨wr.heap.size, 0, none⟩ = some (.int .i64 (at_ : Int)) := by rw [b2.cell]; rfl
     have rK : w2.rangeAt k (at_ * 128) (enc old) := hi2.2.1.range _ _ (rows_get L at_ old hk128 hold)
     have tS : w2.there s (at_ * 128) 128 := hi2.2.2.1.there _ _ (by show _ ≤ (rows (back d.seen L d.written q)).length; rw [rows_length _ hs128, hbl, hG.seen]; omega)
     have hbs : b ≠ s := hi2.ne.2.2.1
     have hks : k ≠ s := hi2.ne.1
     have hHs : wr.heap.size ≠ s := fun e => by have := HR2.out.lt s (.inr (.inr (.inl rfl))); omega
     have i0 : (0 : Int) ≤ (at_ : Int) := by omega
     have i1 : (at_ : Int) < (d.kept.length : Int) := by omega
     have hu := Tryz.underlying94
     have hsz := isz33' old hold128
     have hone := enc_one old
     have hlen2 : (enc old).length = 128 := by rw [enc_length, hold128]
     have hnext : Hid (lay (rows (back d.seen L d.written q)) (at_ * 128) (enc old) = rows (back d.seen L d.written (q + 1))) := by
      show _ = _
      rw [rows_set _ at_ old hs128 hold128 (by rw [hbl, hG.seen]; exact hpw.1)]
      simp [back, HP.out, hold]
     have H2 := hide hi2
     have B2 := hide b2
     clear hi2 b2 hkl hk128 hbl hs128 hold
     go_region_held3 (fun w' => w'.cell? ⟨b, 0, none⟩ = some (.slice (some ⟨k, 0, none⟩) d.kept.length d.kept.length) ∧ w'.cell? ⟨b, 1, none⟩ = some (.slice (some ⟨s, 0, none⟩) d.kept.length d.kept.length) ∧ w'.cell? ⟨wr.heap.size, 0, none⟩ = some (.int .i64 (at_ : Int)) ∧ w'.rangeAt k (at_ * 128) (enc old) ∧ w'.there s (at_ * 128) 128)
      (first | go_keep_ranges | (go_split_ands; exact ⟨keep_cell (by assumption) hbs, keep_cell (by assumption) hbs, keep_cell (by assumption) hHs, World.rangeAt_setCells_apart (by assumption) _ _ _ (.inl hks), World.there_setCells (by assumption) _ _ _⟩)) (fail)
     clear hu hsz hone hlen2 c0 c1 cH rK tS
     go_wp2
     go_roundw
     case rel =>
      have oS : Only (fun i => i = s) w2 (w2.drew.setCells s (at_ * 128) (enc old)) := Only.setCells (F := fun i => i = s) (.inr rfl) _ _ _ (Only.refl _ w2).drew
      have bS := Blk.cells (enc old) (at_ * 128) w2.drew _ (show Blk w2.drew s _ _ from H2.out.2.2.1)
      rw [show (({ d with kept := L, seen := back d.seen L d.written q } : Dev)).seen = back d.seen L d.written q from rfl, hnext.out] at bS
      refine ⟨q + 1, by omega, by go_num, H2.out.lays oS _ bS, ?_⟩
      have o1 : Only (fun x => x = s) w5 w2 := HO2.out.trans ((((Only.refl (fun i => i = wr.heap.size) wr).alloc _).trans o2 (fun _ _ h => h))) (fun i hi e => by have := HO2.out.size; omega)
      exact o1.trans oS (fun _ _ h => h)
     case measure => simp [intOf]; omega
    ·have hq' : q = d.written.length := by omega
     subst hq'
     have c2 : wr.cell? ⟨b, 2, none⟩ = some (.slice A d.written.length cw) := by rw [hi.1.cell]; rfl
     have c3 : wr.cell? ⟨b, 3, none⟩ = some (.int .i64 d.budget) := by rw [hi.1.cell]; rfl
     have c4 : wr.cell? ⟨b, 4, none⟩ = some (.bool d.down) := by rw [hi.1.cell]; rfl
     have f2 := hi.1.frozen 2
     have f3 := hi.1.frozen 3
     have f4 := hi.1.frozen 4
     have HR2 := hide hi
     have HO2 := hide ho
     clear hi ho c2' hkl hk128
     go_wp2
     go_end0
     exact restart_fin w w5 wr b k s A cw d bs L hG HL.out HO.out HO2.out HR2.out
end Go.Proofs.YtjnpkcabkccaoaaGreat
