/- Lemmas and walks for TableRuns, packed. -/
import Derived.Test.YtjnpkcabkccaoaaGreatQ19
import Derived.Test.YtjnpkcabkccaoaaGreatQ23
set_option maxRecDepth 100000
set_option maxHeartbeats 16000000
namespace Go.Proofs.YtjnpkcabkccaoaaGreat
open Go.RowKit
theorem zeroStep : (Tryz.prog.info? 98).map (·.zero) = some (some (.agg (Value.int .i64 0 :: enc zeroS).toArray)) := by kernel_rfl
theorem iszStep' (n : Int) (s : Slb) (h : s.length = 128) : (Tryz.prog.info? 98).map (·.size) = some (Value.int .i64 n :: enc s).length := by rw [iszStep, chg_length n s h]
theorem DocIn.lay {w w' : World} {b k : Nat} {wv : Value} {m : Int} {d : Dev} (hi : DocIn w b k wv m d) (ho : Only (fun i => i = k) w w') (kept' : List Slb) (hl : kept'.length = d.kept.length) (hb : Blk w' k 94 (rows kept')) :
  DocIn w' b k wv m { d with kept := kept' } := by
 have hn := hi.ne
 refine ⟨?_, hb, ho.own hi.2.2.1 (fun g e hg => hn.2.2 (hg ▸ e)), hi.2.2.2⟩
 have := ho.blk hi.1 hn.1
 simpa [hl] using this
theorem DocIn.keep1 {w w' : World} {b k : Nat} {wv : Value} {m : Int} {d : Dev} (hi : DocIn w b k wv m d) {H : Nat} (ho : Only (fun i => i = H) w w') (hH : w.heap.size ≤ H) : DocIn w' b k wv m d :=
 hi.keep ho (fun i h e => by have := hi.lt i h; omega)
theorem DocIn.keep1' {w0 w w' : World} {b k : Nat} {wv : Value} {m m0 : Int} {d d0 : Dev} (hi : DocIn w b k wv m d) {H : Nat} (ho : Only (fun i => i = H) w w') (h0 : DocIn w0 b k wv m0 d0) (hH : w0.heap.size ≤ H := by exact Nat.le_refl _) : DocIn w' b k wv m d :=
 hi.keep ho (fun i h e => by have := h0.lt i h; omega)
theorem docsync_yes (w : World) (b : Nat) (F : Nat → Prop) (d : Dev) (h : DocRep w b F d) (hwl : d.written.length ≤ 1000000) (hm : d.stops = false) :
  Calls Tryz.prog 62 #[.pointer (some ⟨b, 0, none⟩)] w (DocPost w b F d.sync.1 (.int .i64 d.sync.2)) := by
 have hlt := h.lt
 have hG := h.good
 have HS : Hid (d.sync = ({ d.after with kept := over d.kept d.written, written := [] }, 0)) := by show _ = _; simp [Dev.sync, hm]
 go_enter Tryz.func62, Tryz.ntmps62
 go_wp2_with (go_at_call 98; refine (spend_any _ b F d h).mono ?_; rintro e w1 ⟨rfl, hr1, ho1⟩; obtain ⟨k, wv, m, hi, hg1, rfl⟩ := hr1; obtain ⟨A, c, hA, hrow⟩ := own_cases hi.2.2.1; subst hA; have c2 : w1.cell? ⟨b, 1, none⟩ = some (.slice A d.after.written.length c) := (hi.1.cell 1).trans rfl; have HI := hide hi; clear hi)
 have hwn : d.after.written.length = d.written.length := rfl
 have HWN := hide hwn
 have hwl' : d.after.written.length ≤ 1000000 := hwl
 clear hwn
 go_loopw [13] (fun i wr => ∃ j : Nat, j ≤ d.after.written.length ∧ i = .int .i64 j ∧ DocIn wr b k (.slice A d.after.written.length c) m { d.after with kept := over d.kept (d.written.take j) } ∧ Only (fun x => x = k) w1 wr) (fun i _ => d.after.written.length - (intOf i).toNat)
 case atStart => exact ⟨0, by omega, rfl, HI.out, Only.refl _ _⟩
 case round =>
  obtain ⟨j, hj, rfl, hi, ho⟩ := hrel
  by_cases hlt : j < d.after.written.length
  ·obtain ⟨g, hAg, cs, hcs, hget⟩ := hrow (by omega)
   obtain ⟨p, hp⟩ : ∃ p, d.written[j]? = some p := ⟨_, List.getElem?_eq_getElem hlt⟩
   have hpw := hG.wat p (List.mem_of_getElem? hp)
   subst hAg
   obtain ⟨at_, sl⟩ := p
   simp only at hpw
   have hgk : ¬ g = k := by
    have := HI.out.ne.2.2
    intro e; exact this (by simp [Value.ownBlock, e])
   have hcr : Blk wr g 98 cs := ho.blk hcs hgk
   have hget' : ∀ (i : Nat) (v : Value), (Value.int .i64 (at_ : Int) :: enc sl)[i]? = some v → cs[j * 129 + i]? = some v :=
    fun i v hv => hget _ _ (wcells_get d.written j (at_, sl) (fun q hq => (hG.wat q hq).2) hp i v hv)
   have I91 := hide (iszStep' at_ sl hpw.2)
   have I33 := hide (isz33' sl hpw.2)
   have u91 := hide Tryz.underlying98
   have j0 : (0 : Int) ≤ (j : Int) := by omega
   have j1 : (j : Int) < (d.after.written.length : Int) := by omega
   have HR := hide hi
   have HC := hide hcr
   have HO := hide ho
   have HP := hide hp
   clear hi hcr ho hcs hget hrow c2 hp
   go_wp2_with (first
    | (refine wpList_load_blk rfl 98 _ rfl g (j * 129) 98 cs (Value.int .i64 (at_ : Int) :: enc sl) _ (by rfl) HC.out hget' u91.out rfl I91.out ?_; simp only [pU])
    | (refine wpList_alloc_agg rfl 98 rfl (Value.int .i64 0 :: enc zeroS) zeroStep ?_; simp only [pU])
    | (refine wpList_store_blk rfl 98 _ _ rfl wr.heap.size 0 98 (Value.int .i64 0 :: enc zeroS) (Value.int .i64 (at_ : Int) :: enc sl) (by rfl) (by rfl) (Blk.new wr _ _) (Nat.le_of_eq (by rw [chg_length _ _ hpw.2, chg_length _ _ zeroS_length])) I91.out (cons_one _ _) ?_; intro w2 o2 z2 b2; simp only [Act.put]))
   rw [lay_all _ _ (by rw [chg_length _ _ hpw.2, chg_length _ _ zeroS_length])] at b2
   have hi2 : DocIn w2 b k (.slice (some ⟨g, 0, none⟩) d.after.written.length c) m { d.after with kept := over d.kept (d.written.take j) } :=
    (HR.out.keep1 ((Only.refl (fun i => i = wr.heap.size) wr).alloc _) (Nat.le_refl _)).keep1' o2 HR.out
   have hk128 : ∀ t ∈ over d.kept (d.written.take j), t.length = 128 := over_128 _ _ hG.k128 (fun q hq => (hG.wat q (List.mem_of_mem_take hq)).2)
   have hlen : (over d.kept (d.written.take j)).length = d.kept.length := over_length _ _
   have c0 : w2.cell? ⟨b, 0, none⟩ = some (.slice (some ⟨k, 0, none⟩) d.kept.length d.kept.length) := by rw [hi2.1.cell]; simp [hlen]
   have cH : w2.cell? ⟨wr.heap.size, 0, none⟩ = some (.int .i64 (at_ : Int)) := by rw [b2.cell]; rfl
   have rH : w2.rangeAt wr.heap.size 1 (enc sl) := b2.range 1 _ (fun i v hv => by rw [Nat.add_comm, List.getElem?_cons_succ]; exact hv)
   have tK : w2.there k (at_ * 128) 128 := hi2.2.1.there _ _ (by show _ ≤ (rows (over d.kept (d.written.take j))).length; rw [rows_length _ hk128, hlen]; omega)
   have hbk : b ≠ k := hi2.ne.1
   have hHk : wr.heap.size ≠ k := fun e => by have := HR.out.lt k (.inr (.inl rfl)); omega
   have i0 : (0 : Int) ≤ (at_ : Int) := by omega
   have i1 : (at_ : Int) < (d.kept.length : Int) := by omega
   have hu := Tryz.underlying94
   have hsz := I33.out
   have hone := enc_one sl
   have hlen2 : (enc sl).length = 128 := by rw [enc_length, hpw.2]
   have H2 := hide hi2
   have B2 := hide b2
   clear hi2 b2 hlen hk128
   go_region_held3 (fun w' => w'.cell? ⟨b, 0, none⟩ = some (.slice (some ⟨k, 0, none⟩) d.kept.length d.kept.length) ∧ w'.cell? ⟨wr.heap.size, 0, none⟩ = some (.int .i64 (at_ : Int)) ∧ w'.rangeAt wr.heap.size 1 (enc sl) ∧ w'.there k (at_ * 128) 128)
    (first | go_keep_ranges | (go_split_ands; exact ⟨keep_cell (by assumption) hbk, keep_cell (by assumption) hHk, World.rangeAt_setCells_apart (by assumption) _ _ _ (.inl hHk), World.there_setCells (by assumption) _ _ _⟩)) (fail)
   clear hu hsz hone hlen2 c0 cH rH tK
   go_wp2
   go_roundw
   case rel =>
    have hk128 : ∀ t ∈ over d.kept (d.written.take j), t.length = 128 := over_128 _ _ hG.k128 (fun q hq => (hG.wat q (List.mem_of_mem_take hq)).2)
    have oS : Only (fun i => i = k) w2 (w2.drew.setCells k (at_ * 128) (enc sl)) := Only.setCells (F := fun i => i = k) (.inr rfl) _ _ _ (Only.refl _ w2).drew
    have bS : Blk (w2.drew.setCells k (at_ * 128) (enc sl)) k 94 (rows (over d.kept (d.written.take (j + 1)))) := by
     have := Blk.cells (enc sl) (at_ * 128) w2.drew _ (show Blk w2.drew k _ _ from H2.out.2.1)
     rw [show (({ d.after with kept := over d.kept (d.written.take j) } : Dev)).kept = over d.kept (d.written.take j) from rfl,
      rows_set _ at_ sl hk128 hpw.2 (by rw [over_length]; exact hpw.1)] at this
     rw [over_take_succ _ _ _ _ HP.out]
     exact this
    refine ⟨j + 1, by omega, by go_num, ?_, ?_⟩
    ·exact H2.out.lay oS _ (by rw [over_length]; exact (over_length _ _).symm) bS
    ·have o1 : Only (fun x => x = k) w1 w2 := HO.out.trans ((((Only.refl (fun i => i = wr.heap.size) wr).alloc _).trans o2 (fun _ _ h => h))) (fun i hi e => by have := HO.out.size; omega)
     exact o1.trans oS (fun _ _ h => h)
   case measure => simp [intOf]; omega
  ·have hj' : j = d.after.written.length := by omega
   have c2' : wr.cell? ⟨b, 1, none⟩ = some (.slice A d.after.written.length c) := by rw [hi.1.cell]; rfl
   have f2 := hi.1.frozen 1
   have HR := hide hi
   clear hi hrow c2
   go_wp2
   go_ret
   have hi := HR.out
   have ho1' := ho1.trans ho (fun i _ e => .inr (.inl e))
   have oL : Only (fun i => i = b) wr (wr.setCell ⟨b, 1, none⟩ (.slice none 0 0)) := (Only.refl (fun i => i = b) wr).setCell (p := ⟨b, 1, none⟩) (.inr rfl) _
   have hn := hi.ne
   have htk : d.written.take j = d.written := by rw [hj']; exact List.take_length
   refine ⟨by rw [HS.out]; rfl, fun i => i = b ∨ i = k ∨ Value.ownBlock (.slice none 0 0) = some i, ⟨k, _, m, ?_, ?_, rfl⟩, ho1'.trans oL (fun i _ e => .inl e), ?_⟩
   ·rw [HS.out]
    rw [htk] at hi
    refine ⟨?_, oL.blk hi.2.1 (Ne.symm hn.1), World.ownsRow_nil _ _ _ _, hi.2.2.2⟩
    exact hi.1.set_ 1 _
   ·rw [HS.out]
    exact hG.after.synced
   ·rintro i (rfl | rfl | h)
    ·left; exact .inl rfl
    ·left; exact .inr (.inl rfl)
    ·simp [Value.ownBlock] at h
theorem docsync_any (w : World) (b : Nat) (F : Nat → Prop) (d : Dev) (h : DocRep w b F d) (hwl : d.written.length ≤ 1000000) :
  Calls Tryz.prog 62 #[.pointer (some ⟨b, 0, none⟩)] w (DocPost w b F d.sync.1 (.int .i64 d.sync.2)) := by
 cases hm : d.stops with
 | false => exact docsync_yes w b F d h hwl hm
 | true =>
  have HS : d.sync = (d.after, 132) := by simp [Dev.sync, hm]
  rw [HS]
  clear HS
  go_enter Tryz.func62, Tryz.ntmps62
  go_wp2_with (go_at_call 98; refine (spend_any _ b F d h).mono ?_; rintro e w1 ⟨rfl, hr1, ho1⟩)
  go_ret
  exact ⟨rfl, F, hr1, ho1, fun _ h => .inl h⟩
section
theorem ptext_most (r : Rd) (M : Int) (h0 : 0 ≤ M) : ((r.text M).1.length : Int) ≤ M := by
 unfold Rd.text
 have hp := peek_most r.rest (max M 0).toNat
 split
 ·simpa using h0
 ·split
  ·simpa using h0
  ·split
   ·simpa using h0
   ·simp only [List.length_take]
    omega
theorem pair_parts (r : Rd) (key : List Int) (r1 : Rd) (F : Nat) (r2 : Rd) (h1 : r.text 200 = (key, r1)) (h2 : r1.fixed 1 = (F, r2)) :
  (1 < F → r.pair = none) ∧ (F = 0 → r.pair = some (⟨key, [], true⟩, r2)) ∧ (F = 1 → ∀ v r3, r2.text 20000 = (v, r3) → r.pair = some (⟨key, v, false⟩, r3)) := by
 refine ⟨fun h => ?_, fun h => ?_, fun h v r3 h3 => ?_⟩
 ·simp [Rd.pair, h1, h2, h]
 ·subst h; simp [Rd.pair, h1, h2]
 ·subst h; simp [Rd.pair, h1, h2, h3]
def PEq (N : Nat) (r0 : Rd) (M : Nat) (r : Rd) (ys : List PairD) : Prop := Rd.pairs N r0 = (Rd.pairs M r).map fun q => (ys ++ q.1, q.2)
theorem PEq.over {N : Nat} {r0 : Rd} {M : Nat} {r : Rd} {ys : List PairD} (h : PEq N r0 M r ys) (hz : M = 0 ∨ r.err ≠ 0) : Rd.pairs N r0 = some (ys, r) := by
 have e : Rd.pairs M r = some ([], r) := by
  cases M with
  | zero => rfl
  | succ M =>
   rcases hz with hz | hz
   ·cases hz
   ·rw [Rd.pairs, if_pos hz]
 rw [h, e]; simp
theorem PEq.none {N : Nat} {r0 : Rd} {M : Nat} {r : Rd} {ys : List PairD} (h : PEq N r0 (M + 1) r ys) (he : r.err = 0) (hp : r.pair = Option.none) : Rd.pairs N r0 = Option.none := by
 rw [h, Rd.pairs, if_neg (by simpa using he), hp]; rfl
theorem PEq.some {N : Nat} {r0 : Rd} {M : Nat} {r : Rd} {ys : List PairD} (h : PEq N r0 (M + 1) r ys) (he : r.err = 0) {p : PairD} {r' : Rd} (hp : r.pair = some (p, r')) : PEq N r0 M r' (ys ++ [p]) := by
 unfold PEq at h ⊢
 rw [h, Rd.pairs, if_neg (by simpa using he), hp]
 simp only
 cases Rd.pairs M r' <;> simp
def PParsePost (w : World) (o : Option (List PairD)) (e : Ending) (w' : World) : Prop :=
 Below w.heap.size w w' ∧ ((o = none ∧ e = .returned (.tuple #[.slice none 0 0, .int .i64 151])) ∨
  ∃ (A : Option Addr) (m c : Nat) (xs : List PairV), o = some (xs.map PairV.d) ∧ e = .returned (.tuple #[.slice A m c, .int .i64 0]) ∧ m ≤ c ∧ PKeep w' (fun i => i < w.heap.size) A m xs ∧ m ≤ 1048576)
structure PAt (T : TypeId) (w2 ws : World) (g h : Nat) (N : Nat) (r0 : Rd) (M : Nat) (r : Rd) (j : Nat) (A : Option Addr) (c : Nat) (ys : List PairV) : Prop where
 sum : j + M = N
 row : PRow w2.heap.size ws A j c ys
 rd : RdAt T ws g h r
 eq : PEq N r0 M r (ys.map PairV.d)
 small : ∀ p ∈ ys, p.kN ≤ 200 ∧ p.vN ≤ 20000
 only : Only (fun i => i = g) w2 ws
theorem PAt.next {T : TypeId} {w2 ws W7 w9 : World} {g h N : Nat} {r0 : Rd} {M j : Nat} {r r' : Rd} {A A9 : Option Addr} {c c9 : Nat} {ys : List PairV} {V : PairV}
  (hI : PAt T w2 ws g h N r0 (M + 1) r j A c ys) (he : r.err = 0) (hp : r.pair = some (V.d, r')) (hV : V.Fine W7) (hk : Fr ws V.kA) (hv : Fr ws V.vA) (hs : V.kN ≤ 200 ∧ V.vN ≤ 20000)
  (hO : Only (fun i => i = g) ws W7) (hRd : RdAt T W7 g h r') (hg : g < w2.heap.size) (hh : h < w2.heap.size)
  (q1 : w9.ownsRow w2.heap.size 59 3 (.slice A9 (j + 1) c9) (j + 1) (ys.flatMap PairV.cells ++ V.cells)) (q2 : j + 1 ≤ c9)
  (q3 : ∀ q, (Value.slice A9 (j + 1) c9).ownBlock = some q → (Value.slice A j c).ownBlock = some q ∨ W7.heap.size ≤ q) (q4 : Only (fun i => (Value.slice A j c).ownBlock = some i) W7 w9) :
  PAt T w2 w9 g h N r0 M r' (j + 1) A9 c9 (ys ++ [V]) := by
 have hs2 := hI.row.low
 have hlt := hI.row.lt
 have hR7 := hI.row.step hO (fun i _ e => by have h9 : i = g := e; omega)
 have hKV : KeepP W7 V (fun i => i < w2.heap.size ∨ (Value.slice A j c).ownBlock = some i) := KeepP.new hV hk hv fun i hi => by
  rcases hi with hi | hi
  ·omega
  ·exact (hlt i hi).2
 have hno : ∀ i, i < w2.heap.size → ¬ (Value.slice A j c).ownBlock = some i := fun i hi e => by have := (hlt i e).1; omega
 refine ⟨by have := hI.sum; omega, hR7.app hKV q1 q2 q3 q4, hRd.keep q4 (hno g hg) (hno h hh), by rw [List.map_append]; exact hI.eq.some he hp, fun p hp => ?_, ?_⟩
 ·rcases List.mem_append.1 hp with hp | hp
  ·exact hI.small p hp
  ·rw [List.mem_singleton.1 hp]; exact hs
 ·exact (hI.only.trans hO (fun _ _ h => h)).trans q4 (fun i hi e => absurd e (hno i hi))
attribute [local go_sem ↓] loadPr_fold mkPr_fold mkPrs1_fold
theorem PParse_any (w : World) (A : Option Addr) (n c : Nat) (bs : List Int) (hB : Bys w A n bs) (hn : n ≤ 1000000000) :
  Calls Tryz.prog 77 #[.slice A n c] w (PParsePost w (parseP bs)) := by
 have HN := hide hn
 have hnew := hide (New_any w A n c bs hB hn)
 clear hB hn
 go_enter Tryz.func77, Tryz.ntmps77
 go_wp2_with fail
 refine hnew.out.mono ?_
 rintro e w1 ⟨g, h, rfl, hR, hg, hh, hb⟩
 have R1 := hide hR
 have B1 := hide hb
 have HG := hide hg
 have HH := hide hh
 have HGL := hide hR.lt
 clear hnew hR hb hg hh
 go_wp2_with fail
 refine (RCount_any w1 g h ⟨bs, 0⟩ 1048576 R1.out (by decide)).mono ?_
 rintro e w2 ⟨rfl, hR2, o2⟩
 have e0 : (1048576 : Int).toNat = 1048576 := rfl
 rw [e0] at hR2 ⊢
 clear e0
 obtain ⟨N, hN⟩ : ∃ N, N = (Rd.count ⟨bs, 0⟩ 1048576).1 := ⟨_, rfl⟩
 obtain ⟨r0, hr0⟩ : ∃ r0, r0 = (Rd.count ⟨bs, 0⟩ 1048576).2 := ⟨_, rfl⟩
 have HNM := hide (show N ≤ 1048576 by
  rw [hN]
  unfold Rd.count
  simp only [ne_eq, not_true_eq_false, if_false]
  exact peek_most bs 1048576)
 have HP := hide (show parseP bs = doneP (Rd.pairs N r0) by rw [hN, hr0]; rfl)
 rw [← hr0] at hR2
 rw [← hN]
 have R2 := hide hR2
 have B2 := hide (show Below w.heap.size w w2 from B1.out.trans (o2.below B1.out.size (fun i hi e => by have h9 : i = g := e; have := HG.out; omega)))
 have HGL2 := hide (show g < w2.heap.size ∧ h < w2.heap.size by have := o2.size; have := HGL.out; omega)
 have A0 := hide (show PAt 186 w2 w2 g h N r0 N r0 0 none 0 [] from ⟨by omega, PRow.nil (Nat.le_refl _), hR2, by unfold PEq; cases Rd.pairs N r0 <;> simp, by simp, Only.refl _ _⟩)
 clear hN hr0 hR2 o2 R2 R1 HGL HH
 go_wp2_with fail
 go_loopw [5, 6] (fun v i ws => ∃ (j M : Nat) (A' : Option Addr) (c' : Nat) (ys : List PairV) (r : Rd), i = .int .u64 (M : Int) ∧ v = .slice A' j c' ∧ PAt 186 w2 ws g h N r0 M r j A' c' ys) (fun _ i _ => (intOf i).toNat)
 case atStart => exact ⟨0, N, none, 0, [], r0, rfl, rfl, A0.out⟩
 case round =>
  clear A0
  obtain ⟨j, M, A4, c4, ys, r, rfl, rfl, ha⟩ := hrel
  obtain ⟨rest, err⟩ := r
  have HA := hide ha
  have BR := hide (show Below w.heap.size w wr from B2.out.trans (ha.only.below B2.out.size (fun i hi e => by have h9 : i = g := e; have := HG.out; omega)))
  have HJ := hide (show j ≤ N by have := ha.sum; omega)
  clear ha
  by_cases hgo : 0 < M ∧ err = 0
  ·obtain ⟨m1, rfl⟩ := hgo
   obtain ⟨M', hM'⟩ : ∃ M', M' + 1 = M := ⟨M - 1, by omega⟩
   have hw1 : (M : Int) - 1 = (M' : Int) := by omega
   have hmn := HNM.out
   have hms := HA.out.sum
   have hw2 : IntKind.u64.wrap (M' : Int) = (M' : Int) := by rw [IntKind.wrap_u64]; omega
   have HMM := hide hM'
   have HX := HA.out
   rw [← hM'] at HX
   have HAM := hide HX
   clear hM' hmn hms HX
   go_wp2_with fail
   refine (Err_any wr g h ⟨rest, 0⟩ HA.out.rd).mono ?_
   rintro e wz ⟨rfl, rfl⟩
   go_wp2_with fail
   refine (RText_any _ g h ⟨rest, 0⟩ 200 HA.out.rd (by decide)).mono ?_
   rintro e w3 ⟨A3, m3, c3, rfl, hB3, hc3, hf3, hR3, o3⟩
   obtain ⟨key, r1, h1⟩ : ∃ key r1, Rd.text ⟨rest, 0⟩ 200 = (key, r1) := ⟨_, _, rfl⟩
   have hkl := ptext_most ⟨rest, 0⟩ 200 (by decide)
   rw [h1] at hB3 hR3 hkl
   have H1 := hide h1
   have B3 := hide hB3
   have R3 := hide hR3
   have O3 := hide o3
   have C3 := hide hc3
   have F3 := hide hf3
   have M3 := hide (show m3 ≤ 200 by have h9 := hB3.1; simp only at h9 hkl; omega)
   have hmk := mkPr_key w3 A3 m3 c3
   clear h1 hB3 hR3 o3 hc3 hf3 hkl
   simp only
   go_wp2_with (first
    | (refine wpList_alloc_agg rfl 59 rfl zeroPr zeroPr_info ?_; simp only [pU])
    | (refine pr_store rfl _ _ rfl w3 rfl (by rfl) ⟨A3, m3, c3, key, none, 0, 0, [], false⟩ (by rfl) ?_; intro w4 b4 s4 k4; have B4 := hide b4; have K4 := hide k4; have S4 := hide s4; clear b4 s4 k4 hmk; simp only [Act.put]))
   refine (RFixed_any w4 g h r1 1 (R3.out.below B4.out)).mono ?_
   rintro e w5 ⟨rfl, hR5, o5⟩
   obtain ⟨F, r2, h2⟩ : ∃ F r2, r1.fixed 1 = (F, r2) := ⟨_, _, rfl⟩
   rw [h2] at hR5 ⊢
   simp only at hR5 ⊢
   obtain ⟨gp, hgp⟩ : ∃ z, z = w3.heap.size := ⟨_, rfl⟩
   have HGP := hide (show w2.heap.size ≤ gp ∧ wr.heap.size ≤ gp by have h7 := HA.out.row.low; have h8 := O3.out.size; omega)
   have NGP := hide (show gp ≠ g by have := HGP.out; have := HGL2.out; omega)
   have HPP := hide (pair_parts ⟨rest, 0⟩ key r1 F r2 H1.out h2)
   rw [← hgp] at K4 S4 ⊢
   have K5 := hide (o5.blk K4.out NGP.out)
   have R5 := hide hR5
   have O5 := hide (show Only (fun i => i = g) wr w5 from ((O3.out.trans (Only.of_below B4.out (fun _ => False)) (fun _ _ h => h.elim)).trans o5 (fun _ _ h => h)))
   have Y5 := hide (show Bys w5 A3 m3 key from (B3.out.below B4.out).keep o5 (fun _ ad e hf => by have h7 := F3.out ad e; have h8 : ad.block = g := hf; have h9 := HGL2.out; have h10 := HA.out.row.low; omega))
   have FF3 := hide (show Fr wr A3 from F3.out)
   have LT3 := hide (show 0 < m3 → ∀ ad, A3 = some ad → ad.block < gp from fun h0 ad e => by rw [hgp]; exact B3.out.lt h0 ad e)
   clear h2 hR5 o5 hgp R3 O3 B3 K4 B4 S4
   have c0 := K5.out.c0
   have c1 := K5.out.c1
   have c2 := K5.out.c2
   have f0 := K5.out.frozen 0
   have f1 := K5.out.frozen 1
   have f2 := K5.out.frozen 2
   by_cases hF0 : F = 0
   ·subst hF0
    have hpr := HPP.out.2.1 rfl
    have HPR := hide hpr
    obtain ⟨W6, hW6⟩ : ∃ z, w5.setCell ⟨gp, 2, none⟩ (.bool true) = z := ⟨_, rfl⟩
    obtain ⟨V, hV⟩ : ∃ V : PairV, V = ⟨A3, m3, c3, key, none, 0, 0, [], true⟩ := ⟨_, rfl⟩
    have HV := hide hV
    have O6 := hide (show Only (fun i => i = gp) w5 W6 by rw [← hW6]; exact Only.cell1 _ _ _ _)
    have K6 := hide (show Blk W6 gp 59 V.cells by rw [← hW6, hV]; exact K5.out.set_ 2 _)
    have hld := loadPr_run W6 gp 0 V K6.out.whole
    obtain ⟨W7, hW7⟩ : ∃ z, z = W6.alloc (.cells V.cells.toArray 59) := ⟨_, rfl⟩
    have hmk := mkPrs1_run W6 V
    rw [← hW7] at hmk
    have B7 := hide (show Below W6.heap.size W6 W7 by rw [hW7]; exact below_alloc (Below.refl _ _) _)
    have N7 := hide (show W7.rangeAt W6.heap.size 0 V.cells by rw [hW7]; exact (Blk.new W6 59 V.cells).whole)
    have O7 := hide (show Only (fun i => i = g) wr W7 from ((O5.out.trans O6.out (fun i hi e => by have h9 : i = gp := e; have := HGP.out; omega)).trans (Only.of_below B7.out (fun _ => False)) (fun _ _ h => h.elim)))
    have R7 := hide (show RdAt 186 W7 g h r2 from (R5.out.keep O6.out (fun e => NGP.out e.symm) (fun e => by have h9 : h = gp := e; have := HGP.out; have := HGL2.out; omega)).below B7.out)
    have V7 := hide (show V.Fine W7 by
     rw [hV]
     exact ⟨(Y5.out.keep O6.out (fun hpos ad e hf => by have h7 := LT3.out hpos ad e; have h8 : ad.block = gp := hf; omega)).below B7.out, C3.out, Bys.nil _ _, Nat.le_refl _⟩)
    have VK := hide (show Fr wr V.kA ∧ Fr wr V.vA by rw [hV]; exact ⟨FF3.out, Fr.none _⟩)
    have VS := hide (show V.kN ≤ 200 ∧ V.vN ≤ 20000 by rw [hV]; exact ⟨M3.out, Nat.zero_le _⟩)
    have VP := hide (show Rd.pair ⟨rest, 0⟩ = some (V.d, r2) by rw [hV]; exact HPR.out)
    have RC := hide (HAM.out.row.step O7.out (fun i _ e => by have h9 : i = g := e; have := HGL2.out; omega))
    have J9 := hide (show j + 1 ≤ 2000000 by have := HJ.out; have := HNM.out; omega)
    clear hV hW7 hpr c0 c1 f0 f1
    go_wp2_with (at_builtin; refine wpListRow rfl 37 rfl _ _ 37 rfl 59 3 56 Tryz.underlying37 pr_infoR (by decide) w2.heap.size (.slice A4 j c4) j _ (by rfl) RC.out.row RC.out.low W6.heap.size 0 1 1 V.cells (by rfl) rfl N7.out (PairV.one V) (by have := J9.out; omega) (by decide) ?_; intro A9 c9 w9 q1 q2 q3 q4; have P9 := hide (HAM.out.next rfl VP.out V7.out VK.out.1 VK.out.2 VS.out O7.out R7.out HGL2.out.1 HGL2.out.2 q1 q2 q3 q4); clear q1 q2 q3 q4; simp only [pU])
    exact ⟨⟨j + 1, M', A9, c9, ys ++ [V], _, by simp, rfl, P9.out⟩, by have := HMM.out; simp [intOf]; omega⟩
   ·by_cases hF1 : F = 1
    ·subst hF1
     have HP1 := hide (HPP.out.2.2 rfl)
     go_wp2_with fail
     refine (RText_any w5 g h r2 20000 R5.out (by decide)).mono ?_
     rintro e w6 ⟨A6, m6, c6, rfl, hB6, hc6, hf6, hR6, o6⟩
     obtain ⟨v, r3, h3⟩ : ∃ v r3, r2.text 20000 = (v, r3) := ⟨_, _, rfl⟩
     have hvl := ptext_most r2 20000 (by decide)
     rw [h3] at hB6 hR6 hvl
     have HPR := hide (HP1.out v r3 h3)
     have M6 := hide (show m6 ≤ 20000 by have h9 := hB6.1; simp only at h9 hvl; omega)
     have C6 := hide hc6
     have F6 := hide hf6
     have B6 := hide hB6
     have K6a := hide (o6.blk K5.out NGP.out)
     have LT6 := hide (show 0 < m6 → ∀ ad, A6 = some ad → ad.block ≠ gp from fun _ ad e => by have h7 := hf6 ad e; have h8 := K5.out.lt; omega)
     have Y6 := hide (show Bys w6 A3 m3 key from Y5.out.keep o6 (fun _ ad e hf => by have h7 := FF3.out ad e; have h8 : ad.block = g := hf; have h9 := HGL2.out; have h10 := HAM.out.row.low; omega))
     have O6a := hide (O5.out.trans o6 (fun _ _ h => h))
     have R6a := hide hR6
     have FR6 := hide (show Fr wr A6 from fun ad e => Nat.le_trans O5.out.size (hf6 ad e))
     clear hB6 hc6 hf6 hR6 o6 h3 hvl c0 c1 c2 f0 f1 f2
     have c0 := K6a.out.c0
     have c1 := K6a.out.c1
     have f0 := K6a.out.frozen 0
     have f1 := K6a.out.frozen 1
     have hpr := True.intro
     obtain ⟨W6, hW6⟩ : ∃ z, w6.setCell ⟨gp, 1, none⟩ (.slice A6 m6 c6) = z := ⟨_, rfl⟩
     obtain ⟨V, hV⟩ : ∃ V : PairV, V = ⟨A3, m3, c3, key, A6, m6, c6, v, false⟩ := ⟨_, rfl⟩
     have HV := hide hV
     have O6 := hide (show Only (fun i => i = gp) w6 W6 by rw [← hW6]; exact Only.cell1 _ _ _ _)
     have K6 := hide (show Blk W6 gp 59 V.cells by rw [← hW6, hV]; exact K6a.out.set_ 1 _)
     have hld := loadPr_run W6 gp 0 V K6.out.whole
     obtain ⟨W7, hW7⟩ : ∃ z, z = W6.alloc (.cells V.cells.toArray 59) := ⟨_, rfl⟩
     have hmk := mkPrs1_run W6 V
     rw [← hW7] at hmk
     have B7 := hide (show Below W6.heap.size W6 W7 by rw [hW7]; exact below_alloc (Below.refl _ _) _)
     have N7 := hide (show W7.rangeAt W6.heap.size 0 V.cells by rw [hW7]; exact (Blk.new W6 59 V.cells).whole)
     have O7 := hide (show Only (fun i => i = g) wr W7 from ((O6a.out.trans O6.out (fun i hi e => by have h9 : i = gp := e; have := HGP.out; omega)).trans (Only.of_below B7.out (fun _ => False)) (fun _ _ h => h.elim)))
     have R7 := hide (show RdAt 186 W7 g h r3 from (R6a.out.keep O6.out (fun e => NGP.out e.symm) (fun e => by have h9 : h = gp := e; have := HGP.out; have := HGL2.out; omega)).below B7.out)
     have V7 := hide (show V.Fine W7 by
      rw [hV]
      exact ⟨(Y6.out.keep O6.out (fun hpos ad e hf => by have h7 := LT3.out hpos ad e; have h8 : ad.block = gp := hf; omega)).below B7.out, C3.out, (B6.out.keep O6.out (fun hpos ad e hf => LT6.out hpos ad e hf)).below B7.out, C6.out⟩)
     have VK := hide (show Fr wr V.kA ∧ Fr wr V.vA by rw [hV]; exact ⟨FF3.out, FR6.out⟩)
     have VS := hide (show V.kN ≤ 200 ∧ V.vN ≤ 20000 by rw [hV]; exact ⟨M3.out, M6.out⟩)
     have VP := hide (show Rd.pair ⟨rest, 0⟩ = some (V.d, r3) by rw [hV]; exact HPR.out)
     have RC := hide (HAM.out.row.step O7.out (fun i _ e => by have h9 : i = g := e; have := HGL2.out; omega))
     have J9 := hide (show j + 1 ≤ 2000000 by have := HJ.out; have := HNM.out; omega)
     clear hV hW7 hpr c0 f0
     go_wp2_with (at_builtin; refine wpListRow rfl 37 rfl _ _ 37 rfl 59 3 56 Tryz.underlying37 pr_infoR (by decide) w2.heap.size (.slice A4 j c4) j _ (by rfl) RC.out.row RC.out.low W6.heap.size 0 1 1 V.cells (by rfl) rfl N7.out (PairV.one V) (by have := J9.out; omega) (by decide) ?_; intro A9 c9 w9 q1 q2 q3 q4; have P9 := hide (HAM.out.next rfl VP.out V7.out VK.out.1 VK.out.2 VS.out O7.out R7.out HGL2.out.1 HGL2.out.2 q1 q2 q3 q4); clear q1 q2 q3 q4; simp only [pU])
     exact ⟨⟨j + 1, M', A9, c9, ys ++ [V], _, by simp, rfl, P9.out⟩, by have := HMM.out; simp [intOf]; omega⟩
    ·have hpn := HPP.out.1 (by omega)
     have HPN := hide (HP.out.trans (show doneP (Rd.pairs N r0) = none by rw [HAM.out.eq.none rfl hpn]; rfl))
     have e0 : ((F : Int) == 0) = false := by simp; omega
     have e1 : ((F : Int) == 1) = false := by simp; omega
     have BW := hide (show Below w.heap.size w w5 from BR.out.trans (O5.out.below BR.out.size (fun i hi e => by have h9 : i = g := e; have := HG.out; omega)))
     clear hpn
     go_wp2_with fail
     go_ret2
     exact ⟨BW.out, .inl ⟨HPN.out, rfl⟩⟩
  ·have HOV := hide (HP.out.trans (by rw [HA.out.eq.over (by
     rcases Nat.eq_zero_or_pos M with h9 | h9
     ·exact .inl h9
     ·exact .inr (fun e => hgo ⟨h9, e⟩))]))
   have hbt := hide (batch_any wr A4 j c4 ys HA.out.row.in_ (by have := HJ.out; have := HNM.out; omega) (fun p hp => by have := HA.out.small p hp; omega))
   have HRD := hide HA.out.rd
   by_cases he : err = 0
   ·subst he
    obtain rfl : M = 0 := by
     rcases Nat.eq_zero_or_pos M with h9 | h9
     ·exact h9
     ·exact absurd ⟨h9, rfl⟩ hgo
    obtain ⟨L, hL⟩ : ∃ L, L = rest.length := ⟨_, rfl⟩
    have HL := hide hL
    have m0 : ¬ (0 : Int) < ((0 : Nat) : Int) := by omega
    clear hgo hL
    by_cases hl : 0 < L
    ·have HD := hide (HOV.out.trans (show doneP (some (ys.map PairV.d, ⟨rest, 0⟩)) = none by rw [doneP, if_pos (.inr (.inl (by show 0 < rest.length; rw [← HL.out]; exact hl)))]))
     clear HOV
     go_wp2_with fail
     refine (Err_any wr g h ⟨rest, 0⟩ HRD.out).mono ?_
     rintro e wz ⟨rfl, rfl⟩
     go_wp2_with fail
     refine (Left_any wr g h ⟨rest, 0⟩ HRD.out).mono ?_
     rintro e wz ⟨rfl, rfl⟩
     simp only
     rw [← HL.out]
     go_wp2_with fail
     go_ret2
     exact ⟨BR.out, .inl ⟨HD.out, rfl⟩⟩
    ·have hl0 : L = 0 := by omega
     subst hl0
     clear hl
     cases hr : rightB (ys.map PairV.d) with
     | false =>
      have HD := hide (HOV.out.trans (show doneP (some (ys.map PairV.d, ⟨rest, 0⟩)) = none by rw [doneP, if_pos (.inr (.inr hr))]))
      rw [hr] at hbt
      clear HOV hr
      go_wp2_with fail
      refine (Err_any wr g h ⟨rest, 0⟩ HRD.out).mono ?_
      rintro e wz ⟨rfl, rfl⟩
      go_wp2_with fail
      refine (Left_any wr g h ⟨rest, 0⟩ HRD.out).mono ?_
      rintro e wz ⟨rfl, rfl⟩
      simp only
      rw [← HL.out]
      go_wp2_with fail
      refine hbt.out.mono ?_
      rintro e w3 ⟨rfl, b3⟩
      have B3 := hide b3
      clear b3
      go_wp2_with fail
      go_ret2
      exact ⟨Below.then_ BR.out B3.out, .inl ⟨HD.out, rfl⟩⟩
     | true =>
      have HD := hide (HOV.out.trans (show doneP (some (ys.map PairV.d, ⟨rest, 0⟩)) = some (ys.map PairV.d) by
       rw [doneP, if_neg]
       rintro (h9 | h9 | h9)
       ·exact h9 rfl
       ·have h8 : 0 < rest.length := h9
        rw [← HL.out] at h8
        omega
       ·rw [hr] at h9; cases h9))
      rw [hr] at hbt
      clear HOV hr
      go_wp2_with fail
      refine (Err_any wr g h ⟨rest, 0⟩ HRD.out).mono ?_
      rintro e wz ⟨rfl, rfl⟩
      go_wp2_with fail
      refine (Left_any wr g h ⟨rest, 0⟩ HRD.out).mono ?_
      rintro e wz ⟨rfl, rfl⟩
      simp only
      rw [← HL.out]
      go_wp2_with fail
      refine hbt.out.mono ?_
      rintro e w3 ⟨rfl, b3⟩
      have B3 := hide b3
      clear b3
      go_wp2_with fail
      go_ret2
      refine ⟨Below.then_ BR.out B3.out, .inr ⟨A4, j, c4, ys, HD.out, rfl, HA.out.row.cap, ?_, by have := HJ.out; have := HNM.out; omega⟩⟩
      exact (HA.out.row.under B3.out).stay.mono fun i _ hi => by have := B2.out.size; show i < w2.heap.size; omega
   ·have HD := hide (HOV.out.trans (show doneP (some (ys.map PairV.d, ⟨rest, err⟩)) = none by rw [doneP, if_pos (.inl he)]))
    have e1 : (err == 0) = false := by simpa using he
    have e2 : (err != 0) = true := by simpa using he
    clear HOV hgo he
    by_cases hM : M = 0
    ·subst hM
     have m0 : ¬ (0 : Int) < ((0 : Nat) : Int) := by omega
     go_wp2_with fail
     refine (Err_any wr g h ⟨rest, err⟩ HRD.out).mono ?_
     rintro e wz ⟨rfl, rfl⟩
     go_wp2_with fail
     go_ret2
     exact ⟨BR.out, .inl ⟨HD.out, rfl⟩⟩
    ·have m1 : 0 < M := by omega
     clear hM
     go_wp2_with fail
     refine (Err_any wr g h ⟨rest, err⟩ HRD.out).mono ?_
     rintro e wz ⟨rfl, rfl⟩
     go_wp2_with fail
     refine (Err_any wr g h ⟨rest, err⟩ HRD.out).mono ?_
     rintro e wz ⟨rfl, rfl⟩
     go_wp2_with fail
     go_ret2
     exact ⟨BR.out, .inl ⟨HD.out, rfl⟩⟩
end
section
theorem step_storeP {ops : Array Oper} {op : Oper} {a : Act} {w : World} {K : Act → World → Prop} {Q : Exit → Act → World → Prop} {E : Prop} (hgd : op.guard = none) (x y : Operand) (ho : op.op = .store 59 x y)
  (g : Nat) (cs : List Value) (p : PairV) (hl : cs.length = 3) (hx : a.eval x = .pointer (some ⟨g, 0, none⟩)) (hy : a.eval y = .agg p.cells.toArray) (hb : Blk w g 59 cs)
  (h : ∀ w', Only (fun i => i = g) w w' → w'.heap.size = w.heap.size → Blk w' g 59 p.cells → K (a.put op.dst undef) w') :
  if Region.wanted op (yielded ops a.tmps) = true then Oper.wp Tryz.prog op a w K Q else E := by
 have hw : Region.wanted op (yielded ops a.tmps) = true := by simp [Region.wanted, hgd]
 rw [if_pos hw]
 have hl3 : p.cells.length = 3 := rfl
 refine wp_store_mid 59 x y ho g 0 p.cells.toArray hx hy (by simpa using hb.there 0 p.cells.length (by rw [hl, hl3]; decide)) (by rw [isPr]; rfl) (all_oneCell_toArray (PairV.one p)) ?_
 refine h _ (Only.setCells (F := fun i => i = g) (.inr rfl) _ _ _ (Only.refl _ w)) (by rw [setCells_size]) ?_
 have := hb.cells p.cells 0 w cs
 rw [lay_all _ _ (by rw [hl]; rfl)] at this
 simpa using this
def CopyPPost (w : World) (d : PairD) (e : Ending) (w' : World) : Prop :=
 ∃ V : PairV, e = .returned (.agg V.cells.toArray) ∧ V.d = d ∧ V.Fine w' ∧ Fr w V.kA ∧ Fr w V.vA ∧ Below w.heap.size w w'
attribute [local go_sem ↓] mkPr_fold
theorem copied_any (w : World) (p : PairV) (hp : p.Fine w) (hm : p.kN ≤ 1000000000000 ∧ p.vN ≤ 1000000000000) :
  Calls Tryz.prog 42 #[.agg p.cells.toArray] w (CopyPPost w p.d) := by
 have HP := hide hp
 have HM := hide hm
 have HI := hide isPr
 have HU := hide Tryz.underlying59
 obtain ⟨w0, hw0⟩ : ∃ z, z = w.alloc (.cells p.cells.toArray 59) := ⟨_, rfl⟩
 obtain ⟨w1, hw1⟩ : ∃ z, z = w0.alloc (.cells zeroPr.toArray 59) := ⟨_, rfl⟩
 have Z0 := hide (show w0.heap.size = w.heap.size + 1 by rw [hw0]; simp)
 have B0 := hide (show Below w.heap.size w w0 by rw [hw0]; exact below_alloc (Below.refl _ _) _)
 have B01 := hide (show Below w0.heap.size w0 w1 by rw [hw1]; exact below_alloc (Below.refl _ _) _)
 have B1 := hide (Below.then_ B0.out B01.out)
 have K1 := hide (show Blk w1 w.heap.size 59 p.cells from Blk.under (by rw [hw0]; exact Blk.new w _ _) B01.out)
 have K2 := hide (show Blk w1 (w.heap.size + 1) 59 zeroPr by rw [hw1, ← Z0.out]; exact Blk.new w0 _ _)
 obtain ⟨kA, kN, kC, key, vA, vN, vC, value, gone⟩ := p
 simp only [PairV.cells] at K1 hw0
 simp only [PairV.cells]
 clear hp hm
 go_enter Tryz.func42, Tryz.ntmps42
 go_wp2_with (refine wpList_alloc_agg rfl 59 rfl zeroPr zeroPr_info ?_; simp only [pU])
 have hw0' : w.alloc (.cells #[.slice kA kN kC, .slice vA vN vC, .bool gone] 59) = w0 := hw0.symm
 rw [hw0', ← hw1]
 clear hw0 hw0' hw1
 refine wp_region_held_drew (S := fun w' => Below w.heap.size w w' ∧ Blk w' w.heap.size 59 [.slice kA kN kC, .slice vA vN vC, .bool gone]) (by kernel_rfl) (⟨B1.out.drew, K1.out⟩) (fun hSA0 => ?_)
 obtain ⟨w1d, hwA⟩ : ∃ x, x = w1.drew := ⟨_, rfl⟩
 rw [← hwA] at hSA0 ⊢
 have KZ := hide (show Blk w1d (w.heap.size + 1) 59 zeroPr by rw [hwA]; exact K2.out)
 have HZ := hide (show w.heap.size + 1 < w1d.heap.size from KZ.out.lt)
 clear hwA
 refine tq 0 rfl hSA0 ?_
 (refine tq 1 rfl hSA0 ?_ (fun w' hSw => by have z := hSw.2.c0; go_simp; try with_reducible rfl))
 refine tq 3 rfl hSA0 ?_
 (refine tq 4 rfl hSA0 ?_ (fun w' hSw => by have z := hSw.2.c1; go_simp; try with_reducible rfl))
 refine tq 6 rfl hSA0 ?_
 (refine tq 7 rfl hSA0 ?_ (fun w' hSw => by have z := hSw.2.c2; go_simp; try with_reducible rfl))
 refine ry 2 rfl fun K hK => ?_
 go_simp
 refine (clone_any w1d w1d kA kN kC key (Below.refl _ _) (HP.out.key.below hSA0.1) (by have := HM.out; omega)).mono ?_
 rintro e w3 hp
 obtain ⟨A3, n3, c3, rfl, t3, f3⟩ := hp.fresh
 have T3 := hide t3
 have F3 := hide (Fr.older f3 hSA0.1)
 have N3 := hide (show ∀ ad, A3 = some ad → w.heap.size + 1 < ad.block from fun ad e => by have h1 := f3 ad e; have h2 := KZ.out.lt; omega)
 have B3 := hide t3.below
 have KZ := hide (KZ.out.under t3.below)
 clear hp t3 f3
 go_simp
 refine hK.out _ _ (⟨Below.then_ hSA0.1 B3.out, hSA0.2.under B3.out⟩) (fun hSA1 => ?_)
 clear hK K
 refine ry 5 rfl fun K hK => ?_
 go_simp
 refine (clone_any w3 w3 vA vN vC value (Below.refl _ _) (HP.out.value.below hSA1.1) (by have := HM.out; omega)).mono ?_
 rintro e w4 hp
 obtain ⟨A4, n4, c4, rfl, t4, f4⟩ := hp.fresh
 have T4 := hide t4
 have F4 := hide (Fr.older f4 hSA1.1)
 have N4 := hide (show ∀ ad, A4 = some ad → w.heap.size + 1 < ad.block from fun ad e => by have h1 := f4 ad e; have h2 := KZ.out.lt; omega)
 have B4 := hide t4.below
 have KZ := hide (KZ.out.under t4.below)
 have T3 := hide (T3.out.keep t4.below)
 clear hp t4 f4
 go_simp
 refine hK.out _ _ (⟨Below.then_ hSA1.1 B4.out, hSA1.2.under B4.out⟩) (fun hSA2 => ?_)
 clear hK K
 (refine tq 8 rfl hSA2 ?_ (fun w' hSw => by have z := mkPr_run w' ⟨A3, n3, c3, key, A4, n4, c4, value, gone⟩; go_simp; try with_reducible rfl))
 refine ry 9 rfl fun K hK => ?_
 refine step_storeP rfl _ _ rfl (w.heap.size + 1) zeroPr ⟨A3, n3, c3, key, A4, n4, c4, value, gone⟩ rfl (by rfl) (by rfl) KZ.out ?_
 intro w9 o9 z9 b9
 have K9 := hide b9
 have O9 := hide o9
 have S9 := hide (show Below w.heap.size w w9 from hSA2.1.trans (o9.below hSA2.1.size (fun i hi e => by have h9 : i = w.heap.size + 1 := e; omega)))
 have Y3 := hide (T3.out.bys.keep o9 (fun hpos ad e hf => by have h8 : ad.block = w.heap.size + 1 := hf; have h7 := N3.out ad e; omega))
 have Y4 := hide (T4.out.bys.keep o9 (fun hpos ad e hf => by have h8 : ad.block = w.heap.size + 1 := hf; have h7 := N4.out ad e; omega))
 have K19 := hide (show Blk w9 w.heap.size 59 _ from o9.blk hSA2.2 (fun e => by have h9 : w.heap.size = w.heap.size + 1 := e; omega))
 clear o9 z9 b9
 refine hK.out _ _ (⟨S9.out, K19.out⟩) (fun hSA3 => ?_)
 clear hK K
 refine wpAnyH_done (by kernel_rfl) ?_ _
 go_wp2_with fail
 refine bodyPost_ret (results_cell_blk rfl _ _ (w.heap.size + 1) 59 _ _ (by rfl) K9.out HU.out rfl (by rw [HI.out]; rfl)) rfl ⟨⟨A3, n3, c3, key, A4, n4, c4, value, gone⟩, rfl, rfl, ⟨Y3.out, T3.out.cap, Y4.out, T4.out.cap⟩, F3.out, F4.out, S9.out⟩
end
end Go.Proofs.YtjnpkcabkccaoaaGreat
