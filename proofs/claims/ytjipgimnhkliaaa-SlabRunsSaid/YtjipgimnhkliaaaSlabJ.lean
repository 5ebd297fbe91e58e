/-
  The document's device: Sync.
-/
import Derived.Test.YtjipgimnhkliaaaSlabI
namespace Go.Proofs.Ytjipgimnhkliaaa
open Go.RowKit

theorem zeroStep : (Try.prog.info? 94).map (·.zero) = some (some (.agg (Value.int .i64 0 :: enc zeroS).toArray)) := by kernel_rfl
theorem iszStep' (n : Int) (s : Slb) (h : s.length = 128) : (Try.prog.info? 94).map (·.size) = some (Value.int .i64 n :: enc s).length := by rw [iszStep, chg_length n s h]
/-- One slab of the kept ones is laid anew. -/
theorem DocIn.lay {w w' : World} {b k : Nat} {wv : Value} {m : Int} {d : Dev} (hi : DocIn w b k wv m d) (ho : Only (fun i => i = k) w w') (kept' : List Slb) (hl : kept'.length = d.kept.length) (hb : Blk w' k 33 (rows kept')) :
    DocIn w' b k wv m { d with kept := kept' } := by
  have hn := hi.ne
  refine ⟨?_, hb, ho.own hi.2.2.1 (fun g e hg => hn.2.2 (hg ▸ e)), hi.2.2.2⟩
  have := ho.blk hi.1 hn.1
  simpa [hl] using this
theorem DocIn.keep1 {w w' : World} {b k : Nat} {wv : Value} {m : Int} {d : Dev} (hi : DocIn w b k wv m d) {H : Nat} (ho : Only (fun i => i = H) w w') (hH : w.heap.size ≤ H) : DocIn w' b k wv m d :=
  hi.keep ho (fun i h e => by have := hi.lt i h; omega)
theorem DocIn.keep1' {w0 w w' : World} {b k : Nat} {wv : Value} {m m0 : Int} {d d0 : Dev} (hi : DocIn w b k wv m d) {H : Nat} (ho : Only (fun i => i = H) w w') (h0 : DocIn w0 b k wv m0 d0) (hH : w0.heap.size ≤ H := by exact Nat.le_refl _) : DocIn w' b k wv m d :=
  hi.keep ho (fun i h e => by have := h0.lt i h; omega)
set_option maxHeartbeats 1000000 in
set_option maxRecDepth 100000 in
theorem docsync_yes (w : World) (b : Nat) (F : Nat → Prop) (d : Dev) (h : DocRep w b F d) (hwl : d.written.length ≤ 1000000) (hm : d.stops = false) :
    Calls Try.prog 26 #[.pointer (some ⟨b, 0, none⟩)] w (DocPost w b F d.sync.1 (.int .i64 d.sync.2)) := by
  have hlt := h.lt
  have hG := h.good
  have HS : Hid (d.sync = ({ d.after with kept := over d.kept d.written, written := [] }, 0)) := by show _ = _; simp [Dev.sync, hm]
  go_enter Try.func26, Try.ntmps26
  go_wp2_with (go_at_call 50; refine (spend_any _ b F d h).mono ?_; rintro e w1 ⟨rfl, hr1, ho1⟩; obtain ⟨k, wv, m, hi, hg1, rfl⟩ := hr1; obtain ⟨A, c, hA, hrow⟩ := own_cases hi.2.2.1; subst hA; have c2 : w1.cell? ⟨b, 1, none⟩ = some (.slice A d.after.written.length c) := (hi.1.cell 1).trans rfl; have HI := hide hi; clear hi)
  have hwn : d.after.written.length = d.written.length := rfl
  have HWN := hide hwn
  have hwl' : d.after.written.length ≤ 1000000 := hwl
  clear hwn
  go_loopw [13] (fun i wr => ∃ j : Nat, j ≤ d.after.written.length ∧ i = .int .i64 j ∧ DocIn wr b k (.slice A d.after.written.length c) m { d.after with kept := over d.kept (d.written.take j) } ∧ Only (fun x => x = k) w1 wr) (fun i _ => d.after.written.length - (intOf i).toNat)
  case atStart => exact ⟨0, by omega, rfl, HI.out, Only.refl _ _⟩
  case round =>
    obtain ⟨j, hj, rfl, hi, ho⟩ := hrel
    by_cases hlt : j < d.after.written.length
    · obtain ⟨g, hAg, cs, hcs, hget⟩ := hrow (by omega)
      obtain ⟨p, hp⟩ : ∃ p, d.written[j]? = some p := ⟨_, List.getElem?_eq_getElem hlt⟩
      have hpw := hG.wat p (List.mem_of_getElem? hp)
      subst hAg
      obtain ⟨at_, sl⟩ := p
      simp only at hpw
      have hgk : ¬ g = k := by
        have := HI.out.ne.2.2
        intro e; exact this (by simp [Value.ownBlock, e])
      have hcr : Blk wr g 94 cs := ho.blk hcs hgk
      have hget' : ∀ (i : Nat) (v : Value), (Value.int .i64 (at_ : Int) :: enc sl)[i]? = some v → cs[j * 129 + i]? = some v :=
        fun i v hv => hget _ _ (wcells_get d.written j (at_, sl) (fun q hq => (hG.wat q hq).2) hp i v hv)
      have I91 := hide (iszStep' at_ sl hpw.2)
      have I33 := hide (isz33' sl hpw.2)
      have u91 := hide Try.underlying94
      have j0 : (0 : Int) ≤ (j : Int) := by omega
      have j1 : (j : Int) < (d.after.written.length : Int) := by omega
      have HR := hide hi
      have HC := hide hcr
      have HO := hide ho
      have HP := hide hp
      clear hi hcr ho hcs hget hrow c2 hp
      go_wp2_with (first
        | (refine wpList_load_blk rfl 94 _ rfl g (j * 129) 94 cs (Value.int .i64 (at_ : Int) :: enc sl) _ (by rfl) HC.out hget' u91.out rfl I91.out ?_; simp only [Act.put, List.setIfInBounds_toArray, List.set_cons_zero, List.set_cons_succ])
        | (refine wpList_alloc_agg rfl 94 rfl (Value.int .i64 0 :: enc zeroS) zeroStep ?_; simp only [Act.put, List.setIfInBounds_toArray, List.set_cons_zero, List.set_cons_succ])
        | (refine wpList_store_blk rfl 94 _ _ rfl wr.heap.size 0 94 (Value.int .i64 0 :: enc zeroS) (Value.int .i64 (at_ : Int) :: enc sl) (by rfl) (by rfl) (Blk.new wr _ _) (Nat.le_of_eq (by rw [chg_length _ _ hpw.2, chg_length _ _ zeroS_length])) I91.out (cons_one _ _) ?_; intro w2 o2 z2 b2; simp only [Act.put]))
      rw [lay_all _ _ (by rw [chg_length _ _ hpw.2, chg_length _ _ zeroS_length])] at b2
      have hi2 : DocIn w2 b k (.slice (some ⟨g, 0, none⟩) d.after.written.length c) m { d.after with kept := over d.kept (d.written.take j) } :=
        (HR.out.keep1 ((Only.refl (fun i => i = wr.heap.size) wr).alloc _) (Nat.le_refl _)).keep1' o2 HR.out
      have hk128 : ∀ t ∈ over d.kept (d.written.take j), t.length = 128 := over_128 _ _ hG.k128 (fun q hq => (hG.wat q (List.mem_of_mem_take hq)).2)
      have hlen : (over d.kept (d.written.take j)).length = d.kept.length := over_length _ _
      have c0 : w2.cell? ⟨b, 0, none⟩ = some (.slice (some ⟨k, 0, none⟩) d.kept.length d.kept.length) := by rw [hi2.1.cell]; simp [hlen]
      have cH : w2.cell? ⟨wr.heap.size, 0, none⟩ = some (.int .i64 (at_ : Int)) := by rw [b2.cell]; rfl
      have rH : w2.rangeAt wr.heap.size 1 (enc sl) := b2.range 1 _ (fun i v hv => by rw [Nat.add_comm, List.getElem?_cons_succ]; exact hv)
      have tK : w2.there k (at_ * 128) 128 := hi2.2.1.there _ _ (by show _ ≤ (rows (over d.kept (d.written.take j))).length; rw [rows_length _ hk128, hlen]; omega)
      have hbk : b ≠ k := hi2.ne.1
      have hHk : wr.heap.size ≠ k := fun e => by have := HR.out.lt k (.inr (.inl rfl)); omega
      have i0 : (0 : Int) ≤ (at_ : Int) := by omega
      have i1 : (at_ : Int) < (d.kept.length : Int) := by omega
      have hu := Try.underlying33
      have hsz := I33.out
      have hone := enc_one sl
      have hlen2 : (enc sl).length = 128 := by rw [enc_length, hpw.2]
      have H2 := hide hi2
      have B2 := hide b2
      clear hi2 b2 hlen hk128
      go_region_held3 (fun w' => w'.cell? ⟨b, 0, none⟩ = some (.slice (some ⟨k, 0, none⟩) d.kept.length d.kept.length) ∧ w'.cell? ⟨wr.heap.size, 0, none⟩ = some (.int .i64 (at_ : Int)) ∧ w'.rangeAt wr.heap.size 1 (enc sl) ∧ w'.there k (at_ * 128) 128)
        (first | go_keep_ranges | (go_split_ands; exact ⟨keep_cell (by assumption) hbk, keep_cell (by assumption) hHk, World.rangeAt_setCells_apart (by assumption) _ _ _ (.inl hHk), World.there_setCells (by assumption) _ _ _⟩)) (fail)
      clear hu hsz hone hlen2 c0 cH rH tK
      go_wp2
      go_roundw
      case rel =>
        have hk128 : ∀ t ∈ over d.kept (d.written.take j), t.length = 128 := over_128 _ _ hG.k128 (fun q hq => (hG.wat q (List.mem_of_mem_take hq)).2)
        have oS : Only (fun i => i = k) w2 (w2.drew.setCells k (at_ * 128) (enc sl)) := Only.setCells (F := fun i => i = k) (.inr rfl) _ _ _ (Only.refl _ w2).drew
        have bS : Blk (w2.drew.setCells k (at_ * 128) (enc sl)) k 33 (rows (over d.kept (d.written.take (j + 1)))) := by
          have := Blk.cells (enc sl) (at_ * 128) w2.drew _ (show Blk w2.drew k _ _ from H2.out.2.1)
          rw [show (({ d.after with kept := over d.kept (d.written.take j) } : Dev)).kept = over d.kept (d.written.take j) from rfl,
            rows_set _ at_ sl hk128 hpw.2 (by rw [over_length]; exact hpw.1)] at this
          rw [over_take_succ _ _ _ _ HP.out]
          exact this
        refine ⟨j + 1, by omega, by go_num, ?_, ?_⟩
        · exact H2.out.lay oS _ (by rw [over_length]; exact (over_length _ _).symm) bS
        · have o1 : Only (fun x => x = k) w1 w2 := HO.out.trans ((((Only.refl (fun i => i = wr.heap.size) wr).alloc _).trans o2 (fun _ _ h => h))) (fun i hi e => by have := HO.out.size; omega)
          exact o1.trans oS (fun _ _ h => h)
      case measure => simp [intOf]; omega
    · have hj' : j = d.after.written.length := by omega
      have c2' : wr.cell? ⟨b, 1, none⟩ = some (.slice A d.after.written.length c) := by rw [hi.1.cell]; rfl
      have f2 := hi.1.frozen 1
      have HR := hide hi
      clear hi hrow c2
      go_wp2
      go_ret
      have hi := HR.out
      have ho1' := ho1.trans ho (fun i _ e => .inr (.inl e))
      have oL : Only (fun i => i = b) wr (wr.setCell ⟨b, 1, none⟩ (.slice none 0 0)) := (Only.refl (fun i => i = b) wr).setCell (p := ⟨b, 1, none⟩) (.inr rfl) _
      have hn := hi.ne
      have htk : d.written.take j = d.written := by rw [hj']; exact List.take_length
      refine ⟨by rw [HS.out]; rfl, fun i => i = b ∨ i = k ∨ Value.ownBlock (.slice none 0 0) = some i, ⟨k, _, m, ?_, ?_, rfl⟩, ho1'.trans oL (fun i _ e => .inl e), ?_⟩
      · rw [HS.out]
        rw [htk] at hi
        refine ⟨?_, oL.blk hi.2.1 (Ne.symm hn.1), World.ownsRow_nil _ _ _ _, hi.2.2.2⟩
        exact hi.1.set_ 1 _
      · rw [HS.out]
        exact hG.after.synced
      · rintro i (rfl | rfl | h)
        · left; exact .inl rfl
        · left; exact .inr (.inl rfl)
        · simp [Value.ownBlock] at h
theorem docsync_any (w : World) (b : Nat) (F : Nat → Prop) (d : Dev) (h : DocRep w b F d) (hwl : d.written.length ≤ 1000000) :
    Calls Try.prog 26 #[.pointer (some ⟨b, 0, none⟩)] w (DocPost w b F d.sync.1 (.int .i64 d.sync.2)) := by
  cases hm : d.stops with
  | false => exact docsync_yes w b F d h hwl hm
  | true =>
    have HS : d.sync = (d.after, 132) := by simp [Dev.sync, hm]
    rw [HS]
    clear HS
    go_enter Try.func26, Try.ntmps26
    go_wp2_with (go_at_call 50; refine (spend_any _ b F d h).mono ?_; rintro e w1 ⟨rfl, hr1, ho1⟩)
    go_ret
    exact ⟨rfl, F, hr1, ho1, fun _ h => .inl h⟩
end Go.Proofs.Ytjipgimnhkliaaa
