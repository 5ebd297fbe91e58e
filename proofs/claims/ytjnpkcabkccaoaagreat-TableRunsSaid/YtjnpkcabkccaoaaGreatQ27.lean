/- Lemmas and walks for TableRuns, packed. -/
import Derived.Test.YtjnpkcabkccaoaaGreatQ26
set_option maxRecDepth 100000
set_option maxHeartbeats 16000000
namespace Go.Proofs.YtjnpkcabkccaoaaGreat
open Go.RowKit
theorem rows_set1 : ∀ (l : List Slb) (a i : Nat) (s : Slb) (x : Int), (∀ s ∈ l, s.length = 128) → l[a]? = some s → i < 128 → (rows l).set (a * 128 + i) (.int .u8 x) = rows (l.set a (s.set i x))
 | [], _, _, _, _, _, h, _ => by simp at h
 | t :: l, 0, i, s, x, h128, h, hi => by
  have h1 := h128 t (by simp)
  simp at h; subst h
  have e : rows (t :: l) = enc t ++ rows l := rfl
  rw [e, Nat.zero_mul, Nat.zero_add, List.set_append_left _ _ (by rw [enc_length, h1]; exact hi)]
  simp [rows, enc, List.map_set]
 | t :: l, a + 1, i, s, x, h128, h, hi => by
  have h1 := h128 t (by simp)
  have e : rows (t :: l) = enc t ++ rows l := rfl
  have ih := rows_set1 l a i s x (fun t ht => h128 t (by simp [ht])) (by simpa using h) hi
  rw [e, List.set_append_right _ _ (by rw [enc_length, h1]; omega), enc_length, h1, show (a + 1) * 128 + i - 128 = a * 128 + i by omega, ih]
  rfl
def tearN (sl old : Slb) (i : Nat) : Slb := sl.take i ++ old.drop i
theorem mixN_length (sl old : Slb) (i : Nat) (h1 : sl.length = 128) (h2 : old.length = 128) (hi : i ≤ 128) : (tearN sl old i).length = 128 := by
 simp [tearN, h1, h2]; omega
theorem mixN_step (sl old : Slb) (i : Nat) (x : Int) (h1 : sl.length = 128) (h2 : old.length = 128) (hi : i < 128) (hx : sl[i]? = some x) : (tearN sl old i).set i x = tearN sl old (i + 1) := by
 unfold tearN
 have hl : (sl.take i).length = i := by rw [List.length_take]; omega
 have hi1 : i < sl.length := by omega
 have hi2 : i < old.length := by omega
 rw [List.set_append_right _ _ (by omega), hl, Nat.sub_self, List.drop_eq_getElem_cons hi2, List.set_cons_zero, List.take_succ_eq_append_getElem hi1]
 rw [List.getElem?_eq_getElem hi1] at hx
 injection hx with hx
 rw [hx]
 simp
theorem tear_tearN (sl old : Slb) (nn : Nat) : tear sl old (nn : Int) = tearN sl old (min nn 128) := by
 unfold tear tearN
 have : (min (nn : Int) 128).toNat = min nn 128 := by omega
 rw [this]
theorem DocIn.put {wr : World} {b k : Nat} {wv : Value} {m0 : Int} {d : Dev} {L : List Slb} {at_ i : Nat} {sl old : Slb} {x : Int}
  (hi : DocIn wr b k wv m0 { d with kept := L.set at_ (tearN sl old i) }) (hL : ∀ s ∈ L, s.length = 128) (h1 : sl.length = 128) (h2 : old.length = 128) (ha : at_ < L.length) (h128 : i < 128) (hx : sl[i]? = some x) :
  DocIn (wr.setCell ⟨k, at_ * 128 + i, none⟩ (.int .u8 x)).drew b k wv m0 { d with kept := L.set at_ (tearN sl old (i + 1)) } := by
 have hm := mixN_length sl old i h1 h2 (by omega)
 have o1 : Only (fun x => x = k) wr (wr.setCell ⟨k, at_ * 128 + i, none⟩ (.int .u8 x)).drew := ((Only.refl (fun x => x = k) wr).setCell (p := ⟨k, at_ * 128 + i, none⟩) (.inr rfl) _).drew
 have e : (L.set at_ (tearN sl old i)).set at_ ((tearN sl old i).set i x) = L.set at_ (tearN sl old (i + 1)) := by rw [List.set_set, mixN_step sl old i x h1 h2 h128 hx]
 have hb : Blk wr k 94 (rows (L.set at_ (tearN sl old i))) := hi.2.1
 have hb2 := hb.set_ (at_ * 128 + i) (.int .u8 x)
 rw [rows_set1 _ at_ i (tearN sl old i) x (fun s hs => by
  rcases List.mem_or_eq_of_mem_set hs with h | h
  ·exact hL s h
  ·subst h; exact hm) (List.getElem?_set_self ha) h128, e] at hb2
 exact hi.lay o1 (L.set at_ (tearN sl old (i + 1))) (by simp) hb2
theorem docrestart_any (w : World) (b : Nat) (F : Nat → Prop) (d : Dev) (B : Option Addr) (m c : Nat) (bs : List Int) (h : DocRep w b F d) (hwl : d.written.length ≤ 1000000) (hB : Bys w B m bs) (hap : Apart B m F) (hm : m ≤ 1000000) :
  Calls Tryz.prog 15 #[.pointer (some ⟨b, 0, none⟩), .slice B m c] w (DocPost w b F (d.restart bs) (.tuple #[])) := by
 have hlt := h.lt
 have hG := h.good
 obtain ⟨k, wv, m0, hi, _, rfl⟩ := h
 obtain ⟨A, cw, rfl, hrow⟩ := own_cases hi.2.2.1
 have c2 : w.cell? ⟨b, 1, none⟩ = some (.slice A d.written.length cw) := (hi.1.cell 1).trans rfl
 have HI := hide hi
 clear hi
 go_enter Tryz.func15, Tryz.ntmps15
 go_wp2
 go_loopw [12] (fun u wr => ∃ j : Nat, j ≤ d.written.length ∧ u = .int .i64 j ∧ DocIn wr b k (.slice A d.written.length cw) m0 { d with kept := lossy d.kept d.written bs j } ∧ Only (fun x => x = k) w wr) (fun u _ => d.written.length - (intOf u).toNat)
 case atStart => exact ⟨0, by omega, rfl, HI.out, Only.refl _ _⟩
 case round =>
  obtain ⟨j, hj, rfl, hi, ho⟩ := hrel
  obtain ⟨w5, hw5⟩ : ∃ w5, w5 = wr := ⟨_, rfl⟩
  subst hw5
  by_cases hlt : j < d.written.length
  ·obtain ⟨g, hAg, cs, hcs, hget⟩ := hrow (by omega)
   obtain ⟨p, hp⟩ : ∃ p, d.written[j]? = some p := ⟨_, List.getElem?_eq_getElem hlt⟩
   have hpw := hG.wat p (List.mem_of_getElem? hp)
   subst hAg
   obtain ⟨at_, sl⟩ := p
   simp only at hpw
   have hgk : ¬ g = k := by
    have := HI.out.ne.2.2
    intro e; exact this (by simp [Value.ownBlock, e])
   have hcr : Blk w5 g 98 cs := ho.blk hcs hgk
   have hget' : ∀ (i : Nat) (v : Value), (Value.int .i64 (at_ : Int) :: enc sl)[i]? = some v → cs[j * 129 + i]? = some v :=
    fun i v hv => hget _ _ (wcells_get d.written j (at_, sl) (fun q hq => (hG.wat q hq).2) hp i v hv)
   have I91 := hide (iszStep' at_ sl hpw.2)
   have u91 := hide Tryz.underlying98
   have j0 : (0 : Int) ≤ (j : Int) := by omega
   have j1 : (j : Int) < (d.written.length : Int) := by omega
   have hB5 : Bys w5 B m bs := hB.keep ho (fun hm0 ad e he => hap hm0 ad e (.inr (.inl he)))
   -- the byte's number
   have hk128 := lossy_128 d.kept d.written bs hG.k128 hG.wat j
   have hkl := lossy_length d.kept d.written bs j
   obtain ⟨old, hold⟩ : ∃ old, (lossy d.kept d.written bs j)[at_]? = some old := ⟨_, List.getElem?_eq_getElem (by rw [hkl]; exact hpw.1)⟩
   have ho128 : old.length = 128 := hk128 old (List.mem_of_getElem? hold)
   obtain ⟨nn, hnn, hnext⟩ : ∃ nn : Nat, ((j < m ∧ nn ≤ 255 ∧ bs[j]? = some (nn : Int)) ∨ (m ≤ j ∧ nn = 0)) ∧ (lossy d.kept d.written bs j).set at_ (tearN sl old (min nn 128)) = lossy d.kept d.written bs (j + 1) := by
    by_cases hjm : j < m
    ·obtain ⟨n, hn⟩ : ∃ n, bs[j]? = some n := ⟨_, List.getElem?_eq_getElem (by rw [hB.1]; exact hjm)⟩
     have hn2 := hB.2.1 n (List.mem_of_getElem? hn)
     obtain ⟨nn, rfl⟩ : ∃ nn : Nat, n = nn := ⟨n.toNat, by omega⟩
     refine ⟨nn, .inl ⟨hjm, by omega, hn⟩, ?_⟩
     rw [← tear_tearN]
     simp [lossy, hp, hn, hold]
    ·have hn : bs[j]? = none := List.getElem?_eq_none (by rw [hB.1]; omega)
     refine ⟨0, .inr ⟨by omega, rfl⟩, ?_⟩
     have e : tearN sl old (min 0 128) = old := by simp [tearN]
     rw [e]
     have : (lossy d.kept d.written bs j).set at_ old = lossy d.kept d.written bs j := by
      rw [List.getElem?_eq_getElem (by rw [hkl]; exact hpw.1)] at hold
      injection hold with hold
      rw [← hold]; simp
     rw [this]
     simp [lossy, hp, hn]
   have hstart : (lossy d.kept d.written bs j).set at_ (tearN sl old (min nn 0)) = lossy d.kept d.written bs j := by
    have e : tearN sl old (min nn 0) = old := by simp [tearN]
    rw [e]
    rw [List.getElem?_eq_getElem (by rw [hkl]; exact hpw.1)] at hold
    injection hold with hold
    rw [← hold]; simp
   generalize lossy d.kept d.written bs j = L at *
   have HR := hide hi
   have HC := hide hcr
   have HO := hide ho
   have HP := hide hp
   have HB5 := hide hB5
   have HNX := hide hnext
   have HST := hide hstart
   have HK := hide hk128
   clear hi hcr ho hcs hget hrow c2 hp hB5 hnext hstart hk128 hold
   go_wp2_with (first
    | (refine wpList_load_blk rfl 98 _ rfl g (j * 129) 98 cs (Value.int .i64 (at_ : Int) :: enc sl) _ (by rfl) HC.out hget' u91.out rfl I91.out ?_; simp only [pU])
    | (refine wpList_alloc_agg rfl 98 rfl (Value.int .i64 0 :: enc zeroS) zeroStep ?_; simp only [pU])
    | (refine wpList_store_blk rfl 98 _ _ rfl w5.heap.size 0 98 (Value.int .i64 0 :: enc zeroS) (Value.int .i64 (at_ : Int) :: enc sl) (by rfl) (by rfl) (Blk.new w5 _ _) (Nat.le_of_eq (by rw [chg_length _ _ hpw.2, chg_length _ _ zeroS_length])) I91.out (cons_one _ _) ?_; intro w2 o2 z2 b2; simp only [Act.put]))
   rw [lay_all _ _ (by rw [chg_length _ _ hpw.2, chg_length _ _ zeroS_length])] at b2
   have oX : Only (fun x => x = w5.heap.size) w5 w2 := ((Only.refl _ w5).alloc _).trans o2 (fun _ _ h => h)
   have i2 : DocIn w2 b k (.slice (some ⟨g, 0, none⟩) d.written.length cw) m0 { d with kept := L.set at_ (tearN sl old (min nn 0)) } := by
    rw [HST.out]; exact HR.out.keep1 oX (Nat.le_refl _)
   have hB2 : Bys w2 B m bs := HB5.out.keep oX (fun hm0 ad e he => by have := HB5.out.lt hm0 ad e; omega)
   have hHk : w5.heap.size ≠ k := fun e => by have := HR.out.lt k (.inr (.inl rfl)); omega
   have HB2 := hide hB2
   have B2 := hide b2
   have OX := hide oX
   clear o2 z2 hB2 b2 oX
   go_wp2
   go_loopw [17] (fun u wr => ∃ i : Nat, i ≤ 128 ∧ u = .int .i64 i ∧ DocIn wr b k (.slice (some ⟨g, 0, none⟩) d.written.length cw) m0 { d with kept := L.set at_ (tearN sl old (min nn i)) } ∧ Only (fun x => x = k) w2 wr) (fun u _ => 128 - (intOf u).toNat)
   case atStart => exact ⟨0, by omega, rfl, i2, Only.refl _ _⟩
   case round =>
    obtain ⟨i, hi128, rfl, hin, hon⟩ := hrel
    by_cases hil : i < 128
    ·obtain ⟨x, hx⟩ : ∃ x, sl[i]? = some x := ⟨_, List.getElem?_eq_getElem (by rw [hpw.2]; exact hil)⟩
     have i0 : (0 : Int) ≤ (i : Int) := by omega
     have i1 : (i : Int) < 128 := by omega
     have hbk : b ≠ k := HI.out.ne.1
     have hLset : (L.set at_ (tearN sl old (min nn i)))[at_]? = some (tearN sl old (min nn i)) := List.getElem?_set_self (by rw [hkl]; exact hpw.1)
     have hL128 : ∀ s ∈ L.set at_ (tearN sl old (min nn i)), s.length = 128 := fun s hs => by
      rcases List.mem_or_eq_of_mem_set hs with h1 | h1
      ·exact HK.out s h1
      ·subst h1; exact mixN_length _ _ _ hpw.2 ho128 (by omega)
     have hLlen : (L.set at_ (tearN sl old (min nn i))).length = d.kept.length := by rw [List.length_set]; exact hkl
     have c0 : wr.cell? ⟨b, 0, none⟩ = some (.slice (some ⟨k, 0, none⟩) d.kept.length d.kept.length) := by rw [hin.1.cell]; simp [hkl]
     have bH : Blk wr w5.heap.size 98 (Value.int .i64 (at_ : Int) :: enc sl) := hon.blk B2.out hHk
     have cH : wr.cell? ⟨w5.heap.size, 0, none⟩ = some (.int .i64 (at_ : Int)) := (bH.cell 0).trans rfl
     have cHi : wr.cell? ⟨w5.heap.size, 1 + i, none⟩ = some (.int .u8 x) := by
      rw [bH.cell, Nat.add_comm, List.getElem?_cons_succ]; simp [enc, hx]
     have cHi' : wr.cell? ⟨w5.heap.size, i + 1, none⟩ = some (.int .u8 x) := by rw [Nat.add_comm]; exact cHi
     have a0 : (0 : Int) ≤ (at_ : Int) := by omega
     have a1 : (at_ : Int) < (d.kept.length : Int) := by omega
     have hkk : Blk wr k 94 (rows (L.set at_ (tearN sl old (min nn i)))) := hin.2.1
     have hkc : ∃ v, wr.cell? ⟨k, at_ * 128 + i, none⟩ = some v := by
      rw [hkk.cell]
      exact ⟨_, List.getElem?_eq_getElem (by rw [rows_length _ hL128, hLlen]; omega)⟩
     obtain ⟨v0, hv0⟩ := hkc
     have fk := hkk.frozen (at_ * 128 + i)
     have hBr : Bys wr B m bs := HB2.out.keep hon (fun hm0 ad e he => hap hm0 ad e (.inr (.inl he)))
     have HIN := hide hin
     have HON := hide hon
     have HKK := hide hkk
     have HL128 := hide hL128
     have HLS := hide hLset
     have HX := hide hx
     have HLL := hide hLlen
     clear hin hon hkk bH hL128 hLset hx hLlen
     rcases hnn with ⟨hjm, hn255, hnj⟩ | ⟨hjm, rfl⟩
     ·obtain ⟨bB, oB, hBA, hBc⟩ := hBr.2.2 (by omega)
      subst hBA
      have cB := hBc j _ hnj
      have HNJ := hide hnj
      clear hBc hnj hBr
      have k0 : (j : Int) < (m : Int) := by omega
      by_cases hin2 : i < nn
      ·have k1 : (i : Int) < (nn : Int) := by omega
       have e1 : min nn i = i := by omega
       have e2 : min nn (i + 1) = i + 1 := by omega
       have hnew : Hid (DocIn (wr.setCell ⟨k, at_ * 128 + i, none⟩ (.int .u8 x)).drew b k (.slice (some ⟨g, 0, none⟩) d.written.length cw) m0 { d with kept := L.set at_ (tearN sl old (min nn (i + 1))) }) := by
        have h := HIN.out
        rw [e1] at h
        rw [e2]
        exact h.put HK.out hpw.2 ho128 (by rw [hkl]; exact hpw.1) hil HX.out
       have honew : Hid (Only (fun x => x = k) w2 (wr.setCell ⟨k, at_ * 128 + i, none⟩ (.int .u8 x)).drew) := (HON.out.setCell (p := ⟨k, at_ * 128 + i, none⟩) (.inr rfl) _).drew
       clear e1 e2
       go_wp2
       go_region_law (fail)
       all_goals
        go_wp2
        go_roundw
        case rel => exact ⟨i + 1, by omega, by go_num, hnew.out, honew.out⟩
        case measure => simp [intOf]; omega
      ·have k1 : (nn : Int) ≤ (i : Int) := by omega
       have e1 : min nn (i + 1) = min nn i := by omega
       go_wp2
       all_goals
        go_roundw
        case rel => exact ⟨i + 1, by omega, by go_num, by rw [e1]; exact HIN.out, HON.out⟩
        case measure => simp [intOf]; omega
     ·have k0 : (m : Int) ≤ (j : Int) := by omega
      have e1 : min 0 (i + 1) = min 0 i := by omega
      clear hBr
      go_wp2
      all_goals
       go_roundw
       case rel => exact ⟨i + 1, by omega, by go_num, by rw [e1]; exact HIN.out, HON.out⟩
       case measure => simp [intOf]; omega
    ·have hi' : i = 128 := by omega
     subst hi'
     have hL : DocIn wr b k (.slice (some ⟨g, 0, none⟩) d.written.length cw) m0 { d with kept := lossy d.kept d.written bs (j + 1) } := by rw [← HNX.out]; exact hin
     have HL := hide hL
     clear hin hL
     have hsz : w.heap.size ≤ w5.heap.size := HO.out.size
     go_wp2
     go_roundw
     case rel =>
      refine ⟨j + 1, by omega, by go_num, HL.out, ?_⟩
      exact (HO.out.trans OX.out (fun x hx e => by omega)).trans hon (fun _ _ h => h)
     case measure => simp [intOf]; omega
  ·have hj' : j = d.written.length := by omega
   subst hj'
   have f1 := hi.1.frozen 1
   have f3 := hi.1.frozen 3
   have f4 := hi.1.frozen 4
   have c1' : w5.cell? ⟨b, 1, none⟩ = some (.slice A d.written.length cw) := (hi.1.cell 1).trans rfl
   have c3' : w5.cell? ⟨b, 3, none⟩ = some (.bool (decide (0 ≤ d.budget))) := (hi.1.cell 3).trans rfl
   have c4' : w5.cell? ⟨b, 4, none⟩ = some (.bool d.down) := (hi.1.cell 4).trans rfl
   have HR := hide hi
   clear hi hrow c2
   go_wp2
   go_end0
   have hi := HR.out
   have hn := hi.ne
   have oL : Only (fun i => i = b) w5 (((w5.setCell ⟨b, 1, none⟩ (.slice none 0 0)).setCell ⟨b, 3, none⟩ (.bool false)).setCell ⟨b, 4, none⟩ (.bool false)) :=
    (((Only.refl (fun i => i = b) w5).setCell (p := ⟨b, 1, none⟩) (.inr rfl) _).setCell (p := ⟨b, 3, none⟩) (.inr rfl) _).setCell (p := ⟨b, 4, none⟩) (.inr rfl) _
   refine ⟨rfl, fun i => i = b ∨ i = k ∨ Value.ownBlock (.slice none 0 0) = some i, ⟨k, _, m0, ⟨?_, oL.blk hi.2.1 (Ne.symm hn.1), World.ownsRow_nil _ _ _ _, fun h => absurd h (by simp [Dev.restart])⟩, hG.restart bs, rfl⟩, ?_, ?_⟩
   ·exact ((hi.1.set_ 1 _).set_ 3 _).set_ 4 _
   ·exact (ho.mono (G := fun i => i = b ∨ i = k ∨ Value.ownBlock (.slice A d.written.length cw) = some i) (fun i _ h => .inr (.inl h))).trans oL (fun i _ h => .inl h)
   ·rintro i (rfl | rfl | h)
    ·left; exact .inl rfl
    ·left; exact .inr (.inl rfl)
    ·simp [Value.ownBlock] at h
end Go.Proofs.YtjnpkcabkccaoaaGreat
