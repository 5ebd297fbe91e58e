/- Lemmas and walks for TableRuns, packed. -/
import Derived.Test.YtjnpkcabkccaoaaGreatQ11
import Derived.Test.YtjnpkcabkccaoaaGreatQ9
set_option maxRecDepth 100000
set_option maxHeartbeats 16000000
namespace Go.Proofs.YtjnpkcabkccaoaaGreat
open Go.RowKit
section
def hcells (s : St) (A : Option Addr) (n c : Nat) (many : Int) : List Value := ucells s.list ++ [.slice A n c, .int .u64 many]
theorem hcells_len (s : St) (A : Option Addr) (n c : Nat) (many : Int) : (hcells s A n c many).length = 10 := rfl
def mkH (parts : Array (Nat × Value)) : Sem Value := Instr.build 194 parts
theorem mkH_fold (parts : Array (Nat × Value)) : Instr.build 194 parts = mkH parts := rfl
theorem mkH_run (w : World) : (mkH #[(0, .agg (ucells Sha.first.list).toArray)]).run Tryz.prog w = .ok (.agg (hcells Sha.first none 0 0 0).toArray) w := by kernel_rfl
attribute [local go_sem ↓] mkK_fold mkSt_fold loadK_fold loadSt_fold mkH_fold
attribute [local go_sem] mkH_run
theorem HNew_any (w : World) :
  Calls Tryz.prog 117 #[] w fun e w' => ∃ g : Nat, e = .returned (.pointer (some ⟨g, 0, none⟩)) ∧ w.heap.size ≤ g ∧ Below w.heap.size w w' ∧ Blk w' g 194 (hcells Sha.first none 0 0 0) := by
 go_enter Tryz.func117, Tryz.ntmps117
 go_wp2_with fail
 refine (first_any _).mono ?_
 rintro e w1 ⟨rfl, hb⟩
 go_wp2_with fail
 go_ret
 exact ⟨_, rfl, hb.size, Below.then_ hb ((Below.refl _ w1).alloc (Nat.le_refl _) _), Blk.new _ _ _⟩
structure HS (w0 w : World) (g : Nat) (s : St) (A : Option Addr) (n c : Nat) (rest : List Int) (many : Int) : Prop where
 below : Below w0.heap.size w0 w
 base : w0.heap.size ≤ g
 blk : Blk w g 194 (hcells s A n c many)
 bys : Bys w A n rest
 cap : n ≤ c
 apart : Apart A n (fun i => i = g)
def HOwn (w0 w : World) (g : Nat) (A : Option Addr) (n c : Nat) (rest : List Int) : Prop :=
 ∃ G, Tail w 5 (.slice A n c) rest G ∧ ¬ G g ∧ ∀ i, G i → w0.heap.size ≤ i
section
variable {w0 w w' : World} {g : Nat} {s : St} {A : Option Addr} {n c : Nat} {rest : List Int} {many : Int}
theorem HS.range (h : HS w0 w g s A n c rest many) : w.rangeAt g 0 (ucells s.list) := h.blk.range 0 _ fun j v hv => by
 rw [Nat.zero_add, hcells, List.getElem?_append_left (List.getElem?_eq_some_iff.1 hv).1]; exact hv
theorem HS.c8 (h : HS w0 w g s A n c rest many) : w.cell? ⟨g, 8, none⟩ = some (.slice A n c) := (h.blk.cell 8).trans rfl
theorem HS.c9 (h : HS w0 w g s A n c rest many) : w.cell? ⟨g, 9, none⟩ = some (.int .u64 many) := (h.blk.cell 9).trans rfl
theorem HS.set9 (h : HS w0 w g s A n c rest many) (m : Int) : HS w0 (w.setCell ⟨g, 9, none⟩ (.int .u64 m)) g s A n c rest m := by
 have hb := h.blk.set_ 9 (.int .u64 m)
 exact ⟨h.below.trans ((Only.cell1 w g 9 (.int .u64 m)).below h.below.size (fun i hi e => by have h9 : i = g := e; have := h.base; omega)), h.base, hb, h.bys.keep (Only.cell1 w g 9 _) h.apart, h.cap, h.apart⟩
theorem HS.mk8 (hb : Below w0.heap.size w0 w) (hg : w0.heap.size ≤ g) (h : Blk w g 194 (hcells s A n c many)) {A' : Option Addr} {n' c' : Nat} {rest' : List Int} (hB : Bys w A' n' rest') (hc : n' ≤ c') (ha : Apart A' n' (fun i => i = g)) : HS w0 (w.setCell ⟨g, 8, none⟩ (.slice A' n' c')) g s A' n' c' rest' many := by
 have hb2 := h.set_ 8 (.slice A' n' c')
 exact ⟨hb.trans ((Only.cell1 w g 8 _).below hb.size (fun i hi e => by have h9 : i = g := e; omega)), hg, hb2, hB.keep (Only.cell1 w g 8 _) ha, hc, ha⟩
theorem HOwn.cell (h : HOwn w0 w g A n c rest) (i : Nat) (v : Value) (ha : Apart A n (fun i => i = g)) (hn : n = rest.length) : HOwn w0 (w.setCell ⟨g, i, none⟩ v) g A n c rest := by
 obtain ⟨G, h1, h2, h3⟩ := h
 refine ⟨G, h1.keep (Only.cell1 w g i v) (fun A' c' e => ?_) (fun i hi e => h2 (by have h9 : i = g := e; rwa [h9] at hi)), h2, h3⟩
 injection e with e1 e2 e3
 rw [← e1, ← hn]; exact ha
theorem HS.appended (h : HS w0 w g s A n c rest many) {G G' : Nat → Prop} {A' : Option Addr} {c' m : Nat} {cs : List Int} (hGg : ¬ G g) (hG0 : ∀ i, G i → w0.heap.size ≤ i) (hm : cs.length = m)
  (ht : Tail w' 5 (.slice A' (rest.length + m) c') (rest ++ cs) G') (ho : Only G w w') (hs : ∀ i, G' i → G i ∨ w.heap.size ≤ i) (hk : (m = 0 ∧ Value.slice A' (rest.length + m) c' = .slice A n c) ∨ ∀ i, (Value.slice A' (rest.length + m) c').ownBlock = some i → G' i) :
  Below w0.heap.size w0 w' ∧ Blk w' g 194 (hcells s A n c many) ∧ HS w0 (w'.setCell ⟨g, 8, none⟩ (.slice A' (rest.length + m) c')) g s A' (rest.length + m) c' (rest ++ cs) many ∧ HOwn w0 (w'.setCell ⟨g, 8, none⟩ (.slice A' (rest.length + m) c')) g A' (rest.length + m) c' (rest ++ cs) := by
 have hlt := h.blk.lt
 have hG'g : ¬ G' g := fun e => by
  rcases hs g e with h1 | h1
  ·exact hGg h1
  ·omega
 have hb : Below w0.heap.size w0 w' := h.below.trans (ho.below h.below.size (fun i hi hg => by have := hG0 i hg; omega))
 have hblk := ho.blk h.blk hGg
 have ha : Apart A' (rest.length + m) (fun i => i = g) := by
  rcases hk with ⟨rfl, e⟩ | hk
  ·injection e with e1 e2 e3
   subst e1 e2
   exact h.apart
  ·intro hn ad e1 e2
   subst e1
   have h9 : ad.block = g := e2
   exact hG'g (by rw [← h9]; exact hk _ rfl)
 obtain ⟨A2, c2, e, hB, hc⟩ := ht.read
 have hl : (rest ++ cs).length = rest.length + m := by rw [List.length_append, hm]
 rw [hl] at e hB hc
 injection e with e1 e2 e3
 subst e1 e3
 refine ⟨hb, hblk, HS.mk8 hb h.base hblk hB hc ha, ?_⟩
 refine HOwn.cell ⟨G', ht, hG'g, fun i hi => ?_⟩ 8 _ ha hl.symm
 rcases hs i hi with h1 | h1
 ·exact hG0 i h1
 ·exact Nat.le_trans h.below.size h1
theorem HS.under (h : HS w0 w g s A n c rest many) (hb : Below w.heap.size w w') : HS w0 w' g s A n c rest many :=
 ⟨Below.then_ h.below hb, h.base, h.blk.under hb, h.bys.below hb, h.cap, h.apart⟩
theorem HS.drew (h : HS w0 w g s A n c rest many) : HS w0 w.drew g s A n c rest many := ⟨h.below.drew, h.base, h.blk, h.bys, h.cap, h.apart⟩
theorem lay_state (s s' : St) (A : Option Addr) (n c : Nat) (many : Int) : lay (hcells s A n c many) 0 (ucells s'.list) = hcells s' A n c many := rfl
end
theorem flat_take {α : Type} (l : List (List α)) (j : Nat) (x : List α) (h : l[j]? = some x) : (l.take (j + 1)).flatten = (l.take j).flatten ++ x := by
 rw [List.take_add_one, h]; simp
theorem flat_short {α : Type} (l : List (List α)) (j : Nat) (h : j < l.length) : (l.take j).flatten.length ≤ l.dropLast.flatten.length := by
 have e : l.dropLast = l.take j ++ (l.dropLast).drop j := by
  rw [List.dropLast_eq_take]
  have : (l.take (l.length - 1)).take j = l.take j := by rw [List.take_take, Nat.min_eq_left (by omega)]
  rw [← this, List.take_append_drop]
 rw [e]; simp
theorem flat_le {α : Type} (l : List (List α)) (j : Nat) : (l.take j).flatten.length ≤ l.flatten.length := by
 have e : l.flatten = (l.take j).flatten ++ (l.drop j).flatten := by rw [← List.flatten_append, List.take_append_drop]
 rw [e]; simp
def restAt (w : World) (g : Nat) : Nat := match w.cell? ⟨g, 8, none⟩ with | some (.slice _ n _) => n | _ => 0
theorem HS.restAt {w0 w : World} {g : Nat} {s : St} {A : Option Addr} {n c : Nat} {rest : List Int} {many : Int} (h : HS w0 w g s A n c rest many) : restAt w g = n := by
 unfold Go.Proofs.YtjnpkcabkccaoaaGreat.restAt; rw [h.c8]
theorem HAdd_any (w0 w : World) (g : Nat) (A : Option Addr) (n c : Nat) (xss : List (List Int)) (hb : Below w0.heap.size w0 w) (hg : w0.heap.size ≤ g) (hH : Blk w g 194 (hcells Sha.first none 0 0 0)) (hX : Byss w0 A n xss) (hshort : xss.dropLast.flatten.length < 64) (hlong : xss.flatten.length ≤ 100000000) (hn : n ≤ 1000000) :
  Calls Tryz.prog 118 #[.pointer (some ⟨g, 0, none⟩), .slice A n c] w fun e w' => e = .returned (.tuple #[]) ∧ ∃ A' m c', HS w0 w' g (Sha.pieces (xss.flatten.length / 64) Sha.first xss.flatten) A' m c' (xss.flatten.drop (64 * (xss.flatten.length / 64))) (xss.flatten.length : Int) := by
 have H0 := hide (show HS w0 w g Sha.first none 0 0 [] 0 from ⟨hb, hg, hH, Bys.nil _ _, Nat.le_refl _, fun h => absurd h (by omega)⟩)
 have W0 := hide (show HOwn w0 w g none 0 0 [] from ⟨_, Tail.full (Bys.nil _ _), fun h => h, fun _ h => h.elim⟩)
 have HX := hide hX
 have HLIM := hide hn
 clear hb hg hH hn
 go_enter Tryz.func118, Tryz.ntmps118
 have hI := isSt
 go_wp2_with fail
 go_loopw [8] (fun i wr => ∃ j : Nat, j ≤ n ∧ i = .int .i64 j ∧ ∃ A' m c', HS w0 wr g (Sha.pieces ((xss.take j).flatten.length / 64) Sha.first (xss.take j).flatten) A' m c' ((xss.take j).flatten.drop (64 * ((xss.take j).flatten.length / 64))) ((xss.take j).flatten.length : Int) ∧ (j < n → HOwn w0 wr g A' m c' (xss.take j).flatten)) (fun i _ => n - (intOf i).toNat)
 case atStart => exact ⟨0, by omega, rfl, none, 0, 0, by simpa [Sha.pieces] using H0.out, fun _ => by simpa using W0.out⟩
 case round =>
  obtain ⟨j, hj, rfl, A1, m1, c1, hS, hO⟩ := hrel
  by_cases hlt : j < n
  ·have hO := hO hlt
   have hlen : xss.length = n := hX.1
   have hsh : (xss.take j).flatten.length < 64 := Nat.lt_of_le_of_lt (flat_short xss j (by omega)) hshort
   obtain ⟨x, hx⟩ : ∃ x, xss[j]? = some x := ⟨_, List.getElem?_eq_getElem (by omega)⟩
   have htk := flat_take xss j x hx
   have hle := flat_le xss (j + 1)
   obtain ⟨b0, off0, rfl, hcells⟩ := hX.2 (by omega)
   obtain ⟨A2, n2, c2, hcell, hB2, hc2⟩ := hcells j x hx
   have hD0 : (xss.take j).flatten.length / 64 = 0 := by omega
   rw [hD0] at hS
   simp only [Nat.mul_zero, List.drop_zero, Sha.pieces] at hS
   rw [htk] at hle
   obtain ⟨D, hD⟩ : ∃ D, D = (xss.take j).flatten := ⟨_, rfl⟩
   rw [← hD] at hS hO hsh hle htk
   have hm1 : m1 = D.length := by have := hS.bys.1; omega
   have hn2 : n2 = x.length := by have := hB2.1; omega
   have HTK := hide htk
   have HX3 := hide hX
   obtain ⟨G, hT, hGg, hG0⟩ := hO
   subst hm1
   have hcj : wr.cell? ⟨b0, off0 + j, none⟩ = some (.slice A2 n2 c2) := (hS.below.cell (World.block_lt_of_cell? w0 _ hcell)).trans hcell
   have f9 := hS.blk.frozen 9
   have c9 := hS.c9
   have hle9 : D.length + x.length ≤ 100000000 := by rw [List.length_append] at hle; omega
   have v1 : IntKind.u64.wrap (n2 : Int) = n2 := by rw [IntKind.wrap_u64]; omega
   have v2 : IntKind.u64.wrap ((D.length : Int) + (n2 : Int)) = ((D ++ x).length : Int) := by rw [IntKind.wrap_u64, List.length_append]; omega
   have hS1 := hide (hS.set9 ((D ++ x).length : Int))
   have hT1 := hide (show Tail (wr.setCell ⟨g, 9, none⟩ (.int .u64 ((D ++ x).length : Int))) 5 (.slice A1 D.length c1) D G from hT.keep (Only.cell1 wr g 9 _) (fun A' c' e => by injection e with e1 e2 e3; subst e1; exact hS.apart) (fun i hi e => hGg (by have h9 : i = g := e; rwa [h9] at hi)))
   have hB3 := hide (show Bys (wr.setCell ⟨g, 9, none⟩ (.int .u64 ((D ++ x).length : Int))) A2 n2 x from (hB2.keep (Only.of_below hS1.out.below (fun _ => False)) (fun _ _ _ h => h)))
   have k8 := hS1.out.c8
   have hle2 := hide hle
   have HL : D.length + n2 ≤ 140737488355328 := by omega
   have HGG := hide hGg
   have HG0 := hide hG0
   have hj0 : (0 : Int) ≤ (j : Int) := by omega
   have hj1 : (j : Int) < (n : Int) := by omega
   obtain ⟨M, hM⟩ : ∃ M : Int, M = ((D ++ x).length : Int) := ⟨_, rfl⟩
   rw [← hM] at v2 hS1 hT1 hB3 k8
   have HM := hide hM
   have HL2 := hide HL
   have HN2 := hide hn2
   have HSHORT := hide hshort
   have HLONG := hide hlong
   clear htk hD hD0 hcells hX HX hM hS hT hle hcell hB2 hGg hG0 HL hsh hn2 hshort hlong hle9
   obtain ⟨i0, z0, hi0, hz0, hs0, hby0, hzs0⟩ := u8_info
   go_wp2_with (refine wpList_append_tail rfl _ _ 23 rfl 5 i0 z0 Tryz.underlying23 hi0 hz0 hs0 hby0 hzs0 (.slice A1 D.length c1) D G (by rfl) hT1.out A2 n2 c2 x (by rfl) hB3.out HL2.out ?_; intro A3 c3 G3 w3 t3 o3 s3 k3; obtain ⟨q1, q2, q3, q4⟩ := hS1.out.appended HGG.out HG0.out HN2.out.symm t3 o3 s3 k3; have f8 := q2.frozen 8; have c8 : w3.cell? ⟨g, 8, none⟩ = some (.slice A1 D.length c1) := (q2.cell 8).trans rfl; have q1' := hide q1; have q2' := hide q2; have q3' := hide q3; have q4' := hide q4; clear q1 q2 q3 q4 t3 o3 s3 k3; simp only [pU])
   obtain ⟨E, hE⟩ : ∃ E, E = D ++ x := ⟨_, rfl⟩
   have hLE : D.length + n2 = E.length := by rw [hE, List.length_append, HN2.out]
   have hME : M = (E.length : Int) := by rw [HM.out, hE]
   rw [← hE] at q3' q4' HTK hle2
   rw [hLE] at q3' q4' ⊢
   have HSH := hide (show j + 1 < n → E.length < 64 from fun h => by rw [← HTK.out]; exact Nat.lt_of_le_of_lt (flat_short xss (j + 1) (by rw [HX3.out.1]; exact h)) HSHORT.out)
   have HLL := hide (show E.length ≤ 100000000 by exact Nat.le_trans hle2.out HLONG.out)
   obtain ⟨w4, hw4⟩ : ∃ w4, w4 = w3.setCell ⟨g, 8, none⟩ (.slice A3 E.length c3) := ⟨_, rfl⟩
   rw [← hw4] at q3' q4' ⊢
   rw [hME] at q3'
   clear hw4 hE hLE hME f8 c8 q1' q2' hS1 hT1 hB3 k8 v1 v2 HM HL2 HGG HG0 HN2 c9 f9 hcj hx hle2 hO
   obtain ⟨J, hJ⟩ : ∃ J : Int, J = (j : Int) := ⟨_, rfl⟩
   have HJ := hide hJ
   rw [← hJ] at hj0 hj1 ⊢
   clear hJ
   go_loopw [36] (fun _ ws => ∃ k A' m c', HS w0 ws g (Sha.pieces k Sha.first E) A' m c' (E.drop (64 * k)) (E.length : Int) ∧ 64 * k + m = E.length ∧ (k = 0 → HOwn w0 ws g A' m c' E)) (fun _ ws => restAt ws g)
   case atStart => exact ⟨0, A3, E.length, c3, by simpa [Sha.pieces] using q3'.out, by omega, fun _ => q4'.out⟩
   case round =>
    obtain ⟨k, A5, m5, c5, hS, hkm, hO⟩ := hrel
    by_cases h64 : 64 ≤ m5
    ·obtain ⟨AH, hr1, hr2, hr3, hr4⟩ := slice_head A5 m5 c5 64 h64 hS.cap
     obtain ⟨AT, ht1, ht2, ht3, ht4⟩ := slice_from A5 m5 c5 64 h64 hS.cap
     have hm0 : ((64 : Nat) : Int) = 64 := rfl
     rw [hm0] at hr1 hr2 ht1 ht2
     have hBH := hide (hr3 _ _ hS.bys)
     have hBT := hide (ht3 _ _ hS.bys)
     have haT : Apart AT (m5 - 64) (fun i => i = g) := fun hn ad e h9 => by
      obtain ⟨ad', e1, e2⟩ := ht4 ad e
      exact hS.apart (by omega) ad' e1 (by rw [← e2]; exact h9)
     have HAT := hide haT
     have c8 := hS.c8
     have HS5 := hide hS
     have h640 : (64 : Int) ≤ (m5 : Int) := by omega
     have hrest := hS.restAt
     clear hr3 hr4 ht3 ht4 hm0 haT hS hO
     go_wp2_with fail
     refine wp_region_held_drew (S := fun _ => True) (by kernel_rfl) trivial (fun _ => ?_)
     obtain ⟨w5, hw5⟩ : ∃ w5, w5 = wr.drew := ⟨_, rfl⟩
     rw [← hw5]
     have HS6 := hide (show HS w0 w5 g (Sha.pieces k Sha.first E) A5 m5 c5 (E.drop (64 * k)) (E.length : Int) by rw [hw5]; exact HS5.out.drew)
     have hBH6 := hide (show Bys w5 AH 64 ((E.drop (64 * k)).take 64) by rw [hw5]; exact hBH.out)
     have hBT6 := hide (show Bys w5 AT (m5 - 64) ((E.drop (64 * k)).drop 64) by rw [hw5]; exact hBT.out)
     have c86 : w5.cell? ⟨g, 8, none⟩ = some (.slice A5 m5 c5) := by rw [hw5]; exact c8
     have hld := loadSt_run w5 g 0 (Sha.pieces k Sha.first E).list HS6.out.range rfl
     clear hw5 HS5 hBH hBT c8
     refine tq 0 rfl trivial ?_
     refine tq 1 rfl trivial ?_
     refine tq 2 rfl trivial ?_
     refine tq 3 rfl trivial ?_
     refine tq 5 rfl trivial ?_
     refine tq 6 rfl trivial ?_
     refine tq 7 rfl trivial ?_
     refine wpAnyH_ready (rs := [4, 8]) (by kernel_rfl) (by simp) ?_
     refine AllReadyH.cons rfl (fun K hK => ?_) (AllReadyH.cons rfl (fun K hK => ?_) AllReadyH.nil)
     ·go_simp
      refine hK.out _ _ trivial (fun _ => ?_)
      clear hK K
      refine ry 8 rfl fun K hK => ?_
      go_simp
      refine hK.out _ _ trivial (fun _ => ?_)
      clear hK K
      refine tq 9 rfl trivial ?_
      refine ry 10 rfl fun K hK => ?_
      go_simp
      refine (mix_any w5 (Sha.pieces k Sha.first E) AH 64 c5 ((E.drop (64 * k)).take 64) hBH6.out (by omega) (by omega)).mono ?_
      rintro e w6 ⟨rfl, hb6⟩
      go_simp
      refine hK.out _ _ trivial (fun _ => ?_)
      clear hK K
      have HS7 := hide (HS6.out.under hb6)
      have hBT7 := hide (hBT6.out.below hb6)
      clear HS6 hBH6 hBT6 c86 hld hb6
      refine tq 11 rfl trivial ?_
      refine tq 12 rfl trivial ?_
      refine ry 13 rfl fun K hK => ?_
      rw [if_pos (by rfl)]
      refine wp_store_blk 191 _ _ rfl g 0 194 (hcells (Sha.pieces k Sha.first E) A5 m5 c5 (E.length : Int)) (ucells (Sha.mix (Sha.pieces k Sha.first E) ((E.drop (64 * k)).take 64)).list) (by rfl) (by rfl) HS7.out.blk (by rw [hcells_len, ucells_st]; decide) (by rw [ucells_st]; exact hI) (ucells_one _) ?_
      intro w7 o7 z7 b7
      rw [lay_state] at b7
      have f8 := b7.frozen 8
      have c8 : w7.cell? ⟨g, 8, none⟩ = some (.slice A5 m5 c5) := (b7.cell 8).trans rfl
      have o7' := hide o7
      have b7' := hide b7
      clear o7 b7 z7
      refine hK.out _ _ trivial (fun _ => ?_)
      clear hK K
      refine wpAnyH_done (by kernel_rfl) ?_ _
      simp only [Act.put]
      go_wp2_with fail
      have hb7 : Below w0.heap.size w0 w7 := HS7.out.below.trans (o7'.out.below HS7.out.below.size (fun i hi e => by have h9 : i = g := e; have := HS7.out.base; omega))
      have q := HS.mk8 hb7 HS7.out.base b7'.out (hBT7.out.keep o7'.out HAT.out) (show m5 - 64 ≤ c5 - 64 by have := HS7.out.cap; omega) HAT.out
      have e1 : Sha.mix (Sha.pieces k Sha.first E) ((E.drop (64 * k)).take 64) = Sha.pieces (k + 1) Sha.first E := by rw [Sha.pieces_add k 1]; rfl
      have e2 : (E.drop (64 * k)).drop 64 = E.drop (64 * (k + 1)) := by rw [List.drop_drop]; rfl
      rw [e1, e2] at q
      refine ⟨⟨k + 1, AT, m5 - 64, c5 - 64, q, by omega, fun h => absurd h (by omega)⟩, ?_⟩
      rw [q.restAt, hrest]
      omega
     ·go_simp
      refine hK.out _ _ trivial (fun _ => ?_)
      clear hK K
      refine tq 9 rfl trivial ?_
      refine ry 4 rfl fun K hK => ?_
      go_simp
      refine hK.out _ _ trivial (fun _ => ?_)
      clear hK K
      refine ry 10 rfl fun K hK => ?_
      go_simp
      refine (mix_any w5 (Sha.pieces k Sha.first E) AH 64 c5 ((E.drop (64 * k)).take 64) hBH6.out (by omega) (by omega)).mono ?_
      rintro e w6 ⟨rfl, hb6⟩
      go_simp
      refine hK.out _ _ trivial (fun _ => ?_)
      clear hK K
      have HS7 := hide (HS6.out.under hb6)
      have hBT7 := hide (hBT6.out.below hb6)
      clear HS6 hBH6 hBT6 c86 hld hb6
      refine tq 11 rfl trivial ?_
      refine tq 12 rfl trivial ?_
      refine ry 13 rfl fun K hK => ?_
      rw [if_pos (by rfl)]
      refine wp_store_blk 191 _ _ rfl g 0 194 (hcells (Sha.pieces k Sha.first E) A5 m5 c5 (E.length : Int)) (ucells (Sha.mix (Sha.pieces k Sha.first E) ((E.drop (64 * k)).take 64)).list) (by rfl) (by rfl) HS7.out.blk (by rw [hcells_len, ucells_st]; decide) (by rw [ucells_st]; exact hI) (ucells_one _) ?_
      intro w7 o7 z7 b7
      rw [lay_state] at b7
      have f8 := b7.frozen 8
      have c8 : w7.cell? ⟨g, 8, none⟩ = some (.slice A5 m5 c5) := (b7.cell 8).trans rfl
      have o7' := hide o7
      have b7' := hide b7
      clear o7 b7 z7
      refine hK.out _ _ trivial (fun _ => ?_)
      clear hK K
      refine wpAnyH_done (by kernel_rfl) ?_ _
      simp only [Act.put]
      go_wp2_with fail
      have hb7 : Below w0.heap.size w0 w7 := HS7.out.below.trans (o7'.out.below HS7.out.below.size (fun i hi e => by have h9 : i = g := e; have := HS7.out.base; omega))
      have q := HS.mk8 hb7 HS7.out.base b7'.out (hBT7.out.keep o7'.out HAT.out) (show m5 - 64 ≤ c5 - 64 by have := HS7.out.cap; omega) HAT.out
      have e1 : Sha.mix (Sha.pieces k Sha.first E) ((E.drop (64 * k)).take 64) = Sha.pieces (k + 1) Sha.first E := by rw [Sha.pieces_add k 1]; rfl
      have e2 : (E.drop (64 * k)).drop 64 = E.drop (64 * (k + 1)) := by rw [List.drop_drop]; rfl
      rw [e1, e2] at q
      refine ⟨⟨k + 1, AT, m5 - 64, c5 - 64, q, by omega, fun h => absurd h (by omega)⟩, ?_⟩
      rw [q.restAt, hrest]
      omega
    ·have h640 : ¬ (64 : Int) ≤ (m5 : Int) := by omega
     have hk : k = E.length / 64 := by omega
     have c8 := hS.c8
     have HS5 := hide hS
     have HO5 := hide hO
     have HKM := hide hkm
     have HK := hide hk
     clear hS hO hkm hk
     have HJ2 : IntKind.i64.wrap (J + 1) = J + 1 := by rw [IntKind.wrap_i64]; have := HX3.out.1; have := HLIM.out; omega
     go_wp2_with fail
     refine ⟨⟨j + 1, by omega, congrArg (Value.int .i64) (by have := HJ.out; omega), A5, m5, c5, ?_, fun h => ?_⟩, by have := HJ.out; simp [intOf]; omega⟩
     ·rw [HTK.out, ← HK.out]; exact HS5.out
     ·rw [HTK.out]; exact HO5.out (by have := HSH.out h; have := HK.out; omega)
  ·obtain rfl : j = n := by omega
   have hall : xss.take j = xss := List.take_of_length_le (by rw [hX.1]; exact Nat.le_refl _)
   rw [hall] at hS
   have HS5 := hide hS
   clear hS hO hall
   go_wp2_with fail
   go_end0
   exact ⟨rfl, _, _, _, HS5.out⟩
end
section
attribute [local go_sem ↓] mkK_fold mkSt_fold loadK_fold loadSt_fold mkH_fold
attribute [local go_sem] mkH_run
theorem HS.read {w0 w : World} {g : Nat} {s : St} {A : Option Addr} {n c : Nat} {rest : List Int} {many : Int} (h : HS w0 w g s A n c rest many) {w' : World} (hb : Below w.heap.size w w') :
  w'.cell? ⟨g, 8, none⟩ = some (.slice A n c) ∧ w'.cell? ⟨g, 9, none⟩ = some (.int .u64 many) ∧ w'.rangeAt g 0 (ucells s.list) ∧ Bys w' A n rest := by
 have h2 := h.under hb
 exact ⟨h2.c8, h2.c9, h2.range, h2.bys⟩
def lenV (v : Value) : Nat := match v with | .slice _ n _ => n | _ => 0
def zero32 : List Int := List.replicate 32 0
theorem zero32_info : (Tryz.prog.info? 104).map (·.zero) = some (some (.agg (bcs zero32).toArray)) := by kernel_rfl
theorem shr64_run (n k : Nat) (hk : k ≤ 56) (w : World) : (Op.shift .shr .u64 (n : Int) .i64 (k : Int)).run Tryz.prog w = .ok (.int .u64 ((n / 2 ^ k : Nat) : Int)) w := by
 unfold Op.shift
 rw [if_neg (by omega)]
 have e : min (k : Int).toNat IntKind.u64.bits = k := by simp only [IntKind.bits]; omega
 simp only [e, Sem.run_pure]
 rw [Int.fdiv_eq_ediv_of_nonneg _ (Int.le_of_lt (Int.pow_pos (by decide)))]
 push_cast
 rfl
theorem eight_take (n j : Nat) (hj : j < 8) : (Sha.eight n).take (j + 1) = (Sha.eight n).take j ++ [((n / 256 ^ (7 - j) % 256 : Nat) : Int)] := by
 rw [List.take_add_one]
 congr 1
 simp only [Sha.eight, List.getElem?_map, List.getElem?_range hj, Option.map_some, Option.toList_some]
def outAt (F : St) (j : Nat) : List Int := (F.list.take j).flatMap Sha.four ++ List.replicate (32 - 4 * j) 0
def fb (X : W32) (d : Nat) : Int := ((X.toNat / d % 256 : Nat) : Int)
theorem out_step (F : St) (j : Nat) (hj : j < 8) : (((((bcs (outAt F j)).set (4 * j) (.int .u8 (fb (F.list.getD j 0) 16777216))).set (4 * j + 1) (.int .u8 (fb (F.list.getD j 0) 65536))).set (4 * j + 2) (.int .u8 (fb (F.list.getD j 0) 256))).set (4 * j + 3) (.int .u8 (((F.list.getD j 0).toNat % 256 : Nat) : Int))) = bcs (outAt F (j + 1)) := by
 rcases j with _ | _ | _ | _ | _ | _ | _ | _ | j
 all_goals first | rfl | omega
theorem index_run (F : St) (j : Nat) (hj : j < 8) (w : World) : (Instr.index 191 (.agg (ucells F.list).toArray) (.int .i64 (j : Int))).run Tryz.prog w = .ok (.int .u32 (u (F.list.getD j 0))) w := by
 rcases j with _ | _ | _ | _ | _ | _ | _ | _ | j
 all_goals first | (exfalso; omega) | kernel_rfl
theorem out_zero (F : St) : outAt F 0 = zero32 := rfl
theorem out_full (F : St) : outAt F 8 = F.bytes := by rw [outAt, List.take_of_length_le (by rw [F.list_len]; exact Nat.le_refl _)]; simp [St.bytes]
theorem out_len (F : St) (j : Nat) (hj : j ≤ 8) : (outAt F j).length = 32 := by
 rcases j with _ | _ | _ | _ | _ | _ | _ | _ | _ | j
 all_goals first | rfl | omega
theorem HSum_any (w0 w : World) (g : Nat) (A : Option Addr) (m c : Nat) (D : List Int) (hH : HS w0 w g (Sha.pieces (D.length / 64) Sha.first D) A m c (D.drop (64 * (D.length / 64))) (D.length : Int)) (hlong : D.length ≤ 100000000) :
  Calls Tryz.prog 119 #[.pointer (some ⟨g, 0, none⟩)] w fun e w' => e = .returned (.agg (bcs (sha D)).toArray) ∧ Below w.heap.size w w' := by
 have HH := hide hH
 have hI := isSt
 obtain ⟨rest, hrest⟩ : ∃ rest, rest = D.drop (64 * (D.length / 64)) := ⟨_, rfl⟩
 obtain ⟨st, hst⟩ : ∃ st, st = Sha.pieces (D.length / 64) Sha.first D := ⟨_, rfl⟩
 rw [← hrest, ← hst] at HH
 have hm : m = D.length % 64 := by have := HH.out.bys.1; rw [hrest, List.length_drop] at this; omega
 have HR := hide hrest
 have HT := hide hst
 have HL := hide hlong
 have HM := hide hm
 clear hH hrest hst hlong hm
 have c8 := HH.out.c8
 have c9 := HH.out.c9
 have b0 : Below w.heap.size w ((w.alloc (.cells (bcs zero32).toArray 104)).alloc (.cells #[] 5)) := Below.then_ ((Below.refl _ w).alloc (Nat.le_refl _) _) ((Below.refl _ _).alloc (Nat.le_refl _) _)
 obtain ⟨k8, k9, kr, kB⟩ := HH.out.read b0
 have KB := hide kB
 have KR := hide (show Blk ((w.alloc (.cells (bcs zero32).toArray 104)).alloc (.cells #[] 5)) w.heap.size 104 (bcs zero32) from (Blk.new w _ _).alloc _)
 have B0 := hide b0
 have SZ := hide (show ((w.alloc (.cells (bcs zero32).toArray 104)).alloc (.cells #[] 5)).heap.size = w.heap.size + 2 by simp)
 clear kr kB b0
 go_enter Tryz.func119, Tryz.ntmps119
 go_wp2_with (first
  | (refine wpList_alloc_agg rfl 104 rfl (bcs zero32) zero32_info ?_; simp only [pU])
  | (at_builtin; refine wpList_app rfl _ _ rfl ((w.alloc (.cells (bcs zero32).toArray 104)).alloc (.cells #[] 5)) _ 0 0 [] (by rfl) (Mine.nil (Below.refl _ _) _) A m c rest (by rfl) KB.out (by have := HM.out; have := HL.out; omega) ?_; intro A1 m1 c1 w1 t1 f1; simp only [pU])
  | (at_builtin; refine wpList_app rfl _ _ rfl ((w.alloc (.cells (bcs zero32).toArray 104)).alloc (.cells #[] 5)) A1 m1 c1 ([] ++ rest) (by rfl) (t1.alloc _) (some ⟨w1.heap.size, 0, none⟩) 1 1 [128] (by rfl) (Bys.one w1 _ 128 (by decide) (by decide)) (by have := HM.out; have := HL.out; have := t1.len; have := KB.out.1; simp at *; omega) ?_; intro A2 m2 c2 w2 t2 f2; simp only [pU]))
 have T2 := hide (show Mine 5 ((w.alloc (.cells (bcs zero32).toArray 104)).alloc (.cells #[] 5)) w2 A2 m2 c2 (rest ++ [128]) from t2)
 clear t1 f1 t2 f2 c8 c9 KB
 obtain ⟨W1, hW1⟩ : ∃ W1, W1 = ((w.alloc (.cells (bcs zero32).toArray 104)).alloc (.cells #[] 5)) := ⟨_, rfl⟩
 rw [← hW1] at T2 k8 k9 KR B0 SZ
 clear hW1
 have K8 := hide k8
 have K9 := hide k9
 clear k8 k9
 have hlr : rest.length = D.length % 64 := by rw [HR.out, List.length_drop]; omega
 have HLR := hide hlr
 clear hlr
 go_loopw [3] (fun b wr => ∃ (i : Nat) (A' : Option Addr) (m' c' : Nat), i ≤ Sha.zeros D.length ∧ b = .slice A' m' c' ∧ Mine 5 W1 wr A' m' c' (rest ++ 128 :: List.replicate i 0)) (fun b _ => 200 - lenV b)
 case atStart => exact ⟨0, A2, m2, c2, Nat.zero_le _, rfl, by simpa using T2.out⟩
 case round =>
  obtain ⟨i, A3, m3, c3, hi, rfl, ht⟩ := hrel
  have hm3 : m3 = D.length % 64 + 1 + i := by
   have := ht.len
   rw [List.length_append, List.length_cons, List.length_replicate, HLR.out] at this
   omega
  have HT3 := hide ht
  have hz : Sha.zeros D.length < 64 := Sha.zeros_lt _
  have hrm : (m3 : Int).tmod 64 = ((m3 % 64 : Nat) : Int) := by rw [Int.tmod_eq_emod_of_nonneg (by omega)]; omega
  obtain ⟨R, hR⟩ : ∃ R : Int, R = ((m3 % 64 : Nat) : Int) := ⟨_, rfl⟩
  rw [← hR] at hrm
  have hre : (m3 : Int) % 64 = R := by omega
  have HM3 := hide hm3
  by_cases hlt : i < Sha.zeros D.length
  ·have hne : ¬ R = 56 := by unfold Sha.zeros at hlt; omega
   have HB := Bys.one wr 5 0 (by decide) (by decide)
   have HR3 := hide hR
   clear hR ht hz
   go_wp2_with (at_builtin; refine wpList_app rfl _ _ rfl W1 A3 m3 c3 (rest ++ 128 :: List.replicate i 0) (by rfl) (HT3.out.alloc _) (some ⟨wr.heap.size, 0, none⟩) 1 1 [0] (by rfl) HB (by have := Sha.zeros_lt D.length; have := HM3.out; omega) ?_; intro A4 m4 c4 w4 t4 f4; simp only [pU])
   have hm4 : m4 = m3 + 1 := by have := t4.len; rw [List.length_append, HT3.out.len] at this; simp at this; omega
   refine ⟨⟨i + 1, A4, m4, c4, by omega, rfl, ?_⟩, by have := Sha.zeros_lt D.length; have := HM3.out; simp only [lenV]; omega⟩
   have e : rest ++ 128 :: List.replicate (i + 1) (0 : Int) = rest ++ 128 :: List.replicate i 0 ++ [0] := by rw [List.replicate_succ']; simp
   rw [e]; exact t4
  ·have hne : R = 56 := by unfold Sha.zeros at hlt hi; omega
   obtain rfl : i = Sha.zeros D.length := by omega
   have hb1 : Below w.heap.size w wr := Below.trans B0.out (HT3.out.below.mono (by rw [SZ.out]; omega))
   obtain ⟨k8, k9, kr, kB⟩ := HH.out.read hb1
   have KRR := hide kr
   have KR2 := hide (KR.out.under HT3.out.below)
   have HB1 := hide hb1
   have v8 : IntKind.u64.wrap (8 * (D.length : Int)) = ((8 * D.length : Nat) : Int) := by rw [IntKind.wrap_u64]; have := HL.out; omega
   clear hm3 hR ht hz kr kB hb1
   go_wp2_with fail
   obtain ⟨N, hN⟩ : ∃ N : Nat, N = 8 * D.length := ⟨_, rfl⟩
   have hNI : 8 * (D.length : Int) = (N : Int) := by omega
   rw [hNI]
   obtain ⟨w3, hw3⟩ : ∃ w3, w3 = wr := ⟨_, rfl⟩
   rw [← hw3] at HT3 k8 k9 KRR KR2 HB1 ⊢
   have K81 := hide k8
   have HNN := hide hN
   clear hw3 k8 k9 v8 hNI hN
   obtain ⟨b3, hb3⟩ : ∃ b3, b3 = rest ++ 128 :: List.replicate (Sha.zeros D.length) (0 : Int) := ⟨_, rfl⟩
   rw [← hb3] at HT3
   have HB3 := hide hb3
   have hl3 : b3.length ≤ 200 := by have := HT3.out.len; have := HM3.out; have := Sha.zeros_lt D.length; omega
   have HL3 := hide hl3
   clear hb3 hl3 hi hlt hre hne hrm wr
   go_loopw [3, 31] (fun b i wr => ∃ (j : Nat) (A' : Option Addr) (m' c' : Nat), j ≤ 8 ∧ i = .int .i64 j ∧ b = .slice A' m' c' ∧ Mine 5 W1 wr A' m' c' (b3 ++ (Sha.eight N).take j)) (fun _ i _ => 8 - (intOf i).toNat)
   case atStart => exact ⟨0, A3, m3, c3, by omega, rfl, rfl, by simpa using HT3.out⟩
   case round =>
    obtain ⟨j, A4, m4, c4, hj, rfl, rfl, ht⟩ := hrel
    have HT4 := hide ht
    by_cases hlt : j < 8
    ·obtain ⟨J, hJ⟩ : ∃ J : Int, J = (j : Int) := ⟨_, rfl⟩
     obtain ⟨J8, hJ8⟩ : ∃ J8 : Int, J8 = 8 * (j : Int) := ⟨_, rfl⟩
     obtain ⟨SH, hSH⟩ : ∃ SH : Int, SH = ((56 - 8 * j : Nat) : Int) := ⟨_, rfl⟩
     obtain ⟨V, hV⟩ : ∃ V : Int, V = ((N / 2 ^ (56 - 8 * j) : Nat) : Int) := ⟨_, rfl⟩
     have a1 : IntKind.i64.wrap (8 * J) = J8 := by rw [IntKind.wrap_i64]; omega
     have a2 : IntKind.i64.wrap (56 - J8) = SH := by rw [IntKind.wrap_i64]; omega
     have a3 : IntKind.i64.wrap (J + 1) = J + 1 := by rw [IntKind.wrap_i64]; omega
     have hsh := shr64_run N (56 - 8 * j) (by omega)
     rw [← hSH, ← hV] at hsh
     obtain ⟨B, hB⟩ : ∃ B : Int, B = V % 256 := ⟨_, rfl⟩
     have hw8 : IntKind.u8.wrap V = B := by rw [u8_wrap, hB]
     have HBY := Bys.one wr 5 B (by omega) (by omega)
     have p0 : J < 8 := by omega
     have hbv : B = ((N / 256 ^ (7 - j) % 256 : Nat) : Int) := by
      rw [hB, hV]
      have e : (256 : Nat) ^ (7 - j) = 2 ^ (56 - 8 * j) := by rw [show (256 : Nat) = 2 ^ 8 from rfl, ← Nat.pow_mul]; congr 1; omega
      rw [e]; omega
     have HBV := hide hbv
     have HJ := hide hJ
     rw [← hJ]
     clear hJ hJ8 hSH hV hB hbv ht
     go_wp2_with (at_builtin; refine wpList_app rfl _ _ rfl W1 A4 m4 c4 (b3 ++ (Sha.eight N).take j) (by rfl) (HT4.out.alloc _) (some ⟨wr.heap.size, 0, none⟩) 1 1 [B] (by rfl) HBY (by have := HT4.out.len; have := HL3.out; rw [List.length_append, List.length_take, Sha.eight_len] at *; omega) ?_; intro A5 m5 c5 w5 t5 f5; simp only [pU])
     refine ⟨⟨j + 1, A5, m5, c5, by omega, congrArg (Value.int .i64) (by have := HJ.out; omega), rfl, ?_⟩, by have := HJ.out; simp [intOf]; omega⟩
     rw [eight_take N j hlt, ← HBV.out, ← List.append_assoc]
     exact t5
    ·obtain rfl : j = 8 := by omega
     have hfull : b3 ++ (Sha.eight N).take 8 = rest ++ Sha.tail D.length := by
      rw [HB3.out, List.take_of_length_le (by rw [Sha.eight_len]; exact Nat.le_refl _), Sha.tail, HNN.out, Nat.mod_eq_of_lt (by have := HL.out; omega)]
      simp
     rw [hfull] at HT4
     have hb1 : Below w.heap.size w wr := Below.trans B0.out (HT4.out.below.mono (by rw [SZ.out]; omega))
     obtain ⟨k8, k9, kr, kB⟩ := HH.out.read hb1
     have KR4 := hide (KR.out.under HT4.out.below)
     have HB4 := hide hb1
     have hld := loadSt_run wr g 0 st.list kr rfl
     obtain ⟨w4, hw4⟩ : ∃ w4, w4 = wr := ⟨_, rfl⟩
     rw [← hw4] at HT4 KR4 HB4 hld ⊢
     clear hw4 ht hfull k8 k9 kr kB K81 KRR KR2 HB1 hb1 hlt hj wr
     have B6 := hide (Blk.new w4 191 (ucells zeroSt))
     have ls : (ucells zeroSt).length = 8 := rfl
     have HV := hide Tryz.underlying191
     go_wp2_with (first
      | (refine wpList_alloc_agg rfl 191 rfl (ucells zeroSt) zeroSt_info ?_; simp only [pU])
      | (refine wpList_store_blk rfl 191 _ _ rfl w4.heap.size 0 191 (ucells zeroSt) (ucells st.list) (by rfl) (by rfl) B6.out (by rw [ls, ucells_st]; decide) (by rw [hI, ucells_st]) (ucells_one _) ?_; intro w5 o5 z5 b5; simp only [Act.put]))
     rw [lay_all (ucells zeroSt) _ (by rw [ls, ucells_st])] at b5
     have hb5 : Below w4.heap.size w4 w5 := Below.trans ((Below.refl _ w4).alloc (Nat.le_refl _) _) (o5.below (by simp) (fun i hi e => by have h9 : i = w4.heap.size := e; omega))
     obtain ⟨PP, hPP⟩ : ∃ PP, PP = Sha.padded D := ⟨_, rfl⟩
     have hdrop : rest ++ Sha.tail D.length = PP.drop (64 * (D.length / 64)) := by
      rw [hPP, Sha.padded, List.drop_append_of_le_length (by omega), ← HR.out]
     have hst2 : st = Sha.pieces (D.length / 64) Sha.first PP := by
      rw [HT.out, hPP, Sha.padded, Sha.pieces_front _ _ _ _ (by omega)]
     have hwhole : PP.length % 64 = 0 := by rw [hPP]; exact Sha.padded_whole D
     have hplen : PP.length ≤ 1000000000 := by rw [hPP, Sha.padded_len]; have := Sha.zeros_lt D.length; have := HL.out; omega
     rw [hdrop] at HT4
     rw [hst2] at b5
     have hB4 := HT4.out.bys
     have hC4 := HT4.out.cap
     have hl4 : 64 * (D.length / 64) + m4 = PP.length := by have := HT4.out.len; rw [List.length_drop, hPP, Sha.padded_len] at this; rw [hPP, Sha.padded_len]; omega
     have HPP := hide hPP
     have HWH := hide hwhole
     have HPL := hide hplen
     have HO5 := hide hb5
     have HB5 := hide b5
     have HB4R := hide hB4
     clear hdrop hst2 hwhole hplen hPP hb5 b5 o5 z5 hB4 hld B6
     go_loopw [3] (fun b ws => ∃ (r : Nat) (A' : Option Addr) (m' c' : Nat), b = .slice A' m' c' ∧ Bys w4 A' m' (PP.drop (64 * r)) ∧ m' ≤ c' ∧ 64 * r + m' = PP.length ∧ Blk ws w4.heap.size 191 (ucells (Sha.pieces r Sha.first PP).list) ∧ Below w4.heap.size w4 ws) (fun b _ => lenV b)
     case atStart => exact ⟨D.length / 64, A4, m4, c4, rfl, HB4R.out, hC4, hl4, HB5.out, HO5.out⟩
     case round =>
      obtain ⟨r, A6, m6, c6, rfl, hB, hc, hl, hY, ho⟩ := hrel
      have hbw := hB.below ho
      by_cases hpos : 0 < m6
      ·have h64 : 64 ≤ m6 := by have := HWH.out; omega
       obtain ⟨AH, hr1, hr2, hr3, _⟩ := slice_head A6 m6 c6 64 h64 hc
       obtain ⟨AT, ht1, ht2, ht3, _⟩ := slice_from A6 m6 c6 64 h64 hc
       have hm0 : ((64 : Nat) : Int) = 64 := rfl
       rw [hm0] at hr1 hr2 ht1 ht2
       have hBT := hide (ht3 _ _ hB)
       have hp0 : (0 : Int) < (m6 : Int) := by omega
       have h640 : (64 : Int) ≤ (m6 : Int) := by omega
       obtain ⟨w7, hw7⟩ : ∃ w7, w7 = wr.drew := ⟨_, rfl⟩
       have hBH := hide (show Bys w7 AH 64 ((PP.drop (64 * r)).take 64) by rw [hw7]; exact hr3 _ _ hbw)
       have hld := loadSt_run w7 w4.heap.size 0 (Sha.pieces r Sha.first PP).list (by rw [hw7]; exact hY.whole) rfl
       have hY7 := hide (show Blk w7 w4.heap.size 191 (ucells (Sha.pieces r Sha.first PP).list) by rw [hw7]; exact hY)
       have ho7 := hide (show Below w4.heap.size w4 w7 by rw [hw7]; exact ho.drew)
       have HLL := hide hl
       have HC6 := hide hc
       clear hr3 ht3 hB hbw hY ho hl hc
       go_wp2_with fail
       refine wp_region_still_tail 3 (by kernel_rfl) (by kernel_rfl) ?_
       simp only [List.take_succ_cons, List.take_zero, List.drop_succ_cons, List.drop_zero]
       change wpStill _ _ wr.drew (fun a' => wpList _ _ _ _ a' wr.drew) _ _
       rw [← hw7]
       clear hw7
       repeat still_step
       try refine wpStill_nil ?_
       go_wp2_with fail
       refine (mix_any w7 (Sha.pieces r Sha.first PP) AH 64 c6 ((PP.drop (64 * r)).take 64) hBH.out (by omega) (by omega)).mono ?_
       rintro e w8 ⟨rfl, hb8⟩
       have hY8 := hide (hY7.out.under hb8)
       have ho8 := hide (Below.then_ ho7.out hb8)
       clear hY7 ho7 hBH hld hb8
       go_wp2_with (refine wpList_store_blk rfl 191 _ _ rfl w4.heap.size 0 191 (ucells (Sha.pieces r Sha.first PP).list) (ucells (Sha.mix (Sha.pieces r Sha.first PP) ((PP.drop (64 * r)).take 64)).list) (by rfl) (by rfl) hY8.out (by rw [ucells_st, ucells_st]; decide) (by rw [hI, ucells_st]) (ucells_one _) ?_; intro w9 o9 z9 b9; simp only [Act.put])
       rw [lay_all (ucells (Sha.pieces r Sha.first PP).list) _ (by rw [ucells_st, ucells_st])] at b9
       have e1 : Sha.mix (Sha.pieces r Sha.first PP) ((PP.drop (64 * r)).take 64) = Sha.pieces (r + 1) Sha.first PP := by rw [Sha.pieces_add r 1]; rfl
       have e2 : (PP.drop (64 * r)).drop 64 = PP.drop (64 * (r + 1)) := by rw [List.drop_drop]; rfl
       rw [e1] at b9
       rw [e2] at hBT
       have hb9 : Below w4.heap.size w4 w9 := ho8.out.trans (o9.below ho8.out.size (fun i hi e => by have h9 : i = w4.heap.size := e; omega))
       refine ⟨?_, by show m6 - 64 < m6; omega⟩
       repeat apply Exists.intro
       exact ⟨⟨r + 1, AT, m6 - 64, c6 - 64, rfl, hBT.out, by have := HC6.out; omega, by have := HLL.out; omega, b9, hb9⟩, rfl⟩
      ·obtain rfl : m6 = 0 := by omega
       obtain ⟨F, hF⟩ : ∃ F, F = Sha.pieces r Sha.first PP := ⟨_, rfl⟩
       have hsha : sha D = F.bytes := by
        rw [sha, hF, ← HPP.out]
        congr 2
        omega
       rw [← hF] at hY
       have HSHA := hide hsha
       have hb1 : Below w.heap.size w wr := HB4.out.trans (ho.mono HB4.out.size)
       have HB9 := hide hb1
       have KR9 := hide (KR4.out.under ho)
       have hp0 : ¬ (0 : Int) < ((0 : Nat) : Int) := by omega
       obtain ⟨w5, hw5⟩ : ∃ w5, w5 = wr := ⟨_, rfl⟩
       rw [← hw5] at hY HB9 KR9 ⊢
       have HSZ9 := hide (show w.heap.size < w5.heap.size from KR9.out.lt)
       have hld := loadSt_run (w5.alloc (.cells (bcs zero32).toArray 104)) w4.heap.size 0 F.list (hY.alloc _).whole rfl
       have B7 := hide (Blk.new w5 104 (bcs zero32))
       have K7 := hide (KR9.out.alloc (.cells (bcs zero32).toArray 104))
       have B8 := hide (Below.trans HB9.out (((Below.refl _ w5).alloc (Nat.le_refl _) (.cells (bcs zero32).toArray 104)).mono HB9.out.size))
       clear hw5 hF hsha hb1 hB hbw hY ho hl hc hpos wr
       go_wp2_with (refine wpList_alloc_agg rfl 104 rfl (bcs zero32) zero32_info ?_; simp only [pU])
       obtain ⟨w6, hw6⟩ : ∃ w6, w6 = w5.alloc (.cells (bcs zero32).toArray 104) := ⟨_, rfl⟩
       rw [← hw6] at B7 K7 B8 ⊢
       clear hw6 hld KR9 HB9
       go_loopw [58] (fun i ws => ∃ j : Nat, j ≤ 8 ∧ i = .int .i64 j ∧ Blk ws w5.heap.size 104 (bcs (outAt F j)) ∧ Only (fun i => i = w5.heap.size) w6 ws) (fun i _ => 8 - (intOf i).toNat)
       case atStart => exact ⟨0, by omega, rfl, by rw [out_zero]; exact B7.out, Only.refl _ _⟩
       case round =>
        obtain ⟨j, hj, rfl, hY, ho⟩ := hrel
        by_cases hlt : j < 8
        ·have hst4 := out_step F j hlt
         obtain ⟨X, hX⟩ : ∃ X, X = F.list.getD j 0 := ⟨_, rfl⟩
         have hix := index_run F j hlt
         rw [← hX] at hix
         rw [← hX] at hst4
         have hcell : ∀ i, i < 32 → ∃ v, wr.cell? ⟨w5.heap.size, i, none⟩ = some v := fun i hi => by
          rw [hY.cell]
          exact ⟨_, List.getElem?_eq_getElem (by rw [bcs_length, out_len F j hj]; exact hi)⟩
         obtain ⟨y0, c0⟩ := hcell (4 * j) (by omega)
         obtain ⟨y1, c1⟩ := hcell (4 * j + 1) (by omega)
         obtain ⟨y2, c2⟩ := hcell (4 * j + 2) (by omega)
         obtain ⟨y3, c3⟩ := hcell (4 * j + 3) (by omega)
         have f0 := hY.frozen (4 * j)
         have f1 := hY.frozen (4 * j + 1)
         have f2 := hY.frozen (4 * j + 2)
         have f3 := hY.frozen (4 * j + 3)
         obtain ⟨z0, hz0⟩ : ∃ z : Int, z = fb X 16777216 := ⟨_, rfl⟩
         obtain ⟨z1, hz1⟩ : ∃ z : Int, z = fb X 65536 := ⟨_, rfl⟩
         obtain ⟨z2, hz2⟩ : ∃ z : Int, z = fb X 256 := ⟨_, rfl⟩
         obtain ⟨z3, hz3⟩ : ∃ z : Int, z = ((X.toNat % 256 : Nat) : Int) := ⟨_, rfl⟩
         have q0 : IntKind.u8.wrap (u X / 16777216) = z0 := by rw [hz0, u8_wrap]; unfold u fb; omega
         have q1 : IntKind.u8.wrap (u X / 65536) = z1 := by rw [hz1, u8_wrap]; unfold u fb; omega
         have q2 : IntKind.u8.wrap (u X / 256) = z2 := by rw [hz2, u8_wrap]; unfold u fb; omega
         have q3 : IntKind.u8.wrap (u X) = z3 := by rw [hz3, u8_wrap]; unfold u; omega
         rw [← hz0, ← hz1, ← hz2, ← hz3] at hst4
         have hY2 := hide ((((hY.set_ (4 * j) (.int .u8 z0)).set_ (4 * j + 1) (.int .u8 z1)).set_ (4 * j + 2) (.int .u8 z2)).set_ (4 * j + 3) (.int .u8 z3))
         rw [hst4] at hY2
         have hO2 := hide ((((ho.trans (Only.cell1 wr w5.heap.size (4 * j) (.int .u8 z0)) (fun _ _ h => h)).trans (Only.cell1 _ w5.heap.size (4 * j + 1) (.int .u8 z1)) (fun _ _ h => h)).trans (Only.cell1 _ w5.heap.size (4 * j + 2) (.int .u8 z2)) (fun _ _ h => h)).trans (Only.cell1 _ w5.heap.size (4 * j + 3) (.int .u8 z3)) (fun _ _ h => h))
         have i0 : (0 : Int) ≤ (j : Int) := by omega
         have i1 : (j : Int) < 8 := by omega
         have a0 : IntKind.i64.wrap (4 * (j : Int)) = 4 * (j : Int) := by rw [IntKind.wrap_i64]; omega
         have a1 : IntKind.i64.wrap (4 * (j : Int) + 1) = 4 * (j : Int) + 1 := by rw [IntKind.wrap_i64]; omega
         have a2 : IntKind.i64.wrap (4 * (j : Int) + 2) = 4 * (j : Int) + 2 := by rw [IntKind.wrap_i64]; omega
         have a3 : IntKind.i64.wrap (4 * (j : Int) + 3) = 4 * (j : Int) + 3 := by rw [IntKind.wrap_i64]; omega
         have n0 : (4 * (j : Int)).toNat = 4 * j := by omega
         have n1 : (4 * (j : Int) + 1).toNat = 4 * j + 1 := by omega
         have n2 : (4 * (j : Int) + 2).toNat = 4 * j + 2 := by omega
         have n3 : (4 * (j : Int) + 3).toNat = 4 * j + 3 := by omega
         have p0 : (0 : Int) ≤ 4 * (j : Int) := by omega
         have p1 : (0 : Int) ≤ 4 * (j : Int) + 1 := by omega
         have p2 : (0 : Int) ≤ 4 * (j : Int) + 2 := by omega
         have p3 : (0 : Int) ≤ 4 * (j : Int) + 3 := by omega
         have r0 : 4 * (j : Int) < 32 := by omega
         have r1 : 4 * (j : Int) + 1 < 32 := by omega
         have r2 : 4 * (j : Int) + 2 < 32 := by omega
         have r3 : 4 * (j : Int) + 3 < 32 := by omega
         clear hst4 hX hcell hY ho hz0 hz1 hz2 hz3
         go_wp2_with fail
         exact ⟨⟨j + 1, by omega, by simp, hY2.out, hO2.out⟩, by simp [intOf]; omega⟩
        ·obtain rfl : j = 8 := by omega
         rw [out_full, ← HSHA.out] at hY
         have lsh : (bcs (sha D)).length = 32 := by rw [bcs_length, sha_len]
         have lz32 : (bcs zero32).length = 32 := rfl
         have hHH := hide Tryz.underlying104
         have hIH : (Tryz.prog.info? 104).map (·.size) = some 32 := by kernel_rfl
         have HBW := hide (B8.out.trans (ho.below B8.out.size (fun i hi e => by have h9 : i = w5.heap.size := e; have := HSZ9.out; omega)))
         have K9 := hide (ho.blk K7.out (by have := HSZ9.out; omega))
         have HY := hide hY
         clear hY ho
         go_wp2_with (first
          | (refine wpList_load_blk rfl 104 _ rfl w5.heap.size 0 104 (bcs (sha D)) (bcs (sha D)) _ (by rfl) HY.out (fun i v hv => by rw [Nat.zero_add]; exact hv) hHH.out rfl (by rw [hIH, lsh]) ?_; simp only [pU])
          | (refine wpList_store_blk rfl 104 _ _ rfl w.heap.size 0 104 (bcs zero32) (bcs (sha D)) (by rfl) (by rfl) K9.out (by rw [lz32, lsh]; decide) (by rw [hIH, lsh]) (bcs_one _) ?_; intro w9 o9 z9 b9; simp only [Act.put]))
         rw [lay_all (bcs zero32) _ (by rw [lz32, lsh])] at b9
         refine bodyPost_ret (results_cell_blk rfl _ _ w.heap.size 104 _ _ (by rfl) b9 hHH.out rfl (by rw [hIH, lsh])) rfl ⟨rfl, ?_⟩
         exact HBW.out.trans (o9.below HBW.out.size (fun i hi e => by have h9 : i = w.heap.size := e; omega))
end
end Go.Proofs.YtjnpkcabkccaoaaGreat
