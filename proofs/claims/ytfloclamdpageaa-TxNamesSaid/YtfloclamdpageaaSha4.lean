/-
  digest: the hasher: New, Add.
-/
import Derived.Test.YtfloclamdpageaaSha3
import Derived.Test.YtfloclamdpageaaPieceE
import Derived.Test.YtfloclamdpageaaRefSixB
namespace Go.Proofs.Ytfloclamdpageaa
open Go.RowKit

def hcells (s : St) (A : Option Addr) (n c : Nat) (many : Int) : List Value := ucells s.list ++ [.slice A n c, .int .u64 many]
theorem hcells_len (s : St) (A : Option Addr) (n c : Nat) (many : Int) : (hcells s A n c many).length = 10 := rfl
theorem hcells_one (s : St) (A : Option Addr) (n c : Nat) (many : Int) : ∀ v ∈ hcells s A n c many, v.oneCell' = true := by
  intro v hv
  rcases List.mem_append.1 hv with h | h
  · exact ucells_one _ v h
  · simp only [List.mem_cons, List.mem_nil_iff, or_false] at h
    rcases h with rfl | rfl <;> rfl
def mkH (parts : Array (Nat × Value)) : Sem Value := Instr.build 137 parts
theorem mkH_fold (parts : Array (Nat × Value)) : Instr.build 137 parts = mkH parts := rfl
theorem mkH_run (w : World) : (mkH #[(0, .agg (ucells Sha.first.list).toArray)]).run Try.prog w = .ok (.agg (hcells Sha.first none 0 0 0).toArray) w := by kernel_rfl
attribute [local go_sem ↓] mkK_fold mkSt_fold loadK_fold loadSt_fold mkH_fold
attribute [local go_sem] mkH_run
set_option maxHeartbeats 1000000 in
set_option maxRecDepth 100000 in
theorem HNew_any (w : World) :
    Calls Try.prog 93 #[] w fun e w' => ∃ g : Nat, e = .returned (.pointer (some ⟨g, 0, none⟩)) ∧ w.heap.size ≤ g ∧ Below w.heap.size w w' ∧ Blk w' g 137 (hcells Sha.first none 0 0 0) := by
  go_enter Try.func93, Try.ntmps93
  go_wp2_with fail
  refine (first_any _).mono ?_
  rintro e w1 ⟨rfl, hb⟩
  go_wp2_with fail
  go_ret
  exact ⟨_, rfl, hb.size, Below.then_ hb ((Below.refl _ w1).alloc (Nat.le_refl _) _), Blk.new _ _ _⟩
/-- The hasher's variable, and what its rest reads. -/
structure HS (w0 w : World) (g : Nat) (s : St) (A : Option Addr) (n c : Nat) (rest : List Int) (many : Int) : Prop where
  below : Below w0.heap.size w0 w
  base : w0.heap.size ≤ g
  blk : Blk w g 137 (hcells s A n c many)
  bys : Bys w A n rest
  cap : n ≤ c
  apart : Apart A n (fun i => i = g)
/-- The rest may be appended to. -/
def HOwn (w0 w : World) (g : Nat) (A : Option Addr) (n c : Nat) (rest : List Int) : Prop :=
  ∃ G, Tail w 5 (.slice A n c) rest G ∧ ¬ G g ∧ ∀ i, G i → w0.heap.size ≤ i
section
variable {w0 w w' : World} {g : Nat} {s : St} {A : Option Addr} {n c : Nat} {rest : List Int} {many : Int}
theorem HS.range (h : HS w0 w g s A n c rest many) : w.rangeAt g 0 (ucells s.list) := h.blk.range 0 _ fun j v hv => by
  rw [Nat.zero_add, hcells, List.getElem?_append_left (List.getElem?_eq_some_iff.1 hv).1]; exact hv
theorem HS.c8 (h : HS w0 w g s A n c rest many) : w.cell? ⟨g, 8, none⟩ = some (.slice A n c) := (h.blk.cell 8).trans rfl
theorem HS.c9 (h : HS w0 w g s A n c rest many) : w.cell? ⟨g, 9, none⟩ = some (.int .u64 many) := (h.blk.cell 9).trans rfl
theorem HS.set9 (h : HS w0 w g s A n c rest many) (m : Int) : HS w0 (w.setCell ⟨g, 9, none⟩ (.int .u64 m)) g s A n c rest m := by
  have hb := h.blk.set_ 9 (.int .u64 m)
  exact ⟨h.below.trans ((Only.cell1 w g 9 (.int .u64 m)).below h.below.size (fun i hi e => by have h9 : i = g := e; have := h.base; omega)), h.base, hb, h.bys.keep (Only.cell1 w g 9 _) h.apart, h.cap, h.apart⟩
theorem HS.set8 (h : HS w0 w g s A n c rest many) {A' : Option Addr} {n' c' : Nat} {rest' : List Int} (hB : Bys w A' n' rest') (hc : n' ≤ c') (ha : Apart A' n' (fun i => i = g)) : HS w0 (w.setCell ⟨g, 8, none⟩ (.slice A' n' c')) g s A' n' c' rest' many := by
  have hb := h.blk.set_ 8 (.slice A' n' c')
  exact ⟨h.below.trans ((Only.cell1 w g 8 _).below h.below.size (fun i hi e => by have h9 : i = g := e; have := h.base; omega)), h.base, hb, hB.keep (Only.cell1 w g 8 _) ha, hc, ha⟩
theorem HS.mk8 (hb : Below w0.heap.size w0 w) (hg : w0.heap.size ≤ g) (h : Blk w g 137 (hcells s A n c many)) {A' : Option Addr} {n' c' : Nat} {rest' : List Int} (hB : Bys w A' n' rest') (hc : n' ≤ c') (ha : Apart A' n' (fun i => i = g)) : HS w0 (w.setCell ⟨g, 8, none⟩ (.slice A' n' c')) g s A' n' c' rest' many := by
  have hb2 := h.set_ 8 (.slice A' n' c')
  exact ⟨hb.trans ((Only.cell1 w g 8 _).below hb.size (fun i hi e => by have h9 : i = g := e; omega)), hg, hb2, hB.keep (Only.cell1 w g 8 _) ha, hc, ha⟩
theorem HOwn.cell (h : HOwn w0 w g A n c rest) (i : Nat) (v : Value) (ha : Apart A n (fun i => i = g)) (hn : n = rest.length) : HOwn w0 (w.setCell ⟨g, i, none⟩ v) g A n c rest := by
  obtain ⟨G, h1, h2, h3⟩ := h
  refine ⟨G, h1.keep (Only.cell1 w g i v) (fun A' c' e => ?_) (fun i hi e => h2 (by have h9 : i = g := e; rwa [h9] at hi)), h2, h3⟩
  injection e with e1 e2 e3
  rw [← e1, ← hn]; exact ha
/-- What an append to the rest leaves. -/
theorem HS.appended (h : HS w0 w g s A n c rest many) {G G' : Nat → Prop} {A' : Option Addr} {c' m : Nat} {cs : List Int} (hGg : ¬ G g) (hG0 : ∀ i, G i → w0.heap.size ≤ i) (hm : cs.length = m)
    (ht : Tail w' 5 (.slice A' (rest.length + m) c') (rest ++ cs) G') (ho : Only G w w') (hs : ∀ i, G' i → G i ∨ w.heap.size ≤ i) (hk : (m = 0 ∧ Value.slice A' (rest.length + m) c' = .slice A n c) ∨ ∀ i, (Value.slice A' (rest.length + m) c').ownBlock = some i → G' i) :
    Below w0.heap.size w0 w' ∧ Blk w' g 137 (hcells s A n c many) ∧ HS w0 (w'.setCell ⟨g, 8, none⟩ (.slice A' (rest.length + m) c')) g s A' (rest.length + m) c' (rest ++ cs) many ∧ HOwn w0 (w'.setCell ⟨g, 8, none⟩ (.slice A' (rest.length + m) c')) g A' (rest.length + m) c' (rest ++ cs) := by
  have hlt := h.blk.lt
  have hG'g : ¬ G' g := fun e => by
    rcases hs g e with h1 | h1
    · exact hGg h1
    · omega
  have hb : Below w0.heap.size w0 w' := h.below.trans (ho.below h.below.size (fun i hi hg => by have := hG0 i hg; omega))
  have hblk := ho.blk h.blk hGg
  have ha : Apart A' (rest.length + m) (fun i => i = g) := by
    rcases hk with ⟨rfl, e⟩ | hk
    · injection e with e1 e2 e3
      subst e1 e2
      exact h.apart
    · intro hn ad e1 e2
      subst e1
      have h9 : ad.block = g := e2
      exact hG'g (by rw [← h9]; exact hk _ rfl)
  obtain ⟨A2, c2, e, hB, hc⟩ := ht.read
  have hl : (rest ++ cs).length = rest.length + m := by rw [List.length_append, hm]
  rw [hl] at e hB hc
  injection e with e1 e2 e3
  subst e1 e3
  refine ⟨hb, hblk, HS.mk8 hb h.base hblk hB hc ha, ?_⟩
  refine HOwn.cell ⟨G', ht, hG'g, fun i hi => ?_⟩ 8 _ ha hl.symm
  rcases hs i hi with h1 | h1
  · exact hG0 i h1
  · exact Nat.le_trans h.below.size h1
theorem HS.under (h : HS w0 w g s A n c rest many) (hb : Below w.heap.size w w') : HS w0 w' g s A n c rest many :=
  ⟨Below.then_ h.below hb, h.base, h.blk.under hb, h.bys.below hb, h.cap, h.apart⟩
theorem HS.drew (h : HS w0 w g s A n c rest many) : HS w0 w.drew g s A n c rest many := ⟨h.below.drew, h.base, h.blk, h.bys, h.cap, h.apart⟩
theorem lay_state (s s' : St) (A : Option Addr) (n c : Nat) (many : Int) : lay (hcells s A n c many) 0 (ucells s'.list) = hcells s' A n c many := rfl
end
theorem flat_take {α : Type} (l : List (List α)) (j : Nat) (x : List α) (h : l[j]? = some x) : (l.take (j + 1)).flatten = (l.take j).flatten ++ x := by
  rw [List.take_add_one, h]; simp
theorem flat_short {α : Type} (l : List (List α)) (j : Nat) (h : j < l.length) : (l.take j).flatten.length ≤ l.dropLast.flatten.length := by
  have e : l.dropLast = l.take j ++ (l.dropLast).drop j := by
    rw [List.dropLast_eq_take]
    have : (l.take (l.length - 1)).take j = l.take j := by rw [List.take_take, Nat.min_eq_left (by omega)]
    rw [← this, List.take_append_drop]
  rw [e]; simp
theorem flat_le {α : Type} (l : List (List α)) (j : Nat) : (l.take j).flatten.length ≤ l.flatten.length := by
  have e : l.flatten = (l.take j).flatten ++ (l.drop j).flatten := by rw [← List.flatten_append, List.take_append_drop]
  rw [e]; simp
/-- How many bytes the rest has, read off the variable. -/
def restAt (w : World) (g : Nat) : Nat := match w.cell? ⟨g, 8, none⟩ with | some (.slice _ n _) => n | _ => 0
theorem HS.restAt {w0 w : World} {g : Nat} {s : St} {A : Option Addr} {n c : Nat} {rest : List Int} {many : Int} (h : HS w0 w g s A n c rest many) : restAt w g = n := by
  unfold Go.Proofs.Ytfloclamdpageaa.restAt; rw [h.c8]
set_option maxHeartbeats 4000000 in
set_option maxRecDepth 100000 in
theorem HAdd_any (w0 w : World) (g : Nat) (A : Option Addr) (n c : Nat) (xss : List (List Int)) (hb : Below w0.heap.size w0 w) (hg : w0.heap.size ≤ g) (hH : Blk w g 137 (hcells Sha.first none 0 0 0)) (hX : Byss w0 A n xss) (hshort : xss.dropLast.flatten.length < 64) (hlong : xss.flatten.length ≤ 100000000) (hn : n ≤ 1000000) :
    Calls Try.prog 94 #[.pointer (some ⟨g, 0, none⟩), .slice A n c] w fun e w' => e = .returned (.tuple #[]) ∧ ∃ A' m c', HS w0 w' g (Sha.pieces (xss.flatten.length / 64) Sha.first xss.flatten) A' m c' (xss.flatten.drop (64 * (xss.flatten.length / 64))) (xss.flatten.length : Int) := by
  have H0 := hide (show HS w0 w g Sha.first none 0 0 [] 0 from ⟨hb, hg, hH, Bys.nil _ _, Nat.le_refl _, fun h => absurd h (by omega)⟩)
  have W0 := hide (show HOwn w0 w g none 0 0 [] from ⟨_, Tail.full (Bys.nil _ _), fun h => h, fun _ h => h.elim⟩)
  have HX := hide hX
  have HLIM := hide hn
  clear hb hg hH hn
  go_enter Try.func94, Try.ntmps94
  have hI := isSt
  go_wp2_with fail
  go_loopw [8] (fun i wr => ∃ j : Nat, j ≤ n ∧ i = .int .i64 j ∧ ∃ A' m c', HS w0 wr g (Sha.pieces ((xss.take j).flatten.length / 64) Sha.first (xss.take j).flatten) A' m c' ((xss.take j).flatten.drop (64 * ((xss.take j).flatten.length / 64))) ((xss.take j).flatten.length : Int) ∧ (j < n → HOwn w0 wr g A' m c' (xss.take j).flatten)) (fun i _ => n - (intOf i).toNat)
  case atStart => exact ⟨0, by omega, rfl, none, 0, 0, by simpa [Sha.pieces] using H0.out, fun _ => by simpa using W0.out⟩
  case round =>
    obtain ⟨j, hj, rfl, A1, m1, c1, hS, hO⟩ := hrel
    by_cases hlt : j < n
    · have hO := hO hlt
      have hlen : xss.length = n := hX.1
      have hsh : (xss.take j).flatten.length < 64 := Nat.lt_of_le_of_lt (flat_short xss j (by omega)) hshort
      obtain ⟨x, hx⟩ : ∃ x, xss[j]? = some x := ⟨_, List.getElem?_eq_getElem (by omega)⟩
      have htk := flat_take xss j x hx
      have hle := flat_le xss (j + 1)
      obtain ⟨b0, off0, rfl, hcells⟩ := hX.2 (by omega)
      obtain ⟨A2, n2, c2, hcell, hB2, hc2⟩ := hcells j x hx
      have hD0 : (xss.take j).flatten.length / 64 = 0 := by omega
      rw [hD0] at hS
      simp only [Nat.mul_zero, List.drop_zero, Sha.pieces] at hS
      rw [htk] at hle
      obtain ⟨D, hD⟩ : ∃ D, D = (xss.take j).flatten := ⟨_, rfl⟩
      rw [← hD] at hS hO hsh hle htk
      have hm1 : m1 = D.length := by have := hS.bys.1; omega
      have hn2 : n2 = x.length := by have := hB2.1; omega
      have HTK := hide htk
      have HX3 := hide hX
      obtain ⟨G, hT, hGg, hG0⟩ := hO
      subst hm1
      have hcj : wr.cell? ⟨b0, off0 + j, none⟩ = some (.slice A2 n2 c2) := (hS.below.cell (World.block_lt_of_cell? w0 _ hcell)).trans hcell
      have f9 := hS.blk.frozen 9
      have c9 := hS.c9
      have hle9 : D.length + x.length ≤ 100000000 := by rw [List.length_append] at hle; omega
      have v1 : IntKind.u64.wrap (n2 : Int) = n2 := by rw [IntKind.wrap_u64]; omega
      have v2 : IntKind.u64.wrap ((D.length : Int) + (n2 : Int)) = ((D ++ x).length : Int) := by rw [IntKind.wrap_u64, List.length_append]; omega
      have hS1 := hide (hS.set9 ((D ++ x).length : Int))
      have hT1 := hide (show Tail (wr.setCell ⟨g, 9, none⟩ (.int .u64 ((D ++ x).length : Int))) 5 (.slice A1 D.length c1) D G from hT.keep (Only.cell1 wr g 9 _) (fun A' c' e => by injection e with e1 e2 e3; subst e1; exact hS.apart) (fun i hi e => hGg (by have h9 : i = g := e; rwa [h9] at hi)))
      have hB3 := hide (show Bys (wr.setCell ⟨g, 9, none⟩ (.int .u64 ((D ++ x).length : Int))) A2 n2 x from (hB2.keep (Only.of_below hS1.out.below (fun _ => False)) (fun _ _ _ h => h)))
      have k8 := hS1.out.c8
      have hle2 := hide hle
      have HL : D.length + n2 ≤ 140737488355328 := by omega
      have HGG := hide hGg
      have HG0 := hide hG0
      have hj0 : (0 : Int) ≤ (j : Int) := by omega
      have hj1 : (j : Int) < (n : Int) := by omega
      obtain ⟨M, hM⟩ : ∃ M : Int, M = ((D ++ x).length : Int) := ⟨_, rfl⟩
      rw [← hM] at v2 hS1 hT1 hB3 k8
      have HM := hide hM
      have HL2 := hide HL
      have HN2 := hide hn2
      have HSHORT := hide hshort
      have HLONG := hide hlong
      clear htk hD hD0 hcells hX HX hM hS hT hle hcell hB2 hGg hG0 HL hsh hn2 hshort hlong hle9
      obtain ⟨i0, z0, hi0, hz0, hs0, hby0, hzs0⟩ := u8_info
      go_wp2_with (refine wpList_append_tail rfl _ _ 22 rfl 5 i0 z0 Try.underlying22 hi0 hz0 hs0 hby0 hzs0 (.slice A1 D.length c1) D G (by rfl) hT1.out A2 n2 c2 x (by rfl) hB3.out HL2.out ?_; intro A3 c3 G3 w3 t3 o3 s3 k3; obtain ⟨q1, q2, q3, q4⟩ := hS1.out.appended HGG.out HG0.out HN2.out.symm t3 o3 s3 k3; have f8 := q2.frozen 8; have c8 : w3.cell? ⟨g, 8, none⟩ = some (.slice A1 D.length c1) := (q2.cell 8).trans rfl; have q1' := hide q1; have q2' := hide q2; have q3' := hide q3; have q4' := hide q4; clear q1 q2 q3 q4 t3 o3 s3 k3; simp only [Act.put, List.setIfInBounds_toArray, List.set_cons_zero, List.set_cons_succ])
      obtain ⟨E, hE⟩ : ∃ E, E = D ++ x := ⟨_, rfl⟩
      have hLE : D.length + n2 = E.length := by rw [hE, List.length_append, HN2.out]
      have hME : M = (E.length : Int) := by rw [HM.out, hE]
      rw [← hE] at q3' q4' HTK hle2
      rw [hLE] at q3' q4' ⊢
      have HSH := hide (show j + 1 < n → E.length < 64 from fun h => by rw [← HTK.out]; exact Nat.lt_of_le_of_lt (flat_short xss (j + 1) (by rw [HX3.out.1]; exact h)) HSHORT.out)
      have HLL := hide (show E.length ≤ 100000000 by exact Nat.le_trans hle2.out HLONG.out)
      obtain ⟨w4, hw4⟩ : ∃ w4, w4 = w3.setCell ⟨g, 8, none⟩ (.slice A3 E.length c3) := ⟨_, rfl⟩
      rw [← hw4] at q3' q4' ⊢
      rw [hME] at q3'
      clear hw4 hE hLE hME f8 c8 q1' q2' hS1 hT1 hB3 k8 v1 v2 HM HL2 HGG HG0 HN2 c9 f9 hcj hx hle2 hO
      obtain ⟨J, hJ⟩ : ∃ J : Int, J = (j : Int) := ⟨_, rfl⟩
      have HJ := hide hJ
      rw [← hJ] at hj0 hj1 ⊢
      clear hJ
      go_loopw [36] (fun _ ws => ∃ k A' m c', HS w0 ws g (Sha.pieces k Sha.first E) A' m c' (E.drop (64 * k)) (E.length : Int) ∧ 64 * k + m = E.length ∧ (k = 0 → HOwn w0 ws g A' m c' E)) (fun _ ws => restAt ws g)
      case atStart => exact ⟨0, A3, E.length, c3, by simpa [Sha.pieces] using q3'.out, by omega, fun _ => q4'.out⟩
      case round =>
        obtain ⟨k, A5, m5, c5, hS, hkm, hO⟩ := hrel
        by_cases h64 : 64 ≤ m5
        · obtain ⟨AH, hr1, hr2, hr3, hr4⟩ := slice_head A5 m5 c5 64 h64 hS.cap
          obtain ⟨AT, ht1, ht2, ht3, ht4⟩ := slice_from A5 m5 c5 64 h64 hS.cap
          have hm0 : ((64 : Nat) : Int) = 64 := rfl
          rw [hm0] at hr1 hr2 ht1 ht2
          have hBH := hide (hr3 _ _ hS.bys)
          have hBT := hide (ht3 _ _ hS.bys)
          have haT : Apart AT (m5 - 64) (fun i => i = g) := fun hn ad e h9 => by
            obtain ⟨ad', e1, e2⟩ := ht4 ad e
            exact hS.apart (by omega) ad' e1 (by rw [← e2]; exact h9)
          have HAT := hide haT
          have c8 := hS.c8
          have HS5 := hide hS
          have h640 : (64 : Int) ≤ (m5 : Int) := by omega
          have hrest := hS.restAt
          clear hr3 hr4 ht3 ht4 hm0 haT hS hO
          go_wp2_with fail
          refine wp_region_held_drew (S := fun _ => True) (by kernel_rfl) trivial (fun _ => ?_)
          obtain ⟨w5, hw5⟩ : ∃ w5, w5 = wr.drew := ⟨_, rfl⟩
          rw [← hw5]
          have HS6 := hide (show HS w0 w5 g (Sha.pieces k Sha.first E) A5 m5 c5 (E.drop (64 * k)) (E.length : Int) by rw [hw5]; exact HS5.out.drew)
          have hBH6 := hide (show Bys w5 AH 64 ((E.drop (64 * k)).take 64) by rw [hw5]; exact hBH.out)
          have hBT6 := hide (show Bys w5 AT (m5 - 64) ((E.drop (64 * k)).drop 64) by rw [hw5]; exact hBT.out)
          have c86 : w5.cell? ⟨g, 8, none⟩ = some (.slice A5 m5 c5) := by rw [hw5]; exact c8
          have hld := loadSt_run w5 g 0 (Sha.pieces k Sha.first E).list HS6.out.range rfl
          clear hw5 HS5 hBH hBT c8
          refine wpAnyH_take (i := 0) (v := ?_) rfl (by kernel_rfl) (by kernel_rfl) (by kernel_rfl) (fun _ _ _ h => h) (Or.inl ⟨by rfl, fun w' _ => ?_⟩) trivial ?_; rotate_left; focus (go_simp; try with_reducible rfl)
          simp only [Act.put, List.setIfInBounds_toArray, List.set_cons_zero, List.set_cons_succ]
          refine wpAnyH_take (i := 1) (v := ?_) rfl (by kernel_rfl) (by kernel_rfl) (by kernel_rfl) (fun _ _ _ h => h) (Or.inl ⟨by rfl, fun w' _ => ?_⟩) trivial ?_; rotate_left; focus (go_simp; try with_reducible rfl)
          simp only [Act.put, List.setIfInBounds_toArray, List.set_cons_zero, List.set_cons_succ]
          refine wpAnyH_take (i := 2) (v := ?_) rfl (by kernel_rfl) (by kernel_rfl) (by kernel_rfl) (fun _ _ _ h => h) (Or.inl ⟨by rfl, fun w' _ => ?_⟩) trivial ?_; rotate_left; focus (go_simp; try with_reducible rfl)
          simp only [Act.put, List.setIfInBounds_toArray, List.set_cons_zero, List.set_cons_succ]
          refine wpAnyH_take (i := 3) (v := ?_) rfl (by kernel_rfl) (by kernel_rfl) (by kernel_rfl) (fun _ _ _ h => h) (Or.inl ⟨by rfl, fun w' _ => ?_⟩) trivial ?_; rotate_left; focus (go_simp; try with_reducible rfl)
          simp only [Act.put, List.setIfInBounds_toArray, List.set_cons_zero, List.set_cons_succ]
          refine wpAnyH_take (i := 5) (v := ?_) rfl (by kernel_rfl) (by kernel_rfl) (by kernel_rfl) (fun _ _ _ h => h) (Or.inl ⟨by rfl, fun w' _ => ?_⟩) trivial ?_; rotate_left; focus (go_simp; try with_reducible rfl)
          simp only [Act.put, List.setIfInBounds_toArray, List.set_cons_zero, List.set_cons_succ]
          refine wpAnyH_take (i := 6) (v := ?_) rfl (by kernel_rfl) (by kernel_rfl) (by kernel_rfl) (fun _ _ _ h => h) (Or.inl ⟨by rfl, fun w' _ => ?_⟩) trivial ?_; rotate_left; focus (go_simp; try with_reducible rfl)
          simp only [Act.put, List.setIfInBounds_toArray, List.set_cons_zero, List.set_cons_succ]
          refine wpAnyH_take (i := 7) (v := ?_) rfl (by kernel_rfl) (by kernel_rfl) (by kernel_rfl) (fun _ _ _ h => h) (Or.inl ⟨by rfl, fun w' _ => ?_⟩) trivial ?_; rotate_left; focus (go_simp; try with_reducible rfl)
          simp only [Act.put, List.setIfInBounds_toArray, List.set_cons_zero, List.set_cons_succ]
          refine wpAnyH_ready (rs := [4, 8]) (by kernel_rfl) (by simp) ?_
          refine AllReadyH.cons rfl (fun K hK => ?_) (AllReadyH.cons rfl (fun K hK => ?_) AllReadyH.nil)
          · go_simp
            refine hK.out _ _ trivial (fun _ => ?_)
            clear hK K
            refine wpAnyH_ready (rs := [8]) (by kernel_rfl) (by simp) ?_
            refine AllReadyH.cons rfl (fun K hK => ?_) AllReadyH.nil
            go_simp
            refine hK.out _ _ trivial (fun _ => ?_)
            clear hK K
            (refine wpAnyH_take (i := 9) (v := ?_) rfl (by kernel_rfl) (by kernel_rfl) (by kernel_rfl) (fun _ _ _ h => h) (Or.inl ⟨by rfl, fun w' _ => ?_⟩) trivial ?_; rotate_left; focus (go_simp; try with_reducible rfl))
            simp only [Act.put, List.setIfInBounds_toArray, List.set_cons_zero, List.set_cons_succ]
            refine wpAnyH_ready (rs := [10]) (by kernel_rfl) (by simp) ?_
            refine AllReadyH.cons rfl (fun K hK => ?_) AllReadyH.nil
            go_simp
            refine (mix_any w5 (Sha.pieces k Sha.first E) AH 64 c5 ((E.drop (64 * k)).take 64) hBH6.out (by omega) (by omega)).mono ?_
            rintro e w6 ⟨rfl, hb6⟩
            go_simp
            refine hK.out _ _ trivial (fun _ => ?_)
            clear hK K
            have HS7 := hide (HS6.out.under hb6)
            have hBT7 := hide (hBT6.out.below hb6)
            clear HS6 hBH6 hBT6 c86 hld hb6
            refine wpAnyH_take (i := 11) (v := ?_) rfl (by kernel_rfl) (by kernel_rfl) (by kernel_rfl) (fun _ _ _ h => h) (Or.inl ⟨by rfl, fun w' _ => ?_⟩) trivial ?_; rotate_left; focus (go_simp; try with_reducible rfl)
            simp only [Act.put, List.setIfInBounds_toArray, List.set_cons_zero, List.set_cons_succ]
            refine wpAnyH_take (i := 12) (v := ?_) rfl (by kernel_rfl) (by kernel_rfl) (by kernel_rfl) (fun _ _ _ h => h) (Or.inl ⟨by rfl, fun w' _ => ?_⟩) trivial ?_; rotate_left; focus (go_simp; try with_reducible rfl)
            simp only [Act.put, List.setIfInBounds_toArray, List.set_cons_zero, List.set_cons_succ]
            refine wpAnyH_ready (rs := [13]) (by kernel_rfl) (by simp) ?_
            refine AllReadyH.cons rfl (fun K hK => ?_) AllReadyH.nil
            rw [if_pos (by rfl)]
            refine wp_store_blk 134 _ _ rfl g 0 137 (hcells (Sha.pieces k Sha.first E) A5 m5 c5 (E.length : Int)) (ucells (Sha.mix (Sha.pieces k Sha.first E) ((E.drop (64 * k)).take 64)).list) (by rfl) (by rfl) HS7.out.blk (by rw [hcells_len, ucells_st]; decide) (by rw [ucells_st]; exact hI) (ucells_one _) ?_
            intro w7 o7 z7 b7
            rw [lay_state] at b7
            have f8 := b7.frozen 8
            have c8 : w7.cell? ⟨g, 8, none⟩ = some (.slice A5 m5 c5) := (b7.cell 8).trans rfl
            have o7' := hide o7
            have b7' := hide b7
            clear o7 b7 z7
            refine hK.out _ _ trivial (fun _ => ?_)
            clear hK K
            refine wpAnyH_done (by kernel_rfl) ?_ _
            simp only [Act.put]
            go_wp2_with fail
            have hb7 : Below w0.heap.size w0 w7 := HS7.out.below.trans (o7'.out.below HS7.out.below.size (fun i hi e => by have h9 : i = g := e; have := HS7.out.base; omega))
            have q := HS.mk8 hb7 HS7.out.base b7'.out (hBT7.out.keep o7'.out HAT.out) (show m5 - 64 ≤ c5 - 64 by have := HS7.out.cap; omega) HAT.out
            have e1 : Sha.mix (Sha.pieces k Sha.first E) ((E.drop (64 * k)).take 64) = Sha.pieces (k + 1) Sha.first E := by rw [Sha.pieces_add k 1]; rfl
            have e2 : (E.drop (64 * k)).drop 64 = E.drop (64 * (k + 1)) := by rw [List.drop_drop]; rfl
            rw [e1, e2] at q
            refine ⟨⟨k + 1, AT, m5 - 64, c5 - 64, q, by omega, fun h => absurd h (by omega)⟩, ?_⟩
            rw [q.restAt, hrest]
            omega
          · go_simp
            refine hK.out _ _ trivial (fun _ => ?_)
            clear hK K
            (refine wpAnyH_take (i := 9) (v := ?_) rfl (by kernel_rfl) (by kernel_rfl) (by kernel_rfl) (fun _ _ _ h => h) (Or.inl ⟨by rfl, fun w' _ => ?_⟩) trivial ?_; rotate_left; focus (go_simp; try with_reducible rfl))
            simp only [Act.put, List.setIfInBounds_toArray, List.set_cons_zero, List.set_cons_succ]
            refine wpAnyH_ready (rs := [4]) (by kernel_rfl) (by simp) ?_
            refine AllReadyH.cons rfl (fun K hK => ?_) AllReadyH.nil
            go_simp
            refine hK.out _ _ trivial (fun _ => ?_)
            clear hK K
            refine wpAnyH_ready (rs := [10]) (by kernel_rfl) (by simp) ?_
            refine AllReadyH.cons rfl (fun K hK => ?_) AllReadyH.nil
            go_simp
            refine (mix_any w5 (Sha.pieces k Sha.first E) AH 64 c5 ((E.drop (64 * k)).take 64) hBH6.out (by omega) (by omega)).mono ?_
            rintro e w6 ⟨rfl, hb6⟩
            go_simp
            refine hK.out _ _ trivial (fun _ => ?_)
            clear hK K
            have HS7 := hide (HS6.out.under hb6)
            have hBT7 := hide (hBT6.out.below hb6)
            clear HS6 hBH6 hBT6 c86 hld hb6
            refine wpAnyH_take (i := 11) (v := ?_) rfl (by kernel_rfl) (by kernel_rfl) (by kernel_rfl) (fun _ _ _ h => h) (Or.inl ⟨by rfl, fun w' _ => ?_⟩) trivial ?_; rotate_left; focus (go_simp; try with_reducible rfl)
            simp only [Act.put, List.setIfInBounds_toArray, List.set_cons_zero, List.set_cons_succ]
            refine wpAnyH_take (i := 12) (v := ?_) rfl (by kernel_rfl) (by kernel_rfl) (by kernel_rfl) (fun _ _ _ h => h) (Or.inl ⟨by rfl, fun w' _ => ?_⟩) trivial ?_; rotate_left; focus (go_simp; try with_reducible rfl)
            simp only [Act.put, List.setIfInBounds_toArray, List.set_cons_zero, List.set_cons_succ]
            refine wpAnyH_ready (rs := [13]) (by kernel_rfl) (by simp) ?_
            refine AllReadyH.cons rfl (fun K hK => ?_) AllReadyH.nil
            rw [if_pos (by rfl)]
            refine wp_store_blk 134 _ _ rfl g 0 137 (hcells (Sha.pieces k Sha.first E) A5 m5 c5 (E.length : Int)) (ucells (Sha.mix (Sha.pieces k Sha.first E) ((E.drop (64 * k)).take 64)).list) (by rfl) (by rfl) HS7.out.blk (by rw [hcells_len, ucells_st]; decide) (by rw [ucells_st]; exact hI) (ucells_one _) ?_
            intro w7 o7 z7 b7
            rw [lay_state] at b7
            have f8 := b7.frozen 8
            have c8 : w7.cell? ⟨g, 8, none⟩ = some (.slice A5 m5 c5) := (b7.cell 8).trans rfl
            have o7' := hide o7
            have b7' := hide b7
            clear o7 b7 z7
            refine hK.out _ _ trivial (fun _ => ?_)
            clear hK K
            refine wpAnyH_done (by kernel_rfl) ?_ _
            simp only [Act.put]
            go_wp2_with fail
            have hb7 : Below w0.heap.size w0 w7 := HS7.out.below.trans (o7'.out.below HS7.out.below.size (fun i hi e => by have h9 : i = g := e; have := HS7.out.base; omega))
            have q := HS.mk8 hb7 HS7.out.base b7'.out (hBT7.out.keep o7'.out HAT.out) (show m5 - 64 ≤ c5 - 64 by have := HS7.out.cap; omega) HAT.out
            have e1 : Sha.mix (Sha.pieces k Sha.first E) ((E.drop (64 * k)).take 64) = Sha.pieces (k + 1) Sha.first E := by rw [Sha.pieces_add k 1]; rfl
            have e2 : (E.drop (64 * k)).drop 64 = E.drop (64 * (k + 1)) := by rw [List.drop_drop]; rfl
            rw [e1, e2] at q
            refine ⟨⟨k + 1, AT, m5 - 64, c5 - 64, q, by omega, fun h => absurd h (by omega)⟩, ?_⟩
            rw [q.restAt, hrest]
            omega
        · have h640 : ¬ (64 : Int) ≤ (m5 : Int) := by omega
          have hk : k = E.length / 64 := by omega
          have c8 := hS.c8
          have HS5 := hide hS
          have HO5 := hide hO
          have HKM := hide hkm
          have HK := hide hk
          clear hS hO hkm hk
          have HJ2 : IntKind.i64.wrap (J + 1) = J + 1 := by rw [IntKind.wrap_i64]; have := HX3.out.1; have := HLIM.out; omega
          go_wp2_with fail
          refine ⟨⟨j + 1, by omega, congrArg (Value.int .i64) (by have := HJ.out; omega), A5, m5, c5, ?_, fun h => ?_⟩, by have := HJ.out; simp [intOf]; omega⟩
          · rw [HTK.out, ← HK.out]; exact HS5.out
          · rw [HTK.out]; exact HO5.out (by have := HSH.out h; have := HK.out; omega)
    · obtain rfl : j = n := by omega
      have hall : xss.take j = xss := List.take_of_length_le (by rw [hX.1]; exact Nat.le_refl _)
      rw [hall] at hS
      have HS5 := hide hS
      clear hS hO hall
      go_wp2_with fail
      go_end0
      exact ⟨rfl, _, _, _, HS5.out⟩
end Go.Proofs.Ytfloclamdpageaa
