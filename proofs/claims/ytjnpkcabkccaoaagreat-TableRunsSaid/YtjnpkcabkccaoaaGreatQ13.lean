/- Lemmas and walks for TableRuns, packed. -/
import Derived.Test.YtjnpkcabkccaoaaGreatQ12
import Derived.Test.YtjnpkcabkccaoaaGreatQ10
import Derived.Test.YtjnpkcabkccaoaaGreatQ6
import Derived.Test.YtjnpkcabkccaoaaGreatQ8
import Derived.Test.YtjnpkcabkccaoaaGreatQ2
import Derived.Test.YtjnpkcabkccaoaaGreatQ9
import Derived.Laws.BytesString
import Derived.Deep.RegionHeldLaw
import Derived.Laws.StructEq
set_option maxRecDepth 100000
set_option maxHeartbeats 16000000
namespace Go.Proofs.YtjnpkcabkccaoaaGreat
open Go.RowKit
def ba (bs : List Int) : ByteArray := bs.foldl (fun r n => r.push (UInt8.ofNat n.toNat)) ByteArray.empty
theorem loadBytes (P : Program) (w : World) (b off : Nat) : ∀ (bs : List Int), (∀ (j : Nat) (v : Int), bs[j]? = some v → w.cell? ⟨b, off + j, none⟩ = some (.int .u8 v)) → (loadCells ⟨b, off, none⟩ bs.length).run P w = .ok (bs.map (Value.int .u8)).toArray w := by
 intro bs h
 have := run_loadCells_list (P := P) (w := w) ⟨b, off, none⟩ (bs.map (Value.int .u8)) (fun j v hv => by
  rw [Addr.add_mid]
  simp only [List.getElem?_map] at hv
  cases hg : bs[j]? with
  | none => rw [hg] at hv; cases hv
  | some x => rw [hg] at hv; injection hv with hv; subst hv; exact h j x hg)
 simpa using this
theorem run_str (w : World) (A : Option Addr) (n c : Nat) (bs : List Int) (hB : Bys w A n bs) : (convert 23 9 (.slice A n c)).run Tryz.prog w = .ok (.string (ba bs)) w := by
 rw [run_convert_bytes_string w _ _ _ A n c Tryz.underlying23 Tryz.underlying5 Tryz.underlying9]
 have hl := hB.1
 rcases Nat.eq_zero_or_pos n with h0 | h0
 ·subst h0
  obtain rfl : bs = [] := List.eq_nil_of_length_eq_zero hl
  cases A with
  | none => simp [Conv.bytesToString, ba]
  | some a => exact run_bytesToString w a 0 c [] (by simp [loadCells, loadCellsFrom])
 ·obtain ⟨b, off, rfl, hc⟩ := hB.2.2 h0
  subst hl
  exact run_bytesToString w _ _ c bs (loadBytes _ w b off bs hc)
theorem ba_data (bs : List Int) : (ba bs).data.toList = bs.map fun n => UInt8.ofNat n.toNat := by
 have key : ∀ (l : List Int) (s : ByteArray), (l.foldl (fun r n => r.push (UInt8.ofNat n.toNat)) s).data.toList = s.data.toList ++ l.map fun n => UInt8.ofNat n.toNat := by
  intro l
  induction l with
  | nil => intro s; simp
  | cons x l ih => intro s; rw [List.foldl_cons, ih]; simp [ByteArray.push]
 rw [ba, key]; simp [ByteArray.empty, ByteArray.emptyWithCapacity]; rfl
theorem ba_inj (a b : List Int) (ha : Byt a) (hb : Byt b) (h : ba a = ba b) : a = b := by
 have h1 := ba_data a
 rw [h, ba_data] at h1
 clear h
 induction a generalizing b with
 | nil => cases b with
  | nil => rfl
  | cons y b => simp at h1
 | cons x a ih => cases b with
  | nil => simp at h1
  | cons y b =>
   simp only [List.map_cons, List.cons.injEq] at h1
   have hx := ha x (by simp)
   have hy := hb y (by simp)
   have e : (UInt8.ofNat y.toNat).toNat = (UInt8.ofNat x.toNat).toNat := by rw [h1.1]
   simp only [UInt8.toNat_ofNat'] at e
   have : x = y := by omega
   rw [this, ih b (fun z hz => ha z (by simp [hz])) (fun z hz => hb z (by simp [hz])) h1.2]
theorem dig_cons (n k : Nat) : dig n (k + 1) = ((n % 256 : Nat) : Int) :: dig (n / 256) k := by
 simp only [dig, List.range_succ_eq_map, List.map_cons, List.map_map, Nat.pow_zero, Nat.div_one]
 congr 1
 apply List.map_congr_left
 intro i _
 simp only [Function.comp, Nat.succ_eq_add_one]
 rw [Nat.div_div_eq_div_mul, Nat.pow_succ, Nat.mul_comm]
theorem dig_num (l : List Int) (h : Byt l) : dig (num l) l.length = l := by
 induction l with
 | nil => rfl
 | cons x l ih =>
  have h1 := ih (fun y hy => h y (by simp [hy]))
  have h2 := h x (by simp)
  rw [List.length_cons, dig_cons, num]
  have e1 : (x.toNat + 256 * num l) / 256 = num l := by omega
  have e2 : (((x.toNat + 256 * num l) % 256 : Nat) : Int) = x := by omega
  rw [e1, e2, h1]
theorem raw_append (a b : List Int) : Rd.raw ⟨a ++ b, 0⟩ (a.length : Int) = (a, ⟨b, 0⟩) := by
 unfold Rd.raw
 simp only [ne_eq, not_true_eq_false, false_or]
 by_cases h : a = []
 ·subst h; simp
 ·have : 0 < a.length := List.length_pos_iff.2 h
  have h1 : ¬ ((a.length : Int) < 1) := by omega
  have h2 : ¬ (((a ++ b).length : Int) < (a.length : Int)) := by rw [List.length_append]; omega
  rw [if_neg h1, if_neg h2]
  simp
theorem fixed_append (a b : List Int) (k : Int) (hk : k = a.length) (h8 : k ≤ 8) : Rd.fixed ⟨a ++ b, 0⟩ k = (num a, ⟨b, 0⟩) := by
 have e : Rd.within k = (a.length : Int) := by unfold Rd.within; omega
 rw [Rd.fixed, e, raw_append]
theorem take_pre {α : Type} (a b : List α) (k : Nat) (h : k = a.length) : (a ++ b).take k = a := by subst h; simp
theorem peek_head (x : Int) (d rest : List Int) (n most : Nat) (hs : Rd.sizeOf x = d.length) (hd : 0 < d.length) (hn : num d = n) (hl : (cnt n).length = 1 + d.length) (hm : n ≤ most) : Rd.peek (x :: (d ++ rest)) most = (n, 1 + d.length, 0) := by
 have h1 : ¬ (d ++ rest).length < d.length := by simp
 have h2 : ¬ d.length = 0 := by omega
 have h3 : (d ++ rest).take d.length = d := take_pre _ _ _ rfl
 have h4 : ¬ ((cnt n).length ≠ 1 + d.length ∨ most < n) := by omega
 simp only [Rd.peek, hs, if_neg h1, if_neg h2, h3, hn, if_neg h4]
theorem peek_cnt (n most : Nat) (rest : List Int) (hn : n < 18446744073709551616) (hm : n ≤ most) : Rd.peek (cnt n ++ rest) most = (n, (cnt n).length, 0) := by
 have pw : ∀ k, k = 2 ∨ k = 4 ∨ k = 8 → n < 256 ^ k → num (dig n k) = n := fun k _ h => by rw [num_dig, Nat.mod_eq_of_lt h]
 have hd : ∀ k, (dig n k).length = k := dig_length n
 by_cases a : n < 253
 ·have e : cnt n = [(n : Int)] := by simp [cnt, a]
  have hs : Rd.sizeOf (n : Int) = 0 := by
   have h1 : ¬ (n : Int) = 253 := by omega
   have h2 : ¬ (n : Int) = 254 := by omega
   have h3 : ¬ (n : Int) = 255 := by omega
   simp [Rd.sizeOf, h1, h2, h3]
  rw [e, List.cons_append, List.nil_append]
  simp only [Rd.peek, hs, Nat.not_lt_zero, if_false, if_true, Int.toNat_natCast, Nat.add_zero, e, List.length_singleton]
  rw [if_neg (by omega)]
 ·by_cases b : n < 65536
  ·have e : cnt n = 253 :: dig n 2 := by simp [cnt, a, b]
   rw [e, List.cons_append, peek_head 253 (dig n 2) rest n most (by rw [hd]; rfl) (by rw [hd]; decide) (pw 2 (by simp) b) (by rw [e]; simp; omega) hm]
   simp; omega
  ·by_cases c : n < 4294967296
   ·have e : cnt n = 254 :: dig n 4 := by simp [cnt, a, b, c]
    rw [e, List.cons_append, peek_head 254 (dig n 4) rest n most (by rw [hd]; rfl) (by rw [hd]; decide) (pw 4 (by simp) c) (by rw [e]; simp; omega) hm]
    simp; omega
   ·have e : cnt n = 255 :: dig n 8 := by simp [cnt, a, b, c]
    rw [e, List.cons_append, peek_head 255 (dig n 8) rest n most (by rw [hd]; rfl) (by rw [hd]; decide) (pw 8 (by simp) hn) (by rw [e]; simp; omega) hm]
    simp; omega
theorem count_append (n most : Nat) (rest : List Int) (hn : n < 18446744073709551616) (hm : n ≤ most) : Rd.count ⟨cnt n ++ rest, 0⟩ most = (n, ⟨rest, 0⟩) := by
 simp [Rd.count, peek_cnt n most rest hn hm]
section
def eqlSlab (x y : Value) : Sem Value := binOp .eql 94 x y
def neqSlab (x y : Value) : Sem Value := binOp .neq 94 x y
theorem eqlSlab_fold (x y : Value) : binOp .eql 94 x y = eqlSlab x y := rfl
theorem neqSlab_fold (x y : Value) : binOp .neq 94 x y = neqSlab x y := rfl
theorem guardSlab : Tryz.prog.eqGuardType Tryz.prog.depth 94 = false := by kernel_rfl
def slab1 (v : Int) : Slb := v :: List.replicate 127 0
theorem mkSlab_run1 (v : Int) (w : World) : (mkSlab #[(0, .int .u8 v)]).run Tryz.prog w = .ok (.agg (enc (slab1 v)).toArray) w := by kernel_rfl

structure DevSt (w0 w : World) (b : Nat) (F : Nat → Prop) (d : Dev) : Prop where
 rep : DevRep w b F d
 below : Below w0.heap.size w0 w
 ge : ∀ i, F i → w0.heap.size ≤ i
section
variable {w0 w w' : World} {b : Nat} {F : Nat → Prop} {d d' : Dev} {r : Value} {e : Ending}
theorem DevSt.next (h : DevSt w0 w b F d) (hp : DevPost w b F d' r e w') : e = .returned r ∧ ∃ F', DevSt w0 w' b F' d' ∧ Only F w w' ∧ ∀ i, F' i → F i ∨ w.heap.size ≤ i := by
 obtain ⟨he, F', hr, ho, hg⟩ := hp
 refine ⟨he, F', ⟨hr, h.below.trans (ho.below h.below.size (fun i hi hf => by have := h.ge i hf; omega)), fun i hi => ?_⟩, ho, hg⟩
 rcases hg i hi with h1 | h1
 ·exact h.ge i h1
 ·have := h.below.size; omega
theorem DevSt.other (h : DevSt w0 w b F d) {G : Nat → Prop} (ho : Only G w w') (hd : ∀ i, F i → ¬ G i) (hG : ∀ i, G i → w0.heap.size ≤ i) : DevSt w0 w' b F d :=
 ⟨h.rep.keep ho hd, h.below.trans (ho.below h.below.size (fun i hi hg => by have := hG i hg; omega)), h.ge⟩
theorem DevSt.under (h : DevSt w0 w b F d) (hb : Below w.heap.size w w') : DevSt w0 w' b F d := h.other (G := fun _ => False) (Only.of_below hb _) (fun _ _ h => h) (fun _ h => h.elim)
theorem DevSt.lt (h : DevSt w0 w b F d) : ∀ i, F i → i < w.heap.size := h.rep.lt
end
theorem DevSt.fresh {w : World} {n : Int} {e : Ending} {w' : World} (hp : NewPost w n e w') : ∃ b F, e = .returned (.pointer (some ⟨b, 0, none⟩)) ∧ DevSt w w' b F (newDev n) := by
 obtain ⟨b, F, he, hr, hb, hg⟩ := hp
 exact ⟨b, F, he, hr, hb, hg⟩

attribute [local go_sem ↓] mkSlab_fold eqlSlab_fold neqSlab_fold loadSlab_fold
attribute [local go_sem] mkSlab_run mkSlab_run1 guardSlab
end
end Go.Proofs.YtjnpkcabkccaoaaGreat
namespace Go.Proofs.YtjnpkcabkccaoaaGreat

def Dev.Ok (d : Dev) : Prop := d.seen = over d.kept d.written
def touches (ws : List (Nat × Slb)) (p : Nat) : Bool := ws.any (fun q => q.1 == p)
theorem over_untouched (l : List Slb) (ws : List (Nat × Slb)) (p : Nat) (h : touches ws p = false) : (over l ws)[p]? = l[p]? := by
 unfold over
 induction ws generalizing l with
 | nil => rfl
 | cons q ws ih =>
  simp only [touches, List.any_cons, Bool.or_eq_false_iff, beq_eq_false_iff_ne, ne_eq] at h
  rw [List.foldl_cons, ih _ (by simpa [touches] using h.2), List.getElem?_set_ne h.1]
theorem touches_take (ws : List (Nat × Slb)) (p j : Nat) (q : Nat × Slb) (h : ws[j]? = some q) : touches (ws.take (j + 1)) p = (touches (ws.take j) p || q.1 == p) := by
 have hj : j < ws.length := (List.getElem?_eq_some_iff.1 h).1
 have : ws.take (j + 1) = ws.take j ++ [q] := by
  rw [List.take_succ_eq_append_getElem hj]
  congr 2
  rw [List.getElem?_eq_getElem hj] at h
  exact Option.some.inj h
 simp [this, touches]
theorem lossy_untouched (l : List Slb) (ws : List (Nat × Slb)) (bs : List Int) (p : Nat) (j : Nat) (hj : j ≤ ws.length) (h : touches (ws.take j) p = false) : (lossy l ws bs j)[p]? = l[p]? := by
 induction j with
 | zero => rfl
 | succ j ih =>
  obtain ⟨q, hq⟩ : ∃ q, ws[j]? = some q := ⟨_, List.getElem?_eq_getElem (by omega)⟩
  rw [touches_take ws p j q hq] at h
  simp only [Bool.or_eq_false_iff, beq_eq_false_iff_ne, ne_eq] at h
  unfold lossy
  split
  ·rename_i q' n hq' hn
   rw [hq] at hq'; injection hq' with e; subst e
   rw [List.getElem?_set_ne h.2]
   exact ih (by omega) h.1
  ·exact ih (by omega) h.1
theorem back_get (l k : List Slb) (ws : List (Nat × Slb)) (hk : k.length = l.length) (p : Nat) (j : Nat) (hj : j ≤ ws.length) : (back l k ws j)[p]? = if touches (ws.take j) p then k[p]? else l[p]? := by
 induction j with
 | zero => simp [back, touches]
 | succ j ih =>
  obtain ⟨q, hq⟩ : ∃ q, ws[j]? = some q := ⟨_, List.getElem?_eq_getElem (by omega)⟩
  rw [touches_take ws p j q hq]
  have e : back l k ws (j + 1) = (back l k ws j).set q.1 (k[q.1]?.getD []) := by simp [back, hq]
  rw [e]
  by_cases hp : q.1 = p
  ·subst hp
   simp only [beq_self_eq_true, Bool.or_true, if_true]
   by_cases hl : q.1 < l.length
   ·rw [List.getElem?_set_self (by rw [back_length]; exact hl), List.getElem?_eq_getElem (by omega)]
    rfl
   ·rw [List.getElem?_eq_none (by rw [List.length_set, back_length]; omega), List.getElem?_eq_none (by omega)]
  ·rw [List.getElem?_set_ne hp, ih (by omega)]
   have : (q.1 == p) = false := by simpa using hp
   simp [this]
theorem back_over (l : List Slb) (ws : List (Nat × Slb)) (bs : List Int) : back (over l ws) (lossy l ws bs ws.length) ws ws.length = lossy l ws bs ws.length := by
 refine List.ext_getElem? fun p => ?_
 rw [back_get _ _ _ (by rw [lossy_length, over_length]) p _ (Nat.le_refl _), List.take_length]
 by_cases h : touches ws p = true
 ·rw [if_pos h]
 ·have h' : touches ws p = false := by simpa using h
  rw [if_neg h, over_untouched _ _ _ h', lossy_untouched l ws bs p ws.length (Nat.le_refl _) (by rw [List.take_length]; exact h')]
theorem newDev_ok (n : Int) : (newDev n).Ok := by simp [Dev.Ok, newDev, over]
theorem Dev.Ok.limit {d : Dev} (h : d.Ok) (n : Int) : (d.limit n).Ok := h
theorem Dev.Ok.write {d : Dev} (h : d.Ok) (a : Int) (s : Slb) : (d.write a s).1.Ok := by
 unfold Dev.write
 split
 ·split
  ·exact h
  ·show d.seen.set a.toNat s = over d.kept (d.written ++ [(a.toNat, s)])
   rw [over_snoc, h]
 ·exact h
theorem Dev.Ok.sync {d : Dev} (h : d.Ok) : d.sync.1.Ok := by
 unfold Dev.sync
 split
 ·exact h
 ·show d.seen = over (over d.kept d.written) []
  rw [h]; rfl
theorem Dev.Ok.restart {d : Dev} (h : d.Ok) (bs : List Int) : (d.restart bs).Ok := by
 show back d.seen (lossy d.kept d.written bs d.written.length) d.written d.written.length = over (lossy d.kept d.written bs d.written.length) []
 rw [h, back_over]; rfl
end Go.Proofs.YtjnpkcabkccaoaaGreat
namespace Go.Proofs.YtjnpkcabkccaoaaGreat
open Go.RowKit
def magicB : List Int := [66, 89, 78, 65, 77, 69, 48, 49]
def nil32 : List Int := List.replicate 32 0
def mostGen : Nat := 4611686018427387904
def slabsN (n : Int) : Nat := if n < 0 then 0 else ((min n 1099511627776 + 156) / 120).toNat
def Dev.room (d : Dev) : Nat := d.kept.length / 2
def fitsB (d : Dev) (n : Int) : Bool := decide (0 ≤ n) && (decide (n ≤ 100000) && decide (1 + (slabsN n : Int) ≤ (d.room : Int)))
def headB16 (gen : Nat) : List Int := magicB ++ dig gen 8
def sealB (gen : Nat) : List Int := sha (headB16 gen)
def sealedB (gen : Nat) : List Int := headB16 gen ++ sealB gen
def marked (s : Slb) : Nat := num (s.drop 120)
def Dev.slab (d : Dev) (i : Nat) : Slb := (d.read (i : Int)).1
def areaFrom (d : Dev) (half mark : Nat) : Nat → Nat → List Int
 | 0, _ => []
 | k + 1, i => if marked (d.slab (half * d.room + i)) = mark then (d.slab (half * d.room + i)).take 120 ++ areaFrom d half mark k (i + 1) else []
def area (d : Dev) (half mark : Nat) : List Int := areaFrom d half mark (d.room - 1) 1
def header (d : Dev) (half : Nat) : Nat × List Int :=
 if d.room = 0 then (0, nil32)
 else if marked (d.slab (half * d.room)) < 1 ∨ mostGen < marked (d.slab (half * d.room)) ∨ sealedB (marked (d.slab (half * d.room))) ≠ (d.slab (half * d.room)).take 48 then (0, nil32)
 else (marked (d.slab (half * d.room)), sealB (marked (d.slab (half * d.room))))
def nextR (b : List Int) (kind : Int) (ahead : List Int) : Option (List Int × List Int) :=
 if b.length < 5 then none
 else if 100000 < num (b.take 4) ∨ b[4]? ≠ some kind ∨ b.length < 37 + num (b.take 4) then none
 else if sha (ahead ++ b.take (5 + num (b.take 4))) ≠ (b.drop (5 + num (b.take 4))).take 32 then none
 else some ((b.drop 5).take (num (b.take 4)), sha (ahead ++ b.take (5 + num (b.take 4))))
def bodies : Nat → List Int → Int → List Int → List (List Int)
 | 0, _, _, _ => []
 | k + 1, b, kind, ward =>
  if b = [] then []
  else match nextR b kind ward with
   | none => []
   | some (body, s) => body :: bodies k (b.drop (slabsN body.length * 120)) 2 s
def stands (d : Dev) (half : Nat) : Nat × List (List Int) :=
 if (header d half).1 = 0 then (0, [])
 else ((header d half).1, bodies ((area d half (header d half).1).length + 1) (area d half (header d half).1) 1 (header d half).2)
structure LogD where
 half : Nat
 at_ : Int
 mark : Nat
 ward : List Int
 ready : Bool
def openAt (half : Nat) : LogD := ⟨half, 0, 0, nil32, false⟩
def openL (d : Dev) : Nat × List (List Int) :=
 if 0 < (stands d 0).2.length ∧ ((stands d 1).2.length = 0 ∨ (stands d 1).1 < (stands d 0).1) then (0, (stands d 0).2) else (1, (stands d 1).2)
def topTo (d : Dev) : Nat → Nat
 | 0 => 0
 | k + 1 => max (topTo d k) (marked (d.slab k))
def topL (d : Dev) : Nat := topTo d (2 * d.room)
def slabOf (part : List Int) (mark : Nat) : Slb := part ++ List.replicate (120 - part.length) 0 ++ dig mark 8
def chunks (b : List Int) : List (List Int) := (List.range ((b.length + 119) / 120)).map fun i => (b.drop (i * 120)).take 120
def writeC (d : Dev) (pos : Int) (mark : Nat) : List (List Int) → Dev × Int
 | [] => (d, 0)
 | c :: l => if (d.write pos (slabOf c mark)).2 ≠ 0 then d.write pos (slabOf c mark) else writeC (d.write pos (slabOf c mark)).1 (pos + 1) mark l
def writeL (d : Dev) (half : Nat) (at_ : Int) (b : List Int) (mark : Nat) : Dev × Int := writeC d ((half : Int) * (d.room : Int) + at_) mark (chunks b)
def recB (kind : Int) (body : List Int) : List Int := dig body.length 4 ++ [kind] ++ body
def boundB (kind : Int) (body ahead : List Int) : List Int := recB kind body ++ sha (ahead ++ recB kind body)
def beginL (d : Dev) (l : LogD) (body : List Int) : Dev × LogD × Int :=
 if fitsB d body.length = false ∨ mostGen ≤ topL d then (d, l, 142)
 else
  let l1 : LogD := { l with ready := false }
  let a := writeL d (1 - l.half) 0 (sealedB (topL d + 1)) (topL d + 1)
  if a.2 ≠ 0 then (a.1, l1, a.2)
  else
   let b := writeL a.1 (1 - l.half) 1 (boundB 1 body (sealB (topL d + 1))) (topL d + 1)
   if b.2 ≠ 0 then (b.1, l1, b.2)
   else if b.1.sync.2 ≠ 0 then (b.1.sync.1, l1, b.1.sync.2)
   else (b.1.sync.1, ⟨1 - l.half, 1 + (slabsN body.length : Int), topL d + 1, sha (sealB (topL d + 1) ++ recB 1 body), true⟩, 0)
def leftL (d : Dev) (l : LogD) : Int := if l.ready then (d.room : Int) - l.at_ else 0
def addL (d : Dev) (l : LogD) (body : List Int) : Dev × LogD × Int :=
 if l.ready = false then (d, l, 141)
 else if 100000 < body.length ∨ leftL d l < (slabsN body.length : Int) then (d, l, 142)
 else
  let a := writeL d l.half l.at_ (boundB 2 body l.ward) l.mark
  if a.2 ≠ 0 then (a.1, { l with ready := false }, a.2)
  else (a.1, { l with at_ := l.at_ + (slabsN body.length : Int), ward := sha (l.ward ++ recB 2 body) }, 0)
def syncL (d : Dev) (l : LogD) : Dev × LogD × Int :=
 if l.ready = false then (d, l, 141) else (d.sync.1, { l with ready := decide (d.sync.2 = 0) }, d.sync.2)
structure Dev.Bytes (d : Dev) : Prop where
 kept : ∀ s ∈ d.kept, Byt s
 seen : ∀ s ∈ d.seen, Byt s
 written : ∀ p ∈ d.written, Byt p.2
theorem zeroS_byt : Byt zeroS := fun x hx => by have := List.eq_of_mem_replicate hx; omega
theorem Dev.Bytes.after {d : Dev} (h : d.Bytes) : d.after.Bytes := ⟨h.kept, h.seen, h.written⟩
theorem Dev.Bytes.write {d : Dev} (h : d.Bytes) (at_ : Int) {s : Slb} (hs : Byt s) : (d.write at_ s).1.Bytes := by
 unfold Dev.write
 split
 ·split
  ·exact h.after
  ·refine ⟨h.kept, fun t ht => ?_, fun p hp => ?_⟩
   ·rcases List.mem_or_eq_of_mem_set ht with h1 | h1
    ·exact h.seen t h1
    ·rw [h1]; exact hs
   ·rcases List.mem_append.1 hp with h1 | h1
    ·exact h.written p h1
    ·rw [List.mem_singleton.1 h1]; exact hs
 ·exact h
theorem over_byt (l : List Slb) (ws : List (Nat × Slb)) (h : ∀ s ∈ l, Byt s) (hw : ∀ p ∈ ws, Byt p.2) : ∀ s ∈ over l ws, Byt s := by
 unfold over
 induction ws generalizing l with
 | nil => exact h
 | cons p ws ih =>
  rw [List.foldl_cons]
  refine ih _ (fun s hs => ?_) (fun q hq => hw q (by simp [hq]))
  rcases List.mem_or_eq_of_mem_set hs with h1 | h1
  ·exact h s h1
  ·subst h1; exact hw p (by simp)
theorem Dev.Bytes.sync {d : Dev} (h : d.Bytes) : d.sync.1.Bytes := by
 unfold Dev.sync
 split
 ·exact h.after
 ·exact ⟨over_byt _ _ h.kept h.written, h.seen, fun p hp => by cases hp⟩
theorem Dev.Bytes.limit {d : Dev} (h : d.Bytes) (n : Int) : (d.limit n).Bytes := ⟨h.kept, h.seen, h.written⟩
theorem Byt.nil : Byt [] := fun x h => by cases h
theorem getD_byt {l : List Slb} (h : ∀ s ∈ l, Byt s) (i : Nat) : Byt (l[i]?.getD []) := by
 cases hq : l[i]? with
 | none => exact Byt.nil
 | some s => exact h s (List.mem_of_getElem? hq)
theorem tear_byt {a b : Slb} (ha : Byt a) (hb : Byt b) (n : Int) : Byt (tear a b n) := by
 intro x hx
 rcases List.mem_append.1 hx with h | h
 ·exact ha x (List.mem_of_mem_take h)
 ·exact hb x (List.mem_of_mem_drop h)
theorem lossy_byt {l : List Slb} {ws : List (Nat × Slb)} (bs : List Int) (h : ∀ s ∈ l, Byt s) (hw : ∀ p ∈ ws, Byt p.2) : ∀ j, ∀ s ∈ lossy l ws bs j, Byt s
 | 0 => h
 | j + 1 => by
  have ih := lossy_byt bs h hw j
  unfold lossy
  split
  ·rename_i p n hp hn
   intro s hs
   rcases List.mem_or_eq_of_mem_set hs with h1 | h1
   ·exact ih s h1
   ·rw [h1]; exact tear_byt (hw p (List.mem_of_getElem? hp)) (getD_byt ih _) n
  ·exact ih
theorem back_byt {l k : List Slb} {ws : List (Nat × Slb)} (h : ∀ s ∈ l, Byt s) (hk : ∀ s ∈ k, Byt s) : ∀ j, ∀ s ∈ back l k ws j, Byt s
 | 0 => h
 | j + 1 => by
  have ih := back_byt (ws := ws) h hk j
  unfold back
  split
  ·intro s hs
   rcases List.mem_or_eq_of_mem_set hs with h1 | h1
   ·exact ih s h1
   ·rw [h1]; exact getD_byt hk _
  ·exact ih
theorem Dev.Bytes.restart {d : Dev} (h : d.Bytes) (bs : List Int) : (d.restart bs).Bytes :=
 ⟨lossy_byt bs h.kept h.written _, back_byt h.seen (lossy_byt bs h.kept h.written _) _, fun p hp => by cases hp⟩
theorem Dev.Bytes.slab {d : Dev} (h : d.Bytes) (i : Nat) : Byt (d.slab i) := by
 unfold Dev.slab Dev.read
 split
 ·cases hq : d.seen[(i : Int).toNat]? with
  | none => exact zeroS_byt
  | some s => exact h.seen s (List.mem_of_getElem? hq)
 ·exact zeroS_byt
theorem Dev.Good.slab {d : Dev} (h : d.Good) (i : Nat) : (d.slab i).length = 128 := by
 unfold Dev.slab Dev.read
 split
 ·cases hq : d.seen[(i : Int).toNat]? with
  | none => exact zeroS_length
  | some s => exact h.s128 s (List.mem_of_getElem? hq)
 ·exact zeroS_length
theorem marked_lt {s : Slb} (hb : Byt s) (hl : s.length = 128) : marked s < 18446744073709551616 := by
 have := num_lt (s.drop 120) (fun x hx => hb x (List.mem_of_mem_drop hx))
 rw [List.length_drop, hl] at this
 exact this
theorem sealedB_len (g : Nat) : (sealedB g).length = 48 := by simp [sealedB, headB16, magicB, dig_length, sealB, sha_len]
theorem headB16_len (g : Nat) : (headB16 g).length = 16 := by simp [headB16, magicB, dig_length]
theorem magicB_byt : Byt magicB := by
 intro x hx
 simp only [magicB, List.mem_cons, List.mem_nil_iff, or_false] at hx
 omega
theorem byt_append {a b : List Int} (ha : Byt a) (hb : Byt b) : Byt (a ++ b) := fun x hx => by
 rcases List.mem_append.1 hx with h | h
 ·exact ha x h
 ·exact hb x h
theorem headB16_byt (g : Nat) : Byt (headB16 g) := byt_append magicB_byt (dig_byt _ _)
theorem sealedB_byt (g : Nat) : Byt (sealedB g) := byt_append (headB16_byt g) (sha_byt _)
theorem slabOf_len {p : List Int} (h : p.length ≤ 120) (m : Nat) : (slabOf p m).length = 128 := by
 simp [slabOf, dig_length]; omega
theorem slabOf_byt {p : List Int} (h : Byt p) (m : Nat) : Byt (slabOf p m) :=
 byt_append (byt_append h fun x hx => by have := List.eq_of_mem_replicate hx; omega) (dig_byt _ _)
theorem chunks_len (b : List Int) : ∀ c ∈ chunks b, c.length ≤ 120 := by
 intro c hc
 obtain ⟨i, _, rfl⟩ := List.mem_map.1 hc
 exact List.length_take_le _ _
theorem chunks_byt {b : List Int} (h : Byt b) : ∀ c ∈ chunks b, Byt c := by
 intro c hc
 obtain ⟨i, _, rfl⟩ := List.mem_map.1 hc
 exact fun x hx => h x (List.mem_of_mem_drop (List.mem_of_mem_take hx))
theorem write_kept (d : Dev) (at_ : Int) (s : Slb) : (d.write at_ s).1.kept.length = d.kept.length := by
 unfold Dev.write
 split
 ·split <;> rfl
 ·rfl
theorem write_room (d : Dev) (at_ : Int) (s : Slb) : (d.write at_ s).1.room = d.room := by rw [Dev.room, write_kept]; rfl
theorem writeC_room (mark : Nat) : ∀ (cs : List (List Int)) (d : Dev) (pos : Int), (writeC d pos mark cs).1.room = d.room
 | [], _, _ => rfl
 | c :: l, d, pos => by
  rw [writeC]
  split
  ·exact write_room _ _ _
  ·rw [writeC_room mark l, write_room]
theorem writeC_bytes (mark : Nat) : ∀ (cs : List (List Int)) (d : Dev) (pos : Int), d.Bytes → (∀ c ∈ cs, Byt c) → (writeC d pos mark cs).1.Bytes
 | [], _, _, h, _ => h
 | c :: l, d, pos, h, hc => by
  have h1 := h.write pos (slabOf_byt (hc c (by simp)) mark)
  rw [writeC]
  split
  ·exact h1
  ·exact writeC_bytes mark l _ _ h1 fun c hc' => hc c (by simp [hc'])
theorem write_many (d : Dev) (at_ : Int) (s : Slb) : (d.write at_ s).1.written.length ≤ d.written.length + 1 := by
 unfold Dev.write
 split
 ·split
  ·show d.written.length ≤ _; omega
  ·simp
 ·show d.written.length ≤ _; omega
theorem writeC_many (mark : Nat) : ∀ (cs : List (List Int)) (d : Dev) (pos : Int), (writeC d pos mark cs).1.written.length ≤ d.written.length + cs.length
 | [], _, _ => Nat.le_refl _
 | c :: l, d, pos => by
  have h1 := write_many d pos (slabOf c mark)
  rw [writeC, List.length_cons]
  split
  ·omega
  ·have := writeC_many mark l (d.write pos (slabOf c mark)).1 (pos + 1)
   omega
theorem room_any (w : World) (b : Nat) (F : Nat → Prop) (d : Dev) (h : DevRep w b F d) :
  Calls Tryz.prog 65 #[.pointer (some ⟨b, 0, none⟩)] w fun e w' => e = .returned (.int .i64 (d.room : Int)) ∧ w = w' := by
 have hs := size_any w b F d h
 have hf := h.good.few
 have hr : (d.kept.length : Int).tdiv 2 = (d.room : Int) := by unfold Dev.room; rw [Int.tdiv_eq_ediv_of_nonneg (by omega)]; omega
 have hr2 : (d.room : Int) ≤ 4096 := by unfold Dev.room; omega
 have hr0 : 0 ≤ (d.room : Int) := by omega
 generalize (d.kept.length : Int) = N at hs hr
 generalize (d.room : Int) = R at hr hr2 hr0 ⊢
 clear h hf
 go_enter Tryz.func65, Tryz.ntmps65
 go_wp2_with (go_at_call 99; refine hs.mono ?_; rintro e w' ⟨rfl, rfl⟩)
 have hw : wrap64 R = R := by rw [← IntWalk.i64_left, IntKind.wrap_i64]; omega
 go_ret
 exact ⟨rfl, rfl⟩
theorem Slabs_any (w : World) (n : Int) (hn : n ≤ 9223372036854775807) :
  Calls Tryz.prog 53 #[.int .i64 n] w fun e w' => e = .returned (.int .i64 (slabsN n : Int)) ∧ w = w' := by
 by_cases h0 : n < 0
 ·have hs : slabsN n = 0 := by rw [slabsN, if_pos h0]
  rw [hs]
  clear hs
  go_enter Tryz.func53, Tryz.ntmps53
  go_wp2
  go_ret
  exact ⟨rfl, rfl⟩
 ·obtain ⟨m, hm⟩ : ∃ m : Int, m = min n 1099511627776 := ⟨_, rfl⟩
  have m0 : 0 ≤ m := by omega
  have m1 : m ≤ 1099511627776 := by omega
  have hs : (slabsN n : Int) = (m + 156) / 120 := by rw [slabsN, if_neg h0, ← hm]; omega
  obtain ⟨q, hq⟩ : ∃ q : Int, q = (m + 156) / 120 := ⟨_, rfl⟩
  rw [hs, ← hq]
  clear hs
  go_enter Tryz.func53, Tryz.ntmps53
  go_wp2
  all_goals
   go_ret
   refine ⟨?_, rfl⟩
   show Ending.returned (Value.int IntKind.i64 _) = _
   congr 2
   omega
theorem Fits_any (w : World) (b : Nat) (F : Nat → Prop) (d : Dev) (h : DevRep w b F d) (n : Int) (hn : n ≤ 9223372036854775807) :
  Calls Tryz.prog 31 #[.pointer (some ⟨b, 0, none⟩), .int .i64 n] w fun e w' => e = .returned (.bool (fitsB d n)) ∧ w = w' := by
 have hr := room_any w b F d h
 have hR : d.room ≤ 4096 := by have := h.good.few; unfold Dev.room; omega
 have HF : fitsB d n = (decide (0 ≤ n) && (decide (n ≤ 100000) && decide (1 + (slabsN n : Int) ≤ (d.room : Int)))) := rfl
 have hs := Slabs_any w n hn
 by_cases h0 : 0 ≤ n ∧ n ≤ 100000
 ·have hsn : slabsN n ≤ 1000 := by unfold slabsN; rw [if_neg (by omega)]; omega
  obtain ⟨i0, i1⟩ := h0
  rw [HF, decide_eq_true i0, decide_eq_true i1]
  obtain ⟨R, hRR⟩ : ∃ R : Int, R = (d.room : Int) := ⟨_, rfl⟩
  obtain ⟨S, hSS⟩ : ∃ S : Int, S = (slabsN n : Int) := ⟨_, rfl⟩
  rw [← hRR] at hr ⊢
  rw [← hSS] at hs ⊢
  have s0 : 0 ≤ S := by omega
  have s1 : S ≤ 1000 := by omega
  clear HF hRR hSS hsn hR
  go_enter Tryz.func31, Tryz.ntmps31
  go_wp2_with (first
   | (go_at_call 53; refine hs.mono ?_; rintro e w' ⟨rfl, rfl⟩)
   | (go_at_call 65; refine hr.mono ?_; rintro e w' ⟨rfl, rfl⟩))
  all_goals (go_ret; simp_all)
 ·have hf : fitsB d n = false := by rw [HF]; simp; omega
  rw [hf]
  clear HF hf hR hr hs
  by_cases i0 : 0 ≤ n
  ·have i1 : ¬ n ≤ 100000 := by omega
   go_enter Tryz.func31, Tryz.ntmps31
   go_wp2
   go_ret
   exact ⟨rfl, rfl⟩
  ·go_enter Tryz.func31, Tryz.ntmps31
   go_wp2
   go_ret
   exact ⟨rfl, rfl⟩
def u64 (v : Int) : Int := v % 18446744073709551616
def i64 (n : Int) : Int := if n < 9223372036854775808 then n else n - 18446744073709551616


theorem below_alloc {w v : World} (h : Below w.heap.size w v) (o : Obj) : Below w.heap.size w (v.alloc o) := Below.then_ h ((Below.refl _ v).alloc (Nat.le_refl _) o)
theorem Byss.one (w w1 : World) (e : TypeId) (A : Option Addr) (n c : Nat) (x : List Int) (h : Bys w A n x) (hc : n ≤ c) (hb : Below w.heap.size w w1) : Byss (w1.alloc (.cells #[.slice A n c] e)) (some ⟨w1.heap.size, 0, none⟩) 1 [x] := by
 refine ⟨rfl, fun _ => ⟨w1.heap.size, 0, rfl, fun j xs hj => ?_⟩⟩
 rcases j with _ | j
 ·simp at hj; subst hj
  exact ⟨A, n, c, by rw [Nat.zero_add]; exact (Blk.new w1 e [.slice A n c]).c0, (h.below hb).alloc _, hc⟩
 ·simp at hj


def loadHash (a : Addr) : Sem Value := loadVar 104 a
theorem loadHash_fold (a : Addr) : loadVar 104 a = loadHash a := rfl





section
attribute [local go_sem ↓] loadHash_fold
end


section
variable {P : Program}
theorem stepRow {w : World} {ops : Array Oper} {o : Oper} {a : Act} {K : Act → World → Prop} {Q : Exit → Act → World → Prop} {E : Prop} (hgd : o.guard = none) (d : Nat) (hd : o.dst = some d) (s x : Operand) (t : TypeId)
  (ho : o.op = .call { callee := .builtin .append, args := #[s, x], argTypes := #[t, t] })
  (e : TypeId) (k by_ : Nat) (ht : P.underlying t = some (.slice e)) (hi : (P.info? e).map (fun i => (i.size, i.bytes, i.zero.map (fun z => z.cells.size))) = some (k, by_, some k)) (hk : 0 < k)
  (base : Nat) (v : Value) (n : Nat) (cs : List Value) (hs : a.eval s = v) (h : w.ownsRow base e k v n cs) (hbase : base ≤ w.heap.size)
  (b off m c : Nat) (news : List Value) (hx : a.eval x = .slice (some ⟨b, off, none⟩) m c) (hl : news.length = m * k) (hnews : w.rangeAt b off news) (h1 : ∀ u ∈ news, u.oneCell' = true)
  (hbytes : (n + m) * by_ ≤ 140737488355328) (hby : 0 < by_)
  (hK : ∀ A' c' w', w'.ownsRow base e k (.slice A' (n + m) c') (n + m) (cs ++ news) → n + m ≤ c' → (∀ g, (Value.slice A' (n + m) c').ownBlock = some g → v.ownBlock = some g ∨ w.heap.size ≤ g) → Only (fun i => v.ownBlock = some i) w w' → K (a.put (some d) (.slice A' (n + m) c')) w') :
  if Region.wanted o (yielded ops a.tmps) = true then Oper.wp P o a w K Q else E := by
 have hw : Region.wanted o (yielded ops a.tmps) = true := by simp [Region.wanted, hgd]
 rw [if_pos hw]
 rw [← hd] at hK
 obtain ⟨i, z, hi1, hz, hsz, hbb, hzs⟩ : ∃ i z, P.info? e = some i ∧ i.zero = some z ∧ i.size = k ∧ i.bytes = by_ ∧ z.cells.size = k := by
  cases hq : P.info? e with
  | none => simp [hq] at hi
  | some i =>
   cases hz : i.zero with
   | none => simp [hq, hz] at hi
   | some z =>
    simp [hq, hz] at hi
    exact ⟨i, z, rfl, hz, hi.1, hi.2.1, hi.2.2⟩
 have hn : n + m ≤ 140737488355328 := Nat.le_trans (Nat.le_mul_of_pos_right _ hby) hbytes
 obtain ⟨v', w', hrun, o1, g1, _, hat⟩ := run_append_own_at (P := P) w base t o.type e i z k by_ ht hi1 hz hsz hbb hzs hk v n cs h ⟨b, off, none⟩ m c news hl (fun j u hu => by rw [Addr.add_mid]; exact hnews j u hu) h1 (by simp only [maxLen]; omega) hbytes hbase
 obtain ⟨A', c', rfl, hc⟩ : ∃ A' c', v' = .slice A' (n + m) c' ∧ n + m ≤ c' := by
  rcases o1.2 with ⟨rfl, h0⟩ | ⟨g, cap, cur, rfl, _, _, hnc, _⟩
  ·exact ⟨none, 0, by rw [h0], by omega⟩
  ·exact ⟨_, cap, rfl, hnc⟩
 unfold Oper.wp execOp
 simp only [ho, resolve, invoke, builtin, Sem.run_bind, Sem.run_pure, Result.andThen_ok, List.map_toArray, List.map_cons, List.map_nil, hs, hx, hrun]
 refine hK A' c' w' o1 hc (fun g hg => ?_) ((Only.refl _ w).grown g1 (fun g hg => .inr hg))
 rcases hat with h1 | h1
 ·left; rw [← h1]; exact hg
 ·right; rw [h1] at hg; injection hg with hg; omega
end
theorem rowsOf {α : Type} {cells : α → List Value} {k : Nat} {fine : World → α → Prop} {w : World} {base : Nat} {e : TypeId} {A : Option Addr} {n c : Nat} {xs : List α} (hl : xs.length = n) (hk : ∀ a ∈ xs, (cells a).length = k)
  (h : w.ownsRow base e k (.slice A n c) n (xs.flatMap cells)) (hf : ∀ a ∈ xs, fine w a) : RowsIn cells k fine w A n xs := by
 refine ⟨hl, hf, fun hn => ?_⟩
 rcases h.2 with ⟨_, h0⟩ | ⟨g, cap, cur, e1, _, hh, hnc, hcm, _, htake⟩
 ·omega
 ·injection e1 with e1 _ _
  refine ⟨g, 0, e1, fun i a ha j u hu => ?_⟩
  have hc : Blk w g e cur.toList := by simpa [Blk] using hh
  rw [hc.cell]
  have key : ∀ (ys : List α) (i : Nat) (a : α), (∀ a ∈ ys, (cells a).length = k) → ys[i]? = some a → ∀ j u, (cells a)[j]? = some u → (ys.flatMap cells)[i * k + j]? = some u := by
   intro ys
   induction ys with
   | nil => intro i a _ h; simp at h
   | cons y ys ih =>
    intro i a hk h j u hu
    have hy := hk y (by simp)
    rcases i with _ | i
    ·simp at h
     subst h
     rw [List.flatMap_cons, List.getElem?_append_left (by have := (List.getElem?_eq_some_iff.1 hu).1; omega)]
     simpa using hu
    ·simp at h
     rw [List.flatMap_cons, List.getElem?_append_right (by rw [hy, Nat.succ_mul]; omega), hy]
     rw [show (i + 1) * k + j - k = i * k + j by rw [Nat.succ_mul]; omega]
     exact ih i a (fun b hb => hk b (by simp [hb])) h j u hu
  have := key xs i a hk ha j u hu
  rw [← htake, List.getElem?_take] at this
  rw [Nat.zero_add]
  split at this
  ·exact this
  ·cases this
section
variable {P : Program}
theorem wpListRow {w : World} {ops : Array Oper} {rest : List Oper} {o : Oper} {a : Act} {Q : Exit → Act → World → Prop} (hgd : o.guard = none) (d : Nat) (hd : o.dst = some d) (s x : Operand) (t : TypeId)
  (ho : o.op = .call { callee := .builtin .append, args := #[s, x], argTypes := #[t, t] })
  (e : TypeId) (k by_ : Nat) (ht : P.underlying t = some (.slice e)) (hi : (P.info? e).map (fun i => (i.size, i.bytes, i.zero.map (fun z => z.cells.size))) = some (k, by_, some k)) (hk : 0 < k)
  (base : Nat) (v : Value) (n : Nat) (cs : List Value) (hs : a.eval s = v) (h : w.ownsRow base e k v n cs) (hbase : base ≤ w.heap.size)
  (b off m c : Nat) (news : List Value) (hx : a.eval x = .slice (some ⟨b, off, none⟩) m c) (hl : news.length = m * k) (hnews : w.rangeAt b off news) (h1 : ∀ u ∈ news, u.oneCell' = true)
  (hbytes : (n + m) * by_ ≤ 140737488355328) (hby : 0 < by_)
  (hK : ∀ A' c' w', w'.ownsRow base e k (.slice A' (n + m) c') (n + m) (cs ++ news) → n + m ≤ c' → (∀ g, (Value.slice A' (n + m) c').ownBlock = some g → v.ownBlock = some g ∨ w.heap.size ≤ g) → Only (fun i => v.ownBlock = some i) w w' → wpList P ops Q rest (a.put (some d) (.slice A' (n + m) c')) w') : wpList P ops Q (o :: rest) a w := by
 refine wpList_plain hgd fun K hK' => ?_
 have h9 := stepRow (P := P) (ops := #[]) (K := K) (Q := Q) (E := True) hgd d hd s x t ho e k by_ ht hi hk base v n cs hs h hbase b off m c news hx hl hnews h1 hbytes hby (fun A' c' w' q1 q2 q3 q4 => hK' _ _ (hK A' c' w' q1 q2 q3 q4))
 rwa [if_pos (by simp [Region.wanted, hgd])] at h9
end
end Go.Proofs.YtjnpkcabkccaoaaGreat
