import Derived.Test.YtjnpkcabkccaoaaPk4
import Derived.Test.YtjnpkcabkccaoaaPk6
import Derived.Test.YtjnpkcabkccaoaaPk3
import Derived.Test.YtjnpkcabkccaoaaPk2
/-
  Records on a device, each sealed upon the one ahead of it: plain functions, no program in sight.
-/
namespace Go.Proofs.Ytjnpkcabkccaoaa
open Go.RowKit

def magicB : List Int := [66, 89, 78, 65, 77, 69, 48, 49]
def nil32 : List Int := List.replicate 32 0
def mostGen : Nat := 4611686018427387904
/-- How many slabs a record of so many bytes has. -/
def slabsN (n : Int) : Nat := if n < 0 then 0 else ((min n 1099511627776 + 156) / 120).toNat
def Dev.room (d : Dev) : Nat := d.kept.length / 2
def fitsB (d : Dev) (n : Int) : Bool := decide (0 ≤ n) && (decide (n ≤ 100000) && decide (1 + (slabsN n : Int) ≤ (d.room : Int)))
def headB16 (gen : Nat) : List Int := magicB ++ dig gen 8
def sealB (gen : Nat) : List Int := sha (headB16 gen)
def sealedB (gen : Nat) : List Int := headB16 gen ++ sealB gen
/-- A slab's mark. -/
def marked (s : Slb) : Nat := num (s.drop 120)
def Dev.slab (d : Dev) (i : Nat) : Slb := (d.read (i : Int)).1
/-- What counts of a half, from one slab on, of which k are left. -/
def areaFrom (d : Dev) (half mark : Nat) : Nat → Nat → List Int
  | 0, _ => []
  | k + 1, i => if marked (d.slab (half * d.room + i)) = mark then (d.slab (half * d.room + i)).take 120 ++ areaFrom d half mark k (i + 1) else []
def area (d : Dev) (half mark : Nat) : List Int := areaFrom d half mark (d.room - 1) 1
/-- A half's generation, and its ward. -/
def header (d : Dev) (half : Nat) : Nat × List Int :=
  if d.room = 0 then (0, nil32)
  else if marked (d.slab (half * d.room)) < 1 ∨ mostGen < marked (d.slab (half * d.room)) ∨ sealedB (marked (d.slab (half * d.room))) ≠ (d.slab (half * d.room)).take 48 then (0, nil32)
  else (marked (d.slab (half * d.room)), sealB (marked (d.slab (half * d.room))))
/-- The record that stands at the beginning, and its ward. -/
def nextR (b : List Int) (kind : Int) (ahead : List Int) : Option (List Int × List Int) :=
  if b.length < 5 then none
  else if 100000 < num (b.take 4) ∨ b[4]? ≠ some kind ∨ b.length < 37 + num (b.take 4) then none
  else if sha (ahead ++ b.take (5 + num (b.take 4))) ≠ (b.drop (5 + num (b.take 4))).take 32 then none
  else some ((b.drop 5).take (num (b.take 4)), sha (ahead ++ b.take (5 + num (b.take 4))))
/-- fuel: more than there are bytes. -/
def bodies : Nat → List Int → Int → List Int → List (List Int)
  | 0, _, _, _ => []
  | k + 1, b, kind, ward =>
    if b = [] then []
    else match nextR b kind ward with
      | none => []
      | some (body, s) => body :: bodies k (b.drop (slabsN body.length * 120)) 2 s
def stands (d : Dev) (half : Nat) : Nat × List (List Int) :=
  if (header d half).1 = 0 then (0, [])
  else ((header d half).1, bodies ((area d half (header d half).1).length + 1) (area d half (header d half).1) 1 (header d half).2)
structure LogD where
  half : Nat
  at_ : Int
  mark : Nat
  ward : List Int
  ready : Bool
def openAt (half : Nat) : LogD := ⟨half, 0, 0, nil32, false⟩
/-- What stands on a device: the half, and the bodies. -/
def openL (d : Dev) : Nat × List (List Int) :=
  if 0 < (stands d 0).2.length ∧ ((stands d 1).2.length = 0 ∨ (stands d 1).1 < (stands d 0).1) then (0, (stands d 0).2) else (1, (stands d 1).2)
/-- The greatest mark of all slabs. -/
def topTo (d : Dev) : Nat → Nat
  | 0 => 0
  | k + 1 => max (topTo d k) (marked (d.slab k))
def topL (d : Dev) : Nat := topTo d (2 * d.room)
def slabOf (part : List Int) (mark : Nat) : Slb := part ++ List.replicate (120 - part.length) 0 ++ dig mark 8
/-- So many bytes each. -/
def chunks (b : List Int) : List (List Int) := (List.range ((b.length + 119) / 120)).map fun i => (b.drop (i * 120)).take 120
def writeC (d : Dev) (pos : Int) (mark : Nat) : List (List Int) → Dev × Int
  | [] => (d, 0)
  | c :: l => if (d.write pos (slabOf c mark)).2 ≠ 0 then d.write pos (slabOf c mark) else writeC (d.write pos (slabOf c mark)).1 (pos + 1) mark l
def writeL (d : Dev) (half : Nat) (at_ : Int) (b : List Int) (mark : Nat) : Dev × Int := writeC d ((half : Int) * (d.room : Int) + at_) mark (chunks b)
def recB (kind : Int) (body : List Int) : List Int := dig body.length 4 ++ [kind] ++ body
def boundB (kind : Int) (body ahead : List Int) : List Int := recB kind body ++ sha (ahead ++ recB kind body)
def beginL (d : Dev) (l : LogD) (body : List Int) : Dev × LogD × Int :=
  if fitsB d body.length = false ∨ mostGen ≤ topL d then (d, l, 142)
  else
    let l1 : LogD := { l with ready := false }
    let a := writeL d (1 - l.half) 0 (sealedB (topL d + 1)) (topL d + 1)
    if a.2 ≠ 0 then (a.1, l1, a.2)
    else
      let b := writeL a.1 (1 - l.half) 1 (boundB 1 body (sealB (topL d + 1))) (topL d + 1)
      if b.2 ≠ 0 then (b.1, l1, b.2)
      else if b.1.sync.2 ≠ 0 then (b.1.sync.1, l1, b.1.sync.2)
      else (b.1.sync.1, ⟨1 - l.half, 1 + (slabsN body.length : Int), topL d + 1, sha (sealB (topL d + 1) ++ recB 1 body), true⟩, 0)
def leftL (d : Dev) (l : LogD) : Int := if l.ready then (d.room : Int) - l.at_ else 0
def addL (d : Dev) (l : LogD) (body : List Int) : Dev × LogD × Int :=
  if l.ready = false then (d, l, 141)
  else if 100000 < body.length ∨ leftL d l < (slabsN body.length : Int) then (d, l, 142)
  else
    let a := writeL d l.half l.at_ (boundB 2 body l.ward) l.mark
    if a.2 ≠ 0 then (a.1, { l with ready := false }, a.2)
    else (a.1, { l with at_ := l.at_ + (slabsN body.length : Int), ward := sha (l.ward ++ recB 2 body) }, 0)
def syncL (d : Dev) (l : LogD) : Dev × LogD × Int :=
  if l.ready = false then (d, l, 141) else (d.sync.1, { l with ready := decide (d.sync.2 = 0) }, d.sync.2)
end Go.Proofs.Ytjnpkcabkccaoaa
/-
  Slabs of bytes; what a write leaves; sizes: plain laws.
-/
namespace Go.Proofs.Ytjnpkcabkccaoaa
open Go.RowKit

/-- All that lies on a device is bytes. -/
structure Dev.Bytes (d : Dev) : Prop where
  kept : ∀ s ∈ d.kept, Byt s
  seen : ∀ s ∈ d.seen, Byt s
  written : ∀ p ∈ d.written, Byt p.2
theorem zeroS_byt : Byt zeroS := fun x hx => by have := List.eq_of_mem_replicate hx; omega
theorem newDev_bytes (n : Int) : (newDev n).Bytes :=
  ⟨fun s h => by rw [List.eq_of_mem_replicate h]; exact zeroS_byt, fun s h => by rw [List.eq_of_mem_replicate h]; exact zeroS_byt, fun p h => by cases h⟩
theorem Dev.Bytes.after {d : Dev} (h : d.Bytes) : d.after.Bytes := ⟨h.kept, h.seen, h.written⟩
theorem Dev.Bytes.write {d : Dev} (h : d.Bytes) (at_ : Int) {s : Slb} (hs : Byt s) : (d.write at_ s).1.Bytes := by
  unfold Dev.write
  split
  · split
    · exact h.after
    · refine ⟨h.kept, fun t ht => ?_, fun p hp => ?_⟩
      · rcases List.mem_or_eq_of_mem_set ht with h1 | h1
        · exact h.seen t h1
        · rw [h1]; exact hs
      · rcases List.mem_append.1 hp with h1 | h1
        · exact h.written p h1
        · rw [List.mem_singleton.1 h1]; exact hs
  · exact h
theorem over_byt (l : List Slb) (ws : List (Nat × Slb)) (h : ∀ s ∈ l, Byt s) (hw : ∀ p ∈ ws, Byt p.2) : ∀ s ∈ over l ws, Byt s := by
  unfold over
  induction ws generalizing l with
  | nil => exact h
  | cons p ws ih =>
    rw [List.foldl_cons]
    refine ih _ (fun s hs => ?_) (fun q hq => hw q (by simp [hq]))
    rcases List.mem_or_eq_of_mem_set hs with h1 | h1
    · exact h s h1
    · subst h1; exact hw p (by simp)
theorem Dev.Bytes.sync {d : Dev} (h : d.Bytes) : d.sync.1.Bytes := by
  unfold Dev.sync
  split
  · exact h.after
  · exact ⟨over_byt _ _ h.kept h.written, h.seen, fun p hp => by cases hp⟩
theorem Dev.Bytes.limit {d : Dev} (h : d.Bytes) (n : Int) : (d.limit n).Bytes := ⟨h.kept, h.seen, h.written⟩
theorem Byt.nil : Byt [] := fun x h => by cases h
theorem getD_byt {l : List Slb} (h : ∀ s ∈ l, Byt s) (i : Nat) : Byt (l[i]?.getD []) := by
  cases hq : l[i]? with
  | none => exact Byt.nil
  | some s => exact h s (List.mem_of_getElem? hq)
theorem tear_byt {a b : Slb} (ha : Byt a) (hb : Byt b) (n : Int) : Byt (tear a b n) := by
  intro x hx
  rcases List.mem_append.1 hx with h | h
  · exact ha x (List.mem_of_mem_take h)
  · exact hb x (List.mem_of_mem_drop h)
theorem lossy_byt {l : List Slb} {ws : List (Nat × Slb)} (bs : List Int) (h : ∀ s ∈ l, Byt s) (hw : ∀ p ∈ ws, Byt p.2) : ∀ j, ∀ s ∈ lossy l ws bs j, Byt s
  | 0 => h
  | j + 1 => by
    have ih := lossy_byt bs h hw j
    unfold lossy
    split
    · rename_i p n hp hn
      intro s hs
      rcases List.mem_or_eq_of_mem_set hs with h1 | h1
      · exact ih s h1
      · rw [h1]; exact tear_byt (hw p (List.mem_of_getElem? hp)) (getD_byt ih _) n
    · exact ih
theorem back_byt {l k : List Slb} {ws : List (Nat × Slb)} (h : ∀ s ∈ l, Byt s) (hk : ∀ s ∈ k, Byt s) : ∀ j, ∀ s ∈ back l k ws j, Byt s
  | 0 => h
  | j + 1 => by
    have ih := back_byt (ws := ws) h hk j
    unfold back
    split
    · intro s hs
      rcases List.mem_or_eq_of_mem_set hs with h1 | h1
      · exact ih s h1
      · rw [h1]; exact getD_byt hk _
    · exact ih
theorem Dev.Bytes.restart {d : Dev} (h : d.Bytes) (bs : List Int) : (d.restart bs).Bytes :=
  ⟨lossy_byt bs h.kept h.written _, back_byt h.seen (lossy_byt bs h.kept h.written _) _, fun p hp => by cases hp⟩
theorem Dev.Bytes.slab {d : Dev} (h : d.Bytes) (i : Nat) : Byt (d.slab i) := by
  unfold Dev.slab Dev.read
  split
  · cases hq : d.seen[(i : Int).toNat]? with
    | none => exact zeroS_byt
    | some s => exact h.seen s (List.mem_of_getElem? hq)
  · exact zeroS_byt
theorem Dev.Good.slab {d : Dev} (h : d.Good) (i : Nat) : (d.slab i).length = 128 := by
  unfold Dev.slab Dev.read
  split
  · cases hq : d.seen[(i : Int).toNat]? with
    | none => exact zeroS_length
    | some s => exact h.s128 s (List.mem_of_getElem? hq)
  · exact zeroS_length
theorem marked_lt {s : Slb} (hb : Byt s) (hl : s.length = 128) : marked s < 18446744073709551616 := by
  have := num_lt (s.drop 120) (fun x hx => hb x (List.mem_of_mem_drop hx))
  rw [List.length_drop, hl] at this
  exact this
theorem sealedB_len (g : Nat) : (sealedB g).length = 48 := by simp [sealedB, headB16, magicB, dig_length, sealB, sha_len]
theorem headB16_len (g : Nat) : (headB16 g).length = 16 := by simp [headB16, magicB, dig_length]
theorem magicB_byt : Byt magicB := by
  intro x hx
  simp only [magicB, List.mem_cons, List.mem_nil_iff, or_false] at hx
  omega
theorem byt_append {a b : List Int} (ha : Byt a) (hb : Byt b) : Byt (a ++ b) := fun x hx => by
  rcases List.mem_append.1 hx with h | h
  · exact ha x h
  · exact hb x h
theorem headB16_byt (g : Nat) : Byt (headB16 g) := byt_append magicB_byt (dig_byt _ _)
theorem sealedB_byt (g : Nat) : Byt (sealedB g) := byt_append (headB16_byt g) (sha_byt _)
theorem slabOf_len {p : List Int} (h : p.length ≤ 120) (m : Nat) : (slabOf p m).length = 128 := by
  simp [slabOf, dig_length]; omega
theorem slabOf_byt {p : List Int} (h : Byt p) (m : Nat) : Byt (slabOf p m) :=
  byt_append (byt_append h fun x hx => by have := List.eq_of_mem_replicate hx; omega) (dig_byt _ _)
theorem chunks_len (b : List Int) : ∀ c ∈ chunks b, c.length ≤ 120 := by
  intro c hc
  obtain ⟨i, _, rfl⟩ := List.mem_map.1 hc
  exact List.length_take_le _ _
theorem chunks_byt {b : List Int} (h : Byt b) : ∀ c ∈ chunks b, Byt c := by
  intro c hc
  obtain ⟨i, _, rfl⟩ := List.mem_map.1 hc
  exact fun x hx => h x (List.mem_of_mem_drop (List.mem_of_mem_take hx))
theorem write_kept (d : Dev) (at_ : Int) (s : Slb) : (d.write at_ s).1.kept.length = d.kept.length := by
  unfold Dev.write
  split
  · split <;> rfl
  · rfl
theorem write_room (d : Dev) (at_ : Int) (s : Slb) : (d.write at_ s).1.room = d.room := by rw [Dev.room, write_kept]; rfl
theorem writeC_room (mark : Nat) : ∀ (cs : List (List Int)) (d : Dev) (pos : Int), (writeC d pos mark cs).1.room = d.room
  | [], _, _ => rfl
  | c :: l, d, pos => by
    rw [writeC]
    split
    · exact write_room _ _ _
    · rw [writeC_room mark l, write_room]
theorem writeC_good (mark : Nat) : ∀ (cs : List (List Int)) (d : Dev) (pos : Int), d.Good → (∀ c ∈ cs, c.length ≤ 120) → (writeC d pos mark cs).1.Good
  | [], _, _, h, _ => h
  | c :: l, d, pos, h, hc => by
    have h1 := h.write pos (slabOf c mark) (slabOf_len (hc c (by simp)) _)
    rw [writeC]
    split
    · exact h1
    · exact writeC_good mark l _ _ h1 fun c hc' => hc c (by simp [hc'])
theorem writeC_bytes (mark : Nat) : ∀ (cs : List (List Int)) (d : Dev) (pos : Int), d.Bytes → (∀ c ∈ cs, Byt c) → (writeC d pos mark cs).1.Bytes
  | [], _, _, h, _ => h
  | c :: l, d, pos, h, hc => by
    have h1 := h.write pos (slabOf_byt (hc c (by simp)) mark)
    rw [writeC]
    split
    · exact h1
    · exact writeC_bytes mark l _ _ h1 fun c hc' => hc c (by simp [hc'])
theorem write_many (d : Dev) (at_ : Int) (s : Slb) : (d.write at_ s).1.written.length ≤ d.written.length + 1 := by
  unfold Dev.write
  split
  · split
    · show d.written.length ≤ _; omega
    · simp
  · show d.written.length ≤ _; omega
theorem writeC_many (mark : Nat) : ∀ (cs : List (List Int)) (d : Dev) (pos : Int), (writeC d pos mark cs).1.written.length ≤ d.written.length + cs.length
  | [], _, _ => Nat.le_refl _
  | c :: l, d, pos => by
    have h1 := write_many d pos (slabOf c mark)
    rw [writeC, List.length_cons]
    split
    · omega
    · have := writeC_many mark l (d.write pos (slabOf c mark)).1 (pos + 1)
      omega
end Go.Proofs.Ytjnpkcabkccaoaa
/-
  chainlog: sizes.
-/
namespace Go.Proofs.Ytjnpkcabkccaoaa
open Go.RowKit

set_option maxHeartbeats 1000000 in
theorem room_any (w : World) (b : Nat) (F : Nat → Prop) (d : Dev) (h : DevRep w b F d) :
    Calls Try.prog 116 #[.pointer (some ⟨b, 0, none⟩)] w fun e w' => e = .returned (.int .i64 (d.room : Int)) ∧ w = w' := by
  have hs := size_any w b F d h
  have hf := h.good.few
  have hr : (d.kept.length : Int).tdiv 2 = (d.room : Int) := by unfold Dev.room; rw [Int.tdiv_eq_ediv_of_nonneg (by omega)]; omega
  have hr2 : (d.room : Int) ≤ 4096 := by unfold Dev.room; omega
  have hr0 : 0 ≤ (d.room : Int) := by omega
  generalize (d.kept.length : Int) = N at hs hr
  generalize (d.room : Int) = R at hr hr2 hr0 ⊢
  clear h hf
  go_enter Try.func116, Try.ntmps116
  go_wp2_with (go_at_call 27; refine hs.mono ?_; rintro e w' ⟨rfl, rfl⟩)
  have hw : wrap64 R = R := by rw [← IntWalk.i64_left, IntKind.wrap_i64]; omega
  go_ret
  exact ⟨rfl, rfl⟩
set_option maxHeartbeats 1000000 in
theorem Slabs_any (w : World) (n : Int) (hn : n ≤ 9223372036854775807) :
    Calls Try.prog 60 #[.int .i64 n] w fun e w' => e = .returned (.int .i64 (slabsN n : Int)) ∧ w = w' := by
  by_cases h0 : n < 0
  · have hs : slabsN n = 0 := by rw [slabsN, if_pos h0]
    rw [hs]
    clear hs
    go_enter Try.func60, Try.ntmps60
    go_wp2
    go_ret
    exact ⟨rfl, rfl⟩
  · obtain ⟨m, hm⟩ : ∃ m : Int, m = min n 1099511627776 := ⟨_, rfl⟩
    have m0 : 0 ≤ m := by omega
    have m1 : m ≤ 1099511627776 := by omega
    have hs : (slabsN n : Int) = (m + 156) / 120 := by rw [slabsN, if_neg h0, ← hm]; omega
    obtain ⟨q, hq⟩ : ∃ q : Int, q = (m + 156) / 120 := ⟨_, rfl⟩
    rw [hs, ← hq]
    clear hs
    go_enter Try.func60, Try.ntmps60
    go_wp2
    all_goals
      go_ret
      refine ⟨?_, rfl⟩
      show Ending.returned (Value.int IntKind.i64 _) = _
      congr 2
      omega
set_option maxHeartbeats 1000000 in
theorem Fits_any (w : World) (b : Nat) (F : Nat → Prop) (d : Dev) (h : DevRep w b F d) (n : Int) (hn : n ≤ 9223372036854775807) :
    Calls Try.prog 61 #[.pointer (some ⟨b, 0, none⟩), .int .i64 n] w fun e w' => e = .returned (.bool (fitsB d n)) ∧ w = w' := by
  have hr := room_any w b F d h
  have hR : d.room ≤ 4096 := by have := h.good.few; unfold Dev.room; omega
  have HF : fitsB d n = (decide (0 ≤ n) && (decide (n ≤ 100000) && decide (1 + (slabsN n : Int) ≤ (d.room : Int)))) := rfl
  have hs := Slabs_any w n hn
  by_cases h0 : 0 ≤ n ∧ n ≤ 100000
  · have hsn : slabsN n ≤ 1000 := by unfold slabsN; rw [if_neg (by omega)]; omega
    obtain ⟨i0, i1⟩ := h0
    rw [HF, decide_eq_true i0, decide_eq_true i1]
    obtain ⟨R, hRR⟩ : ∃ R : Int, R = (d.room : Int) := ⟨_, rfl⟩
    obtain ⟨S, hSS⟩ : ∃ S : Int, S = (slabsN n : Int) := ⟨_, rfl⟩
    rw [← hRR] at hr ⊢
    rw [← hSS] at hs ⊢
    have s0 : 0 ≤ S := by omega
    have s1 : S ≤ 1000 := by omega
    clear HF hRR hSS hsn hR
    go_enter Try.func61, Try.ntmps61
    go_wp2_with (first
      | (go_at_call 60; refine hs.mono ?_; rintro e w' ⟨rfl, rfl⟩)
      | (go_at_call 116; refine hr.mono ?_; rintro e w' ⟨rfl, rfl⟩))
    all_goals (go_ret; simp_all)
  · have hf : fitsB d n = false := by rw [HF]; simp; omega
    rw [hf]
    clear HF hf hR hr hs
    by_cases i0 : 0 ≤ n
    · have i1 : ¬ n ≤ 100000 := by omega
      go_enter Try.func61, Try.ntmps61
      go_wp2
      go_ret
      exact ⟨rfl, rfl⟩
    · go_enter Try.func61, Try.ntmps61
      go_wp2
      go_ret
      exact ⟨rfl, rfl⟩
end Go.Proofs.Ytjnpkcabkccaoaa
/-
  What is begun and added on a device that never stops stands there: plain laws.
-/
namespace Go.Proofs.Ytjnpkcabkccaoaa
open Go.RowKit

/-! ### Bytes in slabs -/
def padC (c : List Int) : List Int := c ++ List.replicate (120 - c.length) 0
theorem padC_len {c : List Int} (h : c.length ≤ 120) : (padC c).length = 120 := by simp [padC]; omega
theorem slabOf_take {c : List Int} (h : c.length ≤ 120) (m : Nat) : (slabOf c m).take 120 = padC c := by
  show (padC c ++ dig m 8).take 120 = padC c
  rw [List.take_append_of_le_length (by rw [padC_len h]; omega), List.take_of_length_le (by rw [padC_len h]; omega)]
theorem slabOf_mark {c : List Int} (h : c.length ≤ 120) (m : Nat) (hm : m < 18446744073709551616) : marked (slabOf c m) = m := by
  show num ((padC c ++ dig m 8).drop 120) = m
  rw [List.drop_append_of_le_length (by rw [padC_len h]; omega), List.drop_of_length_le (by rw [padC_len h]; omega), List.nil_append, num_dig]
  exact Nat.mod_eq_of_lt (by simpa using hm)
theorem chunks_count (b : List Int) : (chunks b).length = (b.length + 119) / 120 := by simp [chunks]
theorem chunks_get (b : List Int) (i : Nat) (h : i < (b.length + 119) / 120) : (chunks b)[i]? = some ((b.drop (i * 120)).take 120) := by
  unfold chunks
  rw [List.getElem?_map, List.getElem?_range h]; rfl
/-- So many bytes each, one behind the other. -/
theorem chunks_step (b : List Int) (h : b ≠ []) : chunks b = b.take 120 :: chunks (b.drop 120) := by
  have hl : 0 < b.length := List.length_pos_iff.2 h
  unfold chunks
  have e : (b.length + 119) / 120 = ((b.drop 120).length + 119) / 120 + 1 := by rw [List.length_drop]; omega
  rw [e, List.range_succ_eq_map, List.map_cons, List.map_map]
  congr 1
  apply List.map_congr_left
  intro i _
  show (b.drop ((i + 1) * 120)).take 120 = ((b.drop 120).drop (i * 120)).take 120
  rw [List.drop_drop, show 120 + i * 120 = (i + 1) * 120 by omega]
theorem chunks_nil : chunks [] = [] := rfl
def padded (b : List Int) : List Int := b ++ List.replicate ((b.length + 119) / 120 * 120 - b.length) 0
theorem chunks_pad : ∀ (k : Nat) (b : List Int), b.length ≤ k → (chunks b).flatMap padC = padded b
  | 0, b, h => by
    obtain rfl : b = [] := List.eq_nil_of_length_eq_zero (by omega)
    rfl
  | k + 1, b, h => by
    by_cases hb : b = []
    · subst hb; rfl
    · have hl : 0 < b.length := List.length_pos_iff.2 hb
      rw [chunks_step b hb, List.flatMap_cons]
      rw [chunks_pad k (b.drop 120) (by rw [List.length_drop]; omega)]
      unfold padC padded
      by_cases h120 : 120 ≤ b.length
      · have e1 : (b.take 120).length = 120 := by rw [List.length_take]; omega
        have e2 : ((b.drop 120).length + 119) / 120 * 120 - (b.drop 120).length = (b.length + 119) / 120 * 120 - b.length := by rw [List.length_drop]; omega
        rw [e1, e2, Nat.sub_self, List.replicate_zero, List.append_nil, ← List.append_assoc, List.take_append_drop]
      · have e1 : b.take 120 = b := List.take_of_length_le (by omega)
        have e2 : b.drop 120 = [] := List.drop_of_length_le (by omega)
        have e3 : (b.length + 119) / 120 * 120 = 120 := by omega
        rw [e1, e2, e3]
        simp
theorem padded_len (b : List Int) : (padded b).length = (b.length + 119) / 120 * 120 := by
  simp [padded]; omega
/-! ### Records -/
theorem slabsN_nat (n : Nat) (h : n ≤ 100000) : slabsN (n : Int) = (n + 37 + 119) / 120 := by
  unfold slabsN
  rw [if_neg (by omega)]
  omega
theorem recB_len (k : Int) (b : List Int) : (recB k b).length = b.length + 5 := by simp [recB, dig_length]; omega
theorem boundB_len (k : Int) (b a : List Int) : (boundB k b a).length = b.length + 37 := by simp [boundB, recB_len, sha_len]
theorem boundB_byt {k : Int} {b a : List Int} (hk : 0 ≤ k ∧ k ≤ 255) (hb : Byt b) : Byt (boundB k b a) :=
  byt_append (byt_append (byt_append (dig_byt _ _) (fun x hx => by rw [List.mem_singleton.1 hx]; exact hk)) hb) (sha_byt _)
/-- Records, each sealed upon the one ahead of it. -/
def rowsR : List (List Int) → Int → List Int → List Int
  | [], _, _ => []
  | b :: l, k, a => padded (boundB k b a) ++ rowsR l 2 (sha (a ++ recB k b))
def chunksR : List (List Int) → Int → List Int → List (List Int)
  | [], _, _ => []
  | b :: l, k, a => chunks (boundB k b a) ++ chunksR l 2 (sha (a ++ recB k b))
def sealR : List (List Int) → Int → List Int → List Int
  | [], _, a => a
  | b :: l, k, a => sealR l 2 (sha (a ++ recB k b))
theorem chunksR_pad : ∀ (l : List (List Int)) (k : Int) (a : List Int), (chunksR l k a).flatMap padC = rowsR l k a
  | [], _, _ => rfl
  | b :: l, k, a => by rw [chunksR, rowsR, List.flatMap_append, chunks_pad _ _ (Nat.le_refl _), chunksR_pad l]
theorem chunksR_le : ∀ (l : List (List Int)) (k : Int) (a : List Int), ∀ c ∈ chunksR l k a, c.length ≤ 120
  | [], _, _, c, h => by cases h
  | b :: l, k, a, c, h => by
    rcases List.mem_append.1 h with h | h
    · exact chunks_len _ c h
    · exact chunksR_le l _ _ c h
theorem chunksR_more (b : List Int) : ∀ (l : List (List Int)) (x : List Int) (k : Int) (a : List Int), chunksR (x :: l ++ [b]) k a = chunksR (x :: l) k a ++ chunks (boundB 2 b (sealR (x :: l) k a)) ∧ sealR (x :: l ++ [b]) k a = sha (sealR (x :: l) k a ++ recB 2 b)
  | [], x, k, a => by simp [chunksR, sealR]
  | y :: l, x, k, a => by
    have h := chunksR_more b l y 2 (sha (a ++ recB k x))
    constructor
    · show chunks (boundB k x a) ++ chunksR (y :: l ++ [b]) 2 (sha (a ++ recB k x)) = (chunks (boundB k x a) ++ chunksR (y :: l) 2 (sha (a ++ recB k x))) ++ chunks (boundB 2 b (sealR (y :: l) 2 (sha (a ++ recB k x))))
      rw [h.1, List.append_assoc]
    · exact h.2
theorem chunksR_snoc (l : List (List Int)) (k : Int) (a b : List Int) (h : l ≠ []) : chunksR (l ++ [b]) k a = chunksR l k a ++ chunks (boundB 2 b (sealR l k a)) ∧ sealR (l ++ [b]) k a = sha (sealR l k a ++ recB 2 b) := by
  cases l with
  | nil => exact absurd rfl h
  | cons x l => exact chunksR_more b l x k a
/-- A record is read back. -/
theorem nextR_back (b rest a : List Int) (k : Int) (hb : b.length ≤ 100000) : nextR (boundB k b a ++ rest) k a = some (b, sha (a ++ recB k b)) := by
  have h4 : (boundB k b a ++ rest).take 4 = dig b.length 4 := by
    unfold boundB recB
    simp only [List.append_assoc]
    rw [List.take_append_of_le_length (by rw [dig_length]; omega), List.take_of_length_le (by rw [dig_length]; omega)]
  have hn : num ((boundB k b a ++ rest).take 4) = b.length := by
    rw [h4, num_dig]
    exact Nat.mod_eq_of_lt (by have : (256 : Nat) ^ 4 = 4294967296 := by decide
                               omega)
  have h5 : (boundB k b a ++ rest)[4]? = some k := by
    unfold boundB recB
    simp only [List.append_assoc]
    rw [List.getElem?_append_right (by rw [dig_length]; omega), dig_length]
    rfl
  have hl : (boundB k b a ++ rest).length = b.length + 37 + rest.length := by rw [List.length_append, boundB_len]
  have ht : (boundB k b a ++ rest).take (5 + b.length) = recB k b := by
    unfold boundB
    rw [List.append_assoc, List.take_append_of_le_length (by rw [recB_len]; omega), List.take_of_length_le (by rw [recB_len]; omega)]
  have hd : ((boundB k b a ++ rest).drop (5 + b.length)).take 32 = sha (a ++ recB k b) := by
    unfold boundB
    rw [List.append_assoc, List.drop_append_of_le_length (by rw [recB_len]; omega), List.drop_of_length_le (by rw [recB_len]; omega), List.nil_append, List.take_append_of_le_length (by rw [sha_len]; omega), List.take_of_length_le (by rw [sha_len]; omega)]
  have hbd : ((boundB k b a ++ rest).drop 5).take b.length = b := by
    unfold boundB recB
    rw [List.append_assoc, List.append_assoc, List.drop_append_of_le_length (by simp [dig_length]), List.drop_of_length_le (by simp [dig_length]), List.nil_append, List.take_append_of_le_length (Nat.le_refl _), List.take_of_length_le (Nat.le_refl _)]
  unfold nextR
  rw [hn]
  rw [if_neg (by omega), if_neg (by rw [h5, hl]; simp; omega), if_neg (by rw [ht, hd]; simp), hbd, ht]
theorem bodies_back : ∀ (l : List (List Int)) (k : Int) (a : List Int) (fuel : Nat), (∀ b ∈ l, b.length ≤ 100000) → l.length < fuel → bodies fuel (rowsR l k a) k a = l
  | [], _, _, fuel, _, hf => by
    obtain ⟨m, rfl⟩ : ∃ m, fuel = m + 1 := ⟨fuel - 1, by omega⟩
    rfl
  | b :: l, k, a, fuel, h, hf => by
    obtain ⟨m, rfl⟩ : ∃ m, fuel = m + 1 := ⟨fuel - 1, by omega⟩
    have hb := h b (by simp)
    have hne : rowsR (b :: l) k a ≠ [] := by
      intro e
      have := congrArg List.length e
      rw [rowsR, List.length_append, padded_len, boundB_len] at this
      simp at this
      omega
    have hx : nextR (rowsR (b :: l) k a) k a = some (b, sha (a ++ recB k b)) := by
      rw [rowsR, padded, List.append_assoc]
      exact nextR_back b _ a k hb
    have hdrop : (rowsR (b :: l) k a).drop (slabsN b.length * 120) = rowsR l 2 (sha (a ++ recB k b)) := by
      rw [rowsR]
      have : (padded (boundB k b a)).length = slabsN b.length * 120 := by rw [padded_len, boundB_len, slabsN_nat _ hb]
      rw [List.drop_append_of_le_length (by omega), List.drop_of_length_le (by omega), List.nil_append]
    rw [bodies, if_neg hne, hx]
    simp only [hdrop]
    rw [bodies_back l 2 _ m (fun c hc => h c (by simp [hc])) (by simpa using hf)]
theorem slab_eq (d : Dev) (i : Nat) : d.slab i = if i < d.kept.length then d.seen[i]?.getD zeroS else zeroS := by
  unfold Dev.slab Dev.read
  by_cases h : i < d.kept.length
  · have h1 : d.has (i : Int) = true := by simp [Dev.has]; omega
    rw [if_pos h1, if_pos h]
    simp
  · have h1 : d.has (i : Int) = false := by simp [Dev.has]; omega
    rw [h1, if_neg h]
    simp
/-! ### A device that never stops -/
structure Dev.Calm (d : Dev) : Prop where
  good : d.Good
  budget : d.budget = -1
  down : d.down = false
theorem Dev.Calm.after {d : Dev} (h : d.Calm) : d.after = d ∧ d.stops = false := by
  have hs : d.stops = false := by simp [Dev.stops, h.budget, h.down]
  refine ⟨?_, hs⟩
  unfold Dev.after
  rw [hs, h.budget]
  have := h.down
  have := h.budget
  cases d
  simp_all
theorem Dev.Calm.write {d : Dev} (h : d.Calm) (p : Nat) (hp : p < d.kept.length) {s : Slb} (hs : s.length = 128) :
    (d.write p s).2 = 0 ∧ (d.write p s).1.Calm ∧ (d.write p s).1.kept = d.kept ∧ ∀ i, (d.write p s).1.slab i = if i = p then s else d.slab i := by
  obtain ⟨ha, hst⟩ := h.after
  have hhas : d.has (p : Int) = true := by simp [Dev.has]; omega
  have hg := h.good.write p s hs
  have e : d.write p s = ({ d with seen := d.seen.set p s, written := d.written ++ [(p, s)] }, 0) := by
    unfold Dev.write
    rw [if_pos hhas, hst, ha]
    simp
  rw [e] at hg ⊢
  refine ⟨rfl, ⟨hg, h.budget, h.down⟩, rfl, fun i => ?_⟩
  have hsl := h.good.seen
  rw [slab_eq, slab_eq]
  show (if i < d.kept.length then (d.seen.set p s)[i]?.getD zeroS else zeroS) = _
  by_cases hi : i < d.kept.length
  · rw [if_pos hi, if_pos hi]
    by_cases hip : i = p
    · subst hip
      rw [if_pos rfl, List.getElem?_set_self (by omega)]; rfl
    · rw [if_neg hip, List.getElem?_set_ne (Ne.symm hip)]
  · rw [if_neg hi, if_neg hi, if_neg (by omega)]
theorem Dev.Calm.writeC (mark : Nat) : ∀ (cs : List (List Int)) (d : Dev) (p : Nat), d.Calm → (∀ c ∈ cs, c.length ≤ 120) → p + cs.length ≤ d.kept.length →
    (Go.Proofs.Ytjnpkcabkccaoaa.writeC d p mark cs).2 = 0 ∧ (Go.Proofs.Ytjnpkcabkccaoaa.writeC d p mark cs).1.Calm ∧ (Go.Proofs.Ytjnpkcabkccaoaa.writeC d p mark cs).1.kept = d.kept ∧ (∀ i, i < p ∨ p + cs.length ≤ i → (Go.Proofs.Ytjnpkcabkccaoaa.writeC d p mark cs).1.slab i = d.slab i) ∧ (∀ j c, cs[j]? = some c → (Go.Proofs.Ytjnpkcabkccaoaa.writeC d p mark cs).1.slab (p + j) = slabOf c mark)
  | [], d, p, h, _, _ => ⟨rfl, h, rfl, fun _ _ => rfl, fun j c hj => by simp at hj⟩
  | c :: l, d, p, h, hc, hp => by
    rw [List.length_cons] at hp
    obtain ⟨h0, h1, h2, h3⟩ := h.write p (by omega) (slabOf_len (hc c (by simp)) mark)
    obtain ⟨g0, g1, g2, g3, g4⟩ := Dev.Calm.writeC mark l (d.write p (slabOf c mark)).1 (p + 1) h1 (fun c hc' => hc c (by simp [hc'])) (by rw [h2]; omega)
    have e : Go.Proofs.Ytjnpkcabkccaoaa.writeC d p mark (c :: l) = Go.Proofs.Ytjnpkcabkccaoaa.writeC (d.write p (slabOf c mark)).1 ((p + 1 : Nat) : Int) mark l := by
      rw [Go.Proofs.Ytjnpkcabkccaoaa.writeC, if_neg (by rw [h0]; simp)]
      congr 1
    rw [e]
    refine ⟨g0, g1, g2.trans h2, fun i hi => ?_, fun j c' hj => ?_⟩
    · rw [List.length_cons] at hi
      rw [g3 i (by omega), h3 i, if_neg (by omega)]
    · rcases j with _ | j
      · obtain rfl : c = c' := by simpa using hj
        show (Go.Proofs.Ytjnpkcabkccaoaa.writeC _ _ mark l).1.slab p = _
        rw [g3 p (by omega), h3 p, if_pos rfl]
      · have := g4 j c' (by simpa using hj)
        rwa [show p + 1 + j = p + (j + 1) by omega] at this
theorem Dev.Calm.sync {d : Dev} (h : d.Calm) (hb : d.sync.1.Good) : d.sync.2 = 0 ∧ d.sync.1.Calm ∧ d.sync.1.kept.length = d.kept.length ∧ ∀ i, d.sync.1.slab i = d.slab i := by
  obtain ⟨ha, hst⟩ := h.after
  have e : d.sync = ({ d with kept := over d.kept d.written, written := [] }, 0) := by
    unfold Dev.sync
    rw [hst, ha]; simp
  rw [e] at hb ⊢
  refine ⟨rfl, ⟨hb, h.budget, h.down⟩, over_length _ _, fun i => ?_⟩
  rw [slab_eq, slab_eq]
  show (if i < (over d.kept d.written).length then d.seen[i]?.getD zeroS else zeroS) = _
  rw [over_length]
/-! ### What stands -/
theorem areaFrom_rows (d : Dev) (half mark : Nat) (hm : mark < 18446744073709551616) : ∀ (cs : List (List Int)) (k i : Nat), (∀ c ∈ cs, c.length ≤ 120) → cs.length ≤ k → (∀ j c, cs[j]? = some c → d.slab (half * d.room + i + j) = slabOf c mark) →
    (k = cs.length ∨ marked (d.slab (half * d.room + i + cs.length)) ≠ mark) → areaFrom d half mark k i = cs.flatMap padC
  | [], 0, i, _, _, _, _ => rfl
  | [], k + 1, i, _, _, _, he => by
    rw [areaFrom, if_neg]
    · rfl
    · rcases he with h | h
      · simp at h
      · simpa using h
  | c :: l, 0, i, _, hk, _, _ => by simp at hk
  | c :: l, k + 1, i, hc, hk, hs, he => by
    have h0 := hs 0 c rfl
    rw [Nat.add_zero] at h0
    have hcl := hc c (by simp)
    rw [areaFrom, h0, if_pos (slabOf_mark hcl mark hm), slabOf_take hcl, List.flatMap_cons]
    congr 1
    refine areaFrom_rows d half mark hm l k (i + 1) (fun c hc' => hc c (by simp [hc'])) (by simpa using hk) (fun j c' hj => ?_) ?_
    · have := hs (j + 1) c' (by simpa using hj)
      rwa [show half * d.room + i + (j + 1) = half * d.room + (i + 1) + j by omega] at this
    · rcases he with h | h
      · left; simpa using h
      · right
        rw [List.length_cons] at h
        rwa [show half * d.room + i + (l.length + 1) = half * d.room + (i + 1) + l.length by omega] at h
/-- Records that lie in a half. -/
structure Lies (d : Dev) (half gen : Nat) (rs : List (List Int)) : Prop where
  head : d.slab (half * d.room) = slabOf (sealedB gen) gen
  rows : ∀ j c, (chunksR rs 1 (sealB gen))[j]? = some c → d.slab (half * d.room + 1 + j) = slabOf c gen
  end_ : ∀ j, (chunksR rs 1 (sealB gen)).length ≤ j → 1 + j < d.room → marked (d.slab (half * d.room + 1 + j)) ≠ gen
  fit : 1 + (chunksR rs 1 (sealB gen)).length ≤ d.room
  small : ∀ b ∈ rs, b.length ≤ 100000
  gen : 1 ≤ gen ∧ gen ≤ mostGen
theorem Lies.stands {d : Dev} {half gen : Nat} {rs : List (List Int)} (h : Lies d half gen rs) : Go.Proofs.Ytjnpkcabkccaoaa.stands d half = (gen, rs) := by
  have hm : gen < 18446744073709551616 := by have := h.gen.2; unfold mostGen at this; omega
  have hl : (sealedB gen).length ≤ 120 := by rw [sealedB_len]; decide
  have hmk : marked (d.slab (half * d.room)) = gen := by rw [h.head, slabOf_mark hl gen hm]
  have ht : (d.slab (half * d.room)).take 48 = sealedB gen := by
    rw [h.head, slabOf, List.append_assoc, List.take_append_of_le_length (by rw [sealedB_len]; omega), List.take_of_length_le (by rw [sealedB_len]; omega)]
  have hh : header d half = (gen, sealB gen) := by
    unfold header
    rw [if_neg (by have := h.fit; omega), hmk, ht, if_neg]
    rintro (h1 | h1 | h1)
    · have := h.gen.1; omega
    · have := h.gen.2; omega
    · exact h1 rfl
  have ha : area d half gen = rowsR rs 1 (sealB gen) := by
    unfold area
    rw [areaFrom_rows d half gen hm (chunksR rs 1 (sealB gen)) (d.room - 1) 1 (chunksR_le _ _ _) (by have := h.fit; omega) h.rows ?_, chunksR_pad]
    by_cases he : d.room - 1 = (chunksR rs 1 (sealB gen)).length
    · exact .inl he
    · exact .inr (h.end_ _ (Nat.le_refl _) (by have := h.fit; omega))
  unfold Go.Proofs.Ytjnpkcabkccaoaa.stands
  rw [hh]
  simp only
  rw [if_neg (by have := h.gen.1; omega), ha, bodies_back rs 1 _ _ h.small ?_]
  have : ∀ (l : List (List Int)) (k : Int) (a : List Int), l.length ≤ (rowsR l k a).length := by
    intro l
    induction l with
    | nil => intro k a; simp
    | cons b l ih =>
      intro k a
      have := ih 2 (sha (a ++ recB k b))
      rw [rowsR, List.length_append, padded_len, boundB_len, List.length_cons]
      omega
  have := this rs 1 (sealB gen)
  omega
end Go.Proofs.Ytjnpkcabkccaoaa
/-
  chainlog, in plain: what begin, add, sync leave; what Open then says.
-/
namespace Go.Proofs.Ytjnpkcabkccaoaa

theorem topTo_ge (d : Dev) : ∀ k i, i < k → marked (d.slab i) ≤ topTo d k
  | k + 1, i, h => by
    rw [topTo]
    by_cases hk : i = k
    · subst hk; omega
    · have := topTo_ge d k i (by omega); omega
theorem topTo_le (d : Dev) (m : Nat) : ∀ k, (∀ i, i < k → marked (d.slab i) ≤ m) → topTo d k ≤ m
  | 0, _ => Nat.zero_le _
  | k + 1, h => by
    rw [topTo]
    have h1 := topTo_le d m k (fun i hi => h i (by omega))
    have h2 := h k (by omega)
    omega
/-- A log that was begun: what it is, what lies there. -/
structure Stand (d : Dev) (l : LogD) (rs : List (List Int)) : Prop where
  ready : l.ready = true
  half : l.half ≤ 1
  calm : d.Calm
  lies : Lies d l.half l.mark rs
  place : l.at_ = 1 + ((chunksR rs 1 (sealB l.mark)).length : Int)
  ward : l.ward = sealR rs 1 (sealB l.mark)
  some_ : rs ≠ []
  oth : ∀ i, i < d.room → marked (d.slab ((1 - l.half) * d.room + i)) < l.mark
  le : ∀ i, i < 2 * d.room → marked (d.slab i) ≤ l.mark
theorem halves (h r : Nat) (hh : h ≤ 1) : (h * r = 0 ∧ (1 - h) * r = r) ∨ (h * r = r ∧ (1 - h) * r = 0) := by
  obtain rfl | rfl : h = 0 ∨ h = 1 := by omega
  · left; simp
  · right; simp
theorem sealB_head {d : Dev} {h : Nat} (G : Nat) (hm : marked (d.slab (h * d.room)) < G) : (stands d h).1 < G := by
  have hh : (header d h).1 < G := by
    unfold header
    split
    · show 0 < G; omega
    · split
      · show 0 < G; omega
      · exact hm
  unfold stands
  split
  · show 0 < G; omega
  · exact hh
theorem Stand.opens {d : Dev} {l : LogD} {rs : List (List Int)} (h : Stand d l rs) : openL d = (l.half, rs) := by
  have hr : d.room ≠ 0 := by have := h.lies.fit; omega
  have h1 := h.lies.stands
  have hne : rs.length ≠ 0 := fun e => h.some_ (List.eq_nil_of_length_eq_zero e)
  have ho := sealB_head (h := 1 - l.half) l.mark (by have := h.oth 0 (by omega); simpa using this)
  have hh := h.half
  obtain e | e : l.half = 0 ∨ l.half = 1 := by omega
  · rw [e] at h1 ho ⊢
    rw [openL, h1, if_pos ⟨by show 0 < rs.length; omega, .inr ho⟩]
  · rw [e] at h1 ho ⊢
    have ho' : (stands d 0).1 < l.mark := ho
    rw [openL, h1, if_neg]
    rintro ⟨_, h9 | h9⟩
    · exact hne h9
    · have h8 : l.mark < (stands d 0).1 := h9
      omega
theorem Stand.top {d : Dev} {l : LogD} {rs : List (List Int)} (h : Stand d l rs) : topL d ≤ l.mark := topTo_le d _ _ h.le
theorem Dev.Calm.synced {d : Dev} (h : d.Calm) : d.sync.2 = 0 ∧ d.sync.1.Calm ∧ d.sync.1.kept.length = d.kept.length ∧ ∀ i, d.sync.1.slab i = d.slab i := by
  refine h.sync ?_
  obtain ⟨ha, hst⟩ := h.after
  have e : d.sync = ({ d with kept := over d.kept d.written, written := [] }, 0) := by
    unfold Dev.sync
    rw [hst, ha]; simp
  rw [e]
  exact h.good.synced
theorem room_of {d d' : Dev} (h : d'.kept.length = d.kept.length) : d'.room = d.room := by rw [Dev.room, Dev.room, h]
theorem Lies.same {d d' : Dev} {h G : Nat} {rs : List (List Int)} (hl : Lies d h G rs) (hr : d'.room = d.room) (hs : ∀ i, d'.slab i = d.slab i) : Lies d' h G rs :=
  ⟨by rw [hr, hs]; exact hl.head, fun j c hj => by rw [hr, hs]; exact hl.rows j c hj, fun j h1 h2 => by rw [hr, hs]; exact hl.end_ j h1 (by rwa [hr] at h2), by rw [hr]; exact hl.fit, hl.small, hl.gen⟩
theorem Stand.sync {d : Dev} {l : LogD} {rs : List (List Int)} (h : Stand d l rs) : ∃ d', syncL d l = (d', l, 0) ∧ d' = d.sync.1 ∧ Stand d' l rs ∧ d'.kept.length = d.kept.length := by
  obtain ⟨h0, h1, h2, h3⟩ := h.calm.synced
  have hr := room_of h2
  refine ⟨d.sync.1, ?_, rfl, ⟨h.ready, h.half, h1, h.lies.same hr h3, h.place, h.ward, h.some_, fun i hi => by rw [hr, h3]; exact h.oth i (by rwa [hr] at hi), fun i hi => by rw [h3]; exact h.le i (by rwa [hr] at hi)⟩, h2⟩
  rw [syncL, if_neg (by rw [h.ready]; decide), h0]
  have e : ({ l with ready := decide ((0 : Int) = 0) } : LogD) = l := by
    have h9 := h.ready
    cases l
    simp only at h9
    subst h9
    rfl
  rw [e]
theorem chunks_bound (k : Int) (b a : List Int) (h : b.length ≤ 100000) : (chunks (boundB k b a)).length = slabsN (b.length : Int) := by
  rw [chunks_count, boundB_len, slabsN_nat _ h]
theorem Stand.add {d : Dev} {l : LogD} {rs : List (List Int)} (h : Stand d l rs) (b : List Int) (hb : b.length ≤ 100000) (hfit : l.at_ + (slabsN (b.length : Int) : Int) ≤ (d.room : Int)) :
    ∃ d' l', addL d l b = (d', l', 0) ∧ d' = (writeL d l.half l.at_ (boundB 2 b l.ward) l.mark).1 ∧ Stand d' l' (rs ++ [b]) ∧ d'.kept.length = d.kept.length ∧ l'.half = l.half ∧ l'.mark = l.mark ∧ l'.at_ = l.at_ + (slabsN (b.length : Int) : Int) := by
  obtain ⟨H, hH⟩ : ∃ H, H = l.half * d.room := ⟨_, rfl⟩
  obtain ⟨O, hO⟩ : ∃ O, O = (1 - l.half) * d.room := ⟨_, rfl⟩
  have hhv := halves l.half d.room h.half
  rw [← hH, ← hO] at hhv
  obtain ⟨N, hN⟩ : ∃ N, N = (chunksR rs 1 (sealB l.mark)).length := ⟨_, rfl⟩
  obtain ⟨cs, hcs⟩ : ∃ cs, cs = chunks (boundB 2 b l.ward) := ⟨_, rfl⟩
  have hcl : cs.length = slabsN (b.length : Int) := by rw [hcs]; exact chunks_bound 2 b _ hb
  have hm : l.mark < 18446744073709551616 := by have := h.lies.gen.2; unfold mostGen at this; omega
  have hp : (l.half : Int) * (d.room : Int) + l.at_ = ((H + 1 + N : Nat) : Int) := by
    rw [h.place, hH, ← hN]; push_cast; omega
  have hpl := h.place
  rw [← hN] at hpl
  have hroom : 2 * d.room ≤ d.kept.length := by unfold Dev.room; omega
  obtain ⟨g0, g1, g2, g3, g4⟩ := Dev.Calm.writeC l.mark cs d (H + 1 + N) h.calm (by rw [hcs]; exact chunks_len _) (by omega)
  have hw : writeL d l.half l.at_ (boundB 2 b l.ward) l.mark = writeC d ((H + 1 + N : Nat) : Int) l.mark cs := by rw [writeL, hp, hcs]
  obtain ⟨d', hd'⟩ : ∃ d', d' = (writeC d ((H + 1 + N : Nat) : Int) l.mark cs).1 := ⟨_, rfl⟩
  rw [← hd'] at g1 g2 g3 g4
  have hk : d'.kept.length = d.kept.length := by rw [g2]
  have hr := room_of hk
  have hsn := chunksR_snoc rs 1 (sealB l.mark) b h.some_
  rw [← h.ward, ← hcs] at hsn
  have hmk : ∀ i, i < d.room * 2 → d'.slab i = d.slab i ∨ (H + 1 + N ≤ i ∧ i < H + 1 + N + cs.length ∧ marked (d'.slab i) = l.mark) := fun i _ => by
    by_cases hi : i < H + 1 + N ∨ H + 1 + N + cs.length ≤ i
    · exact .inl (g3 i hi)
    · obtain ⟨c, hc⟩ : ∃ c, cs[i - (H + 1 + N)]? = some c := ⟨_, List.getElem?_eq_getElem (by omega)⟩
      have h9 := g4 _ c hc
      rw [show H + 1 + N + (i - (H + 1 + N)) = i by omega] at h9
      refine .inr ⟨by omega, by omega, ?_⟩
      rw [h9, slabOf_mark (chunks_len (boundB 2 b l.ward) c (by rw [← hcs]; exact List.mem_of_getElem? hc)) _ hm]
  refine ⟨d', { l with at_ := l.at_ + (slabsN (b.length : Int) : Int), ward := sha (l.ward ++ recB 2 b) }, ?_, by rw [hw, hd'], ⟨h.ready, h.half, g1, ⟨?_, ?_, ?_, ?_, ?_, h.lies.gen⟩, ?_, ?_, by simp, ?_, ?_⟩, hk, rfl, rfl, rfl⟩
  · rw [addL, if_neg (by rw [h.ready]; decide), if_neg, hw, if_neg (by rw [g0]; simp), hd']
    rintro (h9 | h9)
    · omega
    · rw [leftL, h.ready] at h9
      simp only [if_true] at h9
      omega
  · show d'.slab (l.half * d'.room) = _
    rw [hr, ← hH, g3 H (by omega)]
    have := h.lies.head
    rwa [← hH] at this
  · intro j c hj
    have hj' : (chunksR (rs ++ [b]) 1 (sealB l.mark))[j]? = some c := hj
    rw [hsn.1] at hj'
    show d'.slab (l.half * d'.room + 1 + j) = _
    rw [hr, ← hH]
    by_cases hjN : j < N
    · rw [List.getElem?_append_left (by omega)] at hj'
      rw [g3 _ (by omega)]
      have := h.lies.rows j c hj'
      rwa [← hH] at this
    · rw [List.getElem?_append_right (by omega), ← hN] at hj'
      have := g4 _ c hj'
      rwa [show H + 1 + N + (j - N) = H + 1 + j by omega] at this
  · intro j h1 h2
    have h1' : (chunksR (rs ++ [b]) 1 (sealB l.mark)).length ≤ j := h1
    rw [hsn.1, List.length_append, ← hN] at h1'
    show marked (d'.slab (l.half * d'.room + 1 + j)) ≠ _
    rw [hr] at h2 ⊢
    rw [← hH, g3 _ (by omega)]
    have := h.lies.end_ j (by omega) h2
    rwa [← hH] at this
  · show 1 + (chunksR (rs ++ [b]) 1 (sealB l.mark)).length ≤ d'.room
    rw [hsn.1, List.length_append, ← hN, hr]
    omega
  · intro x hx
    rcases List.mem_append.1 hx with hx | hx
    · exact h.lies.small x hx
    · obtain rfl : x = b := by simpa using hx
      exact hb
  · show l.at_ + _ = 1 + ((chunksR (rs ++ [b]) 1 (sealB l.mark)).length : Int)
    rw [hsn.1, List.length_append, ← hN]
    push_cast
    omega
  · exact hsn.2.symm
  · intro i hi
    show marked (d'.slab ((1 - l.half) * d'.room + i)) < l.mark
    rw [hr] at hi ⊢
    rw [← hO, g3 _ (by omega)]
    have := h.oth i hi
    rwa [← hO] at this
  · intro i hi
    rw [hr] at hi
    rcases hmk i (by omega) with h9 | ⟨_, _, h9⟩
    · rw [h9]; exact h.le i hi
    · show marked (d'.slab i) ≤ l.mark
      omega
end Go.Proofs.Ytjnpkcabkccaoaa
/-
  chainlog, in plain: what begin leaves.
-/
namespace Go.Proofs.Ytjnpkcabkccaoaa

theorem chunks_one (b : List Int) (h0 : b ≠ []) (h : b.length ≤ 120) : chunks b = [b] := by
  rw [chunks_step b h0, List.take_of_length_le h, List.drop_of_length_le h, chunks_nil]
theorem Dev.Calm.sync_written {d : Dev} (h : d.Calm) : d.sync.1.written = [] := by
  obtain ⟨ha, hst⟩ := h.after
  unfold Dev.sync
  rw [hst, ha]; simp
theorem begin_stand {d : Dev} {l : LogD} {b : List Int} (hc : d.Calm) (hl : l.half ≤ 1) (hf : fitsB d b.length = true) (ht : topL d < mostGen) :
    ∃ d' l', beginL d l b = (d', l', 0) ∧ d' = (writeL (writeL d (1 - l.half) 0 (sealedB (topL d + 1)) (topL d + 1)).1 (1 - l.half) 1 (boundB 1 b (sealB (topL d + 1))) (topL d + 1)).1.sync.1 ∧ d'.written = [] ∧ Stand d' l' [b] ∧ d'.kept.length = d.kept.length ∧ l'.half = 1 - l.half ∧ l'.mark = topL d + 1 ∧ l'.at_ = 1 + (slabsN (b.length : Int) : Int) := by
  have hfit : b.length ≤ 100000 ∧ 1 + slabsN (b.length : Int) ≤ d.room := by
    rw [fitsB] at hf
    simp only [Bool.and_eq_true, decide_eq_true_eq] at hf
    omega
  obtain ⟨G, hG⟩ : ∃ G, G = topL d + 1 := ⟨_, rfl⟩
  rw [← hG]
  obtain ⟨h1, hh1⟩ : ∃ h1, h1 = 1 - l.half := ⟨_, rfl⟩
  have hO1 : 1 - h1 = l.half := by omega
  obtain ⟨H, hH⟩ : ∃ H, H = h1 * d.room := ⟨_, rfl⟩
  obtain ⟨O, hO⟩ : ∃ O, O = (1 - h1) * d.room := ⟨_, rfl⟩
  have hhv := halves h1 d.room (by omega)
  rw [← hH, ← hO] at hhv
  rw [← hh1]
  have hgm : 1 ≤ G ∧ G ≤ mostGen := by omega
  have hm : G < 18446744073709551616 := by have := hgm.2; unfold mostGen at this; omega
  have hroom : 2 * d.room ≤ d.kept.length := by unfold Dev.room; omega
  have hold : ∀ i, i < 2 * d.room → marked (d.slab i) < G := fun i hi => by have := topTo_ge d (2 * d.room) i hi; rw [hG, topL]; omega
  have hxl : (sealedB G).length = 48 := sealedB_len G
  have hx1 : chunks (sealedB G) = [sealedB G] := chunks_one _ (fun e => by rw [e] at hxl; simp at hxl) (by omega)
  obtain ⟨g0, g1, g2, g3, g4⟩ := Dev.Calm.writeC G [sealedB G] d H hc (fun c hc' => by rw [List.mem_singleton.1 hc']; omega) (by simp; omega)
  have hw1 : writeL d h1 0 (sealedB G) G = writeC d (H : Int) G [sealedB G] := by rw [writeL, hx1, hH]; push_cast; simp
  rw [hw1]
  obtain ⟨D1, hD1⟩ : ∃ D1, D1 = (writeC d (H : Int) G [sealedB G]).1 := ⟨_, rfl⟩
  rw [← hD1] at g1 g2 g3 g4 ⊢
  have k1 : D1.kept.length = d.kept.length := by rw [g2]
  have r1 := room_of k1
  obtain ⟨cs, hcs⟩ : ∃ cs, cs = chunks (boundB 1 b (sealB G)) := ⟨_, rfl⟩
  have hcl : cs.length = slabsN (b.length : Int) := by rw [hcs]; exact chunks_bound 1 b _ hfit.1
  obtain ⟨f0, f1, f2, f3, f4⟩ := Dev.Calm.writeC G cs D1 (H + 1) g1 (by rw [hcs]; exact chunks_len _) (by rw [k1]; omega)
  have hw2 : writeL D1 h1 1 (boundB 1 b (sealB G)) G = writeC D1 ((H + 1 : Nat) : Int) G cs := by rw [writeL, ← hcs, r1, hH]; push_cast; rfl
  rw [hw2]
  obtain ⟨D2, hD2⟩ : ∃ D2, D2 = (writeC D1 ((H + 1 : Nat) : Int) G cs).1 := ⟨_, rfl⟩
  rw [← hD2] at f1 f2 f3 f4 ⊢
  have k2 : D2.kept.length = d.kept.length := by rw [f2, k1]
  obtain ⟨s0, s1, s2, s3⟩ := f1.synced
  have sw := f1.sync_written
  obtain ⟨D3, hD3⟩ : ∃ D3, D3 = D2.sync.1 := ⟨_, rfl⟩
  rw [← hD3] at s1 s2 s3 sw ⊢
  have k3 : D3.kept.length = d.kept.length := by rw [s2, k2]
  have r3 := room_of k3
  have hfar : ∀ i, i < H ∨ H + 1 + cs.length ≤ i → D3.slab i = d.slab i := fun i hi => by
    rw [s3, f3 i (by omega), g3 i (by simp; omega)]
  have hhead : D3.slab H = slabOf (sealedB G) G := by
    rw [s3, f3 H (by omega)]
    have := g4 0 (sealedB G) rfl
    rwa [Nat.add_zero] at this
  have hrow : ∀ j c, cs[j]? = some c → D3.slab (H + 1 + j) = slabOf c G := fun j c hj => by rw [s3]; exact f4 j c hj
  have hch : chunksR [b] 1 (sealB G) = cs := by rw [chunksR, chunksR, List.append_nil, hcs]
  refine ⟨D3, ⟨h1, 1 + (slabsN (b.length : Int) : Int), G, sha (sealB G ++ recB 1 b), true⟩, ?_, rfl, sw, ⟨rfl, by show h1 ≤ 1; omega, s1, ⟨?_, ?_, ?_, ?_, ?_, hgm⟩, ?_, rfl, by simp, ?_, ?_⟩, k3, rfl, rfl, rfl⟩
  · unfold beginL
    rw [if_neg (by rw [hf]; rintro (h | h); cases h; omega)]
    simp only [← hG, ← hh1, hw1, ← hD1]
    rw [if_neg (by rw [g0]; simp), hw2, if_neg (by rw [f0]; simp), ← hD2, if_neg (by rw [s0]; simp), hD3]
  · show D3.slab (h1 * D3.room) = _
    rw [r3, ← hH]; exact hhead
  · intro j c hj
    have hj' : (chunksR [b] 1 (sealB G))[j]? = some c := hj
    rw [hch] at hj'
    show D3.slab (h1 * D3.room + 1 + j) = _
    rw [r3, ← hH]
    exact hrow j c hj'
  · intro j h9 h8
    have h9' : (chunksR [b] 1 (sealB G)).length ≤ j := h9
    rw [hch] at h9'
    show marked (D3.slab (h1 * D3.room + 1 + j)) ≠ G
    rw [r3] at h8 ⊢
    rw [← hH, hfar _ (by omega)]
    have := hold (H + 1 + j) (by omega)
    omega
  · show 1 + (chunksR [b] 1 (sealB G)).length ≤ D3.room
    rw [hch, hcl, r3]
    omega
  · intro x hx
    obtain rfl : x = b := by simpa using hx
    exact hfit.1
  · show 1 + (slabsN (b.length : Int) : Int) = 1 + ((chunksR [b] 1 (sealB G)).length : Int)
    rw [hch, hcl]
  · intro i hi
    show marked (D3.slab ((1 - h1) * D3.room + i)) < G
    rw [r3] at hi ⊢
    rw [← hO, hfar _ (by omega)]
    exact hold _ (by omega)
  · intro i hi
    rw [r3] at hi
    show marked (D3.slab i) ≤ G
    by_cases h9 : i < H ∨ H + 1 + cs.length ≤ i
    · rw [hfar i h9]
      have := hold i hi
      omega
    · by_cases h8 : i = H
      · rw [h8, hhead, slabOf_mark (by omega) _ hm]
        omega
      · obtain ⟨c, hc'⟩ : ∃ c, cs[i - (H + 1)]? = some c := ⟨_, List.getElem?_eq_getElem (by omega)⟩
        have h7 := hrow _ c hc'
        rw [show H + 1 + (i - (H + 1)) = i by omega] at h7
        rw [h7, slabOf_mark (chunks_len (boundB 1 b (sealB G)) c (by rw [← hcs]; exact List.mem_of_getElem? hc')) _ hm]
        omega
end Go.Proofs.Ytjnpkcabkccaoaa
