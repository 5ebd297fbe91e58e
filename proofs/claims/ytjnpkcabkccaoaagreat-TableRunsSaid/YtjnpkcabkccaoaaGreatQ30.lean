/- Lemmas and walks for TableRuns, packed. -/
import Derived.Test.YtjnpkcabkccaoaaGreatQ16
import Derived.Test.YtjnpkcabkccaoaaGreatQ29
import Derived.Test.YtjnpkcabkccaoaaGreatQ23
import Derived.Test.YtjnpkcabkccaoaaGreatQ13
import Derived.Test.YtjnpkcabkccaoaaGreatQ28
import Derived.Below
import Derived.ChangeSame
import Derived.ProofKit
set_option maxRecDepth 100000
set_option maxHeartbeats 16000000
namespace Go.Proofs.YtjnpkcabkccaoaaGreat
open Go.RowKit
theorem take_rec {b : List Int} {x : Int} (hx : b[4]? = some x) (n : Nat) : b.take (5 + n) = b.take 4 ++ [x] ++ (b.drop 5).take n := by
 obtain ⟨h4, rfl⟩ := List.getElem?_eq_some_iff.1 hx
 have e1 : b.drop 4 = b[4] :: b.drop 5 := List.drop_eq_getElem_cons h4
 have e2 : b.take (5 + n) = b.take 4 ++ (b.drop 4).take (n + 1) := by rw [show 5 + n = 4 + (n + 1) by omega, List.take_add]
 rw [e2, e1, List.take_succ_cons, List.append_assoc]
 rfl
theorem rec_iff {b : List Int} (hB : Byt b) {n : Nat} (hn : num (b.take 4) = n) (hl : 37 + n ≤ b.length) (kind : Int) : recB kind ((b.drop 5).take n) = b.take (5 + n) ↔ b[4]? = some kind := by
 obtain ⟨x, hx⟩ : ∃ x, b[4]? = some x := ⟨_, List.getElem?_eq_getElem (by omega)⟩
 have hbl : ((b.drop 5).take n).length = n := by rw [List.length_take, List.length_drop]; omega
 have hd : dig n 4 = b.take 4 := by
  have h4 : (b.take 4).length = 4 := by rw [List.length_take]; omega
  have := dig_num (b.take 4) (fun y hy => hB y (List.mem_of_mem_take hy))
  rwa [hn, h4] at this
 rw [take_rec hx, recB, hbl, hd, hx]
 constructor
 ·intro h
  have h1 := List.append_inj_left h (by simp)
  have h2 := List.append_inj_right h1 rfl
  simp at h2
  rw [h2]
 ·intro h
  injection h with h
  rw [h]
theorem next_iff {b : List Int} (hB : Byt b) {n : Nat} (hn : num (b.take 4) = n) (h1 : n ≤ 100000) (hl : 37 + n ≤ b.length) (kind : Int) (ward : List Int) :
  nextR b kind ward = if boundB kind ((b.drop 5).take n) ward = b.take (37 + n) then some ((b.drop 5).take n, (b.drop (5 + n)).take 32) else none := by
 have hsp : b.take (37 + n) = b.take (5 + n) ++ (b.drop (5 + n)).take 32 := by rw [show 37 + n = (5 + n) + 32 by omega, List.take_add]
 have hrl : (recB kind ((b.drop 5).take n)).length = (b.take (5 + n)).length := by
  rw [recB_len, List.length_take, List.length_take, List.length_drop]; omega
 have hiff := rec_iff hB hn hl kind
 rw [nextR, if_neg (by omega), hn]
 by_cases hk : b[4]? = some kind
 ·have hr := hiff.2 hk
  rw [if_neg (by rintro (h | h | h); omega; exact h hk; omega)]
  by_cases hs : sha (ward ++ b.take (5 + n)) = (b.drop (5 + n)).take 32
  ·rw [if_neg (fun h => h hs), if_pos (by rw [boundB, hr, hs, hsp]), hs]
  ·rw [if_pos hs, if_neg]
   intro h
   rw [boundB, hr, hsp] at h
   exact hs (List.append_cancel_left h)
 ·rw [if_pos (.inr (.inl hk)), if_neg]
  intro h
  rw [boundB, hsp] at h
  exact hk (hiff.1 (List.append_inj_left h hrl))
theorem next_none {b : List Int} {n : Nat} (hn : num (b.take 4) = n) (h : 100000 < n ∨ b.length < 37 + n) (kind : Int) (ward : List Int) : nextR b kind ward = none := by
 rw [nextR]
 split
 ·rfl
 ·rw [hn, if_pos]
  rcases h with h | h
  ·exact .inl h
  ·exact .inr (.inr h)
theorem bodies_short {b : List Int} (h : b.length < 37) (k : Nat) (kind : Int) (ward : List Int) : bodies k b kind ward = [] := by
 cases k with
 | zero => rfl
 | succ k =>
  rw [bodies]
  split
  ·rfl
  ·rw [next_none rfl (.inr (by omega))]
theorem zeroS_mark : marked zeroS = 0 := by decide
theorem new_slab (n : Int) (i : Nat) : (newDev n).slab i = zeroS := by
 rw [slab_eq]
 split
 ·rename_i h
  have : (newDev n).seen[i]? = some zeroS := by
   have h9 : i < newN n := by simpa [newDev] using h
   simp [newDev, h9]
  rw [this]; rfl
 ·rfl
theorem new_top (n : Int) : topL (newDev n) = 0 := Nat.le_zero.1 (topTo_le _ 0 _ fun i _ => by rw [new_slab, zeroS_mark]; exact Nat.le_refl _)
theorem new_stands (n : Int) (h : Nat) : stands (newDev n) h = (0, []) := by
 have hh : (header (newDev n) h).1 = 0 := by
  unfold header
  split
  ·rfl
  ·rw [new_slab, zeroS_mark, if_pos (.inl (by decide))]
 unfold stands
 rw [if_pos hh]
theorem new_open (n : Int) : openL (newDev n) = (1, []) := by
 rw [openL, new_stands, new_stands, if_neg (by rintro ⟨h, _⟩; simp at h)]
theorem new_calm {n : Int} (h : (newDev n).Good) : (newDev n).Calm := ⟨h, rfl, rfl⟩
theorem new_bytes (n : Int) : (newDev n).Bytes :=
 ⟨fun s hs => by rw [List.eq_of_mem_replicate hs]; exact zeroS_byt, fun s hs => by rw [List.eq_of_mem_replicate hs]; exact zeroS_byt, fun p hp => by cases hp⟩
theorem LogPost.out {w : World} {g b : Nat} {F : Nat → Prop} {r : Dev × LogD × Int} {e : Ending} {w' : World} (h : LogPost w g b F r e w') (hg : g < w.heap.size) (hgF : ¬ F g) {w0 : World} (hb : Below w0.heap.size w0 w) (hF : ∀ i, F i → w0.heap.size ≤ i) (hg0 : w0.heap.size ≤ g) :
  e = .returned (.int .i64 r.2.2) ∧ ∃ F', DevRep w' b F' r.1 ∧ LogAt w' g b r.2.1 ∧ ¬ F' g ∧ g < w'.heap.size ∧ Below w0.heap.size w0 w' ∧ (∀ i, F' i → w0.heap.size ≤ i) ∧ (∀ i, F' i → F i ∨ w.heap.size ≤ i) ∧ Only (fun i => F i ∨ i = g) w w' := by
 obtain ⟨h1, F', h2, h3, h4, h5⟩ := h
 refine ⟨h1, F', h2, h3, fun hf => ?_, Nat.lt_of_lt_of_le hg h4.size, h4.under hb (fun i hi => by rcases hi with hi | hi; exact hF i hi; omega), fun i hi => ?_, h5, h4⟩
 ·rcases h5 g hf with h | h
  ·exact hgF h
  ·omega
 ·rcases h5 i hi with h | h
  ·exact hF i h
  ·have := hb.size; omega
theorem one_mark (w : World) (x : Int) (h0 : 0 ≤ x) (h1 : x ≤ 255) : Bys (w.alloc (.cells #[.int .u8 x] 5 (1, 2))) (some ⟨w.heap.size, 0, none⟩) 1 [x] :=
 ⟨rfl, fun y hy => by obtain rfl : y = x := (by simpa using hy); exact ⟨h0, h1⟩, fun _ => ⟨w.heap.size, 0, rfl, fun j v hv => by
  rw [Nat.zero_add, Joins.cell_alloc_mark_at _ _ _ _ _ _ rfl]
  cases j with
  | zero => injection hv with hv; subst hv; rfl
  | succ j => simp at hv⟩⟩
structure LogW (w0 W : World) (g b : Nat) (F : Nat → Prop) (d : Dev) (l : LogD) : Prop where
 dev : DevRep W b F d
 log : LogAt W g b l
 ng : ¬ F g
 gl : g < W.heap.size
 g0 : w0.heap.size ≤ g
 below : Below w0.heap.size w0 W
 fresh : ∀ i, F i → w0.heap.size ≤ i
theorem LogW.under {w0 W W' : World} {g b : Nat} {F : Nat → Prop} {d : Dev} {l : LogD} (h : LogW w0 W g b F d l) (hb : Below W.heap.size W W') : LogW w0 W' g b F d l :=
 ⟨h.dev.under hb, h.log.under hb, h.ng, Nat.lt_of_lt_of_le h.gl hb.size, h.g0, Below.then_ h.below hb, h.fresh⟩
theorem LogW.post {w0 W W' : World} {g b : Nat} {F : Nat → Prop} {d : Dev} {l : LogD} {r : Dev × LogD × Int} {e : Ending} (h : LogW w0 W g b F d l) (hp : LogPost W g b F r e W') :
  e = .returned (.int .i64 r.2.2) ∧ ∃ F', LogW w0 W' g b F' r.1 r.2.1 ∧ (∀ i, F' i → F i ∨ W.heap.size ≤ i) ∧ Only (fun i => F i ∨ i = g) W W' := by
 obtain ⟨h1, F', h2, h3, h4, h5, h6, h7, h8, h9⟩ := hp.out h.gl h.ng h.below h.fresh h.g0
 exact ⟨h1, F', ⟨h2, h3, h4, h5, h.g0, h6, h7⟩, h8, h9⟩
theorem writeC_kept (mark : Nat) : ∀ (cs : List (List Int)) (d : Dev) (pos : Int), (writeC d pos mark cs).1.kept.length = d.kept.length
 | [], _, _ => rfl
 | c :: l, d, pos => by
  rw [writeC]
  split
  ·exact write_kept _ _ _
  ·rw [writeC_kept mark l, write_kept]
structure Grew (d d' : Dev) (k : Nat) : Prop where
 bytes : d.Bytes → d'.Bytes
 size : d'.kept.length = d.kept.length
 many : d'.written.length ≤ d.written.length + k
theorem Grew.refl (d : Dev) (k : Nat) : Grew d d k := ⟨fun h => h, rfl, by omega⟩
theorem Grew.trans {a b c : Dev} {j k : Nat} (h : Grew a b j) (g : Grew b c k) : Grew a c (j + k) := ⟨fun x => g.bytes (h.bytes x), g.size.trans h.size, by have := h.many; have := g.many; omega⟩
theorem Grew.mono {a b : Dev} {j k : Nat} (h : Grew a b j) (hk : j ≤ k) : Grew a b k := ⟨h.bytes, h.size, by have := h.many; omega⟩
theorem Grew.room {a b : Dev} {j : Nat} (h : Grew a b j) : b.room = a.room := by rw [Dev.room, Dev.room, h.size]
theorem writeL_grew (d : Dev) (half : Nat) (at_ : Int) (b : List Int) (mark : Nat) (hb : Byt b) (hl : b.length ≤ 100037) : Grew d (writeL d half at_ b mark).1 834 := by
 have h1 := writeC_many mark (chunks b) d ((half : Int) * (d.room : Int) + at_)
 have h2 := chunks_count b
 exact ⟨fun h => writeC_bytes mark (chunks b) d _ h (chunks_byt hb), writeC_kept _ _ _ _, by rw [writeL]; omega⟩
theorem sync_grew (d : Dev) : Grew d d.sync.1 0 := by
 refine ⟨fun h => h.sync, ?_, ?_⟩
 ·unfold Dev.sync
  split
  ·rfl
  ·show (over d.kept d.written).length = _
   rw [over_length]
 ·unfold Dev.sync
  split
  ·exact Nat.le_refl _
  ·simp
theorem limit_grew (d : Dev) (n : Int) : Grew d (d.limit n) 0 := ⟨fun h => h.limit n, rfl, Nat.le_refl _⟩
theorem restart_grew (d : Dev) (bs : List Int) : Grew d (d.restart bs) 0 := ⟨fun h => h.restart bs, by show (lossy _ _ _ _).length = _; rw [lossy_length], Nat.zero_le _⟩
theorem addL_grew (d : Dev) (l : LogD) (b : List Int) (hb : Byt b) : Grew d (addL d l b).1 900 := by
 unfold addL
 split
 ·exact Grew.refl _ _
 ·split
  ·exact Grew.refl _ _
  ·rename_i h
   have h9 := (writeL_grew d l.half l.at_ (boundB 2 b l.ward) l.mark (boundB_byt (by decide) hb) (by rw [boundB_len]; omega)).mono (show 834 ≤ 900 by decide)
   simp only
   split <;> exact h9
theorem syncL_grew (d : Dev) (l : LogD) : Grew d (syncL d l).1 0 := by
 unfold syncL
 split
 ·exact Grew.refl _ _
 ·exact sync_grew d
theorem beginL_grew (d : Dev) (l : LogD) (b : List Int) (hb : Byt b) : Grew d (beginL d l b).1 1700 := by
 unfold beginL
 split
 ·exact Grew.refl _ _
 ·rename_i h
  have hf : b.length ≤ 100000 := by
   have h1 : fitsB d b.length = true := by
    cases hq : fitsB d b.length
    ·exact absurd (.inl hq) h
    ·rfl
   rw [fitsB] at h1
   simp only [Bool.and_eq_true, decide_eq_true_eq] at h1
   omega
  have g1 := writeL_grew d (1 - l.half) 0 (sealedB (topL d + 1)) (topL d + 1) (sealedB_byt _) (by rw [sealedB_len]; decide)
  have g2 := writeL_grew (writeL d (1 - l.half) 0 (sealedB (topL d + 1)) (topL d + 1)).1 (1 - l.half) 1 (boundB 1 b (sealB (topL d + 1))) (topL d + 1) (boundB_byt (by decide) hb) (by rw [boundB_len]; omega)
  simp only
  split
  ·exact g1.mono (by decide)
  ·split
   ·exact (g1.trans g2).mono (by decide)
   ·split
    ·exact ((g1.trans g2).trans (sync_grew _)).mono (by decide)
    ·exact ((g1.trans g2).trans (sync_grew _)).mono (by decide)
theorem keepL_grew (d : Dev) (l : LogD) (a b : List Int) (ha : Byt a) (hb : Byt b) : Grew d (keepL d l a b).1 2600 := by
 have h1 := addL_grew d l a ha
 unfold keepL
 simp only
 split
 ·exact (h1.trans (syncL_grew _ _)).mono (by decide)
 ·split
  ·exact h1.trans (beginL_grew _ _ _ hb)
  ·exact h1.mono (by decide)
def LogD.In (l : LogD) : Prop := 0 ≤ l.at_ ∧ l.at_ ≤ 4096
theorem openAt_in (h : Nat) : (openAt h).In := ⟨Int.le_refl 0, by show (0 : Int) ≤ 4096; decide⟩
theorem addL_in (d : Dev) (l : LogD) (b : List Int) (hl : l.In) (hr : d.room ≤ 2048) : (addL d l b).2.1.In := by
 unfold addL
 split
 ·exact hl
 ·rename_i hready
  split
  ·exact hl
  ·rename_i h
   simp only
   split
   ·exact hl
   ·refine ⟨?_, ?_⟩
    ·show 0 ≤ l.at_ + _
     have := hl.1
     omega
    ·show l.at_ + _ ≤ 4096
     have hrd : l.ready = true := by simpa using hready
     rw [leftL, hrd] at h
     simp only [if_true] at h
     omega
theorem syncL_in (d : Dev) (l : LogD) (hl : l.In) : (syncL d l).2.1.In := by
 unfold syncL
 split
 ·exact hl
 ·exact hl
theorem fits_room {d : Dev} {n : Nat} (h : fitsB d n = true) : n ≤ 100000 ∧ 1 + slabsN (n : Int) ≤ d.room := by
 rw [fitsB] at h
 simp only [Bool.and_eq_true, decide_eq_true_eq] at h
 omega
theorem beginL_in (d : Dev) (l : LogD) (b : List Int) (hl : l.In) (hr : d.room ≤ 2048) : (beginL d l b).2.1.In := by
 unfold beginL
 split
 ·exact hl
 ·rename_i h
  have h1 : fitsB d b.length = true := by
   cases hq : fitsB d b.length
   ·exact absurd (.inl hq) h
   ·rfl
  have h2 := fits_room h1
  simp only
  split
  ·exact hl
  ·split
   ·exact hl
   ·split
    ·exact hl
    ·refine ⟨?_, ?_⟩
     ·show 0 ≤ 1 + (slabsN (b.length : Int) : Int); omega
     ·show 1 + (slabsN (b.length : Int) : Int) ≤ 4096; omega
theorem keepL_in (d : Dev) (l : LogD) (a b : List Int) (hl : l.In) (hr : d.room ≤ 2048) (ha : Byt a) : (keepL d l a b).2.1.In := by
 have h1 := addL_in d l a hl hr
 have h2 := (addL_grew d l a ha).room
 unfold keepL
 simp only
 split
 ·exact syncL_in _ _ h1
 ·split
  ·exact beginL_in _ _ _ h1 (by omega)
  ·exact h1
theorem psize_bytes {l : List PairD} (h : rightB l = true) : psize l ≤ (tbytes l).1.length := by
 have key : ∀ m : List PairD, (∀ p ∈ m, p.okB = true) → psize m ≤ (m.flatMap PairD.bytes).length := by
  intro m
  induction m with
  | nil => simp [psize]
  | cons p m ih =>
   intro hm
   have h1 := ih fun q hq => hm q (by simp [hq])
   have h2 := ((okB_iff p).1 (hm p (by simp))).2.2.2
   rw [psize_cons, List.flatMap_cons, List.length_append]
   have h3 : p.key.length + p.value.length ≤ p.bytes.length := by
    unfold PairD.bytes txt
    cases hg : p.gone
    ·simp only [Bool.false_eq_true, if_false, List.length_append, List.length_cons]; omega
    ·rw [h2 hg]; simp only [if_true, List.length_append, List.length_cons, List.length_nil]; omega
   omega
 rw [tbytes, if_pos h, bytesP, List.length_append]
 have := key l (right_ok h)
 omega
def Byts (l : List PairD) : Prop := ∀ p ∈ l, Byt p.key ∧ Byt p.value
theorem txt_byt {b : List Int} (h : Byt b) : Byt (txt b) := byt_append (cnt_byt _) h
theorem bytes_byt {l : List PairD} (h : Byts l) : Byt (tbytes l).1 := by
 unfold tbytes
 split
 ·refine byt_append (cnt_byt _) fun x hx => ?_
  obtain ⟨p, hp, hx⟩ := List.mem_flatMap.1 hx
  refine (byt_append (txt_byt (h p hp).1) ?_) x hx
  split
  ·intro y hy; rw [List.mem_singleton.1 hy]; decide
  ·intro y hy
   rcases List.mem_cons.1 hy with e | hy
   ·rw [e]; decide
   ·exact txt_byt (h p hp).2 y hy
 ·exact Byt.nil
structure TableD.Ok (t : TableD) : Prop where
 log : t.log.In
 right : rightB t.pairs = true
 here : goneIn t.pairs = false
 size : psize t.pairs ≤ 300000
theorem openT_some {d : Dev} (hg : d.Good) {t : TableD} (h : (openT d).2.1 = some t) : t.Ok ∧ (openT d).2.2 = 0 := by
 unfold openT at h ⊢
 split at h
 ·cases h
 ·rename_i h0
  simp only at h ⊢
  split at h
  ·cases h
  ·rename_i h1
   rw [if_neg h0, if_neg h1]
   injection h with h
   subst h
   obtain ⟨r1, r2, r3⟩ := toldT_some d hg
   have hr : d.room ≤ 2048 := by have := hg.few; unfold Dev.room; omega
   exact ⟨⟨beginL_in _ _ _ (openAt_in _) hr, r1, r2, by show psize (toldT d).1 ≤ _; omega⟩, rfl⟩
theorem applyT_ok {d : Dev} {t : TableD} {l : List PairD} (h : t.Ok) (hr : d.room ≤ 2048) (hl : Byts l) : (applyT d t l).2.1.Ok := by
 unfold applyT
 split
 ·exact h
 ·split
  ·exact h
  ·rename_i h0
   split
   ·exact h
   ·rename_i hf
    have hf' : fitsB d (tbytes (mergeD t.pairs l)).1.length = true := by simpa using hf
    have hrl : rightB l = true := by
     cases hq : rightB l
     ·exfalso; apply h0; left; unfold tbytes; rw [hq]; simp
     ·rfl
    have hm := mergeD_right h.right hrl
    refine ⟨keepL_in _ _ _ _ h.log hr (bytes_byt hl), ?_, ?_, ?_⟩
    ·show rightB (if _ then _ else _) = true
     split
     ·exact hm
     ·exact h.right
    ·show goneIn (if _ then _ else _) = false
     split
     ·exact mergeD_here l h.here
     ·exact h.here
    ·show psize (if _ then _ else _) ≤ 300000
     split
     ·have h1 := psize_bytes hm
      have h2 := (fits_room hf').1
      omega
     ·exact h.size
theorem mergeD_byts {l c : List PairD} (h : Byts l) (k : Byts c) : Byts (mergeD l c) := fun p hp => by
 rcases mem_or _ _ _ hp with hp | hp
 ·exact h p hp
 ·exact k p hp.1
theorem applyT_grew (d : Dev) (t : TableD) (l : List PairD) (hp : Byts t.pairs) (hl : Byts l) : Grew d (applyT d t l).1 2600 := by
 unfold applyT
 split
 ·exact Grew.refl _ _
 ·split
  ·exact Grew.refl _ _
  ·split
   ·exact Grew.refl _ _
   ·exact keepL_grew _ _ _ _ (bytes_byt hl) (bytes_byt (mergeD_byts hp hl))
theorem openT_grew (d : Dev) (h : Byts (toldT d).1) : Grew d (openT d).1 1700 := by
 unfold openT
 split
 ·exact Grew.refl _ _
 ·have h1 := beginL_grew d (openAt (openL d).1) _ (bytes_byt h)
  simp only
  split
  ·exact h1
  ·exact h1
theorem results_tmp3 {P : Program} {fn : Func} {t u v : Tmp} (h : fn.results = #[.tmp t, .tmp u, .tmp v]) (tmps : Array Value) (w : World) :
  (results fn tmps).run P w = .ok (.tuple #[tmps.getD t undef, tmps.getD u undef, tmps.getD v undef]) w := by
 simp [results, h]
theorem sum_mem : ∀ (l : List (List Int)) (x : List Int), x ∈ l → x.length ≤ (l.map List.length).sum
 | y :: l, x, h => by
  rw [List.map_cons, List.sum_cons]
  rcases List.mem_cons.1 h with e | h
  ·rw [e]; omega
  ·have := sum_mem l x h; omega
def ReadTPost (w : World) (b : Nat) (d : Dev) (e : Ending) (w' : World) : Prop :=
 ∃ (g : Nat) (A : Option Addr) (k c : Nat) (xs : List PairV), e = .returned (.tuple #[.pointer (some ⟨g, 0, none⟩), .slice A k c, .int .i64 (toldT d).2]) ∧ LogAt w' g b (openAt (openL d).1) ∧ w.heap.size ≤ g ∧ g < w'.heap.size ∧
  xs.map PairV.d = (toldT d).1 ∧ k ≤ c ∧ PKeep w' (fun i => i < w.heap.size ∨ i = g) A k xs ∧ Below w.heap.size w w'
theorem read_tab (w : World) (b : Nat) (F : Nat → Prop) (d : Dev) (h : DevRep w b F d) (hb : d.Bytes) :
  Calls Tryz.prog 24 #[.pointer (some ⟨b, 0, none⟩)] w (ReadTPost w b d) := by
 have ho := hide (Open_any w b F d h hb)
 have HS := hide (openL_sum d h.good)
 clear h hb
 go_enter Tryz.func24, Tryz.ntmps24
 go_wp2_with fail
 refine ho.out.mono ?_
 rintro e w1 ⟨g, B0, img, recs, rfl, hL, hg, hgB, hB1, hb1, hcase⟩
 have L1 := hide hL
 have HG := hide (show w.heap.size ≤ g ∧ g < B0 ∧ B0 ≤ w1.heap.size from ⟨hg, hgB, hB1⟩)
 have B1 := hide hb1
 clear ho hL hg hgB hB1 hb1
 rcases hcase with ⟨he, rfl, rfl⟩ | ⟨A, n, c, R, m, dd, x, xs, rfl, rfl, he, hnc, hmd, hm3, hst⟩
 ·have HE := hide (show toldT d = ([], 0) by rw [toldT, he]; rfl)
  have hd : decide ((openL d).2 ≠ []) = false := by rw [he]; rfl
  rw [hd]
  clear he hd
  go_wp2_with fail
  refine bodyPost_ret (results_tmp3 rfl _ _) rfl ⟨g, none, 0, 0, [], by rw [HE.out]; rfl, L1.out, HG.out.1, by have := HG.out; omega, by rw [HE.out]; rfl, Nat.le_refl _, PKeep.nil _ _ _, B1.out⟩
 ·have HE := hide (show toldT d = toldL (x :: xs) by rw [toldT, he])
  have hd : decide ((openL d).2 ≠ []) = true := by rw [he]; rfl
  rw [hd]
  have HX := hide (hst w1 (Only.refl _ _)).1
  have HXS := hide (hst w1 (Only.refl _ _)).2
  have HM3 := hide hm3
  have HSM := hide (show x.length ≤ 1000000000 ∧ ∀ y ∈ xs, y.length ≤ 1000000000 by
   have h9 := HS.out
   rw [he] at h9
   exact ⟨by have := sum_mem _ x (List.mem_cons_self (a := x) (l := xs)); omega, fun y hy => by have := sum_mem _ y (List.mem_cons_of_mem x hy); omega⟩)
  clear he hd hst hm3 hnc hmd
  go_wp2_with fail
  refine (told_any w1 A n c x R m dd xs HX.out HXS.out (by rw [← HX.out.1]; exact HSM.out.1) HM3.out HSM.out.2).mono ?_
  rintro e w2 ⟨b2, A2, k, c2, us, rfl, hu, hkc, hk⟩
  have B2 := hide b2
  have HU := hide hu
  have HKC := hide hkc
  have HK := hide hk
  clear b2 hu hkc hk
  go_wp2_with fail
  refine bodyPost_ret (results_tmp3 rfl _ _) rfl ⟨g, A2, k, c2, us, by rw [HE.out]; rfl, L1.out.under B2.out, HG.out.1, by have := HG.out; have := B2.out.size; omega, by rw [HE.out]; exact HU.out, HKC.out, HK.out.mono (fun i _ hi => ?_), Below.then_ B1.out B2.out⟩
  have h1 := HG.out
  have h2 := B1.out.size
  rcases hi with hi | hi
  ·show i < w1.heap.size; omega
  ·show i < w1.heap.size; omega
section
structure TabG (H : Nat → Prop) (w0 W : World) (t g b : Nat) (F : Nat → Prop) (d : Dev) (T : TableD) (A : Option Addr) (k c : Nat) (xs : List PairV) : Prop where
 log : LogW w0 W g b F d T.log
 blk : Blk W t 62 [.pointer (some ⟨g, 0, none⟩), .pointer (some ⟨b, 0, none⟩), .slice A k c]
 nt : ¬ F t
 ne : t ≠ g
 t0 : w0.heap.size ≤ t
 keep : PKeep W (fun i => F i ∨ i = g ∨ i = t ∨ H i) A k xs
 data : xs.map PairV.d = T.pairs
 cap : k ≤ c
def TabW (H : Nat → Prop) (w0 W : World) (t g b : Nat) (F : Nat → Prop) (d : Dev) (T : TableD) : Prop := ∃ (A : Option Addr) (k c : Nat) (xs : List PairV), TabG H w0 W t g b F d T A k c xs
theorem TabG.under {H : Nat → Prop} {w0 W W' : World} {t g b : Nat} {F : Nat → Prop} {d : Dev} {T : TableD} {A : Option Addr} {k c : Nat} {xs : List PairV} (h : TabG H w0 W t g b F d T A k c xs) (hb : Below W.heap.size W W') : TabG H w0 W' t g b F d T A k c xs :=
 ⟨h.log.under hb, h.blk.under hb, h.nt, h.ne, h.t0, h.keep.under hb, h.data, h.cap⟩
theorem TabW.under {H : Nat → Prop} {w0 W W' : World} {t g b : Nat} {F : Nat → Prop} {d : Dev} {T : TableD} (h : TabW H w0 W t g b F d T) (hb : Below W.heap.size W W') : TabW H w0 W' t g b F d T := by
 obtain ⟨A, k, c, xs, h⟩ := h
 exact ⟨A, k, c, xs, h.under hb⟩
theorem TabW.other {H H' K : Nat → Prop} {w0 W W' : World} {t g b : Nat} {F : Nat → Prop} {d : Dev} {T : TableD} (h : TabW H w0 W t g b F d T) (ho : Only K W W') (hK : ∀ i, K i → H i ∧ ¬ F i ∧ i ≠ g ∧ i ≠ t ∧ w0.heap.size ≤ i) (hH : ∀ i, i < W.heap.size → H' i → H i) : TabW H' w0 W' t g b F d T := by
 obtain ⟨A, k, c, xs, h⟩ := h
 exact ⟨A, k, c, xs, ⟨h.log.dev.keep ho fun i hi hk => (hK i hk).2.1 hi, h.log.log.keep ho fun hk => (hK _ hk).2.2.1 rfl, h.log.ng, Nat.lt_of_lt_of_le h.log.gl ho.size, h.log.g0, ho.under h.log.below fun i hi => (hK i hi).2.2.2.2, h.log.fresh⟩, ho.blk h.blk fun hk => (hK _ hk).2.2.2.1 rfl, h.nt, h.ne, h.t0,
  h.keep.step (ho.mono fun i _ hk => .inr (.inr (.inr (hK i hk).1))) (fun i hi hf => by
   rcases hf with hf | hf | hf | hf
   ·exact .inl hf
   ·exact .inr (.inl hf)
   ·exact .inr (.inr (.inl hf))
   ·exact .inr (.inr (.inr (hH i hi hf)))), h.data, h.cap⟩
def TOpenPost (H : Nat → Prop) (w0 w : World) (b : Nat) (F : Nat → Prop) (r : Dev × Option TableD × Int) (e : Ending) (w' : World) : Prop :=
 ∃ F', DevRep w' b F' r.1 ∧ (∀ i, F' i → F i ∨ w.heap.size ≤ i) ∧ Only F w w' ∧ ((r.2.1 = none ∧ e = .returned (.tuple #[.pointer none, .int .i64 r.2.2])) ∨
  ∃ (T : TableD) (t g : Nat), r.2.1 = some T ∧ e = .returned (.tuple #[.pointer (some ⟨t, 0, none⟩), .int .i64 r.2.2]) ∧ w.heap.size ≤ t ∧ w.heap.size ≤ g ∧ TabW H w0 w' t g b F' r.1 T)
def mkTb (parts : Array (Nat × Value)) : Sem Value := Instr.build 62 parts
theorem mkTb_fold (parts : Array (Nat × Value)) : Instr.build 62 parts = mkTb parts := rfl
theorem mkTb_run (w : World) (x y z : Value) (hx : x.cells = #[x]) (hy : y.cells = #[y]) (hz : z.cells = #[z]) : (mkTb #[(0, x), (1, y), (2, z)]).run Tryz.prog w = .ok (.agg #[x, y, z]) w := by
 have := run_built3 (P := Tryz.prog) 62 _ _ _ 1 1 1 Tryz.underlying62 rfl rfl rfl (by kernel_rfl) (by kernel_rfl) (by kernel_rfl) (by kernel_rfl) x y z [x] [y] [z] hx hy hz rfl rfl rfl w
 rw [mkTb, this]
 rfl
theorem pairs_byts {w : World} {A : Option Addr} {k : Nat} {xs : List PairV} (h : PairsIn w A k xs) : Byts (xs.map PairV.d) := fun p hp => by
 obtain ⟨q, hq, rfl⟩ := List.mem_map.1 hp
 exact ⟨(h.2.1 q hq).key.2.1, (h.2.1 q hq).value.2.1⟩
theorem begin_eq (d : Dev) (l : LogD) (b : List Int) : ∃ d' l' e, beginL d l b = (d', l', e) := ⟨_, _, _, rfl⟩
attribute [local go_sem ↓] mkTb_fold
theorem TOpen_any (H : Nat → Prop) (w0 w : World) (b : Nat) (F : Nat → Prop) (d : Dev) (h : DevRep w b F d) (hb : d.Bytes) (hw : d.written.length ≤ 600000) (hbw : Below w0.heap.size w0 w) (hF : ∀ i, F i → w0.heap.size ≤ i) (hH : ∀ i, H i → i < w.heap.size) :
  Calls Tryz.prog 7 #[.pointer (some ⟨b, 0, none⟩)] w (TOpenPost H w0 w b F (openT d)) := by
 have hr := hide (read_tab w b F d h hb)
 have D0 := hide h
 have HB := hide hb
 have HW := hide hw
 have HBW := hide hbw
 have HF := hide hF
 have HFL := hide h.lt
 have HH := hide hH
 have HTS := hide (toldT_some d h.good)
 clear h hb hw hbw hF hH
 go_enter Tryz.func7, Tryz.ntmps7
 go_wp2_with fail
 refine hr.out.mono ?_
 rintro e w1 ⟨g, A, k, c, xs, rfl, hL, hg, hg1, hx, hkc, hk, b1⟩
 have L1 := hide hL
 have HG := hide (show w.heap.size ≤ g ∧ g < w1.heap.size from ⟨hg, hg1⟩)
 have HX := hide hx
 have HKC := hide hkc
 have HK := hide hk
 have B1 := hide b1
 have D1 := hide (D0.out.under b1)
 obtain ⟨L, er, hte⟩ : ∃ L er, toldT d = (L, er) := ⟨_, _, rfl⟩
 have HTE := hide hte
 rw [hte] at HTS HX ⊢
 have NG := hide (show ¬ F g from fun hf => by have := HFL.out g hf; omega)
 clear hr hL hg hg1 hx hkc hk b1 hte
 simp only
 by_cases h0 : er = 0
 ·subst h0
  have e1 : ((0 : Int) != 0) = false := rfl
  have hkn := HK.out.in_.1
  have HKN := hide (show k ≤ 245760 by
   have h7 := right_len HTS.out.1
   have h8 := HTS.out.2.2
   have h9 := congrArg List.length HX.out
   rw [List.length_map] at h9
   simp only at h7 h8 h9
   omega)
  have hby := hide (PBytes_any w1 A k c xs HK.out.in_ (by have := HKN.out; omega) (by rw [HX.out]; have h5 := HTS.out.2.2; show psize L ≤ _; simp only at h5; omega))
  rw [HX.out] at hby
  clear hkn
  go_wp2_with fail
  refine hby.out.mono ?_
  rintro e w2 ⟨A2, m2, c2, rfl, t2, f2⟩
  have T2 := hide t2
  have F2 := hide f2
  have B2 := hide t2.below
  have D2 := hide (D1.out.under t2.below)
  have L2 := hide (L1.out.under t2.below)
  have M2 := hide (show m2 ≤ 6000000 by
   have h5 := t2.len
   have h6 := tbytes_len L
   have h7 : L.length ≤ psize L := right_len HTS.out.1
   have h8 : psize L ≤ 245760 := HTS.out.2.2
   have h9 : (tbytes L).1.length = m2 := h5
   omega)
  clear t2 f2 hby
  go_wp2_with fail
  refine (Begin_any w2 g b F d (openAt (openL d).1) A2 m2 c2 (tbytes L).1 L2.out D2.out HB.out NG.out T2.out.bys (fun _ ad e hf => by have h5 := F2.out ad e; have h6 : ad.block = g := hf; have := HG.out.2; omega) (by have := M2.out; omega) (by have := HW.out; omega)).mono ?_
  rintro e w3 ⟨rfl, F', hD3, hL3, o3, hF3⟩
  have HEQ := hide (show openT d = if (beginL d (openAt (openL d).1) (tbytes L).1).2.2 ≠ 0 then ((beginL d (openAt (openL d).1) (tbytes L).1).1, none, (beginL d (openAt (openL d).1) (tbytes L).1).2.2) else ((beginL d (openAt (openL d).1) (tbytes L).1).1, some ⟨(beginL d (openAt (openL d).1) (tbytes L).1).2.1, L⟩, 0) by
   rw [openT, HTE.out]; rfl)
  obtain ⟨d', l', e', hbe⟩ := begin_eq d (openAt (openL d).1) (tbytes L).1
  rw [hbe] at HEQ hD3 hL3 ⊢
  simp only at HEQ hD3 hL3 ⊢
  have D3 := hide hD3
  have L3 := hide hL3
  have O3 := hide o3
  have FF := hide (show ∀ i, F' i → F i ∨ w.heap.size ≤ i from fun i hi => by
   rcases hF3 i hi with h9 | h9
   ·exact .inl h9
   ·right; have h7 := B1.out.size; have h8 := B2.out.size; omega)
  have FF2 := hide hF3
  have OW := hide (show Only F w w3 from ((Only.of_below B1.out F).trans (Only.of_below B2.out F) (fun _ _ h => h)).trans o3 (fun i hi hf => by
   rcases hf with hf | hf
   ·exact hf
   ·have := HG.out.1; omega))
  clear hbe hD3 hL3 o3 hF3
  by_cases he : e' = 0
  ·subst he
   have hmk := mkTb_run w3 (.pointer (some ⟨g, 0, none⟩)) (.pointer (some ⟨b, 0, none⟩)) (.slice A k c) rfl rfl rfl
   obtain ⟨w4, hw4⟩ : ∃ z, z = w3.alloc (.cells #[.pointer (some ⟨g, 0, none⟩), .pointer (some ⟨b, 0, none⟩), .slice A k c] 62) := ⟨_, rfl⟩
   have B4 := hide (show Below w3.heap.size w3 w4 by rw [hw4]; exact below_alloc (Below.refl _ _) _)
   have K4 := hide (show Blk w4 w3.heap.size 62 [.pointer (some ⟨g, 0, none⟩), .pointer (some ⟨b, 0, none⟩), .slice A k c] by rw [hw4]; exact Blk.new w3 _ _)
   go_wp2_with fail
   go_ret2
   rw [← hw4]
   have HQ : openT d = (d', some ⟨l', L⟩, 0) := by rw [HEQ.out]; simp
   rw [HQ]
   have h7 := OW.out.size
   have h8 := B1.out.size
   have h9 := B2.out.size
   have hlt := D3.out.lt
   refine ⟨F', D3.out.under B4.out, FF.out, OW.out.trans (Only.of_below B4.out F) (fun _ _ h => h), .inr ⟨⟨l', L⟩, w3.heap.size, g, rfl, rfl, h7, HG.out.1, A, k, c, xs, ?_, K4.out, fun hf => by have := hlt _ hf; omega, by have := HG.out; have := O3.out.size; omega, by have := HBW.out.size; omega, ?_, HX.out, HKC.out⟩⟩
   ·refine ⟨D3.out.under B4.out, L3.out.under B4.out, fun hf => ?_, by have := HG.out; have := O3.out.size; have := B4.out.size; omega, by have := HG.out; have := HBW.out.size; omega, ?_, fun i hi => ?_⟩
    ·rcases FF2.out g hf with h6 | h6
     ·exact NG.out h6
     ·have := HG.out.2; omega
    ·exact (HBW.out.trans (OW.out.below HBW.out.size (fun i hi hf => by have := HF.out i hf; omega))).trans (B4.out.mono (by have := HBW.out.size; omega))
    ·rcases FF.out i hi with h6 | h6
     ·exact HF.out i h6
     ·have := HBW.out.size; omega
   ·refine ((HK.out.under B2.out).step (O3.out.mono (G := fun i => i < w.heap.size ∨ i = g) (fun i _ hf => ?_)) (G := fun i => F' i ∨ i = g ∨ i = w3.heap.size ∨ H i) (fun i hi hf => ?_)).under B4.out
    ·rcases hf with hf | hf
     ·exact .inl (HFL.out i hf)
     ·exact .inr hf
    ·rcases hf with hf | hf | hf | hf
     ·rcases FF2.out i hf with h6 | h6
      ·exact .inl (HFL.out i h6)
      ·omega
     ·exact .inr hf
     ·have := O3.out.size
      omega
     ·exact .inl (HH.out i hf)
  ·have e1 : (e' != 0) = true := by simpa using he
   go_wp2_with fail
   go_ret2
   have HQ : openT d = (d', none, e') := by rw [HEQ.out]; simp [he]
   rw [HQ]
   exact ⟨F', D3.out, FF.out, OW.out, .inl ⟨rfl, rfl⟩⟩
 ·have e1 : (er != 0) = true := by simpa using h0
  have HQ := hide (show openT d = (d, none, er) by rw [openT, HTE.out]; simp [h0])
  clear h0
  go_wp2_with fail
  go_ret2
  rw [HQ.out]
  exact ⟨F, D1.out, fun i h => .inl h, Only.of_below B1.out F, .inl ⟨rfl, rfl⟩⟩
end
def pA : PairD := ⟨[97], [49], false⟩
theorem told_new (n : Int) : toldT (newDev n) = ([], 0) := by rw [toldT, new_open]; rfl
theorem Dev.Calm.again {d : Dev} (h : d.Calm) (hw : d.written = []) : d.restart [] = d := by
 obtain ⟨_, hb, hd⟩ := h
 cases d with
 | mk k s w b dn =>
  simp only at hb hd hw
  subst hb; subst hd; subst hw
  rfl
theorem table_alive : ∃ (d1 d2 d3 : Dev) (l1 l2 l3 : LogD), openT (newDev 20) = (d1, some ⟨l1, []⟩, 0) ∧ applyT d1 ⟨l1, []⟩ [pA] = (d2, ⟨l2, [pA]⟩, 0) ∧ d2.restart [] = d2 ∧ openT d2 = (d3, some ⟨l3, [pA]⟩, 0) ∧ l3.ready = true := by
 have hgood := newDev_good 20
 have hc0 := new_calm hgood
 have hr0 : (newDev 20).room = 10 := rfl
 have hb0 : (tbytes []).1 = [0] := by decide
 obtain ⟨d1, l1, e1, _, hw1, st1, hk1, hh1, hm1, ha1⟩ := begin_stand (d := newDev 20) (l := openAt 1) (b := (tbytes []).1) hc0 (by decide) (by rw [hb0]; decide) (by rw [new_top]; decide)
 have hr1 : d1.room = 10 := by rw [room_of hk1, hr0]
 have ho1 : openT (newDev 20) = (d1, some ⟨l1, []⟩, 0) := by
  rw [openT, told_new, new_open]
  simp only
  rw [e1]
  simp
 have hcb : (tbytes [pA]).1 = [1, 1, 97, 1, 1, 49] := by decide
 have hc2 : (tbytes [pA]).2 = 0 := by decide
 have hmg : mergeD [] [pA] = [pA] := by rw [mergeD, mergeD]; rfl
 obtain ⟨d2, l2, e2, _, st2, hk2, hh2, hm2, ha2⟩ := st1.add (tbytes [pA]).1 (by rw [hcb]; decide) (by rw [ha1, hr1, hcb, hb0]; decide)
 obtain ⟨d3, e3, hd3, st3, hk3⟩ := st2.sync
 have hr2 : d2.room = 10 := by rw [room_of hk2, hr1]
 have hr3 : d3.room = 10 := by rw [room_of hk3, hr2]
 have hw3 : d3.written = [] := by rw [hd3]; exact st2.calm.sync_written
 have hkp : keepL d1 l1 (tbytes [pA]).1 (tbytes [pA]).1 = (d3, l2, 0) := by
  unfold keepL
  simp only [e2, if_true]
  exact e3
 have hap : applyT d1 ⟨l1, []⟩ [pA] = (d3, ⟨l2, [pA]⟩, 0) := by
  unfold applyT
  simp only [hmg]
  rw [if_neg (by rw [st1.ready]; decide), if_neg (by rw [hc2]; simp), if_neg (by rw [fitsB, hr1, hcb]; decide), hkp]
  simp
 have hop : openL d3 = (l2.half, [(tbytes []).1] ++ [(tbytes [pA]).1]) := st3.opens
 have hpa : parseP (tbytes []).1 = some [] := parse_back [] rfl (by decide)
 have hpb : parseP (tbytes [pA]).1 = some [pA] := parse_back [pA] (by decide) (by decide)
 have hto : toldT d3 = ([pA], 0) := by
  rw [toldT, hop]
  show toldL ((tbytes []).1 :: [(tbytes [pA]).1]) = _
  have e : toldL ((tbytes []).1 :: [(tbytes [pA]).1]) = match parseP (tbytes []).1 with | none => ([], 151) | some l => if goneIn l then ([], 151) else orErr (toldR l [(tbytes [pA]).1]) := rfl
  rw [e, hpa]
  simp only
  rw [if_neg (by decide), toldR, hpb]
  simp only
  rw [hmg, toldR]
  rfl
 have hmk : topL d3 < mostGen := by
  have h1 := st3.top
  rw [hm2, hm1, new_top] at h1
  have h2 : (1 : Nat) < mostGen := by decide
  omega
 obtain ⟨d4, l4, e4, _, _, st4, _, _, _, _⟩ := begin_stand (d := d3) (l := openAt l2.half) (b := (tbytes [pA]).1) st3.calm st3.half (by rw [fitsB, hr3, hcb]; decide) hmk
 refine ⟨d1, d3, d4, l1, l2, l4, ho1, hap, st3.calm.again hw3, ?_, st4.ready⟩
 rw [openT, hto, hop]
 simp only
 rw [e4]
 simp
end Go.Proofs.YtjnpkcabkccaoaaGreat
namespace Go.Proofs.YtjnpkcabkccaoaaGreat
open Go.RowKit Go.WideShapes Go.ChangeShapes
section
variable {H : Type} {enc : TypeId × Value → H} {P : Program}
theorem post_of_below {f : Func} {s : ChangeSpec} {apart fresh handsOn again : Bool} {W W' : World} {args : Array Value} {v : Value} {ds gs : List (DataW H)} {before pa pv : List MemPlace}
  (hW : DataW.Whole enc P f.params.toList s.vars apart W args.toList ds gs before)
  (hres : ∀ (b : Nat) (sp : Nat → Bool) (hd : Bool), DataW.TrodAll enc P W' b sp hd f.resultTypes.toList (v.resultList f.resultTypes.size) (s.fn H (ds ++ gs)).results [])
  (hargs : ∀ sp : Nat → Bool, (∀ p ∈ before, sp p.block = true) → DataW.TrodAll enc P W' 0 sp true f.params.toList args.toList (s.fn H (ds ++ gs)).args pa)
  (hvars : ∀ sp : Nat → Bool, (∀ p ∈ before, sp p.block = true) → DataW.TrodVars enc P W' sp s.vars (s.fn H (ds ++ gs)).vars pv)
  (hps : before = pa ++ pv) (hb : Below W.heap.size W W')
  (hok : ∀ (j : Nat) (t : TypeId) (r : Value), f.resultTypes[j]? = some t → (v.resultList f.resultTypes.size)[j]? = some r → Value.okWide P W' .any 0 t r) :
  s.post enc P f apart fresh handsOn again W args v W' := by
 have hlt : ∀ p ∈ before, p.block < W.heap.size := fun p hp => hW.lt p hp
 have hold : ∀ p ∈ before, (fun b => decide (b < W.heap.size)) p.block = true := fun p hp => by simpa using hlt p hp
 refine ⟨ds, gs, before, [], pa, pv, hW, hres _ _ _, hargs _ hold, hvars _ hold, World.keptBut_mono (fun p hp => ⟨hp, ?_⟩) (hb.frame (· ∈ before)), fun _ => ?_⟩
 ·rw [hps, List.mem_append] at hp
  exact Or.inr hp
 ·obtain ⟨_, _, _, _, _, hz, hn⟩ := hW
  refine ⟨hok, _, _, ([] ++ pa) ++ pv, ⟨[] ++ pa, pv, trodAll_append (hargs _ (fun _ _ => rfl)) (hres _ _ _), hvars _ (fun _ _ => rfl), rfl, ?_, ?_⟩, ?_⟩
  ·intro b off hp
   have hin : MemPlace.cell b off ∈ before := by rw [hps]; simpa using hp
   rw [hb.frozen (hlt _ hin)]
   exact hz b off hin
  ·intro ha
   have := hn ha
   rw [hps] at this
   simpa using this
  ·intro p hp _
   rw [hps]
   simpa using hp
end
end Go.Proofs.YtjnpkcabkccaoaaGreat
