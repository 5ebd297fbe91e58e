/-
  bynamelaw13.SlabSure: plain laws, and the walk.
-/
import Derived.Test.YtjipgimnhkliaaaSlabActs
import Derived.Test.YtjipgimnhkliaaaSlabWhole
namespace Go.Proofs.Ytjipgimnhkliaaa
open Go.RowKit
attribute [local go_sem ↓] mkSlab_fold eqlSlab_fold neqSlab_fold loadSlab_fold
attribute [local go_sem] mkSlab_run mkSlab_run1 guardSlab

def putOn (d : Dev) (xs : List ActV) : Dev := xs.foldl (fun d a => (d.write a.at_ (fullS a.v)).1) d
theorem putOn_take (d : Dev) (xs : List ActV) (j : Nat) (a : ActV) (h : xs[j]? = some a) : putOn d (xs.take (j + 1)) = ((putOn d (xs.take j)).write a.at_ (fullS a.v)).1 := by
  have hj : j < xs.length := (List.getElem?_eq_some_iff.1 h).1
  have : xs.take (j + 1) = xs.take j ++ [a] := by
    rw [List.take_succ_eq_append_getElem hj]
    congr 2
    rw [List.getElem?_eq_getElem hj] at h
    exact Option.some.inj h
  rw [this]; simp [putOn, List.foldl_append]
structure PutI (K : List Slb) (m : Nat) (d : Dev) : Prop where
  ok : d.Ok
  kept : d.kept = K
  few : d.written.length ≤ m
  live : d.down = false ∧ d.budget = -1
theorem PutI.write {K : List Slb} {m : Nat} {d : Dev} (h : PutI K m d) (a : Int) (s : Slb) : PutI K (m + 1) (d.write a s).1 := by
  have hst : d.stops = false := by simp [Dev.stops, h.live]
  refine ⟨h.ok.write a s, ?_, ?_, ?_⟩
  · unfold Dev.write
    split
    · rw [hst]; exact h.kept
    · exact h.kept
  · have := write_few d a s; have := h.few; omega
  · unfold Dev.write
    split
    · rw [hst]
      simp [Dev.after, hst, h.live]
    · exact h.live
theorem PutI.on {K : List Slb} {d : Dev} (h0 : PutI K 0 d) (xs : List ActV) : PutI K xs.length (putOn d xs) := by
  suffices h : ∀ (l : List ActV) (d : Dev) (m : Nat), PutI K m d → PutI K (m + l.length) (putOn d l) by
    simpa using h xs d 0 h0
  intro l
  induction l with
  | nil => intro d m h; exact h
  | cons a l ih =>
    intro d m h
    have e : putOn d (a :: l) = putOn (d.write a.at_ (fullS a.v)).1 l := rfl
    rw [e, List.length_cons, show m + (l.length + 1) = (m + 1) + l.length by omega]
    exact ih _ _ (h.write _ _)
theorem PutI.write2 {K : List Slb} {m : Nat} {d : Dev} (h : PutI K m d) (a : Int) (s : Slb) : (d.write a s).2 = if d.has a then 0 else 131 := by
  have hst : d.stops = false := by simp [Dev.stops, h.live]
  unfold Dev.write
  split
  · rw [hst]; rfl
  · rfl
theorem PutI.written {K : List Slb} {m : Nat} {d : Dev} (h : PutI K m d) (a : Int) (s : Slb) : (d.write a s).1.written = if d.has a then d.written ++ [(a.toNat, s)] else d.written := by
  have hst : d.stops = false := by simp [Dev.stops, h.live]
  unfold Dev.write
  split
  · rw [hst]; rfl
  · rfl
theorem PutI.synced {K : List Slb} {m : Nat} {d : Dev} (h : PutI K m d) : d.sync.2 = 0 ∧ PutI d.sync.1.kept 0 d.sync.1 ∧ d.sync.1.kept.length = K.length ∧ d.sync.1.seen = d.sync.1.kept := by
  have hst : d.stops = false := by simp [Dev.stops, h.live]
  have e : d.sync = ({ d.after with kept := over d.kept d.written, written := [] }, 0) := by simp [Dev.sync, hst]
  have hok := h.ok.sync
  refine ⟨by rw [e], ⟨hok, rfl, by rw [e]; simp, by rw [e]; simp [Dev.after, hst, h.live]⟩, by rw [e]; simp only [over_length, h.kept], ?_⟩
  have : d.sync.1.seen = over d.sync.1.kept d.sync.1.written := hok
  rw [this, e]; rfl
/-- What is there behind the loss. -/
theorem PutI.lost {K : List Slb} {m : Nat} {d : Dev} (h : PutI K m d) (bs : List Int) (p : Nat) (hp : touches d.written p = false ∨ bs = []) : ((d.restart bs).seen)[p]? = K[p]? := by
  have h1 : (d.restart bs).seen = lossy d.kept d.written bs d.written.length := by
    have := h.ok.restart bs
    rw [this]; rfl
  rw [h1, h.kept]
  rcases hp with hp | rfl
  · exact lossy_untouched _ _ _ _ _ (Nat.le_refl _) (by rw [List.take_length]; exact hp)
  · rw [lossy_none]
theorem PutI.lost_length {K : List Slb} {m : Nat} {d : Dev} (h : PutI K m d) (bs : List Int) : (d.restart bs).kept.length = K.length := by
  show (lossy d.kept d.written bs d.written.length).length = K.length
  rw [lossy_length, h.kept]
theorem touches_snoc (ws : List (Nat × Slb)) (q : Nat × Slb) (p : Nat) : touches (ws ++ [q]) p = (touches ws p || q.1 == p) := by simp [touches]
theorem read_at {d : Dev} (i : Nat) (h : i < d.kept.length) : d.read i = (d.seen[i]?.getD zeroS, 0) := by
  have hh : d.has i = true := by simp [Dev.has]; exact h
  simp [Dev.read, hh]

/-- What has been read behind i rounds. -/
def partW (l : List Slb) (i : Nat) : List Slb := l.take i ++ List.replicate (16 - i) zeroS
theorem partW_length (l : List Slb) (i : Nat) (hl : l.length = 16) (hi : i ≤ 16) : (partW l i).length = 16 := by simp [partW, hl]; omega
theorem partW_128 (l : List Slb) (i : Nat) (h : ∀ s ∈ l, s.length = 128) : ∀ s ∈ partW l i, s.length = 128 := by
  intro s hs
  rcases List.mem_append.1 hs with h1 | h1
  · exact h s (List.mem_of_mem_take h1)
  · rw [(List.mem_replicate.1 h1).2]; exact zeroS_length
theorem partW_set (l : List Slb) (i : Nat) (x : Slb) (hl : l.length = 16) (hi : i < 16) (hx : l[i]? = some x) : (partW l i).set i x = partW l (i + 1) := by
  unfold partW
  have h1 : (l.take i).length = i := by simp; omega
  rw [List.set_append_right _ _ (by omega), h1, Nat.sub_self]
  obtain ⟨m, hm⟩ : ∃ m, 16 - i = m + 1 := ⟨16 - i - 1, by omega⟩
  rw [hm, show 16 - (i + 1) = m by omega, List.replicate_succ, List.set_cons_zero]
  rw [List.take_succ_eq_append_getElem (by omega), List.append_assoc]
  have : l[i] = x := by
    rw [List.getElem?_eq_getElem (by omega)] at hx
    exact Option.some.inj hx
  rw [this]; rfl
theorem partW_all (l : List Slb) (hl : l.length = 16) : partW l 16 = l := by
  unfold partW
  rw [List.take_of_length_le (by omega)]
  simp

theorem touch_yes {K : List Slb} {m : Nat} {d : Dev} (h : PutI K m d) (i : Nat) (s : Slb) (hh : d.has i = true) (t : List Bool) (ht : t.length = 16) (htt : ∀ p, p < 16 → t[p]? = some (touches d.written p)) (hi : i < 16) :
    ∀ p, p < 16 → (t.set i true)[p]? = some (touches (d.write i s).1.written p) := by
  intro p hp
  rw [h.written, if_pos hh, touches_snoc]
  by_cases e : i = p
  · subst e
    rw [List.getElem?_set_self (by omega)]
    simp
  · rw [List.getElem?_set_ne e, htt p hp]
    simp [e]
theorem touch_no {K : List Slb} {m : Nat} {d : Dev} (h : PutI K m d) (a : Int) (s : Slb) (hh : d.has a = false) : (d.write a s).1.written = d.written := by
  rw [h.written, hh]; rfl

theorem st_drewN {w0 w : World} {b : Nat} {F : Nat → Prop} {d : Dev} (h : St w0 w b F d) (n : Nat) : St w0 (w.drewN n) b F d := ⟨h.rep, ⟨h.below.os, h.below.tape, h.below.output, h.below.size, h.below.block⟩, h.ge⟩
/-! ### The two arrays -/
theorem zero36 : (Try.prog.info? 36).map (·.zero) = some (some (.agg (rows (List.replicate 16 zeroS)).toArray)) := by kernel_rfl
theorem size36 : (Try.prog.info? 36).map (·.size) = some 2048 := by kernel_rfl
def mk36 (parts : Array (Nat × Value)) : Sem Value := Instr.build 36 parts
theorem mk36_fold (parts : Array (Nat × Value)) : Instr.build 36 parts = mk36 parts := rfl
theorem mk36_run (w : World) : (mk36 #[]).run Try.prog w = .ok (.agg (rows (List.replicate 16 zeroS)).toArray) w := by kernel_rfl
def bcells (l : List Bool) : List Value := l.map Value.bool
theorem zero39 : (Try.prog.info? 39).map (·.zero) = some (some (.agg (bcells (List.replicate 16 false)).toArray)) := by kernel_rfl
theorem size39 : (Try.prog.info? 39).map (·.size) = some 16 := by kernel_rfl
def mk39 (parts : Array (Nat × Value)) : Sem Value := Instr.build 39 parts
theorem mk39_fold (parts : Array (Nat × Value)) : Instr.build 39 parts = mk39 parts := rfl
theorem mk39_run (w : World) : (mk39 #[]).run Try.prog w = .ok (.agg (bcells (List.replicate 16 false)).toArray) w := by kernel_rfl
theorem rows_one (l : List Slb) : ∀ v ∈ rows l, v.oneCell' = true := by
  intro v hv
  simp only [rows, List.mem_flatMap] at hv
  obtain ⟨s, _, hv⟩ := hv
  exact enc_one s v hv
theorem bcells_one (l : List Bool) : ∀ v ∈ bcells l, v.oneCell' = true := by
  intro v hv
  simp only [bcells, List.mem_map] at hv
  obtain ⟨b, _, rfl⟩ := hv
  rfl
end Go.Proofs.Ytjipgimnhkliaaa
