/-
  bynamelaw13.SlabWhole answers true. No condition.
-/
import Derived.Test.YtjipgimnhkliaaaSlabActs
namespace Go.Proofs.Ytjipgimnhkliaaa
open Go.RowKit
attribute [local go_sem ↓] mkSlab_fold eqlSlab_fold neqSlab_fold loadSlab_fold
attribute [local go_sem] mkSlab_run mkSlab_run1 guardSlab

/-- The device behind so many puts. -/
def putAll (n : Int) (xs : List ActV) : Dev := xs.foldl (fun d a => (d.write a.at_ (fullS a.v)).1) (newDev n)
theorem putAll_snoc (n : Int) (xs : List ActV) (a : ActV) : putAll n (xs ++ [a]) = ((putAll n xs).write a.at_ (fullS a.v)).1 := by simp [putAll, List.foldl_append]
theorem putAll_take (n : Int) (xs : List ActV) (j : Nat) (a : ActV) (h : xs[j]? = some a) : putAll n (xs.take (j + 1)) = ((putAll n (xs.take j)).write a.at_ (fullS a.v)).1 := by
  have hj : j < xs.length := (List.getElem?_eq_some_iff.1 h).1
  have : xs.take (j + 1) = xs.take j ++ [a] := by
    rw [List.take_succ_eq_append_getElem hj]
    congr 2
    rw [List.getElem?_eq_getElem hj] at h
    exact Option.some.inj h
  rw [this, putAll_snoc]
structure PutInv (n : Int) (k : Nat) (d : Dev) : Prop where
  ok : d.Ok
  kept : d.kept = List.replicate (newN n) zeroS
  few : d.written.length ≤ k
  live : d.down = false ∧ d.budget = -1
theorem write_put {n : Int} {k : Nat} {d : Dev} (h : PutInv n k d) (a : Int) (s : Slb) : PutInv n (k + 1) (d.write a s).1 := by
  have hst : d.stops = false := by simp [Dev.stops, h.live]
  refine ⟨h.ok.write a s, ?_, ?_, ?_⟩
  · unfold Dev.write
    split
    · rw [hst]; exact h.kept
    · exact h.kept
  · have := write_few d a s; have := h.few; omega
  · unfold Dev.write
    split
    · rw [hst]
      simp [Dev.after, hst, h.live]
    · exact h.live
theorem putAll_inv (n : Int) (xs : List ActV) : PutInv n xs.length (putAll n xs) := by
  suffices h : ∀ (l : List ActV) (d : Dev) (k : Nat), PutInv n k d → PutInv n (k + l.length) (l.foldl (fun d a => (d.write a.at_ (fullS a.v)).1) d) by
    have := h xs (newDev n) 0 ⟨newDev_ok n, rfl, by simp [newDev], rfl, rfl⟩
    simpa [putAll] using this
  intro l
  induction l with
  | nil => intro d k h; exact h
  | cons a l ih =>
    intro d k h
    rw [List.foldl_cons, List.length_cons, show k + (l.length + 1) = (k + 1) + l.length by omega]
    exact ih _ _ (write_put h _ _)
theorem lossy_whole (l : List Slb) (ws : List (Nat × Slb)) (bs : List Int) (hl : ws.length ≤ bs.length) (hb : ∀ v ∈ bs, v = 200) (hw : ∀ p ∈ ws, p.2.length = 128) (h128 : ∀ s ∈ l, s.length = 128) (hin : ∀ p ∈ ws, p.1 < l.length) :
    lossy l ws bs ws.length = over l ws := by
  suffices h : ∀ j, j ≤ ws.length → lossy l ws bs j = over l (ws.take j) by
    have := h ws.length (Nat.le_refl _)
    rwa [List.take_length] at this
  intro j
  induction j with
  | zero => intro _; rfl
  | succ j ih =>
    intro hj
    obtain ⟨p, hp⟩ : ∃ p, ws[j]? = some p := ⟨_, List.getElem?_eq_getElem (by omega)⟩
    obtain ⟨n, hn⟩ : ∃ n, bs[j]? = some n := ⟨_, List.getElem?_eq_getElem (by omega)⟩
    have hn2 := hb n (List.mem_of_getElem? hn)
    subst hn2
    have hpw := hw p (List.mem_of_getElem? hp)
    rw [over_take_succ _ _ _ _ hp, ← ih (by omega)]
    have hold : ((lossy l ws bs j)[p.1]?.getD []).length = 128 := by
      have hlt : p.1 < (lossy l ws bs j).length := by rw [lossy_length]; exact hin p (List.mem_of_getElem? hp)
      rw [List.getElem?_eq_getElem hlt]
      exact lossy_128 l ws bs h128 (fun q hq => ⟨hin q hq, hw q hq⟩) j _ (List.getElem_mem hlt)
    have e : mix p.2 ((lossy l ws bs j)[p.1]?.getD []) 200 = p.2 := by
      unfold mix
      rw [show (min (200 : Int) 128).toNat = 128 from rfl, List.take_of_length_le (by omega), List.drop_of_length_le (by omega)]
      simp
    simp [lossy, hp, hn, e]
/-- What is kept whole of all is as if it had been synced. -/
theorem whole_read {n : Int} {k : Nat} {d : Dev} (h : PutInv n k d) (hG : d.Good) (bs : List Int) (hl : d.written.length ≤ bs.length) (hb : ∀ v ∈ bs, v = 200) (i : Int) : ((d.restart bs).read i).1 = (d.sync.1.read i).1 := by
  have hst : d.stops = false := by simp [Dev.stops, h.live]
  have hlw := lossy_whole d.kept d.written bs hl hb (fun p hp => (hG.wat p hp).2) hG.k128 (fun p hp => (hG.wat p hp).1)
  have h1 : (d.restart bs).seen = over d.kept d.written := by
    have := h.ok.restart bs
    rw [this]
    show over (lossy d.kept d.written bs d.written.length) [] = _
    rw [hlw]; rfl
  have h2 : (d.restart bs).kept = over d.kept d.written := hlw
  have h3 : d.sync.1.seen = over d.kept d.written := by simp [Dev.sync, hst, Dev.after]; exact h.ok
  have h4 : d.sync.1.kept = over d.kept d.written := by simp [Dev.sync, hst]
  unfold Dev.read Dev.has
  rw [h1, h2, h3, h4]
theorem none_read {n : Int} {k : Nat} {d : Dev} (h : PutInv n k d) (i : Int) : ((d.restart []).read i).1 = ((newDev n).read i).1 := by
  have h1 : (d.restart []).seen = List.replicate (newN n) zeroS := by
    have := h.ok.restart []
    rw [this]
    show over (lossy d.kept d.written [] d.written.length) [] = _
    rw [lossy_none, h.kept]; rfl
  have h2 : (d.restart []).kept = List.replicate (newN n) zeroS := by
    show lossy d.kept d.written [] d.written.length = _
    rw [lossy_none, h.kept]
  unfold Dev.read Dev.has
  rw [h1, h2]
  rfl
end Go.Proofs.Ytjipgimnhkliaaa
