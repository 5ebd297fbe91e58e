/-
  Plain laws of the device: no program in sight.
-/
import Derived.Test.YtjipgimnhkliaaaSlabF
namespace Go.Proofs.Ytjipgimnhkliaaa

/-- What is seen is what is kept, with what was written laid over it. -/
def Dev.Ok (d : Dev) : Prop := d.seen = over d.kept d.written
def touches (ws : List (Nat × Slb)) (p : Nat) : Bool := ws.any (fun q => q.1 == p)
theorem over_untouched (l : List Slb) (ws : List (Nat × Slb)) (p : Nat) (h : touches ws p = false) : (over l ws)[p]? = l[p]? := by
  unfold over
  induction ws generalizing l with
  | nil => rfl
  | cons q ws ih =>
    simp only [touches, List.any_cons, Bool.or_eq_false_iff, beq_eq_false_iff_ne, ne_eq] at h
    rw [List.foldl_cons, ih _ (by simpa [touches] using h.2), List.getElem?_set_ne h.1]
theorem touches_take (ws : List (Nat × Slb)) (p j : Nat) (q : Nat × Slb) (h : ws[j]? = some q) : touches (ws.take (j + 1)) p = (touches (ws.take j) p || q.1 == p) := by
  have hj : j < ws.length := (List.getElem?_eq_some_iff.1 h).1
  have : ws.take (j + 1) = ws.take j ++ [q] := by
    rw [List.take_succ_eq_append_getElem hj]
    congr 2
    rw [List.getElem?_eq_getElem hj] at h
    exact Option.some.inj h
  simp [this, touches]
theorem lossy_untouched (l : List Slb) (ws : List (Nat × Slb)) (bs : List Int) (p : Nat) (j : Nat) (hj : j ≤ ws.length) (h : touches (ws.take j) p = false) : (lossy l ws bs j)[p]? = l[p]? := by
  induction j with
  | zero => rfl
  | succ j ih =>
    obtain ⟨q, hq⟩ : ∃ q, ws[j]? = some q := ⟨_, List.getElem?_eq_getElem (by omega)⟩
    rw [touches_take ws p j q hq] at h
    simp only [Bool.or_eq_false_iff, beq_eq_false_iff_ne, ne_eq] at h
    unfold lossy
    split
    · rename_i q' n hq' hn
      rw [hq] at hq'; injection hq' with e; subst e
      rw [List.getElem?_set_ne h.2]
      exact ih (by omega) h.1
    · exact ih (by omega) h.1
theorem lossy_none (l : List Slb) (ws : List (Nat × Slb)) (j : Nat) : lossy l ws [] j = l := by
  induction j with
  | zero => rfl
  | succ j ih => unfold lossy; split <;> simp_all
theorem back_get (l k : List Slb) (ws : List (Nat × Slb)) (hk : k.length = l.length) (p : Nat) (j : Nat) (hj : j ≤ ws.length) : (back l k ws j)[p]? = if touches (ws.take j) p then k[p]? else l[p]? := by
  induction j with
  | zero => simp [back, touches]
  | succ j ih =>
    obtain ⟨q, hq⟩ : ∃ q, ws[j]? = some q := ⟨_, List.getElem?_eq_getElem (by omega)⟩
    rw [touches_take ws p j q hq]
    have e : back l k ws (j + 1) = (back l k ws j).set q.1 (k[q.1]?.getD []) := by simp [back, hq]
    rw [e]
    by_cases hp : q.1 = p
    · subst hp
      simp only [beq_self_eq_true, Bool.or_true, if_true]
      by_cases hl : q.1 < l.length
      · rw [List.getElem?_set_self (by rw [back_length]; exact hl), List.getElem?_eq_getElem (by omega)]
        rfl
      · rw [List.getElem?_eq_none (by rw [List.length_set, back_length]; omega), List.getElem?_eq_none (by omega)]
    · rw [List.getElem?_set_ne hp, ih (by omega)]
      have : (q.1 == p) = false := by simpa using hp
      simp [this]
theorem back_over (l : List Slb) (ws : List (Nat × Slb)) (bs : List Int) : back (over l ws) (lossy l ws bs ws.length) ws ws.length = lossy l ws bs ws.length := by
  refine List.ext_getElem? fun p => ?_
  rw [back_get _ _ _ (by rw [lossy_length, over_length]) p _ (Nat.le_refl _), List.take_length]
  by_cases h : touches ws p = true
  · rw [if_pos h]
  · have h' : touches ws p = false := by simpa using h
    rw [if_neg h, over_untouched _ _ _ h', lossy_untouched l ws bs p ws.length (Nat.le_refl _) (by rw [List.take_length]; exact h')]
theorem newDev_ok (n : Int) : (newDev n).Ok := by simp [Dev.Ok, newDev, over]
theorem Dev.Ok.after {d : Dev} (h : d.Ok) : d.after.Ok := h
theorem Dev.Ok.limit {d : Dev} (h : d.Ok) (n : Int) : (d.limit n).Ok := h
theorem Dev.Ok.write {d : Dev} (h : d.Ok) (a : Int) (s : Slb) : (d.write a s).1.Ok := by
  unfold Dev.write
  split
  · split
    · exact h
    · show d.seen.set a.toNat s = over d.kept (d.written ++ [(a.toNat, s)])
      rw [over_snoc, h]
  · exact h
theorem Dev.Ok.sync {d : Dev} (h : d.Ok) : d.sync.1.Ok := by
  unfold Dev.sync
  split
  · exact h
  · show d.seen = over (over d.kept d.written) []
    rw [h]; rfl
theorem Dev.Ok.restart {d : Dev} (h : d.Ok) (bs : List Int) : (d.restart bs).Ok := by
  show back d.seen (lossy d.kept d.written bs d.written.length) d.written d.written.length = over (lossy d.kept d.written bs d.written.length) []
  rw [h, back_over]; rfl
/-- A device that stopped stays as it is. -/
theorem after_down {d : Dev} (h : d.down = true) : d.after = d := by
  cases d
  simp only at h
  subst h
  simp [Dev.after, Dev.stops]
theorem stops_down {d : Dev} (h : d.down = true) : d.stops = true := by simp [Dev.stops, h]
theorem sync_down {d : Dev} (h : d.down = true) : d.sync = (d, 132) := by simp [Dev.sync, stops_down h, after_down h]
theorem write_down {d : Dev} (h : d.down = true) (a : Int) (s : Slb) (hh : d.has a = true) : d.write a s = (d, 132) := by simp [Dev.write, stops_down h, after_down h, hh]
theorem read_restart_nil {d : Dev} (h : d.Ok) (a : Int) (hk : ∀ s ∈ d.kept, s = zeroS) : ((d.restart []).read a).1 = zeroS := by
  have hs := h.restart []
  unfold Dev.read
  split
  · rename_i hh
    have e : (d.restart []).seen = d.kept := by
      rw [hs]
      show over (lossy d.kept d.written [] d.written.length) [] = d.kept
      rw [lossy_none]; rfl
    rw [e]
    cases hg : d.kept[a.toNat]? with
    | none => rfl
    | some s => exact hk s (List.mem_of_getElem? hg)
  · rfl

/-! ### SlabDown: the device behind k rounds -/
def downAt (n : Int) : Nat → Dev
  | 0 => (newDev 7).limit n
  | k + 1 => ((downAt n k).write (((k : Int)) % 7) (fullS (k : Int))).1
structure DownInv (n : Int) (k : Nat) (d : Dev) : Prop where
  ok : d.Ok
  kept : d.kept = List.replicate 7 zeroS
  few : d.written.length ≤ k
  live : (k : Int) ≤ n → d.down = false ∧ d.budget = n - k
  dead : n < k → d.down = true
theorem has7 {d : Dev} (h : d.kept = List.replicate 7 zeroS) (a : Int) : d.has a = (decide (0 ≤ a) && decide (a < 7)) := by
  simp [Dev.has, h]
theorem downAt_inv (n : Int) (h0 : 0 ≤ n) (k : Nat) (hk : (k : Int) ≤ n + 1) : DownInv n k (downAt n k) := by
  induction k with
  | zero =>
    refine ⟨(newDev_ok 7).limit n, rfl, by simp [downAt, Dev.limit, newDev], fun _ => ⟨rfl, ?_⟩, fun h => by simp at h; omega⟩
    show max n (-1) = n - ((0 : Nat) : Int)
    omega
  | succ k ih =>
    have hi := ih (by omega)
    have hhas : (downAt n k).has ((k : Int) % 7) = true := by rw [has7 hi.kept]; simp; omega
    have hl := hi.live (by omega)
    by_cases hz : (k : Int) = n
    · have hst : (downAt n k).stops = true := by simp [Dev.stops, hl.2, hz]
      have e : downAt n (k + 1) = (downAt n k).after := by simp [downAt, Dev.write, hhas, hst]
      rw [e]
      refine ⟨hi.ok, hi.kept, by show (downAt n k).written.length ≤ _; have := hi.few; omega, fun h => by omega, fun _ => by simp [Dev.after, hst]⟩
    · have hst : (downAt n k).stops = false := by simp [Dev.stops, hl.1, hl.2]; omega
      have e : downAt n (k + 1) = { (downAt n k).after with seen := (downAt n k).seen.set ((k : Int) % 7).toNat (fullS (k : Int)), written := (downAt n k).written ++ [(((k : Int) % 7).toNat, fullS (k : Int))] } := by
        simp [downAt, Dev.write, hhas, hst]
      have hok : (downAt n (k + 1)).Ok := hi.ok.write _ _
      refine ⟨hok, ?_, ?_, fun h => ?_, fun h => by omega⟩
      · rw [e]; exact hi.kept
      · rw [e]; simp; exact hi.few
      · rw [e]
        refine ⟨by simp [Dev.after, hst], ?_⟩
        have hpos : 0 < (downAt n k).budget := by rw [hl.2]; omega
        have e2 : (downAt n k).after.budget = (downAt n k).budget - 1 := by simp [Dev.after, hst, hpos]
        show (downAt n k).after.budget = _
        rw [e2, hl.2]
        omega
theorem down_write (n : Int) (h0 : 0 ≤ n) (k : Nat) (hk : (k : Int) ≤ n) : ((downAt n k).write ((k : Int) % 7) (fullS (k : Int))).2 = if (k : Int) = n then 132 else 0 := by
  have hi := downAt_inv n h0 k (by omega)
  have hhas : (downAt n k).has ((k : Int) % 7) = true := by rw [has7 hi.kept]; simp; omega
  have hl := hi.live hk
  by_cases hz : (k : Int) = n
  · have hst : (downAt n k).stops = true := by simp [Dev.stops, hl.2, hz]
    rw [if_pos hz]
    simp [Dev.write, hhas, hst]
  · have hst : (downAt n k).stops = false := by simp [Dev.stops, hl.1, hl.2]; omega
    simp [Dev.write, hhas, hst, hz]
end Go.Proofs.Ytjipgimnhkliaaa
