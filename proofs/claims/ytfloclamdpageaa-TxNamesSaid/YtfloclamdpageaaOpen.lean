/-
  From a reading of the arguments to facts on memory; and the law's last step, once for all laws.
-/
import Derived.Test.YtfloclamdpageaaBase
import Derived.Test.YtfloclamdpageaaPost
import Derived.OpenShut
import Derived.Carry
import Derived.ChangeCalls
import Derived.Deep.Slices
import Derived.Deep.Fields
import Derived.Lib.SmallJoins
namespace Go.Proofs.Ytfloclamdpageaa
open Go.RowKit Go.WideShapes Go.ChangeShapes Go.ChangeAt

section
variable {H : Type} {enc : TypeId × Value → H} {P : Program}
theorem trodAll_stays (hl : laidOutB P = true) {W W' : World} (hb : Below W.heap.size W W') (sp : Nat → Bool) : ∀ (ts : List TypeId) (vs : List Value) (ds : List (DataW H)) (ps : List MemPlace),
    (∀ t ∈ ts, P.readableRec t = true ∧ t < P.types.size) → DataW.TrodAll enc P W 0 (fun _ => true) true ts vs ds ps → (∀ x ∈ ps, x.block < W.heap.size) → (∀ x ∈ ps, sp x.block = true) → DataW.TrodAll enc P W' 0 sp true ts vs ds ps
  | [], vs, ds, ps, _, h, _, _ => by
    obtain ⟨rfl, rfl, rfl⟩ := trodAll_nil h
    exact trodAll_mk0
  | t :: ts, vs, ds, ps, hr, h, hlt, hsp => by
    obtain ⟨v0, vs0, d0, ds0, p0, q0, rfl, rfl, rfl, h0, r0⟩ := trodAll_cons h
    obtain ⟨h1, h2⟩ := hr t (by simp)
    exact trodAll_cons_mk (WideElems.Trod_stays hl h1 h2 h0 (fun x hx => hb.same (hlt x (by simp [hx]))) (fun x hx => hsp x (by simp [hx])))
      (trodAll_stays hl hb sp ts vs0 ds0 q0 (fun t ht => hr t (by simp [ht])) r0 (fun x hx => hlt x (by simp [hx])) (fun x hx => hsp x (by simp [hx])))
/-- THE LAST STEP OF A LAW: it returned true, and nothing that was there has turned. -/
theorem law_post {f : Func} {s : ChangeSpec} {W W' : World} {args : Array Value} {ds gs : List (DataW H)} {before : List MemPlace} (tb : TypeId)
    (hl : laidOutB P = true) (hr : ∀ t ∈ f.params.toList, P.readableRec t = true ∧ t < P.types.size) (hvars : s.vars = [])
    (hs : ∀ ds : List (DataW H), ds.length = f.params.toList.length → s.fn H ds = { results := [.lit (.bool true)], args := ds }) (hres : f.resultTypes = #[tb]) (htb : P.underlying tb = some .bool)
    (hW : DataW.Whole enc P f.params.toList s.vars false W args.toList ds gs before) (hb : Below W.heap.size W W') :
    s.post enc P f false true false false W args (.bool true) W' := by
  have hW' := hW
  obtain ⟨p, q, hA, hV, rfl, hfz, hnd⟩ := hW
  rw [hvars] at hV
  obtain ⟨rfl, rfl⟩ := trodVars_none hV
  have hlen : ds.length = f.params.toList.length := (trodAll_length hA).2
  have e := hs (ds ++ []) (by simpa using hlen)
  simp only [List.append_nil] at e hW'
  refine post_of_below (pa := p) (pv := []) hW' ?_ ?_ ?_ (by simp) hb ?_
  · intro b sp hd
    simp only [List.append_nil, e, hres]
    exact trodAll_cons_mk (shut_bool htb _) trodAll_mk0
  · intro sp hsp
    simp only [List.append_nil, e]
    exact trodAll_stays hl hb sp _ _ _ _ hr hA (fun x hx => hW'.lt x hx) hsp
  · intro sp hsp
    rw [hvars]
    simp only [List.append_nil, e]
    rfl
  · exact ok_one hres rfl (okWide_bool_mk htb _)

/-! ### Slices -/
theorem addr_plain {w : World} {a : Addr} {v : Value} (h : w.cell? (a.add 0) = some v) : a = ⟨a.block, a.off, none⟩ := by
  have h1 : w.cell? a = some v := by simpa [Addr.add] using h
  have := World.cell?_spot h1
  cases a
  simp_all
section
variable {W : World} {fuel : Nat} {V : Value} {x : DataW H × List MemPlace} {t e : TypeId}
theorem bys_of_cells (ht : P.underlying t = some (.slice e)) (he : P.underlying e = some (.int .u8)) (hc : P.cellsOf e = 1) (h : DataW.trod enc P W 0 (fun _ => true) true fuel t [V] = some x) :
    ∃ (A : Option Addr) (n c : Nat) (bs : List Int), V = .slice A n c ∧ Bys W A n bs ∧ n ≤ c ∧ c ≤ maxLen := by
  rcases open_ints ht he hc h with ⟨hcs, _⟩ | ⟨a, len, cap, zs, hcs, _, hl, hm, hz, _, hcell, hwf⟩
  · injection hcs with hv
    exact ⟨none, 0, 0, [], hv, Bys.nil _ _, Nat.le_refl _, by simp [maxLen]⟩
  · injection hcs with hv
    simp only [if_true] at hz
    refine ⟨some a, len, cap, zs.take len, hv, ⟨by simp; omega, fun v hv => ?_, fun hn => ?_⟩, hl, hm⟩
    · have := hwf v (List.mem_of_mem_take hv)
      simp [Lit.wf, IntKind.min, IntKind.max, IntKind.signed, IntKind.bits] at this
      omega
    · have h0 := hcell 0 (by omega)
      have ha := addr_plain h0
      refine ⟨a.block, a.off, by rw [← ha], fun j v hv => ?_⟩
      rw [List.getElem?_take] at hv
      split at hv
      · rename_i hj
        have := hcell j (by omega)
        rw [ha, Addr.add_mid] at this
        rw [this]
        simp [List.getD, hv]
      · cases hv
theorem rows_of_cells (ht : P.underlying t = some (.slice e)) (s : Nat) (hs : P.cellsOf e = s) (h0 : 0 < s) (h : DataW.trod enc P W 0 (fun _ => true) true fuel t [V] = some x) :
    ∃ (A : Option Addr) (n c : Nat), V = .slice A n c ∧ n ≤ c ∧ c ≤ maxLen ∧ (0 < n → ∃ b off : Nat, A = some ⟨b, off, none⟩ ∧
      ∀ i, i < n → ∃ (cs' : List Value) (m : Nat) (y : DataW H × List MemPlace), cs'.length = s ∧ (∀ (j : Nat) (v : Value), cs'[j]? = some v → W.cell? ⟨b, off + i * s + j, none⟩ = some v) ∧ DataW.trod enc P W 0 (fun _ => true) true m e cs' = some y) := by
  rcases Go.Deep.open_slice ht h with ⟨hcs, _⟩ | ⟨a, len, cap, m, n, D, Pl, hcs, _, hl, hm, hmm, _, hi⟩
  · injection hcs with hv
    exact ⟨none, 0, 0, hv, Nat.le_refl _, by simp [maxLen], fun h => absurd h (by omega)⟩
  · injection hcs with hv
    simp only [if_true] at hmm
    subst hmm
    refine ⟨some a, len, m, hv, hl, hm, fun hn => ?_⟩
    rw [hs] at hi
    have ha : a = ⟨a.block, a.off, none⟩ := by
      obtain ⟨cs', hc, _⟩ := hi 0 (by omega)
      obtain ⟨_, hlen, hcell⟩ := World.cells?_some hc
      have := hcell 0 h0
      rw [Nat.zero_mul] at this
      have e0 : (a.add 0).add 0 = a.add 0 := by simp [Addr.add]
      rw [e0, List.getElem?_eq_getElem (by omega)] at this
      exact addr_plain this
    refine ⟨a.block, a.off, by rw [← ha], fun i hin => ?_⟩
    obtain ⟨cs', hc, ht'⟩ := hi i (by omega)
    obtain ⟨_, hlen, hcell⟩ := World.cells?_some hc
    refine ⟨cs', n, _, hlen, fun j v hv => ?_, ht'⟩
    have hj : j < cs'.length := (List.getElem?_eq_some_iff.1 hv).1
    have := hcell j (by omega)
    rw [ha, Addr.add_mid, Addr.add_mid] at this
    rw [this, hv]
theorem int_of_cells {k : IntKind} (ht : P.underlying t = some (.int k)) (h : DataW.trod enc P W 0 (fun _ => true) true fuel t [V] = some x) : ∃ n, V = .int k n ∧ (Lit.int k n).wf = true := by
  obtain ⟨n, hv, _, hw⟩ := DataW.trod_int ht h
  injection hv with hv
  exact ⟨n, hv, hw⟩
theorem wf64 {n : Int} (h : (Lit.int .i64 n).wf = true) : -9223372036854775808 ≤ n ∧ n ≤ 9223372036854775807 := by
  simp [Lit.wf, IntKind.min, IntKind.max, IntKind.signed, IntKind.bits] at h
  omega
theorem wf8 {n : Int} (h : (Lit.int .u8 n).wf = true) : 0 ≤ n ∧ n ≤ 255 := by
  simp [Lit.wf, IntKind.min, IntKind.max, IntKind.signed, IntKind.bits] at h
  omega
theorem wfu64 {n : Int} (h : (Lit.int .u64 n).wf = true) : 0 ≤ n ∧ n ≤ 18446744073709551615 := by
  simp [Lit.wf, IntKind.min, IntKind.max, IntKind.signed, IntKind.bits] at h
  omega
/-- One field of one cell. -/
theorem one_field {fs : Array Field} {xs : List (DataW H × List MemPlace)} {cs : List Value} {n : Nat} (hg : ∀ (i : Nat) (f : Field), fs[i]? = some f → DataW.trod enc P W 0 (fun _ => true) true n f.type ((cs.drop f.offset).take (P.cellsOf f.type)) = xs[i]?)
    (hlen : xs.length = fs.size) (i : Nat) (f : Field) (c : Value) (hi : fs[i]? = some f) (hc : P.cellsOf f.type = 1) (hci : cs[f.offset]? = some c) : ∃ y, DataW.trod enc P W 0 (fun _ => true) true n f.type [c] = some y := by
  have h1 := hg i f hi
  rw [hc] at h1
  have hil : i < fs.size := (Array.getElem?_eq_some_iff.1 hi).1
  rw [List.getElem?_eq_getElem (by omega)] at h1
  have hl : f.offset < cs.length := (List.getElem?_eq_some_iff.1 hci).1
  rw [List.drop_eq_getElem_cons hl] at h1
  rw [List.getElem?_eq_getElem hl] at hci
  injection hci with hci
  subst hci
  exact ⟨_, h1⟩
theorem okWide_array {r : Reach} {b0 n : Nat} {v : Value} (ht : P.underlying t = some (.array n e)) (h : Value.okWide P W r b0 t v) : ∃ cs, v = .agg cs ∧ cs.size = P.cellsOf t := by
  simp only [Value.okWide, ht] at h
  obtain ⟨cs, h1, h2, _⟩ := h
  exact ⟨cs, h1, h2⟩
theorem two_of_array {x0 x1 : Value} (ht : P.underlying t = some (.array 2 e)) (hc : P.cellsOf e = 1) (h : DataW.trod enc P W 0 (fun _ => true) true fuel t [x0, x1] = some x) :
    ∃ (m : Nat) (y0 y1 : DataW H × List MemPlace), DataW.trod enc P W 0 (fun _ => true) true m e [x0] = some y0 ∧ DataW.trod enc P W 0 (fun _ => true) true m e [x1] = some y1 := by
  obtain ⟨xs, m, _, _, _, hlen, hg⟩ := DataW.trod_array ht h
  have h0 := hg 0 (by decide)
  have h1 := hg 1 (by decide)
  rw [hc] at h0 h1
  rw [List.getElem?_eq_getElem (by omega)] at h0 h1
  exact ⟨m, _, _, h0, h1⟩
end
end
end Go.Proofs.Ytfloclamdpageaa
